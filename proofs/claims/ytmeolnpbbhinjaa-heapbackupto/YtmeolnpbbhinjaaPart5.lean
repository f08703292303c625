/- A calculus of plain values for the model's code, what the code of each function asks (computed by the kernel), contracts of the functions, and plain laws (part 5). No conditions. -/
import Derived.Test.YtmeolnpbbhinjaaPart4
import Derived.Test.YtmeolnpbbhinjaaShelf
set_option maxRecDepth 100000
open Go Go.Proofs
namespace Go.AM
/-- lambent/term.Vars$1 -/
def lv42 : List (Nat × List Nat) := []
theorem v42 (u_0 : Int) (u_1 : List UInt8) (u_2 : Int) (u_3 : List (List FV)) (a1 : Int) (r : TV) (Hs' : List AObj) : vcE Try.prog sh lv42 42 [(.agg [(.a (.fz (.int .i64 u_0))), (.a (.fz (.str u_1))), (.a (.fz (.int .i64 u_2))), (.a (.fz (.sl false 4 u_3)))]), (.c (.a (.fz (.int .i64 a1)))), (.c (.a (.ep 0 1 0 0)))] [(.arr 1 [[(.a (.fz .nils))]])] (fun r0 Hs0 => TV.Le r0 r ∧ Hs0 = Hs') (RPt Try.prog 42 1 r Hs') =
    (br ((u_0 : Int) == (4 : Int)) (∃ b1 : Bool, ((AC Try.prog 43 [(.c (.a (.fz .nils))), (.c (.a (.fz (.int .i64 u_2))))] [] (.c (.a (.fz (.bool b1)))) []) ∧ (br (!b1) ((1 ≤ 1) ∧ ((roomB 1 8) ∧ (TV.Le (.tup []) r ∧ [(.arr 1 [[(.a (.osl 1 1 0 1))]]), (.arz 1 [[(.int .i64 u_2)]])] = Hs'))) (TV.Le (.tup []) r ∧ [(.arr 1 [[(.a (.fz .nils))]])] = Hs')))) (TV.Le (.tup []) r ∧ [(.arr 1 [[(.a (.fz .nils))]])] = Hs')) := by kernel_rfl
/-- lambent/term.within -/
def lv67 : List (Nat × List Nat) := []
theorem v67 (t_0 : Int) (t_1 : List UInt8) (t_2 : Int) (t_3 : List (List FV)) (r : TV) (Hs' : List AObj) : vcE Try.prog sh lv67 67 [(.agg [(.a (.fz (.int .i64 t_0))), (.a (.fz (.str t_1))), (.a (.fz (.int .i64 t_2))), (.a (.fz (.sl false 4 t_3)))])] [] (fun r0 Hs0 => TV.Le r0 r ∧ Hs0 = Hs') (RPt Try.prog 67 0 r Hs') =
    (br ((t_0 : Int) == (5 : Int)) (TV.Le (.tup [(false, [(.a (.fz (.sl false 4 t_3)))]), (false, [(.a (.fz (.int .i64 (1 : Int))))])]) r ∧ [] = Hs') (br ((t_0 : Int) == (6 : Int)) (TV.Le (.tup [(false, [(.a (.fz (.sl false 4 t_3)))]), (false, [(.a (.fz (.int .i64 (0 : Int))))])]) r ∧ [] = Hs') (TV.Le (.tup [(false, [(.a (.fz .nils))]), (false, [(.a (.fz (.int .i64 (0 : Int))))])]) r ∧ [] = Hs'))) := by kernel_rfl
/-- lambent/term.each -/
theorem v41_F42_i1 (t_0 : Int) (t_1 : List UInt8) (t_2 : Int) (t_3 : List (List FV)) (k : Int) (o0_0l : Nat) (o1 : List (List FV)) (r : TV) (Hs' : List AObj) : vcE Try.prog sh lv41 41 [(.agg [(.a (.fz (.int .i64 t_0))), (.a (.fz (.str t_1))), (.a (.fz (.int .i64 t_2))), (.a (.fz (.sl false 4 t_3)))]), (.c (.a (.fz (.int .i64 k)))), (.c (.fn (.func 42) [] [(false, [(.ep 0 1 0 0)])]))] [(.arr 1 [[(.a (.osl 1 1 0 o0_0l))]]), (.arz 1 o1)] (fun r0 Hs0 => TV.Le r0 r ∧ Hs0 = Hs') (RPt Try.prog 41 2 r Hs') =
    (br ((t_0 : Int) != (5 : Int)) (br ((t_0 : Int) != (6 : Int)) ((∃ _ : Unit, ((AC Try.prog 42 [(.agg [(.a (.fz (.int .i64 t_0))), (.a (.fz (.str t_1))), (.a (.fz (.int .i64 t_2))), (.a (.fz (.sl false 4 t_3)))]), (.c (.a (.fz (.int .i64 k)))), (.c (.a (.ep 0 1 0 0)))] [(.arr 1 [[(.a (.osl 1 1 0 o0_0l))]]), (.arz 1 o1)] (.tup []) [(.arr 1 [[(.a (.fz .nils))]])]) ∧ (TV.Le (.tup []) r ∧ [(.arr 1 [[(.a (.fz .nils))]]), (.arz 1 o1)] = Hs'))) ∨ ((∃ z2 : Nat × List (List FV), ((AC Try.prog 42 [(.agg [(.a (.fz (.int .i64 t_0))), (.a (.fz (.str t_1))), (.a (.fz (.int .i64 t_2))), (.a (.fz (.sl false 4 t_3)))]), (.c (.a (.fz (.int .i64 k)))), (.c (.a (.ep 0 1 0 0)))] [(.arr 1 [[(.a (.osl 1 1 0 o0_0l))]]), (.arz 1 o1)] (.tup []) [(.arr 1 [[(.a (.osl 1 1 0 z2.1))]]), (.arz 1 z2.2)]) ∧ (TV.Le (.tup []) r ∧ [(.arr 1 [[(.a (.osl 1 1 0 z2.1))]]), (.arz 1 z2.2)] = Hs'))) ∨ (∃ z3 : Nat × List (List FV), ((AC Try.prog 42 [(.agg [(.a (.fz (.int .i64 t_0))), (.a (.fz (.str t_1))), (.a (.fz (.int .i64 t_2))), (.a (.fz (.sl false 4 t_3)))]), (.c (.a (.fz (.int .i64 k)))), (.c (.a (.ep 0 1 0 0)))] [(.arr 1 [[(.a (.osl 1 1 0 o0_0l))]]), (.arz 1 o1)] (.tup []) [(.arr 1 [[(.a (.osl 2 1 0 z3.1))]]), .gone, (.arz 1 z3.2)]) ∧ (TV.Le (.tup []) r ∧ [(.arr 1 [[(.a (.osl 2 1 0 z3.1))]]), .gone, (.arz 1 z3.2)] = Hs'))))) (∃ y4 : FV, (∃ n5 : Int, ((AC Try.prog 67 [(.agg [(.a (.fz (.int .i64 t_0))), (.a (.fz (.str t_1))), (.a (.fz (.int .i64 t_2))), (.a (.fz (.sl false 4 t_3)))])] [] (.tup [(false, [(.a (.fz y4))]), (false, [(.a (.fz (.int .i64 n5)))])]) []) ∧ ((FV.isSl 4 y4 = true) ∧ (RPt Try.prog 41 2 r Hs' 1 ⟨[(1, (.c (.a (.fz (.int .i64 k))))), (2, (.c (.fn (.func 42) [] [(false, [(.ep 0 1 0 0)])]))), (7, (.c (.a (.fz (.int .i64 n5))))), (27, (.c (.a (.fz y4)))), (28, (.c (.a (.fz (.int .i64 (((List.length (FV.ses y4)) : Nat) : Int)))))), (29, (.c (.a (.fz (.int .i64 (0 : Int))))))], [(0, (.arr 1 [[(.a (.osl 1 1 0 o0_0l))]])), (1, (.arz 1 o1))], 2⟩)))))) (∃ y6 : FV, (∃ n7 : Int, ((AC Try.prog 67 [(.agg [(.a (.fz (.int .i64 t_0))), (.a (.fz (.str t_1))), (.a (.fz (.int .i64 t_2))), (.a (.fz (.sl false 4 t_3)))])] [] (.tup [(false, [(.a (.fz y6))]), (false, [(.a (.fz (.int .i64 n7)))])]) []) ∧ ((FV.isSl 4 y6 = true) ∧ (RPt Try.prog 41 2 r Hs' 1 ⟨[(1, (.c (.a (.fz (.int .i64 k))))), (2, (.c (.fn (.func 42) [] [(false, [(.ep 0 1 0 0)])]))), (7, (.c (.a (.fz (.int .i64 n7))))), (27, (.c (.a (.fz y6)))), (28, (.c (.a (.fz (.int .i64 (((List.length (FV.ses y6)) : Nat) : Int)))))), (29, (.c (.a (.fz (.int .i64 (0 : Int))))))], [(0, (.arr 1 [[(.a (.osl 1 1 0 o0_0l))]])), (1, (.arz 1 o1))], 2⟩)))))) := by kernel_rfl
theorem v41_F42_i1_1a (x1 : Int) (x7 : Int) (x27 : FV) (x28 : Int) (x29 : Int) (h0_0l : Nat) (h1 : List (List FV)) (r : TV) (Hs' : List AObj) : vcP Try.prog sh lv41 41 2 (fun r0 Hs0 => TV.Le r0 r ∧ Hs0 = Hs') (RPt Try.prog 41 2 r Hs') 1 ⟨[(1, (.c (.a (.fz (.int .i64 x1))))), (2, (.c (.fn (.func 42) [] [(false, [(.ep 0 1 0 0)])]))), (7, (.c (.a (.fz (.int .i64 x7))))), (27, (.c (.a (.fz x27)))), (28, (.c (.a (.fz (.int .i64 x28))))), (29, (.c (.a (.fz (.int .i64 x29)))))], [(0, (.arr 1 [[(.a (.osl 1 1 0 h0_0l))]])), (1, (.arz 1 h1))], 2⟩ =
    (br (decide ((x29 : Int) < x28)) (((FV.isSl 4 x27 = true) ∧ ((0 ≤ x29) ∧ ((x29 < (((List.length (FV.ses x27)) : Nat) : Int)) ∧ (((rE (List.getD (FV.ses x27) (Int.toNat x29) [])) : List FV) = (List.getD (FV.ses x27) (Int.toNat x29) []))))) ∧ ((∃ z1 : Int, ((AC Try.prog 41 [(aE (List.getD (FV.ses x27) (Int.toNat x29) [])), (.c (.a (.fz (.int .i64 (IntKind.wrap .i64 (x1 + x7)))))), (.c (.fn (.func 42) [] [(false, [(.ep 0 1 0 0)])]))] [(.arr 1 [[(.a (.osl 1 1 0 h0_0l))]]), (.arz 1 h1)] (.tup []) [(.arr 1 [[(.a (.fz (.int .i64 z1)))]])]) ∧ (RPt Try.prog 41 2 r Hs' 1 ⟨[(1, (.c (.a (.fz (.int .i64 x1))))), (2, (.c (.fn (.func 42) [] [(false, [(.ep 0 1 0 0)])]))), (7, (.c (.a (.fz (.int .i64 x7))))), (27, (.c (.a (.fz x27)))), (28, (.c (.a (.fz (.int .i64 x28))))), (29, (.c (.a (.fz (.int .i64 (IntKind.wrap .i64 (x29 + (1 : Int))))))))], [(0, (.arr 1 [[(.a (.fz (.int .i64 z1)))]])), (1, (.arz 1 h1))], 2⟩))) ∨ ((∃ _ : Unit, ((AC Try.prog 41 [(aE (List.getD (FV.ses x27) (Int.toNat x29) [])), (.c (.a (.fz (.int .i64 (IntKind.wrap .i64 (x1 + x7)))))), (.c (.fn (.func 42) [] [(false, [(.ep 0 1 0 0)])]))] [(.arr 1 [[(.a (.osl 1 1 0 h0_0l))]]), (.arz 1 h1)] (.tup []) [(.arr 1 [[(.a (.fz .nils))]])]) ∧ (RPt Try.prog 41 2 r Hs' 1 ⟨[(1, (.c (.a (.fz (.int .i64 x1))))), (2, (.c (.fn (.func 42) [] [(false, [(.ep 0 1 0 0)])]))), (7, (.c (.a (.fz (.int .i64 x7))))), (27, (.c (.a (.fz x27)))), (28, (.c (.a (.fz (.int .i64 x28))))), (29, (.c (.a (.fz (.int .i64 (IntKind.wrap .i64 (x29 + (1 : Int))))))))], [(0, (.arr 1 [[(.a (.fz .nils))]])), (1, (.arz 1 h1))], 2⟩))) ∨ ((∃ z3 : Nat × List (List FV), ((AC Try.prog 41 [(aE (List.getD (FV.ses x27) (Int.toNat x29) [])), (.c (.a (.fz (.int .i64 (IntKind.wrap .i64 (x1 + x7)))))), (.c (.fn (.func 42) [] [(false, [(.ep 0 1 0 0)])]))] [(.arr 1 [[(.a (.osl 1 1 0 h0_0l))]]), (.arz 1 h1)] (.tup []) [(.arr 1 [[(.a (.osl 1 1 0 z3.1))]]), (.arz 1 z3.2)]) ∧ (RPt Try.prog 41 2 r Hs' 1 ⟨[(1, (.c (.a (.fz (.int .i64 x1))))), (2, (.c (.fn (.func 42) [] [(false, [(.ep 0 1 0 0)])]))), (7, (.c (.a (.fz (.int .i64 x7))))), (27, (.c (.a (.fz x27)))), (28, (.c (.a (.fz (.int .i64 x28))))), (29, (.c (.a (.fz (.int .i64 (IntKind.wrap .i64 (x29 + (1 : Int))))))))], [(0, (.arr 1 [[(.a (.osl 1 1 0 z3.1))]])), (1, (.arz 1 z3.2))], 2⟩))) ∨ (∃ z4 : Nat × List (List FV), ((AC Try.prog 41 [(aE (List.getD (FV.ses x27) (Int.toNat x29) [])), (.c (.a (.fz (.int .i64 (IntKind.wrap .i64 (x1 + x7)))))), (.c (.fn (.func 42) [] [(false, [(.ep 0 1 0 0)])]))] [(.arr 1 [[(.a (.osl 1 1 0 h0_0l))]]), (.arz 1 h1)] (.tup []) [(.arr 1 [[(.a (.osl 2 1 0 z4.1))]]), .gone, (.arz 1 z4.2)]) ∧ (RPt Try.prog 41 2 r Hs' 1 ⟨[(1, (.c (.a (.fz (.int .i64 x1))))), (2, (.c (.fn (.func 42) [] [(false, [(.ep 0 1 0 0)])]))), (7, (.c (.a (.fz (.int .i64 x7))))), (27, (.c (.a (.fz x27)))), (28, (.c (.a (.fz (.int .i64 x28))))), (29, (.c (.a (.fz (.int .i64 (IntKind.wrap .i64 (x29 + (1 : Int))))))))], [(0, (.arr 1 [[(.a (.osl 2 1 0 z4.1))]])), (1, .gone), (2, (.arz 1 z4.2))], 3⟩))))))) (TV.Le (.tup []) r ∧ [(.arr 1 [[(.a (.osl 1 1 0 h0_0l))]]), (.arz 1 h1)] = Hs')) := by kernel_rfl
theorem v41_F42_i1_1c (x1 : Int) (x7 : Int) (x27 : FV) (x28 : Int) (x29 : Int) (h1 : List (List FV)) (r : TV) (Hs' : List AObj) : vcP Try.prog sh lv41 41 2 (fun r0 Hs0 => TV.Le r0 r ∧ Hs0 = Hs') (RPt Try.prog 41 2 r Hs') 1 ⟨[(1, (.c (.a (.fz (.int .i64 x1))))), (2, (.c (.fn (.func 42) [] [(false, [(.ep 0 1 0 0)])]))), (7, (.c (.a (.fz (.int .i64 x7))))), (27, (.c (.a (.fz x27)))), (28, (.c (.a (.fz (.int .i64 x28))))), (29, (.c (.a (.fz (.int .i64 x29)))))], [(0, (.arr 1 [[(.a (.fz .nils))]])), (1, (.arz 1 h1))], 2⟩ =
    (br (decide ((x29 : Int) < x28)) (((FV.isSl 4 x27 = true) ∧ ((0 ≤ x29) ∧ ((x29 < (((List.length (FV.ses x27)) : Nat) : Int)) ∧ (((rE (List.getD (FV.ses x27) (Int.toNat x29) [])) : List FV) = (List.getD (FV.ses x27) (Int.toNat x29) []))))) ∧ ((∃ z1 : Int, ((AC Try.prog 41 [(aE (List.getD (FV.ses x27) (Int.toNat x29) [])), (.c (.a (.fz (.int .i64 (IntKind.wrap .i64 (x1 + x7)))))), (.c (.fn (.func 42) [] [(false, [(.ep 0 1 0 0)])]))] [(.arr 1 [[(.a (.fz .nils))]])] (.tup []) [(.arr 1 [[(.a (.fz (.int .i64 z1)))]])]) ∧ (RPt Try.prog 41 2 r Hs' 1 ⟨[(1, (.c (.a (.fz (.int .i64 x1))))), (2, (.c (.fn (.func 42) [] [(false, [(.ep 0 1 0 0)])]))), (7, (.c (.a (.fz (.int .i64 x7))))), (27, (.c (.a (.fz x27)))), (28, (.c (.a (.fz (.int .i64 x28))))), (29, (.c (.a (.fz (.int .i64 (IntKind.wrap .i64 (x29 + (1 : Int))))))))], [(0, (.arr 1 [[(.a (.fz (.int .i64 z1)))]])), (1, (.arz 1 h1))], 2⟩))) ∨ ((∃ _ : Unit, ((AC Try.prog 41 [(aE (List.getD (FV.ses x27) (Int.toNat x29) [])), (.c (.a (.fz (.int .i64 (IntKind.wrap .i64 (x1 + x7)))))), (.c (.fn (.func 42) [] [(false, [(.ep 0 1 0 0)])]))] [(.arr 1 [[(.a (.fz .nils))]])] (.tup []) [(.arr 1 [[(.a (.fz .nils))]])]) ∧ (RPt Try.prog 41 2 r Hs' 1 ⟨[(1, (.c (.a (.fz (.int .i64 x1))))), (2, (.c (.fn (.func 42) [] [(false, [(.ep 0 1 0 0)])]))), (7, (.c (.a (.fz (.int .i64 x7))))), (27, (.c (.a (.fz x27)))), (28, (.c (.a (.fz (.int .i64 x28))))), (29, (.c (.a (.fz (.int .i64 (IntKind.wrap .i64 (x29 + (1 : Int))))))))], [(0, (.arr 1 [[(.a (.fz .nils))]])), (1, (.arz 1 h1))], 2⟩))) ∨ ((∃ z3 : Nat × List (List FV), ((AC Try.prog 41 [(aE (List.getD (FV.ses x27) (Int.toNat x29) [])), (.c (.a (.fz (.int .i64 (IntKind.wrap .i64 (x1 + x7)))))), (.c (.fn (.func 42) [] [(false, [(.ep 0 1 0 0)])]))] [(.arr 1 [[(.a (.fz .nils))]])] (.tup []) [(.arr 1 [[(.a (.osl 1 1 0 z3.1))]]), (.arz 1 z3.2)]) ∧ (RPt Try.prog 41 2 r Hs' 1 ⟨[(1, (.c (.a (.fz (.int .i64 x1))))), (2, (.c (.fn (.func 42) [] [(false, [(.ep 0 1 0 0)])]))), (7, (.c (.a (.fz (.int .i64 x7))))), (27, (.c (.a (.fz x27)))), (28, (.c (.a (.fz (.int .i64 x28))))), (29, (.c (.a (.fz (.int .i64 (IntKind.wrap .i64 (x29 + (1 : Int))))))))], [(0, (.arr 1 [[(.a (.osl 2 1 0 z3.1))]])), (1, (.arz 1 h1)), (2, (.arz 1 z3.2))], 3⟩))) ∨ (∃ z4 : Nat × List (List FV), ((AC Try.prog 41 [(aE (List.getD (FV.ses x27) (Int.toNat x29) [])), (.c (.a (.fz (.int .i64 (IntKind.wrap .i64 (x1 + x7)))))), (.c (.fn (.func 42) [] [(false, [(.ep 0 1 0 0)])]))] [(.arr 1 [[(.a (.fz .nils))]])] (.tup []) [(.arr 1 [[(.a (.osl 2 1 0 z4.1))]]), .gone, (.arz 1 z4.2)]) ∧ (RPt Try.prog 41 2 r Hs' 1 ⟨[(1, (.c (.a (.fz (.int .i64 x1))))), (2, (.c (.fn (.func 42) [] [(false, [(.ep 0 1 0 0)])]))), (7, (.c (.a (.fz (.int .i64 x7))))), (27, (.c (.a (.fz x27)))), (28, (.c (.a (.fz (.int .i64 x28))))), (29, (.c (.a (.fz (.int .i64 (IntKind.wrap .i64 (x29 + (1 : Int))))))))], [(0, (.arr 1 [[(.a (.osl 2 1 0 z4.1))]])), (1, (.arz 1 h1)), (2, (.arz 1 z4.2))], 3⟩))))))) (TV.Le (.tup []) r ∧ [(.arr 1 [[(.a (.fz .nils))]]), (.arz 1 h1)] = Hs')) := by kernel_rfl
theorem v41_F42_i1_1d (x1 : Int) (x7 : Int) (x27 : FV) (x28 : Int) (x29 : Int) (h0_0l : Nat) (h2 : List (List FV)) (r : TV) (Hs' : List AObj) : vcP Try.prog sh lv41 41 2 (fun r0 Hs0 => TV.Le r0 r ∧ Hs0 = Hs') (RPt Try.prog 41 2 r Hs') 1 ⟨[(1, (.c (.a (.fz (.int .i64 x1))))), (2, (.c (.fn (.func 42) [] [(false, [(.ep 0 1 0 0)])]))), (7, (.c (.a (.fz (.int .i64 x7))))), (27, (.c (.a (.fz x27)))), (28, (.c (.a (.fz (.int .i64 x28))))), (29, (.c (.a (.fz (.int .i64 x29)))))], [(0, (.arr 1 [[(.a (.osl 2 1 0 h0_0l))]])), (1, .gone), (2, (.arz 1 h2))], 3⟩ =
    (br (decide ((x29 : Int) < x28)) (((FV.isSl 4 x27 = true) ∧ ((0 ≤ x29) ∧ ((x29 < (((List.length (FV.ses x27)) : Nat) : Int)) ∧ (((rE (List.getD (FV.ses x27) (Int.toNat x29) [])) : List FV) = (List.getD (FV.ses x27) (Int.toNat x29) []))))) ∧ ((∃ z1 : Int, ((AC Try.prog 41 [(aE (List.getD (FV.ses x27) (Int.toNat x29) [])), (.c (.a (.fz (.int .i64 (IntKind.wrap .i64 (x1 + x7)))))), (.c (.fn (.func 42) [] [(false, [(.ep 0 1 0 0)])]))] [(.arr 1 [[(.a (.osl 1 1 0 h0_0l))]]), (.arz 1 h2)] (.tup []) [(.arr 1 [[(.a (.fz (.int .i64 z1)))]])]) ∧ (RPt Try.prog 41 2 r Hs' 1 ⟨[(1, (.c (.a (.fz (.int .i64 x1))))), (2, (.c (.fn (.func 42) [] [(false, [(.ep 0 1 0 0)])]))), (7, (.c (.a (.fz (.int .i64 x7))))), (27, (.c (.a (.fz x27)))), (28, (.c (.a (.fz (.int .i64 x28))))), (29, (.c (.a (.fz (.int .i64 (IntKind.wrap .i64 (x29 + (1 : Int))))))))], [(0, (.arr 1 [[(.a (.fz (.int .i64 z1)))]])), (1, .gone)], 2⟩))) ∨ ((∃ _ : Unit, ((AC Try.prog 41 [(aE (List.getD (FV.ses x27) (Int.toNat x29) [])), (.c (.a (.fz (.int .i64 (IntKind.wrap .i64 (x1 + x7)))))), (.c (.fn (.func 42) [] [(false, [(.ep 0 1 0 0)])]))] [(.arr 1 [[(.a (.osl 1 1 0 h0_0l))]]), (.arz 1 h2)] (.tup []) [(.arr 1 [[(.a (.fz .nils))]])]) ∧ (RPt Try.prog 41 2 r Hs' 1 ⟨[(1, (.c (.a (.fz (.int .i64 x1))))), (2, (.c (.fn (.func 42) [] [(false, [(.ep 0 1 0 0)])]))), (7, (.c (.a (.fz (.int .i64 x7))))), (27, (.c (.a (.fz x27)))), (28, (.c (.a (.fz (.int .i64 x28))))), (29, (.c (.a (.fz (.int .i64 (IntKind.wrap .i64 (x29 + (1 : Int))))))))], [(0, (.arr 1 [[(.a (.fz .nils))]])), (1, .gone)], 2⟩))) ∨ ((∃ z3 : Nat × List (List FV), ((AC Try.prog 41 [(aE (List.getD (FV.ses x27) (Int.toNat x29) [])), (.c (.a (.fz (.int .i64 (IntKind.wrap .i64 (x1 + x7)))))), (.c (.fn (.func 42) [] [(false, [(.ep 0 1 0 0)])]))] [(.arr 1 [[(.a (.osl 1 1 0 h0_0l))]]), (.arz 1 h2)] (.tup []) [(.arr 1 [[(.a (.osl 1 1 0 z3.1))]]), (.arz 1 z3.2)]) ∧ (RPt Try.prog 41 2 r Hs' 1 ⟨[(1, (.c (.a (.fz (.int .i64 x1))))), (2, (.c (.fn (.func 42) [] [(false, [(.ep 0 1 0 0)])]))), (7, (.c (.a (.fz (.int .i64 x7))))), (27, (.c (.a (.fz x27)))), (28, (.c (.a (.fz (.int .i64 x28))))), (29, (.c (.a (.fz (.int .i64 (IntKind.wrap .i64 (x29 + (1 : Int))))))))], [(0, (.arr 1 [[(.a (.osl 2 1 0 z3.1))]])), (1, .gone), (2, (.arz 1 z3.2))], 3⟩))) ∨ (∃ z4 : Nat × List (List FV), ((AC Try.prog 41 [(aE (List.getD (FV.ses x27) (Int.toNat x29) [])), (.c (.a (.fz (.int .i64 (IntKind.wrap .i64 (x1 + x7)))))), (.c (.fn (.func 42) [] [(false, [(.ep 0 1 0 0)])]))] [(.arr 1 [[(.a (.osl 1 1 0 h0_0l))]]), (.arz 1 h2)] (.tup []) [(.arr 1 [[(.a (.osl 2 1 0 z4.1))]]), .gone, (.arz 1 z4.2)]) ∧ (RPt Try.prog 41 2 r Hs' 1 ⟨[(1, (.c (.a (.fz (.int .i64 x1))))), (2, (.c (.fn (.func 42) [] [(false, [(.ep 0 1 0 0)])]))), (7, (.c (.a (.fz (.int .i64 x7))))), (27, (.c (.a (.fz x27)))), (28, (.c (.a (.fz (.int .i64 x28))))), (29, (.c (.a (.fz (.int .i64 (IntKind.wrap .i64 (x29 + (1 : Int))))))))], [(0, (.arr 1 [[(.a (.osl 2 1 0 z4.1))]])), (1, .gone), (2, (.arz 1 z4.2))], 3⟩))))))) (TV.Le (.tup []) r ∧ [(.arr 1 [[(.a (.osl 2 1 0 h0_0l))]]), .gone, (.arz 1 h2)] = Hs')) := by kernel_rfl
theorem v41_F42_i1_1e (x1 : Int) (x7 : Int) (x27 : FV) (x28 : Int) (x29 : Int) (h0_0l : Nat) (h1 : List (List FV)) (h2 : List (List FV)) (r : TV) (Hs' : List AObj) : vcP Try.prog sh lv41 41 2 (fun r0 Hs0 => TV.Le r0 r ∧ Hs0 = Hs') (RPt Try.prog 41 2 r Hs') 1 ⟨[(1, (.c (.a (.fz (.int .i64 x1))))), (2, (.c (.fn (.func 42) [] [(false, [(.ep 0 1 0 0)])]))), (7, (.c (.a (.fz (.int .i64 x7))))), (27, (.c (.a (.fz x27)))), (28, (.c (.a (.fz (.int .i64 x28))))), (29, (.c (.a (.fz (.int .i64 x29)))))], [(0, (.arr 1 [[(.a (.osl 2 1 0 h0_0l))]])), (1, (.arz 1 h1)), (2, (.arz 1 h2))], 3⟩ =
    (br (decide ((x29 : Int) < x28)) (((FV.isSl 4 x27 = true) ∧ ((0 ≤ x29) ∧ ((x29 < (((List.length (FV.ses x27)) : Nat) : Int)) ∧ (((rE (List.getD (FV.ses x27) (Int.toNat x29) [])) : List FV) = (List.getD (FV.ses x27) (Int.toNat x29) []))))) ∧ ((∃ z1 : Int, ((AC Try.prog 41 [(aE (List.getD (FV.ses x27) (Int.toNat x29) [])), (.c (.a (.fz (.int .i64 (IntKind.wrap .i64 (x1 + x7)))))), (.c (.fn (.func 42) [] [(false, [(.ep 0 1 0 0)])]))] [(.arr 1 [[(.a (.osl 1 1 0 h0_0l))]]), (.arz 1 h2)] (.tup []) [(.arr 1 [[(.a (.fz (.int .i64 z1)))]])]) ∧ (RPt Try.prog 41 2 r Hs' 1 ⟨[(1, (.c (.a (.fz (.int .i64 x1))))), (2, (.c (.fn (.func 42) [] [(false, [(.ep 0 1 0 0)])]))), (7, (.c (.a (.fz (.int .i64 x7))))), (27, (.c (.a (.fz x27)))), (28, (.c (.a (.fz (.int .i64 x28))))), (29, (.c (.a (.fz (.int .i64 (IntKind.wrap .i64 (x29 + (1 : Int))))))))], [(0, (.arr 1 [[(.a (.fz (.int .i64 z1)))]])), (1, (.arz 1 h1))], 2⟩))) ∨ ((∃ _ : Unit, ((AC Try.prog 41 [(aE (List.getD (FV.ses x27) (Int.toNat x29) [])), (.c (.a (.fz (.int .i64 (IntKind.wrap .i64 (x1 + x7)))))), (.c (.fn (.func 42) [] [(false, [(.ep 0 1 0 0)])]))] [(.arr 1 [[(.a (.osl 1 1 0 h0_0l))]]), (.arz 1 h2)] (.tup []) [(.arr 1 [[(.a (.fz .nils))]])]) ∧ (RPt Try.prog 41 2 r Hs' 1 ⟨[(1, (.c (.a (.fz (.int .i64 x1))))), (2, (.c (.fn (.func 42) [] [(false, [(.ep 0 1 0 0)])]))), (7, (.c (.a (.fz (.int .i64 x7))))), (27, (.c (.a (.fz x27)))), (28, (.c (.a (.fz (.int .i64 x28))))), (29, (.c (.a (.fz (.int .i64 (IntKind.wrap .i64 (x29 + (1 : Int))))))))], [(0, (.arr 1 [[(.a (.fz .nils))]])), (1, (.arz 1 h1))], 2⟩))) ∨ ((∃ z3 : Nat × List (List FV), ((AC Try.prog 41 [(aE (List.getD (FV.ses x27) (Int.toNat x29) [])), (.c (.a (.fz (.int .i64 (IntKind.wrap .i64 (x1 + x7)))))), (.c (.fn (.func 42) [] [(false, [(.ep 0 1 0 0)])]))] [(.arr 1 [[(.a (.osl 1 1 0 h0_0l))]]), (.arz 1 h2)] (.tup []) [(.arr 1 [[(.a (.osl 1 1 0 z3.1))]]), (.arz 1 z3.2)]) ∧ (RPt Try.prog 41 2 r Hs' 1 ⟨[(1, (.c (.a (.fz (.int .i64 x1))))), (2, (.c (.fn (.func 42) [] [(false, [(.ep 0 1 0 0)])]))), (7, (.c (.a (.fz (.int .i64 x7))))), (27, (.c (.a (.fz x27)))), (28, (.c (.a (.fz (.int .i64 x28))))), (29, (.c (.a (.fz (.int .i64 (IntKind.wrap .i64 (x29 + (1 : Int))))))))], [(0, (.arr 1 [[(.a (.osl 2 1 0 z3.1))]])), (1, (.arz 1 h1)), (2, (.arz 1 z3.2))], 3⟩))) ∨ (∃ z4 : Nat × List (List FV), ((AC Try.prog 41 [(aE (List.getD (FV.ses x27) (Int.toNat x29) [])), (.c (.a (.fz (.int .i64 (IntKind.wrap .i64 (x1 + x7)))))), (.c (.fn (.func 42) [] [(false, [(.ep 0 1 0 0)])]))] [(.arr 1 [[(.a (.osl 1 1 0 h0_0l))]]), (.arz 1 h2)] (.tup []) [(.arr 1 [[(.a (.osl 2 1 0 z4.1))]]), .gone, (.arz 1 z4.2)]) ∧ (RPt Try.prog 41 2 r Hs' 1 ⟨[(1, (.c (.a (.fz (.int .i64 x1))))), (2, (.c (.fn (.func 42) [] [(false, [(.ep 0 1 0 0)])]))), (7, (.c (.a (.fz (.int .i64 x7))))), (27, (.c (.a (.fz x27)))), (28, (.c (.a (.fz (.int .i64 x28))))), (29, (.c (.a (.fz (.int .i64 (IntKind.wrap .i64 (x29 + (1 : Int))))))))], [(0, (.arr 1 [[(.a (.osl 2 1 0 z4.1))]])), (1, (.arz 1 h1)), (2, (.arz 1 z4.2))], 3⟩))))))) (TV.Le (.tup []) r ∧ [(.arr 1 [[(.a (.osl 2 1 0 h0_0l))]]), (.arz 1 h1), (.arz 1 h2)] = Hs')) := by kernel_rfl
theorem v41_F42_i1_1g (x1 : Int) (x7 : Int) (x27 : FV) (x28 : Int) (x29 : Int) (r : TV) (Hs' : List AObj) : vcP Try.prog sh lv41 41 2 (fun r0 Hs0 => TV.Le r0 r ∧ Hs0 = Hs') (RPt Try.prog 41 2 r Hs') 1 ⟨[(1, (.c (.a (.fz (.int .i64 x1))))), (2, (.c (.fn (.func 42) [] [(false, [(.ep 0 1 0 0)])]))), (7, (.c (.a (.fz (.int .i64 x7))))), (27, (.c (.a (.fz x27)))), (28, (.c (.a (.fz (.int .i64 x28))))), (29, (.c (.a (.fz (.int .i64 x29)))))], [(0, (.arr 1 [[(.a (.fz .nils))]])), (1, .gone)], 2⟩ =
    (br (decide ((x29 : Int) < x28)) (((FV.isSl 4 x27 = true) ∧ ((0 ≤ x29) ∧ ((x29 < (((List.length (FV.ses x27)) : Nat) : Int)) ∧ (((rE (List.getD (FV.ses x27) (Int.toNat x29) [])) : List FV) = (List.getD (FV.ses x27) (Int.toNat x29) []))))) ∧ ((∃ z1 : Int, ((AC Try.prog 41 [(aE (List.getD (FV.ses x27) (Int.toNat x29) [])), (.c (.a (.fz (.int .i64 (IntKind.wrap .i64 (x1 + x7)))))), (.c (.fn (.func 42) [] [(false, [(.ep 0 1 0 0)])]))] [(.arr 1 [[(.a (.fz .nils))]])] (.tup []) [(.arr 1 [[(.a (.fz (.int .i64 z1)))]])]) ∧ (RPt Try.prog 41 2 r Hs' 1 ⟨[(1, (.c (.a (.fz (.int .i64 x1))))), (2, (.c (.fn (.func 42) [] [(false, [(.ep 0 1 0 0)])]))), (7, (.c (.a (.fz (.int .i64 x7))))), (27, (.c (.a (.fz x27)))), (28, (.c (.a (.fz (.int .i64 x28))))), (29, (.c (.a (.fz (.int .i64 (IntKind.wrap .i64 (x29 + (1 : Int))))))))], [(0, (.arr 1 [[(.a (.fz (.int .i64 z1)))]])), (1, .gone)], 2⟩))) ∨ ((∃ _ : Unit, ((AC Try.prog 41 [(aE (List.getD (FV.ses x27) (Int.toNat x29) [])), (.c (.a (.fz (.int .i64 (IntKind.wrap .i64 (x1 + x7)))))), (.c (.fn (.func 42) [] [(false, [(.ep 0 1 0 0)])]))] [(.arr 1 [[(.a (.fz .nils))]])] (.tup []) [(.arr 1 [[(.a (.fz .nils))]])]) ∧ (RPt Try.prog 41 2 r Hs' 1 ⟨[(1, (.c (.a (.fz (.int .i64 x1))))), (2, (.c (.fn (.func 42) [] [(false, [(.ep 0 1 0 0)])]))), (7, (.c (.a (.fz (.int .i64 x7))))), (27, (.c (.a (.fz x27)))), (28, (.c (.a (.fz (.int .i64 x28))))), (29, (.c (.a (.fz (.int .i64 (IntKind.wrap .i64 (x29 + (1 : Int))))))))], [(0, (.arr 1 [[(.a (.fz .nils))]])), (1, .gone)], 2⟩))) ∨ ((∃ z3 : Nat × List (List FV), ((AC Try.prog 41 [(aE (List.getD (FV.ses x27) (Int.toNat x29) [])), (.c (.a (.fz (.int .i64 (IntKind.wrap .i64 (x1 + x7)))))), (.c (.fn (.func 42) [] [(false, [(.ep 0 1 0 0)])]))] [(.arr 1 [[(.a (.fz .nils))]])] (.tup []) [(.arr 1 [[(.a (.osl 1 1 0 z3.1))]]), (.arz 1 z3.2)]) ∧ (RPt Try.prog 41 2 r Hs' 1 ⟨[(1, (.c (.a (.fz (.int .i64 x1))))), (2, (.c (.fn (.func 42) [] [(false, [(.ep 0 1 0 0)])]))), (7, (.c (.a (.fz (.int .i64 x7))))), (27, (.c (.a (.fz x27)))), (28, (.c (.a (.fz (.int .i64 x28))))), (29, (.c (.a (.fz (.int .i64 (IntKind.wrap .i64 (x29 + (1 : Int))))))))], [(0, (.arr 1 [[(.a (.osl 2 1 0 z3.1))]])), (1, .gone), (2, (.arz 1 z3.2))], 3⟩))) ∨ (∃ z4 : Nat × List (List FV), ((AC Try.prog 41 [(aE (List.getD (FV.ses x27) (Int.toNat x29) [])), (.c (.a (.fz (.int .i64 (IntKind.wrap .i64 (x1 + x7)))))), (.c (.fn (.func 42) [] [(false, [(.ep 0 1 0 0)])]))] [(.arr 1 [[(.a (.fz .nils))]])] (.tup []) [(.arr 1 [[(.a (.osl 2 1 0 z4.1))]]), .gone, (.arz 1 z4.2)]) ∧ (RPt Try.prog 41 2 r Hs' 1 ⟨[(1, (.c (.a (.fz (.int .i64 x1))))), (2, (.c (.fn (.func 42) [] [(false, [(.ep 0 1 0 0)])]))), (7, (.c (.a (.fz (.int .i64 x7))))), (27, (.c (.a (.fz x27)))), (28, (.c (.a (.fz (.int .i64 x28))))), (29, (.c (.a (.fz (.int .i64 (IntKind.wrap .i64 (x29 + (1 : Int))))))))], [(0, (.arr 1 [[(.a (.osl 2 1 0 z4.1))]])), (1, .gone), (2, (.arz 1 z4.2))], 3⟩))))))) (TV.Le (.tup []) r ∧ [(.arr 1 [[(.a (.fz .nils))]]), .gone] = Hs')) := by kernel_rfl
/-- (*lambent/heap.Heap).variable -/
theorem v49_i2 (n : Int) (varsl : Nat) (o0_0l : Nat) (o0_1l : Nat) (o0_2 : Int) (o0_3 : Int) (o0_4l : Nat) (o1 : List (List FV)) (o2 : List (List FV)) (o3 : List (List FV)) (o4 : List MapZ) (o5 : List (List FV)) (r : TV) (Hs' : List AObj) : vcE Try.prog sh lv49 49 [(.c (.a (.ep 0 6 0 0))), (.c (.a (.fz (.int .i64 n)))), (.c (.a (.osl 5 1 0 (varsl + 1))))] [(.arr 6 [[(.a (.osl 1 5 0 o0_0l)), (.a (.osl 2 7 0 o0_1l)), (.a (.fz (.int .i64 o0_2))), (.a (.fz (.int .i64 o0_3))), (.a (.osl 3 1 0 o0_4l)), (.a (.mp 4))]]), (.arz 5 o1), (.arz 7 o2), (.arz 1 o3), (.mapz o4), (.arz 1 o5)] (fun r0 Hs0 => TV.Le r0 r ∧ Hs0 = Hs') (RPt Try.prog 49 6 r Hs') =
    (br (decide ((n : Int) ≥ (((varsl + 1) : Nat) : Int))) (TV.Le (.tup [(false, [(.a (.fz (.int .i64 (0 : Int))))]), (false, [(.a (.fz (.int .i64 (1 : Int))))])]) r ∧ [(.arr 6 [[(.a (.osl 1 5 0 o0_0l)), (.a (.osl 2 7 0 o0_1l)), (.a (.fz (.int .i64 o0_2))), (.a (.fz (.int .i64 o0_3))), (.a (.osl 3 1 0 o0_4l)), (.a (.mp 4))]]), (.arz 5 o1), (.arz 7 o2), (.arz 1 o3), (.mapz o4), (.arz 1 o5)] = Hs') ((0 ≤ n ∧ n < (((varsl + 1) : Nat) : Int)) ∧ ((((0 + (Int.toNat n)) < (List.length o5)) ∧ ((([(.int .i64 (FV.asI (List.getD (List.getD o5 (0 + (Int.toNat n)) []) 0 FV.nils)))] : List FV) = (List.take 1 (List.drop 0 (List.getD o5 (0 + (Int.toNat n)) [])))) ∧ ((1 : Nat) = 1))) ∧ (∃ b1 : Bool, ((AC Try.prog 47 [(.c (.a (.ep 0 6 0 0))), (.c (.a (.fz (.int .i64 (FV.asI (List.getD (List.getD o5 (0 + (Int.toNat n)) []) 0 FV.nils))))))] [(.arr 6 [[(.a (.osl 1 5 0 o0_0l)), (.a (.osl 2 7 0 o0_1l)), (.a (.fz (.int .i64 o0_2))), (.a (.fz (.int .i64 o0_3))), (.a (.osl 3 1 0 o0_4l)), (.a (.mp 4))]]), (.arz 5 o1), (.arz 7 o2), (.arz 1 o3), (.mapz o4)] (.c (.a (.fz (.bool b1)))) [(.arr 6 [[(.a (.osl 1 5 0 o0_0l)), (.a (.osl 2 7 0 o0_1l)), (.a (.fz (.int .i64 o0_2))), (.a (.fz (.int .i64 o0_3))), (.a (.osl 3 1 0 o0_4l)), (.a (.mp 4))]]), (.arz 5 o1), (.arz 7 o2), (.arz 1 o3), (.mapz o4)]) ∧ (br (!b1) (TV.Le (.tup [(false, [(.a (.fz (.int .i64 (0 : Int))))]), (false, [(.a (.fz (.int .i64 (1 : Int))))])]) r ∧ [(.arr 6 [[(.a (.osl 1 5 0 o0_0l)), (.a (.osl 2 7 0 o0_1l)), (.a (.fz (.int .i64 o0_2))), (.a (.fz (.int .i64 o0_3))), (.a (.osl 3 1 0 o0_4l)), (.a (.mp 4))]]), (.arz 5 o1), (.arz 7 o2), (.arz 1 o3), (.mapz o4), (.arz 1 o5)] = Hs') (TV.Le (.tup [(false, [(.a (.fz (.int .i64 (FV.asI (List.getD (List.getD o5 (0 + (Int.toNat n)) []) 0 FV.nils)))))]), (false, [(.a (.fz (.int .i64 (0 : Int))))])]) r ∧ [(.arr 6 [[(.a (.osl 1 5 0 o0_0l)), (.a (.osl 2 7 0 o0_1l)), (.a (.fz (.int .i64 o0_2))), (.a (.fz (.int .i64 o0_3))), (.a (.osl 3 1 0 o0_4l)), (.a (.mp 4))]]), (.arz 5 o1), (.arz 7 o2), (.arz 1 o3), (.mapz o4), (.arz 1 o5)] = Hs'))))))) := by kernel_rfl
/-- lambent/term.Inst$1 -/
def lv44 : List (Nat × List Nat) := []
theorem v44 (u_0 : Int) (u_1 : List UInt8) (u_2 : Int) (u_3 : List (List FV)) (k : Int) (o0_0 : List (List FV)) (r : TV) (Hs' : List AObj) : vcE Try.prog sh lv44 44 [(.agg [(.a (.fz (.int .i64 u_0))), (.a (.fz (.str u_1))), (.a (.fz (.int .i64 u_2))), (.a (.fz (.sl false 4 u_3)))]), (.c (.a (.fz (.int .i64 k)))), (.c (.a (.ep 0 1 0 0)))] [(.arr 1 [[(.a (.fz (.sl false 4 o0_0)))]])] (fun r0 Hs0 => TV.Le r0 r ∧ Hs0 = Hs') (RPt Try.prog 44 1 r Hs') =
    (br ((u_0 : Int) == (4 : Int)) (br (decide (((0 : Int) : Int) ≤ u_2)) ((FV.isSl 4 (.sl false 4 o0_0) = true) ∧ (br (decide ((u_2 : Int) < (((List.length o0_0) : Nat) : Int))) (((FV.isSl 4 (.sl false 4 o0_0) = true) ∧ ((0 ≤ u_2) ∧ ((u_2 < (((List.length o0_0) : Nat) : Int)) ∧ (((rE (List.getD o0_0 (Int.toNat u_2) [])) : List FV) = (List.getD o0_0 (Int.toNat u_2) []))))) ∧ (∃ z1 : Tm, ((AC Try.prog 45 [(aE (List.getD o0_0 (Int.toNat u_2) [])), (.c (.a (.fz (.int .i64 (0 : Int))))), (.c (.a (.fz (.int .i64 k))))] [] (aT z1) []) ∧ (TV.Le (aT z1) r ∧ [(.arr 1 [[(.a (.fz (.sl false 4 o0_0)))]])] = Hs')))) (TV.Le (.agg [(.a (.fz (.int .i64 u_0))), (.a (.fz (.str u_1))), (.a (.fz (.int .i64 u_2))), (.a (.fz (.sl false 4 u_3)))]) r ∧ [(.arr 1 [[(.a (.fz (.sl false 4 o0_0)))]])] = Hs'))) (TV.Le (.agg [(.a (.fz (.int .i64 u_0))), (.a (.fz (.str u_1))), (.a (.fz (.int .i64 u_2))), (.a (.fz (.sl false 4 u_3)))]) r ∧ [(.arr 1 [[(.a (.fz (.sl false 4 o0_0)))]])] = Hs')) (TV.Le (.agg [(.a (.fz (.int .i64 u_0))), (.a (.fz (.str u_1))), (.a (.fz (.int .i64 u_2))), (.a (.fz (.sl false 4 u_3)))]) r ∧ [(.arr 1 [[(.a (.fz (.sl false 4 o0_0)))]])] = Hs')) := by kernel_rfl
/-- slices.Contains[[]int,int] -/
def lv43 : List (Nat × List Nat) := []
theorem v43 (s : List (List FV)) (v : Int) (r : TV) (Hs' : List AObj) : vcE Try.prog sh lv43 43 [(.c (.a (.fz (.sl false 1 s)))), (.c (.a (.fz (.int .i64 v))))] [] (fun r0 Hs0 => TV.Le r0 r ∧ Hs0 = Hs') (RPt Try.prog 43 0 r Hs') =
    (∃ n1 : Int, ((AC Try.prog 68 [(.c (.a (.fz (.sl false 1 s)))), (.c (.a (.fz (.int .i64 v))))] [] (.c (.a (.fz (.int .i64 n1)))) []) ∧ (TV.Le (.c (.a (.fz (.bool (decide ((n1 : Int) ≥ (0 : Int))))))) r ∧ [] = Hs'))) := by kernel_rfl
/-- lambent/term.Vars$1 -/
theorem v42_i1 (u_0 : Int) (u_1 : List UInt8) (u_2 : Int) (u_3 : List (List FV)) (a1 : Int) (o0_0l : Nat) (o1 : List (List FV)) (r : TV) (Hs' : List AObj) : vcE Try.prog sh lv42 42 [(.agg [(.a (.fz (.int .i64 u_0))), (.a (.fz (.str u_1))), (.a (.fz (.int .i64 u_2))), (.a (.fz (.sl false 4 u_3)))]), (.c (.a (.fz (.int .i64 a1)))), (.c (.a (.ep 0 1 0 0)))] [(.arr 1 [[(.a (.osl 1 1 0 o0_0l))]]), (.arz 1 o1)] (fun r0 Hs0 => TV.Le r0 r ∧ Hs0 = Hs') (RPt Try.prog 42 2 r Hs') =
    (br ((u_0 : Int) == (4 : Int)) (((1 : Nat) = 1 ∧ (0 + o0_0l) ≤ (List.length o1)) ∧ (∃ b1 : Bool, ((AC Try.prog 43 [(.c (.a (.fz (.sl false 1 (List.take o0_0l (List.drop 0 o1)))))), (.c (.a (.fz (.int .i64 u_2))))] [] (.c (.a (.fz (.bool b1)))) []) ∧ ((true = true) ∧ (br (!b1) ((1 ≤ 1) ∧ ((o0_0l ≤ (List.length o1) ∧ roomB (o0_0l + 1) 8) ∧ (TV.Le (.tup []) r ∧ [(.arr 1 [[(.a (.osl 2 1 0 (o0_0l + 1)))]]), .gone, (.arz 1 ((List.take o0_0l o1) ++ [[(.int .i64 u_2)]]))] = Hs'))) (TV.Le (.tup []) r ∧ [(.arr 1 [[(.a (.osl 1 1 0 o0_0l))]]), (.arz 1 o1)] = Hs')))))) (TV.Le (.tup []) r ∧ [(.arr 1 [[(.a (.osl 1 1 0 o0_0l))]]), (.arz 1 o1)] = Hs')) := by kernel_rfl
/-- lambent/term.Shift -/
def lv45 : List (Nat × List Nat) := []
theorem v45 (t_0 : Int) (t_1 : List UInt8) (t_2 : Int) (t_3 : List (List FV)) (a1 : Int) (a2 : Int) (r : TV) (Hs' : List AObj) : vcE Try.prog sh lv45 45 [(.agg [(.a (.fz (.int .i64 t_0))), (.a (.fz (.str t_1))), (.a (.fz (.int .i64 t_2))), (.a (.fz (.sl false 4 t_3)))]), (.c (.a (.fz (.int .i64 a1)))), (.c (.a (.fz (.int .i64 a2))))] [] (fun r0 Hs0 => TV.Le r0 r ∧ Hs0 = Hs') (RPt Try.prog 45 0 r Hs') =
    (∃ z1 : Tm, ((AC Try.prog 46 [(.agg [(.fn (.func 69) [] [(false, [(.ep 0 1 0 0)]), (false, [(.ep 1 1 0 0)])])]), (.agg [(.a (.fz (.int .i64 t_0))), (.a (.fz (.str t_1))), (.a (.fz (.int .i64 t_2))), (.a (.fz (.sl false 4 t_3)))]), (.c (.a (.fz (.int .i64 (0 : Int)))))] [(.arr 1 [[(.a (.fz (.int .i64 a1)))]]), (.arr 1 [[(.a (.fz (.int .i64 a2)))]])] (aT z1) [(.arr 1 [[(.a (.fz (.int .i64 a1)))]]), (.arr 1 [[(.a (.fz (.int .i64 a2)))]])]) ∧ (TV.Le (aT z1) r ∧ [] = Hs'))) := by kernel_rfl
/-- slices.Index[[]int,int] -/
def lv68 : List (Nat × List Nat) := [(1, [0, 1, 7, 8])]
theorem v68 (s : List (List FV)) (v : Int) (r : TV) (Hs' : List AObj) : vcE Try.prog sh lv68 68 [(.c (.a (.fz (.sl false 1 s)))), (.c (.a (.fz (.int .i64 v))))] [] (fun r0 Hs0 => TV.Le r0 r ∧ Hs0 = Hs') (RPt Try.prog 68 0 r Hs') =
    ((FV.isSl 1 (.sl false 1 s) = true) ∧ (RPt Try.prog 68 0 r Hs' 1 ⟨[(0, (.c (.a (.fz (.sl false 1 s))))), (1, (.c (.a (.fz (.int .i64 v))))), (7, (.c (.a (.fz (.int .i64 (((List.length s) : Nat) : Int)))))), (8, (.c (.a (.fz (.int .i64 (0 : Int))))))], [], 0⟩)) := by kernel_rfl
theorem v68_1a (x0 : List (List FV)) (x1 : Int) (x7 : Int) (x8 : Int) (r : TV) (Hs' : List AObj) : vcP Try.prog sh lv68 68 0 (fun r0 Hs0 => TV.Le r0 r ∧ Hs0 = Hs') (RPt Try.prog 68 0 r Hs') 1 ⟨[(0, (.c (.a (.fz (.sl false 1 x0))))), (1, (.c (.a (.fz (.int .i64 x1))))), (7, (.c (.a (.fz (.int .i64 x7))))), (8, (.c (.a (.fz (.int .i64 x8)))))], [], 0⟩ =
    (br (decide ((x8 : Int) < x7)) (((FV.isSl 1 (.sl false 1 x0) = true) ∧ ((0 ≤ x8) ∧ ((x8 < (((List.length x0) : Nat) : Int)) ∧ (([(.int .i64 (FV.asI (List.getD (List.getD x0 (Int.toNat x8) []) 0 FV.nils)))] : List FV) = (List.getD x0 (Int.toNat x8) []))))) ∧ (br ((x1 : Int) == (FV.asI (List.getD (List.getD x0 (Int.toNat x8) []) 0 FV.nils))) (TV.Le (.c (.a (.fz (.int .i64 x8)))) r ∧ [] = Hs') (RPt Try.prog 68 0 r Hs' 1 ⟨[(0, (.c (.a (.fz (.sl false 1 x0))))), (1, (.c (.a (.fz (.int .i64 x1))))), (7, (.c (.a (.fz (.int .i64 x7))))), (8, (.c (.a (.fz (.int .i64 (IntKind.wrap .i64 (x8 + (1 : Int))))))))], [], 0⟩))) (TV.Le (.c (.a (.fz (.int .i64 (-1 : Int))))) r ∧ [] = Hs')) := by kernel_rfl
/-- (lambent/term.walk).term -/
theorem v46_F69 (t_0 : Int) (t_1 : List UInt8) (t_2 : Int) (t_3 : List (List FV)) (k : Int) (o0_0 : Int) (o1_0 : Int) (r : TV) (Hs' : List AObj) : vcE Try.prog sh lv46 46 [(.agg [(.fn (.func 69) [] [(false, [(.ep 0 1 0 0)]), (false, [(.ep 1 1 0 0)])])]), (.agg [(.a (.fz (.int .i64 t_0))), (.a (.fz (.str t_1))), (.a (.fz (.int .i64 t_2))), (.a (.fz (.sl false 4 t_3)))]), (.c (.a (.fz (.int .i64 k))))] [(.arr 1 [[(.a (.fz (.int .i64 o0_0)))]]), (.arr 1 [[(.a (.fz (.int .i64 o1_0)))]])] (fun r0 Hs0 => TV.Le r0 r ∧ Hs0 = Hs') (RPt Try.prog 46 2 r Hs') =
    (br ((t_0 : Int) != (5 : Int)) (br ((t_0 : Int) != (6 : Int)) (∃ z1 : Tm, ((AC Try.prog 69 [(.agg [(.a (.fz (.int .i64 t_0))), (.a (.fz (.str t_1))), (.a (.fz (.int .i64 t_2))), (.a (.fz (.sl false 4 t_3)))]), (.c (.a (.fz (.int .i64 k)))), (.c (.a (.ep 0 1 0 0))), (.c (.a (.ep 1 1 0 0)))] [(.arr 1 [[(.a (.fz (.int .i64 o0_0)))]]), (.arr 1 [[(.a (.fz (.int .i64 o1_0)))]])] (aT z1) [(.arr 1 [[(.a (.fz (.int .i64 o0_0)))]]), (.arr 1 [[(.a (.fz (.int .i64 o1_0)))]])]) ∧ (TV.Le (aT z1) r ∧ [(.arr 1 [[(.a (.fz (.int .i64 o0_0)))]]), (.arr 1 [[(.a (.fz (.int .i64 o1_0)))]])] = Hs'))) (∃ y2 : FV, (∃ n3 : Int, ((AC Try.prog 67 [(.agg [(.a (.fz (.int .i64 t_0))), (.a (.fz (.str t_1))), (.a (.fz (.int .i64 t_2))), (.a (.fz (.sl false 4 t_3)))])] [] (.tup [(false, [(.a (.fz y2))]), (false, [(.a (.fz (.int .i64 n3)))])]) []) ∧ ((FV.isSl 4 y2 = true) ∧ (RPt Try.prog 46 2 r Hs' 1 ⟨[(2, (.c (.a (.fz (.int .i64 k))))), (3, (.c (.a (.ep 2 1 0 0)))), (4, (.c (.a (.ep 3 4 0 0)))), (6, (.c (.a (.ep 4 4 0 0)))), (7, (.c (.a (.fz y2)))), (8, (.c (.a (.fz (.int .i64 n3))))), (9, (.c (.a (.fz .nils)))), (30, (.c (.a (.fz y2)))), (31, (.c (.a (.fz (.int .i64 (((List.length (FV.ses y2)) : Nat) : Int)))))), (32, (.c (.a (.fz (.int .i64 (0 : Int))))))], [(0, (.arr 1 [[(.a (.fz (.int .i64 o0_0)))]])), (1, (.arr 1 [[(.a (.fz (.int .i64 o1_0)))]])), (2, (.arr 1 [[(.fn (.func 69) [] [(false, [(.ep 0 1 0 0)]), (false, [(.ep 1 1 0 0)])])]])), (3, (.arr 4 [[(.a (.fz (.int .i64 t_0))), (.a (.fz (.str t_1))), (.a (.fz (.int .i64 t_2))), (.a (.fz (.sl false 4 t_3)))]])), (4, (.arr 4 [[(.a (.fz (.int .i64 (0 : Int)))), (.a (.fz (.str []))), (.a (.fz (.int .i64 (0 : Int)))), (.a (.fz .nils))]]))], 5⟩)))))) (∃ y4 : FV, (∃ n5 : Int, ((AC Try.prog 67 [(.agg [(.a (.fz (.int .i64 t_0))), (.a (.fz (.str t_1))), (.a (.fz (.int .i64 t_2))), (.a (.fz (.sl false 4 t_3)))])] [] (.tup [(false, [(.a (.fz y4))]), (false, [(.a (.fz (.int .i64 n5)))])]) []) ∧ ((FV.isSl 4 y4 = true) ∧ (RPt Try.prog 46 2 r Hs' 1 ⟨[(2, (.c (.a (.fz (.int .i64 k))))), (3, (.c (.a (.ep 2 1 0 0)))), (4, (.c (.a (.ep 3 4 0 0)))), (6, (.c (.a (.ep 4 4 0 0)))), (7, (.c (.a (.fz y4)))), (8, (.c (.a (.fz (.int .i64 n5))))), (9, (.c (.a (.fz .nils)))), (30, (.c (.a (.fz y4)))), (31, (.c (.a (.fz (.int .i64 (((List.length (FV.ses y4)) : Nat) : Int)))))), (32, (.c (.a (.fz (.int .i64 (0 : Int))))))], [(0, (.arr 1 [[(.a (.fz (.int .i64 o0_0)))]])), (1, (.arr 1 [[(.a (.fz (.int .i64 o1_0)))]])), (2, (.arr 1 [[(.fn (.func 69) [] [(false, [(.ep 0 1 0 0)]), (false, [(.ep 1 1 0 0)])])]])), (3, (.arr 4 [[(.a (.fz (.int .i64 t_0))), (.a (.fz (.str t_1))), (.a (.fz (.int .i64 t_2))), (.a (.fz (.sl false 4 t_3)))]])), (4, (.arr 4 [[(.a (.fz (.int .i64 (0 : Int)))), (.a (.fz (.str []))), (.a (.fz (.int .i64 (0 : Int)))), (.a (.fz .nils))]]))], 5⟩)))))) := by kernel_rfl
theorem v46_F69_1a (x2 : Int) (x7 : FV) (x8 : Int) (x30 : FV) (x31 : Int) (x32 : Int) (h0_0 : Int) (h1_0 : Int) (h3_0 : Int) (h3_1 : List UInt8) (h3_2 : Int) (h3_3 : List (List FV)) (h4_0 : Int) (h4_1 : List UInt8) (h4_2 : Int) (r : TV) (Hs' : List AObj) : vcP Try.prog sh lv46 46 2 (fun r0 Hs0 => TV.Le r0 r ∧ Hs0 = Hs') (RPt Try.prog 46 2 r Hs') 1 ⟨[(2, (.c (.a (.fz (.int .i64 x2))))), (3, (.c (.a (.ep 2 1 0 0)))), (4, (.c (.a (.ep 3 4 0 0)))), (6, (.c (.a (.ep 4 4 0 0)))), (7, (.c (.a (.fz x7)))), (8, (.c (.a (.fz (.int .i64 x8))))), (9, (.c (.a (.fz .nils)))), (30, (.c (.a (.fz x30)))), (31, (.c (.a (.fz (.int .i64 x31))))), (32, (.c (.a (.fz (.int .i64 x32)))))], [(0, (.arr 1 [[(.a (.fz (.int .i64 h0_0)))]])), (1, (.arr 1 [[(.a (.fz (.int .i64 h1_0)))]])), (2, (.arr 1 [[(.fn (.func 69) [] [(false, [(.ep 0 1 0 0)]), (false, [(.ep 1 1 0 0)])])]])), (3, (.arr 4 [[(.a (.fz (.int .i64 h3_0))), (.a (.fz (.str h3_1))), (.a (.fz (.int .i64 h3_2))), (.a (.fz (.sl false 4 h3_3)))]])), (4, (.arr 4 [[(.a (.fz (.int .i64 h4_0))), (.a (.fz (.str h4_1))), (.a (.fz (.int .i64 h4_2))), (.a (.fz .nils))]]))], 5⟩ =
    (br (decide ((x32 : Int) < x31)) (((FV.isSl 4 x30 = true) ∧ ((0 ≤ x32) ∧ ((x32 < (((List.length (FV.ses x30)) : Nat) : Int)) ∧ (((rE (List.getD (FV.ses x30) (Int.toNat x32) [])) : List FV) = (List.getD (FV.ses x30) (Int.toNat x32) []))))) ∧ (∃ z1 : Tm, ((AC Try.prog 46 [(.agg [(.fn (.func 69) [] [(false, [(.ep 0 1 0 0)]), (false, [(.ep 1 1 0 0)])])]), (aE (List.getD (FV.ses x30) (Int.toNat x32) [])), (.c (.a (.fz (.int .i64 (IntKind.wrap .i64 (x2 + x8))))))] [(.arr 1 [[(.a (.fz (.int .i64 h0_0)))]]), (.arr 1 [[(.a (.fz (.int .i64 h1_0)))]])] (aT z1) [(.arr 1 [[(.a (.fz (.int .i64 h0_0)))]]), (.arr 1 [[(.a (.fz (.int .i64 h1_0)))]])]) ∧ ((1 ≤ 1) ∧ ((roomB 1 56) ∧ (RPt Try.prog 46 2 r Hs' 1 ⟨[(2, (.c (.a (.fz (.int .i64 x2))))), (3, (.c (.a (.ep 2 1 0 0)))), (4, (.c (.a (.ep 3 4 0 0)))), (6, (.c (.a (.ep 4 4 0 0)))), (7, (.c (.a (.fz x7)))), (8, (.c (.a (.fz (.int .i64 x8))))), (9, (.c (.a (.osl 5 4 0 1)))), (30, (.c (.a (.fz x30)))), (31, (.c (.a (.fz (.int .i64 x31))))), (32, (.c (.a (.fz (.int .i64 (IntKind.wrap .i64 (x32 + (1 : Int))))))))], [(0, (.arr 1 [[(.a (.fz (.int .i64 h0_0)))]])), (1, (.arr 1 [[(.a (.fz (.int .i64 h1_0)))]])), (2, (.arr 1 [[(.fn (.func 69) [] [(false, [(.ep 0 1 0 0)]), (false, [(.ep 1 1 0 0)])])]])), (3, (.arr 4 [[(.a (.fz (.int .i64 h3_0))), (.a (.fz (.str h3_1))), (.a (.fz (.int .i64 h3_2))), (.a (.fz (.sl false 4 h3_3)))]])), (4, (.arr 4 [[(.a (.fz (.int .i64 h4_0))), (.a (.fz (.str h4_1))), (.a (.fz (.int .i64 h4_2))), (.a (.fz .nils))]])), (5, (.arz 4 [(FT4 z1)]))], 6⟩)))))) (br ((h3_0 : Int) == (6 : Int)) ((FV.isSl 4 .nils = true) ∧ (TV.Le (.agg [(.a (.fz (.int .i64 h3_0))), (.a (.fz (.str h3_1))), (.a (.fz (.int .i64 h3_2))), (.a (.fz .nils))]) r ∧ [(.arr 1 [[(.a (.fz (.int .i64 h0_0)))]]), (.arr 1 [[(.a (.fz (.int .i64 h1_0)))]])] = Hs')) (TV.Le (.agg [(.a (.fz (.int .i64 h3_0))), (.a (.fz (.str h3_1))), (.a (.fz (.int .i64 h3_2))), (.a (.fz .nils))]) r ∧ [(.arr 1 [[(.a (.fz (.int .i64 h0_0)))]]), (.arr 1 [[(.a (.fz (.int .i64 h1_0)))]])] = Hs'))) := by kernel_rfl
theorem v46_F69_1b (x2 : Int) (x7 : FV) (x8 : Int) (x9l : Nat) (x30 : FV) (x31 : Int) (x32 : Int) (h0_0 : Int) (h1_0 : Int) (h3_0 : Int) (h3_1 : List UInt8) (h3_2 : Int) (h3_3 : List (List FV)) (h4_0 : Int) (h4_1 : List UInt8) (h4_2 : Int) (h5 : List (List FV)) (r : TV) (Hs' : List AObj) : vcP Try.prog sh lv46 46 2 (fun r0 Hs0 => TV.Le r0 r ∧ Hs0 = Hs') (RPt Try.prog 46 2 r Hs') 1 ⟨[(2, (.c (.a (.fz (.int .i64 x2))))), (3, (.c (.a (.ep 2 1 0 0)))), (4, (.c (.a (.ep 3 4 0 0)))), (6, (.c (.a (.ep 4 4 0 0)))), (7, (.c (.a (.fz x7)))), (8, (.c (.a (.fz (.int .i64 x8))))), (9, (.c (.a (.osl 5 4 0 x9l)))), (30, (.c (.a (.fz x30)))), (31, (.c (.a (.fz (.int .i64 x31))))), (32, (.c (.a (.fz (.int .i64 x32)))))], [(0, (.arr 1 [[(.a (.fz (.int .i64 h0_0)))]])), (1, (.arr 1 [[(.a (.fz (.int .i64 h1_0)))]])), (2, (.arr 1 [[(.fn (.func 69) [] [(false, [(.ep 0 1 0 0)]), (false, [(.ep 1 1 0 0)])])]])), (3, (.arr 4 [[(.a (.fz (.int .i64 h3_0))), (.a (.fz (.str h3_1))), (.a (.fz (.int .i64 h3_2))), (.a (.fz (.sl false 4 h3_3)))]])), (4, (.arr 4 [[(.a (.fz (.int .i64 h4_0))), (.a (.fz (.str h4_1))), (.a (.fz (.int .i64 h4_2))), (.a (.fz .nils))]])), (5, (.arz 4 h5))], 6⟩ =
    (br (decide ((x32 : Int) < x31)) (((FV.isSl 4 x30 = true) ∧ ((0 ≤ x32) ∧ ((x32 < (((List.length (FV.ses x30)) : Nat) : Int)) ∧ (((rE (List.getD (FV.ses x30) (Int.toNat x32) [])) : List FV) = (List.getD (FV.ses x30) (Int.toNat x32) []))))) ∧ (∃ z1 : Tm, ((AC Try.prog 46 [(.agg [(.fn (.func 69) [] [(false, [(.ep 0 1 0 0)]), (false, [(.ep 1 1 0 0)])])]), (aE (List.getD (FV.ses x30) (Int.toNat x32) [])), (.c (.a (.fz (.int .i64 (IntKind.wrap .i64 (x2 + x8))))))] [(.arr 1 [[(.a (.fz (.int .i64 h0_0)))]]), (.arr 1 [[(.a (.fz (.int .i64 h1_0)))]])] (aT z1) [(.arr 1 [[(.a (.fz (.int .i64 h0_0)))]]), (.arr 1 [[(.a (.fz (.int .i64 h1_0)))]])]) ∧ ((1 ≤ 1) ∧ ((x9l ≤ (List.length h5) ∧ roomB (x9l + 1) 56) ∧ (RPt Try.prog 46 2 r Hs' 1 ⟨[(2, (.c (.a (.fz (.int .i64 x2))))), (3, (.c (.a (.ep 2 1 0 0)))), (4, (.c (.a (.ep 3 4 0 0)))), (6, (.c (.a (.ep 4 4 0 0)))), (7, (.c (.a (.fz x7)))), (8, (.c (.a (.fz (.int .i64 x8))))), (9, (.c (.a (.osl 5 4 0 (x9l + 1))))), (30, (.c (.a (.fz x30)))), (31, (.c (.a (.fz (.int .i64 x31))))), (32, (.c (.a (.fz (.int .i64 (IntKind.wrap .i64 (x32 + (1 : Int))))))))], [(0, (.arr 1 [[(.a (.fz (.int .i64 h0_0)))]])), (1, (.arr 1 [[(.a (.fz (.int .i64 h1_0)))]])), (2, (.arr 1 [[(.fn (.func 69) [] [(false, [(.ep 0 1 0 0)]), (false, [(.ep 1 1 0 0)])])]])), (3, (.arr 4 [[(.a (.fz (.int .i64 h3_0))), (.a (.fz (.str h3_1))), (.a (.fz (.int .i64 h3_2))), (.a (.fz (.sl false 4 h3_3)))]])), (4, (.arr 4 [[(.a (.fz (.int .i64 h4_0))), (.a (.fz (.str h4_1))), (.a (.fz (.int .i64 h4_2))), (.a (.fz .nils))]])), (5, (.arz 4 ((List.take x9l h5) ++ [(FT4 z1)])))], 6⟩)))))) (br ((h3_0 : Int) == (6 : Int)) (br (decide ((((x9l : Nat) : Int) : Int) > (1 : Int))) ((0 ≤ (0 : Int) ∧ (0 : Int) < ((x9l : Nat) : Int)) ∧ (((0 < (List.length h5)) ∧ ((([(.int .i64 (FV.asI (List.getD (List.getD h5 0 []) 0 FV.nils)))] : List FV) = (List.take 1 (List.drop 0 (List.getD h5 0 [])))) ∧ ((1 : Nat) = 1))) ∧ (br (((FV.asI (List.getD (List.getD h5 0 []) 0 FV.nils)) : Int) == (6 : Int)) (((FV.isSl 4 x7 = true) ∧ ((0 ≤ (0 : Int)) ∧ (((0 : Int) < (((List.length (FV.ses x7)) : Nat) : Int)) ∧ (((rE (List.getD (FV.ses x7) 0 [])) : List FV) = (List.getD (FV.ses x7) 0 []))))) ∧ (br (((FV.asI (List.getD (List.getD (FV.ses x7) 0 []) 0 FV.nils)) : Int) != (6 : Int)) ((0 ≤ (0 : Int) ∧ (0 : Int) < ((x9l : Nat) : Int)) ∧ (((0 < (List.length h5)) ∧ ((((rE (List.getD h5 0 [])) : List FV) = (List.take 4 (List.drop 0 (List.getD h5 0 [])))) ∧ ((4 : Nat) = 4))) ∧ (((0 ≤ (1 : Int)) ∧ (((1 : Int) ≤ ((x9l : Nat) : Int)) ∧ (((x9l : Nat) : Int) ≤ ((x9l : Nat) : Int)))) ∧ (((4 : Nat) = 4 ∧ (1 + ((Int.toNat ((x9l : Nat) : Int)) - 1)) ≤ (List.length h5)) ∧ (∃ z2 : Tm, ((AC Try.prog 52 [(aE (List.getD h5 0 [])), (.c (.a (.fz (.sl false 4 (List.take ((Int.toNat ((x9l : Nat) : Int)) - 1) (List.drop 1 h5))))))] [] (aT z2) []) ∧ (TV.Le (aT z2) r ∧ [(.arr 1 [[(.a (.fz (.int .i64 h0_0)))]]), (.arr 1 [[(.a (.fz (.int .i64 h1_0)))]])] = Hs'))))))) (((4 : Nat) = 4 ∧ (0 + x9l) ≤ (List.length h5)) ∧ (TV.Le (.agg [(.a (.fz (.int .i64 h3_0))), (.a (.fz (.str h3_1))), (.a (.fz (.int .i64 h3_2))), (.a (.fz (.sl false 4 (List.take x9l (List.drop 0 h5)))))]) r ∧ [(.arr 1 [[(.a (.fz (.int .i64 h0_0)))]]), (.arr 1 [[(.a (.fz (.int .i64 h1_0)))]])] = Hs')))) (((4 : Nat) = 4 ∧ (0 + x9l) ≤ (List.length h5)) ∧ (TV.Le (.agg [(.a (.fz (.int .i64 h3_0))), (.a (.fz (.str h3_1))), (.a (.fz (.int .i64 h3_2))), (.a (.fz (.sl false 4 (List.take x9l (List.drop 0 h5)))))]) r ∧ [(.arr 1 [[(.a (.fz (.int .i64 h0_0)))]]), (.arr 1 [[(.a (.fz (.int .i64 h1_0)))]])] = Hs'))))) (((4 : Nat) = 4 ∧ (0 + x9l) ≤ (List.length h5)) ∧ (TV.Le (.agg [(.a (.fz (.int .i64 h3_0))), (.a (.fz (.str h3_1))), (.a (.fz (.int .i64 h3_2))), (.a (.fz (.sl false 4 (List.take x9l (List.drop 0 h5)))))]) r ∧ [(.arr 1 [[(.a (.fz (.int .i64 h0_0)))]]), (.arr 1 [[(.a (.fz (.int .i64 h1_0)))]])] = Hs'))) (((4 : Nat) = 4 ∧ (0 + x9l) ≤ (List.length h5)) ∧ (TV.Le (.agg [(.a (.fz (.int .i64 h3_0))), (.a (.fz (.str h3_1))), (.a (.fz (.int .i64 h3_2))), (.a (.fz (.sl false 4 (List.take x9l (List.drop 0 h5)))))]) r ∧ [(.arr 1 [[(.a (.fz (.int .i64 h0_0)))]]), (.arr 1 [[(.a (.fz (.int .i64 h1_0)))]])] = Hs')))) := by kernel_rfl
/-- lambent/term.Shift$1 -/
def lv69 : List (Nat × List Nat) := []
theorem v69 (u_0 : Int) (u_1 : List UInt8) (u_2 : Int) (u_3 : List (List FV)) (k : Int) (o0_0 : Int) (o1_0 : Int) (r : TV) (Hs' : List AObj) : vcE Try.prog sh lv69 69 [(.agg [(.a (.fz (.int .i64 u_0))), (.a (.fz (.str u_1))), (.a (.fz (.int .i64 u_2))), (.a (.fz (.sl false 4 u_3)))]), (.c (.a (.fz (.int .i64 k)))), (.c (.a (.ep 0 1 0 0))), (.c (.a (.ep 1 1 0 0)))] [(.arr 1 [[(.a (.fz (.int .i64 o0_0)))]]), (.arr 1 [[(.a (.fz (.int .i64 o1_0)))]])] (fun r0 Hs0 => TV.Le r0 r ∧ Hs0 = Hs') (RPt Try.prog 69 2 r Hs') =
    (br ((u_0 : Int) == (3 : Int)) (br (decide ((u_2 : Int) ≥ (IntKind.wrap .i64 (k + o0_0)))) (∃ z1 : Tm, ((AC Try.prog 70 [(.agg [(.a (.fz (.int .i64 u_0))), (.a (.fz (.str u_1))), (.a (.fz (.int .i64 u_2))), (.a (.fz (.sl false 4 u_3)))]), (.c (.a (.fz (.int .i64 o1_0))))] [] (aT z1) []) ∧ (TV.Le (aT z1) r ∧ [(.arr 1 [[(.a (.fz (.int .i64 o0_0)))]]), (.arr 1 [[(.a (.fz (.int .i64 o1_0)))]])] = Hs'))) (TV.Le (.agg [(.a (.fz (.int .i64 u_0))), (.a (.fz (.str u_1))), (.a (.fz (.int .i64 u_2))), (.a (.fz (.sl false 4 u_3)))]) r ∧ [(.arr 1 [[(.a (.fz (.int .i64 o0_0)))]]), (.arr 1 [[(.a (.fz (.int .i64 o1_0)))]])] = Hs')) (TV.Le (.agg [(.a (.fz (.int .i64 u_0))), (.a (.fz (.str u_1))), (.a (.fz (.int .i64 u_2))), (.a (.fz (.sl false 4 u_3)))]) r ∧ [(.arr 1 [[(.a (.fz (.int .i64 o0_0)))]]), (.arr 1 [[(.a (.fz (.int .i64 o1_0)))]])] = Hs')) := by kernel_rfl
/-- lambent/term.moved -/
def lv70 : List (Nat × List Nat) := []
theorem v70 (t_0 : Int) (t_1 : List UInt8) (t_2 : Int) (t_3 : List (List FV)) (a1 : Int) (r : TV) (Hs' : List AObj) : vcE Try.prog sh lv70 70 [(.agg [(.a (.fz (.int .i64 t_0))), (.a (.fz (.str t_1))), (.a (.fz (.int .i64 t_2))), (.a (.fz (.sl false 4 t_3)))]), (.c (.a (.fz (.int .i64 a1))))] [] (fun r0 Hs0 => TV.Le r0 r ∧ Hs0 = Hs') (RPt Try.prog 70 0 r Hs') =
    (TV.Le (.agg [(.a (.fz (.int .i64 t_0))), (.a (.fz (.str t_1))), (.a (.fz (.int .i64 (IntKind.wrap .i64 (t_2 + a1))))), (.a (.fz (.sl false 4 t_3)))]) r ∧ [] = Hs') := by kernel_rfl
-- COV 6 7 8 9 10 11 12 13 16 17 18 19 23 25 26 27 28 29 30 31 34 37 38 39 40 41 42 43 44 45 46 47 48 49 50 51 52 53 54 55 60 61 62 63 64 65 66 67 68 69 70 71 72 73 74 75 77 78 79 80 81 82 83 84 85
end Go.AM

set_option maxRecDepth 100000
open Go Go.Proofs

set_option maxRecDepth 100000
open Go Go.Proofs

set_option maxRecDepth 100000
open Go Go.Proofs
namespace Go.AM

/-! ### Package lex -/
def smallB (c : Int) : Bool := decide (97 ≤ c) && decide (c ≤ 122)
def greatB (c : Int) : Bool := decide (65 ≤ c) && decide (c ≤ 90) || c == 95
def digitB (c : Int) : Bool := decide (48 ≤ c) && decide (c ≤ 57)
def insideB (c : Int) : Bool := smallB c || greatB c || digitB c || c == 39
def signs : List UInt8 := [43, 45, 42, 47, 60, 62, 61, 38, 124, 94, 126, 64, 35, 36, 63, 58]
def signB (c : Int) : Bool := decide (Lib.indexByte signs c.toNat.toUInt8 ≥ 0)

theorem c_small (c : Int) : AC Try.prog 61 [c8 c] [] (cb (smallB c)) [] := by
  refine AC.vc hP sh lv61 (Nat.le_refl _) (by simp) (by simp) (Eq.mpr (v61 ..) ?_)
  refine br_of (fun h => ret_b ?_) (fun h => ret_b ?_) <;> simp_all [smallB] <;> omega
theorem c_great (c : Int) : AC Try.prog 77 [c8 c] [] (cb (greatB c)) [] := by
  refine AC.vc hP sh lv77 (Nat.le_refl _) (by simp) (by simp) (Eq.mpr (v77 ..) ?_)
  refine br_of (fun h => br_of (fun h => ret_b ?_) (fun h => ret_b ?_)) (fun h => ret_b ?_) <;> simp_all [greatB] <;> omega
theorem c_digit (c : Int) : AC Try.prog 78 [c8 c] [] (cb (digitB c)) [] := by
  refine AC.vc hP sh lv78 (Nat.le_refl _) (by simp) (by simp) (Eq.mpr (v78 ..) ?_)
  refine br_of (fun h => ret_b ?_) (fun h => ret_b ?_) <;> simp_all [digitB] <;> omega
theorem c_inside (c : Int) : AC Try.prog 63 [c8 c] [] (cb (insideB c)) [] := by
  refine AC.vc hP sh lv63 (Nat.le_refl _) (by simp) (by simp) (Eq.mpr (v63 ..) ?_)
  refine ⟨_, c_small c, br_of (fun h => ret_b ?_) (fun h => ⟨_, c_great c, br_of (fun h => ret_b ?_) (fun h => ⟨_, c_digit c, br_of (fun h => ret_b ?_) (fun h => ret_b ?_)⟩)⟩)⟩ <;> simp_all [insideB]
theorem c_lindexbyte (s : List UInt8) (c : Int) : AC Try.prog 83 [cs s, c8 c] [] (ci (Lib.indexByte s c.toNat.toUInt8)) [] :=
  AC.str_u8 (by kernel_rfl) fun w => Try.stringslite_IndexByte ⟨s.toArray⟩ c w
theorem c_indexbyte (s : List UInt8) (c : Int) : AC Try.prog 79 [cs s, c8 c] [] (ci (Lib.indexByte s c.toNat.toUInt8)) [] :=
  AC.str_u8 (by kernel_rfl) fun w => Try.strings_IndexByte ⟨s.toArray⟩ c w
theorem c_sign (c : Int) : AC Try.prog 64 [c8 c] [] (cb (signB c)) [] := by
  refine AC.vc hP sh lv64 (Nat.le_refl _) (by simp) (by simp) (Eq.mpr (v64 ..) ?_)
  exact ⟨_, c_indexbyte _ c, ret_b rfl⟩

/-- How many bytes a text begins with that are such. -/
def runN (p : Int → Bool) : List UInt8 → Nat
  | [] => 0
  | c :: s => if p (c.toNat : Int) then runN p s + 1 else 0
theorem runN_le (p : Int → Bool) : ∀ s : List UInt8, runN p s ≤ s.length
  | [] => Nat.le_refl _
  | c :: s => by have := runN_le p s; simp only [runN, List.length_cons]; split <;> omega
theorem gD_mid8 (a : List UInt8) (c : UInt8) (b : List UInt8) : List.getD (a ++ c :: b) (Int.toNat (a.length : Int)) 0 = c := by simp [List.getD]
theorem l_run_inside : ∀ (b a : List UInt8), (a ++ b).length ≤ B → RPt Try.prog 62 0 (ci ((a.length : Int) + runN insideB b)) [] 1 ⟨[(0, cs (a ++ b)), (1, .c (.fn (.func 63) [] [])), (7, ci (((a ++ b).length : Nat) : Int)), (8, ci a.length)], [], 0⟩
  | [], a, hl => by
    refine RPt.vc hP sh lv62 (Eq.mpr (v62_F63_1a ..) ?_)
    exact br_of (fun h => absurd h (by simp)) (fun _ => ret_i (by simp [runN]))
  | c :: b, a, hl => by
    refine RPt.vc hP sh lv62 (Eq.mpr (v62_F63_1a ..) ?_)
    have hl' := hl
    simp only [List.length_append, List.length_cons, B] at hl'
    refine br_of (fun _ => ⟨⟨by omega, by simp; omega⟩, insideB (c.toNat : Int), ?_, br_of (fun h => ret_i ?_) (fun h => ?_)⟩) (fun h => absurd h (by simp; omega))
    · rw [gD_mid8]; exact c_inside _
    · simp_all [runN]
    · have := l_run_inside b (a ++ [c]) (by simpa using hl)
      rw [w64 (by omega) (by omega)]
      simp only [List.append_assoc, List.cons_append, List.nil_append, List.length_append, List.length_cons, List.length_nil, Int.natCast_add, Int.natCast_one, Int.natCast_zero, Int.zero_add] at this
      simp only [Bool.not_eq_false'] at h
      simp only [runN, h, if_true, List.length_append, List.length_cons, Int.natCast_add, Int.natCast_one]
      rw [show (a.length : Int) + ((runN insideB b : Nat) + 1 : Int) = (a.length : Int) + 1 + (runN insideB b : Nat) by omega]
      exact this
theorem c_run_inside (s : List UInt8) (h : s.length ≤ B) : AC Try.prog 62 [cs s, .c (.fn (.func 63) [] [])] [] (ci (runN insideB s)) [] := by
  refine AC.vc hP sh lv62 (Nat.le_refl _) (by simp) (by simp) (Eq.mpr (v62_F63 ..) ?_)
  have := l_run_inside s [] (by simpa using h)
  simpa using this
theorem l_run_sign : ∀ (b a : List UInt8), (a ++ b).length ≤ B → RPt Try.prog 62 0 (ci ((a.length : Int) + runN signB b)) [] 1 ⟨[(0, cs (a ++ b)), (1, .c (.fn (.func 64) [] [])), (7, ci (((a ++ b).length : Nat) : Int)), (8, ci a.length)], [], 0⟩
  | [], a, hl => by
    refine RPt.vc hP sh lv62 (Eq.mpr (v62_F64_1a ..) ?_)
    exact br_of (fun h => absurd h (by simp)) (fun _ => ret_i (by simp [runN]))
  | c :: b, a, hl => by
    refine RPt.vc hP sh lv62 (Eq.mpr (v62_F64_1a ..) ?_)
    have hl' := hl
    simp only [List.length_append, List.length_cons, B] at hl'
    refine br_of (fun _ => ⟨⟨by omega, by simp; omega⟩, signB (c.toNat : Int), ?_, br_of (fun h => ret_i ?_) (fun h => ?_)⟩) (fun h => absurd h (by simp; omega))
    · rw [gD_mid8]; exact c_sign _
    · simp_all [runN]
    · have := l_run_sign b (a ++ [c]) (by simpa using hl)
      rw [w64 (by omega) (by omega)]
      simp only [List.append_assoc, List.cons_append, List.nil_append, List.length_append, List.length_cons, List.length_nil, Int.natCast_add, Int.natCast_one, Int.natCast_zero, Int.zero_add] at this
      simp only [Bool.not_eq_false'] at h
      simp only [runN, h, if_true, List.length_append, List.length_cons, Int.natCast_add, Int.natCast_one]
      rw [show (a.length : Int) + ((runN signB b : Nat) + 1 : Int) = (a.length : Int) + 1 + (runN signB b : Nat) by omega]
      exact this
theorem c_run_sign (s : List UInt8) (h : s.length ≤ B) : AC Try.prog 62 [cs s, .c (.fn (.func 64) [] [])] [] (ci (runN signB s)) [] := by
  refine AC.vc hP sh lv62 (Nat.le_refl _) (by simp) (by simp) (Eq.mpr (v62_F64 ..) ?_)
  have := l_run_sign s [] (by simpa using h)
  simpa using this

theorem runN_all (p : Int → Bool) : ∀ s : List UInt8, (((runN p s : Nat) : Int) == ((s.length : Nat) : Int)) = s.all fun c => p (c.toNat : Int)
  | [] => rfl
  | c :: s => by
    have ih := runN_all p s
    have := runN_le p s
    simp only [runN, List.all_cons, List.length_cons]
    cases h : p (c.toNat : Int) with
    | true => rw [← ih]; simp only [if_true, Bool.true_and]; rw [Bool.eq_iff_iff]; simp <;> omega
    | false => simp; omega
def fitsB (s : List UInt8) : Bool := !(s == []) && decide ((s.length : Int) ≤ 32)
theorem c_fits (s : List UInt8) : AC Try.prog 60 [cs s] [] (cb (fitsB s)) [] := by
  refine AC.vc hP sh lv60 (Nat.le_refl _) (by simp) (by simp) (Eq.mpr (v60 ..) ?_)
  refine br_of (fun h => ret_b ?_) (fun h => ret_b ?_) <;> simp_all [fitsB]
/-- A name. -/
def isName (s : List UInt8) : Bool := fitsB s && smallB ((s.getD 0 0).toNat : Int) && s.all fun c => insideB (c.toNat : Int)
theorem fits_le {s : List UInt8} (h : fitsB s = true) : 0 < s.length ∧ s.length ≤ 32 := by
  simp only [fitsB, Bool.and_eq_true, Bool.not_eq_true', decide_eq_true_eq] at h
  refine ⟨?_, by omega⟩
  cases s with
  | nil => simp at h
  | cons c s => simp
theorem c_isname (s : List UInt8) : AC Try.prog 37 [cs s] [] (cb (isName s)) [] := by
  refine AC.vc hP sh lv37 (Nat.le_refl _) (by simp) (by simp) (Eq.mpr (v37 ..) ?_)
  refine ⟨_, c_fits s, br_of (fun h => ⟨⟨by omega, by have := fits_le h; omega⟩, _, c_small _, br_of (fun h2 => ⟨_, c_run_inside s (by have := fits_le h; simp only [B]; omega), ret_b ?_⟩) (fun h2 => ret_b ?_)⟩) (fun h => ret_b ?_)⟩
  · rw [runN_all]; simp only [isName, h, h2, Bool.true_and]
  · simp only [isName, h, h2, Bool.and_false, Bool.false_and]
  · simp only [isName, h, Bool.false_and]
def singles : List UInt8 := [44, 59, 33]
theorem c_contains1 (s : List UInt8) (c : UInt8) (hs : s.length ≤ B) : AC Try.prog 65 [cs s, cs [c]] [] (cb (decide (Lib.indexByte s c ≥ 0))) [] := by
  have hb : (c.toNat : Int).toNat.toUInt8 = c := by simp
  have h1 : AC Try.prog 84 [cs s, cs [c]] [] (ci (if [c] == s then 0 else Lib.indexByte s c)) [] := by
    refine AC.vc hP sh lv84 (Nat.le_refl _) (by simp) (by simp) (Eq.mpr (v84 ..) ?_)
    refine br_of (fun h => absurd h (by simp)) (fun _ => br_of (fun h => ret_i (by simp [h])) (fun h => br_of (fun _ => ⟨⟨by omega, by simp⟩, _, c_lindexbyte s _, ret_i ?_⟩) (fun h2 => absurd h2 (by simp))))
    rw [h]
    simp
  have h2 : AC Try.prog 80 [cs s, cs [c]] [] (ci (if [c] == s then 0 else Lib.indexByte s c)) [] := by
    refine AC.vc hP sh lv80 (Nat.le_refl _) (by simp) (by simp) (Eq.mpr (v80 ..) ?_)
    exact ⟨_, h1, ret_i rfl⟩
  refine AC.vc hP sh lv65 (Nat.le_refl _) (by simp) (by simp) (Eq.mpr (v65 ..) ?_)
  refine ⟨_, h2, ret_b ?_⟩
  by_cases e : [c] = s
  · subst e
    simp [Lib.indexByte]
  · have : ([c] == s) = false := by simpa using e
    rw [this]; simp
def isSym (s : List UInt8) : Bool := fitsB s && ((s.all fun c => signB (c.toNat : Int)) || ((s.length : Int) == 1 && decide (Lib.indexByte singles (s.getD 0 0) ≥ 0)))
theorem c_issym (s : List UInt8) : AC Try.prog 38 [cs s] [] (cb (isSym s)) [] := by
  refine AC.vc hP sh lv38 (Nat.le_refl _) (by simp) (by simp) (Eq.mpr (v38 ..) ?_)
  refine ⟨_, c_fits s, br_of (fun h => ⟨_, c_run_sign s (by have := fits_le h; simp only [B]; omega), br_of (fun h2 => ret_b ?_) (fun h2 => br_of (fun h3 => ?_) (fun h3 => ret_b ?_))⟩) (fun h => ret_b ?_)⟩
  · rw [runN_all] at h2; simp only [isSym, h, h2, Bool.true_and, Bool.true_or]
  · rw [runN_all] at h2
    match s, h3 with
    | [c], h3 =>
      refine ⟨_, c_contains1 singles c (by simp [singles, B]), ret_b ?_⟩
      simp only [isSym, h, h2, h3, Bool.true_and, Bool.false_or, List.getD_cons_zero]
    | [], h3 => simp at h3
    | _ :: _ :: _, h3 => simp at h3; omega
  · rw [runN_all] at h2; simp only [isSym, h, h2, h3, Bool.false_and, Bool.false_or, Bool.and_false]
  · simp only [isSym, h, Bool.false_and]

end Go.AM

set_option maxRecDepth 100000
open Go Go.Proofs
namespace Go.AM

/-! ### What is looked at -/
mutual
def near (most : Int) : Tm → Bool
  | .mk k _ n l => !(k != 2 && (decide (n > most) || decide (n < 0 - most))) && nears most l
def nears (most : Int) : List Tm → Bool
  | [] => true
  | t :: l => near most t && nears most l
end
theorem l_near (most : Int) (k : Int) (s : List UInt8) (n : Int) : ∀ (b a : List Tm), (∀ u ∈ b, AC Try.prog 9 [aT u, ci most] [] (cb (near most u)) []) → (a ++ b).length ≤ B →
    RPt Try.prog 9 0 (cb (nears most b)) [] 1 ⟨[(1, ci most), (2, (.c (.a (.ep 0 4 0 0)))), (5, ci a.length)], [(0, (.arr 4 [fzs (FT (.mk k s n (a ++ b)))]))], 1⟩
  | [], a, _, hl => by
    refine RPt.vc hP sh lv9 (Eq.mpr (v9_1a ..) ?_)
    exact ⟨rfl, br_of (fun h => absurd (of_decide_eq_true h) (geI' a)) (fun _ => ret_b rfl)⟩
  | t :: b, a, ih, hl => by
    refine RPt.vc hP sh lv9 (Eq.mpr (v9_1a ..) ?_)
    have hl' := hl
    simp only [List.length_append, List.length_cons, B] at hl'
    refine ⟨rfl, br_of (fun _ => ?_) (fun h => absurd (ltI' a t b) (of_decide_eq_false h))⟩
    have h1 := ih t List.mem_cons_self
    have h2 := l_near most k s n b (a ++ [t]) (fun u hu => ih u (List.mem_cons_of_mem _ hu)) (by rw [ap]; exact hl)
    have h3 := ltI' a t b
    rw [ap, nx] at h2
    rw [midI, w64 (by omega) (by omega)]
    obtain ⟨k', s', n', l'⟩ := t
    refine ⟨⟨rfl, by omega, h3, rfl⟩, _, h1, br_of (fun h => ret_b ?_) (fun h => ?_)⟩
    · simp_all [nears]
    · simp only [nears, show near most (.mk k' s' n' l') = true by simpa using h, Bool.true_and]; exact h2
theorem c_near (most : Int) (h0 : 0 ≤ most) (h1 : most ≤ 4611686018427387904) : ∀ t : Tm, t.sz ≤ B → AC Try.prog 9 [aT t, ci most] [] (cb (near most t)) [] := by
  refine Tm.ind fun t ih hs => ?_
  obtain ⟨k, s, n, l⟩ := t
  have hl := Tm.szs_length l
  simp only [Tm.sz, B] at hs
  refine AC.vc hP sh lv9 (Nat.le_refl _) (by simp) (by simp) (Eq.mpr (v9 k s n (FTs l) most _ _) ?_)
  have key := l_near most k s n l [] (fun u hu => ih u hu (by have := Tm.szs_mem hu; simp only [B]; omega)) (by simp only [List.nil_append, B]; omega)
  rw [w64 (by omega) (by omega)]
  rw [near]
  refine br_of (fun h => br_of (fun h2 => ret_b ?_) (fun h2 => br_of (fun h3 => ret_b ?_) (fun h3 => ?_))) (fun h => ?_)
  · simp only [h, h2, Bool.true_or, Bool.and_true, Bool.not_true, Bool.false_and]
  · simp only [h, h3, Bool.or_true, Bool.and_true, Bool.not_true, Bool.false_and]
  · simp only [h2, h3, Bool.or_false, Bool.and_false, Bool.not_false, Bool.true_and]; exact key
  · simp only [h, Bool.false_and, Bool.not_false, Bool.true_and]; exact key

mutual
def leftF : Tm → Int → Int
  | .mk _ _ _ l, most => leftL l (most - 1)
def leftL : List Tm → Int → Int
  | [], n => n
  | t :: l, n => if n ≥ 0 then leftL l (leftF t n) else n
end
mutual
theorem leftF_le : ∀ (t : Tm) (n : Int), leftF t n ≤ n - 1 ∧ (0 ≤ n → -1 ≤ leftF t n)
  | .mk _ _ _ l, n => by
    have h := leftL_le l (n - 1)
    simp only [leftF]
    exact ⟨h.1, fun hn => h.2 (by omega)⟩
theorem leftL_le : ∀ (l : List Tm) (n : Int), leftL l n ≤ n ∧ (-1 ≤ n → -1 ≤ leftL l n)
  | [], n => by simp [leftL]
  | t :: l, n => by
    have h1 := leftF_le t n
    have h2 := leftL_le l (leftF t n)
    simp only [leftL]
    split
    · rename_i h; exact ⟨by omega, fun _ => h2.2 (h1.2 h)⟩
    · exact ⟨Int.le_refl _, fun h => h⟩
end
theorem l_left (k : Int) (s : List UInt8) (n : Int) : ∀ (b a : List Tm) (m : Int), (∀ u ∈ b, ∀ m : Int, 0 ≤ m → m ≤ 4611686018427387904 → AC Try.prog 28 [aT u, ci m] [] (ci (leftF u m)) []) → (a ++ b).length ≤ B → m ≤ 4611686018427387904 →
    RPt Try.prog 28 0 (ci (leftL b m)) [] 1 ⟨[(2, (.c (.a (.ep 0 4 0 0)))), (5, ci m), (6, ci a.length)], [(0, (.arr 4 [fzs (FT (.mk k s n (a ++ b)))]))], 1⟩
  | [], a, m, _, hl, hm => by
    refine RPt.vc hP sh lv28 (Eq.mpr (v28_1a ..) ?_)
    exact ⟨rfl, br_of (fun h => absurd (of_decide_eq_true h) (geI' a)) (fun _ => ret_i rfl)⟩
  | t :: b, a, m, ih, hl, hm => by
    refine RPt.vc hP sh lv28 (Eq.mpr (v28_1a ..) ?_)
    have hl' := hl
    simp only [List.length_append, List.length_cons, B] at hl'
    refine ⟨rfl, br_of (fun _ => br_of (fun hm0 => ?_) (fun hm0 => ret_i ?_)) (fun h => absurd (ltI' a t b) (of_decide_eq_false h))⟩
    · have hm0 := of_decide_eq_true hm0
      have h1 := ih t List.mem_cons_self m hm0 hm
      have hle := leftF_le t m
      have h2 := l_left k s n b (a ++ [t]) (leftF t m) (fun u hu => ih u (List.mem_cons_of_mem _ hu)) (by rw [ap]; exact hl) (by omega)
      have h3 := ltI' a t b
      rw [ap, nx] at h2
      rw [midI, w64 (by omega) (by omega)]
      simp only [leftL, hm0, if_true]
      obtain ⟨k', s', n', l'⟩ := t
      exact ⟨⟨rfl, by omega, h3, rfl⟩, _, h1, h2⟩
    · have hm0 := of_decide_eq_false hm0
      simp only [leftL, hm0, if_false]
theorem c_left : ∀ t : Tm, t.sz ≤ B → ∀ m : Int, 0 ≤ m → m ≤ 4611686018427387904 → AC Try.prog 28 [aT t, ci m] [] (ci (leftF t m)) [] := by
  refine Tm.ind fun t ih hs m h0 h1 => ?_
  obtain ⟨k, s, n, l⟩ := t
  have hl := Tm.szs_length l
  simp only [Tm.sz, B] at hs
  refine AC.vc hP sh lv28 (Nat.le_refl _) (by simp) (by simp) (Eq.mpr (v28 k s n (FTs l) m _ _) ?_)
  rw [w64 (by omega) (by omega)]
  exact l_left k s n l [] (m - 1) (fun u hu => ih u hu (by have := Tm.szs_mem hu; simp only [B]; omega)) (by simp only [List.nil_append, B]; omega) (by omega)
def large (t : Tm) (most : Int) : Bool := decide (leftF t most < 0)
theorem c_large (t : Tm) (hs : t.sz ≤ B) (m : Int) (h0 : 0 ≤ m) (h1 : m ≤ 4611686018427387904) : AC Try.prog 8 [aT t, ci m] [] (cb (large t m)) [] := by
  have h := c_left t hs m h0 h1
  obtain ⟨k, s, n, l⟩ := t
  refine AC.vc hP sh lv8 (Nat.le_refl _) (by simp) (by simp) (Eq.mpr (v8 k s n (FTs l) m _ _) ?_)
  exact ⟨_, h, ret_b rfl⟩

mutual
def longB : Tm → Bool
  | .mk _ s _ l => decide (60 < (s.length : Int)) || longL l
def longL : List Tm → Bool
  | [] => false
  | t :: l => longB t || longL l
end
def overB (t : Tm) : Bool := large t 80 || longB t || !near 1099511627776 t
def rowL (l : List Tm) : Bool := decide ((l.length : Int) > 8) || l.any overB
/-! ### The same -/
mutual
def sameB : Tm → Tm → Bool
  | .mk k s n l, .mk k' s' n' l' => k == k' && (s == s' && (n == n' && sameL l l'))
def sameL : List Tm → List Tm → Bool
  | [], [] => true
  | t :: l, u :: m => sameB t u && sameL l m
  | _, _ => false
end
mutual
theorem sameB_iff : ∀ a b : Tm, sameB a b = true ↔ a = b
  | .mk k s n l, .mk k' s' n' l' => by simp only [sameB, Bool.and_eq_true, beq_iff_eq, Tm.mk.injEq, sameL_iff l l']
theorem sameL_iff : ∀ a b : List Tm, sameL a b = true ↔ a = b
  | [], [] => by simp [sameL]
  | t :: l, u :: m => by simp only [sameL, Bool.and_eq_true, List.cons.injEq, sameB_iff t u, sameL_iff l m]
  | [], _ :: _ => by simp [sameL]
  | _ :: _, [] => by simp [sameL]
end
theorem sameL_len : ∀ {a b : List Tm}, a.length ≠ b.length → sameL a b = false
  | [], [], h => absurd rfl h
  | t :: l, u :: m, h => by simp only [sameL, sameL_len (a := l) (b := m) (fun e => h (by simp [e])), Bool.and_false]
  | [], _ :: _, _ => rfl
  | _ :: _, [], _ => rfl
theorem l_same (k : Int) (s : List UInt8) (n : Int) (k' : Int) (s' : List UInt8) (n' : Int) : ∀ (b a b' a' : List Tm), (∀ u ∈ b, ∀ v ∈ b', AC Try.prog 16 [aT u, aT v] [] (cb (sameB u v)) []) → (a ++ b).length ≤ B → a.length = a'.length → b.length = b'.length →
    RPt Try.prog 16 0 (cb (sameL b b')) [] 1 ⟨[(2, (.c (.a (.ep 0 4 0 0)))), (3, (.c (.a (.ep 1 4 0 0)))), (5, ci a.length)], [(0, (.arr 4 [fzs (FT (.mk k s n (a ++ b)))])), (1, (.arr 4 [fzs (FT (.mk k' s' n' (a' ++ b')))]))], 2⟩
  | [], a, [], a', _, hl, _, _ => by
    refine RPt.vc hP sh lv16 (Eq.mpr (v16_1a ..) ?_)
    exact ⟨rfl, br_of (fun h => absurd (of_decide_eq_true h) (geI' a)) (fun _ => ret_b rfl)⟩
  | t :: b, a, u :: b', a', ih, hl, ha, hb => by
    refine RPt.vc hP sh lv16 (Eq.mpr (v16_1a ..) ?_)
    have hl' := hl
    simp only [List.length_append, List.length_cons, B] at hl'
    refine ⟨rfl, br_of (fun _ => ?_) (fun h => absurd (ltI' a t b) (of_decide_eq_false h))⟩
    have h1 := ih t List.mem_cons_self u List.mem_cons_self
    have h2 := l_same k s n k' s' n' b (a ++ [t]) b' (a' ++ [u]) (fun x hx y hy => ih x (List.mem_cons_of_mem _ hx) y (List.mem_cons_of_mem _ hy)) (by rw [ap]; exact hl) (by simp [ha]) (by simpa using hb)
    have h3 := ltI' a t b
    have h4 := ltI' a' u b'
    rw [← ha] at h4
    rw [ap, ap, nx] at h2
    rw [midI, midI' a a' ha, w64 (by omega) (by omega)]
    obtain ⟨k1, s1, n1, l1⟩ := t
    obtain ⟨k2, s2, n2, l2⟩ := u
    refine ⟨⟨rfl, by omega, h3, rfl⟩, ⟨rfl, by omega, h4, rfl⟩, _, h1, br_of (fun h => ret_b ?_) (fun h => ?_)⟩
    · rw [sameL, show sameB (.mk k1 s1 n1 l1) (.mk k2 s2 n2 l2) = false by simpa using h, Bool.false_and]
    · rw [sameL, show sameB (.mk k1 s1 n1 l1) (.mk k2 s2 n2 l2) = true by simpa using h, Bool.true_and]; exact h2
theorem c_rsame : ∀ a : Tm, a.sz ≤ B → ∀ b : Tm, AC Try.prog 16 [aT a, aT b] [] (cb (sameB a b)) [] := by
  refine Tm.ind fun a ih hs b => ?_
  obtain ⟨k, s, n, l⟩ := a
  obtain ⟨k', s', n', l'⟩ := b
  have hl := Tm.szs_length l
  simp only [Tm.sz, B] at hs
  refine AC.vc hP sh lv16 (Nat.le_refl _) (by simp) (by simp) (Eq.mpr (v16 k s n (FTs l) k' s' n' (FTs l') _ _) ?_)
  have key := fun he => l_same k s n k' s' n' l [] l' [] (fun u hu v _ => ih u hu (by have := Tm.szs_mem hu; simp only [B]; omega) v) (by simp only [List.nil_append, B]; omega) rfl he
  rw [lenI, lenI]
  refine br_of (fun h => ret_b ?_) (fun h => br_of (fun h2 => ret_b ?_) (fun h2 => br_of (fun h3 => ret_b ?_) (fun h3 => ⟨rfl, rfl, br_of (fun h4 => ret_b ?_) (fun h4 => ?_)⟩)))
  · simp only [sameB, show (k == k') = false by simpa using h, Bool.false_and]
  · simp only [sameB, show (s == s') = false by simpa using h2, Bool.false_and, Bool.and_false]
  · simp only [sameB, show (n == n') = false by simpa using h3, Bool.false_and, Bool.and_false]
  · rw [sameB, sameL_len (by intro e; simp [e] at h4)]; simp
  · simp only [sameB, show (k == k') = true by simpa using h, show (s == s') = true by simpa using h2, show (n == n') = true by simpa using h3, Bool.true_and]
    exact key (by have : (l.length : Int) = l'.length := by simpa using h4
                  omega)

/-! ### What is within; how large -/
def Tm.inner (t : Tm) : Bool := t.k == 5 || t.k == 6
def Tm.kids (t : Tm) : List Tm := if t.inner = true then t.l else []
def Tm.by (t : Tm) : Int := if t.k == 5 then 1 else 0

end Go.AM

set_option maxRecDepth 100000
open Go Go.Proofs
namespace Go.AM

/-! ### What is within -/
def kidsV (t : Tm) : FV := if t.inner = true then .sl false 4 (FTs t.l) else .nils
theorem kidsV_ses (t : Tm) : (kidsV t).ses = FTs t.kids ∧ (kidsV t).isSl 4 = true := by
  unfold kidsV Tm.kids
  split <;> exact ⟨rfl, rfl⟩
theorem c_within (t : Tm) : AC Try.prog 67 [aT t] [] (.tup [(false, [.a (.fz (kidsV t))]), (false, [.a (.fz (.int .i64 t.by))])]) [] := by
  obtain ⟨k, s, n, l⟩ := t
  refine AC.vc hP sh lv67 (Nat.le_refl _) (by simp) (by simp) (Eq.mpr (v67 k s n (FTs l) _ _) ?_)
  refine br_of (fun h => ⟨?_, rfl⟩) (fun h => br_of (fun h2 => ⟨?_, rfl⟩) (fun h2 => ⟨?_, rfl⟩))
  · have e1 : kidsV (.mk k s n l) = .sl false 4 (FTs l) := by unfold kidsV Tm.inner; simp only [Tm.k, h, Bool.true_or, if_true, Tm.l]
    have e2 : Tm.by (.mk k s n l) = 1 := by unfold Tm.by; simp only [Tm.k, h, if_true]
    rw [e1, e2]; exact .refl _
  · have e1 : kidsV (.mk k s n l) = .sl false 4 (FTs l) := by unfold kidsV Tm.inner; simp only [Tm.k, h2, Bool.or_true, if_true, Tm.l]
    have e2 : Tm.by (.mk k s n l) = 0 := by unfold Tm.by; simp only [Tm.k, h, Bool.false_eq_true, if_false]
    rw [e1, e2]; exact .refl _
  · have e1 : kidsV (.mk k s n l) = .nils := by unfold kidsV Tm.inner; simp only [Tm.k, h, h2, Bool.or_self, Bool.false_eq_true, if_false]
    have e2 : Tm.by (.mk k s n l) = 0 := by unfold Tm.by; simp only [Tm.k, h, Bool.false_eq_true, if_false]
    rw [e1, e2]; exact .refl _
mutual
def sizeF : Tm → Nat
  | .mk k _ _ l => 1 + if (k == 5 || k == 6) = true then sizeL l else 0
def sizeL : List Tm → Nat
  | [] => 0
  | t :: l => sizeF t + sizeL l
end
theorem sizeF_eq (t : Tm) : sizeF t = 1 + sizeL t.kids := by
  obtain ⟨k, s, n, l⟩ := t
  by_cases h : (k == 5 || k == 6) = true
  · rw [show Tm.kids (.mk k s n l) = l from if_pos h, sizeF, if_pos h]
  · rw [show Tm.kids (.mk k s n l) = [] from if_neg h, sizeF, if_neg h]; rfl
mutual
theorem sizeF_le : ∀ t : Tm, sizeF t ≤ t.sz
  | .mk k s n l => by have := sizeL_le l; simp only [sizeF, Tm.sz]; split <;> omega
theorem sizeL_le : ∀ l : List Tm, sizeL l ≤ Tm.szs l
  | [] => Nat.le_refl _
  | t :: l => by have := sizeF_le t; have := sizeL_le l; simp only [sizeL, Tm.szs]; omega
end
/-! ### How loose -/
mutual
/-- Numbers of what is bound, up to M. -/
def bd (M : Int) : Tm → Prop
  | .mk k _ n l => (k = 3 → 0 - M ≤ n ∧ n ≤ M) ∧ bds M l
def bds (M : Int) : List Tm → Prop
  | [] => True
  | t :: l => bd M t ∧ bds M l
end
theorem bds_mem {M : Int} : ∀ {l : List Tm} {t : Tm}, bds M l → t ∈ l → bd M t
  | x :: l, t, h, ht => by
    rcases List.mem_cons.1 ht with rfl | ht
    · exact h.1
    · exact bds_mem h.2 ht
theorem bd_l {M : Int} {t : Tm} (h : bd M t) : bds M t.l := by cases t; exact h.2
def maxI (a b : Int) : Int := if a ≤ b then b else a
theorem foldMax2 (a b : Int) : foldMax [a, b] = maxI a b := by
  simp only [foldMax, List.foldl, maxI, max, maxOfLe]
mutual
def looseF : Tm → Int → Int → Int
  | .mk kd _ n l, k, acc => if (kd == 5) = true then looseL l (k + 1) acc else if (kd == 6) = true then looseL l k acc else if (kd == 3) = true then maxI acc (n - k + 1) else acc
def looseL : List Tm → Int → Int → Int
  | [], _, acc => acc
  | t :: l, k, acc => looseL l k (looseF t k acc)
end
abbrev obj1 (n : Int) : AObj := .arr 1 [[.a (.fz (.int .i64 n))]]
end Go.AM

set_option maxRecDepth 100000
open Go Go.Proofs
namespace Go.AM

/-! ### Rows put together -/
theorem c_grow (n : Int) (h0 : 0 ≤ n) (h1 : n ≤ 2199023255552) : (n = 0 → AC Try.prog 81 [.c (.a (.fz .nils)), ci n] [] (.c (.a (.fz .nils))) []) ∧
    (n ≠ 0 → AC Try.prog 81 [.c (.a (.fz .nils)), ci n] [] (.c (.a (.osl 0 4 0 0))) [.arz 4 []]) := by
  constructor
  · intro hn
    refine AC.vc hP sh lv81 (Nat.le_refl _) (by simp) (by simp) (Eq.mpr (v81 ..) ?_)
    refine br_of (fun h => absurd (of_decide_eq_true h) (by omega)) (fun _ => ⟨rfl, br_of (fun h => ?_) (fun _ => ret_r (.refl _))⟩)
    rw [w64 (by omega) (by omega)] at h
    exact absurd (of_decide_eq_true h) (by omega)
  · intro hn
    refine AC.vc hP sh lv81 (by simp) (by simp) (by simp [isLive]) (Eq.mpr (v81 ..) ?_)
    rw [w64 (by omega) (by omega)]
    refine br_of (fun h => absurd (of_decide_eq_true h) (by omega)) (fun _ => ⟨rfl, br_of (fun h => ⟨rfl, ⟨by omega, by omega, by omega⟩, ⟨by omega, by unfold roomB; omega⟩, rfl, ⟨by omega, by omega, by omega⟩, .refl _, rfl⟩) (fun h => absurd (of_decide_eq_false h) (by omega))⟩)
/-- Rows of rows. -/
def FLs (ls : List (List Tm)) : List (List FV) := ls.map fun l => [.sl false 4 (FTs l)]
def total (ls : List (List Tm)) : Nat := (ls.map List.length).foldr (· + ·) 0
theorem FLs_length (ls : List (List Tm)) : (FLs ls).length = ls.length := by simp [FLs]
theorem midL (a : List (List Tm)) (l : List Tm) (b : List (List Tm)) : List.getD (FLs (a ++ l :: b)) (Int.toNat (a.length : Int)) [] = [.sl false 4 (FTs l)] := by
  rw [show Int.toNat (a.length : Int) = a.length by omega]
  simp [List.getD, FLs]
theorem ltL (a : List (List Tm)) (t : List Tm) (b : List (List Tm)) : (a.length : Int) < (((FLs (a ++ t :: b)).length : Nat) : Int) := by rw [FLs_length]; exact ltI a t b
theorem total_mid (a : List (List Tm)) (l : List Tm) (b : List (List Tm)) : total (a ++ l :: b) = total a + l.length + total b := by
  induction a with
  | nil => simp [total]
  | cons x a ih => simp only [total, List.cons_append, List.map_cons, List.foldr_cons] at ih ⊢; omega
theorem total_snoc (a : List (List Tm)) (l : List Tm) : total (a ++ [l]) = total a + l.length := by rw [total_mid]; simp [total]
abbrev aLs (ls : List (List Tm)) : TV := .c (.a (.fz (.sl false 1 (FLs ls))))
theorem roomI {n : Nat} (h : n ≤ 2199023255552) : roomB n 56 := by unfold roomB; omega
theorem l_cat3 : ∀ (b a : List (List Tm)) (acc : List Tm), acc.length + total b ≤ 2199023255552 → (a ++ b).length ≤ B →
    RPt Try.prog 72 0 (aL (acc ++ b.flatten)) [] 5 ⟨[(6, (.c (.a (.osl 0 4 0 acc.length)))), (25, aLs (a ++ b)), (26, ci (a ++ b).length), (27, ci a.length)], [(0, (.arz 4 (FTs acc)))], 1⟩
  | [], a, acc, ht, hl => by
    refine RPt.vc hP sh lv72 (Eq.mpr (v72_5b ..) ?_)
    refine br_of (fun h => absurd (of_decide_eq_true h) (by simp)) (fun _ => ⟨⟨rfl, by rw [FTs_length]; omega⟩, ret_r ?_⟩)
    rw [List.drop_zero, List.take_of_length_le (by rw [FTs_length]; omega), List.flatten_nil, List.append_nil]
    exact le_c leSl
  | l :: b, a, acc, ht, hl => by
    refine RPt.vc hP sh lv72 (Eq.mpr (v72_5b ..) ?_)
    have hl' := hl
    have h3 := ltL a l b
    simp only [List.length_append, List.length_cons, B] at hl'
    have ht' : acc.length + (l.length + total b) ≤ 2199023255552 := by simpa [total] using ht
    have h2 := l_cat3 b (a ++ [l]) (acc ++ l) (by rw [List.length_append]; omega) (by rw [ap]; exact hl)
    rw [ap, nx] at h2
    rw [midL, w64 (by omega) (by omega)]
    refine br_of (fun _ => ⟨⟨rfl, by omega, h3, rfl⟩, rfl, ⟨by rw [FTs_length]; omega, ?_⟩, ?_⟩) (fun h => absurd (ltI a l b) (of_decide_eq_false h))
    · show roomB (acc.length + (FTs l).length) 56
      rw [FTs_length]; exact roomI (by omega)
    · show RPt _ _ _ _ _ _ ⟨[(6, (.c (.a (.osl 0 4 0 (acc.length + (FTs l).length))))), _, _, _], [(0, .arz 4 (List.take acc.length (FTs acc) ++ FTs l))], 1⟩
      rw [List.take_of_length_le (by rw [FTs_length]; omega), ← FTs_append, FTs_length, ← List.length_append]
      rw [show acc ++ (l :: b).flatten = acc ++ l ++ b.flatten by simp]
      exact h2
theorem l_cat2 : ∀ (b a : List (List Tm)), total b ≤ 2199023255552 → (a ++ b).length ≤ B →
    RPt Try.prog 72 0 (aL b.flatten) [] 5 ⟨[(6, (.c (.a (.fz .nils)))), (25, aLs (a ++ b)), (26, ci (a ++ b).length), (27, ci a.length)], [], 0⟩
  | [], a, ht, hl => by
    refine RPt.vc hP sh lv72 (Eq.mpr (v72_5a ..) ?_)
    refine br_of (fun h => absurd (of_decide_eq_true h) (by simp)) (fun _ => ret_r (le_c leNil))
  | l :: b, a, ht, hl => by
    refine RPt.vc hP sh lv72 (Eq.mpr (v72_5a ..) ?_)
    have hl' := hl
    have h3 := ltL a l b
    simp only [List.length_append, List.length_cons, B] at hl'
    have ht' : l.length + total b ≤ 2199023255552 := by simpa [total] using ht
    rw [midL, w64 (by omega) (by omega)]
    refine br_of (fun _ => ⟨⟨rfl, by omega, h3, rfl⟩, rfl, ?_⟩) (fun h => absurd (ltI a l b) (of_decide_eq_false h))
    show br (List.isEmpty (FTs l)) _ _
    refine br_of (fun he => ?_) (fun he => ⟨?_, ?_⟩)
    · have h2 := l_cat2 b (a ++ [l]) (by omega) (by rw [ap]; exact hl)
      rw [ap, nx] at h2
      have hnil : l = [] := by cases l with
        | nil => rfl
        | cons x l => simp [FTs] at he
      rw [show (l :: b).flatten = b.flatten by rw [hnil]; simp]
      exact h2
    · show roomB (FTs l).length 56
      rw [FTs_length]; exact roomI (by omega)
    · have h2 := l_cat3 b (a ++ [l]) l (by omega) (by rw [ap]; exact hl)
      rw [ap, nx] at h2
      show RPt _ _ _ _ _ _ ⟨[(6, (.c (.a (.osl 0 4 0 (FTs l).length)))), _, _, _], [(0, .arz 4 (FTs l))], 1⟩
      rw [FTs_length, List.flatten_cons]
      exact h2
theorem l_cat1 : ∀ (b a : List (List Tm)), total (a ++ b) ≤ 2199023255552 → (a ++ b).length ≤ B →
    RPt Try.prog 72 0 (aL (a ++ b).flatten) [] 1 ⟨[(0, aLs (a ++ b)), (3, ci (total a)), (9, aLs (a ++ b)), (10, ci (a ++ b).length), (11, ci a.length)], [], 0⟩
  | [], a, ht, hl => by
    refine RPt.vc hP sh lv72 (Eq.mpr (v72_1a ..) ?_)
    have hg := c_grow (total a : Int) (by omega) (by simp only [List.append_nil] at ht; omega)
    refine br_of (fun h => absurd (of_decide_eq_true h) (by simp)) (fun _ => ?_)
    have e : (((FLs (a ++ [])).length : Nat) : Int) = (((a ++ []).length : Nat) : Int) := by rw [FLs_length]
    rw [e]
    by_cases hz : total a = 0
    · have h2 := l_cat2 (a ++ []) [] (by simpa using ht) (by simpa using hl)
      exact .inl ⟨(), hg.1 (by omega), rfl, by simpa using h2⟩
    · have h2 := l_cat3 (a ++ []) [] [] (by simpa using ht) (by simpa using hl)
      exact .inr ⟨(), hg.2 (by omega), rfl, by simpa [FTs] using h2⟩
  | l :: b, a, ht, hl => by
    refine RPt.vc hP sh lv72 (Eq.mpr (v72_1a ..) ?_)
    have hl' := hl
    have ht' := ht
    have h3 := ltL a l b
    rw [total_mid] at ht'
    simp only [List.length_append, List.length_cons, B] at hl'
    have h2 := l_cat1 b (a ++ [l]) (by rw [ap]; exact ht) (by rw [ap]; exact hl)
    rw [ap, nx, total_snoc] at h2
    rw [midL, w64 (x := (a.length : Int) + 1) (by omega) (by omega)]
    refine br_of (fun _ => ⟨⟨rfl, by omega, h3, rfl⟩, rfl, ?_⟩) (fun h => absurd (ltI a l b) (of_decide_eq_false h))
    show br (decide (IntKind.wrap .i64 ((total a : Int) + (((FTs l).length : Nat) : Int)) < 0)) _ (RPt _ _ _ _ _ _ ⟨[_, (3, ci (IntKind.wrap .i64 ((total a : Int) + (((FTs l).length : Nat) : Int)))), _, _, _], _, _⟩)
    rw [FTs_length, w64 (by omega) (by omega)]
    refine br_of (fun h => absurd (of_decide_eq_true h) (by omega)) (fun _ => ?_)
    simpa using h2
theorem c_concat (ls : List (List Tm)) (ht : total ls ≤ 2199023255552) (hl : ls.length ≤ B) : AC Try.prog 72 [aLs ls] [] (aL ls.flatten) [] := by
  refine AC.vc hP sh lv72 (Nat.le_refl _) (by simp) (by simp) (Eq.mpr (v72 ..) ?_)
  have := l_cat1 ls [] (by simpa using ht) (by simpa using hl)
  have e : (((FLs ls).length : Nat) : Int) = ((ls.length : Nat) : Int) := by rw [FLs_length]
  rw [e]
  exact ⟨rfl, by simpa [total] using this⟩
/-- Two rows, each as it may come. -/
theorem c_concat2 {x y : FV} {l m : List Tm} (hx : FV.Le x (.sl false 4 (FTs l))) (hy : FV.Le y (.sl false 4 (FTs m))) (ht : l.length + m.length ≤ 2199023255552) : AC Try.prog 72 [.c (.a (.fz (.sl false 1 [[x], [y]])))] [] (aL (l ++ m)) [] := by
  have h := c_concat [l, m] (by simpa [total] using ht) (by simp [B])
  rw [show [l, m].flatten = l ++ m by simp] at h
  refine h.args ⟨le_c (.trans _ _ _ (.rows false 1 _ (FLs [l, m]) rfl (fun i e e' he he' => ?_) (fun i j e e' f f' he he' hf hf' => ?_)) (.nn _ _ _)), trivial⟩
  · match i, he, he' with
    | 0, he, he' => simp [FLs] at he he'; subst he; subst he'; rfl
    | 1, he, he' => simp [FLs] at he he'; subst he; subst he'; rfl
    | i + 2, he, he' => simp at he
  · match i, he, he' with
    | 0, he, he' =>
      simp [FLs] at he he'; subst he; subst he'
      match j, hf, hf' with
      | 0, hf, hf' => simp at hf hf'; subst hf; subst hf'; exact hx
      | j + 1, hf, hf' => simp at hf
    | 1, he, he' =>
      simp [FLs] at he he'; subst he; subst he'
      match j, hf, hf' with
      | 0, hf, hf' => simp at hf hf'; subst hf; subst hf'; exact hy
      | j + 1, hf, hf' => simp at hf
    | i + 2, he, he' => simp at he
/-- Applied. -/
def applyF (f : Tm) (args : List Tm) : Tm :=
  match args with
  | [] => f
  | _ => if (f.k == 6) = true ∧ f.l ≠ [] then .mk 6 [] 0 (f.l ++ args) else .mk 6 [] 0 (f :: args)
theorem c_apply (f : Tm) (args : List Tm) (h : f.l.length + args.length < 2199023255552) : AC Try.prog 52 [aT f, aL args] [] (aT (applyF f args)) [] := by
  obtain ⟨k, s, n, l⟩ := f
  simp only [Tm.l] at h
  refine AC.vc hP sh lv52 (Nat.le_refl _) (by simp) (by simp) (Eq.mpr (v52 k s n (FTs l) (FTs args) _ _) ?_)
  refine ⟨rfl, br_of (fun h1 => ?_) (fun h1 => ?_)⟩
  · have : args = [] := by cases args with
      | nil => rfl
      | cons x l => simp [FTs] at h1; omega
    subst this
    exact ret_r (.refl _)
  · match args, h1, h with
    | [], h1, _ => simp [FTs] at h1
    | a :: r, h1, h =>
      have one : FV.Le (.sl false 4 [[.int .i64 k, .str s, .int .i64 n, .sl false 4 (FTs l)]]) (.sl false 4 (FTs [.mk k s n l])) := .nn _ _ _
      have same : ∀ l : List Tm, FV.Le (.sl false 4 (FTs l)) (.sl false 4 (FTs l)) := fun _ => .refl _
      refine br_of (fun h2 => ⟨rfl, br_of (fun h3 => ⟨⟨rfl, by omega⟩, _, c_concat2 (same l) (same (a :: r)) (by omega), ret_r ?_⟩) (fun h3 => ⟨⟨rfl, by omega⟩, ⟨rfl, by omega⟩, _, c_concat2 one (same (a :: r)) (by simp only [List.length_cons, List.length_nil] at h ⊢; omega), ret_r ?_⟩)⟩)
        (fun h2 => ⟨⟨rfl, by omega⟩, ⟨rfl, by omega⟩, _, c_concat2 one (same (a :: r)) (by simp only [List.length_cons, List.length_nil] at h ⊢; omega), ret_r ?_⟩)
      · have hl : l ≠ [] := by intro e; subst e; simp [FTs] at h3
        rw [show applyF (.mk k s n l) (a :: r) = .mk 6 [] 0 (l ++ a :: r) from if_pos ⟨h2, hl⟩]
        exact .refl _
      · have hl : l = [] := by cases l with
          | nil => rfl
          | cons x l => simp [FTs] at h3
        rw [show applyF (.mk k s n l) (a :: r) = .mk 6 [] 0 (.mk k s n l :: a :: r) from if_neg (fun e => e.2 hl)]
        exact .refl _
      · rw [show applyF (.mk k s n l) (a :: r) = .mk 6 [] 0 (.mk k s n l :: a :: r) from if_neg (fun e => by have := e.1; simp only [Tm.k, h2] at this; cases this)]
        exact .refl _

end Go.AM

set_option maxRecDepth 100000
open Go Go.Proofs
namespace Go.AM


/-! ### Through a term -/
def withF (t : Tm) (out : List Tm) : Tm :=
  if (t.k == 6) = true ∧ 1 < out.length ∧ ((out.headD default).k == 6) = true ∧ ((t.l.headD default).k != 6) = true then applyF (out.headD default) out.tail else .mk t.k t.s t.n out
mutual
def walkF (lf : Tm → Int → Tm) : Tm → Int → Tm
  | .mk k s n l, d => if (k == 5 || k == 6) = true then withF (.mk k s n l) (walkL lf l (d + if (k == 5) = true then 1 else 0)) else lf (.mk k s n l) d
def walkL (lf : Tm → Int → Tm) : List Tm → Int → List Tm
  | [], _ => []
  | t :: l, d => walkF lf t d :: walkL lf l d
end


/-! walk.term for Sh -/
abbrev cloSh : TV := .agg [.fn (.func 69) [] [(false, [.ep 0 1 0 0]), (false, [.ep 1 1 0 0])]]
abbrev stSh (fr by1 : Int) (k by_ : Int) (kd : Int) (s : List UInt8) (n : Int) (l : List Tm) (w : AV) (i : Nat) (h : AHeap) (nx : Nat) : St :=
  ⟨[(2, ci k), (3, .c (.a (.ep 2 1 0 0))), (4, .c (.a (.ep 3 4 0 0))), (6, .c (.a (.ep 4 4 0 0))), (7, aL l), (8, ci by_), (9, .c (.a w)), (30, aL l), (31, ci l.length), (32, ci i)],
   [(0, (obj1 fr)), (1, (obj1 by1)), (2, .arr 1 [[.fn (.func 69) [] [(false, [.ep 0 1 0 0]), (false, [.ep 1 1 0 0])]]]), (3, .arr 4 [fzs (FT (.mk kd s n l))]), (4, .arr 4 [[.a (.fz (.int .i64 0)), .a (.fz (.str [])), .a (.fz (.int .i64 0)), .a (.fz .nils)]])] ++ h, nx⟩
theorem l_w2Sh (fr by1 : Int) (lf : Tm → Int → Tm) (k by_ : Int) (h0 : 0 ≤ k) (hk : k ≤ 2305843009213693952) (hb0 : 0 ≤ by_) (hb1 : by_ ≤ 1) (kd : Int) (s : List UInt8) (n : Int) (hin : (kd == 5 || kd == 6) = true) :
    ∀ (b a acc : List Tm), acc ≠ [] → acc.length = a.length → (a ++ b).length ≤ B → (∀ u ∈ acc ++ walkL lf b (k + by_), u.l.length ≤ 2 * B) →
    (∀ u ∈ b, AC Try.prog 46 [cloSh, aT u, ci (k + by_)] [(obj1 fr), (obj1 by1)] (aT (walkF lf u (k + by_))) [(obj1 fr), (obj1 by1)]) →
    RPt Try.prog 46 2 (aT (withF (.mk kd s n (a ++ b)) (acc ++ walkL lf b (k + by_)))) [(obj1 fr), (obj1 by1)] 1 (stSh fr by1 k by_ kd s n (a ++ b) (.osl 5 4 0 acc.length) a.length [(5, .arz 4 (FTs acc))] 6)
  | [], a, acc, hne, hlen, hl, hw, _ => by
    refine RPt.vc hP sh lv46 (Eq.mpr (v46_F69_1b ..) ?_)
    match acc, a, hne, hlen with
    | o :: r, u :: a', _, hlen =>
    have e1 : List.take (o :: r).length (List.drop 0 (FTs (o :: r))) = FTs (o :: r) := by rw [List.drop_zero, List.take_of_length_le (by rw [FTs_length]; omega)]
    have e2 : (0 : Nat) + (o :: r).length ≤ (FTs (o :: r)).length := by rw [FTs_length]; omega
    have hrest : ∀ (k' : Int) (s' : List UInt8) (n' : Int), TV.Le (.agg [.a (.fz (.int .i64 k')), .a (.fz (.str s')), .a (.fz (.int .i64 n')), .a (.fz (.sl false 4 (List.take (o :: r).length (List.drop 0 (FTs (o :: r))))))]) (aT (.mk k' s' n' (o :: r))) := fun k' s' n' => by rw [e1]; exact leT leSl
    refine br_of (fun h => absurd (of_decide_eq_true h) (by simp)) (fun _ => br_of (fun h6 => br_of (fun h1 => ⟨⟨by omega, by simp⟩, ⟨by rw [FTs_length]; simp, by cases o; rfl, rfl⟩, br_of (fun ho => ⟨⟨rfl, by omega, by rw [List.append_nil]; show (0 : Int) < (((FTs (u :: a')).length : Nat) : Int); rw [FTs_length]; simp, by cases u; rfl⟩, br_of (fun hu => ?_) (fun hu => ⟨⟨rfl, e2⟩, ?_, rfl⟩)⟩) (fun ho => ⟨⟨rfl, e2⟩, ?_, rfl⟩)⟩) (fun h1 => ⟨⟨rfl, e2⟩, ?_, rfl⟩)) (fun h6 => ⟨⟨rfl, e2⟩, ?_, rfl⟩))
    · -- flat
      have hap := c_apply o r (by
        have := hw o (by simp)
        simp only [List.length_cons, List.length_append, List.length_nil, B] at hl hlen this ⊢; omega)
      have e3 : withF (.mk kd s n (u :: a' ++ [])) (o :: r ++ walkL lf [] (k + by_)) = applyF o r := by
        have c1 : 1 < (o :: r ++ walkL lf [] (k + by_)).length := by have := of_decide_eq_true h1; simp only [walkL, List.append_nil]; omega
        have c2 : (o.k == 6) = true := by cases o; exact ho
        have c3 : (u.k != 6) = true := by cases u; exact hu
        unfold withF
        rw [if_pos ⟨h6, c1, c2, c3⟩]
        simp [walkL]
      have e4 : List.take (Int.toNat ((o :: r).length : Int) - 1) (List.drop 1 (FTs (o :: r))) = FTs r := by
        rw [show Int.toNat ((o :: r).length : Int) - 1 = r.length by simp only [List.length_cons]; omega]
        show List.take r.length (FTs r) = FTs r
        rw [List.take_of_length_le (by rw [FTs_length]; omega)]
      have e5 : (1 : Nat) + (Int.toNat ((o :: r).length : Int) - 1) ≤ (FTs (o :: r)).length := by rw [FTs_length]; simp only [List.length_cons]; omega
      rw [e3]
      refine ⟨⟨by omega, by simp⟩, ⟨by rw [FTs_length]; simp, by cases o; rfl, rfl⟩, ⟨by omega, by simp; omega, by omega⟩, ⟨rfl, e5⟩, ?_⟩
      rw [e4]
      obtain ⟨k1, s1, n1, l1⟩ := o
      exact ⟨_, hap.args ⟨.refl _, le_c leSl, trivial⟩, .refl _, rfl⟩
    · have e3 : withF (.mk kd s n (u :: a' ++ [])) (o :: r ++ walkL lf [] (k + by_)) = .mk kd s n (o :: r) := by
        simp only [walkL, List.append_nil]
        exact if_neg fun e => by
          have hu' : (u.k != 6) = false := by cases u; exact hu
          have : (u.k != 6) = true := e.2.2.2
          rw [hu'] at this; cases this
      rw [e3]; exact hrest _ _ _
    · have e3 : withF (.mk kd s n (u :: a' ++ [])) (o :: r ++ walkL lf [] (k + by_)) = .mk kd s n (o :: r) := by
        simp only [walkL, List.append_nil]
        exact if_neg fun e => by
          have ho' : (o.k == 6) = false := by cases o; exact ho
          have : (o.k == 6) = true := e.2.2.1
          rw [ho'] at this; cases this
      rw [e3]; exact hrest _ _ _
    · have e3 : withF (.mk kd s n (u :: a' ++ [])) (o :: r ++ walkL lf [] (k + by_)) = .mk kd s n (o :: r) := by
        simp only [walkL, List.append_nil]
        exact if_neg fun e => by have := e.2.1; have := of_decide_eq_false h1; omega
      rw [e3]; exact hrest _ _ _
    · have e3 : withF (.mk kd s n (u :: a' ++ [])) (o :: r ++ walkL lf [] (k + by_)) = .mk kd s n (o :: r) := by
        simp only [walkL, List.append_nil]
        exact if_neg fun e => by
          have h6' : (kd == 6) = false := h6
          have : (kd == 6) = true := e.1
          rw [h6'] at this; cases this
      rw [e3]; exact hrest _ _ _
  | t :: b, a, acc, hne, hlen, hl, hw, ih => by
    refine RPt.vc hP sh lv46 (Eq.mpr (v46_F69_1b ..) ?_)
    have hl' := hl
    simp only [List.length_append, List.length_cons, B] at hl'
    have h1 := ih t List.mem_cons_self
    have h2 := l_w2Sh fr by1 lf k by_ h0 hk hb0 hb1 kd s n hin b (a ++ [t]) (acc ++ [walkF lf t (k + by_)]) (by simp) (by simp [hlen]) (by rw [ap]; exact hl)
      (by rw [List.append_assoc]; simpa [walkL] using hw) (fun u hu => ih u (List.mem_cons_of_mem _ hu))
    have h3 := ltI' a t b
    unfold stSh at h2
    rw [ap, show (((a ++ [t]).length : Nat) : Int) = (a.length : Int) + 1 from nx a t] at h2
    show br (decide ((a.length : Int) < (((a ++ t :: b).length : Nat) : Int))) ((FV.isSl 4 (.sl false 4 (FTs (a ++ t :: b))) = true ∧ _ ∧ _ ∧ _) ∧ _) _
    refine br_of (fun _ => ?_) (fun h => absurd (ltI a t b) (of_decide_eq_false h))
    have hm := midI a t b
    rw [show FV.ses (.sl false 4 (FTs (a ++ t :: b))) = FTs (a ++ t :: b) from rfl, hm, w64 (x := (a.length : Int) + 1) (by omega) (by omega), w64 (x := k + by_) (by omega) (by omega)]
    obtain ⟨k', s', n', l'⟩ := t
    refine ⟨⟨rfl, by omega, h3, rfl⟩, _, h1, Nat.le_refl _, ⟨by rw [FTs_length]; omega, roomI (by omega)⟩, ?_⟩
    have e5 : List.take acc.length (FTs acc) ++ FTs [walkF lf (.mk k' s' n' l') (k + by_)] = FTs (acc ++ [walkF lf (.mk k' s' n' l') (k + by_)]) := by rw [List.take_of_length_le (by rw [FTs_length]; omega), ← FTs_append]
    have e6 : FTs [walkF lf (.mk k' s' n' l') (k + by_)] = [[.int .i64 (walkF lf (.mk k' s' n' l') (k + by_)).k, .str (walkF lf (.mk k' s' n' l') (k + by_)).s, .int .i64 (walkF lf (.mk k' s' n' l') (k + by_)).n, .sl false 4 (FTs (walkF lf (.mk k' s' n' l') (k + by_)).l)]] := by
      rw [FTs, FTs, FT_eta]
    rw [e6] at e5
    rw [e5]
    rw [show acc ++ walkL lf (.mk k' s' n' l' :: b) (k + by_) = acc ++ walkF lf (.mk k' s' n' l') (k + by_) :: walkL lf b (k + by_) by simp [walkL]]
    rw [show (acc ++ [walkF lf (.mk k' s' n' l') (k + by_)]).length = acc.length + 1 by simp, List.append_assoc] at h2
    exact h2
theorem l_w1Sh (fr by1 : Int) (lf : Tm → Int → Tm) (k by_ : Int) (h0 : 0 ≤ k) (hk : k ≤ 2305843009213693952) (hb0 : 0 ≤ by_) (hb1 : by_ ≤ 1) (kd : Int) (s : List UInt8) (n : Int) (hin : (kd == 5 || kd == 6) = true) :
    ∀ (b : List Tm), b.length ≤ B → (∀ u ∈ walkL lf b (k + by_), u.l.length ≤ 2 * B) →
    (∀ u ∈ b, AC Try.prog 46 [cloSh, aT u, ci (k + by_)] [(obj1 fr), (obj1 by1)] (aT (walkF lf u (k + by_))) [(obj1 fr), (obj1 by1)]) →
    RPt Try.prog 46 2 (aT (withF (.mk kd s n b) (walkL lf b (k + by_)))) [(obj1 fr), (obj1 by1)] 1 (stSh fr by1 k by_ kd s n b (.fz .nils) 0 [] 5)
  | [], hl, hw, _ => by
    refine RPt.vc hP sh lv46 (Eq.mpr (v46_F69_1a ..) ?_)
    have e : withF (.mk kd s n []) (walkL lf [] (k + by_)) = .mk kd s n [] := if_neg fun e => by have := e.2.1; simp [walkL] at this
    rw [e]
    exact br_of (fun h => absurd (of_decide_eq_true h) (by simp)) (fun _ => br_of (fun _ => ⟨rfl, leT leNil, rfl⟩) (fun _ => ⟨leT leNil, rfl⟩))
  | t :: b, hl, hw, ih => by
    refine RPt.vc hP sh lv46 (Eq.mpr (v46_F69_1a ..) ?_)
    have hl' := hl
    simp only [List.length_cons, B] at hl'
    have h1 := ih t List.mem_cons_self
    have h2 := l_w2Sh fr by1 lf k by_ h0 hk hb0 hb1 kd s n hin b [t] [walkF lf t (k + by_)] (by simp) rfl (by simpa using hl) (by simpa [walkL] using hw) (fun u hu => ih u (List.mem_cons_of_mem _ hu))
    show br (decide ((0 : Int) < (((t :: b).length : Nat) : Int))) ((FV.isSl 4 (.sl false 4 (FTs (t :: b))) = true ∧ _ ∧ _ ∧ _) ∧ _) _
    refine br_of (fun _ => ?_) (fun h => absurd (of_decide_eq_false h) (by simp))
    rw [show FV.ses (.sl false 4 (FTs (t :: b))) = FTs (t :: b) from rfl, show List.getD (FTs (t :: b)) (Int.toNat ((0 : Nat) : Int)) [] = FT t from rfl, w64 (x := k + by_) (by omega) (by omega), w64 (x := ((0 : Nat) : Int) + 1) (by omega) (by omega)]
    obtain ⟨k', s', n', l'⟩ := t
    have h3 : (0 : Int) < (((FTs (.mk k' s' n' l' :: b)).length : Nat) : Int) := by rw [FTs_length]; simp
    refine ⟨⟨rfl, by omega, h3, rfl⟩, _, h1, Nat.le_refl _, roomI (by omega), ?_⟩
    have e6 : FTs [walkF lf (.mk k' s' n' l') (k + by_)] = [[.int .i64 (walkF lf (.mk k' s' n' l') (k + by_)).k, .str (walkF lf (.mk k' s' n' l') (k + by_)).s, .int .i64 (walkF lf (.mk k' s' n' l') (k + by_)).n, .sl false 4 (FTs (walkF lf (.mk k' s' n' l') (k + by_)).l)]] := by
      rw [FTs, FTs, FT_eta]
    unfold stSh at h2
    rw [e6] at h2
    exact h2
/-- THE CONTRACT: from the leaf function's. -/
theorem c_wSh (fr by1 : Int) (lf : Tm → Int → Tm) (Q : Tm → Int → Prop)
    (hq : ∀ (kd : Int) (s : List UInt8) (n : Int) (l : List Tm) (d : Int), Q (.mk kd s n l) d → (kd == 5 || kd == 6) = true → ∀ u ∈ l, Q u (d + if (kd == 5) = true then 1 else 0))
    (hleaf : ∀ (u : Tm) (d : Int), (u.k == 5 || u.k == 6) = false → Q u d → 0 ≤ d → d ≤ 2305843009213693952 → AC Try.prog 69 [aT u, ci d, .c (.a (.ep 0 1 0 0)), .c (.a (.ep 1 1 0 0))] [(obj1 fr), (obj1 by1)] (aT (lf u d)) [(obj1 fr), (obj1 by1)])
    (hwid : ∀ (u : Tm) (d : Int), Q u d → (walkF lf u d).l.length ≤ 2 * B) :
    ∀ t : Tm, t.sz ≤ B → ∀ k : Int, Q t k → 0 ≤ k → k + t.sz ≤ 2305843009213693952 → AC Try.prog 46 [cloSh, aT t, ci k] [(obj1 fr), (obj1 by1)] (aT (walkF lf t k)) [(obj1 fr), (obj1 by1)] := by
  refine Tm.ind fun t ih hs k hQ h0 h1 => ?_
  have hlen := Tm.szs_length t.l
  obtain ⟨kd, s, n, l⟩ := t
  simp only [Tm.sz, B, Tm.l] at hs hlen
  simp only [Tm.sz] at h1
  have key : ∀ by_ : Int, 0 ≤ by_ → by_ ≤ 1 → (by_ = if (kd == 5) = true then 1 else 0) → (hin : (kd == 5 || kd == 6) = true) → RPt Try.prog 46 2 (aT (walkF lf (.mk kd s n l) k)) [(obj1 fr), (obj1 by1)] 1 (stSh fr by1 k by_ kd s n l (.fz .nils) 0 [] 5) := by
    intro by_ hb0 hb1 hby hin
    have hQ' := hq kd s n l k hQ hin
    rw [← hby] at hQ'
    have := l_w1Sh fr by1 lf k by_ h0 (by omega) hb0 hb1 kd s n hin l (by simp only [B]; omega) (fun u hu => by
      have : ∀ {m : List Tm}, (∀ v ∈ m, Q v (k + by_)) → ∀ u ∈ walkL lf m (k + by_), u.l.length ≤ 2 * B := by
        intro m
        induction m with
        | nil => intro _ u hu; simp [walkL] at hu
        | cons v m ihm =>
          intro hm u hu
          simp only [walkL, List.mem_cons] at hu
          rcases hu with rfl | hu
          · exact hwid v _ (hm v List.mem_cons_self)
          · exact ihm (fun x hx => hm x (List.mem_cons_of_mem _ hx)) u hu
      exact this hQ' u hu) (fun u hu => ih u hu (by have := Tm.szs_mem hu; simp only [B]; omega) (k + by_) (hQ' u hu) (by omega) (by have := Tm.szs_mem hu; omega))
    rw [walkF, if_pos hin, ← hby]
    exact this
  refine AC.vc hP sh lv46 (Nat.le_refl _) (by simp [isLive]) (by simp) (Eq.mpr (v46_F69 kd s n (FTs l) k fr by1 _ _) ?_)
  have wi : (kd == 5 || kd == 6) = true → AC Try.prog 67 [aT (.mk kd s n l)] [] (.tup [(false, [.a (.fz (.sl false 4 (FTs l)))]), (false, [.a (.fz (.int .i64 (if (kd == 5) = true then 1 else 0)))])]) [] := fun hin => by
    have hw := c_within (.mk kd s n l)
    rw [show kidsV (.mk kd s n l) = .sl false 4 (FTs l) from if_pos hin] at hw
    exact hw
  refine br_of (fun h => br_of (fun h2 => ?_) (fun h2 => ?_)) (fun h => ?_)
  · have e1 : (kd == 5) = false := by simpa using h
    have e2 : (kd == 6) = false := by simpa using h2
    have e : (kd == 5 || kd == 6) = false := by rw [e1, e2]; rfl
    have hl := hleaf (.mk kd s n l) k e hQ h0 (by omega)
    rw [show walkF lf (.mk kd s n l) k = lf (.mk kd s n l) k by rw [walkF, if_neg (by rw [e]; simp)]]
    exact ⟨_, hl, .refl _, rfl⟩
  · have e1 : (kd == 5) = false := by simpa using h
    have e2 : (kd == 6) = true := by simpa using h2
    have hin : (kd == 5 || kd == 6) = true := by rw [e1, e2]; rfl
    have hk := key 0 (by omega) (by omega) (by rw [e1]; rfl) hin
    have hw := wi hin
    rw [e1] at hw
    refine ⟨_, _, hw, rfl, ?_⟩
    show RPt _ _ _ _ _ _ ⟨[_, _, _, _, _, _, _, _, (31, ci (((FTs l).length : Nat) : Int)), _], _, _⟩
    rw [FTs_length]
    exact hk
  · have e1 : (kd == 5) = true := by simpa using h
    have hin : (kd == 5 || kd == 6) = true := by rw [e1]; rfl
    have hk := key 1 (by omega) (by omega) (by rw [e1]; rfl) hin
    have hw := wi hin
    rw [e1] at hw
    refine ⟨_, _, hw, rfl, ?_⟩
    show RPt _ _ _ _ _ _ ⟨[_, _, _, _, _, _, _, _, (31, ci (((FTs l).length : Nat) : Int)), _], _, _⟩
    rw [FTs_length]
    exact hk


/-! walk.term for Su -/
end Go.AM

set_option maxRecDepth 100000
open Go Go.Proofs
namespace Go.AM

/-! ### What walk makes: size, numbers, kinds -/
theorem applyF_sz (f : Tm) (l : List Tm) : (applyF f l).sz ≤ 1 + f.sz + Tm.szs l := by
  unfold applyF
  split
  · simp only [Tm.szs]; omega
  · split
    · have := f.sz_eq; simp only [Tm.sz, Tm.szs_append, List.length_nil]; omega
    · simp only [Tm.sz, Tm.szs, List.length_nil]; omega
theorem withF_sz (t : Tm) (o : List Tm) : (withF t o).sz ≤ 1 + Tm.szs o := by
  unfold withF
  split
  · rename_i h
    match o, h with
    | [], h => simp at h
    | x :: r, h =>
      simp only [List.headD_cons, List.tail_cons, Tm.szs] at h ⊢
      have hx : (x.k == 6) = true := h.2.2.1
      have hr : r ≠ [] := by intro e; rw [e] at h; simp at h
      unfold applyF
      split
      · exact absurd rfl hr
      · have := x.sz_eq
        by_cases hl : x.l = []
        · rw [if_neg (fun e => e.2 hl)]
          simp only [Tm.sz, Tm.szs, List.length_nil]; omega
        · rw [if_pos ⟨hx, hl⟩]
          simp only [Tm.sz, Tm.szs_append, List.length_nil]; omega
  · simp only [Tm.sz]; omega
mutual
/-- How many. -/
def nd : Tm → Nat
  | .mk _ _ _ l => 1 + nds l
def nds : List Tm → Nat
  | [] => 0
  | t :: l => nd t + nds l
end
theorem nd_eq (t : Tm) : nd t = 1 + nds t.l := by cases t; rfl
theorem nd_pos (t : Tm) : 1 ≤ nd t := by rw [nd_eq]; omega
theorem nds_append : ∀ (a b : List Tm), nds (a ++ b) = nds a + nds b
  | [], b => by simp [nds]
  | t :: a, b => by simp only [List.cons_append, nds, nds_append a b]; omega
theorem nds_mem : ∀ {l : List Tm} {t : Tm}, t ∈ l → nd t ≤ nds l
  | x :: l, t, h => by
    rcases List.mem_cons.1 h with rfl | h
    · simp only [nds]; omega
    · have := nds_mem h; simp only [nds]; omega
theorem withF_nd (t : Tm) (o : List Tm) : nd (withF t o) ≤ 1 + nds o := by
  unfold withF
  split
  · rename_i h
    match o, h with
    | [], h => simp at h
    | x :: r, h =>
      simp only [List.headD_cons, List.tail_cons, nds] at h ⊢
      have hx : (x.k == 6) = true := h.2.2.1
      have hr : r ≠ [] := by intro e; rw [e] at h; simp at h
      unfold applyF
      split
      · exact absurd rfl hr
      · have := nd_eq x
        by_cases hl : x.l = []
        · rw [if_neg (fun e => e.2 hl)]
          simp only [nd, nds]; omega
        · rw [if_pos ⟨hx, hl⟩]
          simp only [nd, nds_append]; omega
  · simp only [nd]; omega
mutual
theorem walkF_sz (lf : Tm → Int → Tm) (S : Nat) (h : ∀ u d, (lf u d).sz ≤ u.sz + S) : ∀ (t : Tm) (d : Int), (walkF lf t d).sz ≤ t.sz + nd t * S
  | .mk k s n l, d => by
    rw [walkF]
    split
    · refine Nat.le_trans (withF_sz ..) ?_
      have := walkL_sz lf S h l (d + if (k == 5) = true then 1 else 0)
      simp only [Tm.sz, Tm.s, nd, Nat.add_mul, Nat.one_mul]
      omega
    · refine Nat.le_trans (h _ _) ?_
      simp only [nd, Nat.add_mul, Nat.one_mul]; omega
theorem walkL_sz (lf : Tm → Int → Tm) (S : Nat) (h : ∀ u d, (lf u d).sz ≤ u.sz + S) : ∀ (l : List Tm) (d : Int), Tm.szs (walkL lf l d) ≤ Tm.szs l + nds l * S
  | [], _ => by simp [walkL, Tm.szs]
  | t :: l, d => by
    have := walkF_sz lf S h t d
    have := walkL_sz lf S h l d
    simp only [walkL, Tm.szs, nds, Nat.add_mul]; omega
end
mutual
theorem walkF_nd (lf : Tm → Int → Tm) (N : Nat) (hN : 1 ≤ N) (h : ∀ u d, nd (lf u d) ≤ nd u * N) : ∀ (t : Tm) (d : Int), nd (walkF lf t d) ≤ nd t * N
  | .mk k s n l, d => by
    rw [walkF]
    split
    · refine Nat.le_trans (withF_nd ..) ?_
      have := walkL_nd lf N hN h l (d + if (k == 5) = true then 1 else 0)
      simp only [nd, Nat.add_mul, Nat.one_mul]
      omega
    · exact h _ _
theorem walkL_nd (lf : Tm → Int → Tm) (N : Nat) (hN : 1 ≤ N) (h : ∀ u d, nd (lf u d) ≤ nd u * N) : ∀ (l : List Tm) (d : Int), nds (walkL lf l d) ≤ nds l * N
  | [], _ => by simp [walkL, nds]
  | t :: l, d => by
    have := walkF_nd lf N hN h t d
    have := walkL_nd lf N hN h l d
    simp only [walkL, nds, Nat.add_mul]; omega
end
theorem bds_append {M : Int} : ∀ {a b : List Tm}, bds M a → bds M b → bds M (a ++ b)
  | [], _, _, h => h
  | _ :: _, _, h, h' => ⟨h.1, bds_append h.2 h'⟩
theorem bds_of {M : Int} : ∀ {l : List Tm}, (∀ t ∈ l, bd M t) → bds M l
  | [], _ => trivial
  | t :: _, h => ⟨h t List.mem_cons_self, bds_of fun u hu => h u (List.mem_cons_of_mem _ hu)⟩
theorem bd6 {M : Int} {s : List UInt8} {n : Int} {l : List Tm} (h : bds M l) : bd M (.mk 6 s n l) := ⟨fun e => absurd e (by omega), h⟩
theorem applyF_bd {M : Int} {f : Tm} {l : List Tm} (hf : bd M f) (hl : bds M l) : bd M (applyF f l) := by
  unfold applyF
  split
  · exact hf
  · split
    · exact bd6 (bds_append (bd_l hf) hl)
    · exact bd6 ⟨hf, hl⟩
theorem withF_bd {M : Int} {t : Tm} {o : List Tm} (hk : t.k ≠ 3) (ho : bds M o) : bd M (withF t o) := by
  unfold withF
  split
  · rename_i h
    match o, h, ho with
    | [], h, _ => simp at h
    | x :: r, h, ho => exact applyF_bd ho.1 ho.2
  · exact ⟨fun e => absurd e hk, ho⟩
mutual
theorem walkF_bd (lf : Tm → Int → Tm) (M M' D : Int) (h : ∀ u d, bd M u → 0 ≤ d → d ≤ D → bd M' (lf u d)) : ∀ (t : Tm) (d : Int), bd M t → 0 ≤ d → d + t.sz ≤ D → bd M' (walkF lf t d)
  | .mk k s n l, d, hb, h0, h1 => by
    rw [walkF]
    simp only [Tm.sz] at h1
    split
    · rename_i hk
      refine withF_bd (fun e => ?_) (walkL_bd lf M M' D h l _ hb.2 (by split <;> omega) (by split <;> omega))
      have e : k = 3 := e
      rw [e] at hk; exact absurd hk (by decide)
    · exact h _ _ hb h0 (by omega)
theorem walkL_bd (lf : Tm → Int → Tm) (M M' D : Int) (h : ∀ u d, bd M u → 0 ≤ d → d ≤ D → bd M' (lf u d)) : ∀ (l : List Tm) (d : Int), bds M l → 0 ≤ d → d + Tm.szs l ≤ D → bds M' (walkL lf l d)
  | [], _, _, _, _ => trivial
  | t :: l, d, hb, h0, h1 => by
    simp only [Tm.szs] at h1
    exact ⟨walkF_bd lf M M' D h t d hb.1 h0 (by omega), walkL_bd lf M M' D h l d hb.2 h0 (by omega)⟩
end
theorem applyF_k {f : Tm} (l : List Tm) (h : (f.k == 6) = true) : (applyF f l).k = 6 := by
  unfold applyF
  split
  · simpa using h
  · split <;> rfl
theorem withF_k (t : Tm) (o : List Tm) : (withF t o).k = t.k := by
  unfold withF
  split
  · rename_i h6
    have e : t.k = 6 := by simpa using h6.1
    rw [applyF_k _ h6.2.2.1]; exact e.symm
  · rfl
theorem walkF_k (lf : Tm → Int → Tm) (h : ∀ u d, (lf u d).k = u.k) (t : Tm) (d : Int) : (walkF lf t d).k = t.k := by
  obtain ⟨k, s, n, l⟩ := t
  rw [walkF]
  split
  · exact withF_k _ _
  · exact h _ _
/-- Where leaves keep their kinds, nothing is made flat. -/
theorem walkF_keep (lf : Tm → Int → Tm) (h : ∀ u d, (lf u d).k = u.k) (k : Int) (s : List UInt8) (n : Int) (l : List Tm) (d : Int) (hk : (k == 5 || k == 6) = true) :
    walkF lf (.mk k s n l) d = .mk k s n (walkL lf l (d + if (k == 5) = true then 1 else 0)) := by
  rw [walkF, if_pos hk, withF, if_neg fun e => ?_]; rfl
  match l, e with
  | [], e => have := e.2.1; simp [walkL] at this
  | t :: l, e =>
    have e1 := e.2.2.1
    have e2 := e.2.2.2
    rw [walkL, List.headD_cons, walkF_k lf h] at e1
    have e2 : (t.k != 6) = true := e2
    rw [bne, e1] at e2; cases e2
theorem walkF_leaf (lf : Tm → Int → Tm) (k : Int) (s : List UInt8) (n : Int) (l : List Tm) (d : Int) (hk : (k == 5 || k == 6) = false) :
    walkF lf (.mk k s n l) d = lf (.mk k s n l) d := by rw [walkF, if_neg (by rw [hk]; simp)]
theorem walkL_length (lf : Tm → Int → Tm) : ∀ (l : List Tm) (d : Int), (walkL lf l d).length = l.length
  | [], _ => rfl
  | _ :: l, d => by simp only [walkL, List.length_cons, walkL_length lf l d]

/-! ### Shift -/
abbrev M61 : Int := 2305843009213693952
def shLeaf (fr by_ : Int) (u : Tm) (d : Int) : Tm := if (u.k == 3) = true ∧ d + fr ≤ u.n then .mk u.k u.s (u.n + by_) u.l else u
def shT (fr by_ : Int) (t : Tm) (d : Int) : Tm := walkF (shLeaf fr by_) t d
theorem shLeaf_k (fr by_ : Int) (u : Tm) (d : Int) : (shLeaf fr by_ u d).k = u.k := by unfold shLeaf; split <;> rfl
theorem shLeaf_sz (fr by_ : Int) (u : Tm) (d : Int) : (shLeaf fr by_ u d).sz = u.sz := by
  unfold shLeaf; split
  · cases u; rfl
  · rfl
theorem shT_sz (fr by_ : Int) (t : Tm) (d : Int) : (shT fr by_ t d).sz ≤ t.sz := by
  have := walkF_sz (shLeaf fr by_) 0 (fun u d => by rw [shLeaf_sz]; omega) t d
  rw [Nat.mul_zero] at this; exact this
theorem shLeaf_nd (fr by_ : Int) (u : Tm) (d : Int) : nd (shLeaf fr by_ u d) = nd u := by
  unfold shLeaf; split
  · cases u; rfl
  · rfl
theorem shT_nd (fr by_ : Int) (t : Tm) (d : Int) : nd (shT fr by_ t d) ≤ nd t := by
  have := walkF_nd (shLeaf fr by_) 1 (Nat.le_refl _) (fun u d => by rw [shLeaf_nd]; omega) t d
  rw [Nat.mul_one] at this; exact this
theorem bd_le {M M' : Int} (h : M ≤ M') : ∀ t : Tm, bd M t → bd M' t := by
  refine Tm.ind fun t ih hb => ?_
  obtain ⟨k, s, n, l⟩ := t
  exact ⟨fun e => by have := hb.1 e; omega, bds_of fun u hu => ih u hu (bds_mem hb.2 hu)⟩
theorem shLeaf_bd {fr by_ M : Int} (h0 : 0 ≤ by_) (u : Tm) (d : Int) (hb : bd M u) : bd (M + by_) (shLeaf fr by_ u d) := by
  unfold shLeaf
  split
  · obtain ⟨k, s, n, l⟩ := u
    exact ⟨fun e => by have := hb.1 e; simp only [Tm.n]; omega, bds_of fun u hu => bd_le (by omega) u (bds_mem hb.2 hu)⟩
  · exact bd_le (by omega) u hb
theorem shT_bd {fr by_ M : Int} (h0 : 0 ≤ by_) (t : Tm) (d : Int) (hb : bd M t) (hd : 0 ≤ d) : bd (M + by_) (shT fr by_ t d) :=
  walkF_bd (shLeaf fr by_) M (M + by_) (d + t.sz) (fun u d' hu _ _ => shLeaf_bd h0 u d' hu) t d hb hd (Int.le_refl _)
theorem c_moved (t : Tm) (by_ : Int) (h1 : -9223372036854775808 ≤ t.n + by_) (h2 : t.n + by_ ≤ 9223372036854775807) : AC Try.prog 70 [aT t, ci by_] [] (aT (.mk t.k t.s (t.n + by_) t.l)) [] := by
  obtain ⟨k, s, n, l⟩ := t
  refine AC.vc hP sh lv70 (Nat.le_refl _) (by simp) (by simp) (Eq.mpr (v70 k s n (FTs l) by_ _ _) ?_)
  rw [w64 (x := n + by_) h1 h2]
  exact ⟨.refl _, rfl⟩
theorem c_shift1 (fr by_ d : Int) (u : Tm) (hb : u.k = 3 → 0 - M61 ≤ u.n ∧ u.n ≤ M61) (hd0 : 0 ≤ d) (hd1 : d ≤ M61) (hf0 : 0 ≤ fr) (hf1 : fr ≤ M61) (hb0 : 0 - 1 ≤ by_) (hb1 : by_ ≤ M61) :
    AC Try.prog 69 [aT u, ci d, .c (.a (.ep 0 1 0 0)), .c (.a (.ep 1 1 0 0))] [obj1 fr, obj1 by_] (aT (shLeaf fr by_ u d)) [obj1 fr, obj1 by_] := by
  obtain ⟨k, s, n, l⟩ := u
  simp only [M61, Tm.k, Tm.n] at *
  refine AC.vc hP sh lv69 (Nat.le_refl _) (by simp [isLive]) (by simp) (Eq.mpr (v69 k s n (FTs l) d fr by_ _ _) ?_)
  rw [w64 (by omega) (by omega)]
  refine br_of (fun h => br_of (fun h2 => ?_) (fun h2 => ?_)) (fun h => ?_)
  · have hk : k = 3 := by simpa using h
    have h3 : d + fr ≤ n := of_decide_eq_true h2
    have := hb hk
    have e : shLeaf fr by_ (.mk k s n l) d = .mk k s (n + by_) l := if_pos ⟨h, h3⟩
    rw [e]
    exact ⟨_, c_moved (.mk k s n l) by_ (by simp only [Tm.n]; omega) (by simp only [Tm.n]; omega), .refl _, rfl⟩
  · have h3 : ¬ d + fr ≤ n := of_decide_eq_false h2
    have e : shLeaf fr by_ (.mk k s n l) d = .mk k s n l := if_neg fun e => h3 e.2
    rw [e]; exact ⟨.refl _, rfl⟩
  · have e : shLeaf fr by_ (.mk k s n l) d = .mk k s n l := if_neg fun e => by have := e.1; rw [show Tm.k (.mk k s n l) = k from rfl, h] at this; cases this
    rw [e]; exact ⟨.refl _, rfl⟩
theorem c_shift (t : Tm) (fr by_ : Int) (hs : t.sz ≤ B) (hb : bd M61 t) (hf0 : 0 ≤ fr) (hf1 : fr ≤ M61) (hb0 : 0 - 1 ≤ by_) (hb1 : by_ ≤ M61) :
    AC Try.prog 45 [aT t, ci fr, ci by_] [] (aT (shT fr by_ t 0)) [] := by
  have h := c_wSh fr by_ (shLeaf fr by_) (fun u _ => bd M61 u ∧ u.sz ≤ B) (fun kd s n l d hq hk u hu => ⟨bds_mem hq.1.2 hu, by have := Tm.szs_mem hu; have := hq.2; simp only [Tm.sz] at this; omega⟩)
    (fun u d hk hq h0 h1 => c_shift1 fr by_ d u (by obtain ⟨k, s, n, l⟩ := u; exact hq.1.1) h0 h1 hf0 hf1 hb0 hb1)
    (fun u d hq => by have := shT_sz fr by_ u d; have h1 := (shT fr by_ u d).sz_eq; have := Tm.szs_length (shT fr by_ u d).l; have := hq.2; show (shT fr by_ u d).l.length ≤ _; omega)
    t hs 0 ⟨hb, hs⟩ (Int.le_refl _) (by simp only [B] at hs; omega)
  obtain ⟨k, s, n, l⟩ := t
  refine AC.vc hP sh lv45 (Nat.le_refl _) (by simp) (by simp) (Eq.mpr (v45 k s n (FTs l) fr by_ _ _) ?_)
  exact ⟨_, h, .refl _, rfl⟩

/-! ### Subst -/
def suLeaf (i : Int) (s : Tm) (u : Tm) (d : Int) : Tm :=
  if (u.k == 3) = true then (if u.n < d + i then u else if (u.n == d + i) = true then shT 0 d s 0 else .mk u.k u.s (u.n - 1) u.l) else u
def suT (i : Int) (s t : Tm) (d : Int) : Tm := walkF (suLeaf i s) t d
theorem suLeaf_sz (i : Int) (s u : Tm) (d : Int) : (suLeaf i s u d).sz ≤ u.sz + s.sz := by
  have h3 := shT_sz 0 d s 0
  unfold suLeaf
  split
  · split
    · omega
    · split
      · omega
      · cases u; simp only [Tm.sz, Tm.s, Tm.l]; omega
  · omega
theorem suT_sz (i : Int) (s t : Tm) (d : Int) : (suT i s t d).sz ≤ t.sz + nd t * s.sz := walkF_sz _ _ (suLeaf_sz i s) t d
theorem suLeaf_nd (i : Int) (s u : Tm) (d : Int) : nd (suLeaf i s u d) ≤ nd u * nd s := by
  have h1 : nd u ≤ nd u * nd s := Nat.le_mul_of_pos_right _ (nd_pos s)
  have h2 : nd s ≤ nd u * nd s := Nat.le_mul_of_pos_left _ (nd_pos u)
  have h3 := shT_nd 0 d s 0
  unfold suLeaf
  split
  · split
    · exact h1
    · split
      · omega
      · cases u; exact h1
  · exact h1
theorem suT_nd (i : Int) (s t : Tm) (d : Int) : nd (suT i s t d) ≤ nd t * nd s := walkF_nd _ _ (nd_pos s) (suLeaf_nd i s) t d
theorem suT_bd {i M M' D : Int} (s t : Tm) (d : Int) (hb : bd M t) (hs : bd M' s) (hM : M' + D ≤ M) (hd : 0 ≤ d) (hD : d + t.sz ≤ D) (hi : 0 ≤ i) (hM' : 0 ≤ M): bd M (suT i s t d) := by
  refine walkF_bd (suLeaf i s) M M D (fun u d' hu h0 h1 => ?_) t d hb hd hD
  unfold suLeaf
  split
  · split
    · exact hu
    · split
      · exact bd_le (by omega) _ (shT_bd h0 s 0 hs (Int.le_refl _))
      · rename_i h2 h3
        obtain ⟨k, s', n, l⟩ := u
        have h3' : n ≠ d' + i := fun e => h3 (by rw [show Tm.n (.mk k s' n l) = n from rfl, e]; simp)
        have h2' : ¬ n < d' + i := h2
        exact ⟨fun e => by have := hu.1 e; simp only [Tm.n]; omega, hu.2⟩
  · exact hu
end Go.AM

set_option maxRecDepth 100000
open Go Go.Proofs
namespace Go.AM

/-! ### Below abstractions -/
def lamsF : Nat → Tm → Tm
  | 0, t => t
  | n + 1, t => lamsF n (.mk 5 [] 0 [t])
theorem l_lamsb (N : Int) (hN : N ≤ 4294967296) : ∀ (m : Nat) (i k : Int) (s : List UInt8) (n : Int) (rows : List (List FV)) (l : List Tm), 0 ≤ i → i + m = N → FV.Le (.sl false 4 rows) (.sl false 4 (FTs l)) →
    RPt Try.prog 51 0 (aT (lamsF m (.mk k s n l))) [] 1 ⟨[(3, .c (.a (.ep 0 4 0 0))), (4, .c (.a (.ep 1 4 0 0))), (6, ci N), (7, ci i)], [(0, .arr 4 [[.a (.fz (.int .i64 k)), .a (.fz (.str s)), .a (.fz (.int .i64 n)), .a (.fz (.sl false 4 rows))]]), (1, .arr 4 [[.a (.fz (.int .i64 0)), .a (.fz (.str [])), .a (.fz (.int .i64 0)), .a (.fz .nils)]])], 2⟩
  | 0, i, k, s, n, rows, l, h0, hi, hle => by
    refine RPt.vc hP sh lv51 (Eq.mpr (v51_1a ..) ?_)
    refine br_of (fun h => absurd (of_decide_eq_true h) (by omega)) (fun _ => ⟨leT hle, rfl⟩)
  | m + 1, i, k, s, n, rows, l, h0, hi, hle => by
    refine RPt.vc hP sh lv51 (Eq.mpr (v51_1a ..) ?_)
    have h2 := l_lamsb N hN m (i + 1) 5 [] 0 [[.int .i64 k, .str s, .int .i64 n, .sl false 4 rows]] [.mk k s n l] (by omega) (by omega) (leRows rfl fun j r t hr ht => by
      match j, hr, ht with
      | 0, hr, ht =>
        simp only [List.getElem?_cons_zero, Option.some.injEq] at hr ht
        subst hr; subst ht
        exact leFT hle
      | j + 1, hr, _ => simp at hr)
    rw [w64 (x := i + 1) (by omega) (by omega)]
    refine br_of (fun _ => ⟨⟨rfl, by omega⟩, ?_⟩) (fun h => absurd (of_decide_eq_false h) (by omega))
    exact h2
theorem foldMax0 {n : Int} (h : 0 ≤ n) : foldMax [n, 0] = n := by
  rw [foldMax2]; unfold maxI; split <;> omega
theorem c_lams (m : Nat) (t : Tm) (hm : m ≤ 4294967296) : AC Try.prog 51 [ci m, aT t] [] (aT (lamsF m t)) [] := by
  obtain ⟨k, s, n, l⟩ := t
  refine AC.vc hP sh lv51 (Nat.le_refl _) (by simp) (by simp) (Eq.mpr (v51 m k s n (FTs l) _ _) ?_)
  rw [foldMax0 (by omega)]
  refine RPt.vc hP sh lv51 (Eq.mpr (v51_1a ..) ?_)
  match m, hm with
  | 0, _ => exact br_of (fun h => absurd (of_decide_eq_true h) (by omega)) (fun _ => ⟨.refl _, rfl⟩)
  | m + 1, hm =>
    refine br_of (fun _ => ⟨⟨rfl, by omega⟩, ?_⟩) (fun h => absurd (of_decide_eq_false h) (by omega))
    exact l_lamsb ((m + 1 : Nat) : Int) (by omega) m 1 5 [] 0 [[.int .i64 k, .str s, .int .i64 n, .sl false 4 (FTs l)]] [.mk k s n l] (by omega) (by omega) (leRows rfl fun j r t hr ht => by
      match j, hr, ht with
      | 0, hr, ht =>
        simp only [List.getElem?_cons_zero, Option.some.injEq] at hr ht
        subst hr; subst ht
        exact leFT (.refl _)
      | j + 1, hr, _ => simp at hr)

/-! ### What may be -/
mutual
def validB : Tm → Bool
  | .mk k s n l =>
    if (k == 0) = true then (isName s || isSym s) && n == 0 && (((FTs l).length : Nat) : Int) == 0
    else if (k == 1) = true then decide (n ≥ 1) && s == [] && (((FTs l).length : Nat) : Int) == 0 && validL l
    else if (k == 2) = true then s == [] && (((FTs l).length : Nat) : Int) == 0 && validL l
    else if (k == 3) = true then decide (n ≥ 0) && decide (n ≤ 4611686018427387904) && s == [] && (((FTs l).length : Nat) : Int) == 0 && validL l
    else if (k == 4) = true then decide (n ≥ 0) && decide (n ≤ 4611686018427387904) && s == [] && (((FTs l).length : Nat) : Int) == 0 && validL l
    else if (k == 5) = true then n == 0 && s == [] && (((FTs l).length : Nat) : Int) == 1 && validL l
    else if (k == 6) = true then n == 0 && decide ((((FTs l).length : Nat) : Int) ≥ 2) && ((l.headD default).k != 6) && s == [] && validL l
    else false
def validL : List Tm → Bool
  | [] => true
  | t :: l => validB t && validL l
end
def badAt : List Tm → Int → Int
  | [], _ => -1
  | t :: l, i => if validB t = true then badAt l (i + 1) else i
theorem badAt_ge : ∀ (l : List Tm) (i : Int), 0 ≤ i → decide (badAt l i ≥ 0) = !validL l
  | [], _, _ => rfl
  | t :: l, i, h => by
    rw [badAt, validL]
    split
    · rename_i e; rw [badAt_ge l (i + 1) (by omega), e, Bool.true_and]
    · rename_i e; rw [show validB t = false by simpa using e]; simp; omega
theorem l_index : ∀ (b a : List Tm), (∀ u ∈ b, AC Try.prog 40 [aT u] [] (cb (!validB u)) []) → (a ++ b).length ≤ B →
    RPt Try.prog 66 0 (ci (badAt b a.length)) [] 1 ⟨[(0, aL (a ++ b)), (1, .c (.fn (.func 40) [] [])), (7, ci (((FTs (a ++ b)).length : Nat) : Int)), (8, ci a.length)], [], 0⟩
  | [], a, _, _ => by
    refine RPt.vc hP sh lv66 (Eq.mpr (v66_F40_1a ..) ?_)
    exact br_of (fun h => absurd (of_decide_eq_true h) (geI' a)) (fun _ => ret_i rfl)
  | t :: b, a, ih, hl => by
    refine RPt.vc hP sh lv66 (Eq.mpr (v66_F40_1a ..) ?_)
    have hl' := hl
    simp only [List.length_append, List.length_cons, B] at hl'
    have h1 := ih t List.mem_cons_self
    have h2 := l_index b (a ++ [t]) (fun u hu => ih u (List.mem_cons_of_mem _ hu)) (by rw [ap]; exact hl)
    have h3 := ltI' a t b
    rw [ap, nx] at h2
    rw [midI, w64 (x := (a.length : Int) + 1) (by omega) (by omega)]
    refine br_of (fun _ => ?_) (fun h => absurd h3 (of_decide_eq_false h))
    obtain ⟨k', s', n', l'⟩ := t
    refine ⟨⟨rfl, by omega, h3, rfl⟩, _, h1, br_of (fun h => ?_) (fun h => ?_)⟩
    · rw [badAt, if_neg (by simpa using h)]; exact ret_i rfl
    · rw [badAt, if_pos (by simpa using h)]; exact h2
theorem c_contf (l : List Tm) (hl : l.length ≤ B) (ih : ∀ u ∈ l, AC Try.prog 25 [aT u] [] (cb (validB u)) []) : AC Try.prog 39 [aL l, .c (.fn (.func 40) [] [])] [] (cb (!validL l)) [] := by
  have h1 : ∀ u ∈ l, AC Try.prog 40 [aT u] [] (cb (!validB u)) [] := fun u hu => by
    have h := ih u hu
    obtain ⟨k, s, n, l⟩ := u
    refine AC.vc hP sh lv40 (Nat.le_refl _) (by simp) (by simp) (Eq.mpr (v40 k s n (FTs l) _ _) ?_)
    exact ⟨_, h, ret_b rfl⟩
  have h2 : AC Try.prog 66 [aL l, .c (.fn (.func 40) [] [])] [] (ci (badAt l 0)) [] := by
    refine AC.vc hP sh lv66 (Nat.le_refl _) (by simp) (by simp) (Eq.mpr (v66_F40 ..) ?_)
    exact ⟨rfl, l_index l [] h1 hl⟩
  refine AC.vc hP sh lv39 (Nat.le_refl _) (by simp) (by simp) (Eq.mpr (v39_F40 ..) ?_)
  exact ⟨_, h2, ret_b (badAt_ge l 0 (Int.le_refl _))⟩
theorem head0 : ∀ {l : List Tm}, 2 ≤ (((FTs l).length : Nat) : Int) → List.getD (FTs l) 0 [] = FT (l.headD default)
  | [], h => by simp [FTs] at h
  | t :: l, _ => rfl
theorem c_valid : ∀ t : Tm, t.sz ≤ B → AC Try.prog 25 [aT t] [] (cb (validB t)) [] := by
  refine Tm.ind fun t ih hs => ?_
  have hlen := Tm.szs_length t.l
  obtain ⟨k, s, n, l⟩ := t
  simp only [Tm.sz, Tm.l] at hs hlen
  have hc := c_contf l (by omega) fun u hu => ih u hu (by have := Tm.szs_mem hu; omega)
  refine AC.vc hP sh lv25 (Nat.le_refl _) (by simp) (by simp) (Eq.mpr (v25 k s n (FTs l) _ _) ?_)
  refine br_of (fun h0 => ⟨_, c_isname s, br_of (fun h1 => br_of (fun h2 => ⟨rfl, ret_b ?_⟩) (fun h2 => ret_b ?_)) (fun h1 => ⟨_, c_issym s, br_of (fun h1' => br_of (fun h2 => ⟨rfl, ret_b ?_⟩) (fun h2 => ret_b ?_)) (fun h1' => ret_b ?_)⟩)⟩)
    (fun h0 => br_of (fun h1 => br_of (fun h2 => br_of (fun h3 => ⟨rfl, br_of (fun h4 => ⟨_, hc, ret_b ?_⟩) (fun h4 => ret_b ?_)⟩) (fun h3 => ret_b ?_)) (fun h2 => ret_b ?_))
    (fun h1 => br_of (fun h2 => br_of (fun h3 => ⟨rfl, br_of (fun h4 => ⟨_, hc, ret_b ?_⟩) (fun h4 => ret_b ?_)⟩) (fun h3 => ret_b ?_))
    (fun h2 => br_of (fun h3 => br_of (fun h4 => br_of (fun h5 => br_of (fun h6 => ⟨rfl, br_of (fun h7 => ⟨_, hc, ret_b ?_⟩) (fun h7 => ret_b ?_)⟩) (fun h6 => ret_b ?_)) (fun h5 => ret_b ?_)) (fun h4 => ret_b ?_))
    (fun h3 => br_of (fun h3' => br_of (fun h4 => br_of (fun h5 => br_of (fun h6 => ⟨rfl, br_of (fun h7 => ⟨_, hc, ret_b ?_⟩) (fun h7 => ret_b ?_)⟩) (fun h6 => ret_b ?_)) (fun h5 => ret_b ?_)) (fun h4 => ret_b ?_))
    (fun h3' => br_of (fun h5 => br_of (fun h6 => br_of (fun h7 => ⟨rfl, br_of (fun h8 => ⟨_, hc, ret_b ?_⟩) (fun h8 => ret_b ?_)⟩) (fun h7 => ret_b ?_)) (fun h6 => ret_b ?_))
    (fun h5 => br_of (fun h6 => br_of (fun h7 => ⟨rfl, br_of (fun h8 => ?app) (fun h8 => ⟨rfl, ret_b ?_⟩)⟩) (fun h7 => ⟨rfl, ret_b ?_⟩)) (fun h6 => ret_b ?_)))))))
  case app =>
    have h8' := of_decide_eq_true h8
    rw [head0 h8', FT_eta]
    refine ⟨⟨rfl, by omega, by omega, rfl⟩, rfl, br_of (fun h9 => br_of (fun h10 => ⟨rfl, br_of (fun h11 => ⟨_, hc, ret_b ?_⟩) (fun h11 => ret_b ?_)⟩) (fun h10 => ret_b ?_)) (fun h9 => ret_b ?_)⟩
    all_goals (have h9' : ((l.headD default).k != 6) = _ := h9; simp_all [validB])
  all_goals first
    | (simp_all [validB]; done)
    | (simp_all [validB]; intros; omega)

end Go.AM

set_option maxRecDepth 100000
open Go Go.Proofs
namespace Go.AM

/-! ### What is not more than is looked at -/
mutual
theorem left_sz : ∀ (t : Tm) (m : Int), 0 ≤ leftF t m → longB t = false → (nd t : Int) ≤ m - leftF t m ∧ t.sz ≤ 61 * nd t
  | .mk _ s _ l, m, h, hl => by
    simp only [longB, Bool.or_eq_false_iff] at hl
    simp only [leftF] at h ⊢
    have := left_szs l (m - 1) h hl.2
    have := of_decide_eq_false hl.1
    simp only [nd, Tm.sz]; omega
theorem left_szs : ∀ (l : List Tm) (m : Int), 0 ≤ leftL l m → longL l = false → (nds l : Int) ≤ m - leftL l m ∧ Tm.szs l ≤ 61 * nds l
  | [], m, h, _ => by simp [nds, leftL, Tm.szs]
  | t :: l, m, h, hl => by
    simp only [longL, Bool.or_eq_false_iff] at hl
    simp only [leftL] at h ⊢
    split at h
    · rename_i h0
      rw [if_pos h0]
      have h1 := left_szs l _ h hl.2
      have h3 := (leftL_le l (leftF t m)).1
      have h2 := left_sz t m (by omega) hl.1
      simp only [nds, Tm.szs]; omega
    · rename_i h0; exact absurd h h0
end
mutual
theorem near_bd {M : Int} : ∀ t : Tm, near M t = true → bd M t
  | .mk k s n l, h => by
    simp only [near, Bool.and_eq_true] at h
    refine ⟨fun e => ?_, nears_bd l h.2⟩
    have := h.1
    rw [e] at this
    simp at this; omega
theorem nears_bd {M : Int} : ∀ l : List Tm, nears M l = true → bds M l
  | [], _ => trivial
  | t :: l, h => by
    simp only [nears, Bool.and_eq_true] at h
    exact ⟨near_bd t h.1, nears_bd l h.2⟩
end
/-- What is looked at. -/
structure Okay (t : Tm) : Prop where
  nodes : nd t ≤ 80
  size : t.sz ≤ 4880
  nums : bd 1099511627776 t
theorem okay {t : Tm} (h : overB t = false) : Okay t := by
  simp only [overB, Bool.or_eq_false_iff, large] at h
  have h1 := of_decide_eq_false h.1.1
  have h2 := left_sz t 80 (by omega) h.1.2
  exact ⟨by omega, by omega, near_bd t (by simpa using h.2)⟩

/-! ### The document's example -/
abbrev exF : Tm := .mk 0 [102] 0 []
abbrev exA : Tm := .mk 0 [97] 0 []
abbrev exB : Tm := applyF exF [.mk 3 [] 0 [], lamsF 1 (.mk 3 [] 1 [])]
end Go.AM

set_option maxRecDepth 100000
open Go Go.Proofs
namespace Go.AM

/-! ### Plain laws: shifts -/
theorem by_ite (k : Int) : (0 : Int) ≤ if (k == 5) = true then 1 else 0 := by split <;> omega
theorem shT_in (fr by_ : Int) (k : Int) (s : List UInt8) (n : Int) (l : List Tm) (d : Int) (hk : (k == 5 || k == 6) = true) : shT fr by_ (.mk k s n l) d = .mk k s n (walkL (shLeaf fr by_) l (d + if (k == 5) = true then 1 else 0)) := walkF_keep _ (shLeaf_k fr by_) k s n l d hk
theorem shT_leaf (fr by_ : Int) (k : Int) (s : List UInt8) (n : Int) (l : List Tm) (d : Int) (hk : (k == 5 || k == 6) = false) : shT fr by_ (.mk k s n l) d = shLeaf fr by_ (.mk k s n l) d := walkF_leaf _ k s n l d hk
mutual
theorem sh_both (i a b : Int) (ha : 0 ≤ a) : ∀ (t : Tm) (d : Int), shT i b (shT i a t d) d = shT i (a + b) t d
  | .mk k s n l, d => by
    cases hk : (k == 5 || k == 6) with
    | true => rw [shT_in _ _ _ _ _ _ _ hk, shT_in _ _ _ _ _ _ _ hk, shT_in _ _ _ _ _ _ _ hk, sh_boths i a b ha l]
    | false =>
      rw [shT_leaf _ _ _ _ _ _ _ hk, shT_leaf _ _ _ _ _ _ _ hk]
      unfold shLeaf
      by_cases h : (k == 3) = true ∧ d + i ≤ n
      · have h' : ((Tm.mk k s n l).k == 3) = true ∧ d + i ≤ (Tm.mk k s n l).n := h
        rw [if_pos h', if_pos h']
        show shT i b (.mk k s (n + a) l) d = .mk k s (n + (a + b)) l
        rw [shT_leaf _ _ _ _ _ _ _ hk, shLeaf, if_pos ⟨h.1, show d + i ≤ n + a by omega⟩]
        show Tm.mk k s (n + a + b) l = _
        rw [Int.add_assoc]
      · have h' : ¬ (((Tm.mk k s n l).k == 3) = true ∧ d + i ≤ (Tm.mk k s n l).n) := h
        rw [if_neg h', if_neg h', shT_leaf _ _ _ _ _ _ _ hk, shLeaf, if_neg h']
theorem sh_boths (i a b : Int) (ha : 0 ≤ a) : ∀ (l : List Tm) (d : Int), walkL (shLeaf i b) (walkL (shLeaf i a) l d) d = walkL (shLeaf i (a + b)) l d
  | [], _ => rfl
  | t :: l, d => by
    have h1 := sh_both i a b ha t d
    simp only [shT] at h1
    simp only [walkL, h1, sh_boths i a b ha l d]
end
theorem suLeaf_lt {i : Int} {s' : Tm} {k : Int} {s : List UInt8} {n : Int} {l : List Tm} {d : Int} (h3 : (k == 3) = true) (h : n < d + i) : suLeaf i s' (.mk k s n l) d = .mk k s n l := by
  unfold suLeaf
  rw [if_pos (show (Tm.k (.mk k s n l) == 3) = true from h3), if_pos (show Tm.n (.mk k s n l) < d + i from h)]
theorem suLeaf_eq {i : Int} {s' : Tm} {k : Int} {s : List UInt8} {n : Int} {l : List Tm} {d : Int} (h3 : (k == 3) = true) (h : n = d + i) : suLeaf i s' (.mk k s n l) d = shT 0 d s' 0 := by
  unfold suLeaf
  rw [if_pos (show (Tm.k (.mk k s n l) == 3) = true from h3), if_neg (show ¬ Tm.n (.mk k s n l) < d + i from fun e => by have e : n < d + i := e; omega), if_pos (show (Tm.n (.mk k s n l) == d + i) = true from by rw [← h]; simp [Tm.n])]
theorem suLeaf_gt {i : Int} {s' : Tm} {k : Int} {s : List UInt8} {n : Int} {l : List Tm} {d : Int} (h3 : (k == 3) = true) (h : d + i < n) : suLeaf i s' (.mk k s n l) d = .mk k s (n - 1) l := by
  unfold suLeaf
  rw [if_pos (show (Tm.k (.mk k s n l) == 3) = true from h3), if_neg (show ¬ Tm.n (.mk k s n l) < d + i from fun e => by have e : n < d + i := e; omega), if_neg (show ¬ (Tm.n (.mk k s n l) == d + i) = true from fun e => absurd (show n = d + i by simpa [Tm.n] using e) (by omega))]
  rfl
theorem suLeaf_ne {i : Int} {s' : Tm} {k : Int} {s : List UInt8} {n : Int} {l : List Tm} {d : Int} (h3 : ¬ (k == 3) = true) : suLeaf i s' (.mk k s n l) d = .mk k s n l := by
  unfold suLeaf
  rw [if_neg (show ¬ (Tm.k (.mk k s n l) == 3) = true from h3)]
theorem withF_id (k : Int) (s : List UInt8) (n : Int) (m l : List Tm) (h : (m.headD default).k = (l.headD default).k) : withF (.mk k s n m) l = .mk k s n l := by
  unfold withF
  refine if_neg fun e => ?_
  have e1 : ((l.headD default).k == 6) = true := e.2.2.1
  have e2 : ((m.headD default).k != 6) = true := e.2.2.2
  rw [h, bne, e1] at e2; cases e2
/-- Where no leaf changes, nothing does. -/
theorem walk_id (lf : Tm → Int → Tm) (Q : Tm → Int → Prop) (hq : ∀ k s n l d, Q (.mk k s n l) d → (k == 5 || k == 6) = true → ∀ u ∈ l, Q u (d + if (k == 5) = true then 1 else 0))
    (h : ∀ k s n l d, (k == 5 || k == 6) = false → Q (.mk k s n l) d → lf (.mk k s n l) d = .mk k s n l) : ∀ t d, Q t d → walkF lf t d = t := by
  refine Tm.ind fun t ih d hQ => ?_
  obtain ⟨k, s, n, l⟩ := t
  cases hk : (k == 5 || k == 6) with
  | false => rw [walkF_leaf _ _ _ _ _ _ hk]; exact h _ _ _ _ _ hk hQ
  | true =>
    have key : ∀ (m : List Tm) (e : Int), (∀ u ∈ m, walkF lf u e = u) → walkL lf m e = m := by
      intro m e
      induction m with
      | nil => intro _; rfl
      | cons x m im => intro hm; simp only [walkL, hm x List.mem_cons_self, im fun u hu => hm u (List.mem_cons_of_mem _ hu)]
    have hm := key l (d + if (k == 5) = true then 1 else 0) fun u hu => ih u hu _ (hq k s n l d hQ hk u hu)
    rw [walkF, if_pos hk, hm, withF_id _ _ _ _ _ rfl]
theorem sh_none (i : Int) (t : Tm) : shT i 0 t 0 = t := walk_id _ (fun _ _ => True) (fun _ _ _ _ _ _ _ _ _ => trivial) (fun k s n l d _ _ => by
  unfold shLeaf; split
  · simp [Tm.k, Tm.s, Tm.n, Tm.l]
  · rfl) t 0 trivial
mutual
theorem su_back (i : Int) (s' : Tm) : ∀ (t : Tm) (d : Int), suT i s' (shT i 1 t d) d = t
  | .mk k s n l, d => by
    cases hk : (k == 5 || k == 6) with
    | true =>
      rw [shT_in _ _ _ _ _ _ _ hk, suT, walkF, if_pos hk, su_backs i s' l, withF_id]
      cases l with
      | nil => rfl
      | cons x l => exact walkF_k _ (shLeaf_k i 1) x _
    | false =>
      rw [shT_leaf _ _ _ _ _ _ _ hk]
      unfold shLeaf
      by_cases h : (k == 3) = true ∧ d + i ≤ n
      · have h' : ((Tm.mk k s n l).k == 3) = true ∧ d + i ≤ (Tm.mk k s n l).n := h
        rw [if_pos h']
        show walkF _ (.mk k s (n + 1) l) d = _
        rw [walkF_leaf _ _ _ _ _ _ hk, suLeaf_gt h.1 (by omega)]
        rw [show n + 1 - 1 = n by omega]
      · have h' : ¬ (((Tm.mk k s n l).k == 3) = true ∧ d + i ≤ (Tm.mk k s n l).n) := h
        rw [if_neg h', suT, walkF_leaf _ _ _ _ _ _ hk]
        by_cases h3 : (k == 3) = true
        · exact suLeaf_lt h3 (Int.not_le.mp fun e => h ⟨h3, e⟩)
        · exact suLeaf_ne h3
theorem su_backs (i : Int) (s' : Tm) : ∀ (l : List Tm) (d : Int), walkL (suLeaf i s') (walkL (shLeaf i 1) l d) d = l
  | [], _ => rfl
  | t :: l, d => by
    have h1 := su_back i s' t d
    simp only [shT, suT] at h1
    simp only [walkL, h1, su_backs i s' l d]
end
mutual
theorem loose_ge : ∀ (t : Tm) (d acc : Int), acc ≤ looseF t d acc
  | .mk k s n l, d, acc => by
    simp only [looseF]
    split
    · exact loose_ges l _ _
    · split
      · exact loose_ges l _ _
      · split
        · unfold maxI; split <;> omega
        · omega
theorem loose_ges : ∀ (l : List Tm) (d acc : Int), acc ≤ looseL l d acc
  | [], _, _ => Int.le_refl _
  | t :: l, d, acc => Int.le_trans (loose_ge t d acc) (loose_ges l d _)
end
theorem loose_mem (d : Int) : ∀ {l : List Tm} {acc : Int} {t : Tm}, t ∈ l → ∃ acc', looseF t d acc' ≤ looseL l d acc
  | x :: l, acc, t, h => by
    rcases List.mem_cons.1 h with rfl | h
    · exact ⟨acc, loose_ges l d _⟩
    · exact loose_mem d (l := l) (acc := looseF x d acc) h
theorem su_closed (i : Int) (s' t : Tm) (h : looseF t 0 0 ≤ i) : suT i s' t 0 = t := by
  refine walk_id _ (fun t d => ∃ acc, looseF t d acc ≤ i) (fun k s n l d ⟨acc, hq⟩ hk u hu => ?_) (fun k s n l d hk ⟨acc, hq⟩ => ?_) t 0 ⟨0, h⟩
  · simp only [looseF] at hq
    by_cases h5 : (k == 5) = true
    · rw [if_pos h5] at hq ⊢
      obtain ⟨acc', h'⟩ := loose_mem (d + 1) (acc := acc) hu
      exact ⟨acc', by omega⟩
    · have h6 : (k == 6) = true := by rw [show (k == 5) = false by simpa using h5] at hk; simpa using hk
      rw [if_neg h5, if_pos h6] at hq
      rw [if_neg h5, Int.add_zero]
      obtain ⟨acc', h'⟩ := loose_mem d (acc := acc) hu
      exact ⟨acc', by omega⟩
  · simp only [Bool.or_eq_false_iff] at hk
    by_cases h3 : (k == 3) = true
    · simp only [looseF, hk.1, hk.2, h3, Bool.false_eq_true, if_false, if_true] at hq
      exact suLeaf_lt h3 (by unfold maxI at hq; split at hq <;> omega)
    · exact suLeaf_ne h3

/-! ### THE LAW: shifts -/
theorem ret1 {b : Bool} (h : b = true) : TV.Le (cb b) (cb true) ∧ ([] : List AObj) = [] := ret_b h
theorem same_ok {x y : Tm} (hx : x.sz ≤ B) (e : x = y) : AC Try.prog 16 [aT x, aT y] [] (cb true) [] := by
  have := c_rsame x hx y
  rw [(sameB_iff x y).2 e] at this; exact this
theorem Okay.shift {t : Tm} (kt : Okay t) (i a : Int) (h1 : 0 ≤ i) (h2 : i ≤ 2000) (h3 : 0 ≤ a) (h4 : a ≤ 2000) : AC Try.prog 45 [aT t, ci i, ci a] [] (aT (shT i a t 0)) [] ∧ (shT i a t 0).sz ≤ 4880 ∧ nd (shT i a t 0) ≤ 80 ∧ bd 1099511629776 (shT i a t 0) := by
  have := kt.size
  have := shT_sz i a t 0
  have := shT_nd i a t 0
  have := kt.nodes
  refine ⟨c_shift t i a (by simp only [B]; omega) (bd_le (by simp only [M61]; omega) t kt.nums) h1 (by simp only [M61]; omega) (by omega) (by simp only [M61]; omega), by omega, by omega, bd_le (by omega) _ (shT_bd h3 t 0 kt.nums (Int.le_refl _))⟩
theorem mul80 {a b : Nat} (h : a ≤ 80) (hb : b ≤ 4880) : a * b ≤ 390400 := Nat.mul_le_mul h hb
end Go.AM

set_option maxRecDepth 100000
open Go Go.Proofs
namespace Go.AM

/-! ### Plain laws: apply, lams -/
theorem applyF_nil (f : Tm) : applyF f [] = f := rfl
theorem applyF6 (l : List Tm) (y : Tm) (b : List Tm) (h : l ≠ []) : applyF (.mk 6 [] 0 l) (y :: b) = .mk 6 [] 0 (l ++ y :: b) := if_pos ⟨rfl, h⟩
theorem applyF_both (f : Tm) : ∀ a b : List Tm, applyF (applyF f a) b = applyF f (a ++ b)
  | [], b => rfl
  | x :: a, [] => by rw [List.append_nil]; rfl
  | x :: a, y :: b => by
    by_cases h : (f.k == 6) = true ∧ f.l ≠ []
    · rw [show applyF f (x :: a) = .mk 6 [] 0 (f.l ++ (x :: a)) from if_pos h, show applyF f (x :: a ++ y :: b) = .mk 6 [] 0 (f.l ++ (x :: a ++ y :: b)) from if_pos h]
      rw [applyF6 _ _ _ (by simp)]
      simp
    · rw [show applyF f (x :: a) = .mk 6 [] 0 (f :: (x :: a)) from if_neg h, show applyF f (x :: a ++ y :: b) = .mk 6 [] 0 (f :: (x :: a ++ y :: b)) from if_neg h]
      rw [applyF6 _ _ _ (by simp)]
      simp
theorem applyF_len (f : Tm) : ∀ a : List Tm, (applyF f a).l.length ≤ 1 + f.l.length + a.length
  | [] => by rw [applyF_nil]; omega
  | x :: a => by
    by_cases h : (f.k == 6) = true ∧ f.l ≠ []
    · rw [show applyF f (x :: a) = .mk 6 [] 0 (f.l ++ (x :: a)) from if_pos h]
      simp only [Tm.l, List.length_append]; omega
    · rw [show applyF f (x :: a) = .mk 6 [] 0 (f :: (x :: a)) from if_neg h]
      simp only [Tm.l, List.length_cons]; omega
theorem lamsF_both (n : Nat) : ∀ (m : Nat) (f : Tm), lamsF n (lamsF m f) = lamsF (n + m) f
  | 0, _ => rfl
  | m + 1, f => by rw [lamsF, lamsF_both n m]; rfl
theorem lamsF_size : ∀ (n : Nat) (f : Tm), sizeF (lamsF n f) = n + sizeF f
  | 0, f => by rw [lamsF]; omega
  | n + 1, f => by
    rw [lamsF, lamsF_size n]
    have : sizeF (.mk 5 [] 0 [f]) = 1 + sizeF f := by simp [sizeF, sizeL]
    omega
theorem lamsF_sz : ∀ (n : Nat) (f : Tm), (lamsF n f).sz = n + f.sz
  | 0, f => by rw [lamsF]; omega
  | n + 1, f => by
    rw [lamsF, lamsF_sz n]
    simp only [Tm.sz, Tm.szs, List.length_nil]; omega

/-! ### THE LAW: applies -/
theorem applies_app (f : Tm) (a b : List Tm) (kf : Okay f) (ha : a.length ≤ 8) (hb : b.length ≤ 8) (hza : Tm.szs a ≤ 1048576) (hzb : Tm.szs b ≤ 1048576) :
    AC Try.prog 52 [aT f, aL a] [] (aT (applyF f a)) [] ∧ AC Try.prog 52 [aT (applyF f a), aL b] [] (aT (applyF (applyF f a) b)) [] ∧ AC Try.prog 52 [aT f, aL (a ++ b)] [] (aT (applyF f (a ++ b))) [] ∧
    AC Try.prog 16 [aT (applyF (applyF f a) b), aT (applyF f (a ++ b))] [] (cb true) [] ∧ AC Try.prog 52 [aT f, .c (.a (.fz .nils))] [] (aT f) [] ∧ AC Try.prog 16 [aT f, aT f] [] (cb true) [] := by
  have h0 := kf.size
  have h1 := Tm.szs_length f.l
  have h2 := f.sz_eq
  have h3 := applyF_sz f a
  have h4 := applyF_len f a
  have h5 : (applyF (applyF f a) b).sz ≤ 1 + (1 + f.sz + Tm.szs a) + Tm.szs b := Nat.le_trans (applyF_sz _ _) (by omega)
  have hs : AC Try.prog 16 [aT (applyF (applyF f a) b), aT (applyF f (a ++ b))] [] (cb true) [] := same_ok (by simp only [B] at *; omega) (applyF_both f a b)
  exact ⟨c_apply f a (by omega), c_apply _ b (by omega), c_apply f (a ++ b) (by rw [List.length_append]; omega), hs, (c_apply f [] (by simp only [List.length_nil]; omega)).args ⟨.refl _, le_c leNil, trivial⟩, same_ok (by simp only [B]; omega) rfl⟩
theorem row_len {l : List Tm} (h : rowL l = false) : l.length ≤ 8 := by
  simp only [rowL, Bool.or_eq_false_iff] at h
  have := of_decide_eq_false h.1
  omega
end Go.AM

set_option maxRecDepth 100000
open Go Go.Proofs
namespace Go.AM

/-! ### Plain laws: two substitutions -/
abbrev byI (k : Int) : Int := if (k == 5) = true then 1 else 0
theorem suT_in (i : Int) (s' : Tm) (k : Int) (s : List UInt8) (n : Int) (l : List Tm) (d : Int) (hk : (k == 5 || k == 6) = true) : suT i s' (.mk k s n l) d = withF (.mk k s n l) (walkL (suLeaf i s') l (d + byI k)) := by
  rw [suT, walkF, if_pos hk]
theorem suT_leaf (i : Int) (s' : Tm) (k : Int) (s : List UInt8) (n : Int) (l : List Tm) (d : Int) (hk : (k == 5 || k == 6) = false) : suT i s' (.mk k s n l) d = suLeaf i s' (.mk k s n l) d := walkF_leaf _ k s n l d hk
theorem shLeaf_ge {fr by_ : Int} {k : Int} {s : List UInt8} {n : Int} {l : List Tm} {d : Int} (h3 : (k == 3) = true) (h : d + fr ≤ n) : shLeaf fr by_ (.mk k s n l) d = .mk k s (n + by_) l := by
  unfold shLeaf
  rw [if_pos (show (Tm.k (.mk k s n l) == 3) = true ∧ d + fr ≤ Tm.n (.mk k s n l) from ⟨h3, h⟩)]; rfl
theorem shLeaf_no {fr by_ : Int} {k : Int} {s : List UInt8} {n : Int} {l : List Tm} {d : Int} (h : ¬ ((k == 3) = true ∧ d + fr ≤ n)) : shLeaf fr by_ (.mk k s n l) d = .mk k s n l := by
  unfold shLeaf
  rw [if_neg (show ¬ ((Tm.k (.mk k s n l) == 3) = true ∧ d + fr ≤ Tm.n (.mk k s n l)) from h)]
theorem walkL_append (lf : Tm → Int → Tm) : ∀ (a b : List Tm) (d : Int), walkL lf (a ++ b) d = walkL lf a d ++ walkL lf b d
  | [], _, _ => rfl
  | t :: a, b, d => by simp only [List.cons_append, walkL, walkL_append lf a b d]
/-! Shifts of shifts. -/
mutual
theorem sh_sh (d e : Int) (he : 0 ≤ e) : ∀ (u : Tm) (f : Int), shT 0 d (shT 0 e u f) (e + f) = shT 0 (d + e) u f
  | .mk k s n l, f => by
    cases hk : (k == 5 || k == 6) with
    | true => rw [shT_in _ _ _ _ _ _ _ hk, shT_in _ _ _ _ _ _ _ hk, shT_in _ _ _ _ _ _ _ hk, Int.add_assoc, sh_shs d e he l]
    | false =>
      rw [shT_leaf _ _ _ _ _ _ _ hk, shT_leaf _ _ _ _ _ _ _ hk]
      by_cases h : (k == 3) = true ∧ f + 0 ≤ n
      · rw [shLeaf_ge h.1 h.2, shLeaf_ge h.1 h.2, shT_leaf _ _ _ _ _ _ _ hk, shLeaf_ge h.1 (by omega), show n + e + d = n + (d + e) by omega]
      · rw [shLeaf_no h, shLeaf_no h, shT_leaf _ _ _ _ _ _ _ hk, shLeaf_no fun e' => h ⟨e'.1, by omega⟩]
theorem sh_shs (d e : Int) (he : 0 ≤ e) : ∀ (l : List Tm) (f : Int), walkL (shLeaf 0 d) (walkL (shLeaf 0 e) l f) (e + f) = walkL (shLeaf 0 (d + e)) l f
  | [], _ => rfl
  | t :: l, f => by
    have h1 := sh_sh d e he t f
    simp only [shT] at h1
    simp only [walkL, h1, sh_shs d e he l f]
end
/-! A shift of what is made flat. -/
theorem headD_walk (lf : Tm → Int → Tm) (h : ∀ u d, (lf u d).k = u.k) (l : List Tm) (d : Int) : ((walkL lf l d).headD default).k = (l.headD default).k := by
  cases l with
  | nil => rfl
  | cons x l => exact walkF_k _ h x _
theorem withF_pos {k : Int} {s : List UInt8} {n : Int} {l : List Tm} {x : Tm} {r : List Tm} (h6 : (k == 6) = true) (hr : r ≠ []) (hx : (x.k == 6) = true) (hl : ((l.headD default).k == 6) = false) : withF (.mk k s n l) (x :: r) = applyF x r := by
  unfold withF
  exact if_pos ⟨h6, by cases r with
    | nil => exact absurd rfl hr
    | cons y r => simp, hx, show ((l.headD default).k != 6) = true by rw [bne, hl]; rfl⟩
theorem withF_neg {k : Int} {s : List UInt8} {n : Int} {l o : List Tm} (h : ¬ ((k == 6) = true ∧ 1 < o.length ∧ ((o.headD default).k == 6) = true ∧ ((l.headD default).k == 6) = false)) : withF (.mk k s n l) o = .mk k s n o := by
  unfold withF
  refine if_neg fun e => h ⟨e.1, e.2.1, e.2.2.1, ?_⟩
  have : ((l.headD default).k != 6) = true := e.2.2.2
  simpa [bne] using this
theorem applyF_in {k : Int} {s : List UInt8} {n : Int} {m : List Tm} (y : Tm) (b : List Tm) (h6 : (k == 6) = true) (hm : m ≠ []) : applyF (.mk k s n m) (y :: b) = .mk 6 [] 0 (m ++ y :: b) := if_pos ⟨h6, hm⟩
theorem applyF_out {k : Int} {s : List UInt8} {n : Int} (y : Tm) (b : List Tm) : applyF (.mk k s n []) (y :: b) = .mk 6 [] 0 (.mk k s n [] :: y :: b) := if_neg (fun e => e.2 rfl)
theorem sh_apply (fr by_ : Int) (x : Tm) (r : List Tm) (d : Int) (hx : (x.k == 6) = true) : shT fr by_ (applyF x r) d = applyF (shT fr by_ x d) (walkL (shLeaf fr by_) r d) := by
  match r with
  | [] => rfl
  | y :: r =>
    obtain ⟨k, s, n, m⟩ := x
    have h6 : (k == 6) = true := hx
    have h5 : (k == 5) = false := by have : k = 6 := by simpa using h6
                                     subst this; rfl
    have hk : (k == 5 || k == 6) = true := by rw [h6]; simp
    have e6 : ∀ (q : List Tm), shT fr by_ (.mk 6 [] 0 q) d = .mk 6 [] 0 (walkL (shLeaf fr by_) q d) := fun q => by
      rw [shT_in _ _ _ _ _ _ _ rfl]; simp
    have ex : shT fr by_ (.mk k s n m) d = .mk k s n (walkL (shLeaf fr by_) m d) := by rw [shT_in _ _ _ _ _ _ _ hk, h5]; simp
    match m with
    | [] =>
      have ex : shT fr by_ (.mk k s n []) d = .mk k s n [] := ex
      rw [applyF_out, e6, ex]
      show Tm.mk 6 [] 0 (shT fr by_ (.mk k s n []) d :: walkL _ (y :: r) d) = _
      rw [ex, walkL, applyF_out]
    | z :: m =>
      rw [applyF_in y r h6 (by simp), e6, ex, walkL_append]
      rw [show walkL (shLeaf fr by_) (y :: r) d = walkF (shLeaf fr by_) y d :: walkL (shLeaf fr by_) r d from rfl, applyF_in _ _ h6 (by simp [walkL])]
theorem sh_with (fr by_ : Int) (k : Int) (s : List UInt8) (n : Int) (l o : List Tm) (d : Int) (hk : (k == 5 || k == 6) = true) :
    shT fr by_ (withF (.mk k s n l) o) d = withF (.mk k s n (walkL (shLeaf fr by_) l (d + byI k))) (walkL (shLeaf fr by_) o (d + byI k)) := by
  by_cases h : (k == 6) = true ∧ 1 < o.length ∧ ((o.headD default).k == 6) = true ∧ ((l.headD default).k == 6) = false
  · obtain ⟨h6, hlen, ho, hl⟩ := h
    match o, hlen, ho with
    | x :: r, hlen, ho =>
      have hr : r ≠ [] := by intro e; rw [e] at hlen; simp at hlen
      have h5 : (k == 5) = false := by have : k = 6 := by simpa using h6
                                       subst this; rfl
      have ho : (x.k == 6) = true := ho
      rw [withF_pos h6 hr ho hl, sh_apply _ _ _ _ _ ho, show byI k = 0 by unfold byI; rw [h5]; rfl, Int.add_zero, walkL]
      rw [withF_pos h6 (by cases r with
        | nil => exact absurd rfl hr
        | cons y r => simp [walkL]) (by rw [walkF_k _ (shLeaf_k fr by_)]; exact ho) (by rw [headD_walk _ (shLeaf_k fr by_)]; exact hl)]
      rfl
  · rw [withF_neg h, shT_in _ _ _ _ _ _ _ hk, withF_neg]
    intro e
    refine h ⟨e.1, by have := e.2.1; rw [walkL_length] at this; exact this, ?_, ?_⟩
    · have := e.2.2.1; rw [headD_walk _ (shLeaf_k fr by_)] at this; exact this
    · have := e.2.2.2; rw [headD_walk _ (shLeaf_k fr by_)] at this; exact this
/-! A substitution in what is shifted. -/
mutual
theorem su_sh (d j : Int) (hd : 0 ≤ d) (hj : 0 ≤ j) (u : Tm) : ∀ (t : Tm) (e : Int), 0 ≤ e → suT j u (shT 0 d t e) (d + e) = shT 0 d (suT j u t e) e
  | .mk k s n l, e, he => by
    cases hk : (k == 5 || k == 6) with
    | true =>
      rw [shT_in _ _ _ _ _ _ _ hk, suT_in _ _ _ _ _ _ _ hk, suT_in _ _ _ _ _ _ _ hk, sh_with _ _ _ _ _ _ _ _ hk, Int.add_assoc, su_shs d j hd hj u l _ (by have := by_ite k; omega)]
    | false =>
      rw [shT_leaf _ _ _ _ _ _ _ hk, suT_leaf _ _ _ _ _ _ _ hk]
      by_cases h3 : (k == 3) = true
      · by_cases h : e ≤ n
        · rw [shLeaf_ge h3 (by omega), suT_leaf _ _ _ _ _ _ _ hk]
          rcases Int.lt_trichotomy n (e + j) with h' | h' | h'
          · rw [suLeaf_lt h3 (by omega), suLeaf_lt h3 h', shT_leaf _ _ _ _ _ _ _ hk, shLeaf_ge h3 (by omega)]
          · rw [suLeaf_eq h3 (by omega), suLeaf_eq h3 h']
            have := sh_sh d e he u 0
            rw [Int.add_zero] at this; exact this.symm
          · rw [suLeaf_gt h3 (by omega), suLeaf_gt h3 h', shT_leaf _ _ _ _ _ _ _ hk, shLeaf_ge h3 (by omega), show n + d - 1 = n - 1 + d by omega]
        · have hn : ¬ ((k == 3) = true ∧ e + 0 ≤ n) := fun e' => h (by omega)
          rw [shLeaf_no hn, suT_leaf _ _ _ _ _ _ _ hk, suLeaf_lt h3 (by omega), suLeaf_lt h3 (by omega), shT_leaf _ _ _ _ _ _ _ hk, shLeaf_no hn]
      · have hn : ¬ ((k == 3) = true ∧ e + 0 ≤ n) := fun e' => h3 e'.1
        rw [shLeaf_no hn, suT_leaf _ _ _ _ _ _ _ hk, suLeaf_ne h3, suLeaf_ne h3, shT_leaf _ _ _ _ _ _ _ hk, shLeaf_no hn]
theorem su_shs (d j : Int) (hd : 0 ≤ d) (hj : 0 ≤ j) (u : Tm) : ∀ (l : List Tm) (e : Int), 0 ≤ e → walkL (suLeaf j u) (walkL (shLeaf 0 d) l e) (d + e) = walkL (shLeaf 0 d) (walkL (suLeaf j u) l e) e
  | [], _, _ => rfl
  | t :: l, e, he => by
    have h1 := su_sh d j hd hj u t e he
    simp only [shT, suT] at h1
    simp only [walkL, h1, su_shs d j hd hj u l e he]
end
/-! What is flat. -/
/-- An application's first one is none; there are two at least. -/
def topF (t : Tm) : Prop := (t.k == 6) = true → 2 ≤ t.l.length ∧ ((t.l.headD default).k == 6) = false
mutual
def flatF : Tm → Prop
  | .mk k s n l => topF (.mk k s n l) ∧ ((k == 5 || k == 6) = true → flatL l)
def flatL : List Tm → Prop
  | [] => True
  | t :: l => flatF t ∧ flatL l
end
mutual
theorem valid_flat : ∀ t : Tm, validB t = true → flatF t
  | .mk k s n l, h => by
    refine ⟨fun h6 => ?_, fun hk => valid_flats l ?_⟩
    · have e : k = 6 := by simpa [Tm.k] using h6
      subst e
      simp [validB] at h
      simp only [Tm.l]
      rw [FTs_length] at h
      refine ⟨by omega, ?_⟩
      simp [h]
    · rcases Bool.or_eq_true_iff.1 hk with h5 | h6
      · have e : k = 5 := by simpa using h5
        subst e
        simp [validB] at h
        exact h.2
      · have e : k = 6 := by simpa using h6
        subst e
        simp [validB] at h
        exact h.2
theorem valid_flats : ∀ l : List Tm, validL l = true → flatL l
  | [], _ => trivial
  | t :: l, h => by
    simp only [validL, Bool.and_eq_true] at h
    exact ⟨valid_flat t h.1, valid_flats l h.2⟩
end
theorem sh_top {fr by_ : Int} {t : Tm} {d : Int} (h : topF t) : topF (shT fr by_ t d) := by
  intro h6
  unfold shT at h6 ⊢
  rw [walkF_k _ (shLeaf_k fr by_)] at h6
  have h' := h h6
  obtain ⟨k, s, n, l⟩ := t
  have hk : (k == 5 || k == 6) = true := by rw [show (k == 6) = true from h6]; simp
  rw [walkF_keep _ (shLeaf_k fr by_) _ _ _ _ _ hk]
  simp only [Tm.l] at h' ⊢
  rw [walkL_length, headD_walk _ (shLeaf_k fr by_)]
  exact h'
/-- What a list of an application comes to. -/
def flatX (s : List UInt8) (n : Int) (X : List Tm) : Tm := if ((X.headD default).k == 6) = true then applyF (X.headD default) X.tail else .mk 6 s n X
theorem applyF_assoc (h : Tm) (p q : List Tm) (h6 : (h.k == 6) = true) (hp : p ≠ []) : applyF (applyF h p) q = applyF h (p ++ q) := applyF_both h p q
theorem su_flat (i : Int) (s' : Tm) (s : List UInt8) (n : Int) (l : List Tm) (x : Tm) (r : List Tm) (d : Int) (hr : r ≠ []) (hl : ((l.headD default).k == 6) = false) (hx : topF x) :
    suT i s' (withF (.mk 6 s n l) (x :: r)) d = flatX s n (walkL (suLeaf i s') (x :: r) d) := by
  have hr' : walkL (suLeaf i s') r d ≠ [] := by cases r with
    | nil => exact absurd rfl hr
    | cons y r => simp [walkL]
  have in6 : ∀ (s : List UInt8) (n : Int) (q : List Tm), suT i s' (.mk 6 s n q) d = withF (.mk 6 s n q) (walkL (suLeaf i s') q d) := fun s n q => by
    rw [suT_in _ _ _ _ _ _ _ rfl]; simp [byI]
  by_cases hx6 : (x.k == 6) = true
  · rw [withF_pos rfl hr hx6 hl]
    obtain ⟨k, t, m, q⟩ := x
    have e : k = 6 := by simpa [Tm.k] using hx6
    subst e
    obtain ⟨h2, h3⟩ := hx hx6
    simp only [Tm.l] at h2 h3
    match q, h2, h3 with
    | y :: q, h2, h3 =>
      have hq : q ≠ [] := by intro e; rw [e] at h2; simp at h2
      have h3 : (y.k == 6) = false := h3
      match r, hr with
      | z :: r, hr =>
      rw [applyF_in z r rfl (by simp), in6, walkL_append]
      have eh : walkF (suLeaf i s') (.mk 6 t m (y :: q)) d = withF (.mk 6 t m (y :: q)) (walkL (suLeaf i s') (y :: q) d) := in6 t m (y :: q)
      have hq' : walkL (suLeaf i s') q d ≠ [] := by cases q with
        | nil => exact absurd rfl hq
        | cons y q => simp [walkL]
      have ew : walkL (suLeaf i s') (.mk 6 t m (y :: q) :: z :: r) d = walkF (suLeaf i s') (.mk 6 t m (y :: q)) d :: walkL (suLeaf i s') (z :: r) d := rfl
      have ey : walkL (suLeaf i s') (y :: q) d = walkF (suLeaf i s') y d :: walkL (suLeaf i s') q d := rfl
      rw [flatX, ew, List.headD_cons, List.tail_cons, eh, ey]
      generalize hR : walkL (suLeaf i s') (z :: r) d = R at hr' ⊢
      generalize hY : walkF (suLeaf i s') y d = Y
      generalize hQ : walkL (suLeaf i s') q d = Q at hq' ⊢
      have hQR : Q ++ R ≠ [] := by simp [hq']
      by_cases hY6 : (Y.k == 6) = true
      · have g1 : withF (.mk 6 [] 0 (y :: q ++ z :: r)) (Y :: (Q ++ R)) = applyF Y (Q ++ R) := withF_pos rfl hQR hY6 h3
        have g2 : withF (.mk 6 t m (y :: q)) (Y :: Q) = applyF Y Q := withF_pos rfl hq' hY6 h3
        refine Eq.trans (show _ = withF (.mk 6 [] 0 (y :: q ++ z :: r)) (Y :: (Q ++ R)) from rfl) ?_
        rw [g1, g2, if_pos (by rw [applyF_k _ hY6]; rfl), applyF_both]
      · have g1 : withF (.mk 6 [] 0 (y :: q ++ z :: r)) (Y :: (Q ++ R)) = .mk 6 [] 0 (Y :: (Q ++ R)) := withF_neg (fun e => hY6 e.2.2.1)
        have g2 : withF (.mk 6 t m (y :: q)) (Y :: Q) = .mk 6 t m (Y :: Q) := withF_neg (fun e => hY6 e.2.2.1)
        refine Eq.trans (show _ = withF (.mk 6 [] 0 (y :: q ++ z :: r)) (Y :: (Q ++ R)) from rfl) ?_
        rw [g1, g2, if_pos (show ((Tm.mk 6 t m (Y :: Q)).k == 6) = true from rfl)]
        match R, hr' with
        | w :: R, _ => rw [applyF_in w R rfl (by simp)]; rfl
  · rw [withF_neg (o := x :: r) (fun e => hx6 e.2.2.1), in6, flatX, walkL, List.headD_cons, List.tail_cons]
    by_cases hX : ((walkF (suLeaf i s') x d).k == 6) = true
    · rw [if_pos hX, withF_pos rfl hr' hX (by simpa using hx6)]
    · rw [if_neg hX, withF_neg (o := walkF (suLeaf i s') x d :: walkL (suLeaf i s') r d) (fun e => hX e.2.2.1)]
theorem su_top {i : Int} {s' t : Tm} {d : Int} (hs : topF s') (ht : (t.k == 6) = false) : topF (suT i s' t d) := by
  obtain ⟨k, s, n, l⟩ := t
  have ht : (k == 6) = false := ht
  cases hk : (k == 5 || k == 6) with
  | true =>
    rw [suT_in _ _ _ _ _ _ _ hk]
    intro h6
    rw [withF_k] at h6
    have h6 : (k == 6) = true := h6
    rw [ht] at h6; cases h6
  | false =>
    rw [suT_leaf _ _ _ _ _ _ _ hk]
    by_cases h3 : (k == 3) = true
    · rcases Int.lt_trichotomy n (d + i) with h | h | h
      · rw [suLeaf_lt h3 h]; intro h6; have h6 : (k == 6) = true := h6; rw [ht] at h6; cases h6
      · rw [suLeaf_eq h3 h]; exact sh_top hs
      · rw [suLeaf_gt h3 h]; intro h6; have h6 : (k == 6) = true := h6; rw [ht] at h6; cases h6
    · rw [suLeaf_ne h3]; intro h6; have h6 : (k == 6) = true := h6; rw [ht] at h6; cases h6
mutual
theorem su_swap (i j : Int) (s u : Tm) (hi : 0 ≤ i) (hj : i ≤ j) (hs : topF s) (hu : topF u) : ∀ (t : Tm) (d : Int), 0 ≤ d → flatF t → suT j u (suT i s t d) d = suT i (suT j u s 0) (suT (j + 1) (shT i 1 u 0) t d) d
  | .mk k c n l, d, hd, hf => by
    cases hk : (k == 5 || k == 6) with
    | true =>
      have hX := su_swaps i j s u hi hj hs hu l (d + byI k) (by have := by_ite k; unfold byI; omega) (hf.2 hk)
      rw [suT_in _ _ _ _ _ _ _ hk, suT_in _ _ _ _ _ _ _ hk]
      by_cases h6 : (k == 6) = true
      · have e : k = 6 := by simpa using h6
        subst e
        obtain ⟨h2, h3⟩ := hf.1 rfl
        simp only [Tm.l] at h2 h3
        rw [show byI 6 = 0 from rfl, Int.add_zero] at hX ⊢
        match l, h2, h3, hX with
        | x :: y :: l, _, h3, hX =>
          have h3' : (x.k == 6) = false := h3
          have g1 := su_flat j u c n (x :: y :: l) (walkF (suLeaf i s) x d) (walkL (suLeaf i s) (y :: l) d) d (by simp [walkL]) h3 (su_top hs h3')
          have g2 := su_flat i (suT j u s 0) c n (x :: y :: l) (walkF (suLeaf (j + 1) (shT i 1 u 0)) x d) (walkL (suLeaf (j + 1) (shT i 1 u 0)) (y :: l) d) d (by simp [walkL]) h3 (su_top (sh_top hu) h3')
          exact Eq.trans g1 (Eq.trans (congrArg _ hX) g2.symm)
      · rw [withF_neg (fun e => h6 e.1), withF_neg (fun e => h6 e.1), suT_in _ _ _ _ _ _ _ hk, suT_in _ _ _ _ _ _ _ hk, withF_neg (fun e => h6 e.1), withF_neg (fun e => h6 e.1), hX]
    | false =>
      rw [suT_leaf _ _ _ _ _ _ _ hk, suT_leaf _ _ _ _ _ _ _ hk]
      by_cases h3 : (k == 3) = true
      · rcases Int.lt_trichotomy n (d + i) with h | h | h
        · rw [suLeaf_lt h3 h, suLeaf_lt h3 (by omega), suT_leaf _ _ _ _ _ _ _ hk, suT_leaf _ _ _ _ _ _ _ hk, suLeaf_lt h3 (by omega), suLeaf_lt h3 h]
        · rw [suLeaf_eq h3 h, suLeaf_lt h3 (by omega), suT_leaf _ _ _ _ _ _ _ hk, suLeaf_eq h3 h]
          have := su_sh d j hd (by omega) u s 0 (Int.le_refl _)
          rw [Int.add_zero] at this; exact this
        · rw [suLeaf_gt h3 h, suT_leaf _ _ _ _ _ _ _ hk]
          rcases Int.lt_trichotomy (n - 1) (d + j) with h' | h' | h'
          · rw [suLeaf_lt h3 h', suLeaf_lt h3 (by omega), suT_leaf _ _ _ _ _ _ _ hk, suLeaf_gt h3 h]
          · rw [suLeaf_eq h3 h', suLeaf_eq h3 (by omega)]
            have := su_sh d i hd hi (suT j u s 0) (shT i 1 u 0) 0 (Int.le_refl _)
            rw [Int.add_zero] at this
            rw [this, su_back]
          · rw [suLeaf_gt h3 h', suLeaf_gt h3 (by omega), suT_leaf _ _ _ _ _ _ _ hk, suLeaf_gt h3 (by omega)]
      · rw [suLeaf_ne h3, suLeaf_ne h3, suT_leaf _ _ _ _ _ _ _ hk, suT_leaf _ _ _ _ _ _ _ hk, suLeaf_ne h3, suLeaf_ne h3]
theorem su_swaps (i j : Int) (s u : Tm) (hi : 0 ≤ i) (hj : i ≤ j) (hs : topF s) (hu : topF u) : ∀ (l : List Tm) (d : Int), 0 ≤ d → flatL l → walkL (suLeaf j u) (walkL (suLeaf i s) l d) d = walkL (suLeaf i (suT j u s 0)) (walkL (suLeaf (j + 1) (shT i 1 u 0)) l d) d
  | [], _, _, _ => rfl
  | t :: l, d, hd, hf => by
    have h1 := su_swap i j s u hi hj hs hu t d hd hf.1
    simp only [suT] at h1 ⊢
    simp only [walkL, h1]
    have h2 := su_swaps i j s u hi hj hs hu l d hd hf.2
    simp only [suT] at h2
    rw [h2]
end

/-! ### THE LAW: swaps -/
end Go.AM

set_option maxRecDepth 100000
open Go Go.Proofs
namespace Go.AM

/-! ### Rows of numbers -/
abbrev aI (l : List Int) : TV := .c (.a (.fz (.sl false 1 (IR l))))
theorem IR_length (l : List Int) : (IR l).length = l.length := by simp [IR]
theorem IR_append (a b : List Int) : IR (a ++ b) = IR a ++ IR b := by simp [IR]
theorem midN (a : List Int) (x : Int) (b : List Int) : List.getD (IR (a ++ x :: b)) (Int.toNat (a.length : Int)) [] = [.int .i64 x] := by
  rw [show Int.toNat (a.length : Int) = a.length by omega]
  simp [List.getD, IR]
theorem ltN (a : List Int) (t : Int) (b : List Int) : (a.length : Int) < (((IR (a ++ t :: b)).length : Nat) : Int) := by rw [IR_length]; exact ltI a t b
def hasI (v : Int) (l : List Int) : Bool := l.any fun x => v == x
def idxI (v : Int) : List Int → Int → Int
  | [], _ => -1
  | x :: l, i => if (v == x) = true then i else idxI v l (i + 1)
theorem idxI_ge (v : Int) : ∀ (l : List Int) (i : Int), 0 ≤ i → decide (idxI v l i ≥ 0) = hasI v l
  | [], _, _ => rfl
  | x :: l, i, h => by
    rw [idxI]
    split
    · rename_i e; simp [hasI, e, h]
    · rename_i e; rw [idxI_ge v l (i + 1) (by omega)]; simp [hasI, show (v == x) = false by simpa using e]
theorem l_iindex (v : Int) : ∀ (b a : List Int), (a ++ b).length ≤ B → RPt Try.prog 68 0 (ci (idxI v b a.length)) [] 1 ⟨[(0, aI (a ++ b)), (1, ci v), (7, ci (((IR (a ++ b)).length : Nat) : Int)), (8, ci a.length)], [], 0⟩
  | [], a, hl => by
    refine RPt.vc hP sh lv68 (Eq.mpr (v68_1a ..) ?_)
    exact br_of (fun h => absurd (of_decide_eq_true h) (by rw [IR_length]; simp)) (fun _ => ret_i rfl)
  | x :: b, a, hl => by
    refine RPt.vc hP sh lv68 (Eq.mpr (v68_1a ..) ?_)
    have hl' := hl
    simp only [List.length_append, List.length_cons, B] at hl'
    have h2 := l_iindex v b (a ++ [x]) (by rw [ap]; exact hl)
    rw [ap, nx] at h2
    rw [midN, w64 (x := (a.length : Int) + 1) (by omega) (by omega)]
    refine br_of (fun _ => ⟨⟨rfl, by omega, ltN a x b, rfl⟩, br_of (fun h => ?_) (fun h => ?_)⟩) (fun h => absurd (ltN a x b) (of_decide_eq_false h))
    · rw [idxI, if_pos (show (v == x) = true from h)]; exact ret_i rfl
    · rw [idxI, if_neg (by rw [show (v == x) = false from h]; simp)]; exact h2
theorem c_icontains (l : List Int) (v : Int) (hl : l.length ≤ B) : AC Try.prog 43 [aI l, ci v] [] (cb (hasI v l)) [] := by
  have h1 : AC Try.prog 68 [aI l, ci v] [] (ci (idxI v l 0)) [] := by
    refine AC.vc hP sh lv68 (Nat.le_refl _) (by simp) (by simp) (Eq.mpr (v68 ..) ?_)
    exact ⟨rfl, l_iindex v l [] hl⟩
  refine AC.vc hP sh lv43 (Nat.le_refl _) (by simp) (by simp) (Eq.mpr (v43 ..) ?_)
  exact ⟨_, h1, ret_b (idxI_ge v l 0 (Int.le_refl _))⟩
/-! ### Variables -/
def varsLeaf (u : Tm) (l : List Int) : List Int := if (u.k == 4 && !hasI u.n l) = true then l ++ [u.n] else l
mutual
def varsF : Tm → List Int → List Int
  | .mk k s n l, acc => if (k == 5 || k == 6) = true then varsL l acc else varsLeaf (.mk k s n l) acc
def varsL : List Tm → List Int → List Int
  | [], acc => acc
  | t :: l, acc => varsL l (varsF t acc)
end
mutual
theorem varsF_ext : ∀ (t : Tm) (acc : List Int), ∃ e, varsF t acc = acc ++ e
  | .mk k s n l, acc => by
    rw [varsF]
    split
    · exact varsL_ext l acc
    · unfold varsLeaf
      split
      · exact ⟨_, rfl⟩
      · exact ⟨[], by simp⟩
theorem varsL_ext : ∀ (l : List Tm) (acc : List Int), ∃ e, varsL l acc = acc ++ e
  | [], acc => ⟨[], by simp [varsL]⟩
  | t :: l, acc => by
    obtain ⟨e, h⟩ := varsF_ext t acc
    obtain ⟨e', h'⟩ := varsL_ext l (varsF t acc)
    exact ⟨e ++ e', by rw [varsL, h', h, List.append_assoc]⟩
end
mutual
theorem varsF_len : ∀ (t : Tm) (acc : List Int), (varsF t acc).length ≤ acc.length + t.sz
  | .mk k s n l, acc => by
    rw [varsF]
    split
    · have := varsL_len l acc; simp only [Tm.sz]; omega
    · unfold varsLeaf
      split
      · simp only [List.length_append, List.length_cons, List.length_nil, Tm.sz]; omega
      · omega
theorem varsL_len : ∀ (l : List Tm) (acc : List Int), (varsL l acc).length ≤ acc.length + Tm.szs l
  | [], acc => by simp [varsL]
  | t :: l, acc => by
    have h1 := varsF_len t acc
    have h2 := varsL_len l (varsF t acc)
    simp only [varsL, Tm.szs]; omega
end
/-- The variable that holds the row: nil, or what it points to. -/
def HsV : List Int → List AObj
  | [] => [.arr 1 [[.a (.fz .nils)]]]
  | x :: l => [.arr 1 [[.a (.osl 1 1 0 (x :: l).length)]], .arz 1 (IR (x :: l))]
/-- ... behind a call that came with l and leaves l'. -/
def HsW (l l' : List Int) : List AObj := if l' = l then HsV l else if l = [] then HsV l' else [.arr 1 [[.a (.osl 2 1 0 l'.length)]], .gone, .arz 1 (IR l')]
theorem HsV_ne {l : List Int} (h : l ≠ []) : HsV l = [.arr 1 [[.a (.osl 1 1 0 l.length)]], .arz 1 (IR l)] := by
  match l, h with
  | x :: l, _ => rfl
theorem HsV_len (l : List Int) : 1 ≤ (HsV l).length := by cases l <;> simp [HsV]
theorem HsV_live : ∀ (l : List Int) (x : AObj), x ∈ HsV l → isLive x
  | [], x, h => by simp [HsV] at h; subst h; trivial
  | y :: l, x, h => by
    simp only [HsV, List.mem_cons, List.not_mem_nil, or_false] at h
    rcases h with rfl | rfl <;> trivial
theorem HsW_nil (l' : List Int) : HsW [] l' = HsV l' := by unfold HsW; split <;> simp_all
theorem HsW_same (l : List Int) : HsW l l = HsV l := if_pos rfl
theorem HsW_more {l l' : List Int} (h : l ≠ []) (h' : l' ≠ l) : HsW l l' = [.arr 1 [[.a (.osl 2 1 0 l'.length)]], .gone, .arz 1 (IR l')] := by rw [HsW, if_neg h', if_neg h]
theorem takeIR (l : List Int) : List.take l.length (List.drop 0 (IR l)) = IR l := by rw [List.drop_zero, List.take_of_length_le (by rw [IR_length]; exact Nat.le_refl _)]
theorem roomN {n : Nat} (h : n ≤ 2199023255552) : roomB n 8 := by unfold roomB; omega
theorem c_vars1 (u : Tm) (k : Int) (l : List Int) (hl : l.length ≤ 2 * B) (hl' : l.length ≤ B) : AC Try.prog 42 [aT u, ci k, .c (.a (.ep 0 1 0 0))] (HsV l) (.tup []) (HsW l (varsLeaf u l)) := by
  have hc := c_icontains l u.n hl'
  obtain ⟨kd, s, n, kl⟩ := u
  simp only [B] at hl hl'
  by_cases hne : l = []
  · subst hne
    rw [HsW_nil]
    refine AC.vc hP sh lv42 (HsV_len _) (HsV_live []) (fun x hx => HsV_live _ x (List.mem_of_mem_drop hx)) (Eq.mpr (v42 kd s n (FTs kl) k _ _) ?_)
    refine br_of (fun h => ⟨_, hc.args ⟨le_c (.nils 1), .refl _, trivial⟩, br_of (fun h1 => ⟨by omega, roomN (by omega), ?_⟩) (fun h1 => ?_)⟩) (fun h => ?_)
    · rw [show varsLeaf (.mk kd s n kl) [] = [n] from if_pos (by simp [Tm.k, Tm.n, hasI] at h ⊢; exact h)]
      exact ⟨.refl _, rfl⟩
    · exact absurd h1 (by simp [hasI])
    · rw [show varsLeaf (.mk kd s n kl) [] = [] from if_neg (by intro e; rw [Bool.and_eq_true] at e; rw [show (Tm.k (.mk kd s n kl) == 4) = false from h] at e; cases e.1)]
      exact ⟨.refl _, rfl⟩
  · have hv := HsV_ne hne
    rw [hv]
    have hw : ∀ l', varsLeaf (.mk kd s n kl) l = l' → l' ≠ l → HsW l (varsLeaf (.mk kd s n kl) l) = [.arr 1 [[.a (.osl 2 1 0 l'.length)]], .gone, .arz 1 (IR l')] := fun l' h h' => by rw [h, HsW_more hne h']
    have hsame : varsLeaf (.mk kd s n kl) l = l → HsW l (varsLeaf (.mk kd s n kl) l) = [.arr 1 [[.a (.osl 1 1 0 l.length)]], .arz 1 (IR l)] := fun h => by rw [h, HsW_same, hv]
    have hdic : varsLeaf (.mk kd s n kl) l = l ∨ varsLeaf (.mk kd s n kl) l = l ++ [n] := by unfold varsLeaf; split <;> simp [Tm.n]
    have hlen : 2 ≤ (HsW l (varsLeaf (.mk kd s n kl) l)).length ∧ (1 : Nat) = 1 := by
      rcases hdic with h | h
      · rw [hsame h]; simp
      · rw [hw _ h (by simp)]; simp
    refine AC.vc hP sh lv42 hlen.1 (by simp [isLive]) (by
      rcases hdic with h | h
      · rw [hsame h]; simp
      · rw [hw _ h (by simp)]; simp [isLive]) (Eq.mpr (v42_i1 kd s n (FTs kl) k l.length (IR l) _ _) ?_)
    rw [takeIR]
    refine br_of (fun h => ⟨⟨rfl, by rw [IR_length]; omega⟩, _, hc.args ⟨le_c (.nn _ _ _), .refl _, trivial⟩, rfl, br_of (fun h1 => ⟨by omega, ⟨by rw [IR_length]; omega, roomN (by omega)⟩, ?_⟩) (fun h1 => ?_)⟩) (fun h => ?_)
    · have e : varsLeaf (.mk kd s n kl) l = l ++ [n] := if_pos (by rw [show (Tm.k (.mk kd s n kl) == 4) = true from h]; simpa [Tm.n] using h1)
      rw [hw _ e (by simp), IR_append, List.take_of_length_le (by rw [IR_length]; omega), List.length_append]
      exact ⟨.refl _, rfl⟩
    · rw [hsame (if_neg (by intro e; rw [Bool.and_eq_true] at e; rw [show (!hasI (Tm.n (.mk kd s n kl)) l) = false from h1] at e; cases e.2))]
      exact ⟨.refl _, rfl⟩
    · rw [hsame (if_neg (by intro e; rw [Bool.and_eq_true] at e; rw [show (Tm.k (.mk kd s n kl) == 4) = false from h] at e; cases e.1))]
      exact ⟨.refl _, rfl⟩

end Go.AM

set_option maxRecDepth 100000
open Go Go.Proofs
namespace Go.AM

abbrev tellV : TV := .c (.fn (.func 42) [] [(false, [.ep 0 1 0 0])])
abbrev eV (k by_ : Int) (v : FV) (n i : Int) : Env := [(1, ci k), (2, tellV), (7, ci by_), (27, .c (.a (.fz v))), (28, ci n), (29, ci i)]
/-- The state of the loop where the row was nil before the call. -/
def sV1 (k by_ : Int) (v : FV) (n i : Int) : List Int → St
  | [] => ⟨eV k by_ v n i, [(0, .arr 1 [[.a (.fz .nils)]])], 1⟩
  | x :: l => ⟨eV k by_ v n i, [(0, .arr 1 [[.a (.osl 1 1 0 (x :: l).length)]]), (1, .arz 1 (IR (x :: l)))], 2⟩
theorem l_eachV1 (k by_ : Int) (h0 : 0 ≤ k) (hby : 0 ≤ by_) (hby1 : by_ ≤ 1) (hk : k ≤ 2305843009213693952) : ∀ (b a : List Tm) (v : FV) (acc : List Int), v.ses = FTs (a ++ b) → v.isSl 4 = true →
    (∀ u ∈ b, ∀ acc : List Int, acc.length + u.sz ≤ B → AC Try.prog 41 [aT u, ci (k + by_), tellV] (HsV acc) (.tup []) (HsW acc (varsF u acc))) → (a ++ b).length ≤ B → acc.length + Tm.szs b ≤ B →
    RPt Try.prog 41 1 (.tup []) (HsV (varsL b acc)) 1 (sV1 k by_ v (a ++ b).length a.length acc)
  | [], a, v, acc, hv, hs, _, hl, ha => by
    match acc with
    | [] =>
      refine RPt.vc hP sh lv41 (Eq.mpr (v41_F42_1a ..) ?_)
      exact br_of (fun h => absurd (of_decide_eq_true h) (by simp)) (fun _ => ⟨.refl _, rfl⟩)
    | x :: l =>
      refine RPt.vc hP sh lv41 (Eq.mpr (v41_F42_1c ..) ?_)
      exact br_of (fun h => absurd (of_decide_eq_true h) (by simp)) (fun _ => ⟨.refl _, rfl⟩)
  | t :: b, a, v, acc, hv, hs, ih, hl, ha => by
    have hl' := hl
    simp only [List.length_append, List.length_cons, B] at hl'
    simp only [Tm.szs] at ha
    have h1 := ih t List.mem_cons_self acc (by omega)
    have hlen := varsF_len t acc
    have h2 := l_eachV1 k by_ h0 hby hby1 hk b (a ++ [t]) v (varsF t acc) (by rw [ap]; exact hv) hs (fun u hu => ih u (List.mem_cons_of_mem _ hu)) (by rw [ap]; exact hl) (by omega)
    have h3 := ltI' a t b
    rw [ap, nx] at h2
    rw [varsL]
    obtain ⟨k', s', n', l'⟩ := t
    match acc, h1, h2, hlen with
    | [], h1, h2, _ =>
      refine RPt.vc hP sh lv41 (Eq.mpr (v41_F42_1a ..) ?_)
      rw [hv, midI, w64 (x := (a.length : Int) + 1) (by omega) (by omega), w64 (x := k + by_) (by omega) (by omega)]
      refine br_of (fun _ => ⟨⟨hs, by omega, h3, rfl⟩, ?_⟩) (fun h => absurd (ltI a (Tm.mk k' s' n' l') b) (of_decide_eq_false h))
      rw [HsW_nil] at h1
      generalize varsF (.mk k' s' n' l') [] = acc' at h1 h2 ⊢
      match acc', h1, h2 with
      | [], h1, h2 => exact .inr (.inl ⟨(), h1, h2⟩)
      | y :: m, h1, h2 => exact .inr (.inr (.inl ⟨((y :: m).length, IR (y :: m)), h1, h2⟩))
    | x :: l, h1, h2, _ =>
      refine RPt.vc hP sh lv41 (Eq.mpr (v41_F42_1c ..) ?_)
      rw [hv, midI, w64 (x := (a.length : Int) + 1) (by omega) (by omega), w64 (x := k + by_) (by omega) (by omega)]
      refine br_of (fun _ => ⟨⟨hs, by omega, h3, rfl⟩, ?_⟩) (fun h => absurd (ltI a (Tm.mk k' s' n' l') b) (of_decide_eq_false h))
      obtain ⟨e, he⟩ := varsF_ext (.mk k' s' n' l') (x :: l)
      by_cases hsame : varsF (.mk k' s' n' l') (x :: l) = x :: l
      · rw [hsame, HsW_same] at h1
        rw [hsame] at h2 ⊢
        exact .inr (.inr (.inl ⟨((x :: l).length, IR (x :: l)), h1, h2⟩))
      · rw [HsW_more (by simp) hsame] at h1
        generalize varsF (.mk k' s' n' l') (x :: l) = acc' at h1 h2 he ⊢
        subst he
        exact .inr (.inr (.inr ⟨(((x :: l) ++ e).length, IR ((x :: l) ++ e)), h1, h2⟩))
/-- ... where there was one: it is still there, or another one took its place. -/
theorem l_eachV2b (k by_ : Int) (h0 : 0 ≤ k) (hby : 0 ≤ by_) (hby1 : by_ ≤ 1) (hk : k ≤ 2305843009213693952) (l0 : List Int) (hne : l0 ≠ []) : ∀ (b a : List Tm) (v : FV) (acc : List Int), v.ses = FTs (a ++ b) → v.isSl 4 = true →
    (∀ u ∈ b, ∀ acc : List Int, acc.length + u.sz ≤ B → AC Try.prog 41 [aT u, ci (k + by_), tellV] (HsV acc) (.tup []) (HsW acc (varsF u acc))) → (a ++ b).length ≤ B → acc.length + Tm.szs b ≤ B → l0.length < acc.length →
    RPt Try.prog 41 2 (.tup []) (HsW l0 (varsL b acc)) 1 ⟨eV k by_ v (a ++ b).length a.length, [(0, .arr 1 [[.a (.osl 2 1 0 acc.length)]]), (1, .gone), (2, .arz 1 (IR acc))], 3⟩
  | [], a, v, acc, hv, hs, _, hl, ha, hlt => by
    refine RPt.vc hP sh lv41 (Eq.mpr (v41_F42_i1_1d ..) ?_)
    rw [varsL, HsW_more hne (fun e => by rw [e] at hlt; omega)]
    exact br_of (fun h => absurd (of_decide_eq_true h) (by simp)) (fun _ => ⟨.refl _, rfl⟩)
  | t :: b, a, v, acc, hv, hs, ih, hl, ha, hlt => by
    have hl' := hl
    simp only [List.length_append, List.length_cons, B] at hl'
    simp only [Tm.szs] at ha
    have h1 := ih t List.mem_cons_self acc (by omega)
    have hlen := varsF_len t acc
    obtain ⟨e, he⟩ := varsF_ext t acc
    have h2 := l_eachV2b k by_ h0 hby hby1 hk l0 hne b (a ++ [t]) v (varsF t acc) (by rw [ap]; exact hv) hs (fun u hu => ih u (List.mem_cons_of_mem _ hu)) (by rw [ap]; exact hl) (by omega) (by rw [he, List.length_append]; omega)
    have h3 := ltI' a t b
    have hacc : acc ≠ [] := by intro e; rw [e] at hlt; simp at hlt
    rw [ap, nx] at h2
    rw [varsL]
    obtain ⟨k', s', n', l'⟩ := t
    refine RPt.vc hP sh lv41 (Eq.mpr (v41_F42_i1_1d ..) ?_)
    rw [hv, midI, w64 (x := (a.length : Int) + 1) (by omega) (by omega), w64 (x := k + by_) (by omega) (by omega)]
    refine br_of (fun _ => ⟨⟨hs, by omega, h3, rfl⟩, ?_⟩) (fun h => absurd (ltI a (Tm.mk k' s' n' l') b) (of_decide_eq_false h))
    rw [HsV_ne hacc] at h1
    by_cases hsame : varsF (.mk k' s' n' l') acc = acc
    · rw [hsame, HsW_same, HsV_ne hacc] at h1
      rw [hsame] at h2 ⊢
      exact .inr (.inr (.inl ⟨(acc.length, IR acc), h1, h2⟩))
    · rw [HsW_more hacc hsame] at h1
      exact .inr (.inr (.inr ⟨((varsF (.mk k' s' n' l') acc).length, IR (varsF (.mk k' s' n' l') acc)), h1, h2⟩))
theorem l_eachV2a (k by_ : Int) (h0 : 0 ≤ k) (hby : 0 ≤ by_) (hby1 : by_ ≤ 1) (hk : k ≤ 2305843009213693952) (l0 : List Int) (hne : l0 ≠ []) : ∀ (b a : List Tm) (v : FV), v.ses = FTs (a ++ b) → v.isSl 4 = true →
    (∀ u ∈ b, ∀ acc : List Int, acc.length + u.sz ≤ B → AC Try.prog 41 [aT u, ci (k + by_), tellV] (HsV acc) (.tup []) (HsW acc (varsF u acc))) → (a ++ b).length ≤ B → l0.length + Tm.szs b ≤ B →
    RPt Try.prog 41 2 (.tup []) (HsW l0 (varsL b l0)) 1 ⟨eV k by_ v (a ++ b).length a.length, [(0, .arr 1 [[.a (.osl 1 1 0 l0.length)]]), (1, .arz 1 (IR l0))], 2⟩
  | [], a, v, hv, hs, _, hl, ha => by
    refine RPt.vc hP sh lv41 (Eq.mpr (v41_F42_i1_1a ..) ?_)
    rw [varsL, HsW_same, HsV_ne hne]
    exact br_of (fun h => absurd (of_decide_eq_true h) (by simp)) (fun _ => ⟨.refl _, rfl⟩)
  | t :: b, a, v, hv, hs, ih, hl, ha => by
    have hl' := hl
    simp only [List.length_append, List.length_cons, B] at hl'
    simp only [Tm.szs] at ha
    have h1 := ih t List.mem_cons_self l0 (by omega)
    have hlen := varsF_len t l0
    obtain ⟨e, he⟩ := varsF_ext t l0
    have h3 := ltI' a t b
    have ihb := fun u hu => ih u (List.mem_cons_of_mem t hu)
    have h2 := l_eachV2a k by_ h0 hby hby1 hk l0 hne b (a ++ [t]) v (by rw [ap]; exact hv) hs ihb (by rw [ap]; exact hl) (by omega)
    have h4 := l_eachV2b k by_ h0 hby hby1 hk l0 hne b (a ++ [t]) v (varsF t l0) (by rw [ap]; exact hv) hs ihb (by rw [ap]; exact hl) (by omega)
    rw [ap, nx] at h2 h4
    rw [varsL]
    obtain ⟨k', s', n', l'⟩ := t
    refine RPt.vc hP sh lv41 (Eq.mpr (v41_F42_i1_1a ..) ?_)
    rw [hv, midI, w64 (x := (a.length : Int) + 1) (by omega) (by omega), w64 (x := k + by_) (by omega) (by omega)]
    refine br_of (fun _ => ⟨⟨hs, by omega, h3, rfl⟩, ?_⟩) (fun h => absurd (ltI a (Tm.mk k' s' n' l') b) (of_decide_eq_false h))
    rw [HsV_ne hne] at h1
    by_cases hsame : varsF (.mk k' s' n' l') l0 = l0
    · rw [hsame, HsW_same, HsV_ne hne] at h1
      rw [hsame]
      exact .inr (.inr (.inl ⟨(l0.length, IR l0), h1, h2⟩))
    · have h4 := h4 (by
        rw [he, List.length_append]
        cases e with
        | nil => exact absurd (by simpa using he) hsame
        | cons y e => simp)
      rw [HsW_more hne hsame] at h1
      exact .inr (.inr (.inr ⟨((varsF (.mk k' s' n' l') l0).length, IR (varsF (.mk k' s' n' l') l0)), h1, h4⟩))
theorem HsW_len (l l' : List Int) : (HsV l).length ≤ (HsW l l').length := by
  by_cases h : l = []
  · subst h; rw [HsW_nil]; exact HsV_len l'
  · by_cases h' : l' = l
    · rw [h', HsW_same]; exact Nat.le_refl _
    · rw [HsW_more h h', HsV_ne h]; simp
theorem HsW_live (l l' : List Int) : ∀ x ∈ (HsW l l').drop (HsV l).length, isLive x := by
  by_cases h : l = []
  · subst h; rw [HsW_nil]; exact fun x hx => HsV_live _ x (List.mem_of_mem_drop hx)
  · by_cases h' : l' = l
    · rw [h', HsW_same]; simp
    · rw [HsW_more h h', HsV_ne h]; simp [isLive]
theorem c_eachV : ∀ t : Tm, t.sz ≤ B → ∀ (k : Int) (acc : List Int), 0 ≤ k → k + t.sz ≤ 2305843009213693952 → acc.length + t.sz ≤ B → AC Try.prog 41 [aT t, ci k, tellV] (HsV acc) (.tup []) (HsW acc (varsF t acc)) := by
  refine Tm.ind fun t ih hs k acc h0 h1 ha => ?_
  have hw := c_within t
  have hk := kidsV_ses t
  have hlen := Tm.szs_length t.l
  have hv1 := c_vars1 t k acc (by omega) (by omega)
  obtain ⟨kd, s, n, l⟩ := t
  simp only [Tm.sz, B, Tm.l] at hs hlen ha
  simp only [Tm.sz] at h1
  have ihl : ∀ by_ : Int, 0 ≤ by_ → by_ ≤ 1 → ∀ u ∈ l, ∀ acc : List Int, acc.length + u.sz ≤ B → AC Try.prog 41 [aT u, ci (k + by_), tellV] (HsV acc) (.tup []) (HsW acc (varsF u acc)) := fun by_ hb0 hb1 u hu acc ha => ih u hu (by have := Tm.szs_mem hu; simp only [B]; omega) (k + by_) acc (by omega) (by have := Tm.szs_mem hu; omega) ha
  have leaf : (kd == 5) = false → (kd == 6) = false → varsF (.mk kd s n l) acc = varsLeaf (.mk kd s n l) acc := fun e1 e2 => by rw [varsF, if_neg (by rw [e1, e2]; simp)]
  have inn : (kd == 5 || kd == 6) = true → varsF (.mk kd s n l) acc = varsL l acc := fun e => by rw [varsF, if_pos e]
  have kids : (kd == 5 || kd == 6) = true → Tm.kids (.mk kd s n l) = l := fun e => if_pos e
  by_cases hne : acc = []
  · subst hne
    refine AC.vc hP sh lv41 (HsW_len _ _) (HsV_live _) (HsW_live _ _) (Eq.mpr (v41_F42 kd s n (FTs l) k _ _) ?_)
    have key : ∀ by_ : Int, 0 ≤ by_ → by_ ≤ 1 → Tm.kids (.mk kd s n l) = l → RPt Try.prog 41 1 (.tup []) (HsV (varsL l [])) 1 ⟨eV k by_ (kidsV (.mk kd s n l)) l.length 0, [(0, .arr 1 [[.a (.fz .nils)]])], 1⟩ := by
      intro by_ hb0 hb1 hkids
      exact l_eachV1 k by_ h0 hb0 hb1 (by omega) l [] (kidsV (.mk kd s n l)) [] (by rw [hk.1, hkids]; rfl) hk.2 (ihl by_ hb0 hb1) (by simp only [List.nil_append, B]; omega) (by simp only [B, List.length_nil]; omega)
    rw [HsW_nil]
    refine br_of (fun h => br_of (fun h2 => ?_) (fun h2 => ⟨_, _, hw, hk.2, ?_⟩)) (fun h => ⟨_, _, hw, hk.2, ?_⟩)
    · have e1 : (kd == 5) = false := by simpa using h
      have e2 : (kd == 6) = false := by simpa using h2
      rw [leaf e1 e2]
      rw [HsW_nil] at hv1
      generalize varsLeaf (.mk kd s n l) [] = acc' at hv1 ⊢
      match acc', hv1 with
      | [], hv1 => exact .inl ⟨(), hv1, .refl _, rfl⟩
      | y :: m, hv1 => exact .inr (.inl ⟨((y :: m).length, IR (y :: m)), hv1, .refl _, rfl⟩)
    · have e1 : (kd == 5) = false := by simpa using h
      have e2 : (kd == 6) = true := by simpa using h2
      have hin : (kd == 5 || kd == 6) = true := by rw [e2]; simp
      rw [inn hin, hk.1, kids hin, lenI, show Tm.by (.mk kd s n l) = 0 by unfold Tm.by; simp only [Tm.k, e1, Bool.false_eq_true, if_false]]
      exact key 0 (by omega) (by omega) (kids hin)
    · have e1 : (kd == 5) = true := by simpa using h
      have hin : (kd == 5 || kd == 6) = true := by rw [e1]; simp
      rw [inn hin, hk.1, kids hin, lenI, show Tm.by (.mk kd s n l) = 1 by unfold Tm.by; simp only [Tm.k, e1, if_true]]
      exact key 1 (by omega) (by omega) (kids hin)
  · have hvv := HsV_ne hne
    refine AC.vc hP sh lv41 (HsW_len _ _) (HsV_live _) (HsW_live _ _) ?_
    rw [hvv] at hv1 ⊢
    refine Eq.mpr (v41_F42_i1 kd s n (FTs l) k acc.length (IR acc) _ _) ?_
    have key : ∀ by_ : Int, 0 ≤ by_ → by_ ≤ 1 → Tm.kids (.mk kd s n l) = l → RPt Try.prog 41 2 (.tup []) (HsW acc (varsL l acc)) 1 ⟨eV k by_ (kidsV (.mk kd s n l)) l.length 0, [(0, .arr 1 [[.a (.osl 1 1 0 acc.length)]]), (1, .arz 1 (IR acc))], 2⟩ := by
      intro by_ hb0 hb1 hkids
      exact l_eachV2a k by_ h0 hb0 hb1 (by omega) acc hne l [] (kidsV (.mk kd s n l)) (by rw [hk.1, hkids]; rfl) hk.2 (ihl by_ hb0 hb1) (by simp only [List.nil_append, B]; omega) (by simp only [B]; omega)
    refine br_of (fun h => br_of (fun h2 => ?_) (fun h2 => ⟨_, _, hw, hk.2, ?_⟩)) (fun h => ⟨_, _, hw, hk.2, ?_⟩)
    · have e1 : (kd == 5) = false := by simpa using h
      have e2 : (kd == 6) = false := by simpa using h2
      rw [leaf e1 e2]
      by_cases hsame : varsLeaf (.mk kd s n l) acc = acc
      · rw [hsame, HsW_same, hvv] at hv1 ⊢
        exact .inr (.inl ⟨(acc.length, IR acc), hv1, .refl _, rfl⟩)
      · rw [HsW_more hne hsame] at hv1 ⊢
        exact .inr (.inr ⟨((varsLeaf (.mk kd s n l) acc).length, IR (varsLeaf (.mk kd s n l) acc)), hv1, .refl _, rfl⟩)
    · have e1 : (kd == 5) = false := by simpa using h
      have e2 : (kd == 6) = true := by simpa using h2
      have hin : (kd == 5 || kd == 6) = true := by rw [e2]; simp
      rw [inn hin, hk.1, kids hin, lenI, show Tm.by (.mk kd s n l) = 0 by unfold Tm.by; simp only [Tm.k, e1, Bool.false_eq_true, if_false]]
      exact key 0 (by omega) (by omega) (kids hin)
    · have e1 : (kd == 5) = true := by simpa using h
      have hin : (kd == 5 || kd == 6) = true := by rw [e1]; simp
      rw [inn hin, hk.1, kids hin, lenI, show Tm.by (.mk kd s n l) = 1 by unfold Tm.by; simp only [Tm.k, e1, if_true]]
      exact key 1 (by omega) (by omega) (kids hin)
theorem c_vars (t : Tm) (hs : t.sz ≤ B) : AC Try.prog 26 [aT t] [] (aI (varsF t [])) [] := by
  have h := c_eachV t hs 0 [] (Int.le_refl _) (by simp only [B] at hs; omega) (by simpa using hs)
  rw [HsW_nil] at h
  obtain ⟨k, s, n, l⟩ := t
  refine AC.vc hP sh lv26 (Nat.le_refl _) (by simp) (by simp) (Eq.mpr (v26 k s n (FTs l) _ _) ?_)
  generalize varsF (.mk k s n l) [] = acc at h ⊢
  match acc, h with
  | [], h => exact .inr (.inl ⟨(), h, le_c (.nils 1), rfl⟩)
  | x :: m, h =>
    refine .inr (.inr (.inl ⟨((x :: m).length, IR (x :: m)), h, ⟨rfl, by rw [IR_length]; omega⟩, ?_, rfl⟩))
    rw [takeIR]
    exact le_c (.nn _ _ _)

end Go.AM

set_option maxRecDepth 100000
open Go Go.Proofs
namespace Go.AM


/-! walk.term for In -/
abbrev cloIn : TV := .agg [.fn (.func 44) [] [(false, [.ep 0 1 0 0])]]
abbrev stIn (bl : List Tm) (k by_ : Int) (kd : Int) (s : List UInt8) (n : Int) (l : List Tm) (w : AV) (i : Nat) (h : AHeap) (nx : Nat) : St :=
  ⟨[(2, ci k), (3, .c (.a (.ep 1 1 0 0))), (4, .c (.a (.ep 2 4 0 0))), (6, .c (.a (.ep 3 4 0 0))), (7, aL l), (8, ci by_), (9, .c (.a w)), (30, aL l), (31, ci l.length), (32, ci i)],
   [(0, (.arr 1 [[.a (.fz (.sl false 4 (FTs bl)))]])), (1, .arr 1 [[.fn (.func 44) [] [(false, [.ep 0 1 0 0])]]]), (2, .arr 4 [fzs (FT (.mk kd s n l))]), (3, .arr 4 [[.a (.fz (.int .i64 0)), .a (.fz (.str [])), .a (.fz (.int .i64 0)), .a (.fz .nils)]])] ++ h, nx⟩
theorem l_w2In (bl : List Tm) (lf : Tm → Int → Tm) (k by_ : Int) (h0 : 0 ≤ k) (hk : k ≤ 2305843009213693952) (hb0 : 0 ≤ by_) (hb1 : by_ ≤ 1) (kd : Int) (s : List UInt8) (n : Int) (hin : (kd == 5 || kd == 6) = true) :
    ∀ (b a acc : List Tm), acc ≠ [] → acc.length = a.length → (a ++ b).length ≤ B → (∀ u ∈ acc ++ walkL lf b (k + by_), u.l.length ≤ 2 * B) →
    (∀ u ∈ b, AC Try.prog 46 [cloIn, aT u, ci (k + by_)] [(.arr 1 [[.a (.fz (.sl false 4 (FTs bl)))]])] (aT (walkF lf u (k + by_))) [(.arr 1 [[.a (.fz (.sl false 4 (FTs bl)))]])]) →
    RPt Try.prog 46 1 (aT (withF (.mk kd s n (a ++ b)) (acc ++ walkL lf b (k + by_)))) [(.arr 1 [[.a (.fz (.sl false 4 (FTs bl)))]])] 1 (stIn bl k by_ kd s n (a ++ b) (.osl 4 4 0 acc.length) a.length [(4, .arz 4 (FTs acc))] 5)
  | [], a, acc, hne, hlen, hl, hw, _ => by
    refine RPt.vc hP sh lv46 (Eq.mpr (v46_F44_1b ..) ?_)
    match acc, a, hne, hlen with
    | o :: r, u :: a', _, hlen =>
    have e1 : List.take (o :: r).length (List.drop 0 (FTs (o :: r))) = FTs (o :: r) := by rw [List.drop_zero, List.take_of_length_le (by rw [FTs_length]; omega)]
    have e2 : (0 : Nat) + (o :: r).length ≤ (FTs (o :: r)).length := by rw [FTs_length]; omega
    have hrest : ∀ (k' : Int) (s' : List UInt8) (n' : Int), TV.Le (.agg [.a (.fz (.int .i64 k')), .a (.fz (.str s')), .a (.fz (.int .i64 n')), .a (.fz (.sl false 4 (List.take (o :: r).length (List.drop 0 (FTs (o :: r))))))]) (aT (.mk k' s' n' (o :: r))) := fun k' s' n' => by rw [e1]; exact leT leSl
    refine br_of (fun h => absurd (of_decide_eq_true h) (by simp)) (fun _ => br_of (fun h6 => br_of (fun h1 => ⟨⟨by omega, by simp⟩, ⟨by rw [FTs_length]; simp, by cases o; rfl, rfl⟩, br_of (fun ho => ⟨⟨rfl, by omega, by rw [List.append_nil]; show (0 : Int) < (((FTs (u :: a')).length : Nat) : Int); rw [FTs_length]; simp, by cases u; rfl⟩, br_of (fun hu => ?_) (fun hu => ⟨⟨rfl, e2⟩, ?_, rfl⟩)⟩) (fun ho => ⟨⟨rfl, e2⟩, ?_, rfl⟩)⟩) (fun h1 => ⟨⟨rfl, e2⟩, ?_, rfl⟩)) (fun h6 => ⟨⟨rfl, e2⟩, ?_, rfl⟩))
    · -- flat
      have hap := c_apply o r (by
        have := hw o (by simp)
        simp only [List.length_cons, List.length_append, List.length_nil, B] at hl hlen this ⊢; omega)
      have e3 : withF (.mk kd s n (u :: a' ++ [])) (o :: r ++ walkL lf [] (k + by_)) = applyF o r := by
        have c1 : 1 < (o :: r ++ walkL lf [] (k + by_)).length := by have := of_decide_eq_true h1; simp only [walkL, List.append_nil]; omega
        have c2 : (o.k == 6) = true := by cases o; exact ho
        have c3 : (u.k != 6) = true := by cases u; exact hu
        unfold withF
        rw [if_pos ⟨h6, c1, c2, c3⟩]
        simp [walkL]
      have e4 : List.take (Int.toNat ((o :: r).length : Int) - 1) (List.drop 1 (FTs (o :: r))) = FTs r := by
        rw [show Int.toNat ((o :: r).length : Int) - 1 = r.length by simp only [List.length_cons]; omega]
        show List.take r.length (FTs r) = FTs r
        rw [List.take_of_length_le (by rw [FTs_length]; omega)]
      have e5 : (1 : Nat) + (Int.toNat ((o :: r).length : Int) - 1) ≤ (FTs (o :: r)).length := by rw [FTs_length]; simp only [List.length_cons]; omega
      rw [e3]
      refine ⟨⟨by omega, by simp⟩, ⟨by rw [FTs_length]; simp, by cases o; rfl, rfl⟩, ⟨by omega, by simp; omega, by omega⟩, ⟨rfl, e5⟩, ?_⟩
      rw [e4]
      obtain ⟨k1, s1, n1, l1⟩ := o
      exact ⟨_, hap.args ⟨.refl _, le_c leSl, trivial⟩, .refl _, rfl⟩
    · have e3 : withF (.mk kd s n (u :: a' ++ [])) (o :: r ++ walkL lf [] (k + by_)) = .mk kd s n (o :: r) := by
        simp only [walkL, List.append_nil]
        exact if_neg fun e => by
          have hu' : (u.k != 6) = false := by cases u; exact hu
          have : (u.k != 6) = true := e.2.2.2
          rw [hu'] at this; cases this
      rw [e3]; exact hrest _ _ _
    · have e3 : withF (.mk kd s n (u :: a' ++ [])) (o :: r ++ walkL lf [] (k + by_)) = .mk kd s n (o :: r) := by
        simp only [walkL, List.append_nil]
        exact if_neg fun e => by
          have ho' : (o.k == 6) = false := by cases o; exact ho
          have : (o.k == 6) = true := e.2.2.1
          rw [ho'] at this; cases this
      rw [e3]; exact hrest _ _ _
    · have e3 : withF (.mk kd s n (u :: a' ++ [])) (o :: r ++ walkL lf [] (k + by_)) = .mk kd s n (o :: r) := by
        simp only [walkL, List.append_nil]
        exact if_neg fun e => by have := e.2.1; have := of_decide_eq_false h1; omega
      rw [e3]; exact hrest _ _ _
    · have e3 : withF (.mk kd s n (u :: a' ++ [])) (o :: r ++ walkL lf [] (k + by_)) = .mk kd s n (o :: r) := by
        simp only [walkL, List.append_nil]
        exact if_neg fun e => by
          have h6' : (kd == 6) = false := h6
          have : (kd == 6) = true := e.1
          rw [h6'] at this; cases this
      rw [e3]; exact hrest _ _ _
  | t :: b, a, acc, hne, hlen, hl, hw, ih => by
    refine RPt.vc hP sh lv46 (Eq.mpr (v46_F44_1b ..) ?_)
    have hl' := hl
    simp only [List.length_append, List.length_cons, B] at hl'
    have h1 := ih t List.mem_cons_self
    have h2 := l_w2In bl lf k by_ h0 hk hb0 hb1 kd s n hin b (a ++ [t]) (acc ++ [walkF lf t (k + by_)]) (by simp) (by simp [hlen]) (by rw [ap]; exact hl)
      (by rw [List.append_assoc]; simpa [walkL] using hw) (fun u hu => ih u (List.mem_cons_of_mem _ hu))
    have h3 := ltI' a t b
    unfold stIn at h2
    rw [ap, show (((a ++ [t]).length : Nat) : Int) = (a.length : Int) + 1 from nx a t] at h2
    show br (decide ((a.length : Int) < (((a ++ t :: b).length : Nat) : Int))) ((FV.isSl 4 (.sl false 4 (FTs (a ++ t :: b))) = true ∧ _ ∧ _ ∧ _) ∧ _) _
    refine br_of (fun _ => ?_) (fun h => absurd (ltI a t b) (of_decide_eq_false h))
    have hm := midI a t b
    rw [show FV.ses (.sl false 4 (FTs (a ++ t :: b))) = FTs (a ++ t :: b) from rfl, hm, w64 (x := (a.length : Int) + 1) (by omega) (by omega), w64 (x := k + by_) (by omega) (by omega)]
    obtain ⟨k', s', n', l'⟩ := t
    refine ⟨⟨rfl, by omega, h3, rfl⟩, _, h1, Nat.le_refl _, ⟨by rw [FTs_length]; omega, roomI (by omega)⟩, ?_⟩
    have e5 : List.take acc.length (FTs acc) ++ FTs [walkF lf (.mk k' s' n' l') (k + by_)] = FTs (acc ++ [walkF lf (.mk k' s' n' l') (k + by_)]) := by rw [List.take_of_length_le (by rw [FTs_length]; omega), ← FTs_append]
    have e6 : FTs [walkF lf (.mk k' s' n' l') (k + by_)] = [[.int .i64 (walkF lf (.mk k' s' n' l') (k + by_)).k, .str (walkF lf (.mk k' s' n' l') (k + by_)).s, .int .i64 (walkF lf (.mk k' s' n' l') (k + by_)).n, .sl false 4 (FTs (walkF lf (.mk k' s' n' l') (k + by_)).l)]] := by
      rw [FTs, FTs, FT_eta]
    rw [e6] at e5
    rw [e5]
    rw [show acc ++ walkL lf (.mk k' s' n' l' :: b) (k + by_) = acc ++ walkF lf (.mk k' s' n' l') (k + by_) :: walkL lf b (k + by_) by simp [walkL]]
    rw [show (acc ++ [walkF lf (.mk k' s' n' l') (k + by_)]).length = acc.length + 1 by simp, List.append_assoc] at h2
    exact h2
theorem l_w1In (bl : List Tm) (lf : Tm → Int → Tm) (k by_ : Int) (h0 : 0 ≤ k) (hk : k ≤ 2305843009213693952) (hb0 : 0 ≤ by_) (hb1 : by_ ≤ 1) (kd : Int) (s : List UInt8) (n : Int) (hin : (kd == 5 || kd == 6) = true) :
    ∀ (b : List Tm), b.length ≤ B → (∀ u ∈ walkL lf b (k + by_), u.l.length ≤ 2 * B) →
    (∀ u ∈ b, AC Try.prog 46 [cloIn, aT u, ci (k + by_)] [(.arr 1 [[.a (.fz (.sl false 4 (FTs bl)))]])] (aT (walkF lf u (k + by_))) [(.arr 1 [[.a (.fz (.sl false 4 (FTs bl)))]])]) →
    RPt Try.prog 46 1 (aT (withF (.mk kd s n b) (walkL lf b (k + by_)))) [(.arr 1 [[.a (.fz (.sl false 4 (FTs bl)))]])] 1 (stIn bl k by_ kd s n b (.fz .nils) 0 [] 4)
  | [], hl, hw, _ => by
    refine RPt.vc hP sh lv46 (Eq.mpr (v46_F44_1a ..) ?_)
    have e : withF (.mk kd s n []) (walkL lf [] (k + by_)) = .mk kd s n [] := if_neg fun e => by have := e.2.1; simp [walkL] at this
    rw [e]
    exact br_of (fun h => absurd (of_decide_eq_true h) (by simp)) (fun _ => br_of (fun _ => ⟨rfl, leT leNil, rfl⟩) (fun _ => ⟨leT leNil, rfl⟩))
  | t :: b, hl, hw, ih => by
    refine RPt.vc hP sh lv46 (Eq.mpr (v46_F44_1a ..) ?_)
    have hl' := hl
    simp only [List.length_cons, B] at hl'
    have h1 := ih t List.mem_cons_self
    have h2 := l_w2In bl lf k by_ h0 hk hb0 hb1 kd s n hin b [t] [walkF lf t (k + by_)] (by simp) rfl (by simpa using hl) (by simpa [walkL] using hw) (fun u hu => ih u (List.mem_cons_of_mem _ hu))
    show br (decide ((0 : Int) < (((t :: b).length : Nat) : Int))) ((FV.isSl 4 (.sl false 4 (FTs (t :: b))) = true ∧ _ ∧ _ ∧ _) ∧ _) _
    refine br_of (fun _ => ?_) (fun h => absurd (of_decide_eq_false h) (by simp))
    rw [show FV.ses (.sl false 4 (FTs (t :: b))) = FTs (t :: b) from rfl, show List.getD (FTs (t :: b)) (Int.toNat ((0 : Nat) : Int)) [] = FT t from rfl, w64 (x := k + by_) (by omega) (by omega), w64 (x := ((0 : Nat) : Int) + 1) (by omega) (by omega)]
    obtain ⟨k', s', n', l'⟩ := t
    have h3 : (0 : Int) < (((FTs (.mk k' s' n' l' :: b)).length : Nat) : Int) := by rw [FTs_length]; simp
    refine ⟨⟨rfl, by omega, h3, rfl⟩, _, h1, Nat.le_refl _, roomI (by omega), ?_⟩
    have e6 : FTs [walkF lf (.mk k' s' n' l') (k + by_)] = [[.int .i64 (walkF lf (.mk k' s' n' l') (k + by_)).k, .str (walkF lf (.mk k' s' n' l') (k + by_)).s, .int .i64 (walkF lf (.mk k' s' n' l') (k + by_)).n, .sl false 4 (FTs (walkF lf (.mk k' s' n' l') (k + by_)).l)]] := by
      rw [FTs, FTs, FT_eta]
    unfold stIn at h2
    rw [e6] at h2
    exact h2
/-- THE CONTRACT: from the leaf function's. -/
theorem c_wIn (bl : List Tm) (lf : Tm → Int → Tm) (Q : Tm → Int → Prop)
    (hq : ∀ (kd : Int) (s : List UInt8) (n : Int) (l : List Tm) (d : Int), Q (.mk kd s n l) d → (kd == 5 || kd == 6) = true → ∀ u ∈ l, Q u (d + if (kd == 5) = true then 1 else 0))
    (hleaf : ∀ (u : Tm) (d : Int), (u.k == 5 || u.k == 6) = false → Q u d → 0 ≤ d → d ≤ 2305843009213693952 → AC Try.prog 44 [aT u, ci d, .c (.a (.ep 0 1 0 0))] [(.arr 1 [[.a (.fz (.sl false 4 (FTs bl)))]])] (aT (lf u d)) [(.arr 1 [[.a (.fz (.sl false 4 (FTs bl)))]])])
    (hwid : ∀ (u : Tm) (d : Int), Q u d → (walkF lf u d).l.length ≤ 2 * B) :
    ∀ t : Tm, t.sz ≤ B → ∀ k : Int, Q t k → 0 ≤ k → k + t.sz ≤ 2305843009213693952 → AC Try.prog 46 [cloIn, aT t, ci k] [(.arr 1 [[.a (.fz (.sl false 4 (FTs bl)))]])] (aT (walkF lf t k)) [(.arr 1 [[.a (.fz (.sl false 4 (FTs bl)))]])] := by
  refine Tm.ind fun t ih hs k hQ h0 h1 => ?_
  have hlen := Tm.szs_length t.l
  obtain ⟨kd, s, n, l⟩ := t
  simp only [Tm.sz, B, Tm.l] at hs hlen
  simp only [Tm.sz] at h1
  have key : ∀ by_ : Int, 0 ≤ by_ → by_ ≤ 1 → (by_ = if (kd == 5) = true then 1 else 0) → (hin : (kd == 5 || kd == 6) = true) → RPt Try.prog 46 1 (aT (walkF lf (.mk kd s n l) k)) [(.arr 1 [[.a (.fz (.sl false 4 (FTs bl)))]])] 1 (stIn bl k by_ kd s n l (.fz .nils) 0 [] 4) := by
    intro by_ hb0 hb1 hby hin
    have hQ' := hq kd s n l k hQ hin
    rw [← hby] at hQ'
    have := l_w1In bl lf k by_ h0 (by omega) hb0 hb1 kd s n hin l (by simp only [B]; omega) (fun u hu => by
      have : ∀ {m : List Tm}, (∀ v ∈ m, Q v (k + by_)) → ∀ u ∈ walkL lf m (k + by_), u.l.length ≤ 2 * B := by
        intro m
        induction m with
        | nil => intro _ u hu; simp [walkL] at hu
        | cons v m ihm =>
          intro hm u hu
          simp only [walkL, List.mem_cons] at hu
          rcases hu with rfl | hu
          · exact hwid v _ (hm v List.mem_cons_self)
          · exact ihm (fun x hx => hm x (List.mem_cons_of_mem _ hx)) u hu
      exact this hQ' u hu) (fun u hu => ih u hu (by have := Tm.szs_mem hu; simp only [B]; omega) (k + by_) (hQ' u hu) (by omega) (by have := Tm.szs_mem hu; omega))
    rw [walkF, if_pos hin, ← hby]
    exact this
  refine AC.vc hP sh lv46 (Nat.le_refl _) (by simp [isLive]) (by simp) (Eq.mpr (v46_F44 kd s n (FTs l) k (FTs bl) _ _) ?_)
  have wi : (kd == 5 || kd == 6) = true → AC Try.prog 67 [aT (.mk kd s n l)] [] (.tup [(false, [.a (.fz (.sl false 4 (FTs l)))]), (false, [.a (.fz (.int .i64 (if (kd == 5) = true then 1 else 0)))])]) [] := fun hin => by
    have hw := c_within (.mk kd s n l)
    rw [show kidsV (.mk kd s n l) = .sl false 4 (FTs l) from if_pos hin] at hw
    exact hw
  refine br_of (fun h => br_of (fun h2 => ?_) (fun h2 => ?_)) (fun h => ?_)
  · have e1 : (kd == 5) = false := by simpa using h
    have e2 : (kd == 6) = false := by simpa using h2
    have e : (kd == 5 || kd == 6) = false := by rw [e1, e2]; rfl
    have hl := hleaf (.mk kd s n l) k e hQ h0 (by omega)
    rw [show walkF lf (.mk kd s n l) k = lf (.mk kd s n l) k by rw [walkF, if_neg (by rw [e]; simp)]]
    exact ⟨_, hl, .refl _, rfl⟩
  · have e1 : (kd == 5) = false := by simpa using h
    have e2 : (kd == 6) = true := by simpa using h2
    have hin : (kd == 5 || kd == 6) = true := by rw [e1, e2]; rfl
    have hk := key 0 (by omega) (by omega) (by rw [e1]; rfl) hin
    have hw := wi hin
    rw [e1] at hw
    refine ⟨_, _, hw, rfl, ?_⟩
    show RPt _ _ _ _ _ _ ⟨[_, _, _, _, _, _, _, _, (31, ci (((FTs l).length : Nat) : Int)), _], _, _⟩
    rw [FTs_length]
    exact hk
  · have e1 : (kd == 5) = true := by simpa using h
    have hin : (kd == 5 || kd == 6) = true := by rw [e1]; rfl
    have hk := key 1 (by omega) (by omega) (by rw [e1]; rfl) hin
    have hw := wi hin
    rw [e1] at hw
    refine ⟨_, _, hw, rfl, ?_⟩
    show RPt _ _ _ _ _ _ ⟨[_, _, _, _, _, _, _, _, (31, ci (((FTs l).length : Nat) : Int)), _], _, _⟩
    rw [FTs_length]
    exact hk


end Go.AM

set_option maxRecDepth 100000
open Go Go.Proofs
namespace Go.AM

/-! ### Inst -/
def inLeaf (bl : List Tm) (u : Tm) (d : Int) : Tm := if (u.k == 4) = true ∧ 0 ≤ u.n ∧ u.n < (bl.length : Int) then shT 0 d (bl.getD u.n.toNat default) 0 else u
def inT (bl : List Tm) (t : Tm) (d : Int) : Tm := walkF (inLeaf bl) t d
theorem getD_n {bl : List Tm} {n : Int} (h0 : 0 ≤ n) (h1 : n < (bl.length : Int)) : List.getD (FTs bl) (Int.toNat n) [] = FT (bl.getD n.toNat default) ∧ bl.getD n.toNat default ∈ bl := by
  have h : n.toNat < bl.length := by omega
  have e : bl.getD n.toNat default = bl[n.toNat] := by simp [List.getD, h]
  rw [e]
  exact ⟨getD_i h, List.getElem_mem h⟩
theorem inLeaf_sz (bl : List Tm) (S : Nat) (hS : ∀ x ∈ bl, x.sz ≤ S) (u : Tm) (d : Int) : (inLeaf bl u d).sz ≤ u.sz + S := by
  unfold inLeaf
  split
  · rename_i h
    have h1 := shT_sz 0 d (bl.getD u.n.toNat default) 0
    have h2 := hS _ (getD_n h.2.1 h.2.2).2
    omega
  · omega
theorem inT_sz (bl : List Tm) (S : Nat) (hS : ∀ x ∈ bl, x.sz ≤ S) (t : Tm) (d : Int) : (inT bl t d).sz ≤ t.sz + nd t * S := walkF_sz _ _ (inLeaf_sz bl S hS) t d
theorem inLeaf_nd (bl : List Tm) (N : Nat) (hN : 1 ≤ N) (h : ∀ x ∈ bl, nd x ≤ N) (u : Tm) (d : Int) : nd (inLeaf bl u d) ≤ nd u * N := by
  unfold inLeaf
  split
  · rename_i h'
    have h1 := shT_nd 0 d (bl.getD u.n.toNat default) 0
    have h2 := h _ (getD_n h'.2.1 h'.2.2).2
    have h3 : N ≤ nd u * N := Nat.le_mul_of_pos_left _ (nd_pos u)
    omega
  · exact Nat.le_mul_of_pos_right _ hN
theorem inT_nd (bl : List Tm) (N : Nat) (hN : 1 ≤ N) (h : ∀ x ∈ bl, nd x ≤ N) (t : Tm) (d : Int) : nd (inT bl t d) ≤ nd t * N := walkF_nd _ _ hN (inLeaf_nd bl N hN h) t d
theorem inT_bd {M M' D : Int} (bl : List Tm) (t : Tm) (d : Int) (hb : bd M t) (hs : bds M' bl) (hM : M' + D ≤ M) (hd : 0 ≤ d) (hD : d + t.sz ≤ D) : bd M (inT bl t d) := by
  refine walkF_bd (inLeaf bl) M M D (fun u d' hu h0 h1 => ?_) t d hb hd hD
  unfold inLeaf
  split
  · rename_i h
    exact bd_le (by omega) _ (shT_bd h0 _ 0 (bds_mem hs (getD_n h.2.1 h.2.2).2) (Int.le_refl _))
  · exact hu
theorem c_inst1 (bl : List Tm) (u : Tm) (d : Int) (hs : ∀ x ∈ bl, x.sz ≤ B) (hb : bds M61 bl) (hd0 : 0 ≤ d) (hd1 : d ≤ M61) :
    AC Try.prog 44 [aT u, ci d, .c (.a (.ep 0 1 0 0))] [.arr 1 [[.a (.fz (.sl false 4 (FTs bl)))]]] (aT (inLeaf bl u d)) [.arr 1 [[.a (.fz (.sl false 4 (FTs bl)))]]] := by
  obtain ⟨k, s, n, l⟩ := u
  refine AC.vc hP sh lv44 (Nat.le_refl _) (by simp [isLive]) (by simp) (Eq.mpr (v44 k s n (FTs l) d (FTs bl) _ _) ?_)
  have no : ¬ ((k == 4) = true ∧ 0 ≤ n ∧ n < (bl.length : Int)) → inLeaf bl (.mk k s n l) d = .mk k s n l := fun h => if_neg h
  refine br_of (fun h => br_of (fun h2 => ⟨rfl, br_of (fun h3 => ?_) (fun h3 => ?_)⟩) (fun h2 => ?_)) (fun h => ?_)
  · have h2 := of_decide_eq_true h2
    have h3 : n < (bl.length : Int) := by have := of_decide_eq_true h3; rwa [FTs_length] at this
    obtain ⟨g1, g2⟩ := getD_n h2 h3
    have e : inLeaf bl (.mk k s n l) d = shT 0 d (bl.getD n.toNat default) 0 := if_pos ⟨h, h2, h3⟩
    have hc := c_shift (bl.getD n.toNat default) 0 d (hs _ g2) (bds_mem hb g2) (Int.le_refl _) (by simp only [M61]; omega) (by omega) hd1
    rw [g1, e]
    generalize bl.getD n.toNat default = x at hc ⊢
    obtain ⟨k', s', n', l'⟩ := x
    exact ⟨⟨rfl, h2, by rw [FTs_length]; exact h3, rfl⟩, _, hc, .refl _, rfl⟩
  · rw [no (fun e => absurd e.2.2 (by have := of_decide_eq_false h3; rwa [FTs_length] at this))]; exact ⟨.refl _, rfl⟩
  · rw [no (fun e => absurd e.2.1 (of_decide_eq_false h2))]; exact ⟨.refl _, rfl⟩
  · rw [no (fun e => by rw [e.1] at h; cases h)]; exact ⟨.refl _, rfl⟩
theorem c_inst (t : Tm) (bl : List Tm) (S : Nat) (hS : ∀ x ∈ bl, x.sz ≤ S) (ht : t.sz + nd t * S ≤ B) (hb : bds M61 bl) : AC Try.prog 27 [aT t, aL bl] [] (aT (inT bl t 0)) [] := by
  have hSB : S ≤ B := by have := Nat.le_mul_of_pos_left S (nd_pos t); omega
  have h := c_wIn bl (inLeaf bl) (fun u _ => u.sz + nd u * S ≤ B) (fun kd s n l d hq hk u hu => by have h2 := hq; have := Nat.mul_le_mul_right S (nds_mem hu); have := Tm.szs_mem hu; rw [Tm.sz_eq (.mk kd s n l), nd_eq (.mk kd s n l), Nat.add_mul] at h2; simp only [Tm.l, Tm.s] at h2; omega)
    (fun u d hk hq h0 h1 => c_inst1 bl u d (fun x hx => Nat.le_trans (hS x hx) hSB) hb h0 h1)
    (fun u d hq => by have := inT_sz bl S hS u d; have h1 := (inT bl u d).sz_eq; have := Tm.szs_length (inT bl u d).l; show (inT bl u d).l.length ≤ _; omega)
    t (by omega) 0 ht (Int.le_refl _) (by simp only [B] at ht; omega)
  obtain ⟨k, s, n, l⟩ := t
  refine AC.vc hP sh lv27 (Nat.le_refl _) (by simp) (by simp) (Eq.mpr (v27 k s n (FTs l) (FTs bl) _ _) ?_)
  exact ⟨_, h, .refl _, rfl⟩

/-! ### One walk behind another -/
theorem walk_flat (lf : Tm → Int → Tm) (s : List UInt8) (n : Int) (l : List Tm) (x : Tm) (r : List Tm) (d : Int) (hr : r ≠ []) (hl : ((l.headD default).k == 6) = false) (hx : topF x) :
    walkF lf (withF (.mk 6 s n l) (x :: r)) d = flatX s n (walkL lf (x :: r) d) := by
  have hr' : walkL lf r d ≠ [] := by cases r with
    | nil => exact absurd rfl hr
    | cons y r => simp [walkL]
  have in6 : ∀ (s : List UInt8) (n : Int) (q : List Tm), walkF lf (.mk 6 s n q) d = withF (.mk 6 s n q) (walkL lf q d) := fun s n q => by
    rw [walkF, if_pos (show ((6 : Int) == 5 || (6 : Int) == 6) = true from rfl)]; simp
  by_cases hx6 : (x.k == 6) = true
  · rw [withF_pos rfl hr hx6 hl]
    obtain ⟨k, t, m, q⟩ := x
    have e : k = 6 := by simpa [Tm.k] using hx6
    subst e
    obtain ⟨h2, h3⟩ := hx hx6
    simp only [Tm.l] at h2 h3
    match q, h2, h3 with
    | y :: q, h2, h3 =>
      have hq : q ≠ [] := by intro e; rw [e] at h2; simp at h2
      have h3 : (y.k == 6) = false := h3
      match r, hr with
      | z :: r, hr =>
      rw [applyF_in z r rfl (by simp), in6, walkL_append]
      have eh : walkF lf (.mk 6 t m (y :: q)) d = withF (.mk 6 t m (y :: q)) (walkL lf (y :: q) d) := in6 t m (y :: q)
      have hq' : walkL lf q d ≠ [] := by cases q with
        | nil => exact absurd rfl hq
        | cons y q => simp [walkL]
      have ew : walkL lf (.mk 6 t m (y :: q) :: z :: r) d = walkF lf (.mk 6 t m (y :: q)) d :: walkL lf (z :: r) d := rfl
      have ey : walkL lf (y :: q) d = walkF lf y d :: walkL lf q d := rfl
      rw [flatX, ew, List.headD_cons, List.tail_cons, eh, ey]
      generalize hR : walkL lf (z :: r) d = R at hr' ⊢
      generalize hY : walkF lf y d = Y
      generalize hQ : walkL lf q d = Q at hq' ⊢
      have hQR : Q ++ R ≠ [] := by simp [hq']
      by_cases hY6 : (Y.k == 6) = true
      · have g1 : withF (.mk 6 [] 0 (y :: q ++ z :: r)) (Y :: (Q ++ R)) = applyF Y (Q ++ R) := withF_pos rfl hQR hY6 h3
        have g2 : withF (.mk 6 t m (y :: q)) (Y :: Q) = applyF Y Q := withF_pos rfl hq' hY6 h3
        refine Eq.trans (show _ = withF (.mk 6 [] 0 (y :: q ++ z :: r)) (Y :: (Q ++ R)) from rfl) ?_
        rw [g1, g2, if_pos (by rw [applyF_k _ hY6]; rfl), applyF_both]
      · have g1 : withF (.mk 6 [] 0 (y :: q ++ z :: r)) (Y :: (Q ++ R)) = .mk 6 [] 0 (Y :: (Q ++ R)) := withF_neg (fun e => hY6 e.2.2.1)
        have g2 : withF (.mk 6 t m (y :: q)) (Y :: Q) = .mk 6 t m (Y :: Q) := withF_neg (fun e => hY6 e.2.2.1)
        refine Eq.trans (show _ = withF (.mk 6 [] 0 (y :: q ++ z :: r)) (Y :: (Q ++ R)) from rfl) ?_
        rw [g1, g2, if_pos (show ((Tm.mk 6 t m (Y :: Q)).k == 6) = true from rfl)]
        match R, hr' with
        | w :: R, _ => rw [applyF_in w R rfl (by simp)]; rfl
  · rw [withF_neg (o := x :: r) (fun e => hx6 e.2.2.1), in6, flatX, walkL, List.headD_cons, List.tail_cons]
    by_cases hX : ((walkF lf x d).k == 6) = true
    · rw [if_pos hX, withF_pos rfl hr' hX (by simpa using hx6)]
    · rw [if_neg hX, withF_neg (o := walkF lf x d :: walkL lf r d) (fun e => hX e.2.2.1)]
section
variable (f g f' g' : Tm → Int → Tm) (Q : Tm → Int → Prop)
/-- Two walks, one behind the other, are two others, where they are so at the leaves. -/
structure Comp : Prop where
  kids : ∀ k s n l d, Q (.mk k s n l) d → (k == 5 || k == 6) = true → ∀ u ∈ l, Q u (d + byI k)
  dep : ∀ t d, Q t d → 0 ≤ d
  flat : ∀ k s n l d, Q (.mk k s n l) d → topF (.mk k s n l)
  leaf : ∀ k s n l d, (k == 5 || k == 6) = false → Q (.mk k s n l) d → walkF f (g (.mk k s n l) d) d = walkF f' (g' (.mk k s n l) d) d
  top : ∀ k s n l d, (k == 5 || k == 6) = false → Q (.mk k s n l) d → topF (g (.mk k s n l) d) ∧ topF (g' (.mk k s n l) d)
end
theorem walk_comp {f g f' g' : Tm → Int → Tm} {Q : Tm → Int → Prop} (h : Comp f g f' g' Q) : ∀ (t : Tm) (d : Int), Q t d → walkF f (walkF g t d) d = walkF f' (walkF g' t d) d := by
  have top : ∀ (lf : Tm → Int → Tm) (x : Tm) (d : Int), (x.k == 6) = false → ((x.k == 5 || x.k == 6) = false → topF (lf x d)) → topF (walkF lf x d) := by
    intro lf x d hx hl
    obtain ⟨k, s, n, l⟩ := x
    cases hk : (k == 5 || k == 6) with
    | true =>
      rw [walkF, if_pos hk]
      intro h6
      rw [withF_k] at h6
      have hx : (k == 6) = false := hx
      have h6 : (k == 6) = true := h6
      rw [hx] at h6; cases h6
    | false => rw [walkF_leaf _ _ _ _ _ _ hk]; exact hl hk
  refine Tm.ind fun t ih d hQ => ?_
  obtain ⟨k, s, n, l⟩ := t
  cases hk : (k == 5 || k == 6) with
  | false => rw [walkF_leaf _ _ _ _ _ _ hk, walkF_leaf _ _ _ _ _ _ hk]; exact h.leaf _ _ _ _ _ hk hQ
  | true =>
    have hkids := h.kids _ _ _ _ _ hQ hk
    have key : ∀ (m : List Tm) (e : Int), (∀ u ∈ m, walkF f (walkF g u e) e = walkF f' (walkF g' u e) e) → walkL f (walkL g m e) e = walkL f' (walkL g' m e) e := by
      intro m e
      induction m with
      | nil => intro _; rfl
      | cons x m im => intro hm; simp only [walkL, hm x List.mem_cons_self, im fun u hu => hm u (List.mem_cons_of_mem _ hu)]
    have hX := key l (d + byI k) fun u hu => ih u hu _ (hkids u hu)
    have win : ∀ (lf : Tm → Int → Tm) (m : List Tm), walkF lf (.mk k s n m) d = withF (.mk k s n m) (walkL lf m (d + byI k)) := fun lf m => by rw [walkF, if_pos hk]
    rw [win, win]
    by_cases h6 : (k == 6) = true
    · have e : k = 6 := by simpa using h6
      subst e
      obtain ⟨h2, h3⟩ := h.flat _ _ _ _ _ hQ rfl
      simp only [Tm.l] at h2 h3
      rw [show byI 6 = 0 from rfl, Int.add_zero] at hX hkids ⊢
      match l, h2, h3, hX, hkids with
      | x :: y :: l, _, h3, hX, hkids =>
        have h3' : (x.k == 6) = false := h3
        have hx := hkids x List.mem_cons_self
        have t1 : topF (walkF g x d) := top g x d h3' (fun e => by obtain ⟨a1, a2, a3, a4⟩ := x; exact (h.top _ _ _ _ _ e hx).1)
        have t2 : topF (walkF g' x d) := top g' x d h3' (fun e => by obtain ⟨a1, a2, a3, a4⟩ := x; exact (h.top _ _ _ _ _ e hx).2)
        have g1 := walk_flat f s n (x :: y :: l) (walkF g x d) (walkL g (y :: l) d) d (by simp [walkL]) h3 t1
        have g2 := walk_flat f' s n (x :: y :: l) (walkF g' x d) (walkL g' (y :: l) d) d (by simp [walkL]) h3 t2
        exact Eq.trans g1 (Eq.trans (congrArg _ hX) g2.symm)
    · rw [withF_neg (fun e => h6 e.1), withF_neg (fun e => h6 e.1), win, win, withF_neg (fun e => h6 e.1), withF_neg (fun e => h6 e.1), hX]

end Go.AM

set_option maxRecDepth 100000
open Go Go.Proofs
namespace Go.AM

/-! ### The document's answers: letters -/
theorem sign_any (c : UInt8) : signB (c.toNat : Int) = signs.any fun x => ((x.toNat : Int) == (c.toNat : Int)) := by
  have key : ∀ n : Fin 256, signB (n.val : Int) = signs.any fun x => ((x.toNat : Int) == (n.val : Int)) := by decide +kernel
  exact key ⟨c.toNat, c.toNat_lt⟩
theorem sym_eq (s : List UInt8) : isSym s = (s == [44] || s == [59] || s == [33] || ((s.all fun c => signB (c.toNat : Int)) && decide ((s.length : Int) ≥ 1) && decide ((s.length : Int) ≤ 32))) := by
  match s with
  | [] => rfl
  | [c] =>
    have key : ∀ n : Fin 256, isSym [n.val.toUInt8] = ([n.val.toUInt8] == [44] || [n.val.toUInt8] == [59] || [n.val.toUInt8] == [33] || (([n.val.toUInt8].all fun c => signB (c.toNat : Int)) && decide ((([n.val.toUInt8].length : Nat) : Int) ≥ 1) && decide ((([n.val.toUInt8].length : Nat) : Int) ≤ 32))) := by decide +kernel
    have e : c.toNat.toUInt8 = c := by simp
    have := key ⟨c.toNat, c.toNat_lt⟩
    simp only [e] at this
    exact this
  | c :: d :: s =>
    have h2 : ∀ x : UInt8, ((c :: d :: s : List UInt8) == [x]) = false := fun x => by simp
    simp only [isSym, fitsB, h2, Bool.false_or]
    rw [show (((c :: d :: s).length : Int) == 1) = false by simp; omega, show decide (((c :: d :: s).length : Int) ≥ 1) = true by simp; omega]
    simp [Bool.and_comm]
end Go.AM

set_option maxRecDepth 100000
open Go Go.Proofs
namespace Go.AM

/-! ### The document's answers: terms -/
/-! Valid. -/
/-! Same. -/
end Go.AM

set_option maxRecDepth 100000
open Go Go.Proofs
namespace Go.AM

/-! Size, looseness, variables. -/
mutual
def looseR : Tm → Int → Int
  | .mk kd _ n l, k => if (kd == 3) = true then maxI 0 (n - k + 1) else if (kd == 5 || kd == 6) = true then looseRL l (k + if (kd == 5) = true then 1 else 0) else 0
def looseRL : List Tm → Int → Int
  | [], _ => 0
  | t :: l, k => maxI (looseR t k) (looseRL l k)
end
theorem maxI_assoc (a b c : Int) : maxI (maxI a b) c = maxI a (maxI b c) := by
  unfold maxI; (repeat' split) <;> omega
theorem maxI0 {a : Int} (h : 0 ≤ a) : maxI a 0 = a := by unfold maxI; split <;> omega
theorem maxI_ge2 (a b : Int) : b ≤ maxI a b := by unfold maxI; split <;> omega
theorem looseRL_ge : ∀ (l : List Tm) (k : Int), 0 ≤ looseRL l k
  | [], _ => Int.le_refl _
  | t :: l, k => by rw [looseRL]; exact Int.le_trans (looseRL_ge l k) (maxI_ge2 _ _)
theorem maxI_ge (a b : Int) : a ≤ maxI a b := by unfold maxI; split <;> omega
mutual
theorem loose_acc : ∀ (t : Tm) (k acc : Int), 0 ≤ acc → looseF t k acc = maxI acc (looseR t k)
  | .mk kd _ n l, k, acc, h => by
    simp only [looseF, looseR]
    by_cases h5 : (kd == 5) = true
    · have e : kd = 5 := by simpa using h5
      subst e
      simp [loose_accs l _ acc h]
    · by_cases h6 : (kd == 6) = true
      · have e : kd = 6 := by simpa using h6
        subst e
        simp [loose_accs l _ acc h]
      · have e5 : (kd == 5) = false := by simpa using h5
        have e6 : (kd == 6) = false := by simpa using h6
        rw [if_neg h5, if_neg h6]
        by_cases h3 : (kd == 3) = true
        · rw [if_pos h3, if_pos h3, ← maxI_assoc, maxI0 h]
        · rw [if_neg h3, if_neg h3, if_neg (by rw [e5, e6]; simp), maxI0 h]
theorem loose_accs : ∀ (l : List Tm) (k acc : Int), 0 ≤ acc → looseL l k acc = maxI acc (looseRL l k)
  | [], _, acc, h => by rw [looseL, looseRL, maxI0 h]
  | t :: l, k, acc, h => by
    have h1 := loose_acc t k acc h
    rw [looseL, looseRL, h1, loose_accs l k _ (Int.le_trans h (maxI_ge _ _)), maxI_assoc]
end
end Go.AM

set_option maxRecDepth 100000
open Go Go.Proofs
namespace Go.AM

/-! ### How often something is bound -/
mutual
def occF : Tm → Int → Nat
  | .mk k _ n l, i => if (k == 3) = true ∧ (n == i) = true then 1 else occL l (i + if (k == 5) = true then 1 else 0)
def occL : List Tm → Int → Nat
  | [], _ => 0
  | t :: l, i => occF t i + occL l i
end
mutual
theorem occF_le : ∀ (t : Tm) (i : Int), occF t i ≤ t.sz
  | .mk k s n l, i => by
    rw [occF]
    have := occL_le l (i + if (k == 5) = true then 1 else 0)
    split <;> simp only [Tm.sz] <;> omega
theorem occL_le : ∀ (l : List Tm) (i : Int), occL l i ≤ Tm.szs l
  | [], _ => Nat.le_refl _
  | t :: l, i => by have := occF_le t i; have := occL_le l i; simp only [occL, Tm.szs]; omega
end
/-! Copies. -/
/-! The document's. -/
end Go.AM

set_option maxRecDepth 100000
open Go Go.Proofs
namespace Go.AM

/-! ### A body with an argument -/
/-- A term and an error's number. -/
abbrev aTE (t : Tm) (e : Int) : TV := .tup [(true, [.a (.fz (.int .i64 t.k)), .a (.fz (.str t.s)), .a (.fz (.int .i64 t.n)), .a (.fz (.sl false 4 (FTs t.l)))]), (false, [.a (.fz (.int .i64 e))])]
abbrev noT : Tm := .mk 0 [] 0 []
theorem leTE {k n e : Int} {s : List UInt8} {x : FV} {l : List Tm} (h : FV.Le x (.sl false 4 (FTs l))) : TV.Le (.tup [(true, [.a (.fz (.int .i64 k)), .a (.fz (.str s)), .a (.fz (.int .i64 n)), .a (.fz x)]), (false, [.a (.fz (.int .i64 e))])]) (aTE (.mk k s n l) e) := by
  refine .tup _ _ rfl fun i p q hp hq => ?_
  match i, hp, hq with
  | 0, hp, hq =>
    simp only [List.getElem?_cons_zero, Option.some.injEq] at hp hq
    subst hp; subst hq
    refine ⟨rfl, rfl, fun j x y hx hy => ?_⟩
    match j, hx, hy with
    | 0, hx, hy => simp at hx hy; subst hx; subst hy; exact .refl _
    | 1, hx, hy => simp at hx hy; subst hx; subst hy; exact .refl _
    | 2, hx, hy => simp at hx hy; subst hx; subst hy; exact .refl _
    | 3, hx, hy => simp at hx hy; subst hx; subst hy; exact .a _ _ (.fz _ _ h)
    | j + 4, hx, _ => simp at hx
  | 1, hp, hq =>
    simp only [List.getElem?_cons_zero, List.getElem?_cons_succ, Option.some.injEq] at hp hq
    subst hp; subst hq
    refine ⟨rfl, rfl, fun j x y hx hy => ?_⟩
    match j, hx, hy with
    | 0, hx, hy => simp at hx hy; subst hx; subst hy; exact .refl _
    | j + 1, hx, _ => simp at hx
  | i + 2, hp, _ => simp at hp
/-- Is there room? -/
def roomT (body arg : Tm) : Bool := !decide ((sizeF body : Int) + (occF body 0 : Int) * (sizeF arg : Int) > 4096)
def conF (body arg : Tm) : Tm := if roomT body arg = true then suT 0 arg body 0 else noT
def conE (body arg : Tm) : Int := if roomT body arg = true then 0 else 80

end Go.AM

set_option maxRecDepth 100000
open Go Go.Proofs
namespace Go.AM

/-! ### Redexes -/
def hd (l : List Tm) : Tm := l.headD default
def redexB (t : Tm) : Bool := t.k == 6 && (hd t.l).k == 5
mutual
/-- Its kinds have as many within as they must. -/
def okB : Tm → Bool
  | .mk k s n l => (if (k == 6) = true then decide (2 ≤ l.length) && (hd l).k != 6 && (s == [] && n == 0) else if (k == 5) = true then decide (l.length = 1) && (s == [] && n == 0) else decide (l.length = 0)) && okL l
def okL : List Tm → Bool
  | [] => true
  | t :: l => okB t && okL l
end
theorem okL_mem : ∀ {l : List Tm} {t : Tm}, okL l = true → t ∈ l → okB t = true
  | x :: l, t, h, hm => by
    simp only [okL, Bool.and_eq_true] at h
    rcases List.mem_cons.1 hm with rfl | hm
    · exact h.1
    · exact okL_mem h.2 hm
theorem okL_of : ∀ {l : List Tm}, (∀ t ∈ l, okB t = true) → okL l = true
  | [], _ => rfl
  | t :: l, h => by simp only [okL, h t List.mem_cons_self, okL_of (l := l) fun u hu => h u (List.mem_cons_of_mem _ hu), Bool.and_self]
theorem okB6 {k n : Int} {s : List UInt8} {l : List Tm} (h : okB (.mk k s n l) = true) (hk : k = 6) : ∃ x y r, l = x :: y :: r ∧ x.k ≠ 6 ∧ okL l = true := by
  subst hk
  simp only [okB, Bool.and_eq_true] at h
  match l, h with
  | [], h => simp at h
  | [x], h => simp at h
  | x :: y :: r, h => exact ⟨x, y, r, rfl, by have := h.1; simp [hd] at this; exact this.1, h.2⟩
theorem okB5 {k n : Int} {s : List UInt8} {l : List Tm} (h : okB (.mk k s n l) = true) (hk : k = 5) : ∃ x, l = [x] ∧ okB x = true := by
  subst hk
  simp only [okB, Bool.and_eq_true] at h
  match l, h with
  | [], h => simp at h
  | [x], h => exact ⟨x, rfl, by have := h.2; simpa [okL] using this⟩
  | x :: y :: r, h => simp at h
theorem okB0 {k n : Int} {s : List UInt8} {l : List Tm} (h : okB (.mk k s n l) = true) (h5 : k ≠ 5) (h6 : k ≠ 6) : l = [] := by
  simp only [okB, Bool.and_eq_true] at h
  have := h.1
  rw [if_neg (by simpa using h6), if_neg (by simpa using h5)] at this
  exact List.eq_nil_of_length_eq_zero (by simpa using this)
theorem okB_sn {k n : Int} {s : List UInt8} {l : List Tm} (h : okB (.mk k s n l) = true) (hk : k = 5 ∨ k = 6) : s = [] ∧ n = 0 := by
  simp only [okB, Bool.and_eq_true] at h
  have h := h.1
  rcases hk with rfl | rfl
  · simp at h; exact h.2
  · simp at h; exact h.2
theorem okB_l {t : Tm} (h : okB t = true) : okL t.l = true := by
  obtain ⟨k, s, n, l⟩ := t
  simp only [okB, Bool.and_eq_true] at h; exact h.2
mutual
theorem valid_ok : ∀ t : Tm, validB t = true → okB t = true
  | .mk k s n l, h => by
    rw [okB]
    have hl := valid_okL l
    rw [validB] at h
    split at h
    · rename_i e
      have e : k = 0 := by simpa using e
      subst e
      rw [lenI] at h
      have : l = [] := by simp at h; exact h.2
      subst this; rfl
    split at h
    · rename_i e
      have e : k = 1 := by simpa using e
      subst e
      rw [lenI] at h
      have : l = [] := by simp at h; exact h.1.2
      subst this; rfl
    split at h
    · rename_i e
      have e : k = 2 := by simpa using e
      subst e
      rw [lenI] at h
      have : l = [] := by simp at h; exact h.1.2
      subst this; rfl
    split at h
    · rename_i e
      have e : k = 3 := by simpa using e
      subst e
      rw [lenI] at h
      have : l = [] := by simp at h; exact h.1.2
      subst this; rfl
    split at h
    · rename_i e
      have e : k = 4 := by simpa using e
      subst e
      rw [lenI] at h
      have : l = [] := by simp at h; exact h.1.2
      subst this; rfl
    split at h
    · rename_i e
      have e : k = 5 := by simpa using e
      subst e
      rw [lenI] at h
      simp only [Bool.and_eq_true, beq_iff_eq] at h
      have h1 : l.length = 1 := by have := h.1.2; omega
      rw [hl h.2]
      simp [h1, h.1.1.1, h.1.1.2]
    split at h
    · rename_i e
      have e : k = 6 := by simpa using e
      subst e
      rw [lenI] at h
      simp only [Bool.and_eq_true, decide_eq_true_eq, beq_iff_eq] at h
      have h1 : 2 ≤ l.length := by have := h.1.1.1.2; omega
      have h2 : ((hd l).k != 6) = true := h.1.1.2
      rw [hl h.2, h2]
      simp [h1, h.1.1.1.1, h.1.2]
    · cases h
theorem valid_okL : ∀ l : List Tm, validL l = true → okL l = true
  | [], _ => rfl
  | t :: l, h => by
    simp only [validL, Bool.and_eq_true] at h
    simp only [okL, valid_ok t h.1, valid_okL l h.2, Bool.and_self]
end
theorem ok_ne {t : Tm} (h : okB t = true) : t.k = 6 → t.l ≠ [] := by
  obtain ⟨k, s, n, l⟩ := t
  intro hk
  obtain ⟨x, y, r, e, _⟩ := okB6 h hk
  show l ≠ []
  rw [e]; simp
/-! ### Normal -/
mutual
def normB : Tm → Bool
  | .mk k s n l => !redexB (.mk k s n l) && normL l
def normL : List Tm → Bool
  | [] => true
  | t :: l => normB t && normL l
end
def rednAt : List Tm → Int → Int
  | [], _ => -1
  | t :: l, i => if normB t = true then rednAt l (i + 1) else i
theorem rednAt_ge : ∀ (l : List Tm) (i : Int), 0 ≤ i → decide (rednAt l i ≥ 0) = !normL l
  | [], _, _ => rfl
  | t :: l, i, h => by
    rw [rednAt, normL]
    split
    · rename_i e; rw [rednAt_ge l (i + 1) (by omega), e, Bool.true_and]
    · rename_i e; rw [show normB t = false by simpa using e]; simp; omega
end Go.AM

set_option maxRecDepth 100000
open Go Go.Proofs
namespace Go.AM

/-! ### The document's: applied, with others within, shifted, put in -/
/-- No term's cells. -/
abbrev zT : List WV := [.a (.fz (.int .i64 0)), .a (.fz (.str [])), .a (.fz (.int .i64 0)), .a (.fz .nils)]
theorem apply_some (k : Int) (s : List UInt8) (n : Int) (l : List Tm) (a : Tm) (r : List Tm) : applyF (.mk k s n l) (a :: r) = if (k == 6) = true ∧ l ≠ [] then .mk 6 [] 0 (l ++ a :: r) else .mk 6 [] 0 (.mk k s n l :: a :: r) := rfl
end Go.AM

set_option maxRecDepth 100000
open Go Go.Proofs
namespace Go.AM

/-! ### Heaps -/
theorem CR_length (l : List Cel) : (CR l).length = l.length := by simp [CR]
theorem TR_length (l : List Trl) : (TR l).length = l.length := by simp [TR]
theorem NR_length (l : List (List UInt8)) : (NR l).length = l.length := by simp [NR]
theorem CR_get {l : List Cel} {i : Nat} (h : i < l.length) : List.getD (CR l) i [] = l[i].r := by simp [CR, List.getD, h]
theorem NR_get {l : List (List UInt8)} {i : Nat} (h : i < l.length) : List.getD (NR l) i [] = [.str l[i]] := by simp [NR, List.getD, h]
/-- A heap's pointer; the objects. -/
abbrev aH (o : Nat) : TV := .c (.a (.ep o 6 0 0))
abbrev hp6 (a b d m : Nat) (s : Hp) : AObj := .arr 6 [[.a (.osl a 5 0 s.C.length), .a (.osl b 7 0 s.T.length), .a (.fz (.int .i64 s.M)), .a (.fz (.int .i64 s.L)), .a (.osl d 1 0 s.N.length), .a (.mp m)]]
abbrev oH (s : Hp) : List AObj := [hp6 1 2 3 4 s, .arz 5 (CR s.C), .arz 7 (TR s.T), .arz 1 (NR s.N), .mapz (NM s.N 0)]
abbrev oH' (s : Hp) : List AObj := [hp6 5 6 7 4 s, .gone, .gone, .gone, .mapz (NM s.N 0), .arz 5 (CR s.C), .arz 7 (TR s.T), .arz 1 (NR s.N)]
abbrev aCe (c : Cel) : TV := .agg [.a (.fz (.int .i64 c.t)), .a (.fz (.int .i64 c.a)), .a (.fz (.int .i64 c.b)), .a (.fz (.int .i64 c.c)), .a (.fz (.int .i64 c.d))]
abbrev tCe (c : Cel) (b : Bool) : TV := .tup [(true, [.a (.fz (.int .i64 c.t)), .a (.fz (.int .i64 c.a)), .a (.fz (.int .i64 c.b)), .a (.fz (.int .i64 c.c)), .a (.fz (.int .i64 c.d))]), (false, [.a (.fz (.bool b))])]
abbrev t2 (x : Int × Int) : TV := .tup [(false, [.a (.fz (.int .i64 x.1))]), (false, [.a (.fz (.int .i64 x.2))])]
abbrev noC : Cel := ⟨0, 0, 0, 0, 0⟩
def rowB (c : Cel) : Bool := decide (9 ≤ c.t) && decide (c.t ≤ 11)
def cellOf (C : List Cel) (x : Int) : Cel := if 0 ≤ x ∧ x < (C.length : Int) then (C[x.toNat]?).getD noC else noC
def inC (C : List Cel) (x : Int) : Bool := decide (0 ≤ x) && decide (x < (C.length : Int))
theorem cellOf_in {C : List Cel} {x : Int} (h0 : 0 ≤ x) (h1 : x < (C.length : Int)) : ∃ h : x.toNat < C.length, cellOf C x = C[x.toNat] := by
  have h : x.toNat < C.length := by omega
  exact ⟨h, by rw [cellOf, if_pos ⟨h0, h1⟩, List.getElem?_eq_getElem h]; rfl⟩
theorem cellOf_out {C : List Cel} {x : Int} (h : ¬ (0 ≤ x ∧ x < (C.length : Int))) : cellOf C x = noC := if_neg h
theorem ret_bH {x y : Bool} {Hs : List AObj} (h : x = y) : TV.Le (cb x) (cb y) ∧ Hs = Hs := ⟨by rw [h]; exact .refl _, rfl⟩
theorem c_hnew (c t : Int) : AC Try.prog 10 [ci c, ci t] [] (aH 0) (oH ⟨[], [], foldMin [foldMax [c, 0], 1048576], foldMin [foldMax [t, 0], 1048576], []⟩) := by
  refine AC.vc hP sh lv10 (by simp) (by simp) (by simp [isLive]) (Eq.mpr (v10 ..) ?_)
  exact ⟨.refl _, rfl⟩
theorem c_hrow (c : Cel) : AC Try.prog 34 [aCe c] [] (cb (rowB c)) [] := by
  refine AC.vc hP sh lv34 (Nat.le_refl _) (by simp) (by simp) (Eq.mpr (v34 ..) ?_)
  refine br_of (fun h => ret_b ?_) (fun h => ret_b ?_) <;> simp_all [rowB] <;> omega
theorem c_hlen (s : Hp) : AC Try.prog 19 [aH 0] (oH s) (ci (s.C.length : Int)) (oH s) := by
  refine AC.vc hP sh lv19 (Nat.le_refl _) (by simp [isLive]) (by simp) (Eq.mpr (v19 ..) ?_)
  exact ⟨.refl _, rfl⟩
theorem c_hcell (s : Hp) (x : Int) : AC Try.prog 23 [aH 0, ci x] (oH s) (tCe (cellOf s.C x) (inC s.C x)) (oH s) := by
  refine AC.vc hP sh lv23 (Nat.le_refl _) (by simp [isLive]) (by simp) (Eq.mpr (v23 ..) ?_)
  refine br_of (fun h => ?_) (fun h => br_of (fun h' => ?_) (fun h' => ?_))
  · have h := of_decide_eq_true h
    rw [cellOf_out (by omega), show inC s.C x = false by simp [inC]; omega]
    exact ⟨.refl _, rfl⟩
  · have h' := of_decide_eq_true h'
    rw [cellOf_out (by omega), show inC s.C x = false by simp [inC]; omega]
    exact ⟨.refl _, rfl⟩
  · have h := of_decide_eq_false h
    have h' := of_decide_eq_false h'
    obtain ⟨hl, e⟩ := cellOf_in (C := s.C) (x := x) (by omega) (by omega)
    rw [e, show List.getD (CR s.C) (0 + Int.toNat x) [] = s.C[x.toNat].r by rw [Nat.zero_add, CR_get hl], show inC s.C x = true by simp [inC]; omega]
    refine ⟨⟨by omega, by omega⟩, ⟨by rw [CR_length]; omega, rfl, rfl⟩, .refl _, rfl⟩
def isT (C : List Cel) (x : Int) : Bool := inC C x && !rowB (cellOf C x)
def isR (C : List Cel) (x : Int) : Bool := inC C x && rowB (cellOf C x)
theorem c_hist (s : Hp) (x : Int) : AC Try.prog 47 [aH 0, ci x] (oH s) (cb (isT s.C x)) (oH s) := by
  refine AC.vc hP sh lv47 (Nat.le_refl _) (by simp [isLive]) (by simp) (Eq.mpr (v47 ..) ?_)
  refine ⟨_, _, _, _, _, _, c_hcell s x, br_of (fun h => ⟨_, c_hrow (cellOf s.C x), ret_bH ?_⟩) (fun h => ret_bH ?_)⟩ <;> simp [isT, h]
theorem c_hisr (s : Hp) (x : Int) : AC Try.prog 48 [aH 0, ci x] (oH s) (cb (isR s.C x)) (oH s) := by
  refine AC.vc hP sh lv48 (Nat.le_refl _) (by simp [isLive]) (by simp) (Eq.mpr (v48 ..) ?_)
  refine ⟨_, _, _, _, _, _, c_hcell s x, br_of (fun h => ⟨_, c_hrow (cellOf s.C x), ret_bH ?_⟩) (fun h => ret_bH ?_)⟩ <;> simp [isR, h]
/-- May a cell be put in? -/
def fitsH (s : Hp) (c : Cel) : Bool :=
  if c.t = 0 then decide (0 ≤ c.a) && decide (c.a < (s.N.length : Int))
  else if c.t = 1 then decide (c.a ≥ 1)
  else if c.t = 2 then true
  else if c.t = 9 then true
  else if c.t = 3 then decide (c.a ≥ 0)
  else if c.t = 4 then decide (c.a ≥ 0)
  else if c.t = 5 then isT s.C c.a
  else if c.t = 6 then isT s.C c.a
  else if c.t = 7 then isT s.C c.a && isT s.C c.b
  else if c.t = 8 then isT s.C c.a && isR s.C c.b && decide (c.c ≥ 0) && decide (c.d ≥ 0)
  else if c.t = 10 then isR s.C c.a && decide (c.b ≥ 0)
  else if c.t = 11 then isR s.C c.a && isT s.C c.b && decide (c.c ≥ 0)
  else false
theorem br_eq {x n : Int} {A B : Prop} (h1 : x = n → A) (h2 : x ≠ n → B) : br (x == n) A B := br_of (fun h => h1 (by simpa using h)) (fun h => h2 (by simpa using h))
theorem c_hfits (s : Hp) (c : Cel) : AC Try.prog 29 [aH 0, aCe c] (oH s) (cb (fitsH s c)) (oH s) := by
  have ta := c_hist s c.a
  have tb := c_hist s c.b
  have ra := c_hisr s c.a
  have rb := c_hisr s c.b
  refine AC.vc hP sh lv29 (Nat.le_refl _) (by simp [isLive]) (by simp) (Eq.mpr (v29 ..) ?_)
  refine br_eq (fun e0 => ?_) (fun n0 => br_eq (fun e1 => ?_) (fun n1 => br_eq (fun e2 => ?_) (fun n2 => br_eq (fun e9 => ?_) (fun n9 => br_eq (fun e3 => ?_) (fun n3 => br_eq (fun e4 => ?_) (fun n4 => br_eq (fun e5 => ?_) (fun n5 => br_eq (fun e6 => ?_) (fun n6 => br_eq (fun e7 => ?_) (fun n7 => br_eq (fun e8 => ?_) (fun n8 => br_eq (fun e10 => ?_) (fun n10 => br_eq (fun e11 => ?_) (fun n11 => ?_))))))))))))
  · refine br_of (fun h => ret_bH ?_) (fun h => ret_bH ?_) <;> simp [fitsH, e0] <;> simp at h <;> omega
  · exact ret_bH (by simp [fitsH, e1])
  · exact ret_bH (by simp [fitsH, e2])
  · exact ret_bH (by simp [fitsH, e9])
  · exact ret_bH (by simp [fitsH, e3])
  · exact ret_bH (by simp [fitsH, e4])
  · exact ⟨_, ta, ret_bH (by simp [fitsH, e5])⟩
  · exact ⟨_, ta, ret_bH (by simp [fitsH, e6])⟩
  · exact ⟨_, ta, br_of (fun h => ⟨_, tb, ret_bH (by simp [fitsH, e7, h])⟩) (fun h => ret_bH (by simp [fitsH, e7, h]))⟩
  · exact ⟨_, ta, br_of (fun h => ⟨_, rb, br_of (fun g => br_of (fun q => ret_bH (by simp [fitsH, e8, h, g]; simp at q; omega)) (fun q => ret_bH (by simp [fitsH, e8, h, g]; simp at q; omega))) (fun g => ret_bH (by simp [fitsH, e8, h, g]))⟩) (fun h => ret_bH (by simp [fitsH, e8, h]))⟩
  · exact ⟨_, ra, br_of (fun h => ret_bH (by simp [fitsH, e10, h])) (fun h => ret_bH (by simp [fitsH, e10, h]))⟩
  · exact ⟨_, ra, br_of (fun h => ⟨_, tb, br_of (fun g => ret_bH (by simp [fitsH, e11, h, g])) (fun g => ret_bH (by simp [fitsH, e11, h, g]))⟩) (fun h => ret_bH (by simp [fitsH, e11, h]))⟩
  · exact ret_bH (by simp [fitsH, n0, n1, n2, n9, n3, n4, n5, n6, n7, n8, n10, n11])
/-- Put. -/
def putS (s : Hp) (c : Cel) : (Int × Int) × Hp :=
  if fitsH s c = false then ((0, 1), s) else if s.M ≤ (s.C.length : Int) then ((0, 200), s) else (((s.C.length : Int), 0), { s with C := s.C ++ [c] })
theorem c_hput (s : Hp) (c : Cel) (hB : s.C.length ≤ 1073741824) : AC Try.prog 11 [aH 0, aCe c] (oH s) (t2 (putS s c).1) (oH' (putS s c).2) := by
  refine AC.vc hP sh lv11 (by simp) (by simp [isLive]) (by simp [isLive]) (Eq.mpr (v11 ..) ?_)
  refine ⟨_, c_hfits s c, br_of (fun h => ?_) (fun h => br_of (fun h2 => ?_) (fun h2 => ⟨Nat.le_refl _, ⟨by rw [CR_length]; omega, ?_⟩, ?_⟩))⟩
  · rw [putS, if_pos (by simpa using h)]; exact ⟨.refl _, rfl⟩
  · rw [putS, if_neg (by simpa using h), if_pos (of_decide_eq_true h2)]; exact ⟨.refl _, rfl⟩
  · simp only [roomB]; omega
  · have h2 : ¬ s.M ≤ (s.C.length : Int) := of_decide_eq_false h2
    rw [putS, if_neg (by simpa using h), if_neg h2]
    have e1 : (s.C ++ [c]).length = s.C.length + 1 := by simp
    have e2 : CR (s.C ++ [c]) = List.take s.C.length (CR s.C) ++ [c.r] := by rw [List.take_of_length_le (by rw [CR_length]; omega)]; simp [CR]
    have e3 : IntKind.wrap .i64 (((s.C.length + 1 : Nat) : Int) - 1) = (s.C.length : Int) := by rw [w64 (by omega) (by omega)]; omega
    simp only [oH', hp6, e1, e2, e3]
    exact ⟨.refl _, trivial⟩
/-! ### Names -/
def numOf (nm : List UInt8) : List (List UInt8) → Nat → Option Nat
  | [], _ => none
  | s :: l, i => if (((nm : List UInt8) == s) && true) = true then some i else numOf nm l (i + 1)
abbrev mN : (Bool × List EK) × (Bool × List WV) := ((false, [EK.str]), (false, [.a (.fz (.int .i64 0))]))
theorem findN (nm : List UInt8) : ∀ (l : List (List UInt8)) (i j : Nat), (numOf nm l i = none → findA mN.1 [.str nm] ((NM l i).map thaw) j = some none) ∧
    ∀ x, numOf nm l i = some x → ∃ q, x = i + q ∧ l[q]? = some nm ∧ findA mN.1 [.str nm] ((NM l i).map thaw) j = some (some (j + q)) ∧ (NM l i)[q]? = some ((false, [.str nm]), (false, [.int .i64 (x : Int)]))
  | [], i, j => ⟨fun _ => rfl, fun x h => by cases h⟩
  | s :: l, i, j => by
    have ih := findN nm l (i + 1) (j + 1)
    have hf : findA mN.1 [.str nm] ((NM (s :: l) i).map thaw) j = if (((nm : List UInt8) == s) && true) = true then some (some j) else findA mN.1 [.str nm] ((NM l (i + 1)).map thaw) (j + 1) := rfl
    rw [hf, numOf]
    by_cases q : (((nm : List UInt8) == s) && true) = true
    · rw [if_pos q, if_pos q]
      have e : nm = s := by simpa using q
      exact ⟨fun h => (by cases h), fun x h => ⟨0, by injection h with h; omega, by rw [e]; rfl, rfl, by injection h with h; rw [e, ← h]; rfl⟩⟩
    · rw [if_neg q, if_neg q]
      refine ⟨ih.1, fun x h => ?_⟩
      obtain ⟨k, h1, h2, h3, h4⟩ := ih.2 x h
      exact ⟨k + 1, by omega, by simpa using h2, by rw [h3, show j + 1 + k = j + (k + 1) by omega], by simpa [NM] using h4⟩
theorem NM_append (nm : List UInt8) : ∀ (l : List (List UInt8)) (i : Nat), NM (l ++ [nm]) i = NM l i ++ [((false, [.str nm]), (false, [.int .i64 ((i + l.length : Nat) : Int)]))]
  | [], i => by simp [NM]
  | s :: l, i => by rw [List.cons_append, NM, NM, NM_append nm l (i + 1), List.length_cons, show i + 1 + l.length = i + (l.length + 1) by omega]; rfl
/-- Symbol. -/
def symS (s : Hp) (nm : List UInt8) : Int × Hp := match numOf nm s.N 0 with | some i => ((i : Int), s) | none => ((s.N.length : Int), { s with N := s.N ++ [nm] })
theorem c_hsym (s : Hp) (nm : List UInt8) (hB : s.N.length ≤ 1073741824) : AC Try.prog 17 [aH 0, cs nm] (oH s) (ci (symS s nm).1) (oH' (symS s nm).2) := by
  refine AC.vc hP sh lv17 (by simp) (by simp [isLive]) (by simp [isLive]) (Eq.mpr (v17 ..) ?_)
  have hf := findN nm s.N 0 0
  match hn : numOf nm s.N 0 with
  | some i =>
    obtain ⟨q, h1, _, h3, h4⟩ := hf.2 i hn
    refine .inl ⟨(i : Int), ?_, ?_⟩
    · unfold findZ
      rw [h3]
      simp only [Nat.zero_add, h4, if_true]
    · simp only [symS, hn]
      exact ⟨.refl _, trivial⟩
  | none =>
    have h1 := hf.1 hn
    refine .inr ⟨by unfold findZ; rw [h1], _, (by unfold updZ; rw [h1]), Nat.le_refl _, ⟨by rw [NR_length]; omega, by simp only [roomB]; omega⟩, ?_⟩
    simp only [symS, hn]
    have e1 : (s.N ++ [nm]).length = s.N.length + 1 := by simp
    have e2 : NR (s.N ++ [nm]) = List.take s.N.length (NR s.N) ++ [[.str nm]] := by rw [List.take_of_length_le (by rw [NR_length]; omega)]; simp [NR]
    have e3 := NM_append nm s.N 0
    rw [Nat.zero_add] at e3
    simp only [oH', hp6, e1, e2, e3]
    exact ⟨.refl _, trivial⟩
def nameOf (N : List (List UInt8)) (i : Int) : List UInt8 := if 0 ≤ i ∧ i < (N.length : Int) then (N[i.toNat]?).getD [] else []
theorem nameOf_in {N : List (List UInt8)} {x : Int} (h0 : 0 ≤ x) (h1 : x < (N.length : Int)) : ∃ h : x.toNat < N.length, nameOf N x = N[x.toNat] := by
  have h : x.toNat < N.length := by omega
  exact ⟨h, by rw [nameOf, if_pos ⟨h0, h1⟩, List.getElem?_eq_getElem h]; rfl⟩
theorem ret_sH {x y : List UInt8} {Hs : List AObj} (h : x = y) : TV.Le (cs x) (cs y) ∧ Hs = Hs := ⟨by rw [h]; exact .refl _, rfl⟩
theorem c_hname (s : Hp) (i : Int) : AC Try.prog 18 [aH 0, ci i] (oH s) (cs (nameOf s.N i)) (oH s) := by
  refine AC.vc hP sh lv18 (Nat.le_refl _) (by simp [isLive]) (by simp) (Eq.mpr (v18 ..) ?_)
  refine br_of (fun h => ?_) (fun h => br_of (fun h' => ?_) (fun h' => ?_))
  · exact ret_sH (by simp at h; rw [nameOf, if_neg (by omega)])
  · exact ret_sH (by simp at h'; rw [nameOf, if_neg (by omega)])
  · have h := of_decide_eq_false h
    have h' := of_decide_eq_false h'
    obtain ⟨hl, e⟩ := nameOf_in (N := s.N) (x := i) (by omega) (by omega)
    rw [e, show List.getD (NR s.N) (0 + Int.toNat i) [] = [.str s.N[i.toNat]] by rw [Nat.zero_add, NR_get hl]]
    exact ⟨⟨by omega, by omega⟩, ⟨by rw [NR_length]; omega, rfl, rfl⟩, .refl _, rfl⟩

end Go.AM

set_option maxRecDepth 100000
open Go Go.Proofs
namespace Go.AM

/-! ### The document's example -/
abbrev wT (k : Int) (s : List UInt8) (n : Int) : Tm := .mk k s n []
/-- A constant's cell. -/
def encS (s : Hp) (nm : List UInt8) : (Int × Int) × Hp := putS (symS s nm).2 ⟨0, (symS s nm).1, 0, 0, 0⟩
theorem symS_C (s : Hp) (nm : List UInt8) : (symS s nm).2.C = s.C := by unfold symS; split <;> rfl
theorem c_henc (s : Hp) (nm : List UInt8) (n : Int) (f : List (List FV)) (hB : s.C.length ≤ 1073741824) (hN : s.N.length ≤ 1073741824) :
    AC Try.prog 30 [aH 0, .agg [.a (.fz (.int .i64 0)), .a (.fz (.str nm)), .a (.fz (.int .i64 n)), .a (.fz (.sl false 4 f))], .c (.a (.fz .nils))] (oH s) (t2 (encS s nm).1) (oH' (encS s nm).2) := by
  refine AC.vc hP sh lv30 (by simp) (by simp [isLive]) (by simp [isLive]) (Eq.mpr (v30 ..) ?_)
  refine br_of (fun _ => ⟨symS s nm, c_hsym s nm hN, putS (symS s nm).2 ⟨0, (symS s nm).1, 0, 0, 0⟩, c_hput _ _ (by rw [symS_C]; exact hB), .refl _, rfl⟩) (fun h => by cases h)
theorem c_hEnc (s : Hp) (nm : List UInt8) (hv : validB (wT 0 nm 0) = true) (hz : (wT 0 nm 0).sz ≤ B) (hB : s.C.length ≤ 1073741824) (hN : s.N.length ≤ 1073741824) (he : (encS s nm).1.2 = 0) :
    AC Try.prog 12 [aH 0, aT (wT 0 nm 0), .c (.a (.fz .nils))] (oH s) (t2 (encS s nm).1) (oH' (encS s nm).2) := by
  have h1 := c_valid (wT 0 nm 0) hz
  rw [hv] at h1
  refine AC.vc hP sh lv12 (by simp) (by simp [isLive]) (by simp [isLive]) (Eq.mpr (v12 0 nm 0 (FTs []) ..) ?_)
  refine ⟨_, h1, br_of (fun h => by cases h) (fun _ => ⟨encS s nm, c_henc s nm 0 _ hB hN, br_of (fun h => absurd he (by simpa using h)) (fun _ => ?_)⟩)⟩
  rw [show (encS s nm).1 = ((encS s nm).1.1, 0) by rw [← he]]
  exact ⟨.refl _, rfl⟩
abbrev aD : TV := .c (.a (.ep 0 3 0 0))
abbrev hs1 (s : Hp) : List AObj := [hp6 2 3 4 5 s, .arz 5 (CR s.C), .arz 7 (TR s.T), .arz 1 (NR s.N), .mapz (NM s.N 0)]
abbrev de3 (a : Nat) (f e : Int) : AObj := .arr 3 [[.a (.ep a 6 0 0), .a (.fz (.int .i64 f)), .a (.fz (.int .i64 e))]]
abbrev oD (s : Hp) (f e : Int) : List AObj := [de3 1 f e, hp6 2 3 4 5 s, .arz 5 (CR s.C), .arz 7 (TR s.T), .arz 1 (NR s.N), .mapz (NM s.N 0)]
/-- A cell that is there, and of its kind, with fuel. -/
theorem c_dlook (s : Hp) (x : Int) (b : Bool) (f : Int) (h1 : inC s.C x = true) (h2 : rowB (cellOf s.C x) = b) (hf : 0 < f) (hf2 : f ≤ 1000000) :
    AC Try.prog 50 [aD, ci x, cb b] (oD s f 0) (aCe (cellOf s.C x)) (oD s (f - 1) 0) := by
  have hc := c_hcell s x
  rw [h1] at hc
  refine AC.vc hP sh lv50 (by simp) (by simp [isLive]) (by simp [isLive]) (Eq.mpr (v50 ..) ?_)
  refine ⟨_, _, _, _, _, _, hc, br_of (fun h => by cases h) (fun _ => ⟨_, c_hrow (cellOf s.C x), br_of (fun h => ?_) (fun _ => br_of (fun h => ?_) (fun _ => br_of (fun h => by cases h) (fun _ => ?_)))⟩)⟩
  · rw [h2] at h; simp at h
  · have := of_decide_eq_true h; omega
  · rw [w64 (by omega) (by omega)]; exact ⟨.refl _, rfl⟩
theorem c_dtermB (s : Hp) (x f : Int) (h1 : inC s.C x = true) (h2 : (cellOf s.C x).t = 3) (hf : 0 < f) (hf2 : f ≤ 1000000) :
    AC Try.prog 31 [aD, ci x] (oD s f 0) (aT (wT 3 [] (cellOf s.C x).a)) (oD s (f - 1) 0) := by
  have hl := c_dlook s x false f h1 (by simp [rowB, h2]) hf hf2
  have e : cellOf s.C x = ⟨3, (cellOf s.C x).a, (cellOf s.C x).b, (cellOf s.C x).c, (cellOf s.C x).d⟩ := by rw [← h2]
  refine AC.vc hP sh lv31 (by simp) (by simp [isLive]) (by simp [isLive]) (Eq.mpr (v31 ..) ?_)
  refine ⟨((cellOf s.C x).t, (cellOf s.C x).a, (cellOf s.C x).b, (cellOf s.C x).c, (cellOf s.C x).d, f - 1, 0), hl, br_of (fun h => by cases h) (fun _ => br_eq (fun q => by simp only [h2] at q; omega) (fun _ => br_eq (fun q => by simp only [h2] at q; omega) (fun _ => br_eq (fun q => by simp only [h2] at q; omega) (fun _ => br_eq (fun _ => ?_) (fun q => absurd h2 q)))))⟩
  exact ⟨leT (l := []) leNil, rfl⟩
theorem c_dtermC (s : Hp) (x f : Int) (h1 : inC s.C x = true) (h2 : (cellOf s.C x).t = 0) (hf : 0 < f) (hf2 : f ≤ 1000000) :
    AC Try.prog 31 [aD, ci x] (oD s f 0) (aT (wT 0 (nameOf s.N (cellOf s.C x).a) 0)) (oD s (f - 1) 0) := by
  have hl := c_dlook s x false f h1 (by simp [rowB, h2]) hf hf2
  refine AC.vc hP sh lv31 (by simp) (by simp [isLive]) (by simp [isLive]) (Eq.mpr (v31 ..) ?_)
  refine ⟨((cellOf s.C x).t, (cellOf s.C x).a, (cellOf s.C x).b, (cellOf s.C x).c, (cellOf s.C x).d, f - 1, 0), hl, br_of (fun h => by cases h) (fun _ => br_eq (fun _ => ⟨_, c_hname s _, ?_⟩) (fun q => absurd h2 q))⟩
  exact ⟨leT (l := []) leNil, rfl⟩
/-- The example's cells. -/
abbrev hpW : Hp := ⟨[⟨3, 0, 0, 0, 0⟩, ⟨0, 0, 0, 0, 0⟩, ⟨9, 0, 0, 0, 0⟩, ⟨11, 2, 1, 0, 0⟩, ⟨8, 0, 3, 1, 0⟩], [], 20, 20, [[97]]⟩
theorem c_dentryW : AC Try.prog 73 [aD, aCe ⟨8, 0, 3, 1, 0⟩, ci 0] (oD hpW 18 0) (tCe ⟨11, 2, 1, 0, 0⟩ true) (oD hpW 17 0) := by
  have hl := c_dlook hpW 3 true 18 (by decide) (by decide) (by omega) (by omega)
  refine AC.vc hP sh lv73 (by simp) (by simp [isLive]) (by simp [isLive]) (Eq.mpr (v73 ..) ?_)
  refine br_of (fun h => by cases h) (fun _ => RPt.vc hP sh lv73 (Eq.mpr (v73_1a ..) ?_))
  refine br_of (fun _ => br_of (fun _ => ⟨(11, 2, 1, 0, 0, 17, 0), hl, br_of (fun h => by cases h) (fun _ => br_of (fun h => by cases h) (fun _ => RPt.vc hP sh lv73 (Eq.mpr (v73_1a ..) ?_)))⟩) (fun h => by cases h)) (fun h => by cases h)
  exact br_of (fun h => by cases h) (fun _ => ⟨.refl _, rfl⟩)
abbrev fnS : TV := .c (.fn (.func 82) [] [(false, [.ep 6 1 0 0]), (false, [.ep 7 1 0 0])])
abbrev fnL : TV := .c (.fn (.func 54) [] [(false, [.ep 6 1 0 0]), (false, [.ep 7 5 0 0])])
theorem c_dshiftC (s : Hp) (nm : List UInt8) (n f e : Int) : AC Try.prog 75 [aD, aT (wT 0 nm 0), ci n] (oD s f e) (aT (wT 0 nm 0)) (oD s f e) := by
  have hp : AC Try.prog 53 [aD, .agg [.a (.fz (.int .i64 0)), .a (.fz (.str nm)), .a (.fz (.int .i64 0)), .a (.fz (.sl false 4 (FTs [])))], ci 0, fnS] (oD s f e ++ [.arr 1 [[.a (.ep 0 3 0 0)]], .arr 1 [[.a (.fz (.int .i64 n))]]]) (aT (wT 0 nm 0)) (oD s f e ++ [.arr 1 [[.a (.ep 0 3 0 0)]], .arr 1 [[.a (.fz (.int .i64 n))]]]) := by
    refine AC.vc hP sh lv53 (by simp) (by simp [isLive]) (by simp [isLive]) (Eq.mpr (v53_F82 ..) ?_)
    exact br_of (fun h => by cases h) (fun _ => br_of (fun h => by cases h) (fun _ => br_of (fun h => by cases h) (fun _ => ⟨.refl _, rfl⟩)))
  refine AC.vc hP sh lv75 (by simp) (by simp [isLive]) (by simp [isLive]) (Eq.mpr (v75 0 nm 0 (FTs []) ..) ?_)
  exact ⟨(wT 0 nm 0, f, e), hp, .refl _, rfl⟩
theorem c_dlooseW : AC Try.prog 55 [aD, aCe ⟨8, 0, 3, 1, 0⟩, ci 0, ci 0] (oD hpW 18 0) (aT (wT 0 [97] 0)) (oD hpW 16 0) := by
  have ht := c_dtermC hpW 1 17 (by decide) (by decide) (by omega) (by omega)
  refine AC.vc hP sh lv55 (by simp) (by simp [isLive]) (by simp [isLive]) (Eq.mpr (v55 ..) ?_)
  refine ⟨(11, 2, 1, 0, 0, true, 17, 0), c_dentryW, br_of (fun h => by cases h) (fun _ => br_of (fun h => by cases h) (fun _ => ⟨(wT 0 [97] 0, 16, 0), ht, (wT 0 [97] 0, 16, 0), c_dshiftC hpW [97] _ 16 0, .refl _, rfl⟩))⟩
theorem c_dtermfW : AC Try.prog 54 [ci 0, ci 0, .c (.a (.ep 0 1 0 0)), .c (.a (.ep 7 5 0 0))] (.arr 1 [[.a (.ep 1 3 0 0)]] :: de3 2 18 0 :: hp6 3 4 5 6 hpW :: [.arz 5 (CR hpW.C), .arz 7 (TR hpW.T), .arz 1 (NR hpW.N), .mapz (NM hpW.N 0), .arr 5 [[.a (.fz (.int .i64 8)), .a (.fz (.int .i64 0)), .a (.fz (.int .i64 3)), .a (.fz (.int .i64 1)), .a (.fz (.int .i64 0))]]])
    (aT (wT 0 [97] 0)) (.arr 1 [[.a (.ep 1 3 0 0)]] :: de3 2 16 0 :: hp6 3 4 5 6 hpW :: [.arz 5 (CR hpW.C), .arz 7 (TR hpW.T), .arz 1 (NR hpW.N), .mapz (NM hpW.N 0), .arr 5 [[.a (.fz (.int .i64 8)), .a (.fz (.int .i64 0)), .a (.fz (.int .i64 3)), .a (.fz (.int .i64 1)), .a (.fz (.int .i64 0))]]]) := by
  refine AC.vc hP sh lv54 (by simp) (by simp [isLive]) (by simp [isLive]) (Eq.mpr (v54 ..) ?_)
  exact ⟨(wT 0 [97] 0, 16, 0), c_dlooseW, .refl _, rfl⟩
theorem c_dpartsW : AC Try.prog 53 [aD, .agg [.a (.fz (.int .i64 3)), .a (.fz (.str [])), .a (.fz (.int .i64 0)), .a (.fz (.sl false 4 (FTs [])))], ci 0, fnL] (oD hpW 18 0 ++ [.arr 1 [[.a (.ep 0 3 0 0)]], .arr 5 [[.a (.fz (.int .i64 8)), .a (.fz (.int .i64 0)), .a (.fz (.int .i64 3)), .a (.fz (.int .i64 1)), .a (.fz (.int .i64 0))]]])
    (aT (wT 0 [97] 0)) (oD hpW 16 0 ++ [.arr 1 [[.a (.ep 0 3 0 0)]], .arr 5 [[.a (.fz (.int .i64 8)), .a (.fz (.int .i64 0)), .a (.fz (.int .i64 3)), .a (.fz (.int .i64 1)), .a (.fz (.int .i64 0))]]]) := by
  refine AC.vc hP sh lv53 (by simp) (by simp [isLive]) (by simp [isLive]) (Eq.mpr (v53_F54 ..) ?_)
  exact br_of (fun _ => br_of (fun _ => ⟨(wT 0 [97] 0, 16, 0), c_dtermfW, .refl _, rfl⟩) (fun h => by cases h)) (fun h => by cases h)
theorem c_dtermW : AC Try.prog 31 [aD, ci 4] (oD hpW 20 0) (aT (wT 0 [97] 0)) (oD hpW 16 0) := by
  have hl := c_dlook hpW 4 false 20 (by decide) (by decide) (by omega) (by omega)
  have ht := c_dtermB hpW 0 19 (by decide) (by decide) (by omega) (by omega)
  refine AC.vc hP sh lv31 (by simp) (by simp [isLive]) (by simp [isLive]) (Eq.mpr (v31 ..) ?_)
  refine ⟨(8, 0, 3, 1, 0, 19, 0), hl, br_of (fun h => by cases h) (fun _ => br_of (fun h => by cases h) (fun _ => br_of (fun h => by cases h) (fun _ => br_of (fun h => by cases h) (fun _ => br_of (fun h => by cases h) (fun _ => br_of (fun h => by cases h) (fun _ => br_of (fun h => by cases h) (fun _ => br_of (fun h => by cases h) (fun _ => br_of (fun h => by cases h) (fun _ => ?_)))))))))⟩
  exact ⟨(wT 3 [] 0, 18, 0), ht, (wT 0 [97] 0, 16, 0), c_dpartsW, .refl _, rfl⟩
theorem c_hDecW : AC Try.prog 13 [aH 0, ci 4, ci 20] (oH hpW) (.tup [(true, cT (wT 0 [97] 0)), (false, [.a (.fz (.int .i64 16))]), (false, [.a (.fz (.int .i64 0))])]) (oH hpW) := by
  refine AC.vc hP sh lv13 (by simp) (by simp [isLive]) (by simp [isLive]) (Eq.mpr (v13 ..) ?_)
  exact ⟨(wT 0 [97] 0, 16, 0), c_dtermW, br_of (fun h => by cases h) (fun _ => ⟨.refl _, rfl⟩)⟩
abbrev hp0 : Hp := ⟨[], [], 20, 20, []⟩
abbrev hp1 : Hp := ⟨[⟨3, 0, 0, 0, 0⟩], [], 20, 20, []⟩
abbrev hp2 : Hp := ⟨[⟨3, 0, 0, 0, 0⟩, ⟨0, 0, 0, 0, 0⟩], [], 20, 20, [[97]]⟩
abbrev hp3 : Hp := ⟨[⟨3, 0, 0, 0, 0⟩, ⟨0, 0, 0, 0, 0⟩, ⟨9, 0, 0, 0, 0⟩], [], 20, 20, [[97]]⟩
abbrev hp4 : Hp := ⟨[⟨3, 0, 0, 0, 0⟩, ⟨0, 0, 0, 0, 0⟩, ⟨9, 0, 0, 0, 0⟩, ⟨11, 2, 1, 0, 0⟩], [], 20, 20, [[97]]⟩
theorem c_works20 : AC Try.prog 7 [] [] (cb true) [] := by
  have n0 := c_hnew 20 20
  have p1 := c_hput hp0 ⟨3, 0, 0, 0, 0⟩ (by simp)
  have e1 : putS hp0 ⟨3, 0, 0, 0, 0⟩ = ((0, 0), hp1) := rfl
  rw [e1] at p1
  have e2 : encS hp1 [97] = ((1, 0), hp2) := rfl
  have p2 := c_hEnc hp1 [97] (by decide) (by simp only [B]; decide) (by simp) (by simp) (by rw [e2])
  rw [e2] at p2
  have p3 := c_hput hp2 ⟨9, 0, 0, 0, 0⟩ (by simp)
  have e3 : putS hp2 ⟨9, 0, 0, 0, 0⟩ = ((2, 0), hp3) := rfl
  rw [e3] at p3
  have p4 := c_hput hp3 ⟨11, 2, 1, 0, 0⟩ (by simp)
  have e4 : putS hp3 ⟨11, 2, 1, 0, 0⟩ = ((3, 0), hp4) := rfl
  rw [e4] at p4
  have p5 := c_hput hp4 ⟨8, 0, 3, 1, 0⟩ (by simp)
  have e5 : putS hp4 ⟨8, 0, 3, 1, 0⟩ = ((4, 0), hpW) := rfl
  rw [e5] at p5
  have sm := c_rsame (wT 0 [97] 0) (by simp only [B]; decide) (wT 0 [97] 0)
  refine AC.vc hP sh lv7 (Nat.le_refl _) (by simp) (by simp) (Eq.mpr (v7 ..) ?_)
  refine ⟨hp0, n0, ((0, 0), hp1), p1, ((1, 0), hp2), p2.args ⟨.refl _, leT (l := []) leNil, .refl _, trivial⟩, ((2, 0), hp3), p3, ((3, 0), hp4), p4, ((4, 0), hpW), p5, (wT 0 [97] 0, 16, 0), c_hDecW, _, sm.args ⟨.refl _, leT (l := []) leNil, trivial⟩, ?_⟩
  exact br_of (fun _ => br_of (fun _ => br_of (fun _ => br_of (fun _ => br_of (fun _ => br_of (fun _ => br_of (fun _ => br_of (fun _ => ⟨_, c_hlen hpW, ret_b rfl⟩) (fun h => by cases h)) (fun h => by cases h)) (fun h => absurd h (by decide))) (fun h => by cases h)) (fun h => by cases h)) (fun h => by cases h)) (fun h => by cases h)) (fun h => by cases h)

end Go.AM
