/- A calculus of plain values for the model's code, what the code of each function asks (computed by the kernel), contracts of the functions, and plain laws (part 5). No conditions. -/
import Derived.Test.YtmeolnpbbhinjaaDoorPart4
import Derived.Test.YtmeolnpbbhinjaaDoorPart3
import Derived.Test.YtmeolnpbbhinjaaDoorCards
import Derived.Test.YtmeolnpbbhinjaaDoorTie
import Derived.Deep.DeepHandedRow
set_option maxRecDepth 100000
open Go Go.Proofs
namespace Go.AM
theorem z8l (a : List Cd) (c : Cd) (b : List Cd) : List.getD (FCs (a ++ c :: b)) (Int.toNat (a.length : Int)) [] = FC c := by
 rw [show Int.toNat (a.length : Int) = a.length by omega, zaa]; simp [List.getD]
theorem z3z (a : List In1) (c : In1) (b : List In1) : List.getD (FIs (a ++ c :: b)) (Int.toNat (a.length : Int)) [] = FI c := by
 rw [show Int.toNat (a.length : Int) = a.length by omega, z9b]; simp [List.getD]
abbrev aCr (r : List FV) : TV := .agg [.a (.fz (.str (FV.asS (List.getD r 0 FV.nils)))), .a (.fz (.int .i64 (FV.asI (List.getD r 1 FV.nils)))), .a (.fz (.int .i64 (FV.asI (List.getD r 2 FV.nils)))), .a (.fz (.int .i64 (FV.asI (List.getD r 3 FV.nils)))), .a (.fz (.int .i64 (FV.asI (List.getD r 4 FV.nils)))), .a (.fz (List.getD r 5 FV.nils))]
theorem z77 (c : Cd) : aCr (FC c) = aC c := by cases c; rw [FC]; rfl
abbrev fCr (r : List FV) : List FV := [.str (FV.asS (List.getD r 0 FV.nils)), .int .i64 (FV.asI (List.getD r 1 FV.nils)), .int .i64 (FV.asI (List.getD r 2 FV.nils)), .int .i64 (FV.asI (List.getD r 3 FV.nils)), .int .i64 (FV.asI (List.getD r 4 FV.nils)), List.getD r 5 FV.nils]
theorem z8h (c : Cd) : fCr (FC c) = FC c := by cases c; rw [FC]; rfl
abbrev fIr (r : List FV) : List FV := [.int .i64 (FV.asI (List.getD r 0 FV.nils)), .int .i64 (FV.asI (List.getD r 1 FV.nils)), .int .i64 (FV.asI (List.getD r 2 FV.nils)), .str (FV.asS (List.getD r 3 FV.nils)), .int .i64 (FV.asI (List.getD r 4 FV.nils)), List.getD r 5 FV.nils, List.getD r 6 FV.nils, List.getD r 7 FV.nils]
theorem fIr_FI (x : In1) : fIr (FI x) = FI x := by cases x; rw [FI]; rfl
abbrev aIt (r : List FV) : TV := .agg [.a (.fz (.int .i64 (FV.asI (List.getD r 2 FV.nils)))), .a (.fz (.str (FV.asS (List.getD r 3 FV.nils)))), .a (.fz (.int .i64 (FV.asI (List.getD r 4 FV.nils)))), .a (.fz (List.getD r 5 FV.nils))]
theorem aIt_FI (x : In1) : aIt (FI x) = aT x.t := by cases x; rw [FI]; rfl
theorem FI6 (x : In1) : List.getD (FI x) 6 FV.nils = .sl false 4 (FTs x.l) := by cases x; rw [FI]; rfl
theorem FI7 (x : In1) : List.getD (FI x) 7 FV.nils = .sl false 6 (FCs x.c) := by cases x; rw [FI]; rfl
theorem FI3 (x : In1) : FV.asS (List.getD (FI x) 3 FV.nils) = x.t.s := by cases x; rw [FI]; rfl
theorem FI0 (x : In1) : FV.asI (List.getD (FI x) 0 FV.nils) = x.k := by cases x; rw [FI]; rfl
theorem FI1 (x : In1) : FV.asI (List.getD (FI x) 1 FV.nils) = x.a := by cases x; rw [FI]; rfl
abbrev cCd (c : Cd) : List WV := [.a (.fz (.str c.nm)), .a (.fz (.int .i64 c.ar)), .a (.fz (.int .i64 c.fr)), .a (.fz (.int .i64 c.vs)), .a (.fz (.int .i64 c.sl)), .a (.fz (.sl false 8 (FIs c.ins)))]
abbrev cIn (x : In1) : List WV := [.a (.fz (.int .i64 x.k)), .a (.fz (.int .i64 x.a)), .a (.fz (.int .i64 x.t.k)), .a (.fz (.str x.t.s)), .a (.fz (.int .i64 x.t.n)), .a (.fz (.sl false 4 (FTs x.t.l))), .a (.fz (.sl false 4 (FTs x.l))), .a (.fz (.sl false 6 (FCs x.c)))]
abbrev cIr (r : List FV) : List WV := [.a (.fz (.int .i64 (FV.asI (List.getD r 0 FV.nils)))), .a (.fz (.int .i64 (FV.asI (List.getD r 1 FV.nils)))), .a (.fz (.int .i64 (FV.asI (List.getD r 2 FV.nils)))), .a (.fz (.str (FV.asS (List.getD r 3 FV.nils)))), .a (.fz (.int .i64 (FV.asI (List.getD r 4 FV.nils)))), .a (.fz (List.getD r 5 FV.nils)), .a (.fz (List.getD r 6 FV.nils)), .a (.fz (List.getD r 7 FV.nils))]
theorem cIr_FI (x : In1) : cIr (FI x) = cIn x := by cases x; rw [FI]; rfl
def badL (l : List Tm) : Bool := l.any fun t => z7q t 40 || !near 1048576 t
def z7r (t : Tm) (l : List Tm) : Bool := z7q t 40 || (!near 1048576 t || (decide ((l.length : Int) > 4) || (decide ((t.s.length : Int) > 60) || badL l)))
mutual
def z30 : Cd → Int → Int
 | .mk _ _ _ _ _ ins, m => z19 ins (m - 1)
def z19 : List In1 → Int → Int
 | [], n => n
 | .mk _ _ t l c :: is, n => if n < 0 then n else if z7r t l = true then 0 - 1 else z19 is (z0t c (n - 1))
def z0t : List Cd → Int → Int
 | [], n => n
 | c :: cs, n => if n < 0 then n else z0t cs (z30 c n)
end
theorem leftC_eq (c : Cd) (m : Int) : z30 c m = z19 c.ins (m - 1) := by cases c; rw [z30]; rfl
theorem z6z (x : In1) (is : List In1) (n : Int) : z19 (x :: is) n = if n < 0 then n else if z7r x.t x.l = true then 0 - 1 else z19 is (z0t x.c (n - 1)) := by cases x; rw [z19]; rfl
mutual
theorem zdn : ∀ (c : Cd) (m : Int), 0 ≤ m → 0 - 1 ≤ z30 c m ∧ z30 c m ≤ m
 | .mk _ _ _ _ _ ins, m, h => by
  have := zdy ins (m - 1) (by omega)
  rw [z30]; omega
theorem zdy : ∀ (l : List In1) (n : Int), 0 - 1 ≤ n → 0 - 1 ≤ z19 l n ∧ z19 l n ≤ n
 | [], n, h => by rw [z19]; omega
 | .mk _ _ t l c :: is, n, h => by
  rw [z19]
  split
  · omega
  · split
    · omega
    · have h1 := z62 c (n - 1) (by omega)
      have h2 := zdy is (z0t c (n - 1)) h1.1
      omega
theorem z62 : ∀ (l : List Cd) (n : Int), 0 - 1 ≤ n → 0 - 1 ≤ z0t l n ∧ z0t l n ≤ n
 | [], n, h => by rw [z0t]; omega
 | c :: cs, n, h => by
  rw [z0t]
  split
  · omega
  · have h1 := zdn c n (by omega)
    have h2 := z62 cs (z30 c n) h1.1
    omega
end
theorem zfa {n : Int} (h : n < 0) : ∀ l : List In1, z19 l n = n
 | [] => by rw [z19]
 | x :: l => by rw [z6z, if_pos h]
theorem zew (c : Cd) (x : In1) (i : Int) (r : TV) : ∀ (b a : List Cd) (n : Int), x.c = a ++ b → x.c.length ≤ B → (∀ d ∈ b, ∀ m : Int, 0 ≤ m → m ≤ 4611686018427387904 → AC Tryd.prog 36 [aC d, ci m] [] (ci (z30 d m)) []) → 0 - 1 ≤ n → n ≤ 4611686018427387904 → 0 ≤ i → i ≤ B →
  RPt Tryd.prog 36 0 r [] 1 ⟨[(2, .c (.a (.ep 0 6 0 0))), (5, ci (z0t b n)), (6, ci (i + 1))], [(0, .arr 6 [cCd c])], 1⟩ →
  RPt Tryd.prog 36 0 r [] 9 ⟨[(2, .c (.a (.ep 0 6 0 0))), (5, ci n), (6, ci i), (7, .c (.a (.ep 1 8 0 0))), (11, ci a.length)], [(0, .arr 6 [cCd c]), (1, .arr 8 [cIn x])], 2⟩
 | [], a, n, hx, hB, ih, h0, h1, hi, hi2, hk => by
  refine RPt.vc hP sh lv36 (Eq.mpr (v36_9a n i a.length ..) ?_)
  rw [z0t] at hk
  simp only [B] at hi2
  rw [w64 (x := i + 1) (by omega) (by omega)]
  refine ⟨rfl, z00 (fun h => absurd (of_decide_eq_true h) ?_) (fun _ => ?_)⟩
  · show ¬ (a.length : Int) < (((FCs x.c).length : Nat) : Int)
    rw [hx, z09]; simp
  · exact hk
 | d :: b, a, n, hx, hB, ih, h0, h1, hi, hi2, hk => by
  refine RPt.vc hP sh lv36 (Eq.mpr (v36_9a n i a.length ..) ?_)
  rw [z0t] at hk
  simp only [B] at hi2 hB
  rw [hx, List.length_append, List.length_cons] at hB
  have hlt : (a.length : Int) < (((FV.ses (.sl false 6 (FCs x.c))).length : Nat) : Int) := by show (a.length : Int) < (((FCs x.c).length : Nat) : Int); rw [hx, z09, List.length_append, List.length_cons]; omega
  rw [w64 (x := i + 1) (by omega) (by omega), w64 (x := (a.length : Int) + 1) (by omega) (by omega)]
  refine ⟨rfl, z00 (fun _ => z00 (fun hn => ?_) (fun hn => ?_)) (fun h => absurd hlt (of_decide_eq_false h))⟩
  · have hn := of_decide_eq_true hn
    have e : List.getD (FV.ses (.sl false 6 (FCs x.c))) (Int.toNat (a.length : Int)) [] = FC d := by rw [hx]; exact z8l a d b
    rw [e]
    have hc := ih d List.mem_cons_self n (by omega) h1
    have hb := zdn d n (by omega)
    rw [if_neg (by omega)] at hk
    refine ⟨⟨rfl, by omega, hlt, z8h d⟩, _, by rw [show (TV.agg [.a (.fz (.str (FV.asS (List.getD (FC d) 0 FV.nils)))), .a (.fz (.int .i64 (FV.asI (List.getD (FC d) 1 FV.nils)))), .a (.fz (.int .i64 (FV.asI (List.getD (FC d) 2 FV.nils)))), .a (.fz (.int .i64 (FV.asI (List.getD (FC d) 3 FV.nils)))), .a (.fz (.int .i64 (FV.asI (List.getD (FC d) 4 FV.nils)))), .a (.fz (List.getD (FC d) 5 FV.nils))]) = aC d from z77 d]; exact hc, ?_⟩
    have := zew c x i r b (a ++ [d]) (z30 d n) (by rw [hx]; simp) (by rw [hx]; simp only [List.length_append, List.length_cons, B]; omega) (fun u hu => ih u (List.mem_cons_of_mem _ hu)) hb.1 (by omega) hi (by simp only [B]; omega) hk
    rw [nx] at this
    exact this
  · have hn := of_decide_eq_false hn
    rw [if_pos (by omega)] at hk
    exact hk
theorem zf6 (c : Cd) (x : In1) (i n : Int) (r : TV) : ∀ (b a : List Tm), x.l = a ++ b → (∀ t ∈ x.l, t.sz ≤ B) → x.l.length ≤ B →
  (badL b = true → TV.Le (ci (0 - 1)) r) → (badL b = false → RPt Tryd.prog 36 0 r [] 9 ⟨[(2, .c (.a (.ep 0 6 0 0))), (5, ci n), (6, ci i), (7, .c (.a (.ep 1 8 0 0))), (11, ci 0)], [(0, .arr 6 [cCd c]), (1, .arr 8 [cIn x])], 2⟩) →
  RPt Tryd.prog 36 0 r [] 5 ⟨[(2, .c (.a (.ep 0 6 0 0))), (5, ci n), (6, ci i), (7, .c (.a (.ep 1 8 0 0))), (10, ci a.length)], [(0, .arr 6 [cCd c]), (1, .arr 8 [cIn x])], 2⟩
 | [], a, hx, hs, hB, hb, hk => by
  refine RPt.vc hP sh lv36 (Eq.mpr (v36_5a n i a.length ..) ?_)
  refine ⟨rfl, z00 (fun h => absurd (of_decide_eq_true h) ?_) (fun _ => hk rfl)⟩
  show ¬ (a.length : Int) < (((FTs x.l).length : Nat) : Int)
  rw [hx]; exact geI' a
 | t :: b, a, hx, hs, hB, hb, hk => by
  refine RPt.vc hP sh lv36 (Eq.mpr (v36_5a n i a.length ..) ?_)
  have ht : t ∈ x.l := by rw [hx]; simp
  have hz := hs t ht
  have c1 := zj5 t hz 40 (by omega) (by omega)
  have c2 := c_near 1048576 (by omega) (by omega) t hz
  have hB' := hB
  rw [hx, List.length_append, List.length_cons] at hB'
  simp only [B] at hB'
  have hlt : (a.length : Int) < (((FV.ses (.sl false 4 (FTs x.l))).length : Nat) : Int) := by show (a.length : Int) < (((FTs x.l).length : Nat) : Int); rw [hx]; exact ltI' a t b
  have next := zf6 c x i n r b (a ++ [t]) (by rw [hx]; simp) hs hB
  rw [nx] at next
  rw [w64 (x := (a.length : Int) + 1) (by omega) (by omega)]
  have em : rE (List.getD (FV.ses (.sl false 4 (FTs x.l))) (Int.toNat (a.length : Int)) []) = List.getD (FV.ses (.sl false 4 (FTs x.l))) (Int.toNat (a.length : Int)) [] := by rw [hx]; exact zh8 a t b
  have ea : aE (List.getD (FV.ses (.sl false 4 (FTs x.l))) (Int.toNat (a.length : Int)) []) = aT t := by rw [hx]; exact zh1 a t b
  rw [ea]
  have eb : badL (t :: b) = ((z7q t 40 || !near 1048576 t) || badL b) := rfl
  refine ⟨rfl, z00 (fun _ => ⟨⟨rfl, by omega, hlt, em⟩, _, c1, ⟨rfl, by omega, hlt, em⟩, _, c2, z00 (fun h => ⟨hb (by rw [eb, h]; rfl), rfl⟩) (fun h => z00 (fun h' => ⟨hb (by rw [eb, h, h']; rfl), rfl⟩) (fun h' => ?_))⟩) (fun h => absurd hlt (of_decide_eq_false h))⟩
  have e2 : badL (t :: b) = badL b := by rw [eb, h, h']; rfl
  exact next (fun q => hb (e2.trans q)) (fun q => hk (e2.trans q))
theorem zdx (c : Cd) : ∀ (b a : List In1) (n : Int), c.ins = a ++ b → c.sz ≤ B → (∀ x ∈ b, ∀ d ∈ x.c, ∀ m : Int, 0 ≤ m → m ≤ 4611686018427387904 → AC Tryd.prog 36 [aC d, ci m] [] (ci (z30 d m)) []) → 0 - 1 ≤ n → n ≤ 4611686018427387904 →
  RPt Tryd.prog 36 0 (ci (z19 b n)) [] 1 ⟨[(2, .c (.a (.ep 0 6 0 0))), (5, ci n), (6, ci a.length)], [(0, .arr 6 [cCd c])], 1⟩
 | [], a, n, hx, hz, ih, h0, h1 => by
  refine RPt.vc hP sh lv36 (Eq.mpr (zj0 n a.length ..) ?_)
  rw [z19]
  refine ⟨rfl, z00 (fun h => absurd (of_decide_eq_true h) ?_) (fun _ => z2l rfl)⟩
  rw [hx, z04]; simp
 | x :: b, a, n, hx, hz, ih, h0, h1 => by
  have hxm : x ∈ c.ins := by rw [hx]; simp
  have z1 := In1.szs_mem hxm
  have z2 := In1.szs_length c.ins
  have z3 : In1.szs c.ins ≤ B := by cases c; simp only [Cd.sz, Cd.ins, B] at *; omega
  have z4 : x.t.bk ≤ B ∧ Tm.bks x.l ≤ B ∧ Cd.szs x.c ≤ B := by cases x; simp only [In1.sz1, In1.t, In1.l, In1.c, B] at *; omega
  have z5 := Tm.sz_bk x.t
  have c1 := zj5 x.t (by omega) 40 (by omega) (by omega)
  have c2 := c_near 1048576 (by omega) (by omega) x.t (by omega)
  have hl : (c.ins.length : Int) ≤ B := by omega
  rw [hx, List.length_append, List.length_cons] at hl
  simp only [B] at hl
  have hlt : (a.length : Int) < (((FIs c.ins).length : Nat) : Int) := by rw [hx, z04, List.length_append, List.length_cons]; omega
  rw [z6z]
  by_cases hn : n < 0
  · rw [if_pos hn]
    refine RPt.vc hP sh lv36 (Eq.mpr (zj0 n a.length ..) ?_)
    exact ⟨rfl, z00 (fun _ => z00 (fun h => absurd (of_decide_eq_true h) (by omega)) (fun _ => z2l rfl)) (fun _ => z2l rfl)⟩
  rw [if_neg hn]
  have hcs := z62 x.c (n - 1) (by omega)
  have next : z7r x.t x.l = false → RPt Tryd.prog 36 0 (ci (z19 b (z0t x.c (n - 1)))) [] 1 ⟨[(2, .c (.a (.ep 0 6 0 0))), (5, ci (z0t x.c (n - 1))), (6, ci ((a.length : Int) + 1))], [(0, .arr 6 [cCd c])], 1⟩ := fun _ => by
   have := zdx c b (a ++ [x]) (z0t x.c (n - 1)) (by rw [hx]; simp) hz (fun y hy => ih y (List.mem_cons_of_mem _ hy)) hcs.1 (by omega)
   rw [nx] at this
   exact this
  have h5 : ∀ r : TV, (badL x.l = true → TV.Le (ci (0 - 1)) r) → (badL x.l = false → RPt Tryd.prog 36 0 r [] 1 ⟨[(2, .c (.a (.ep 0 6 0 0))), (5, ci (z0t x.c (n - 1))), (6, ci ((a.length : Int) + 1))], [(0, .arr 6 [cCd c])], 1⟩) →
    RPt Tryd.prog 36 0 r [] 5 ⟨[(2, .c (.a (.ep 0 6 0 0))), (5, ci (n - 1)), (6, ci a.length), (7, .c (.a (.ep 1 8 0 0))), (10, ci 0)], [(0, .arr 6 [cCd c]), (1, .arr 8 [cIn x])], 2⟩ := fun r q1 q2 => by
   have z6 := Tm.szs_bks x.l
   have z7 := Tm.szs_length x.l
   have z8 := Cd.szs_length x.c
   refine zf6 c x a.length (n - 1) r x.l [] (by simp) (fun t ht => by have := Tm.szs_mem ht; omega) (by omega) q1 (fun q => ?_)
   exact zew c x a.length r x.c [] (n - 1) (by simp) (by omega) (ih x List.mem_cons_self) (by omega) (by omega) (by omega) (by simp only [B]; omega) (q2 q)
  refine RPt.vc hP sh lv36 (Eq.mpr (zj0 n a.length ..) ?_)
  rw [w64 (x := n - 1) (by omega) (by omega)]
  have e : List.getD (FIs c.ins) (Int.toNat (a.length : Int)) [] = FI x := by rw [hx]; exact z3z a x b
  rw [e]
  have eb : z7r x.t x.l = (z7q x.t 40 || (!near 1048576 x.t || (decide ((x.l.length : Int) > 4) || (decide ((x.t.s.length : Int) > 60) || badL x.l)))) := rfl
  have bad : z7r x.t x.l = true → TV.Le (ci (0 - 1)) (ci (if z7r x.t x.l = true then 0 - 1 else z19 b (z0t x.c (n - 1)))) := fun q => by rw [if_pos q]; exact .refl _
  have e6 : ((((FV.ses (List.getD (FI x) 6 FV.nils)).length : Nat) : Int)) = (x.l.length : Int) := by rw [FI6]; exact lenI x.l
  have e3 := FI3 x
  refine ⟨rfl, z00 (fun _ => z00 (fun _ => ⟨⟨rfl, by omega, hlt, fIr_FI x⟩, z7q x.t 40, by rw [show (TV.agg [.a (.fz (.int .i64 (FV.asI (List.getD (FI x) 2 FV.nils)))), .a (.fz (.str (FV.asS (List.getD (FI x) 3 FV.nils)))), .a (.fz (.int .i64 (FV.asI (List.getD (FI x) 4 FV.nils)))), .a (.fz (List.getD (FI x) 5 FV.nils))]) = aT x.t from aIt_FI x]; exact c1,
   near 1048576 x.t, by rw [show (TV.agg [.a (.fz (.int .i64 (FV.asI (List.getD (FI x) 2 FV.nils)))), .a (.fz (.str (FV.asS (List.getD (FI x) 3 FV.nils)))), .a (.fz (.int .i64 (FV.asI (List.getD (FI x) 4 FV.nils)))), .a (.fz (List.getD (FI x) 5 FV.nils))]) = aT x.t from aIt_FI x]; exact c2,
   z00 (fun h => ⟨bad (by rw [eb, h]; rfl), rfl⟩) (fun h => z00 (fun h2 => ⟨bad (by rw [eb, h, h2]; rfl), rfl⟩) (fun h2 => ⟨by rw [FI6]; rfl, z00 (fun h3 => ⟨bad ?_, rfl⟩) (fun h3 => z00 (fun h4 => ⟨bad ?_, rfl⟩) (fun h4 => ?_))⟩))⟩)
   (fun h => absurd (of_decide_eq_false h) (by omega))) (fun h => absurd hlt (of_decide_eq_false h))⟩
  · rw [e6] at h3; rw [eb, h, h2, h3]; rfl
  · rw [e6] at h3; rw [e3] at h4; rw [eb, h, h2, h3, h4]; rfl
  · rw [e6] at h3; rw [e3] at h4
    have e7 : z7r x.t x.l = badL x.l := by rw [eb, h, h2, h3, h4]; rfl
    rw [e7]
    have := h5 (ci (if badL x.l = true then 0 - 1 else z19 b (z0t x.c (n - 1)))) (fun q => by rw [if_pos q]; exact .refl _) (fun q => by rw [if_neg (by rw [q]; simp)]; exact next (e7.trans q))
    rw [← cIr_FI x] at this
    exact this
theorem c_cleft : ∀ c : Cd, c.sz ≤ B → ∀ m : Int, 0 ≤ m → m ≤ 4611686018427387904 → AC Tryd.prog 36 [aC c, ci m] [] (ci (z30 c m)) [] := by
 refine Cd.ind fun c ih hz m h0 h1 => ?_
 have h := zdx c c.ins [] (m - 1) (by simp) hz (fun x hx d hd m h0 h1 => ih x hx d hd (by
  have a1 := In1.szs_mem hx
  have a2 := Cd.szs_mem hd
  cases c; cases x
  simp only [Cd.sz, Cd.ins, In1.sz1, In1.c] at *
  omega) m h0 h1) (by omega) (by omega)
 rw [← leftC_eq] at h
 refine AC.vc hP sh lv36 (Nat.le_refl _) (by simp) (by simp) (Eq.mpr (v36 ..) ?_)
 rw [w64 (x := m - 1) (by omega) (by omega)]
 exact h
def ziv (c : Cd) (m : Int) : Bool := decide (z30 c m < 0)
theorem c_clarge (c : Cd) (hz : c.sz ≤ B) (m : Int) (h0 : 0 ≤ m) (h1 : m ≤ 4611686018427387904) : AC Tryd.prog 16 [aC c, ci m] [] (cb (ziv c m)) [] := by
 have h := c_cleft c hz m h0 h1
 refine AC.vc hP sh lv16 (Nat.le_refl _) (by simp) (by simp) (Eq.mpr (v16 ..) ?_)
 exact ⟨_, h, z01 rfl⟩
end Go.AM

set_option maxRecDepth 100000
open Go Go.Proofs
namespace Go.AM
def z5v (t : Tm) : FV := if t.inner = true then .sl false 4 (FTs t.l) else .nils
theorem ziz (t : Tm) : (z5v t).ses = FTs t.kids ∧ (z5v t).isSl 4 = true := by
 unfold z5v Tm.kids
 split <;> exact ⟨rfl, rfl⟩
theorem c_within (t : Tm) : AC Tryd.prog 82 [aT t] [] (.tup [(false, [.a (.fz (z5v t))]), (false, [.a (.fz (.int .i64 t.by))])]) [] := by
 obtain ⟨k, s, n, l⟩ := t
 refine AC.vc hP sh lv82 (Nat.le_refl _) (by simp) (by simp) (Eq.mpr (v82 k s n (FTs l) _ _) ?_)
 refine z00 (fun h => ⟨?_, rfl⟩) (fun h => z00 (fun h2 => ⟨?_, rfl⟩) (fun h2 => ⟨?_, rfl⟩))
 · have e1 : z5v (.mk k s n l) = .sl false 4 (FTs l) := by unfold z5v Tm.inner; simp only [Tm.k, h, Bool.true_or, if_true, Tm.l]
   have e2 : Tm.by (.mk k s n l) = 1 := by unfold Tm.by; simp only [Tm.k, h, if_true]
   rw [e1, e2]; exact .refl _
 · have e1 : z5v (.mk k s n l) = .sl false 4 (FTs l) := by unfold z5v Tm.inner; simp only [Tm.k, h2, Bool.or_true, if_true, Tm.l]
   have e2 : Tm.by (.mk k s n l) = 0 := by unfold Tm.by; simp only [Tm.k, h, Bool.false_eq_true, if_false]
   rw [e1, e2]; exact .refl _
 · have e1 : z5v (.mk k s n l) = .nils := by unfold z5v Tm.inner; simp only [Tm.k, h, h2, Bool.or_self, Bool.false_eq_true, if_false]
   have e2 : Tm.by (.mk k s n l) = 0 := by unfold Tm.by; simp only [Tm.k, h, Bool.false_eq_true, if_false]
   rw [e1, e2]; exact .refl _
mutual
def bd (M : Int) : Tm → Prop
 | .mk k _ n l => (k = 3 → 0 - M ≤ n ∧ n ≤ M) ∧ bds M l
def bds (M : Int) : List Tm → Prop
 | [] => True
 | t :: l => bd M t ∧ bds M l
end
theorem zdp {M : Int} : ∀ {l : List Tm} {t : Tm}, bds M l → t ∈ l → bd M t
 | x :: l, t, h, ht => by
  rcases List.mem_cons.1 ht with rfl | ht
  · exact h.1
  · exact zdp h.2 ht
def maxI (a b : Int) : Int := if a ≤ b then b else a
theorem foldMax2 (a b : Int) : z0d [a, b] = maxI a b := by
 simp only [z0d, List.foldl, maxI, max, maxOfLe]
mutual
def z3n : Tm → Int → Int → Int
 | .mk kd _ n l, k, acc => if (kd == 5) = true then zbj l (k + 1) acc else if (kd == 6) = true then zbj l k acc else if (kd == 3) = true then maxI acc (n - k + 1) else acc
def zbj : List Tm → Int → Int → Int
 | [], _, acc => acc
 | t :: l, k, acc => zbj l k (z3n t k acc)
end
abbrev obj1 (n : Int) : AObj := .arr 1 [[.a (.fz (.int .i64 n))]]
theorem c_loose1 (u : Tm) (k acc : Int) (hb : u.k = 3 → 0 - 2305843009213693952 ≤ u.n ∧ u.n ≤ 2305843009213693952) (h0 : 0 ≤ k) (h1 : k ≤ 2305843009213693952) :
  AC Tryd.prog 69 [aT u, ci k, .c (.a (.ep 0 1 0 0))] [obj1 acc] (.tup []) [obj1 (if (u.k == 3) = true then maxI acc (u.n - k + 1) else acc)] := by
 obtain ⟨kd, s, n, l⟩ := u
 simp only [Tm.k, Tm.n] at hb
 refine AC.vc hP sh lv69 (Nat.le_refl _) (by simp [isLive]) (by simp) (Eq.mpr (v69 kd s n (FTs l) k acc _ _) ?_)
 refine z00 (fun h => ⟨.refl _, ?_⟩) (fun h => ⟨.refl _, ?_⟩)
 · have hk : kd = 3 := by simpa using h
   have := hb hk
   rw [w64 (x := n - k) (by omega) (by omega), w64 (x := n - k + 1) (by omega) (by omega), foldMax2]
   simp only [Tm.k, Tm.n, h, if_true]
 · simp only [Tm.k, h, Bool.false_eq_true, if_false]
abbrev tellL : TV := .c (.fn (.func 69) [] [(false, [.ep 0 1 0 0])])
theorem l_each (k by_ : Int) (h0 : 0 ≤ k) (hby : 0 ≤ by_) (hby1 : by_ ≤ 1) : ∀ (b a : List Tm) (v : FV) (acc : Int), v.ses = FTs (a ++ b) → v.isSl 4 = true →
  (∀ u ∈ b, ∀ acc, AC Tryd.prog 68 [aT u, ci (k + by_), tellL] [obj1 acc] (.tup []) [obj1 (z3n u (k + by_) acc)]) → (a ++ b).length ≤ B → k ≤ 2305843009213693952 →
  RPt Tryd.prog 68 1 (.tup []) [obj1 (zbj b (k + by_) acc)] 1 ⟨[(1, ci k), (2, tellL), (7, ci by_), (27, .c (.a (.fz v))), (28, ci (a ++ b).length), (29, ci a.length)], [(0, obj1 acc)], 1⟩
 | [], a, v, acc, hv, hs, _, hl, hk => by
  refine RPt.vc hP sh lv68 (Eq.mpr (z8k ..) ?_)
  exact z00 (fun h => absurd (of_decide_eq_true h) (by simp)) (fun _ => ⟨.refl _, rfl⟩)
 | t :: b, a, v, acc, hv, hs, ih, hl, hk => by
  refine RPt.vc hP sh lv68 (Eq.mpr (z8k ..) ?_)
  have hl' := hl
  simp only [List.length_append, List.length_cons, B] at hl'
  have h1 := ih t List.mem_cons_self acc
  have h2 := l_each k by_ h0 hby hby1 b (a ++ [t]) v (z3n t (k + by_) acc) (by rw [ap]; exact hv) hs (fun u hu => ih u (List.mem_cons_of_mem _ hu)) (by rw [ap]; exact hl) hk
  have h3 := ltI' a t b
  rw [ap, nx] at h2
  rw [hv, midI, w64 (x := (a.length : Int) + 1) (by omega) (by omega), w64 (x := k + by_) (by omega) (by omega)]
  refine z00 (fun _ => ?_) (fun h => absurd (ltI a t b) (of_decide_eq_false h))
  obtain ⟨k', s', n', l'⟩ := t
  exact ⟨⟨hs, by omega, h3, rfl⟩, .inl ⟨_, h1, h2⟩⟩
theorem c_each : ∀ t : Tm, t.sz ≤ B → bd 2305843009213693952 t → ∀ k acc : Int, 0 ≤ k → k + t.sz ≤ 2305843009213693952 → AC Tryd.prog 68 [aT t, ci k, tellL] [obj1 acc] (.tup []) [obj1 (z3n t k acc)] := by
 refine Tm.ind fun t ih hs hb k acc h0 h1 => ?_
 have hw := c_within t
 have hk := ziz t
 have hlen := Tm.szs_length t.l
 obtain ⟨kd, s, n, l⟩ := t
 simp only [Tm.sz, B, Tm.l] at hs hlen
 simp only [Tm.sz] at h1
 have key : ∀ by_ : Int, 0 ≤ by_ → by_ ≤ 1 → Tm.kids (.mk kd s n l) = l → RPt Tryd.prog 68 1 (.tup []) [obj1 (zbj l (k + by_) acc)] 1 ⟨[(1, ci k), (2, tellL), (7, ci by_), (27, .c (.a (.fz (z5v (.mk kd s n l))))), (28, ci l.length), (29, ci 0)], [(0, obj1 acc)], 1⟩ := by
  intro by_ hb0 hb1 hkids
  have := l_each k by_ h0 hb0 hb1 l [] (z5v (.mk kd s n l)) acc (by rw [hk.1, hkids]; rfl) hk.2 (fun u hu acc => ih u hu (by have := Tm.szs_mem hu; simp only [B]; omega) (zdp hb.2 hu) (k + by_) acc (by omega) (by have := Tm.szs_mem hu; omega)) (by simp only [List.nil_append, B]; omega) (by omega)
  simpa using this
 refine AC.vc hP sh lv68 (Nat.le_refl _) (by simp [isLive]) (by simp) (Eq.mpr (v68_F69 kd s n (FTs l) k acc _ _) ?_)
 refine z00 (fun h => z00 (fun h2 => ⟨_, c_loose1 (.mk kd s n l) k acc hb.1 h0 (by omega), .refl _, ?_⟩) (fun h2 => ⟨_, _, hw, hk.2, ?_⟩)) (fun h => ⟨_, _, hw, hk.2, ?_⟩)
 · have e1 : (kd == 5) = false := by simpa using h
   have e2 : (kd == 6) = false := by simpa using h2
   simp only [z3n, Tm.k, Tm.n, e1, e2, Bool.false_eq_true, if_false]
   rfl
 · have e1 : (kd == 5) = false := by simpa using h
   have e2 : (kd == 6) = true := by simpa using h2
   have ek : Tm.kids (.mk kd s n l) = l := by unfold Tm.kids Tm.inner; simp only [Tm.k, e2, Bool.or_true, if_true, Tm.l]
   have := key 0 (by omega) (by omega) ek
   rw [hk.1, ek, lenI, show Tm.by (.mk kd s n l) = 0 by unfold Tm.by; simp only [Tm.k, e1, Bool.false_eq_true, if_false]]
   simp only [z3n, e1, e2, Bool.false_eq_true, if_false, if_true]
   simpa using this
 · have e1 : (kd == 5) = true := by simpa using h
   have ek : Tm.kids (.mk kd s n l) = l := by unfold Tm.kids Tm.inner; simp only [Tm.k, e1, Bool.true_or, if_true, Tm.l]
   have := key 1 (by omega) (by omega) ek
   rw [hk.1, ek, lenI, show Tm.by (.mk kd s n l) = 1 by unfold Tm.by; simp only [Tm.k, e1, if_true]]
   simp only [z3n, e1, if_true]
   exact this
theorem c_loose (t : Tm) (hs : t.sz ≤ B) (hb : bd 2305843009213693952 t) : AC Tryd.prog 47 [aT t] [] (ci (z3n t 0 0)) [] := by
 have h := c_each t hs hb 0 0 (Int.le_refl _) (by simp only [B] at hs; omega)
 refine AC.vc hP sh lv47 (Nat.le_refl _) (by simp) (by simp) (Eq.mpr (v47 ..) ?_)
 exact .inl ⟨_, h, z2l rfl⟩
end Go.AM

set_option maxRecDepth 100000
open Go Go.Proofs
namespace Go.AM
theorem roomI {n : Nat} (h : n ≤ 2199023255552) : z2d n 56 := by unfold z2d; omega
end Go.AM

set_option maxRecDepth 100000
open Go Go.Proofs

set_option maxRecDepth 100000
open Go Go.Proofs
namespace Go.AM
theorem bds_of {M : Int} : ∀ {l : List Tm}, (∀ t ∈ l, bd M t) → bds M l
 | [], _ => trivial
 | t :: _, h => ⟨h t List.mem_cons_self, bds_of fun u hu => h u (List.mem_cons_of_mem _ hu)⟩
abbrev M61 : Int := 2305843009213693952
theorem bd_le {M M' : Int} (h : M ≤ M') : ∀ t : Tm, bd M t → bd M' t := by
 refine Tm.ind fun t ih hb => ?_
 obtain ⟨k, s, n, l⟩ := t
 exact ⟨fun e => by have := hb.1 e; omega, bds_of fun u hu => ih u hu (zdp hb.2 hu)⟩
end Go.AM

set_option maxRecDepth 100000
open Go Go.Proofs
namespace Go.AM
mutual
def z12 : Tm → Bool
 | .mk k s n l =>
  if (k == 0) = true then (z72 s || zbm s) && n == 0 && (((FTs l).length : Nat) : Int) == 0
  else if (k == 1) = true then decide (n ≥ 1) && s == [] && (((FTs l).length : Nat) : Int) == 0 && z2x l
  else if (k == 2) = true then s == [] && (((FTs l).length : Nat) : Int) == 0 && z2x l
  else if (k == 3) = true then decide (n ≥ 0) && decide (n ≤ 4611686018427387904) && s == [] && (((FTs l).length : Nat) : Int) == 0 && z2x l
  else if (k == 4) = true then decide (n ≥ 0) && decide (n ≤ 4611686018427387904) && s == [] && (((FTs l).length : Nat) : Int) == 0 && z2x l
  else if (k == 5) = true then n == 0 && s == [] && (((FTs l).length : Nat) : Int) == 1 && z2x l
  else if (k == 6) = true then n == 0 && decide ((((FTs l).length : Nat) : Int) ≥ 2) && ((l.headD default).k != 6) && s == [] && z2x l
  else false
def z2x : List Tm → Bool
 | [] => true
 | t :: l => z12 t && z2x l
end
def zd9 : List Tm → Int → Int
 | [], _ => -1
 | t :: l, i => if z12 t = true then zd9 l (i + 1) else i
theorem zeu : ∀ (l : List Tm) (i : Int), 0 ≤ i → decide (zd9 l i ≥ 0) = !z2x l
 | [], _, _ => rfl
 | t :: l, i, h => by
  rw [zd9, z2x]
  split
  · rename_i e; rw [zeu l (i + 1) (by omega), e, Bool.true_and]
  · rename_i e; rw [show z12 t = false by simpa using e]; simp; omega
theorem zh2 : ∀ (b a : List Tm), (∀ u ∈ b, AC Tryd.prog 67 [aT u] [] (cb (!z12 u)) []) → (a ++ b).length ≤ B →
  RPt Tryd.prog 71 0 (ci (zd9 b a.length)) [] 1 ⟨[(0, aL (a ++ b)), (1, .c (.fn (.func 67) [] [])), (7, ci (((FTs (a ++ b)).length : Nat) : Int)), (8, ci a.length)], [], 0⟩
 | [], a, _, _ => by
  refine RPt.vc hP sh lv71 (Eq.mpr (z95 ..) ?_)
  exact z00 (fun h => absurd (of_decide_eq_true h) (geI' a)) (fun _ => z2l rfl)
 | t :: b, a, ih, hl => by
  refine RPt.vc hP sh lv71 (Eq.mpr (z95 ..) ?_)
  have hl' := hl
  simp only [List.length_append, List.length_cons, B] at hl'
  have h1 := ih t List.mem_cons_self
  have h2 := zh2 b (a ++ [t]) (fun u hu => ih u (List.mem_cons_of_mem _ hu)) (by rw [ap]; exact hl)
  have h3 := ltI' a t b
  rw [ap, nx] at h2
  rw [midI, w64 (x := (a.length : Int) + 1) (by omega) (by omega)]
  refine z00 (fun _ => ?_) (fun h => absurd h3 (of_decide_eq_false h))
  obtain ⟨k', s', n', l'⟩ := t
  refine ⟨⟨rfl, by omega, h3, rfl⟩, _, h1, z00 (fun h => ?_) (fun h => ?_)⟩
  · rw [zd9, if_neg (by simpa using h)]; exact z2l rfl
  · rw [zd9, if_pos (by simpa using h)]; exact h2
theorem c_contf (l : List Tm) (hl : l.length ≤ B) (ih : ∀ u ∈ l, AC Tryd.prog 46 [aT u] [] (cb (z12 u)) []) : AC Tryd.prog 50 [aL l, .c (.fn (.func 67) [] [])] [] (cb (!z2x l)) [] := by
 have h1 : ∀ u ∈ l, AC Tryd.prog 67 [aT u] [] (cb (!z12 u)) [] := fun u hu => by
  have h := ih u hu
  obtain ⟨k, s, n, l⟩ := u
  refine AC.vc hP sh lv67 (Nat.le_refl _) (by simp) (by simp) (Eq.mpr (v67 k s n (FTs l) _ _) ?_)
  exact ⟨_, h, z01 rfl⟩
 have h2 : AC Tryd.prog 71 [aL l, .c (.fn (.func 67) [] [])] [] (ci (zd9 l 0)) [] := by
  refine AC.vc hP sh lv71 (Nat.le_refl _) (by simp) (by simp) (Eq.mpr (v71_F67 ..) ?_)
  exact ⟨rfl, zh2 l [] h1 hl⟩
 refine AC.vc hP sh lv50 (Nat.le_refl _) (by simp) (by simp) (Eq.mpr (v50_F67 ..) ?_)
 exact ⟨_, h2, z01 (zeu l 0 (Int.le_refl _))⟩
theorem head0 : ∀ {l : List Tm}, 2 ≤ (((FTs l).length : Nat) : Int) → List.getD (FTs l) 0 [] = FT (l.headD default)
 | [], h => by simp [FTs] at h
 | t :: l, _ => rfl
theorem zio : ∀ t : Tm, t.sz ≤ B → AC Tryd.prog 46 [aT t] [] (cb (z12 t)) [] := by
 refine Tm.ind fun t ih hs => ?_
 have hlen := Tm.szs_length t.l
 obtain ⟨k, s, n, l⟩ := t
 simp only [Tm.sz, Tm.l] at hs hlen
 have hc := c_contf l (by omega) fun u hu => ih u hu (by have := Tm.szs_mem hu; omega)
 refine AC.vc hP sh lv46 (Nat.le_refl _) (by simp) (by simp) (Eq.mpr (v46 k s n (FTs l) _ _) ?_)
 refine z00 (fun h0 => ⟨_, zf5 s, z00 (fun h1 => z00 (fun h2 => ⟨rfl, z01 ?_⟩) (fun h2 => z01 ?_)) (fun h1 => ⟨_, zhs s, z00 (fun h1' => z00 (fun h2 => ⟨rfl, z01 ?_⟩) (fun h2 => z01 ?_)) (fun h1' => z01 ?_)⟩)⟩)
  (fun h0 => z00 (fun h1 => z00 (fun h2 => z00 (fun h3 => ⟨rfl, z00 (fun h4 => ⟨_, hc, z01 ?_⟩) (fun h4 => z01 ?_)⟩) (fun h3 => z01 ?_)) (fun h2 => z01 ?_))
  (fun h1 => z00 (fun h2 => z00 (fun h3 => ⟨rfl, z00 (fun h4 => ⟨_, hc, z01 ?_⟩) (fun h4 => z01 ?_)⟩) (fun h3 => z01 ?_))
  (fun h2 => z00 (fun h3 => z00 (fun h4 => z00 (fun h5 => z00 (fun h6 => ⟨rfl, z00 (fun h7 => ⟨_, hc, z01 ?_⟩) (fun h7 => z01 ?_)⟩) (fun h6 => z01 ?_)) (fun h5 => z01 ?_)) (fun h4 => z01 ?_))
  (fun h3 => z00 (fun h3' => z00 (fun h4 => z00 (fun h5 => z00 (fun h6 => ⟨rfl, z00 (fun h7 => ⟨_, hc, z01 ?_⟩) (fun h7 => z01 ?_)⟩) (fun h6 => z01 ?_)) (fun h5 => z01 ?_)) (fun h4 => z01 ?_))
  (fun h3' => z00 (fun h5 => z00 (fun h6 => z00 (fun h7 => ⟨rfl, z00 (fun h8 => ⟨_, hc, z01 ?_⟩) (fun h8 => z01 ?_)⟩) (fun h7 => z01 ?_)) (fun h6 => z01 ?_))
  (fun h5 => z00 (fun h6 => z00 (fun h7 => ⟨rfl, z00 (fun h8 => ?app) (fun h8 => ⟨rfl, z01 ?_⟩)⟩) (fun h7 => ⟨rfl, z01 ?_⟩)) (fun h6 => z01 ?_)))))))
 case app =>
  have h8' := of_decide_eq_true h8
  rw [head0 h8', FT_eta]
  refine ⟨⟨rfl, by omega, by omega, rfl⟩, rfl, z00 (fun h9 => z00 (fun h10 => ⟨rfl, z00 (fun h11 => ⟨_, hc, z01 ?_⟩) (fun h11 => z01 ?_)⟩) (fun h10 => z01 ?_)) (fun h9 => z01 ?_)⟩
  all_goals (have h9' : ((l.headD default).k != 6) = _ := h9; simp_all [z12])
 all_goals first
  | (simp_all [z12]; done)
  | (simp_all [z12]; intros; omega)
end Go.AM

set_option maxRecDepth 100000
open Go Go.Proofs
namespace Go.AM
mutual
theorem zcr {M : Int} : ∀ t : Tm, near M t = true → bd M t
 | .mk k s n l, h => by
  simp only [near, Bool.and_eq_true] at h
  refine ⟨fun e => ?_, zes l h.2⟩
  have := h.1
  rw [e] at this
  simp at this; omega
theorem zes {M : Int} : ∀ l : List Tm, zdm M l = true → bds M l
 | [], _ => trivial
 | t :: l, h => by
  simp only [zdm, Bool.and_eq_true] at h
  exact ⟨zcr t h.1, zes l h.2⟩
end
end Go.AM

set_option maxRecDepth 100000
open Go Go.Proofs
namespace Go.AM
theorem zf0 : ∀ (b a b' a' : List Tm), (∀ u ∈ b, ∀ v : Tm, AC Tryd.prog 57 [aT u, aT v] [] (cb (za3 u v)) []) → (a ++ b).length ≤ B → a.length = a'.length → b.length = b'.length →
  RPt Tryd.prog 58 0 (cb (z7y b b')) [] 1 ⟨[(1, aL (a' ++ b')), (2, .c (.fn (.func 57) [] [])), (15, aL (a ++ b)), (16, ci (((FTs (a ++ b)).length : Nat) : Int)), (17, ci a.length)], [], 0⟩
 | [], a, [], a', _, _, _, _ => by
  refine RPt.vc hP sh lv58 (Eq.mpr (z8g ..) ?_)
  exact z00 (fun h => absurd (of_decide_eq_true h) (geI' a)) (fun _ => z01 rfl)
 | t :: b, a, t' :: b', a', ih, hl, ha, hb => by
  refine RPt.vc hP sh lv58 (Eq.mpr (z8g ..) ?_)
  have hl' := hl
  simp only [List.length_append, List.length_cons, B] at hl'
  simp only [List.length_cons] at hb
  have h1 := ih t List.mem_cons_self t'
  have h2 := zf0 b (a ++ [t]) b' (a' ++ [t']) (fun u hu => ih u (List.mem_cons_of_mem _ hu)) (by rw [ap]; exact hl) (by simp [ha]) (by omega)
  have h3 := ltI' a t b
  have h4 := ltI' a' t' b'
  rw [← ha] at h4
  rw [ap, ap, nx] at h2
  rw [midI, midI' a a' ha, w64 (x := (a.length : Int) + 1) (by omega) (by omega)]
  refine z00 (fun _ => ?_) (fun h => absurd h3 (of_decide_eq_false h))
  obtain ⟨k1, s1, n1, l1⟩ := t
  obtain ⟨k2, s2, n2, l2⟩ := t'
  refine ⟨⟨rfl, by omega, h3, rfl⟩, ⟨rfl, by omega, h4, rfl⟩, _, h1, z00 (fun h => z01 ?_) (fun h => ?_)⟩
  · rw [z7y, show za3 (.mk k1 s1 n1 l1) (.mk k2 s2 n2 l2) = false by simpa using h]; rfl
  · rw [z7y, show za3 (.mk k1 s1 n1 l1) (.mk k2 s2 n2 l2) = true by simpa using h]; exact h2
theorem c_same : ∀ a : Tm, a.sz ≤ B → ∀ b : Tm, AC Tryd.prog 57 [aT a, aT b] [] (cb (za3 a b)) [] := by
 refine Tm.ind fun a ih hs b => ?_
 have hlen := Tm.szs_length a.l
 obtain ⟨k1, s1, n1, l1⟩ := a
 obtain ⟨k2, s2, n2, l2⟩ := b
 simp only [Tm.sz, Tm.l] at hs hlen
 have he : AC Tryd.prog 58 [aL l1, aL l2, .c (.fn (.func 57) [] [])] [] (cb (z7y l1 l2)) [] := by
  refine AC.vc hP sh lv58 (Nat.le_refl _) (by simp) (by simp) (Eq.mpr (v58_F57 ..) ?_)
  refine ⟨rfl, rfl, z00 (fun h => z01 ?_) (fun h => ⟨rfl, ?_⟩)⟩
  · rw [z0a, z0a] at h
    exact (zbn (fun e => by rw [e] at h; simp at h)).symm
  · rw [z0a, z0a] at h
    exact zf0 l1 [] l2 [] (fun u hu v => ih u hu (by have := Tm.szs_mem hu; omega) v) (by simp only [List.nil_append]; omega) rfl (by have : (l1.length : Int) = l2.length := by simpa using h
                                                                                                                                      omega)
 refine AC.vc hP sh lv57 (Nat.le_refl _) (by simp) (by simp) (Eq.mpr (v57 k1 s1 n1 (FTs l1) k2 s2 n2 (FTs l2) _ _) ?_)
 refine z00 (fun h => z00 (fun h1 => z00 (fun h2 => ⟨_, he, z01 ?_⟩) (fun h2 => z01 ?_)) (fun h1 => z01 ?_)) (fun h => z01 ?_)
 all_goals simp only [za3]
 all_goals simp_all
end Go.AM

set_option maxRecDepth 100000
open Go Go.Proofs

set_option maxRecDepth 100000
open Go Go.Proofs
namespace Go.AM
theorem c_clone : (∀ es : List (List FV), es ≠ [] → es.length ≤ B → AC Tryd.prog 90 [.c (.a (.fz (.sl false 4 es)))] [] (.c (.a (.osl 0 4 0 es.length))) [.arz 4 es]) ∧ AC Tryd.prog 90 [.c (.a (.fz (.sl false 4 [])))] [] (.c (.a (.fz (.sl false 4 [])))) [] := by
 have h0 : AC Tryd.prog 90 [.c (.a (.fz .nils))] [] (.c (.a (.fz .nils))) [] := by
  refine AC.vc hP sh lv90 (Nat.le_refl _) (by simp) (by simp) (Eq.mpr (v90 ..) ?_)
  exact ⟨.refl _, rfl⟩
 have h1 : ∀ es : List (List FV), es.length ≤ B → AC Tryd.prog 90 [.c (.a (.fz (.sl true 4 es)))] [] (.c (.a (.osl 0 4 0 es.length))) [.arz 4 es] := fun es hl => by
  refine AC.vc hP sh lv90 (by simp) (by simp) (by simp [isLive]) (Eq.mpr (v90_i1 ..) ?_)
  refine ⟨rfl, ⟨by omega, by rw [Nat.zero_add]; exact roomI (by simp only [B] at hl; omega)⟩, ?_⟩
  rw [Nat.zero_add]
  exact ⟨.refl _, rfl⟩
 exact AC.clone_le h0 h1
end Go.AM

set_option maxRecDepth 100000
open Go Go.Proofs
namespace Go.AM
abbrev noT : Tm := .mk 0 [] 0 []
end Go.AM

set_option maxRecDepth 100000
open Go Go.Proofs
namespace Go.AM
def hd (l : List Tm) : Tm := l.headD default
mutual
def okB : Tm → Bool
 | .mk k s n l => (if (k == 6) = true then decide (2 ≤ l.length) && (hd l).k != 6 && (s == [] && n == 0) else if (k == 5) = true then decide (l.length = 1) && (s == [] && n == 0) else decide (l.length = 0)) && okL l
def okL : List Tm → Bool
 | [] => true
 | t :: l => okB t && okL l
end
theorem okB6 {k n : Int} {s : List UInt8} {l : List Tm} (h : okB (.mk k s n l) = true) (hk : k = 6) : ∃ x y r, l = x :: y :: r ∧ x.k ≠ 6 ∧ okL l = true := by
 subst hk
 simp only [okB, Bool.and_eq_true] at h
 match l, h with
 | [], h => simp at h
 | [x], h => simp at h
 | x :: y :: r, h => exact ⟨x, y, r, rfl, by have := h.1; simp [hd] at this; exact this.1, h.2⟩
mutual
theorem zf2 : ∀ t : Tm, z12 t = true → okB t = true
 | .mk k s n l, h => by
  rw [okB]
  have hl := zcf l
  rw [z12] at h
  split at h
  · rename_i e
    have e : k = 0 := by simpa using e
    subst e
    rw [lenI] at h
    have : l = [] := by simp at h; exact h.2
    subst this; rfl
  split at h
  · rename_i e
    have e : k = 1 := by simpa using e
    subst e
    rw [lenI] at h
    have : l = [] := by simp at h; exact h.1.2
    subst this; rfl
  split at h
  · rename_i e
    have e : k = 2 := by simpa using e
    subst e
    rw [lenI] at h
    have : l = [] := by simp at h; exact h.1.2
    subst this; rfl
  split at h
  · rename_i e
    have e : k = 3 := by simpa using e
    subst e
    rw [lenI] at h
    have : l = [] := by simp at h; exact h.1.2
    subst this; rfl
  split at h
  · rename_i e
    have e : k = 4 := by simpa using e
    subst e
    rw [lenI] at h
    have : l = [] := by simp at h; exact h.1.2
    subst this; rfl
  split at h
  · rename_i e
    have e : k = 5 := by simpa using e
    subst e
    rw [lenI] at h
    simp only [Bool.and_eq_true, beq_iff_eq] at h
    have h1 : l.length = 1 := by have := h.1.2; omega
    rw [hl h.2]
    simp [h1, h.1.1.1, h.1.1.2]
  split at h
  · rename_i e
    have e : k = 6 := by simpa using e
    subst e
    rw [lenI] at h
    simp only [Bool.and_eq_true, decide_eq_true_eq, beq_iff_eq] at h
    have h1 : 2 ≤ l.length := by have := h.1.1.1.2; omega
    have h2 : ((hd l).k != 6) = true := h.1.1.2
    rw [hl h.2, h2]
    simp [h1, h.1.1.1.1, h.1.2]
  · cases h
theorem zcf : ∀ l : List Tm, z2x l = true → okL l = true
 | [], _ => rfl
 | t :: l, h => by
  simp only [z2x, Bool.and_eq_true] at h
  simp only [okL, zf2 t h.1, zcf l h.2, Bool.and_self]
end
end Go.AM

set_option maxRecDepth 100000
open Go Go.Proofs

set_option maxRecDepth 100000
open Go Go.Proofs
namespace Go.AM
theorem el0 (x : Tm) (l : List Tm) : FV.isSl 4 (.sl false 4 (FTs (x :: l))) = true ∧ ((0 : Int) ≤ 0 ∧ ((0 : Int) < (((FTs (x :: l)).length : Nat) : Int) ∧ (rE (List.getD (FTs (x :: l)) 0 []) : List FV) = List.getD (FTs (x :: l)) 0 [])) := ⟨rfl, Int.le_refl _, by rw [lenI]; simp only [List.length_cons]; omega, rE_FT x⟩
end Go.AM

set_option maxRecDepth 100000
open Go Go.Proofs

set_option maxRecDepth 100000
open Go Go.Proofs

set_option maxRecDepth 100000
open Go Go.Proofs

set_option maxRecDepth 100000
open Go Go.Proofs

set_option maxRecDepth 100000
open Go Go.Proofs
namespace Go.AM
def LeW (p q : Bool × List WV) : Prop := p.1 = q.1 ∧ All2 WV.Le p.2 q.2
theorem z2j {α β : Type} {R : α → β → Prop} : ∀ {a : List α} {b : List β}, All2 R a b → a.length = b.length ∧ ∀ (i : Nat) (x : α) (y : β), a[i]? = some x → b[i]? = some y → R x y
 | [], [], _ => ⟨rfl, fun i x y hx _ => by simp at hx⟩
 | x :: a, y :: b, h => by
  have := z2j h.2
  refine ⟨by simp [this.1], fun i u v hu hv => ?_⟩
  match i, hu, hv with
  | 0, hu, hv => simp at hu hv; subst hu; subst hv; exact h.1
  | i + 1, hu, hv => exact this.2 i u v (by simpa using hu) (by simpa using hv)
 | [], _ :: _, h => h.elim
 | _ :: _, [], h => h.elim
theorem le_tup {a b : List (Bool × List WV)} (h : All2 LeW a b) : TV.Le (.tup a) (.tup b) := by
 have := z2j h
 refine .tup _ _ this.1 fun i p q hp hq => ?_
 have h1 := this.2 i p q hp hq
 have h2 := z2j h1.2
 exact ⟨h1.1, h2.1, h2.2⟩
theorem lw1 {x y : WV} {b : Bool} (h : WV.Le x y) : LeW (b, [x]) (b, [y]) := ⟨rfl, h, trivial⟩
theorem lwR (p : Bool × List WV) : LeW p p := by
 obtain ⟨b, l⟩ := p
 refine ⟨rfl, ?_⟩
 show All2 WV.Le l l
 induction l with
 | nil => trivial
 | cons x l ih => exact ⟨.refl _, ih⟩
theorem take_nat (t : List (List FV)) : List.take (Int.toNat ((t.length : Nat) : Int)) t = t := by rw [Int.toNat_natCast, List.take_of_length_le (Nat.le_refl _)]
end Go.AM

set_option maxRecDepth 100000
open Go Go.Proofs
namespace Go.AM
def z20 (t : Tm) : Tm × List Tm := if t.k = 6 ∧ z12 t = true then (hd t.l, t.l.drop 1) else (t, [])
abbrev aSp (z : Tm × List Tm) : TV := .tup [(true, cT z.1), (false, [.a (.fz (.sl false 4 (FTs z.2)))])]
theorem zdz (t : Tm) (hz : t.sz ≤ B) : AC Tryd.prog 83 [aT t] [] (aSp (z20 t)) [] := by
 have h1 := zio t hz
 have hlen := Tm.szs_length t.l
 have hsz := t.sz_eq
 obtain ⟨k, str, n, l⟩ := t
 have no : ∀ x : FV, FV.Le x (.sl false 4 (FTs [])) → TV.Le (.tup [(true, [.a (.fz (.int .i64 k)), .a (.fz (.str str)), .a (.fz (.int .i64 n)), .a (.fz (.sl false 4 (FTs l)))]), (false, [.a (.fz x)])]) (aSp (.mk k str n l, [])) :=
  fun x hx => le_tup ⟨lwR _, lw1 (.a _ _ (.fz _ _ hx)), trivial⟩
 refine AC.vc hP sh lv83 (Nat.le_refl _) (by simp) (by simp) (Eq.mpr (v83 k str n (FTs l) _ _) ?_)
 refine z00 (fun h => ?_) (fun h => ⟨_, h1, z00 (fun h' => ?_) (fun h' => ?_)⟩)
 · rw [z20, if_neg (fun e => by have e1 : k = 6 := e.1; subst e1; cases h)]; exact ⟨no _ leNil, rfl⟩
 · rw [z20, if_neg (fun e => by rw [show z12 (.mk k str n l) = false by simpa using h'] at e; cases e.2)]; exact ⟨no _ leNil, rfl⟩
 · have h6 : k = 6 := by simpa using h
   subst h6
   have hv : z12 (.mk 6 str n l) = true := by simpa using h'
   obtain ⟨x, y, r, rfl, hx6, hl⟩ := okB6 (zf2 _ hv) rfl
   simp only [Tm.l, List.length_cons, B] at hlen hsz hz
   have hcl := c_clone.1 (FTs (y :: r)) (by simp [FTs]) (by rw [z0a]; simp only [List.length_cons, B]; omega)
   have e1 : List.drop 1 (List.take (Int.toNat (((FTs (x :: y :: r)).length : Nat) : Int)) (FTs (x :: y :: r))) = FTs (y :: r) := by rw [take_nat]; rfl
   rw [e1, z20, if_pos ⟨rfl, hv⟩]
   refine ⟨el0 x (y :: r), rfl, ⟨by omega, by rw [z0a]; simp only [List.length_cons]; omega, Int.le_refl _⟩, .inr ⟨_, hcl, ⟨rfl, by omega⟩, ?_, rfl⟩⟩
   rw [List.drop_zero, List.take_of_length_le (Nat.le_refl _), show cE (List.getD (FTs (x :: y :: r)) 0 []) = cT x from cE_FT x]
   exact .refl _
end Go.AM

set_option maxRecDepth 100000
open Go Go.Proofs
namespace Go.AM
mutual
def unF (n : Int) : Tm → Bool
 | .mk k _ m l => !(k == 1 || k == 4 && decide (m ≥ n)) && unL n l
def unL (n : Int) : List Tm → Bool
 | [] => true
 | t :: l => unF n t && unL n l
end
theorem zi4 (n : Int) : ∀ l : List Tm, unL n l = l.all (unF n)
 | [] => rfl
 | t :: l => by rw [unL, zi4 n l]; rfl
theorem unF_eq (n : Int) (t : Tm) : unF n t = (!(t.k == 1 || t.k == 4 && decide (t.n ≥ n)) && t.l.all (unF n)) := by
 obtain ⟨k, s, m, l⟩ := t
 rw [unF, zi4]; rfl
def z7p (t : Tm) : Bool := t.k == 0 && (t.s == [] && (t.n == 0 && t.l.isEmpty))
def plB (n : Int) (t : Tm) : Bool := z12 t && (decide (z3n t 0 0 ≤ 0) && unF n t)
def logs : List (List UInt8) := [[58, 45], [44], [59], [61, 62], [61], [105, 115], [60], [61, 60], [62], [62, 61], [116, 114, 117, 101], [102, 97, 105, 108], [33], [112, 105], [115, 105, 103, 109, 97]]
def nums : List (List UInt8) := [[105, 115], [60], [61, 60], [62], [62, 61]]
def logB (s : List UInt8) : Bool := logs.contains s
def numB (s : List UInt8) : Bool := nums.contains s
def nmB (s : List UInt8) : Bool := (z72 s || zbm s) && !logB s
def cntB (ar fr vs sl : Int) : Bool := decide (0 ≤ ar ∧ ar ≤ 4096 ∧ 0 ≤ fr ∧ fr ≤ 4096 ∧ 0 ≤ vs ∧ vs ≤ 4096 ∧ sl ≤ 4096 ∧ fr + vs ≤ sl)
def atomB (t : Tm) : Bool := (z20 t).1.k == 0 && !logB (z20 t).1.s
def isNum (t : Tm) : Bool := (z20 t).1.k == 0 && (numB (z20 t).1.s && (z20 t).2.length == 2)
def useA (k : Int) : Bool := k == 0 || k == 1 || k == 9 || k == 10 || k == 11 || k == 13
def useT (k : Int) : Bool := k == 0 || k == 1 || k == 2 || k == 3 || k == 6
def insB (ar fv sl n at_ : Int) (was : Option (Int × Int)) (k a : Int) (t : Tm) : Bool :=
 if k = 0 ∨ k = 1 then decide (0 ≤ a ∧ a < ar) && ((k == 0 || t.k == 0 || t.k == 2) && match was with | none => true | some w => (w.1 == 0 || w.1 == 1) && decide (w.2 < a))
 else if k = 2 ∨ k = 3 then atomB t
 else if k = 6 then isNum t
 else if k = 9 ∨ k = 10 then decide (at_ < a ∧ a < n)
 else if k = 11 ∨ k = 13 then decide (fv ≤ a ∧ a < sl)
 else decide (0 ≤ k ∧ k ≤ 15)
def fldB (ar fv sl n at_ : Int) (was : Option (Int × Int)) (k a : Int) (t : Tm) (l : List Tm) (c : Bool) : Bool :=
 (z7p t || z12 t) && (insB ar fv sl n at_ was k a t && ((useA k || a == 0) && ((k == 14 || c) && ((if k = 5 then l.length == 2 else l.isEmpty) && ((if useT k = true then plB sl t else z7p t) && l.all (plB sl))))))
abbrev Pl := Bool × Int × Int
def z2z (l : List Pl) (at_ : Int) (p : Int × Int) : Option (List Pl) :=
 if at_ < (l.length : Int) then (if (l.getD at_.toNat (false, 0, 0)).1 = false then some (l.set at_.toNat (true, p)) else if l.getD at_.toNat (false, 0, 0) = (true, p) then some l else none) else none
def aftP (k : Int) (p : Int × Int) : Int × Int := if k = 11 then (p.1 + 1, p.2) else if k = 12 then (p.1 - 1, p.2) else if k = 14 then (p.1, p.2 + 1) else if k = 15 then (p.1, p.2 - 1) else p
def zc1 (l : List Pl) (i k a : Int) : Option (List Pl) :=
 if (l.getD i.toNat (false, 0, 0)).1 = false then some l
 else if k = 3 ∨ k = 4 then (if (l.getD i.toNat (false, 0, 0)).2 = (0, 0) then some l else none)
 else if k = 8 then some l
 else if (aftP k (l.getD i.toNat (false, 0, 0)).2).1 < 0 ∨ (aftP k (l.getD i.toNat (false, 0, 0)).2).2 < 0 then none
 else if k = 9 ∨ k = 10 then
  match z2z l a (aftP k (l.getD i.toNat (false, 0, 0)).2) with
  | none => none
  | some l' => if k = 10 then some l' else z2z l' (i + 1) (aftP k (l.getD i.toNat (false, 0, 0)).2)
 else z2z l (i + 1) (aftP k (l.getD i.toNat (false, 0, 0)).2)
def z5h : List Pl → Int → List In1 → Bool
 | _, _, [] => true
 | l, i, x :: r => match zc1 l i x.k x.a with | none => false | some l' => z5h l' (i + 1) r
def zch (ins : List In1) : Bool := z5h ((List.replicate ins.length (false, 0, 0)).set 0 (true, 0, 0)) 0 ins
def zi6 (ins : List In1) : Bool := match ins.getLast? with | none => false | some x => x.k == 3 || x.k == 4 || x.k == 8
mutual
def vC : Cd → Bool
 | .mk nm ar fr vs sl ins => nmB nm && (cntB ar fr vs sl && (zi6 ins && (vIs ar (fr + vs) sl ins.length 0 none ins && zch ins)))
def vIs (ar fv sl n : Int) : Int → Option (Int × Int) → List In1 → Bool
 | _, _, [] => true
 | at_, was, .mk k a t l c :: r => fldB ar fv sl n at_ was k a t l c.isEmpty && (vCs sl c && vIs ar fv sl n (at_ + 1) (some (k, a)) r)
def vCs (sl : Int) : List Cd → Bool
 | [] => true
 | c :: r => decide (c.fr ≤ sl) && (vC c && vCs sl r)
end
theorem z6t (sl : Int) : ∀ l : List Cd, vCs sl l = l.all fun c => decide (c.fr ≤ sl) && vC c
 | [] => rfl
 | c :: l => by rw [vCs, z6t sl l]; simp [Bool.and_assoc]
theorem unF_mono {n m : Int} (h : n ≤ m) : ∀ t : Tm, unF n t = true → unF m t = true := by
 refine Tm.ind fun t ih => ?_
 intro hu
 rw [unF_eq] at hu ⊢
 simp only [Bool.and_eq_true, Bool.not_eq_true', Bool.or_eq_false_iff, List.all_eq_true] at hu ⊢
 refine ⟨⟨hu.1.1, ?_⟩, fun u hm => ih u hm (hu.2 u hm)⟩
 have := hu.1.2
 simp only [Bool.and_eq_false_iff, decide_eq_false_iff_not] at this ⊢
 rcases this with h' | h'
 · exact .inl h'
 · exact .inr (by omega)
theorem zef {n m : Int} (h : n ≤ m) {t : Tm} (hp : plB n t = true) : plB m t = true := by
 unfold plB at hp ⊢
 simp only [Bool.and_eq_true] at hp ⊢
 exact ⟨hp.1, hp.2.1, unF_mono h t hp.2.2⟩
theorem zgr {ar fv n m N at_ : Int} (h : n ≤ m) {was : Option (Int × Int)} {k a : Int} {t : Tm} (hi : insB ar fv n N at_ was k a t = true) : insB ar fv m N at_ was k a t = true := by
 unfold insB at hi ⊢
 split
 · rename_i q; rw [if_pos q] at hi; exact hi
 rename_i q; rw [if_neg q] at hi
 split
 · rename_i q; rw [if_pos q] at hi; exact hi
 rename_i q; rw [if_neg q] at hi
 split
 · rename_i q; rw [if_pos q] at hi; exact hi
 rename_i q; rw [if_neg q] at hi
 split
 · rename_i q; rw [if_pos q] at hi; exact hi
 rename_i q; rw [if_neg q] at hi
 split
 · rename_i q; rw [if_pos q] at hi
   have := of_decide_eq_true hi
   exact decide_eq_true ⟨this.1, by omega⟩
 · rename_i q; rw [if_neg q] at hi; exact hi
theorem zik {ar fv n m N at_ : Int} (h : n ≤ m) {was : Option (Int × Int)} {k a : Int} {t : Tm} {l : List Tm} {c : Bool} (hf : fldB ar fv n N at_ was k a t l c = true) : fldB ar fv m N at_ was k a t l c = true := by
 unfold fldB at hf ⊢
 simp only [Bool.and_eq_true, List.all_eq_true] at hf ⊢
 refine ⟨hf.1, zgr h hf.2.1, hf.2.2.1, hf.2.2.2.1, hf.2.2.2.2.1, ?_, fun u hu => zef h (hf.2.2.2.2.2.2 u hu)⟩
 have := hf.2.2.2.2.2.1
 split
 · rename_i q; rw [if_pos q] at this; exact zef h this
 · rename_i q; rw [if_neg q] at this; exact this
theorem vCs_mono {n m : Int} (h : n ≤ m) {l : List Cd} (hv : vCs n l = true) : vCs m l = true := by
 rw [z6t, List.all_eq_true] at hv ⊢
 intro c hc
 have := hv c hc
 simp only [Bool.and_eq_true, decide_eq_true_eq] at this ⊢
 exact ⟨by omega, this.2⟩
theorem ze5 {ar fv n m N : Int} (h : n ≤ m) : ∀ (l : List In1) (at_ : Int) (was : Option (Int × Int)), vIs ar fv n N at_ was l = true → vIs ar fv m N at_ was l = true
 | [], _, _, _ => by rw [vIs]
 | .mk k a t l c :: r, at_, was, hv => by
  rw [vIs] at hv ⊢
  simp only [Bool.and_eq_true] at hv ⊢
  exact ⟨zik h hv.1, vCs_mono h hv.2.1, ze5 h r _ _ hv.2.2⟩
theorem vC_more {nm : List UInt8} {ar fr vs sl m : Int} {ins : List In1} (h : vC (.mk nm ar fr vs sl ins) = true) (h0 : sl ≤ m) (h1 : m ≤ 4096) : vC (.mk nm ar fr vs m ins) = true := by
 rw [vC] at h ⊢
 simp only [Bool.and_eq_true] at h ⊢
 refine ⟨h.1, ?_, h.2.2.1, ze5 h0 ins _ _ h.2.2.2.1, h.2.2.2.2⟩
 have := of_decide_eq_true h.2.1
 exact decide_eq_true (by omega)
theorem vIs_in {ar fv sl N : Int} : ∀ (l : List In1) (at_ : Int) (was : Option (Int × Int)), vIs ar fv sl N at_ was l = true → ∀ x ∈ l, ∀ d ∈ x.c, d.fr ≤ sl ∧ vC d = true
 | [], _, _, _, x, hx, _, _ => by cases hx
 | .mk k a t l c :: r, at_, was, hv, x, hx, d, hd => by
  rw [vIs] at hv
  simp only [Bool.and_eq_true] at hv
  rcases List.mem_cons.1 hx with rfl | hx
  · have := hv.2.1
    rw [z6t, List.all_eq_true] at this
    have := this d hd
    simp only [Bool.and_eq_true, decide_eq_true_eq] at this
    exact this
  · exact vIs_in r _ _ hv.2.2 x hx d hd
theorem vC_in {c : Cd} (h : vC c = true) : ∀ x ∈ c.ins, ∀ d ∈ x.c, vC d = true := by
 obtain ⟨nm, ar, fr, vs, sl, ins⟩ := c
 rw [vC] at h
 simp only [Bool.and_eq_true] at h
 exact fun x hx d hd => (vIs_in ins _ _ h.2.2.2.1 x hx d hd).2
theorem zhv {c : Cd} (h : vC c = true) : vC (.mk [113] 0 0 0 (z0d [c.fr, 0]) [.mk 14 0 noT [] [c, c], .mk 15 0 noT [] [], .mk 4 0 noT [] []]) = true := by
 have hc : 0 ≤ c.fr ∧ c.fr ≤ 4096 := by
  obtain ⟨nm, ar, fr, vs, sl, ins⟩ := c
  rw [vC] at h
  simp only [Bool.and_eq_true] at h
  have := of_decide_eq_true h.2.1
  exact ⟨this.2.2.1, this.2.2.2.1⟩
 have e : z0d [c.fr, 0] = c.fr := by simp only [z0d, List.foldl]; omega
 have e2 : vCs c.fr [c, c] = true := by rw [z6t]; simp [h]
 rw [e, vC, vIs, vIs, vIs, vIs, e2, vCs]
 have e3 : cntB 0 0 0 c.fr = true := decide_eq_true (by omega)
 have n1 : nmB [113] = true := by rfl
 have f1 : ∀ (N a : Int) (w : Option (Int × Int)) (b : Bool), fldB 0 (0 + 0) c.fr N a w 14 0 noT [] b = true := fun _ _ _ _ => rfl
 have f2 : ∀ (N a : Int) (w : Option (Int × Int)), fldB 0 (0 + 0) c.fr N a w 15 0 noT [] true = true := fun _ _ _ => rfl
 have f3 : ∀ (N a : Int) (w : Option (Int × Int)), fldB 0 (0 + 0) c.fr N a w 4 0 noT [] true = true := fun _ _ _ => rfl
 have w1 : zch [.mk 14 0 noT [] [c, c], .mk 15 0 noT [] [], .mk 4 0 noT [] []] = true := rfl
 rw [e3, n1, w1, f1, List.isEmpty_nil, f2, f3]
 rfl
theorem vC_left {c : Cd} : vC (.mk [113] 0 0 0 (z0d [c.fr, 0]) [.mk 14 0 noT [] [c, c], .mk 4 0 noT [] []]) = false := by
 rw [vC]
 have : zch [.mk 14 0 noT [] [c, c], .mk 4 0 noT [] []] = false := rfl
 rw [this]
 simp
end Go.AM

set_option maxRecDepth 100000
open Go Go.Proofs
namespace Go.AM
mutual
def nIns : Cd → Int
 | .mk _ _ _ _ _ ins => (ins.length : Int) + nIs ins
def nIs : List In1 → Int
 | [] => 0
 | .mk _ _ _ _ c :: r => nCs c + nIs r
def nCs : List Cd → Int
 | [] => 0
 | c :: r => nIns c + nCs r
end
mutual
def mSl : Cd → Int → Int
 | .mk _ _ _ _ sl ins, n => mSlI ins (max n sl)
def mSlI : List In1 → Int → Int
 | [], n => n
 | .mk _ _ _ _ c :: r, n => mSlI r (mSlC c n)
def mSlC : List Cd → Int → Int
 | [], n => n
 | c :: r, n => mSlC r (mSl c n)
end
theorem zda {nm : List UInt8} {a b d e : Int} {t : Tm} {c : Cd} {k1 k2 k3 a1 a2 a3 : Int} {l : List Tm} : nIns (.mk nm a b d e [.mk k1 a1 t l [c, c], .mk k2 a2 t l [], .mk k3 a3 t l []]) = 3 + 2 * nIns c := by
 simp only [nIns, nIs, nCs, List.length_cons, List.length_nil]
 omega
end Go.AM

set_option maxRecDepth 100000
open Go Go.Proofs
namespace Go.AM
def wordL : List (List UInt8) := [[117, 110, 105, 102, 121], [99, 111, 110, 115, 116], [99, 97, 108, 108], [108, 97, 115, 116], [112, 114, 111, 99, 101, 101, 100], [101, 113], [98, 117, 105, 108, 116, 105, 110], [99, 117, 116], [102, 97, 105, 108], [111, 114], [106, 117, 109, 112], [112, 105], [112, 111, 112], [115, 105, 103, 109, 97], [105, 109, 112, 111, 114, 116], [102, 111, 114, 103, 101, 116]]
def z41 (k : Int) : List UInt8 := if 0 ≤ k ∧ k < 16 then wordL.getD k.toNat [] else [63]
def dgF (n : Int) : List UInt8 := Lib.decDigits (max n 0).toNat
mutual
def txF : Cd → List UInt8
 | .mk nm ar fr vs sl ins => (nm ++ [47] ++ dgF ar ++ [32] ++ dgF fr ++ [32] ++ dgF vs ++ [32] ++ dgF sl ++ [10]) ++ txIs 0 ins
def txIs : Int → List In1 → List UInt8
 | _, [] => []
 | i, .mk k a _ _ c :: r => ([32] ++ dgF i ++ [32] ++ z41 k ++ (if useA k = true then [32] ++ dgF a else []) ++ [10]) ++ ((if k = 14 then txCs c else []) ++ txIs (i + 1) r)
def txCs : List Cd → List UInt8
 | [] => []
 | c :: r => txF c ++ txCs r
end
abbrev i64 (x : Int) : Prop := -9223372036854775808 ≤ x ∧ x ≤ 9223372036854775807
theorem dg_len : ∀ (k n : Nat), n < 10 ^ (k + 1) → (Lib.decDigits n).length ≤ k + 1
 | 0, n, h => by rw [Lib.decDigits, dif_pos (by simpa using h)]; simp
 | k + 1, n, h => by
  rw [Lib.decDigits]
  split
  · simp
  · rw [List.length_append]
    have := dg_len k (n / 10) (by rw [Nat.pow_succ] at h; omega)
    simp only [List.length_singleton]; omega
theorem z57 {n : Int} (h : n ≤ 9223372036854775807) : (dgF n).length ≤ 19 := dg_len 18 _ (by
 have : (max n 0).toNat ≤ 9223372036854775807 := by omega
 exact Nat.lt_of_le_of_lt this (by decide))
theorem word_len (k : Int) : (z41 k).length ≤ 8 := by
 unfold z41
 split
 · rename_i h
   obtain ⟨m, rfl⟩ : ∃ m : Nat, k = m := ⟨k.toNat, by omega⟩
   rw [Int.toNat_natCast]
   have : m < 16 := by omega
   rcases m with _ | _ | _ | _ | _ | _ | _ | _ | _ | _ | _ | _ | _ | _ | _ | _ | m <;> first | decide | omega
 · decide
end Go.AM

set_option maxRecDepth 100000
open Go Go.Proofs
namespace Go.AM
theorem z88 (s : List UInt8) : AC Tryd.prog 19 [cs s] [] (cb (logB s)) [] := by
 refine AC.vc hP sh lv19 (Nat.le_refl _) (by simp) (by simp) (Eq.mpr (v19 ..) ?_)
 repeat' (refine z00 (fun _ => ?_) (fun _ => ?_))
 all_goals exact z01 (by simp_all [logB, logs])
def ixI (p : Int → Bool) : List Int → Nat → Int
 | [], _ => -1
 | t :: l, i => if p t = true then (i : Int) else ixI p l (i + 1)
theorem zhg (p : Int → Bool) : ∀ (l : List Int) (i : Nat), decide (ixI p l i ≥ 0) = l.any p
 | [], _ => rfl
 | t :: l, i => by
  rw [ixI, List.any_cons]
  split
  · rename_i h; rw [h]; simp
  · rename_i h; rw [zhg p l, show p t = false by simpa using h, Bool.false_or]
def cntN (n : Int) : Bool := decide (n < 0) || decide (n > 4096)
theorem zhc (n : Int) : AC Tryd.prog 44 [ci n] [] (cb (cntN n)) [] := by
 refine AC.vc hP sh lv44 (Nat.le_refl _) (by simp) (by simp) (Eq.mpr (v44 ..) ?_)
 exact z00 (fun h => z01 (by rw [cntN, h]; rfl)) (fun h => z01 (by rw [cntN, h]; rfl))
theorem zgn (b : List Int) : ∀ a : List Int, (a ++ b).length ≤ B → RPt Tryd.prog 66 0 (ci (ixI cntN b a.length)) [] 1 ⟨[(0, .c (.a (.fz (.sl false 1 (IR (a ++ b)))))), (1, .c (.fn (.func 44) [] [])), (7, ci (a ++ b).length), (8, ci a.length)], [], 0⟩ := by
 induction b with
 | nil =>
  intro a hs
  refine RPt.vc hP sh lv66 (Eq.mpr (z8o ..) ?_)
  exact z00 (fun h => absurd (of_decide_eq_true h) (by simp)) (fun _ => z2l rfl)
 | cons t b ihb =>
  intro a hs
  have h2 := ihb (a ++ [t]) (by simpa using hs)
  rw [ap, nx, show (a ++ [t]).length = a.length + 1 by simp] at h2
  rw [ixI]
  simp only [List.length_append, List.length_cons, B] at hs
  have h4 : (a.length : Int) < ((a ++ t :: b).length : Int) := by simp only [List.length_append, List.length_cons]; omega
  have em : List.getD (IR (a ++ t :: b)) (Int.toNat (a.length : Int)) [] = [.int .i64 t] := by simp [IR]
  refine RPt.vc hP sh lv66 (Eq.mpr (z8o ..) ?_)
  rw [w64 (by omega) (by omega), em]
  refine z00 (fun _ => ⟨⟨rfl, by omega, by simp only [IR, List.length_map]; exact h4, rfl⟩, _, zhc t, z00 (fun h => ?_) (fun h => ?_)⟩) (fun h => absurd h4 (of_decide_eq_false h))
  · rw [if_pos h]; exact z2l rfl
  · rw [if_neg (by rw [h]; simp)]; exact h2
theorem c_ccount (l : List Int) (hl : l.length ≤ B) : AC Tryd.prog 20 [.c (.a (.fz (.sl false 1 (IR l))))] [] (cb (!l.any cntN)) [] := by
 have h := zgn l [] hl
 have h1 : AC Tryd.prog 66 [.c (.a (.fz (.sl false 1 (IR l)))), .c (.fn (.func 44) [] [])] [] (ci (ixI cntN l 0)) [] := by
  refine AC.vc hP sh lv66 (Nat.le_refl _) (by simp) (by simp) (Eq.mpr (v66_F44 ..) ?_)
  rw [show (IR l).length = l.length by simp [IR]]
  exact ⟨rfl, h⟩
 have h2 : AC Tryd.prog 43 [.c (.a (.fz (.sl false 1 (IR l)))), .c (.fn (.func 44) [] [])] [] (cb (l.any cntN)) [] := by
  refine AC.vc hP sh lv43 (Nat.le_refl _) (by simp) (by simp) (Eq.mpr (v43_F44 ..) ?_)
  exact ⟨_, h1, z01 (zhg cntN l 0)⟩
 refine AC.vc hP sh lv20 (Nat.le_refl _) (by simp) (by simp) (Eq.mpr (v20 ..) ?_)
 exact ⟨_, h2, z01 rfl⟩
def ixF (p : Tm → Bool) : List Tm → Nat → Int
 | [], _ => -1
 | t :: l, i => if p t = true then (i : Int) else ixF p l (i + 1)
theorem zd7 (p : Tm → Bool) : ∀ (l : List Tm) (i : Nat), decide (ixF p l i ≥ 0) = l.any p
 | [], _ => rfl
 | t :: l, i => by
  rw [ixF, List.any_cons]
  split
  · rename_i h; rw [h]; simp
  · rename_i h; rw [zd7 p l, show p t = false by simpa using h, Bool.false_or]
abbrev obN (n : Int) : AObj := .arr 1 [[.a (.fz (.int .i64 n))]]
abbrev obC (c : Cd) : AObj := .arr 6 [cCd c]
theorem zco (p : Tm → Bool) (n : Int) (b : List Tm) : ∀ a : List Tm, (a ++ b).length ≤ B → (∀ u ∈ b, AC Tryd.prog 70 [aT u, .c (.a (.ep 0 1 0 0))] [obN n] (cb (p u)) [obN n]) → RPt Tryd.prog 71 1 (ci (ixF p b a.length)) [obN n] 1 ⟨[(0, aL (a ++ b)), (1, .c (.fn (.func 70) [] [(false, [.ep 0 1 0 0])])), (7, ci (a ++ b).length), (8, ci a.length)], [(0, obN n)], 1⟩ := by
 induction b with
 | nil =>
  intro a hs _
  refine RPt.vc hP sh lv71 (Eq.mpr (z8t ..) ?_)
  exact z00 (fun h => absurd (of_decide_eq_true h) (by simp)) (fun _ => ⟨.refl _, rfl⟩)
 | cons t b ihb =>
  intro a hs ih
  have h3 := ltI' a t b
  have h1 := ih t List.mem_cons_self
  have h2 := ihb (a ++ [t]) (by simpa using hs) (fun u hu => ih u (List.mem_cons_of_mem _ hu))
  rw [ap, nx, show (a ++ [t]).length = a.length + 1 by simp] at h2
  rw [ixF]
  simp only [List.length_append, List.length_cons, B] at hs
  have h4 : (a.length : Int) < ((a ++ t :: b).length : Int) := by simp only [List.length_append, List.length_cons]; omega
  refine RPt.vc hP sh lv71 (Eq.mpr (z8t ..) ?_)
  rw [w64 (by omega) (by omega)]
  refine z00 (fun _ => ⟨⟨rfl, by omega, h3, zh8 ..⟩, p t, by rw [zh1]; exact h1, z00 (fun h => ?_) (fun h => ?_)⟩) (fun h => absurd h4 (of_decide_eq_false h))
  · rw [if_pos h]; exact ⟨.refl _, rfl⟩
  · rw [if_neg (by rw [h]; simp)]; exact h2
theorem zau (p : Tm → Bool) (n : Int) (l : List Tm) (hl : l.length ≤ B) (h : ∀ u ∈ l, AC Tryd.prog 70 [aT u, .c (.a (.ep 0 1 0 0))] [obN n] (cb (p u)) [obN n]) : AC Tryd.prog 50 [aL l, .c (.fn (.func 70) [] [(false, [.ep 0 1 0 0])])] [obN n] (cb (l.any p)) [obN n] := by
 have h0 := zco p n l [] hl h
 have h1 : AC Tryd.prog 71 [aL l, .c (.fn (.func 70) [] [(false, [.ep 0 1 0 0])])] [obN n] (ci (ixF p l 0)) [obN n] := by
  refine AC.vc hP sh lv71 (Nat.le_refl _) (by simp [isLive]) (by simp) (Eq.mpr (v71_F70 ..) ?_)
  rw [z0a]
  exact ⟨rfl, h0⟩
 refine AC.vc hP sh lv50 (Nat.le_refl _) (by simp [isLive]) (by simp) (Eq.mpr (v50_F70 ..) ?_)
 exact ⟨_, h1, by rw [zd7 p l 0]; exact ⟨.refl _, rfl⟩⟩
theorem l_ixcodd (p : Tm → Bool) (c : Cd) (b : List Tm) : ∀ a : List Tm, (a ++ b).length ≤ B → (∀ u ∈ b, AC Tryd.prog 45 [aT u, .c (.a (.ep 0 6 0 0))] [obC c] (cb (p u)) [obC c]) → RPt Tryd.prog 71 1 (ci (ixF p b a.length)) [obC c] 1 ⟨[(0, aL (a ++ b)), (1, .c (.fn (.func 45) [] [(false, [.ep 0 6 0 0])])), (7, ci (a ++ b).length), (8, ci a.length)], [(0, obC c)], 1⟩ := by
 induction b with
 | nil =>
  intro a hs _
  refine RPt.vc hP sh lv71 (Eq.mpr (z8u ..) ?_)
  exact z00 (fun h => absurd (of_decide_eq_true h) (by simp)) (fun _ => ⟨.refl _, rfl⟩)
 | cons t b ihb =>
  intro a hs ih
  have h3 := ltI' a t b
  have h1 := ih t List.mem_cons_self
  have h2 := ihb (a ++ [t]) (by simpa using hs) (fun u hu => ih u (List.mem_cons_of_mem _ hu))
  rw [ap, nx, show (a ++ [t]).length = a.length + 1 by simp] at h2
  rw [ixF]
  simp only [List.length_append, List.length_cons, B] at hs
  have h4 : (a.length : Int) < ((a ++ t :: b).length : Int) := by simp only [List.length_append, List.length_cons]; omega
  refine RPt.vc hP sh lv71 (Eq.mpr (z8u ..) ?_)
  rw [w64 (by omega) (by omega)]
  refine z00 (fun _ => ⟨⟨rfl, by omega, h3, zh8 ..⟩, p t, by rw [zh1]; exact h1, z00 (fun h => ?_) (fun h => ?_)⟩) (fun h => absurd h4 (of_decide_eq_false h))
  · rw [if_pos h]; exact ⟨.refl _, rfl⟩
  · rw [if_neg (by rw [h]; simp)]; exact h2
theorem zgk (p : Tm → Bool) (c : Cd) (l : List Tm) (hl : l.length ≤ B) (h : ∀ u ∈ l, AC Tryd.prog 45 [aT u, .c (.a (.ep 0 6 0 0))] [obC c] (cb (p u)) [obC c]) : AC Tryd.prog 50 [aL l, .c (.fn (.func 45) [] [(false, [.ep 0 6 0 0])])] [obC c] (cb (l.any p)) [obC c] := by
 have h0 := l_ixcodd p c l [] hl h
 have h1 : AC Tryd.prog 71 [aL l, .c (.fn (.func 45) [] [(false, [.ep 0 6 0 0])])] [obC c] (ci (ixF p l 0)) [obC c] := by
  refine AC.vc hP sh lv71 (Nat.le_refl _) (by simp [isLive]) (by simp) (Eq.mpr (v71_F45 ..) ?_)
  rw [z0a]
  exact ⟨rfl, h0⟩
 refine AC.vc hP sh lv50 (Nat.le_refl _) (by simp [isLive]) (by simp) (Eq.mpr (v50_F45 ..) ?_)
 exact ⟨_, h1, by rw [zd7 p l 0]; exact ⟨.refl _, rfl⟩⟩
theorem zgy (f : Tm → Bool) (l : List Tm) : (!l.any fun t => !f t) = l.all f := by induction l with | nil => rfl | cons t l ih => rw [List.any_cons, List.all_cons, ← ih]; cases f t <;> simp
theorem c_cunder (n : Int) : ∀ t : Tm, t.sz ≤ B → AC Tryd.prog 48 [aT t, ci n] [] (cb (unF n t)) [] := by
 refine Tm.ind fun t ih hs => ?_
 have hl := Tm.szs_length t.l
 have he := t.sz_eq
 have hk : ∀ u ∈ t.l, AC Tryd.prog 70 [aT u, .c (.a (.ep 0 1 0 0))] [obN n] (cb (!unF n u)) [obN n] := fun u hu => by
  have h1 := ih u hu (by have := Tm.szs_mem hu; omega)
  refine AC.vc hP sh lv70 (Nat.le_refl _) (by simp [isLive]) (by simp) (Eq.mpr (v70 ..) ?_)
  exact ⟨_, h1, .refl _, rfl⟩
 have h2 := zau (fun u => !unF n u) n t.l (by omega) hk
 refine AC.vc hP sh lv48 (Nat.le_refl _) (by simp) (by simp) (Eq.mpr (v48 ..) ?_)
 have e := zgy (unF n) t.l
 rw [unF_eq, ← e]
 refine z00 (fun h => z01 (by rw [h]; rfl)) (fun h => z00 (fun h' => z00 (fun q => z01 (by rw [h, h', q]; rfl)) (fun q => ⟨_, h2, z01 (by rw [h, h', q]; rfl)⟩)) (fun h' => ⟨_, h2, z01 (by rw [h, h']; rfl)⟩))
theorem zh6 (t : Tm) : za3 t (.mk 0 [] 0 []) = z7p t := by
 obtain ⟨k, s, n, l⟩ := t
 cases l with
 | nil => simp [za3, z7y, z7p, Tm.k, Tm.s, Tm.n, Tm.l]
 | cons x l => simp [za3, z7y, z7p, Tm.k, Tm.s, Tm.n, Tm.l]
theorem c_cempty (t : Tm) (hs : t.sz ≤ B) : AC Tryd.prog 49 [aT t] [] (cb (z7p t)) [] := by
 have h := (c_same t hs (.mk 0 [] 0 [])).args (args := [aT t, .agg [.a (.fz (.int .i64 0)), .a (.fz (.str [])), .a (.fz (.int .i64 0)), .a (.fz .nils)]]) ⟨.refl _, .agg _ _ rfl (fun i x y hx hy => by
  match i with
  | 0 => simp at hx hy; subst hx; subst hy; exact .refl _
  | 1 => simp at hx hy; subst hx; subst hy; exact .refl _
  | 2 => simp at hx hy; subst hx; subst hy; exact .refl _
  | 3 => simp at hx hy; subst hx; subst hy; exact .a _ _ (.fz _ _ leNil)
  | i + 4 => simp at hx), trivial⟩
 refine AC.vc hP sh lv49 (Nat.le_refl _) (by simp) (by simp) (Eq.mpr (v49 ..) ?_)
 exact ⟨_, h, z01 (zh6 t)⟩
theorem c_codd (c : Cd) (t : Tm) (hs : t.sz ≤ B) (hb : bd 2305843009213693952 t) : AC Tryd.prog 45 [aT t, .c (.a (.ep 0 6 0 0))] [obC c] (cb (!plB c.sl t)) [obC c] := by
 have h1 := zio t hs
 have h2 := c_loose t hs hb
 have h3 := c_cunder c.sl t hs
 refine AC.vc hP sh lv45 (Nat.le_refl _) (by simp [isLive]) (by simp) (Eq.mpr (v45 ..) ?_)
 refine ⟨_, h1, z00 (fun h => ⟨?_, rfl⟩) (fun h => ⟨_, h2, z00 (fun q => ⟨?_, rfl⟩) (fun q => ⟨_, h3, ?_, rfl⟩)⟩)⟩
 · rw [plB, show z12 t = false by simpa using h]; exact .refl _
 · have : decide (z3n t 0 0 ≤ 0) = false := by have := of_decide_eq_true q; exact decide_eq_false (by omega)
   rw [plB, this, Bool.false_and, Bool.and_false]; exact .refl _
 · have : decide (z3n t 0 0 ≤ 0) = true := by have := of_decide_eq_false q; exact decide_eq_true (by omega)
   rw [plB, this, show z12 t = true by simpa using h]; exact .refl _
theorem c_anyOdd (c : Cd) (l : List Tm) (hl : l.length ≤ B) (hs : ∀ t ∈ l, t.sz ≤ B ∧ bd 2305843009213693952 t) : AC Tryd.prog 50 [aL l, .c (.fn (.func 45) [] [(false, [.ep 0 6 0 0])])] [obC c] (cb (!l.all (plB c.sl))) [obC c] := by
 have h := zgk (fun t => !plB c.sl t) c l hl (fun u hu => c_codd c u (hs u hu).1 (hs u hu).2)
 rw [← zgy, Bool.not_not]
 exact h
theorem c_chead (k : Int) : AC Tryd.prog 72 [ci k] [] (cb (k == 0 || k == 1)) [] := by
 refine AC.vc hP sh lv72 (Nat.le_refl _) (by simp) (by simp) (Eq.mpr (v72 ..) ?_)
 exact z00 (fun h => z01 (by rw [h]; rfl)) (fun h => z01 (by rw [h]; rfl))
theorem c_cpred (t : Tm) (hs : t.sz ≤ B) : AC Tryd.prog 73 [aT t] [] (cb (atomB t)) [] := by
 have h1 := zdz t hs
 have h2 := z88 (z20 t).1.s
 refine AC.vc hP sh lv73 (Nat.le_refl _) (by simp) (by simp) (Eq.mpr (v73 ..) ?_)
 exact ⟨_, h1, z00 (fun h => ⟨_, h2, z01 (by rw [atomB, h]; rfl)⟩) (fun h => z01 (by rw [atomB, h]; rfl))⟩
theorem zh0 (t : Tm) (hs : t.sz ≤ B) : AC Tryd.prog 74 [aT t] [] (cb (isNum t)) [] := by
 have h1 := zdz t hs
 refine AC.vc hP sh lv74 (Nat.le_refl _) (by simp) (by simp) (Eq.mpr (v74 ..) ?_)
 refine ⟨_, h1, ?_⟩
 rw [z0a]
 have e2 : ((((z20 t).2.length : Nat) : Int) == 2) = ((z20 t).2.length == 2) := by rw [Bool.eq_iff_iff, beq_iff_eq, beq_iff_eq]; omega
 rw [e2]
 unfold isNum numB nums
 generalize (z20 t).1.s = s
 generalize (z20 t).1.k = k
 generalize ((z20 t).2.length == 2) = b
 repeat' (first | refine z00 (fun _ => ?_) (fun _ => ?_) | refine And.intro (show FV.isSl 4 _ = true by rfl) ?_)
 all_goals exact z01 (by simp_all)
def aftR (k : Int) (p : Int × Int) : (Int × Int) × Bool × Bool :=
 if k = 3 ∨ k = 4 then (p, false, p.1 == 0 && p.2 == 0) else if k = 8 then (p, false, true) else (aftP k p, true, decide ((aftP k p).1 ≥ 0) && decide ((aftP k p).2 ≥ 0))
theorem z4y {a b : TV} (h : a = b) : TV.Le a b := by rw [h]; exact .refl _
theorem c_cafter (m : Bool) (p : Int × Int) (k : Int) (h1 : 0 - M61 ≤ p.1 ∧ p.1 ≤ M61) (h2 : 0 - M61 ≤ p.2 ∧ p.2 ≤ M61) : AC Tryd.prog 53 [.agg [.a (.fz (.bool m)), .a (.fz (.int .i64 p.1)), .a (.fz (.int .i64 p.2))], ci k] []
  (.tup [(true, [.a (.fz (.bool m)), .a (.fz (.int .i64 (aftR k p).1.1)), .a (.fz (.int .i64 (aftR k p).1.2))]), (false, [.a (.fz (.bool (aftR k p).2.1))]), (false, [.a (.fz (.bool (aftR k p).2.2))])]) [] := by
 obtain ⟨x, y⟩ := p
 simp only [M61] at h1 h2
 refine AC.vc hP sh lv53 (Nat.le_refl _) (by simp) (by simp) (Eq.mpr (v53 ..) ?_)
 rw [w64 (x := x + 1) (by omega) (by omega), w64 (x := x - 1) (by omega) (by omega), w64 (x := y + 1) (by omega) (by omega), w64 (x := y - 1) (by omega) (by omega)]
 unfold aftR aftP
 repeat' (refine z00 (fun _ => ?_) (fun _ => ?_))
 all_goals refine ret_r (z4y ?_)
 all_goals simp_all
 all_goals omega
end Go.AM

set_option maxRecDepth 100000
open Go Go.Proofs
namespace Go.AM
def pR (p : Pl) : List FV := [.bool p.1, .int .i64 p.2.1, .int .i64 p.2.2]
def PR (l : List Pl) : List (List FV) := l.map pR
theorem z2b (l : List Pl) : (PR l).length = l.length := by simp [PR]
theorem zia {l : List Pl} {i : Nat} (h : i < l.length) : List.getD (PR l) i [] = pR (l.getD i (false, 0, 0)) := by
 simp [PR, List.getD, List.getElem?_eq_getElem h]
theorem pr_set (l : List Pl) (i : Nat) (p : Pl) : List.set (PR l) i (pR p) = PR (l.set i p) := by
 simp [PR, List.map_set]
abbrev obL (n : Nat) : AObj := .arr 1 [[.a (.osl 1 3 0 n)]]
theorem zgx (l : List Pl) (i : Nat) (p : Int × Int) : AC Tryd.prog 52 [ci i, .agg [.a (.fz (.bool true)), .a (.fz (.int .i64 p.1)), .a (.fz (.int .i64 p.2))], .c (.a (.ep 0 1 0 0))] [obL l.length, .arz 3 (PR l)]
  (cb (z2z l i p).isSome) [obL l.length, .arz 3 (PR ((z2z l i p).getD l))] := by
 refine AC.vc hP sh lv52 (Nat.le_refl _) (by simp [isLive]) (by simp) (Eq.mpr (v52 ..) ?_)
 rw [Int.toNat_natCast, Nat.zero_add]
 refine z00 (fun h => ?_) (fun h => ?_)
 · have h := of_decide_eq_true h
   rw [z2z, if_neg (by omega)]
   exact ⟨.refl _, rfl⟩
 · have h := of_decide_eq_false h
   have hi : i < l.length := by omega
   have hn : (0 : Int) ≤ (i : Int) ∧ (i : Int) < ((l.length : Nat) : Int) := ⟨by omega, by omega⟩
   have e := zia hi
   rw [z2z, if_pos (by omega), Int.toNat_natCast]
   have e2 : List.set (PR l) i [.bool true, .int .i64 p.1, .int .i64 p.2] = PR (l.set i (true, p)) := pr_set l i (true, p)
   have hi2 : i < (l.set i (true, p)).length := by simpa using hi
   have e3 := zia hi2
   rw [e2, e, e3]
   have e4 : (l.set i (true, p)).getD i (false, 0, 0) = (true, p) := by simp [List.getD, hi]
   rw [e4]
   generalize l.getD i (false, 0, 0) = q
   obtain ⟨m, x, y⟩ := q
   refine ⟨hn, ⟨by rw [z2b]; exact hi, rfl, rfl⟩, z00 (fun h1 => ?_) (fun h1 => ?_)⟩
   · have h1 : m = false := by simpa [pR, FV.asB] using h1
     subst h1
     refine ⟨hn, ⟨by rw [z2b]; exact hi, rfl⟩, hn, ⟨by rw [z2b]; exact hi2, rfl, rfl⟩, z4y ?_, rfl⟩
     simp [pR, FV.asB, FV.asI]
   · have h1 : m = true := by simpa [pR, FV.asB] using h1
     subst h1
     refine ⟨hn, ⟨by rw [z2b]; exact hi, rfl, rfl⟩, ?_⟩
     by_cases hq : ((true, x, y) : Pl) = (true, p)
     · rw [if_neg (by simp), if_pos hq]
       obtain ⟨_, rfl⟩ := Prod.mk.inj hq
       exact ⟨z4y (by simp [pR, FV.asB, FV.asI]), rfl⟩
     · rw [if_neg (by simp), if_neg hq]
       refine ⟨z4y ?_, rfl⟩
       obtain ⟨p1, p2⟩ := p
       simp [pR, FV.asB, FV.asI] at hq ⊢
       exact hq
theorem ziw {l l' : List Pl} {i : Int} {p : Int × Int} (h : z2z l i p = some l') : l'.length = l.length ∧ ∀ q ∈ l', q ∈ l ∨ q = (true, p) := by
 unfold z2z at h
 split at h
 · split at h
   · injection h with h
     subst h
     exact ⟨by simp, fun q hq => by rcases List.mem_or_eq_of_mem_set hq with h | h; exact .inl h; exact .inr h⟩
   · split at h
     · injection h with h
       subst h
       exact ⟨rfl, fun q hq => .inl hq⟩
     · cases h
 · cases h
theorem stepW_no {l : List Pl} {i k a : Int} (h : (l.getD i.toNat (false, 0, 0)).1 = false) : zc1 l i k a = some l := by rw [zc1, if_pos h]
theorem zis {l : List Pl} {i k a : Int} (h : (l.getD i.toNat (false, 0, 0)).1 = true) : zc1 l i k a =
  if (aftR k (l.getD i.toNat (false, 0, 0)).2).2.2 = false then none else if (aftR k (l.getD i.toNat (false, 0, 0)).2).2.1 = false then some l
  else if k = 9 ∨ k = 10 then (match z2z l a (aftR k (l.getD i.toNat (false, 0, 0)).2).1 with
   | none => none
   | some l' => if k = 10 then some l' else z2z l' (i + 1) (aftR k (l.getD i.toNat (false, 0, 0)).2).1)
  else z2z l (i + 1) (aftR k (l.getD i.toNat (false, 0, 0)).2).1 := by
 rw [zc1, if_neg (by rw [h]; simp)]
 generalize (l.getD i.toNat (false, 0, 0)).2 = p
 obtain ⟨x, y⟩ := p
 unfold aftR
 by_cases h1 : k = 3 ∨ k = 4
 · rw [if_pos h1, if_pos h1]
   by_cases h2 : ((x, y) : Int × Int) = (0, 0)
   · rw [if_pos h2]; injection h2 with a b; subst a; subst b; rfl
   · rw [if_neg h2]
     have : (x == 0 && y == 0) = false := by
      rw [Bool.and_eq_false_iff]
      by_cases hx : x = 0
      · right; subst hx; simpa using h2
      · left; simpa using hx
     rw [if_pos this]
 rw [if_neg h1, if_neg h1]
 by_cases h2 : k = 8
 · rw [if_pos h2, if_pos h2]; rfl
 rw [if_neg h2, if_neg h2]
 by_cases h3 : (aftP k (x, y)).1 < 0 ∨ (aftP k (x, y)).2 < 0
 · have e : (decide ((aftP k (x, y)).1 ≥ 0) && decide ((aftP k (x, y)).2 ≥ 0)) = false := by
    simp only [Bool.and_eq_false_iff, decide_eq_false_iff_not]; omega
   rw [if_pos h3]
   dsimp only
   rw [e, if_pos rfl]
 · have e : (decide ((aftP k (x, y)).1 ≥ 0) && decide ((aftP k (x, y)).2 ≥ 0)) = true := by
    simp only [Bool.and_eq_true, decide_eq_true_eq]; omega
   rw [if_neg h3]
   dsimp only
   rw [e]
   simp only [Bool.true_eq_false, if_false]
   try rfl
theorem aft_bd {k : Int} {p : Int × Int} {n : Int} (h1 : 0 ≤ p.1 ∧ p.1 ≤ n) (h2 : 0 ≤ p.2 ∧ p.2 ≤ n) (hn : 0 ≤ n) (hk : (aftR k p).2.2 = true) : (0 ≤ (aftR k p).1.1 ∧ (aftR k p).1.1 ≤ n + 1) ∧ 0 ≤ (aftR k p).1.2 ∧ (aftR k p).1.2 ≤ n + 1 := by
 unfold aftR at hk ⊢
 split
 · simp only; omega
 split
 · simp only; omega
 rename_i q1 q2
 rw [if_neg q1, if_neg q2] at hk
 simp only [Bool.and_eq_true, decide_eq_true_eq] at hk ⊢
 unfold aftP at hk ⊢
 split <;> (try split) <;> (try split) <;> (try split) <;> simp_all <;> omega
abbrev fnM : TV := .c (.fn (.func 52) [] [(false, [.ep 0 1 0 0])])
theorem zil (ins : List In1) (hB : ins.length ≤ B) : ∀ (b a : List In1) (l : List Pl), ins = a ++ b → l.length = ins.length → (∀ x ∈ b, (x.k = 9 ∨ x.k = 10) → 0 ≤ x.a ∧ x.a ≤ B) →
  (∀ q ∈ l, (0 ≤ q.2.1 ∧ q.2.1 ≤ a.length) ∧ 0 ≤ q.2.2 ∧ q.2.2 ≤ a.length) →
  RPt Tryd.prog 22 0 (cb (z5h l a.length b)) [] 1 ⟨[(3, .c (.a (.ep 0 1 0 0))), (4, fnM), (22, .c (.a (.fz (.sl false 8 (FIs ins))))), (23, ci ins.length), (24, ci a.length)], [(0, obL l.length), (1, .arz 3 (PR l))], 2⟩
 | [], a, l, hx, hl, _, _ => by
  refine RPt.vc hP sh lv22 (Eq.mpr (v22_1a ..) ?_)
  refine z00 (fun h => absurd (of_decide_eq_true h) ?_) (fun _ => z01 rfl)
  rw [hx]; simp
 | x :: b, a, l, hx, hl, ha, hq => by
  have hla : a.length < l.length := by rw [hl, hx]; simp
  have hlt : (a.length : Int) < (ins.length : Int) := by omega
  simp only [B] at hB
  have next : ∀ l' : List Pl, l'.length = l.length → (∀ q ∈ l', (0 ≤ q.2.1 ∧ q.2.1 ≤ (a.length : Int) + 1) ∧ 0 ≤ q.2.2 ∧ q.2.2 ≤ (a.length : Int) + 1) → zc1 l a.length x.k x.a = some l' →
    RPt Tryd.prog 22 0 (cb (z5h l a.length (x :: b))) [] 1 ⟨[(3, .c (.a (.ep 0 1 0 0))), (4, fnM), (22, .c (.a (.fz (.sl false 8 (FIs ins))))), (23, ci ins.length), (24, ci ((a.length : Int) + 1))], [(0, obL l.length), (1, .arz 3 (PR l'))], 2⟩ := fun l' h1 h2 h3 => by
   have := zil ins (by simp only [B]; omega) b (a ++ [x]) l' (by rw [hx]; simp) (by rw [h1, hl]) (fun y hy => ha y (List.mem_cons_of_mem _ hy)) (fun q hm => by
    have := h2 q hm
    simp only [List.length_append, List.length_singleton]
    omega)
   rw [nx, h1] at this
   rw [z5h, h3]
   exact this
  have em : List.getD (FIs ins) (Int.toNat (a.length : Int)) [] = FI x := by rw [hx]; exact z3z a x b
  have eq0 := zia hla
  refine RPt.vc hP sh lv22 (Eq.mpr (v22_1a ..) ?_)
  rw [w64 (x := (a.length : Int) + 1) (by omega) (by omega), em, FI0, FI1, Int.toNat_natCast, Nat.zero_add, eq0]
  have hmem : l.getD a.length (false, 0, 0) ∈ l := by simp [List.getD, List.getElem?_eq_getElem hla]
  have hbd := hq _ hmem
  have sno := stepW_no (l := l) (i := (a.length : Int)) (k := x.k) (a := x.a)
  have syes := zis (l := l) (i := (a.length : Int)) (k := x.k) (a := x.a)
  rw [Int.toNat_natCast] at sno syes
  generalize l.getD a.length (false, 0, 0) = q at *
  obtain ⟨m, p⟩ := q
  simp only at hbd sno syes
  have hn : (0 : Int) ≤ (a.length : Int) ∧ (a.length : Int) < ((l.length : Nat) : Int) := ⟨by omega, by omega⟩
  have hgrow : ∀ q ∈ l, (0 ≤ q.2.1 ∧ q.2.1 ≤ (a.length : Int) + 1) ∧ 0 ≤ q.2.2 ∧ q.2.2 ≤ (a.length : Int) + 1 := fun q hm => by have := hq q hm; omega
  refine z00 (fun _ => ⟨⟨rfl, by omega, by rw [z04]; exact hlt, by rw [← FI0 x, ← FI1 x]; exact fIr_FI x⟩, hn, ⟨by rw [z2b]; exact hla, rfl, rfl⟩, z00 (fun h1 => ?_) (fun h1 => ?_)⟩) (fun h => absurd hlt (of_decide_eq_false h))
  · exact next l rfl hgrow (sno (by simpa [pR, FV.asB] using h1))
  have h1 : m = true := by simpa [pR, FV.asB] using h1
  subst h1
  have hs := syes rfl
  have hc := c_cafter true p x.k (by simp only [M61]; omega) (by simp only [M61]; omega)
  refine ⟨hn, ⟨by rw [z2b]; exact hla, rfl, rfl⟩, true, (aftR x.k p).1.1, (aftR x.k p).1.2, (aftR x.k p).2.1, (aftR x.k p).2.2, hc, ?_⟩
  have none_no : zc1 l a.length x.k x.a = none → TV.Le (cb false) (cb (z5h l a.length (x :: b))) ∧ ([] : List AObj) = [] := fun h => z01 (by rw [z5h, h])
  refine z00 (fun h2 => ?_) (fun h2 => ?_)
  · exact none_no (by rw [hs, if_pos (by simpa using h2)])
  have h2 : (aftR x.k p).2.2 = true := by simpa using h2
  rw [if_neg (by rw [h2]; simp)] at hs
  have hb2 := aft_bd hbd.1 hbd.2 (by omega) h2
  have hm1 : ∀ (l1 l2 : List Pl) (i : Int), (∀ q ∈ l1, (0 ≤ q.2.1 ∧ q.2.1 ≤ (a.length : Int) + 1) ∧ 0 ≤ q.2.2 ∧ q.2.2 ≤ (a.length : Int) + 1) → z2z l1 i (aftR x.k p).1 = some l2 → l2.length = l1.length ∧ ∀ q ∈ l2, (0 ≤ q.2.1 ∧ q.2.1 ≤ (a.length : Int) + 1) ∧ 0 ≤ q.2.2 ∧ q.2.2 ≤ (a.length : Int) + 1 := fun l1 l2 i h3 h4 => by
   have := ziw h4
   refine ⟨this.1, fun q hm => ?_⟩
   rcases this.2 q hm with h | h
   · exact h3 q h
   · rw [h]; exact hb2
  have hN : ∀ (l1 : List Pl), (((a.length : Nat) : Int) + 1) = ((a.length + 1 : Nat) : Int) := fun _ => by omega
  have go2 : ∀ l1 : List Pl, l1.length = l.length → (∀ q ∈ l1, (0 ≤ q.2.1 ∧ q.2.1 ≤ (a.length : Int) + 1) ∧ 0 ≤ q.2.2 ∧ q.2.2 ≤ (a.length : Int) + 1) → zc1 l a.length x.k x.a = z2z l1 ((a.length : Int) + 1) (aftR x.k p).1 →
    ∃ z : Bool × List (List FV), AC Tryd.prog 52 [ci ((a.length : Int) + 1), .agg [.a (.fz (.bool true)), .a (.fz (.int .i64 (aftR x.k p).1.1)), .a (.fz (.int .i64 (aftR x.k p).1.2))], .c (.a (.ep 0 1 0 0))] [obL l.length, .arz 3 (PR l1)] (cb z.1) [obL l.length, .arz 3 z.2] ∧
     br (!z.1) (TV.Le (cb false) (cb (z5h l a.length (x :: b))) ∧ ([] : List AObj) = [])
      (RPt Tryd.prog 22 0 (cb (z5h l a.length (x :: b))) [] 1 ⟨[(3, .c (.a (.ep 0 1 0 0))), (4, fnM), (22, .c (.a (.fz (.sl false 8 (FIs ins))))), (23, ci ins.length), (24, ci ((a.length : Int) + 1))], [(0, obL l.length), (1, .arz 3 z.2)], 2⟩) := fun l1 e1 h3 h4 => by
   have hc2 := zgx l1 (a.length + 1) (aftR x.k p).1
   rw [e1, ← hN l1] at hc2
   refine ⟨(_, _), hc2, z00 (fun h => none_no ?_) (fun h => ?_)⟩
   · rw [h4]
     cases hm : z2z l1 ((a.length : Int) + 1) (aftR x.k p).1 with
     | none => rfl
     | some l2 => rw [hm] at h; cases h
   · cases hm : z2z l1 ((a.length : Int) + 1) (aftR x.k p).1 with
     | none => rw [hm] at h; cases h
     | some l2 =>
      have h5 := hm1 l1 l2 _ h3 hm
      exact next l2 (by rw [h5.1, e1]) h5.2 (by rw [h4, hm])
  cases ho : (aftR x.k p).2.1 with
  | false =>
   rw [if_pos ho] at hs
   have := next l rfl hgrow hs
   refine z00 (fun _ => ?_) (fun _ => ?_)
   · exact this
   · exact this
  | true =>
   rw [if_neg (by rw [ho]; simp)] at hs
   by_cases hk : x.k = 9 ∨ x.k = 10
   · rw [if_pos hk] at hs
     have hxa := ha x List.mem_cons_self hk
     obtain ⟨j, hj⟩ : ∃ j : Nat, x.a = j := ⟨x.a.toNat, by omega⟩
     have hc2 := zgx l j (aftR x.k p).1
     rw [← hj] at hc2
     have key : ∃ z : Bool × List (List FV), AC Tryd.prog 52 [ci x.a, .agg [.a (.fz (.bool true)), .a (.fz (.int .i64 (aftR x.k p).1.1)), .a (.fz (.int .i64 (aftR x.k p).1.2))], .c (.a (.ep 0 1 0 0))] [obL l.length, .arz 3 (PR l)] (cb z.1) [obL l.length, .arz 3 z.2] ∧
      br (!z.1) (TV.Le (cb false) (cb (z5h l a.length (x :: b))) ∧ ([] : List AObj) = [])
       (br (x.k != 10) (∃ z7 : Bool × List (List FV), AC Tryd.prog 52 [ci ((a.length : Int) + 1), .agg [.a (.fz (.bool true)), .a (.fz (.int .i64 (aftR x.k p).1.1)), .a (.fz (.int .i64 (aftR x.k p).1.2))], .c (.a (.ep 0 1 0 0))] [obL l.length, .arz 3 z.2] (cb z7.1) [obL l.length, .arz 3 z7.2] ∧
        br (!z7.1) (TV.Le (cb false) (cb (z5h l a.length (x :: b))) ∧ ([] : List AObj) = [])
         (RPt Tryd.prog 22 0 (cb (z5h l a.length (x :: b))) [] 1 ⟨[(3, .c (.a (.ep 0 1 0 0))), (4, fnM), (22, .c (.a (.fz (.sl false 8 (FIs ins))))), (23, ci ins.length), (24, ci ((a.length : Int) + 1))], [(0, obL l.length), (1, .arz 3 z7.2)], 2⟩))
        (RPt Tryd.prog 22 0 (cb (z5h l a.length (x :: b))) [] 1 ⟨[(3, .c (.a (.ep 0 1 0 0))), (4, fnM), (22, .c (.a (.fz (.sl false 8 (FIs ins))))), (23, ci ins.length), (24, ci ((a.length : Int) + 1))], [(0, obL l.length), (1, .arz 3 z.2)], 2⟩)) := by
      refine ⟨(_, _), hc2, z00 (fun h => none_no ?_) (fun h => ?_)⟩
      · cases hm : z2z l x.a (aftR x.k p).1 with
        | none => rw [hm] at hs; exact hs
        | some l2 => rw [hm] at h; cases h
      · cases hm : z2z l x.a (aftR x.k p).1 with
        | none => rw [hm] at h; cases h
        | some l2 =>
         rw [hm] at hs
         simp only at hs
         have h5 := hm1 l l2 _ hgrow hm
         refine z00 (fun h6 => ?_) (fun h6 => ?_)
         · rw [if_neg (by simpa using h6)] at hs
           exact go2 l2 h5.1 h5.2 hs
         · rw [if_pos (by simpa using h6)] at hs
           exact next l2 h5.1 h5.2 hs
     refine z00 (fun h9 => ?_) (fun h9 => ?_)
     · exact key
     · have h10 : (x.k == 10) = true := by
        rcases hk with h | h
        · rw [h] at h9; cases h9
        · rw [h]; rfl
       rw [h10]
       exact key
   · rw [if_neg hk] at hs
     have h9 : (x.k == 9) = false := by simp only [beq_eq_false_iff_ne]; exact fun h => hk (.inl h)
     have h10 : (x.k == 10) = false := by simp only [beq_eq_false_iff_ne]; exact fun h => hk (.inr h)
     have h11 : (x.k != 10) = true := by rw [bne, h10]; rfl
     rw [h9, h10, h11]
     exact go2 l rfl hgrow hs
theorem c_cways (c : Cd) (hB : c.ins.length ≤ B) (h0 : 0 < c.ins.length) (ha : ∀ x ∈ c.ins, (x.k = 9 ∨ x.k = 10) → 0 ≤ x.a ∧ x.a ≤ B) : AC Tryd.prog 22 [aC c] [] (cb (zch c.ins)) [] := by
 have h := zil c.ins hB c.ins [] ((List.replicate c.ins.length (false, 0, 0)).set 0 (true, 0, 0)) rfl (by simp) ha (fun q hq => by
  rcases List.mem_or_eq_of_mem_set hq with h | h
  · rw [(List.mem_replicate.1 h).2]; simp
  · rw [h]; simp)
 have e : PR ((List.replicate c.ins.length (false, 0, 0)).set 0 (true, 0, 0)) = List.set (List.replicate (Int.toNat (((FIs c.ins).length : Nat) : Int)) [.bool false, .int .i64 0, .int .i64 0]) 0 (z32 (List.getD (List.replicate (Int.toNat (((FIs c.ins).length : Nat) : Int)) [.bool false, .int .i64 0, .int .i64 0]) 0 []) 0 [.bool true]) := by
  rw [← pr_set, Int.toNat_natCast, z04]
  have : List.getD (List.replicate c.ins.length [FV.bool false, .int .i64 0, .int .i64 0]) 0 [] = [.bool false, .int .i64 0, .int .i64 0] := by simp [List.getD, h0]
  rw [this]
  simp [PR, pR, z32]
 rw [e] at h
 simp only [B] at hB
 have hl : ((FIs c.ins).length : Int) = (c.ins.length : Int) := by rw [z04]
 refine AC.vc hP sh lv22 (Nat.le_refl _) (by simp) (by simp) (Eq.mpr (v22 ..) ?_)
 refine ⟨rfl, ⟨rfl, by omega, rfl, by omega, by omega, ?_⟩, ⟨by omega, ?_⟩, ⟨?_, ?_⟩, rfl, ?_⟩
 · unfold z2d; rw [Int.toNat_natCast, z04]; omega
 · rw [Int.toNat_natCast, z04]; omega
 · rw [List.length_replicate, Int.toNat_natCast, z04]; exact h0
 · rw [Int.toNat_natCast, z04]; simp [List.getD, h0]
 · have hn : ((List.replicate c.ins.length ((false, 0, 0) : Pl)).set 0 (true, 0, 0)).length = Int.toNat (((FIs c.ins).length : Nat) : Int) := by simp [z04]
   rw [hn, ← hl] at h
   exact h
end Go.AM

set_option maxRecDepth 100000
open Go Go.Proofs
namespace Go.AM
theorem FI2 (x : In1) : FV.asI (List.getD (FI x) 2 FV.nils) = x.t.k := by cases x; rw [FI]; rfl
theorem FI4 (x : In1) : FV.asI (List.getD (FI x) 4 FV.nils) = x.t.n := by cases x; rw [FI]; rfl
theorem FI5 (x : In1) : List.getD (FI x) 5 FV.nils = .sl false 4 (FTs x.t.l) := by cases x; rw [FI]; rfl
theorem el8 (ins : List In1) (i : Int) (h0 : 0 ≤ i) (h1 : i < ins.length) (x : In1) : FV.isSl 8 (.sl false 8 (FIs ins)) = true ∧ 0 ≤ i ∧ i < (((FIs ins).length : Nat) : Int) ∧
  ([.int .i64 x.k, .int .i64 x.a, .int .i64 x.t.k, .str x.t.s, .int .i64 x.t.n, .sl false 4 (FTs x.t.l), .sl false 4 (FTs x.l), .sl false 6 (FCs x.c)] : List FV) = FI x :=
 ⟨rfl, h0, by rw [z04]; exact h1, (FI_eta x).symm⟩
def oddC (sl : Int) (d : Cd) : Bool := decide (d.fr > sl) || !vC d
theorem vCs_any (sl : Int) (l : List Cd) : (!l.any (oddC sl)) = vCs sl l := by
 rw [z6t]
 induction l with
 | nil => rfl
 | cons d l ih =>
  rw [List.any_cons, List.all_cons, ← ih, Bool.not_or]
  congr 1
  unfold oddC
  by_cases h : d.fr ≤ sl
  · rw [decide_eq_false (by omega), decide_eq_true h]; simp
  · rw [decide_eq_true (show d.fr > sl by omega), decide_eq_false h]; rfl
theorem c_cins1 (c d : Cd) (h : AC Tryd.prog 7 [aC d] [] (cb (vC d)) []) : AC Tryd.prog 75 [aC d, .c (.a (.ep 0 6 0 0))] [obC c] (cb (oddC c.sl d)) [obC c] := by
 refine AC.vc hP sh lv75 (Nat.le_refl _) (by simp [isLive]) (by simp) (Eq.mpr (v75 ..) ?_)
 exact z00 (fun q => ⟨z4y (by rw [oddC, q]; rfl), rfl⟩) (fun q => ⟨_, h, z4y (by rw [oddC, q]; rfl), rfl⟩)
def ixC (p : Cd → Bool) : List Cd → Nat → Int
 | [], _ => -1
 | t :: l, i => if p t = true then (i : Int) else ixC p l (i + 1)
theorem zi5 (p : Cd → Bool) : ∀ (l : List Cd) (i : Nat), decide (ixC p l i ≥ 0) = l.any p
 | [], _ => rfl
 | t :: l, i => by
  rw [ixC, List.any_cons]
  split
  · rename_i h; rw [h]; simp
  · rename_i h; rw [zi5 p l, show p t = false by simpa using h, Bool.false_or]
theorem zhl (p : Cd → Bool) (c : Cd) (b : List Cd) : ∀ a : List Cd, (a ++ b).length ≤ B → (∀ u ∈ b, AC Tryd.prog 75 [aC u, .c (.a (.ep 0 6 0 0))] [obC c] (cb (p u)) [obC c]) → RPt Tryd.prog 84 1 (ci (ixC p b a.length)) [obC c] 1 ⟨[(0, aCs (a ++ b)), (1, .c (.fn (.func 75) [] [(false, [.ep 0 6 0 0])])), (7, ci (a ++ b).length), (8, ci a.length)], [(0, obC c)], 1⟩ := by
 induction b with
 | nil =>
  intro a hs _
  refine RPt.vc hP sh lv84 (Eq.mpr (z8q ..) ?_)
  exact z00 (fun h => absurd (of_decide_eq_true h) (by simp)) (fun _ => ⟨.refl _, rfl⟩)
 | cons t b ihb =>
  intro a hs ih
  have h1 := ih t List.mem_cons_self
  have h2 := ihb (a ++ [t]) (by simpa using hs) (fun u hu => ih u (List.mem_cons_of_mem _ hu))
  rw [ap, nx, show (a ++ [t]).length = a.length + 1 by simp] at h2
  rw [ixC]
  simp only [List.length_append, List.length_cons, B] at hs
  have h4 : (a.length : Int) < ((a ++ t :: b).length : Int) := by simp only [List.length_append, List.length_cons]; omega
  refine RPt.vc hP sh lv84 (Eq.mpr (z8q ..) ?_)
  rw [w64 (by omega) (by omega), z8l]
  have e := z77 t
  refine z00 (fun _ => ⟨⟨rfl, by omega, by rw [z09]; exact h4, z8h t⟩, p t, by rw [show (TV.agg [.a (.fz (.str (FV.asS (List.getD (FC t) 0 FV.nils)))), .a (.fz (.int .i64 (FV.asI (List.getD (FC t) 1 FV.nils)))), .a (.fz (.int .i64 (FV.asI (List.getD (FC t) 2 FV.nils)))), .a (.fz (.int .i64 (FV.asI (List.getD (FC t) 3 FV.nils)))), .a (.fz (.int .i64 (FV.asI (List.getD (FC t) 4 FV.nils)))), .a (.fz (List.getD (FC t) 5 FV.nils))]) = aC t from z77 t]; exact h1, z00 (fun h => ?_) (fun h => ?_)⟩) (fun h => absurd h4 (of_decide_eq_false h))
  · rw [if_pos h]; exact ⟨.refl _, rfl⟩
  · rw [if_neg (by rw [h]; simp)]; exact h2
theorem c_ccontc (c : Cd) (l : List Cd) (hl : l.length ≤ B) (h : ∀ u ∈ l, AC Tryd.prog 7 [aC u] [] (cb (vC u)) []) : AC Tryd.prog 76 [aCs l, .c (.fn (.func 75) [] [(false, [.ep 0 6 0 0])])] [obC c] (cb (!vCs c.sl l)) [obC c] := by
 have h0 := zhl (oddC c.sl) c l [] hl (fun u hu => c_cins1 c u (h u hu))
 have h1 : AC Tryd.prog 84 [aCs l, .c (.fn (.func 75) [] [(false, [.ep 0 6 0 0])])] [obC c] (ci (ixC (oddC c.sl) l 0)) [obC c] := by
  refine AC.vc hP sh lv84 (Nat.le_refl _) (by simp [isLive]) (by simp) (Eq.mpr (v84_F75 ..) ?_)
  rw [z09]
  exact ⟨rfl, h0⟩
 rw [← vCs_any, Bool.not_not]
 refine AC.vc hP sh lv76 (Nat.le_refl _) (by simp [isLive]) (by simp) (Eq.mpr (v76_F75 ..) ?_)
 exact ⟨_, h1, by rw [zi5 (oddC c.sl) l 0]; exact ⟨.refl _, rfl⟩⟩
def z6i (a : List In1) : Option (Int × Int) := a.getLast?.map fun y => (y.k, y.a)
theorem z8r (a : List In1) (x : In1) : z6i (a ++ [x]) = some (x.k, x.a) := by simp [z6i]
def insR (c : Cd) (a : List In1) (x : In1) : Bool :=
 if x.k = 5 then x.l.length == 2 else if x.k = 14 then vCs c.sl x.c else insB c.ar (c.fr + c.vs) c.sl c.ins.length a.length (z6i a) x.k x.a x.t
abbrev usesT (k : Int) (ok : Bool) : TV := .tup [(true, [.a (.fz (.bool (useT k))), .a (.fz (.bool (k == 5))), .a (.fz (.bool (k == 14))), .a (.fz (.bool (useA k)))]), (false, [.a (.fz (.bool ok))])]
theorem c_cins (c : Cd) (a b : List In1) (x : In1) (hx : c.ins = a ++ x :: b) (hB : c.ins.length ≤ B) (hf : 0 ≤ c.fr + c.vs ∧ c.fr + c.vs ≤ B) (ht : x.t.sz ≤ B) (hc : x.c.length ≤ B) (hd : ∀ d ∈ x.c, AC Tryd.prog 7 [aC d] [] (cb (vC d)) []) :
  AC Tryd.prog 51 [aC c, ci a.length] [] (usesT x.k (insR c a x)) [] := by
 simp only [B] at hB hf
 have hla : a.length < c.ins.length := by rw [hx]; simp
 have e : List.getD (FIs c.ins) (Int.toNat (a.length : Int)) [] = FI x := by rw [hx]; exact z3z a x b
 have c1 := c_cpred x.t ht
 have c2 := zh0 x.t ht
 have c3 := c_ccontc c x.c hc hd
 have need := el8 c.ins a.length (by omega) (by omega) x
 have e5 : ((((FTs x.l).length : Nat) : Int) == 2) = (x.l.length == 2) := by rw [z0a, Bool.eq_iff_iff, beq_iff_eq, beq_iff_eq]; omega
 have hlen : (((FIs c.ins).length : Nat) : Int) = c.ins.length := by rw [z04]
 refine AC.vc hP sh lv51 (Nat.le_refl _) (by simp) (by simp) (Eq.mpr (v51 ..) ?_)
 rw [e, w64 (x := c.fr + c.vs) (by omega) (by omega)]
 simp only [FI0, FI1, FI2, FI3, FI4, FI5, FI6, FI7]
 refine ⟨need, ?_⟩
 have hkinds : ∀ ok, insR c a x = ok → True := fun _ _ => trivial
 rcases List.eq_nil_or_concat a with ha | ⟨a', y, ha⟩
 · subst ha
   have h0 : (decide ((([] : List In1).length : Int) > 0)) = false := rfl
   rw [h0]
   simp only [insR, insB, z6i, List.getLast?_nil, Option.map_none]
   simp only [FV.ses, e5, hlen]
   generalize x.k = k at *
   repeat' (first | refine z00 (fun _ => ?_) (fun _ => ?_) | refine ⟨_, c1, ?_⟩ | refine ⟨_, c2, ?_⟩ | refine ⟨_, c3, ?_⟩ | refine And.intro (show FV.isSl _ _ = true by rfl) ?_)
   all_goals first
    | contradiction
    | (refine ⟨z4y ?_, by trivial⟩; simp_all [useT, useA] <;> omega)
 · have ha : a = a' ++ [y] := by simpa using ha
   subst ha
   have h1 : (decide (((a' ++ [y]).length : Int) > 0)) = true := by simp
   have e2 : List.getD (FIs c.ins) (Int.toNat (IntKind.wrap .i64 (((a' ++ [y]).length : Int) - 1))) [] = FI y := by
    have q : IntKind.wrap .i64 (((a' ++ [y]).length : Int) - 1) = (a'.length : Int) := by
     simp only [List.length_append, List.length_singleton] at hla ⊢
     rw [w64 (by omega) (by omega)]; omega
    rw [q, hx, List.append_assoc]; exact z3z a' y (x :: b)
   have need2 := el8 c.ins (IntKind.wrap .i64 (((a' ++ [y]).length : Int) - 1)) (by
    simp only [List.length_append, List.length_singleton] at hla ⊢
    rw [w64 (by omega) (by omega)]; omega) (by
    simp only [List.length_append, List.length_singleton] at hla ⊢
    rw [w64 (by omega) (by omega)]; omega) y
   have c4 := c_chead y.k
   rw [h1, e2]
   simp only [FI0, FI1, FI2, FI3, FI4, FI5, FI6, FI7]
   simp only [insR, insB, z8r]
   simp only [FV.ses, e5, hlen]
   rw [hlen] at need2
   generalize x.k = k at *
   repeat' (first | refine z00 (fun _ => ?_) (fun _ => ?_) | refine ⟨_, c1, ?_⟩ | refine ⟨_, c2, ?_⟩ | refine ⟨_, c3, ?_⟩ | refine ⟨_, c4, ?_⟩ | refine And.intro (show FV.isSl 4 _ = true by rfl) ?_ | refine And.intro need2 ?_ | refine And.intro (show FV.isSl 6 _ = true by rfl) ?_ | refine And.intro (show FV.isSl 8 _ = true by rfl) ?_)
   all_goals clear need need2 e e2 ha hx hd c1 c2 c3 c4 hkinds e5 hlen h1 hla
   all_goals first
    | contradiction
    | (refine ⟨z4y ?_, by trivial⟩; simp_all [useT, useA] <;> omega)
end Go.AM

set_option maxRecDepth 100000
open Go Go.Proofs
namespace Go.AM
def z33 (c : Cd) (a : List In1) (x : In1) : Bool := fldB c.ar (c.fr + c.vs) c.sl c.ins.length a.length (z6i a) x.k x.a x.t x.l x.c.isEmpty && vCs c.sl x.c
theorem zi7 (c : Cd) (a : List In1) (x : In1) : z33 c a x = ((x.k == 14 || ((plB c.sl x.t || z7p x.t) && x.l.all (plB c.sl))) && (insR c a x && ((useA x.k || x.a == 0) && ((x.k == 14 || x.c.isEmpty) && ((x.k == 5 || x.l.isEmpty) && (if useT x.k = true then plB c.sl x.t else z7p x.t)))))) := by
 have hAV : plB c.sl x.t = true → z12 x.t = true := fun h => by unfold plB at h; simp only [Bool.and_eq_true] at h; exact h.1
 have hCs : x.c.isEmpty = true → vCs c.sl x.c = true := fun h => by rw [List.isEmpty_iff.1 h, vCs]
 have hLs : x.l.isEmpty = true → x.l.all (plB c.sl) = true := fun h => by rw [List.isEmpty_iff.1 h]; rfl
 have h5 : x.k = 5 → insB c.ar (c.fr + c.vs) c.sl c.ins.length a.length (z6i a) x.k x.a x.t = true := fun h => by rw [h]; rfl
 have h14 : x.k = 14 → insB c.ar (c.fr + c.vs) c.sl c.ins.length a.length (z6i a) x.k x.a x.t = true := fun h => by rw [h]; rfl
 unfold z33 fldB insR
 generalize insB c.ar (c.fr + c.vs) c.sl c.ins.length a.length (z6i a) x.k x.a x.t = I at *
 generalize plB c.sl x.t = A at *
 generalize z7p x.t = E at *
 generalize z12 x.t = V at *
 generalize x.l.all (plB c.sl) = Ls at *
 generalize vCs c.sl x.c = W at *
 generalize x.c.isEmpty = ce at *
 generalize x.l.isEmpty = le at *
 generalize (x.l.length == 2) = l2 at *
 generalize (x.a == 0) = a0 at *
 generalize x.k = k at *
 by_cases q : k = 14
 · have := h14 q
   subst q
   cases E <;> cases le <;> cases a0 <;> cases W <;> simp_all [useA, useT]
 by_cases q2 : k = 5
 · have := h5 q2
   subst q2
   cases E <;> cases ce <;> cases l2 <;> cases a0 <;> cases Ls <;> simp_all [useA, useT]
 · have e1 : (k == 14) = false := by simpa using q
   have e2 : (k == 5) = false := by simpa using q2
   rw [e1, e2, if_neg q2, if_neg q2, if_neg q]
   generalize useT k = uT
   generalize useA k = uA
   cases uT <;> cases A <;> cases E <;> cases ce <;> cases Ls <;> simp_all
theorem zgl (c : Cd) (a b : List In1) (x : In1) (hx : c.ins = a ++ x :: b) (hB : c.ins.length ≤ B) (hf : 0 ≤ c.fr + c.vs ∧ c.fr + c.vs ≤ B) (ht : x.t.sz ≤ B) (hbt : bd 2305843009213693952 x.t) (hl : x.l.length ≤ B) (hs : ∀ t ∈ x.l, t.sz ≤ B ∧ bd 2305843009213693952 t)
  (hc : x.c.length ≤ B) (hd : ∀ d ∈ x.c, AC Tryd.prog 7 [aC d] [] (cb (vC d)) []) : AC Tryd.prog 21 [aC c, ci a.length] [] (cb (z33 c a x)) [] := by
 have c0 := c_cins c a b x hx hB hf ht hc hd
 have c1 := c_codd c x.t ht hbt
 have c2 := c_cempty x.t ht
 have c3 := c_anyOdd c x.l hl hs
 have hla : a.length < c.ins.length := by rw [hx]; simp
 have e : List.getD (FIs c.ins) (Int.toNat (a.length : Int)) [] = FI x := by rw [hx]; exact z3z a x b
 have need := el8 c.ins a.length (by omega) (by omega) x
 have hce : decide (((x.c.length : Nat) : Int) > 0) = !x.c.isEmpty := by cases x.c <;> simp
 have hle : decide (((x.l.length : Nat) : Int) > 0) = !x.l.isEmpty := by cases x.l <;> simp
 refine AC.vc hP sh lv21 (Nat.le_refl _) (by simp) (by simp) (Eq.mpr (v21 ..) ?_)
 rw [e]
 simp only [FI0, FI1, FI2, FI3, FI4, FI5, FI6, FI7]
 refine ⟨need, ?_⟩
 rw [zi7]
 simp only [FV.ses, z09, z0a]
 rw [hce, hle, show (x.a != 0) = !(x.a == 0) from rfl, show (x.k != 14) = !(x.k == 14) from rfl]
 unfold usesT at c0
 generalize insR c a x = OK at *
 generalize plB c.sl x.t = A at *
 generalize z7p x.t = E at *
 generalize x.l.all (plB c.sl) = Ls at *
 generalize x.c.isEmpty = ce at *
 generalize x.l.isEmpty = le at *
 generalize useA x.k = uA at *
 generalize useT x.k = uT at *
 generalize (x.a == 0) = a0 at *
 generalize (x.k == 14) = k14 at *
 generalize (x.k == 5) = k5 at *
 repeat' (first | refine z00 (fun _ => ?_) (fun _ => ?_) | refine ⟨_, c1, ?_⟩ | refine ⟨_, c2, ?_⟩ | refine ⟨_, c3, ?_⟩ | refine ⟨_, _, _, _, _, c0, ?_⟩ | refine And.intro (show FV.isSl 4 _ = true by rfl) ?_ | refine And.intro (show FV.isSl 6 _ = true by rfl) ?_)
 all_goals clear c0 c1 c2 c3 hx hB hf ht hbt hl hs hc hd hla e need hce hle
 all_goals refine ⟨z4y ?_, by trivial⟩
 all_goals (simp_all; done)
mutual
def nbC : Cd → Prop
 | .mk _ _ _ _ _ ins => nbIs ins
def nbIs : List In1 → Prop
 | [] => True
 | .mk _ _ t l c :: r => (bd 2305843009213693952 t ∧ (∀ u ∈ l, bd 2305843009213693952 u) ∧ nbCs c) ∧ nbIs r
def nbCs : List Cd → Prop
 | [] => True
 | c :: r => nbC c ∧ nbCs r
end
theorem z63 : ∀ {l : List In1} {x : In1}, nbIs l → x ∈ l → bd 2305843009213693952 x.t ∧ (∀ u ∈ x.l, bd 2305843009213693952 u) ∧ nbCs x.c
 | .mk k a t q c :: r, x, h, hm => by
  rw [nbIs] at h
  rcases List.mem_cons.1 hm with rfl | hm
  · exact h.1
  · exact z63 h.2 hm
theorem z9w : ∀ {l : List Cd} {d : Cd}, nbCs l → d ∈ l → nbC d
 | c :: r, d, h, hm => by
  rw [nbCs] at h
  rcases List.mem_cons.1 hm with rfl | hm
  · exact h.1
  · exact z9w h.2 hm
theorem za4 {c : Cd} (h : nbC c) : nbIs c.ins := by cases c; rw [nbC] at h; exact h
theorem zf4 (c : Cd) (hz : c.sz ≤ B) (hn : nbC c) (hf : 0 ≤ c.fr + c.vs ∧ c.fr + c.vs ≤ B) (ih : ∀ x ∈ c.ins, ∀ d ∈ x.c, AC Tryd.prog 7 [aC d] [] (cb (vC d)) []) (h0 : 0 < c.ins.length) : ∀ (b a : List In1), c.ins = a ++ b →
  (∀ x ∈ a, (x.k = 9 ∨ x.k = 10) → 0 ≤ x.a ∧ x.a ≤ B) →
  RPt Tryd.prog 7 0 (cb (vIs c.ar (c.fr + c.vs) c.sl c.ins.length a.length (z6i a) b && zch c.ins)) [] 3 ⟨[(5, .c (.a (.ep 0 6 0 0))), (68, ci c.ins.length), (69, ci a.length)], [(0, obC c)], 1⟩
 | [], a, hx, ha => by
  have hl : c.ins.length ≤ B := by
   have := In1.szs_length c.ins
   cases c; simp only [Cd.sz, Cd.ins] at *; omega
  have h1 := c_cways c hl h0 (fun x hm => ha x (by rw [hx] at hm; simpa using hm))
  refine RPt.vc hP sh lv7 (Eq.mpr (v7_3a ..) ?_)
  refine z00 (fun h => absurd (of_decide_eq_true h) ?_) (fun _ => ⟨_, h1, z01 (by rw [vIs]; rfl)⟩)
  rw [hx]; simp
 | x :: b, a, hx, ha => by
  have hxm : x ∈ c.ins := by rw [hx]; simp
  have z1 := In1.szs_mem hxm
  have z2 := In1.szs_length c.ins
  have z3 : In1.szs c.ins ≤ B := by cases c; simp only [Cd.sz, Cd.ins, B] at *; omega
  have z4 : x.t.bk ≤ B ∧ Tm.bks x.l ≤ B ∧ Cd.szs x.c ≤ B := by cases x; simp only [In1.sz1, In1.t, In1.l, In1.c, B] at *; omega
  have z5 := Tm.sz_bk x.t
  have z6 := Tm.szs_bks x.l
  have z7 := Tm.szs_length x.l
  have z8 := Cd.szs_length x.c
  have n1 := z63 (za4 hn) hxm
  have hl : c.ins.length ≤ B := by omega
  have hla : a.length < c.ins.length := by rw [hx]; simp
  have h1 := zgl c a b x hx hl hf (by omega) n1.1 (by omega) (fun t ht => ⟨by have := Tm.szs_mem ht; omega, n1.2.1 t ht⟩) (by omega) (ih x hxm)
  have ev : vIs c.ar (c.fr + c.vs) c.sl c.ins.length a.length (z6i a) (x :: b) = (z33 c a x && vIs c.ar (c.fr + c.vs) c.sl c.ins.length ((a.length : Int) + 1) (some (x.k, x.a)) b) := by
   cases x
   rw [vIs, z33, Bool.and_assoc]; rfl
  rw [ev]
  simp only [B] at hl
  refine RPt.vc hP sh lv7 (Eq.mpr (v7_3a ..) ?_)
  rw [w64 (x := (a.length : Int) + 1) (by omega) (by omega)]
  refine z00 (fun _ => ⟨_, h1, z00 (fun h => z01 ?_) (fun h => ?_)⟩) (fun h => absurd (of_decide_eq_false h) (by omega))
  · rw [show z33 c a x = false by simpa using h]; rfl
  · have hfb : z33 c a x = true := by simpa using h
    have := zf4 c hz hn hf ih h0 b (a ++ [x]) (by rw [hx]; simp) (fun y hy hk => by
     rcases List.mem_append.1 hy with hy | hy
     · exact ha y hy hk
     · have hy : y = x := by simpa using hy
       subst hy
       have : insB c.ar (c.fr + c.vs) c.sl c.ins.length a.length (z6i a) y.k y.a y.t = true := by
        unfold z33 fldB at hfb
        simp only [Bool.and_eq_true] at hfb
        exact hfb.1.2.1
       unfold insB at this
       rw [if_neg (by omega), if_neg (by omega), if_neg (by omega), if_pos hk] at this
       have := of_decide_eq_true this
       simp only [B]
       omega)
    rw [nx, z8r] at this
    rw [hfb, Bool.true_and]
    exact this
theorem last_nil {l : List In1} (h : l.length = 0) : zi6 l = false := by rw [List.eq_nil_of_length_eq_zero h]; rfl
theorem z2f : ∀ c : Cd, c.sz ≤ B → nbC c → AC Tryd.prog 7 [aC c] [] (cb (vC c)) [] := by
 refine Cd.ind fun c ih hz hn => ?_
 have z2 := In1.szs_length c.ins
 have z3 : In1.szs c.ins ≤ B ∧ c.nm.length ≤ B := by cases c; simp only [Cd.sz, Cd.ins, Cd.nm, B] at *; omega
 have hl : c.ins.length ≤ B := by omega
 simp only [B] at hl
 have ih' : ∀ x ∈ c.ins, ∀ d ∈ x.c, AC Tryd.prog 7 [aC d] [] (cb (vC d)) [] := fun x hx d hd => ih x hx d hd (by
  have a1 := In1.szs_mem hx
  have a2 := Cd.szs_mem hd
  cases x
  simp only [In1.sz1, In1.c] at *
  omega) (z9w (z63 (za4 hn) hx).2.2 hd)
 have c1 := zf5 c.nm
 have c2 := zhs c.nm
 have c3 := z88 c.nm
 have c4 := c_ccount [c.ar, c.fr, c.vs, c.sl] (by simp [B])
 have eV : vC c = (nmB c.nm && (cntB c.ar c.fr c.vs c.sl && (zi6 c.ins && (vIs c.ar (c.fr + c.vs) c.sl c.ins.length 0 none c.ins && zch c.ins)))) := by cases c; rw [vC]; rfl
 rw [eV]
 have hlen : (((FIs c.ins).length : Nat) : Int) = c.ins.length := by rw [z04]
 have tail : nmB c.nm = true → ∀ R : Prop, (∀ b : Bool, R → False) ∨ True → True := fun _ _ _ => trivial
 have ecnt : (!([c.ar, c.fr, c.vs, c.sl].any cntN)) = true → (0 ≤ c.ar ∧ c.ar ≤ 4096) ∧ (0 ≤ c.fr ∧ c.fr ≤ 4096) ∧ (0 ≤ c.vs ∧ c.vs ≤ 4096) ∧ (0 ≤ c.sl ∧ c.sl ≤ 4096) := fun h => by
  simp only [List.any_cons, List.any_nil, cntN, Bool.not_or, Bool.not_false, Bool.and_true, Bool.and_eq_true, Bool.not_eq_true', decide_eq_false_iff_not] at h
  omega
 have ecnt2 : (!([c.ar, c.fr, c.vs, c.sl].any cntN)) = false → cntB c.ar c.fr c.vs c.sl = false := fun h => by
  unfold cntB
  refine decide_eq_false fun q => ?_
  have : (!([c.ar, c.fr, c.vs, c.sl].any cntN)) = true := by
   simp only [List.any_cons, List.any_nil, cntN, Bool.not_or, Bool.not_false, Bool.and_true, Bool.and_eq_true, Bool.not_eq_true', decide_eq_false_iff_not]
   omega
  rw [this] at h; cases h
 have loop : 0 < c.ins.length → 0 ≤ c.fr + c.vs ∧ c.fr + c.vs ≤ B → RPt Tryd.prog 7 0 (cb (vIs c.ar (c.fr + c.vs) c.sl c.ins.length 0 none c.ins && zch c.ins)) [] 3 ⟨[(5, .c (.a (.ep 0 6 0 0))), (68, ci c.ins.length), (69, ci 0)], [(0, obC c)], 1⟩ := fun h0 hf => zf4 c hz hn hf ih' h0 c.ins [] rfl (fun x hx => by cases hx)
 have rest : nmB c.nm = true → (∃ b3 : Bool, AC Tryd.prog 20 [.c (.a (.fz (.sl false 1 [[.int .i64 c.ar], [.int .i64 c.fr], [.int .i64 c.vs], [.int .i64 c.sl]])))] [] (cb b3) [] ∧ (true = true) ∧ True) := fun _ => ⟨_, c4, rfl, trivial⟩
 have hlast : 0 < c.ins.length → ∃ y a', c.ins = a' ++ [y] ∧ zi6 c.ins = (y.k == 3 || y.k == 4 || y.k == 8) ∧ List.getD (FIs c.ins) (Int.toNat (IntKind.wrap .i64 ((c.ins.length : Int) - 1))) [] = FI y ∧ 0 ≤ IntKind.wrap .i64 ((c.ins.length : Int) - 1) ∧ IntKind.wrap .i64 ((c.ins.length : Int) - 1) < c.ins.length := fun h0 => by
  rcases List.eq_nil_or_concat c.ins with h | ⟨a', y, h⟩
  · rw [h] at h0; cases h0
  · have h : c.ins = a' ++ [y] := by simpa using h
    rw [w64 (by omega) (by omega)]
    refine ⟨y, a', h, by rw [h]; simp [zi6], ?_, by omega, by omega⟩
    rw [show (c.ins.length : Int) - 1 = a'.length by rw [h]; simp, h]; exact z3z a' y []
 refine AC.vc hP sh lv7 (Nat.le_refl _) (by simp) (by simp) (Eq.mpr (v7 ..) ?_)
 refine ⟨rfl, _, c1, ?_⟩
 rw [hlen]
 by_cases h0 : 0 < c.ins.length
 · obtain ⟨y, a', hy1, hy2, hy3, hy4, hy5⟩ := hlast h0
   have need := el8 c.ins _ hy4 hy5 y
   have en : ((c.ins.length : Int) == 0) = false := by rw [beq_eq_false_iff_ne]; omega
   rw [hy3, en, hy2]
   simp only [FI0, FI1, FI2, FI3, FI4, FI5, FI6, FI7]
   rw [hlen] at need
   have hgo := loop h0
   clear loop hlast hy1 hy2 hy3 hy4 hy5 tail rest eV ih ih' z2 z3 hl hn hz
   unfold nmB
   cases hcnt : (!([c.ar, c.fr, c.vs, c.sl].any cntN)) with
   | false =>
    have hc0 := ecnt2 hcnt
    rw [hcnt] at c4
    rw [hc0]
    clear ecnt ecnt2
    repeat' (first | refine z00 (fun _ => ?_) (fun _ => ?_) | refine ⟨_, c2, ?_⟩ | refine ⟨_, c3, ?_⟩ | refine ⟨_, c4, ?_⟩ | refine And.intro (And.intro True.intro (Nat.le_refl 4)) ?_ | refine And.intro (And.intro (rfl : (1 : Nat) = 1) (Nat.le_refl 4)) ?_ | refine And.intro True.intro ?_ | refine And.intro (rfl : true = true) ?_ | refine And.intro need ?_ | fail)
    all_goals first
     | contradiction
     | exact ⟨z4y (by rw [Bool.false_and, Bool.and_false]), by trivial⟩
   | true =>
    have hb := ecnt hcnt
    rw [hcnt] at c4
    rw [w64 (x := c.fr + c.vs) (by omega) (by omega)]
    have hgo := hgo (by simp only [B]; omega)
    have hc1 : cntB c.ar c.fr c.vs c.sl = !decide (c.fr + c.vs > c.sl) := by
     unfold cntB
     by_cases q : c.fr + c.vs > c.sl
     · rw [decide_eq_true q, decide_eq_false (by omega)]; rfl
     · rw [decide_eq_false q, decide_eq_true (by omega)]; rfl
    rw [hc1]
    clear hc1 ecnt ecnt2 hcnt hb en h0
    generalize (vIs c.ar (c.fr + c.vs) c.sl c.ins.length 0 none c.ins && zch c.ins) = V at *
    generalize decide (c.fr + c.vs > c.sl) = d at *
    generalize z72 c.nm = n1 at *
    generalize zbm c.nm = n2 at *
    generalize logB c.nm = lg at *
    generalize (y.k == 3) = k3 at *
    generalize (y.k == 4) = k4 at *
    generalize (y.k == 8) = k8 at *
    repeat' (first | refine z00 (fun _ => ?_) (fun _ => ?_) | refine ⟨_, c2, ?_⟩ | refine ⟨_, c3, ?_⟩ | refine ⟨_, c4, ?_⟩ | refine And.intro (And.intro True.intro (Nat.le_refl 4)) ?_ | refine And.intro (And.intro (rfl : (1 : Nat) = 1) (Nat.le_refl 4)) ?_ | refine And.intro True.intro ?_ | refine And.intro (rfl : true = true) ?_ | refine And.intro need ?_ | fail)
    all_goals first
     | contradiction
     | (refine ⟨z4y ?_, by trivial⟩; clear hgo need c1 c2 c3 c4; simp_all; done)
     | ((have e9 : ((n1 || n2) && !lg && (!d && ((k3 || k4 || k8) && V))) = V := by (clear hgo need c1 c2 c3 c4; simp_all)); rw [e9]; exact hgo)
 · have hl0 : c.ins.length = 0 := by omega
   have en : ((c.ins.length : Int) == 0) = true := by rw [beq_iff_eq]; omega
   have hla := last_nil hl0
   rw [en, hla, Bool.false_and, Bool.and_false, Bool.and_false]
   clear hlast
   repeat' (first | exact z01 rfl | refine z00 (fun _ => ?_) (fun _ => ?_) | refine ⟨_, c2, ?_⟩ | refine ⟨_, c3, ?_⟩ | refine ⟨_, c4, ?_⟩ | refine And.intro (And.intro True.intro (Nat.le_refl 4)) ?_ | refine And.intro (And.intro (rfl : (1 : Nat) = 1) (Nat.le_refl 4)) ?_ | refine And.intro True.intro ?_ | refine And.intro (rfl : true = true) ?_ | fail)
   all_goals contradiction
end Go.AM

set_option maxRecDepth 100000
open Go Go.Proofs
namespace Go.AM
theorem z6p : ∀ c : Cd, 0 ≤ nIns c ∧ nIns c ≤ c.sz := by
 refine Cd.ind fun c ih => ?_
 obtain ⟨nm, ar, fr, vs, sl, ins⟩ := c
 simp only [Cd.ins] at ih
 rw [nIns, Cd.sz]
 have kC : ∀ l : List Cd, (∀ d ∈ l, 0 ≤ nIns d ∧ nIns d ≤ d.sz) → 0 ≤ nCs l ∧ nCs l ≤ Cd.szs l := by
  intro l
  induction l with
  | nil => intro _; simp [nCs, Cd.szs]
  | cons d l ih2 =>
   intro h
   have h1 := h d List.mem_cons_self
   have h2 := ih2 fun u hu => h u (List.mem_cons_of_mem _ hu)
   rw [nCs, Cd.szs]; omega
 have kI : ∀ l : List In1, (∀ x ∈ l, ∀ d ∈ x.c, 0 ≤ nIns d ∧ nIns d ≤ d.sz) → 0 ≤ nIs l ∧ nIs l + l.length ≤ In1.szs l := by
  intro l
  induction l with
  | nil => intro _; simp [nIs, In1.szs]
  | cons x l ih2 =>
   intro h
   have h1 := kC x.c (h x List.mem_cons_self)
   have h2 := ih2 fun u hu => h u (List.mem_cons_of_mem _ hu)
   obtain ⟨k, a, t, q, c⟩ := x
   simp only [In1.c] at h1
   rw [nIs, In1.szs, In1.sz1, List.length_cons]; omega
 have := kI ins ih
 omega
theorem z84 : ∀ l : List Cd, 0 ≤ nCs l ∧ nCs l ≤ Cd.szs l
 | [] => by simp [nCs, Cd.szs]
 | d :: l => by have h1 := z6p d; have h2 := z84 l; rw [nCs, Cd.szs]; omega
theorem zcg : ∀ l : List In1, 0 ≤ nIs l ∧ nIs l + l.length ≤ In1.szs l
 | [] => by simp [nIs, In1.szs]
 | .mk k a t q c :: l => by have h1 := z84 c; have h2 := zcg l; rw [nIs, In1.szs, In1.sz1, List.length_cons]; omega
def szF (c : Cd) (n : Int) : Int := n + nIns c
def szI (l : List In1) (n : Int) : Int := n + nIs l
def szC (l : List Cd) (n : Int) : Int := n + nCs l
theorem szF_eq (c : Cd) (n : Int) : szF c n = szI c.ins (n + c.ins.length) := by cases c; simp only [szF, szI, nIns, Cd.ins]; omega
theorem szI_cons (x : In1) (l : List In1) (n : Int) : szI (x :: l) n = szI l (szC x.c n) := by cases x; simp only [szC, szI, nIs, In1.c]; omega
theorem szI_nil (n : Int) : szI [] n = n := by simp only [szI, nIs]; omega
theorem szC_cons (x : Cd) (l : List Cd) (n : Int) : szC (x :: l) n = szC l (szF x n) := by simp only [szC, szF, nCs]; omega
theorem szC_nil (n : Int) : szC [] n = n := by simp only [szC, nCs]; omega
theorem mSl_eq (c : Cd) (n : Int) : mSl c n = mSlI c.ins (z0d [n, c.sl]) := by cases c; rw [mSl]; rfl
theorem zgv (x : In1) (l : List In1) (n : Int) : mSlI (x :: l) n = mSlI l (mSlC x.c n) := by cases x; rw [mSlI]; rfl
theorem mSlI_nil (n : Int) : mSlI [] n = n := by rw [mSlI]
theorem zjg (x : Cd) (l : List Cd) (n : Int) : mSlC (x :: l) n = mSlC l (mSl x n) := by rw [mSlC]
theorem mSlC_nil (n : Int) : mSlC [] n = n := by rw [mSlC]
abbrev z5z (f : Nat) : TV := .c (.fn (.func f) [] [(false, [.ep 0 1 0 0])])
theorem c_csize1 (c : Cd) (n : Int) (hz : c.sz ≤ B) (h : 0 ≤ n ∧ n ≤ M61) : AC Tryd.prog 24 [aC c, .c (.a (.ep 0 1 0 0))] [obN n] (.tup []) [obN (n + c.ins.length)] := by
 have z2 := In1.szs_length c.ins
 have z3 : In1.szs c.ins ≤ B := by cases c; simp only [Cd.sz, Cd.ins, B] at *; omega
 simp only [B, M61] at *
 refine AC.vc hP sh lv24 (Nat.le_refl _) (by simp [isLive]) (by simp) (Eq.mpr (v24 ..) ?_)
 rw [z04, w64 (by omega) (by omega)]
 exact ⟨rfl, .refl _, rfl⟩
theorem zir (c : Cd) (n : Int) (hz : c.sz ≤ B) (h : True) : AC Tryd.prog 25 [aC c, .c (.a (.ep 0 1 0 0))] [obN n] (.tup []) [obN (z0d [n, c.sl])] := by
 refine AC.vc hP sh lv25 (Nat.le_refl _) (by simp [isLive]) (by simp) (Eq.mpr (v25 ..) ?_)
 exact ⟨.refl _, rfl⟩
theorem z4u (ins : List In1) (x : In1) (i : Int) (r : Int) (h0 : 0 ≤ i) (h1 : i ≤ B) : ∀ (b a : List Cd) (n : Int), x.c = a ++ b → x.c.length ≤ B → (∀ d ∈ b, ∀ n : Int, (0 ≤ n ∧ n + nIns d ≤ M61) → AC Tryd.prog 23 [aC d, z5z 24] [obN n] (.tup []) [obN (szF d n)]) → (0 ≤ n ∧ n + nCs b ≤ M61) →
  RPt Tryd.prog 23 1 (.tup []) [obN r] 1 ⟨[(1, z5z 24), (12, .c (.a (.fz (.sl false 8 (FIs ins))))), (13, ci ins.length), (14, ci (i + 1))], [(0, obN (szC b n))], 1⟩ →
  RPt Tryd.prog 23 1 (.tup []) [obN r] 5 ⟨[(1, z5z 24), (12, .c (.a (.fz (.sl false 8 (FIs ins))))), (13, ci ins.length), (14, ci i), (19, aCs x.c), (20, ci x.c.length), (21, ci a.length)], [(0, obN n)], 1⟩
 | [], a, n, hx, hB, ih, hL, hk => by
  refine RPt.vc hP sh lv23 (Eq.mpr (z8d ..) ?_)
  simp only [B] at h1
  rw [szC_nil] at hk
  rw [w64 (x := i + 1) (by omega) (by omega)]
  refine z00 (fun h => absurd (of_decide_eq_true h) ?_) (fun _ => hk)
  rw [hx]; simp
 | d :: b, a, n, hx, hB, ih, hL, hk => by
  simp only [B] at hB h1
  have hn := z6p d
  have hm := z84 b
  have hc := ih d List.mem_cons_self n (by first | trivial | (simp only [nCs] at hL; omega))
  rw [szC_cons] at hk
  have next := z4u ins x i r h0 (by simp only [B]; omega) b (a ++ [d]) (szF d n) (by rw [hx]; simp) (by simp only [B]; omega) (fun u hu => ih u (List.mem_cons_of_mem _ hu)) (by first | trivial | (simp only [nCs, szF] at *; omega)) hk
  rw [nx] at next
  have hla : a.length < x.c.length := by rw [hx]; simp
  refine RPt.vc hP sh lv23 (Eq.mpr (z8d ..) ?_)
  have e : List.getD (FV.ses (.sl false 6 (FCs x.c))) (Int.toNat (a.length : Int)) [] = FC d := by rw [hx]; exact z8l a d b
  rw [e, w64 (x := (a.length : Int) + 1) (by omega) (by omega)]
  refine z00 (fun _ => ⟨⟨rfl, by omega, by show (a.length : Int) < (((FCs x.c).length : Nat) : Int); rw [z09]; omega, z8h d⟩, _, by rw [show (TV.agg [.a (.fz (.str (FV.asS (List.getD (FC d) 0 FV.nils)))), .a (.fz (.int .i64 (FV.asI (List.getD (FC d) 1 FV.nils)))), .a (.fz (.int .i64 (FV.asI (List.getD (FC d) 2 FV.nils)))), .a (.fz (.int .i64 (FV.asI (List.getD (FC d) 3 FV.nils)))), .a (.fz (.int .i64 (FV.asI (List.getD (FC d) 4 FV.nils)))), .a (.fz (List.getD (FC d) 5 FV.nils))]) = aC d from z77 d]; exact hc, next⟩) (fun h => absurd (of_decide_eq_false h) (by omega))
theorem z4n (ins : List In1) (hB : In1.szs ins ≤ B) : ∀ (b a : List In1) (n : Int), ins = a ++ b → (∀ x ∈ b, ∀ d ∈ x.c, ∀ n : Int, (0 ≤ n ∧ n + nIns d ≤ M61) → AC Tryd.prog 23 [aC d, z5z 24] [obN n] (.tup []) [obN (szF d n)]) → (0 ≤ n ∧ n + nIs b ≤ M61) →
  RPt Tryd.prog 23 1 (.tup []) [obN (szI b n)] 1 ⟨[(1, z5z 24), (12, .c (.a (.fz (.sl false 8 (FIs ins))))), (13, ci ins.length), (14, ci a.length)], [(0, obN n)], 1⟩
 | [], a, n, hx, ih, hI => by
  refine RPt.vc hP sh lv23 (Eq.mpr (z90 ..) ?_)
  rw [szI_nil]
  refine z00 (fun h => absurd (of_decide_eq_true h) ?_) (fun _ => ⟨.refl _, rfl⟩)
  rw [hx]; simp
 | x :: b, a, n, hx, ih, hI => by
  have z1 : In1.sz1 x ≤ In1.szs ins := In1.szs_mem (by rw [hx]; simp)
  have z2 := In1.szs_length ins
  have z3 := Cd.szs_length x.c
  have z4 : Cd.szs x.c ≤ In1.sz1 x := by cases x; simp only [In1.c, In1.sz1]; omega
  simp only [B] at hB
  have hla : a.length < ins.length := by rw [hx]; simp
  have hn := z84 x.c
  have hm := zcg b
  have e0 : nIs (x :: b) = nCs x.c + nIs b := by cases x; rw [nIs]; rfl
  rw [szI_cons]
  have next := z4n ins (by simp only [B]; omega) b (a ++ [x]) (szC x.c n) (by rw [hx]; simp) (fun y hy => ih y (List.mem_cons_of_mem _ hy)) (by first | trivial | (simp only [szC] at *; omega))
  rw [nx] at next
  have h5 := z4u ins x a.length (szI b (szC x.c n)) (by omega) (by simp only [B]; omega) x.c [] n (by simp) (by simp only [B]; omega) (ih x List.mem_cons_self) (by first | trivial | omega) next
  have e : List.getD (FIs ins) (Int.toNat (a.length : Int)) [] = FI x := by rw [hx]; exact z3z a x b
  refine RPt.vc hP sh lv23 (Eq.mpr (z90 ..) ?_)
  rw [e]
  simp only [FI0, FI1, FI2, FI3, FI4, FI5, FI6, FI7]
  refine z00 (fun _ => ⟨el8 ins a.length (by omega) (by omega) x, rfl, ?_⟩) (fun h => absurd (of_decide_eq_false h) (by omega))
  rw [show (((FV.ses (.sl false 6 (FCs x.c))).length : Nat) : Int) = (x.c.length : Int) by show (((FCs x.c).length : Nat) : Int) = _; rw [z09]]
  exact h5
theorem zba : ∀ c : Cd, c.sz ≤ B → ∀ n : Int, (0 ≤ n ∧ n + nIns c ≤ M61) → AC Tryd.prog 23 [aC c, z5z 24] [obN n] (.tup []) [obN (szF c n)] := by
 refine Cd.ind fun c ih hz n hT => ?_
 have z2 := In1.szs_length c.ins
 have z3 : In1.szs c.ins ≤ B := by cases c; simp only [Cd.sz, Cd.ins, B] at *; omega
 have hn := zcg c.ins
 have e0 : nIns c = (c.ins.length : Int) + nIs c.ins := by cases c; rw [nIns]; rfl
 have h1 := c_csize1 c n hz (by first | trivial | omega)
 have h := z4n c.ins z3 c.ins [] (n + c.ins.length) rfl (fun x hx d hd n hn => ih x hx d hd (by
  have a1 := In1.szs_mem hx
  have a2 := Cd.szs_mem hd
  cases x
  simp only [In1.sz1, In1.c] at *
  omega) n hn) (by first | trivial | omega)
 rw [szF_eq]
 refine AC.vc hP sh lv23 (Nat.le_refl _) (by simp [isLive]) (by simp) (Eq.mpr (v23_F24 ..) ?_)
 rw [z04]
 exact ⟨_, h1, rfl, h⟩
theorem z3v (ins : List In1) (x : In1) (i : Int) (r : Int) (h0 : 0 ≤ i) (h1 : i ≤ B) : ∀ (b a : List Cd) (n : Int), x.c = a ++ b → x.c.length ≤ B → (∀ d ∈ b, ∀ n : Int, True → AC Tryd.prog 23 [aC d, z5z 25] [obN n] (.tup []) [obN (mSl d n)]) → True →
  RPt Tryd.prog 23 1 (.tup []) [obN r] 1 ⟨[(1, z5z 25), (12, .c (.a (.fz (.sl false 8 (FIs ins))))), (13, ci ins.length), (14, ci (i + 1))], [(0, obN (mSlC b n))], 1⟩ →
  RPt Tryd.prog 23 1 (.tup []) [obN r] 5 ⟨[(1, z5z 25), (12, .c (.a (.fz (.sl false 8 (FIs ins))))), (13, ci ins.length), (14, ci i), (19, aCs x.c), (20, ci x.c.length), (21, ci a.length)], [(0, obN n)], 1⟩
 | [], a, n, hx, hB, ih, hL, hk => by
  refine RPt.vc hP sh lv23 (Eq.mpr (z8j ..) ?_)
  simp only [B] at h1
  rw [mSlC_nil] at hk
  rw [w64 (x := i + 1) (by omega) (by omega)]
  refine z00 (fun h => absurd (of_decide_eq_true h) ?_) (fun _ => hk)
  rw [hx]; simp
 | d :: b, a, n, hx, hB, ih, hL, hk => by
  simp only [B] at hB h1
  have hn := z6p d
  have hm := z84 b
  have hc := ih d List.mem_cons_self n (by first | trivial | (simp only [nCs] at hL; omega))
  rw [zjg] at hk
  have next := z3v ins x i r h0 (by simp only [B]; omega) b (a ++ [d]) (mSl d n) (by rw [hx]; simp) (by simp only [B]; omega) (fun u hu => ih u (List.mem_cons_of_mem _ hu)) (by first | trivial | (simp only [nCs, szF] at *; omega)) hk
  rw [nx] at next
  have hla : a.length < x.c.length := by rw [hx]; simp
  refine RPt.vc hP sh lv23 (Eq.mpr (z8j ..) ?_)
  have e : List.getD (FV.ses (.sl false 6 (FCs x.c))) (Int.toNat (a.length : Int)) [] = FC d := by rw [hx]; exact z8l a d b
  rw [e, w64 (x := (a.length : Int) + 1) (by omega) (by omega)]
  refine z00 (fun _ => ⟨⟨rfl, by omega, by show (a.length : Int) < (((FCs x.c).length : Nat) : Int); rw [z09]; omega, z8h d⟩, _, by rw [show (TV.agg [.a (.fz (.str (FV.asS (List.getD (FC d) 0 FV.nils)))), .a (.fz (.int .i64 (FV.asI (List.getD (FC d) 1 FV.nils)))), .a (.fz (.int .i64 (FV.asI (List.getD (FC d) 2 FV.nils)))), .a (.fz (.int .i64 (FV.asI (List.getD (FC d) 3 FV.nils)))), .a (.fz (.int .i64 (FV.asI (List.getD (FC d) 4 FV.nils)))), .a (.fz (List.getD (FC d) 5 FV.nils))]) = aC d from z77 d]; exact hc, next⟩) (fun h => absurd (of_decide_eq_false h) (by omega))
theorem z3u (ins : List In1) (hB : In1.szs ins ≤ B) : ∀ (b a : List In1) (n : Int), ins = a ++ b → (∀ x ∈ b, ∀ d ∈ x.c, ∀ n : Int, True → AC Tryd.prog 23 [aC d, z5z 25] [obN n] (.tup []) [obN (mSl d n)]) → True →
  RPt Tryd.prog 23 1 (.tup []) [obN (mSlI b n)] 1 ⟨[(1, z5z 25), (12, .c (.a (.fz (.sl false 8 (FIs ins))))), (13, ci ins.length), (14, ci a.length)], [(0, obN n)], 1⟩
 | [], a, n, hx, ih, hI => by
  refine RPt.vc hP sh lv23 (Eq.mpr (z8f ..) ?_)
  rw [mSlI_nil]
  refine z00 (fun h => absurd (of_decide_eq_true h) ?_) (fun _ => ⟨.refl _, rfl⟩)
  rw [hx]; simp
 | x :: b, a, n, hx, ih, hI => by
  have z1 : In1.sz1 x ≤ In1.szs ins := In1.szs_mem (by rw [hx]; simp)
  have z2 := In1.szs_length ins
  have z3 := Cd.szs_length x.c
  have z4 : Cd.szs x.c ≤ In1.sz1 x := by cases x; simp only [In1.c, In1.sz1]; omega
  simp only [B] at hB
  have hla : a.length < ins.length := by rw [hx]; simp
  have hn := z84 x.c
  have hm := zcg b
  have e0 : nIs (x :: b) = nCs x.c + nIs b := by cases x; rw [nIs]; rfl
  rw [zgv]
  have next := z3u ins (by simp only [B]; omega) b (a ++ [x]) (mSlC x.c n) (by rw [hx]; simp) (fun y hy => ih y (List.mem_cons_of_mem _ hy)) (by first | trivial | (simp only [szC] at *; omega))
  rw [nx] at next
  have h5 := z3v ins x a.length (mSlI b (mSlC x.c n)) (by omega) (by simp only [B]; omega) x.c [] n (by simp) (by simp only [B]; omega) (ih x List.mem_cons_self) (by first | trivial | omega) next
  have e : List.getD (FIs ins) (Int.toNat (a.length : Int)) [] = FI x := by rw [hx]; exact z3z a x b
  refine RPt.vc hP sh lv23 (Eq.mpr (z8f ..) ?_)
  rw [e]
  simp only [FI0, FI1, FI2, FI3, FI4, FI5, FI6, FI7]
  refine z00 (fun _ => ⟨el8 ins a.length (by omega) (by omega) x, rfl, ?_⟩) (fun h => absurd (of_decide_eq_false h) (by omega))
  rw [show (((FV.ses (.sl false 6 (FCs x.c))).length : Nat) : Int) = (x.c.length : Int) by show (((FCs x.c).length : Nat) : Int) = _; rw [z09]]
  exact h5
theorem z9v : ∀ c : Cd, c.sz ≤ B → ∀ n : Int, True → AC Tryd.prog 23 [aC c, z5z 25] [obN n] (.tup []) [obN (mSl c n)] := by
 refine Cd.ind fun c ih hz n hT => ?_
 have z2 := In1.szs_length c.ins
 have z3 : In1.szs c.ins ≤ B := by cases c; simp only [Cd.sz, Cd.ins, B] at *; omega
 have hn := zcg c.ins
 have e0 : nIns c = (c.ins.length : Int) + nIs c.ins := by cases c; rw [nIns]; rfl
 have h1 := zir c n hz (by first | trivial | omega)
 have h := z3u c.ins z3 c.ins [] (z0d [n, c.sl]) rfl (fun x hx d hd n hn => ih x hx d hd (by
  have a1 := In1.szs_mem hx
  have a2 := Cd.szs_mem hd
  cases x
  simp only [In1.sz1, In1.c] at *
  omega) n hn) (by first | trivial | omega)
 rw [mSl_eq]
 refine AC.vc hP sh lv23 (Nat.le_refl _) (by simp [isLive]) (by simp) (Eq.mpr (v23_F25 ..) ?_)
 rw [z04]
 exact ⟨_, h1, rfl, h⟩
theorem zcq (c : Cd) (hz : c.sz ≤ B) : AC Tryd.prog 8 [aC c] [] (ci (nIns c)) [] := by
 have hn := z6p c
 have h := zba c hz 0 (by simp only [B, M61] at *; omega)
 refine AC.vc hP sh lv8 (Nat.le_refl _) (by simp) (by simp) (Eq.mpr (v8 ..) ?_)
 exact ⟨_, h, z2l (by rw [szF]; omega)⟩
theorem c_cslots (c : Cd) (hz : c.sz ≤ B) : AC Tryd.prog 10 [aC c] [] (ci (mSl c c.sl)) [] := by
 have h := z9v c hz c.sl trivial
 refine AC.vc hP sh lv10 (Nat.le_refl _) (by simp) (by simp) (Eq.mpr (v10 ..) ?_)
 exact ⟨_, h, z2l rfl⟩
end Go.AM

set_option maxRecDepth 100000
open Go Go.Proofs
namespace Go.AM
open Go.RowKit Go.Lib in
set_option maxHeartbeats 1000000 in
theorem zdj (b : Nat) (w : World) (h0 : w.cell? ⟨b, 0, none⟩ = some (.pointer (some ⟨b, 0, none⟩))) :
  Calls Tryd.prog 54 #[.pointer (some ⟨b, 0, none⟩)] w fun e w' => e = .returned (.tuple #[]) ∧ w' = w := by
 obtain ⟨j, hj, _⟩ := Option.map_eq_some_iff.1 (show (Tryd.prog.info? 49).map (·.size) = some 2 by kernel_rfl)
 go_enter Tryd.func54, Tryd.ntmps54
 go_wp2
 rw [Lib.run_neq_ptr_same w _ (show Tryd.prog.underlying 46 = some (.pointer 49) by kernel_rfl) hj]
 go_wp2
 go_end0
 exact ⟨rfl, rfl⟩
open Go.RowKit Go.Lib in
set_option maxHeartbeats 1000000 in
theorem zbk (b : Nat) (w : World) (h0 : w.cell? ⟨b, 0, none⟩ = some (.pointer none)) (hsh : w.shape? b = some (49, 2)) (hfz : w.frozen? ⟨b, 0, none⟩ = false) :
  Calls Tryd.prog 54 #[.pointer (some ⟨b, 0, none⟩)] w fun e w' => e = .returned (.tuple #[]) ∧ w' = w.setCell ⟨b, 0, none⟩ (.pointer (some ⟨b, 0, none⟩)) := by
 obtain ⟨j, hj, hjs⟩ := Option.map_eq_some_iff.1 (show (Tryd.prog.info? 49).map (·.size) = some 2 by kernel_rfl)
 have tP : Tryd.prog.underlying 46 = some (.pointer 49) := by kernel_rfl
 have tU : Tryd.prog.underlying 95 = some .unsafePointer := by kernel_rfl
 go_enter Tryd.func54, Tryd.ntmps54
 go_wp2
 rw [Lib.run_to_unsafe w ⟨b, 0, none⟩ tP tU hj (by rw [hjs]; decide) hsh (Nat.zero_lt_succ 1)]
 simp only [Result.andThen]
 rw [Oper.upon_value]
 go_wp2
 rw [run_callFunc_extern Tryd.func77 (by kernel_rfl) (by kernel_rfl) (by kernel_rfl) (e := Extern.AbiNoEscape.same) (by kernel_rfl)]
 rw [Lib.run_noEscape]
 simp only [Result.andThen]
 rw [Oper.upon_value]
 go_wp2
 rw [Lib.run_from_unsafe w ⟨b, 0, none⟩ tU tP hj hsh (by kernel_rfl)]
 simp only [Result.andThen]
 rw [Oper.upon_value]
 go_wp2
 go_end0
 exact ⟨rfl, rfl⟩
open Go.RowKit Go.Lib in
set_option maxHeartbeats 1000000 in
theorem zal : BW Tryd.prog 26 49 5 := by
 intro b p v bs s w hb hp hown hne hlen
 obtain ⟨i0, hi, hz0, hz1, hz2⟩ := info_parts (show (Tryd.prog.info? 5).map (fun i => (i.zero, i.size, i.bytes)) = some (some (.int .u8 0), 1, 1) by kernel_rfl)
 have tS : Tryd.prog.underlying 47 = some (.slice 5) := by kernel_rfl
 have tR : Tryd.prog.underlying 9 = some .string := by kernel_rfl
 have hba : BuilderAt 49 5 0 b p bs w := ⟨Nat.zero_le _, v, hb, hown, hne⟩
 have cC : Calls Tryd.prog 54 #[.pointer (some ⟨b, 0, none⟩)] w fun e w' => e = .returned (.tuple #[]) ∧ w' = w.setCell ⟨b, 0, none⟩ (.pointer (some ⟨b, 0, none⟩)) := by
  rcases hp with rfl | rfl
  · exact zbk b w hba.cell0 hba.shape hba.frozen0
  · refine (zdj b w hba.cell0).mono ?_
    rintro e w' ⟨rfl, hw⟩
    exact ⟨rfl, hw.trans (zbh hb rfl).symm⟩
 have hlt : b < w.heap.size := hba.lt
 have hb1 : (w.setCell ⟨b, 0, none⟩ (.pointer (some ⟨b, 0, none⟩))).heap[b]? = some (.cells #[.pointer (some ⟨b, 0, none⟩), v] 49 (0, 0)) := by
  simp [World.setCell, Array.getElem?_modify, hb]
 have hown1 : (w.setCell ⟨b, 0, none⟩ (.pointer (some ⟨b, 0, none⟩))).ownsRow 0 5 1 v bs.length bs := by
  obtain ⟨_, v1, q1, q2, _⟩ := hba.used (.pointer (some ⟨b, 0, none⟩))
  rw [hb1] at q1
  simp at q1
  rw [q1]; exact q2
 have hsz : (w.setCell ⟨b, 0, none⟩ (.pointer (some ⟨b, 0, none⟩))).heap.size = w.heap.size := by simp [World.setCell]
 have eC : ∀ args w, (callFunc 54 args).run Tryd.prog w = .ok (.enter 54 args) w := enters_of Tryd.func54 (by kernel_rfl) rfl
 go_enter Tryd.func26, Tryd.ntmps26
 go_wp2_with (go_at_fn 54; refine cC.mono ?_)
 rintro e w1 ⟨rfl, rfl⟩
 generalize hw1 : w.setCell ⟨b, 0, none⟩ (.pointer (some ⟨b, 0, none⟩)) = w1 at *
 have c0 : w1.cell? ⟨b, 0, none⟩ = some (.pointer (some ⟨b, 0, none⟩)) := by rw [Lib.cell_of_heap hb1]; rfl
 have c1 : w1.cell? ⟨b, 1, none⟩ = some v := by rw [Lib.cell_of_heap hb1]; rfl
 go_wp2_with (at_builtin; refine zfz rfl _ _ 47 9 rfl 5 i0 tS tR hi hz0 hz1 hz2 v bs.length bs rfl hown1 s rfl hlen ?_)
 intro v' w2 hk
 have hb2 : w2.heap[b]? = some (.cells #[.pointer (some ⟨b, 0, none⟩), v] 49 (0, 0)) := by
  rw [hk.blk b (by rw [hsz]; exact hlt) hne]; exact hb1
 have d0 : w2.cell? ⟨b, 0, none⟩ = some (.pointer (some ⟨b, 0, none⟩)) := by rw [Lib.cell_of_heap hb2]; rfl
 have d1 : w2.cell? ⟨b, 1, none⟩ = some v := by rw [Lib.cell_of_heap hb2]; rfl
 have f1 : w2.frozen? ⟨b, 1, none⟩ = false := Lib.frozen_of_heap hb2 1
 obtain ⟨ao, n', cap, rfl⟩ : ∃ ao n' cap, v' = .slice ao n' cap := by
  rcases hk.own.2 with ⟨hv, _⟩ | ⟨g, cap, cur, hv, _⟩
  · exact ⟨_, _, _, hv⟩
  · exact ⟨_, _, _, hv⟩
 go_wp2
 go_ret2
 exact ⟨rfl, w2, _, by rw [hw1]; exact hk, hb2, rfl⟩
open Go.RowKit Go.Lib in
set_option maxHeartbeats 1000000 in
theorem bstr_ok : BS Tryd.prog 29 49 5 := by
 intro b g cap p cur l w hbk hown hg hnc hcm hcs h0
 have hl0 : l.length ≠ 0 := by simpa using h0
 have c1 : w.drew.cell? ⟨b, 1, none⟩ = some (.slice (some ⟨g, 0, none⟩) l.length cap) := by
  have : w.drew.heap[b]? = some (.cells #[p, .slice (some ⟨g, 0, none⟩) l.length cap] 49 (0, 0)) := hbk
  rw [Lib.cell_of_heap this]; rfl
 have hSD : (Builtin.unsafeSliceData_ #[47] 83 #[.slice (some ⟨g, 0, none⟩) l.length cap]).run Tryd.prog w.drew = .ok (.pointer (some ⟨g, 0, none⟩)) w.drew :=
  Lib.run_unsafeSliceData_row _ _ _ _ _ _ (by omega)
 have hUS : (Builtin.unsafeString_ #[83, 3] 9 #[.pointer (some ⟨g, 0, none⟩), .int .i64 l.length]).run Tryd.prog w.drew = .ok (.string ⟨l.toArray⟩) (w.drew.freeze ⟨g, 0, none⟩ l.length) := by
  refine Lib.run_unsafeString_row w.drew 83 3 9 5 (by kernel_rfl) (by kernel_rfl) g cur.size (by have hg' : w.drew.heap[g]? = some (.cells cur 5 (0, 0)) := hg; simp [World.shape?, hg']) l h0 (by omega) (by unfold maxLen at hcm; omega) ?_
  intro j x hx
  exact hown.cells (g := g) rfl j (.int .u8 x.toNat) (by simp [Lib.byteCells, hx])
 go_enter Tryd.func29, Tryd.ntmps29
 go_wp2
 go_region
 all_goals (go_wp2; go_ret; exact ⟨rfl, rfl⟩)
abbrev bob (l : List UInt8) (n : Nat) : AObj := .arr 2 [[.a (.bld 49 0), .a (.osb n 5 l.length)]]
theorem c_bw0 (s : List UInt8) (hs : s ≠ []) (hlen : s.length ≤ 140737488355328) : AC Tryd.prog 26 [.c (.a (.ep 0 2 0 0)), cs s] [.arr 2 [[.a (.bld 49 0), .a (.fz .nils)]]] (zc4 s.length) [bob s 1, .arz 1 (BR s)] := AM.c_bw0_ zal (by kernel_rfl) s hs hlen
theorem c_bw1 (l s : List UInt8) (hs : s ≠ []) (hlen : l.length + s.length ≤ 140737488355328) : AC Tryd.prog 26 [.c (.a (.ep 0 2 0 0)), cs s] [bob l 1, .arz 1 (BR l)] (zc4 s.length) [bob (l ++ s) 2, .gone, .arz 1 (BR (l ++ s))] := AM.c_bw1_ zal (by kernel_rfl) l s hs hlen
theorem c_bstr (l : List UInt8) (hs : l ≠ []) : AC Tryd.prog 29 [.c (.a (.ep 0 2 0 0))] [bob l 1, .arz 1 (BR l)] (cs l) [.gone, .gone] := AM.c_bstr_ bstr_ok (by kernel_rfl) l hs
end Go.AM

set_option maxRecDepth 100000
open Go Go.Proofs
namespace Go.AM
theorem tab_now {w : World} {X : Nat → Prop} (h : Gl Tryd.prog w X) : Lib.TabIs Tryd.prog w "internal/strconv.uint64pow10" .u64 Lib.pow10Tab := by
 have : (Tryd.prog.globalNamed "internal/strconv.uint64pow10").isSome = true := by kernel_rfl
 obtain ⟨g, hg⟩ := Option.isSome_iff_exists.1 this
 exact (h g hg).1
theorem zh9 (w : World) (foot : Nat → Prop) (k : Nat) (os : Array Obj) : Good w foot (Go.Sort.grow (w.drewN k) os) := by
 have e : ∀ b, b < w.heap.size → (w.heap ++ os)[b]? = w.heap[b]? := fun b hb => by rw [Array.getElem?_append_left hb]
 refine ⟨by simp [Go.Sort.grow, World.drewN], fun b hb _ => e b hb, fun b hb => ?_, rfl, rfl, rfl⟩
 show World.shape? { w with heap := w.heap ++ os, drawn := w.drawn + k } b = _
 simp only [World.shape?, e b hb]
theorem c_itoa (n : Int) (h0 : 0 ≤ n) (h1 : n ≤ 9223372036854775807) : AC Tryd.prog 55 [ci n] [] (cs (Lib.decDigits n.toNat)) [] := by
 refine ⟨by kernel_rfl, Nat.le_refl _, fun w us β Y g1 g2 gl g3 g4 => ?_⟩
 obtain ⟨u, us', rfl, k1, k2⟩ := g4.cons_inv
 rw [TRep.int_inv k1, k2.nil_inv]
 refine (Tryd.strconv_Itoa n (by omega) h1 w (tab_now gl)).mono fun e w' ⟨he, k, os, hw⟩ => ?_
 subst hw
 have hgood := zh9 w (Own (fun o => ([] : List AObj).getD o .gone) β) k os
 refine ⟨_, β, he, hgood, ⟨fun o b h => by simp [isLive] at h, fun o h => by simp [isLive] at h, fun o o' b h => by simp [isLive] at h, fun o b h => absurd (g1 o b h) (Nat.not_lt_zero _)⟩, ?_, g1, fun o ho => absurd ho (Nat.not_lt_zero _), fun o b _ hb => absurd (g1 o b hb) (Nat.not_lt_zero _)⟩
 rw [show Lib.itoa n = Lib.decDigits n.toNat from if_neg (by omega)]
 exact .a _ _ (.fz _ _ (.str _))
end Go.AM

set_option maxRecDepth 100000
open Go Go.Proofs
namespace Go.AM
theorem z2e (n : Int) (h : n ≤ 9223372036854775807) : AC Tryd.prog 27 [ci n] [] (cs (dgF n)) [] := by
 have h1 := c_itoa (max n 0) (by omega) (by omega)
 refine AC.vc hP sh lv27 (Nat.le_refl _) (by simp) (by simp) (Eq.mpr (v27 ..) ?_)
 exact ⟨_, h1, ret_r (.refl _)⟩
theorem c_cword (k : Int) : AC Tryd.prog 28 [ci k] [] (.tup [(false, [.a (.fz (.str (z41 k)))]), (false, [.a (.fz (.bool (useA k)))])]) [] := by
 refine AC.vc hP sh lv28 (Nat.le_refl _) (by simp) (by simp) (Eq.mpr (v28 ..) ?_)
 repeat' (refine z00 (fun _ => ?_) (fun _ => ?_))
 all_goals first
  | (refine ret_r (z4y ?_); simp_all [z41, useA, wordL]; done)
  | (simp only [beq_eq_false_iff_ne] at *; rw [show z41 k = [63] from by (unfold z41; rw [if_neg (by omega)])]; refine ⟨z4y ?_, by trivial⟩; simp_all [useA]; done)
theorem zhq (l s : List UInt8) (hs : s ≠ []) (hlen : l.length + s.length ≤ 1000000000000) : AC Tryd.prog 26 [.c (.a (.ep 0 2 0 0)), cs s] [bob l 1, .arz 1 (BR l)] (.tup [(false, [.a (.fz (.int .i64 (((s.length : Nat) : Int), l ++ s).1))]), (false, [.a (.fz (.cst .nilIface))])])
      [bob (((s.length : Nat) : Int), l ++ s).2 2, .gone, .arz 1 (BR (((s.length : Nat) : Int), l ++ s).2)] := c_bw1 l s hs (by omega)
abbrev txE (ins : List In1) (i : Int) : Env := [(3, .c (.a (.ep 0 2 0 0))), (35, .c (.a (.fz (.sl false 8 (FIs ins))))), (36, ci ins.length), (37, ci i)]
theorem zf3 (ins : List In1) (x : In1) (i : Int) (r : List UInt8) (h0 : 0 ≤ i) (h1 : i ≤ B) : ∀ (b a : List Cd) (l : List UInt8), x.c = a ++ b → x.c.length ≤ B → l ≠ [] → (∀ d ∈ b, AC Tryd.prog 12 [aC d] [] (cs (txF d)) []) → (l ++ txCs b).length ≤ 999999999999 →
  RPt Tryd.prog 12 0 (cs r) [] 1 ⟨txE ins (i + 1), [(0, bob (l ++ txCs b) 1), (1, .arz 1 (BR (l ++ txCs b)))], 2⟩ →
  RPt Tryd.prog 12 0 (cs r) [] 5 ⟨[(3, .c (.a (.ep 0 2 0 0))), (35, .c (.a (.fz (.sl false 8 (FIs ins))))), (36, ci ins.length), (37, ci i), (66, aCs x.c), (67, ci x.c.length), (68, ci a.length)], [(0, bob l 1), (1, .arz 1 (BR l))], 2⟩
 | [], a, l, hx, hB, hne, ih, hL, hk => by
  rw [txCs, List.append_nil] at hk
  simp only [B] at h1
  refine RPt.vc hP sh lv12 (Eq.mpr (v12_5a ..) ?_)
  rw [w64 (x := i + 1) (by omega) (by omega)]
  refine z00 (fun h => absurd (of_decide_eq_true h) ?_) (fun _ => hk)
  rw [hx]; simp
 | d :: b, a, l, hx, hB, hne, ih, hL, hk => by
  simp only [B] at hB h1
  have hla : a.length < x.c.length := by rw [hx]; simp
  rw [txCs, ← List.append_assoc] at hk hL
  have hc := ih d List.mem_cons_self
  have hd : txF d ≠ [] := by cases d; rw [txF]; simp
  have hL2 := hL
  simp only [List.length_append] at hL2
  have hw := zhq l (txF d) hd (by omega)
  have next := zf3 ins x i r h0 (by simp only [B]; omega) b (a ++ [d]) (l ++ txF d) (by rw [hx]; simp) (by simp only [B]; omega) (by simp [hne]) (fun u hu => ih u (List.mem_cons_of_mem _ hu)) hL hk
  rw [nx] at next
  have e : List.getD (FV.ses (.sl false 6 (FCs x.c))) (Int.toNat (a.length : Int)) [] = FC d := by rw [hx]; exact z8l a d b
  refine RPt.vc hP sh lv12 (Eq.mpr (v12_5a ..) ?_)
  rw [e, w64 (x := (a.length : Int) + 1) (by omega) (by omega)]
  refine z00 (fun _ => ⟨⟨rfl, by omega, by show (a.length : Int) < (((FCs x.c).length : Nat) : Int); rw [z09]; omega, z8h d⟩, _, by rw [show (TV.agg [.a (.fz (.str (FV.asS (List.getD (FC d) 0 FV.nils)))), .a (.fz (.int .i64 (FV.asI (List.getD (FC d) 1 FV.nils)))), .a (.fz (.int .i64 (FV.asI (List.getD (FC d) 2 FV.nils)))), .a (.fz (.int .i64 (FV.asI (List.getD (FC d) 3 FV.nils)))), .a (.fz (.int .i64 (FV.asI (List.getD (FC d) 4 FV.nils)))), .a (.fz (List.getD (FC d) 5 FV.nils))]) = aC d from z77 d]; exact hc, (_, _), hw, next⟩) (fun h => absurd (of_decide_eq_false h) (by omega))
theorem z9g (ins : List In1) (hB : In1.szs ins ≤ B) (ho : z7z ins) : ∀ (b a : List In1) (l : List UInt8), ins = a ++ b → l ≠ [] → (∀ x ∈ b, x.k = 14 → ∀ d ∈ x.c, (txF d).length ≤ 999999999999 → AC Tryd.prog 12 [aC d] [] (cs (txF d)) []) → (l ++ txIs a.length b).length ≤ 999999999999 →
  RPt Tryd.prog 12 0 (cs (l ++ txIs a.length b)) [] 1 ⟨txE ins a.length, [(0, bob l 1), (1, .arz 1 (BR l))], 2⟩
 | [], a, l, hx, hne, ih, hL => by
  rw [txIs, List.append_nil]
  have h1 := c_bstr l hne
  refine RPt.vc hP sh lv12 (Eq.mpr (v12_1a ..) ?_)
  refine z00 (fun h => absurd (of_decide_eq_true h) ?_) (fun _ => ⟨_, h1, ret_r (.refl _)⟩)
  rw [hx]; simp
 | x :: b, a, l, hx, hne, ih, hL => by
  have hxm : x ∈ ins := by rw [hx]; simp
  have z1 := In1.szs_mem hxm
  have z2 := In1.szs_length ins
  have z3 := Cd.szs_length x.c
  have z4 : Cd.szs x.c ≤ In1.sz1 x := by cases x; simp only [In1.c, In1.sz1]; omega
  have ox : (-9223372036854775808 ≤ x.a ∧ x.a ≤ 9223372036854775807) := by have := z6r ho hxm; cases x; rw [okIn] at this; exact this.2.1
  simp only [B] at hB
  have hla : a.length < ins.length := by rw [hx]; simp
  have e : List.getD (FIs ins) (Int.toNat (a.length : Int)) [] = FI x := by rw [hx]; exact z3z a x b
  have eT : txIs a.length (x :: b) = ([32] ++ dgF a.length ++ [32] ++ z41 x.k ++ (if useA x.k = true then [32] ++ dgF x.a else []) ++ [10]) ++ ((if x.k = 14 then txCs x.c else []) ++ txIs ((a.length : Int) + 1) b) := by cases x; rw [txIs]; rfl
  have c1 := c_cword x.k
  have c2 := z2e (a.length : Int) (by omega)
  have c3 := z2e x.a ox.2
  have d1 := z57 (n := (a.length : Int)) (by omega)
  have d2 := z57 ox.2
  have d3 := word_len x.k
  rw [eT] at hL ⊢
  have hL2 := hL
  simp only [List.length_append, List.length_singleton] at hL2
  have w1 := zhq l (([32] ++ dgF a.length) ++ [32] ++ z41 x.k) (by simp) (by simp only [List.length_append, List.length_singleton]; omega)
  have next : ∀ q : List UInt8, q = l ++ ([32] ++ dgF a.length ++ [32] ++ z41 x.k ++ (if useA x.k = true then [32] ++ dgF x.a else []) ++ [10]) →
    br (x.k != 14) (RPt Tryd.prog 12 0 (cs (l ++ (([32] ++ dgF a.length ++ [32] ++ z41 x.k ++ (if useA x.k = true then [32] ++ dgF x.a else []) ++ [10]) ++ ((if x.k = 14 then txCs x.c else []) ++ txIs ((a.length : Int) + 1) b)))) [] 1 ⟨txE ins ((a.length : Int) + 1), [(0, bob q 1), (1, .arz 1 (BR q))], 2⟩)
     (FV.isSl 6 (.sl false 6 (FCs x.c)) = true ∧ RPt Tryd.prog 12 0 (cs (l ++ (([32] ++ dgF a.length ++ [32] ++ z41 x.k ++ (if useA x.k = true then [32] ++ dgF x.a else []) ++ [10]) ++ ((if x.k = 14 then txCs x.c else []) ++ txIs ((a.length : Int) + 1) b)))) [] 5 ⟨[(3, .c (.a (.ep 0 2 0 0))), (35, .c (.a (.fz (.sl false 8 (FIs ins))))), (36, ci ins.length), (37, ci a.length), (66, aCs x.c), (67, ci (((FV.ses (.sl false 6 (FCs x.c))).length : Nat) : Int)), (68, ci 0)], [(0, bob q 1), (1, .arz 1 (BR q))], 2⟩) := fun q hq => by
   rw [← List.append_assoc] at hL ⊢
   rw [← hq] at hL ⊢
   have hqne : q ≠ [] := by rw [hq]; simp
   refine z00 (fun h => ?_) (fun h => ?_)
   · have h : ¬ x.k = 14 := by simpa using h
     rw [if_neg h, List.nil_append] at hL ⊢
     have := z9g ins (by simp only [B]; omega) ho b (a ++ [x]) q (by rw [hx]; simp) hqne (fun y hy => ih y (List.mem_cons_of_mem _ hy)) (by rw [nx]; exact hL)
     rw [nx] at this
     exact this
   · have h : x.k = 14 := by simpa using h
     rw [if_pos h] at hL ⊢
     rw [← List.append_assoc] at hL ⊢
     have hL3 := hL
     simp only [List.length_append] at hL3
     refine ⟨rfl, ?_⟩
     have := zf3 ins x a.length ((q ++ txCs x.c) ++ txIs ((a.length : Int) + 1) b) (by omega) (by simp only [B]; omega) x.c [] q (by simp) (by simp only [B]; omega) hqne (fun d hd => ih x List.mem_cons_self h d hd (by
      have : ∀ (m : List Cd), d ∈ m → (txF d).length ≤ (txCs m).length := by
       intro m
       induction m with
       | nil => intro h; cases h
       | cons e m ihm =>
        intro h
        rw [txCs, List.length_append]
        rcases List.mem_cons.1 h with rfl | h
        · omega
        · have := ihm h; omega
      have := this x.c hd
      omega)) (by simp only [List.length_append]; omega) (by
      have := z9g ins (by simp only [B]; omega) ho b (a ++ [x]) (q ++ txCs x.c) (by rw [hx]; simp) (by simp [hqne]) (fun y hy => ih y (List.mem_cons_of_mem _ hy)) (by rw [nx]; exact hL)
      rw [nx] at this
      exact this)
     rw [show (((FV.ses (.sl false 6 (FCs x.c))).length : Nat) : Int) = (x.c.length : Int) by show (((FCs x.c).length : Nat) : Int) = _; rw [z09]]
     exact this
  refine RPt.vc hP sh lv12 (Eq.mpr (v12_1a ..) ?_)
  rw [e]
  simp only [FI0, FI1, FI2, FI3, FI4, FI5, FI6, FI7]
  rw [w64 (x := (a.length : Int) + 1) (by omega) (by omega)]
  have need := el8 ins a.length (by omega) (by omega) x
  refine z00 (fun _ => ⟨need, _, _, c1, _, c2, by omega, by simp only [List.length_append, List.length_singleton]; omega, by simp only [List.length_append, List.length_singleton]; omega, (_, _), w1, z00 (fun h => ?_) (fun h => ?_)⟩) (fun h => absurd (of_decide_eq_false h) (by omega))
  · have hu : (if useA x.k = true then [32] ++ dgF x.a else []).length = (dgF x.a).length + 1 := by rw [if_pos h]; simp
    have w2 := zhq (l ++ (([32] ++ dgF a.length) ++ [32] ++ z41 x.k)) ([32] ++ dgF x.a) (by simp) (by simp only [List.length_append, List.length_singleton]; omega)
    have w3 := zhq ((l ++ (([32] ++ dgF a.length) ++ [32] ++ z41 x.k)) ++ ([32] ++ dgF x.a)) [10] (by simp) (by simp only [List.length_append, List.length_singleton]; omega)
    refine ⟨_, c3, by omega, (_, _), w2, (_, _), w3, next _ ?_⟩
    rw [if_pos h]; simp
  · have w3 := zhq (l ++ (([32] ++ dgF a.length) ++ [32] ++ z41 x.k)) [10] (by simp) (by simp only [List.length_append, List.length_singleton]; omega)
    refine ⟨(_, _), w3, next _ ?_⟩
    rw [if_neg (by rw [h]; simp)]; simp
theorem c_ctext : ∀ c : Cd, c.sz ≤ B → okCd c → (txF c).length ≤ 999999999999 → AC Tryd.prog 12 [aC c] [] (cs (txF c)) [] := by
 refine Cd.ind fun c ih hz ho hL => ?_
 have z3 : In1.szs c.ins ≤ B ∧ c.nm.length ≤ B := by cases c; simp only [Cd.sz, Cd.ins, Cd.nm, B] at *; omega
 have oc : c.ar ≤ 9223372036854775807 ∧ c.fr ≤ 9223372036854775807 ∧ c.vs ≤ 9223372036854775807 ∧ c.sl ≤ 9223372036854775807 ∧ z7z c.ins := by cases c; rw [okCd] at ho; exact ⟨ho.1.2, ho.2.1.2, ho.2.2.1.2, ho.2.2.2.1.2, ho.2.2.2.2⟩
 have eT : txF c = (c.nm ++ [47] ++ dgF c.ar ++ [32] ++ dgF c.fr ++ [32] ++ dgF c.vs ++ [32] ++ dgF c.sl ++ [10]) ++ txIs 0 c.ins := by cases c; rw [txF]; rfl
 rw [eT] at hL ⊢
 have hL2 := hL
 simp only [List.length_append, List.length_singleton] at hL2
 have d1 := z57 oc.1
 have d2 := z57 oc.2.1
 have d3 := z57 oc.2.2.1
 have d4 := z57 oc.2.2.2.1
 have w0 := c_bw0 (c.nm ++ [47] ++ dgF c.ar ++ [32] ++ dgF c.fr ++ [32] ++ dgF c.vs ++ [32] ++ dgF c.sl ++ [10]) (by simp) (by simp only [List.length_append, List.length_singleton]; omega)
 have h := z9g c.ins z3.1 oc.2.2.2.2 c.ins [] (c.nm ++ [47] ++ dgF c.ar ++ [32] ++ dgF c.fr ++ [32] ++ dgF c.vs ++ [32] ++ dgF c.sl ++ [10]) rfl (by simp) (fun x hx hk d hd hl => by
  have a1 := In1.szs_mem hx
  have a2 := Cd.szs_mem hd
  have o1 := z6r oc.2.2.2.2 hx
  refine ih x hx d hd ?_ ?_ hl
  · cases x
    simp only [In1.sz1, In1.c] at *
    omega
  · cases x
    rw [okIn] at o1
    exact zao o1.2.2.2.2 hd) hL
 simp only [B] at z3
 refine AC.vc hP sh lv12 (Nat.le_refl _) (by simp) (by simp) (Eq.mpr (v12 ..) ?_)
 refine ⟨by omega, _, z2e _ oc.1, ?_, ?_, _, z2e _ oc.2.1, ?_, ?_, _, z2e _ oc.2.2.1, ?_, ?_, _, z2e _ oc.2.2.2.1, ?_, ?_, (_, _), w0, rfl, ?_⟩
 all_goals try (simp only [List.length_append, List.length_singleton]; omega)
 rw [z04]
 exact h
end Go.AM

set_option maxRecDepth 100000
open Go Go.Proofs
namespace Go.AM
theorem z9u {b : Bool} {n : Nat} {es es' : List (List FV)} (h : All2 (All2 FV.Le) es es') : FV.Le (.sl b n es) (.sl b n es') := by
 have h1 := z2j h
 refine .rows b n es es' h1.1 (fun i e e' he he' => (z2j (h1.2 i e e' he he')).1) fun i j e e' f f' he he' hf hf' => (z2j (h1.2 i e e' he he')).2 j f f' hf hf'
theorem zer {xs ys : List WV} (h : All2 WV.Le xs ys) : TV.Le (.agg xs) (.agg ys) := by
 have h1 := z2j h
 exact .agg _ _ h1.1 h1.2
theorem w_fz {x y : FV} (h : FV.Le x y) : WV.Le (.a (.fz x)) (.a (.fz y)) := .a _ _ (.fz _ _ h)
abbrev rowI (k : Int) : List FV := [.int .i64 k, .int .i64 0, .int .i64 0, .str [], .int .i64 0, .nils, .nils, .nils]
theorem z9e (k : Int) : All2 FV.Le (rowI k) (FI (.mk k 0 (.mk 0 [] 0 []) [] [])) := by
 rw [FI]
 exact ⟨.refl _, .refl _, .refl _, .refl _, .refl _, .nils 4, .nils 4, .nils 6, trivial⟩
abbrev exCd : Cd := .mk [112] 1 0 0 0 [.mk 4 0 (.mk 0 [] 0 []) [] []]
abbrev exCe : Cd := .mk [112] 1 0 0 0 []
abbrev agX (f : FV) : TV := .agg [.a (.fz (.str [112])), .a (.fz (.int .i64 1)), .a (.fz (.int .i64 0)), .a (.fz (.int .i64 0)), .a (.fz (.int .i64 0)), .a (.fz f)]
theorem z9z : TV.Le (.agg [.a (.fz (.str [112])), .a (.fz (.int .i64 1)), .a (.fz (.int .i64 0)), .a (.fz (.int .i64 0)), .a (.fz (.int .i64 0)), .a (.fz (.sl false 8 [rowI 4]))]) (aC exCd) :=
 zer ⟨.refl _, .refl _, .refl _, .refl _, .refl _, w_fz (by show FV.Le _ (.sl false 8 (FIs [_])); rw [FIs, FIs]; exact z9u ⟨z9e 4, trivial⟩), trivial⟩
theorem le_exCe : TV.Le (.agg [.a (.fz (.str [112])), .a (.fz (.int .i64 1)), .a (.fz (.int .i64 0)), .a (.fz (.int .i64 0)), .a (.fz (.int .i64 0)), .a (.fz .nils)]) (aC exCe) :=
 zer ⟨.refl _, .refl _, .refl _, .refl _, .refl _, w_fz (by show FV.Le _ (.sl false 8 (FIs [])); rw [FIs]; exact .nils 8), trivial⟩
theorem zfl (k : Int) (c : List Cd) (h : nbCs c) : bd 2305843009213693952 (.mk 0 [] 0 []) ∧ (∀ u ∈ ([] : List Tm), bd 2305843009213693952 u) ∧ nbCs c := ⟨⟨(fun e => by cases e), trivial⟩, (fun u hu => by cases hu), h⟩
theorem c_cworks : AC Tryd.prog 5 [] [] (cb true) [] := by
 have hC : exCd.sz ≤ B := by simp [exCd, Cd.sz, In1.szs, In1.sz1, Tm.bk, Tm.bks, Cd.szs, B]
 have hD : exCe.sz ≤ B := by simp [exCe, Cd.sz, In1.szs, B]
 have n1 : nbC exCd := ⟨zfl 4 [] trivial, trivial⟩
 have n2 : nbC exCe := trivial
 have k1 := (z2f exCd hC n1).args (args := [agX (.sl false 8 [rowI 4])]) ⟨z9z, trivial⟩
 have k2 := (z2f exCe hD n2).args (args := [agX .nils]) ⟨le_exCe, trivial⟩
 have k3 := (zcq exCd hC).args (args := [agX (.sl false 8 [rowI 4])]) ⟨z9z, trivial⟩
 have k4 := (c_cslots exCd hC).args (args := [agX (.sl false 8 [rowI 4])]) ⟨z9z, trivial⟩
 have e0 : ∀ k : Nat, k < 10 → dgF k = [UInt8.ofNat (48 + k)] := by
  intro k hk
  unfold dgF
  rw [show (max (k : Int) 0).toNat = k by omega, Lib.decDigits, dif_pos hk]
 have d0 : dgF 0 = [48] := e0 0 (by omega)
 have d1 : dgF 1 = [49] := e0 1 (by omega)
 have eT : txF exCd = [112, 47, 49, 32, 48, 32, 48, 32, 48, 10, 32, 48, 32, 112, 114, 111, 99, 101, 101, 100, 10] := by
  rw [txF, txIs, txIs, d0, d1]; rfl
 have o1 : okCd exCd := by simp [okCd, z7z, okIn, okIs, okI, zb2]
 have k5 := (c_ctext exCd hC o1 (by rw [eT]; simp)).args (args := [agX (.sl false 8 [rowI 4])]) ⟨z9z, trivial⟩
 rw [eT] at k5
 have q1 : vC exCd = true := by decide
 have q2 : vC exCe = false := by decide
 have q3 : nIns exCd = 1 := by decide
 have q4 : mSl exCd exCd.sl = 0 := by decide
 rw [q1] at k1
 rw [q2] at k2
 rw [q3] at k3
 rw [q4] at k4
 refine AC.vc hP sh lv5 (Nat.le_refl _) (by simp) (by simp) (Eq.mpr (v5 ..) ?_)
 refine ⟨⟨rfl, Nat.le_refl _⟩, true, k1, false, k2, z00 (fun _ => z00 (fun _ => ⟨_, k3, z00 (fun _ => ⟨_, k4, z00 (fun _ => ⟨_, k5, z01 rfl⟩) (fun q => by cases q)⟩) (fun q => by cases q)⟩) (fun q => by cases q)) (fun q => by cases q)⟩
def zhu (c : Cd) : Bool := decide (((c.nm.length : Nat) : Int) > 60) || ziv c 60
theorem c_cover (c : Cd) (hz : c.sz ≤ B) : AC Tryd.prog 6 [aC c] [] (cb (zhu c)) [] := by
 have h := c_clarge c hz 60 (by omega) (by omega)
 refine AC.vc hP sh lv6 (Nat.le_refl _) (by simp) (by simp) (Eq.mpr (v6 ..) ?_)
 exact z00 (fun q => z01 (by rw [zhu, q]; rfl)) (fun q => ⟨_, h, z01 (by rw [zhu, q]; rfl)⟩)
theorem bad_near {t : Tm} {l : List Tm} (h : z7r t l = false) : bd 2305843009213693952 t ∧ ∀ u ∈ l, bd 2305843009213693952 u := by
 unfold z7r at h
 simp only [Bool.or_eq_false_iff, Bool.not_eq_false'] at h
 refine ⟨bd_le (by omega) _ (zcr t h.2.1), fun u hu => ?_⟩
 have h2 := h.2.2.2.2
 unfold badL at h2
 rw [List.any_eq_false] at h2
 have := h2 u hu
 simp only [Bool.or_eq_true, Bool.not_eq_true', not_or, Bool.not_eq_false] at this
 exact bd_le (by omega) _ (zcr u this.2)
mutual
theorem zhf : ∀ (c : Cd) (m : Int), 0 ≤ m → 0 ≤ z30 c m → nbC c
 | .mk nm ar fr vs sl ins, m, h0, h => by
  rw [z30] at h
  rw [nbC]
  exact zep ins (m - 1) (by omega) h
theorem zep : ∀ (l : List In1) (n : Int), 0 - 1 ≤ n → 0 ≤ z19 l n → nbIs l
 | [], _, _, _ => by rw [nbIs]; trivial
 | .mk k a t q c :: r, n, hn, h => by
  rw [z19] at h
  by_cases h1 : n < 0
  · rw [if_pos h1] at h; omega
  rw [if_neg h1] at h
  by_cases h2 : z7r t q = true
  · rw [if_pos h2] at h; omega
  rw [if_neg h2] at h
  have hb := z62 c (n - 1) (by omega)
  have h3 : 0 ≤ z0t c (n - 1) := by
   by_cases h4 : z0t c (n - 1) < 0
   · rw [zfa h4] at h; omega
   · omega
  have h4 := bad_near (t := t) (l := q) (by simpa using h2)
  rw [nbIs]
  refine ⟨⟨h4.1, h4.2, ?_⟩, zep r _ hb.1 h⟩
  exact zc9 c (n - 1) (by omega) h3
theorem zc9 : ∀ (l : List Cd) (n : Int), 0 - 1 ≤ n → 0 ≤ z0t l n → nbCs l
 | [], _, _, _ => by rw [nbCs]; trivial
 | c :: r, n, hn, h => by
  rw [z0t] at h
  by_cases h1 : n < 0
  · rw [if_pos h1] at h; omega
  rw [if_neg h1] at h
  have hb := zdn c n (by omega)
  have h3 : 0 ≤ z30 c n := by
   by_cases h4 : z30 c n < 0
   · cases r with
     | nil => rw [z0t] at h; exact h
     | cons d r => rw [z0t, if_pos h4] at h; omega
   · omega
  rw [nbCs]
  exact ⟨zhf c n (by omega) h3, zc9 r _ hb.1 h⟩
end
theorem over_nb {c : Cd} (h : zhu c = false) : nbC c ∧ c.nm.length ≤ 60 ∧ 0 ≤ z30 c 60 := by
 unfold zhu ziv at h
 simp only [Bool.or_eq_false_iff, decide_eq_false_iff_not] at h
 exact ⟨zhf c 60 (by omega) (by omega), by omega, by omega⟩
abbrev rowC (c : Cd) : List FV := [.str c.nm, .int .i64 c.ar, .int .i64 c.fr, .int .i64 c.vs, .int .i64 c.sl, .sl false 8 (FIs c.ins)]
abbrev arC (c : Cd) : Cd := .mk [113] 0 0 0 (z0d [c.fr, 0]) [.mk 14 0 (.mk 0 [] 0 []) [] [c, c], .mk 15 0 (.mk 0 [] 0 []) [] [], .mk 4 0 (.mk 0 [] 0 []) [] []]
abbrev leC (c : Cd) : Cd := .mk [113] 0 0 0 (z0d [c.fr, 0]) [.mk 14 0 (.mk 0 [] 0 []) [] [c, c], .mk 4 0 (.mk 0 [] 0 []) [] []]
abbrev rowA (c : Cd) : List FV := [.int .i64 14, .int .i64 0, .int .i64 0, .str [], .int .i64 0, .nils, .nils, .sl false 6 [rowC c, rowC c]]
theorem ziy (c : Cd) : All2 FV.Le (rowA c) (FI (.mk 14 0 (.mk 0 [] 0 []) [] [c, c])) := by
 rw [FI, FCs, FCs, FCs, FC_eta]
 exact ⟨.refl _, .refl _, .refl _, .refl _, .refl _, .nils 4, .nils 4, .refl _, trivial⟩
abbrev agA (c : Cd) (rows : List (List FV)) : TV := .agg [.a (.fz (.str [113])), .a (.fz (.int .i64 0)), .a (.fz (.int .i64 0)), .a (.fz (.int .i64 0)), .a (.fz (.int .i64 (z0d [c.fr, 0]))), .a (.fz (.sl false 8 rows))]
theorem le_arC (c : Cd) : TV.Le (agA c [rowA c, rowI 15, rowI 4]) (aC (arC c)) :=
 zer ⟨.refl _, .refl _, .refl _, .refl _, .refl _, w_fz (by show FV.Le _ (.sl false 8 (FIs [_, _, _])); rw [FIs, FIs, FIs, FIs]; exact z9u ⟨ziy c, z9e 15, z9e 4, trivial⟩), trivial⟩
theorem le_leC (c : Cd) : TV.Le (agA c [rowA c, rowI 4]) (aC (leC c)) :=
 zer ⟨.refl _, .refl _, .refl _, .refl _, .refl _, w_fz (by show FV.Le _ (.sl false 8 (FIs [_, _])); rw [FIs, FIs, FIs]; exact z9u ⟨ziy c, z9e 4, trivial⟩), trivial⟩
theorem zix (c : Cd) (hz : c.sz ≤ 137438953472) (hn : nbC c) (hv : vC c = true) (slots : Int) (h0 : 0 ≤ slots) (h1 : slots ≤ 100) : ∀ (b a : List In1), c.ins = a ++ b →
  RPt Tryd.prog 3 0 (cb true) [] 1 ⟨[(1, ci slots), (2, .c (.a (.ep 0 6 0 0))), (5, cb true), (8, ci a.length)], [(0, obC c)], 1⟩
 | [], a, hx => by
  have hc : -1 ≤ c.sl ∧ c.sl ≤ 4096 := by
   obtain ⟨nm, ar, fr, vs, sl, ins⟩ := c
   rw [vC] at hv
   simp only [Bool.and_eq_true] at hv
   have := of_decide_eq_true hv.2.1
   simp only [Cd.sl]; omega
  obtain ⟨d, hd⟩ : ∃ d : Cd, d = .mk c.nm c.ar c.fr c.vs (c.sl + slots) c.ins := ⟨_, rfl⟩
  have zd : d.sz ≤ B := by rw [hd]; cases c; simp only [Cd.sz, Cd.nm, Cd.ins, B] at *; omega
  have nd : nbC d := by rw [hd, nbC]; exact za4 hn
  have v1 := z2f d zd nd
  have nA : nbC (arC c) := ⟨zfl 14 [c, c] ⟨hn, hn, trivial⟩, zfl 15 [] trivial, zfl 4 [] trivial, trivial⟩
  have nL : nbC (leC c) := ⟨zfl 14 [c, c] ⟨hn, hn, trivial⟩, zfl 4 [] trivial, trivial⟩
  have zA : (arC c).sz ≤ B := by simp only [arC, Cd.sz, In1.szs, In1.sz1, Tm.bk, Tm.bks, Cd.szs, B, List.length_cons, List.length_nil]; omega
  have zL : (leC c).sz ≤ B := by simp only [leC, Cd.sz, In1.szs, In1.sz1, Tm.bk, Tm.bks, Cd.szs, B, List.length_cons, List.length_nil]; omega
  have v2 := (z2f (arC c) zA nA).args (args := [agA c [rowA c, rowI 15, rowI 4]]) ⟨le_arC c, trivial⟩
  have v3 := (z2f (leC c) zL nL).args (args := [agA c [rowA c, rowI 4]]) ⟨le_leC c, trivial⟩
  have v4 := (zcq (arC c) zA).args (args := [agA c [rowA c, rowI 15, rowI 4]]) ⟨le_arC c, trivial⟩
  have v5 := zcq c (by simp only [B]; omega)
  have e2 : vC (arC c) = true := zhv hv
  have e3 : vC (leC c) = false := vC_left
  have e4 : nIns (arC c) = 3 + 2 * nIns c := zda
  have hnI := z6p c
  rw [e2] at v2
  rw [e3] at v3
  rw [e4] at v4
  refine RPt.vc hP sh lv3 (Eq.mpr (v3_1a ..) ?_)
  refine ⟨rfl, z00 (fun h => absurd (of_decide_eq_true h) ?_) (fun _ => ?_)⟩
  · rw [z04, hx]; simp
  rw [w64 (x := c.sl + slots) (by omega) (by omega)]
  refine ⟨vC d, by rw [hd] at v1 ⊢; exact v1, ⟨rfl, Nat.le_refl _⟩, ⟨rfl, Nat.le_refl _⟩, true, v2, ⟨rfl, by omega, by omega, rfl⟩, ⟨⟨rfl, Nat.le_refl _⟩, trivial⟩, false, v3, rfl, ?_⟩
  have fin : ∀ r : Bool, r = true → TV.Le (cb (3 + 2 * nIns c == IntKind.wrap .i64 (3 + IntKind.wrap .i64 (2 * nIns c)))) (cb r) ∧ ([] : List AObj) = [] := fun r hr => by
   rw [w64 (x := 2 * nIns c) (by omega) (by omega), w64 (by omega) (by omega), hr]
   exact z01 (by simp)
  refine z00 (fun _ => z00 (fun h => z00 (fun _ => z00 (fun _ => ⟨_, v4, _, v5, fin _ rfl⟩) (fun q => by cases q)) (fun q => by cases q)) (fun h => ?_)) (fun q => by cases q)
  have big : decide (c.sl + slots > 4096) = true := by
   refine decide_eq_true (Int.not_le.1 fun q => ?_)
   have hm : vC d = true := by
    rw [hd]
    cases c
    exact vC_more hv (by simp only [Cd.sl]; omega) q
   rw [hm] at h; cases h
  exact z00 (fun _ => z00 (fun _ => z00 (fun _ => ⟨_, v4, _, v5, fin _ rfl⟩) (fun q => by cases q)) (fun q => by cases q)) (fun q => by rw [big] at q; cases q)
 | x :: b, a, hx => by
  have hxm : x ∈ c.ins := by rw [hx]; simp
  have z1 := In1.szs_mem hxm
  have z2 := In1.szs_length c.ins
  have z9 := Cd.szs_length x.c
  have z3 : In1.szs c.ins ≤ 137438953472 := by cases c; simp only [Cd.sz, Cd.ins] at *; omega
  have z4 : Cd.szs x.c ≤ 137438953472 := by cases x; simp only [In1.sz1, In1.c] at *; omega
  have hla : a.length < c.ins.length := by rw [hx]; simp
  have n1 := z63 (za4 hn) hxm
  have next := zix c hz hn hv slots h0 h1 b (a ++ [x]) (by rw [hx]; simp)
  rw [nx] at next
  have e : List.getD (FIs c.ins) (Int.toNat (a.length : Int)) [] = FI x := by rw [hx]; exact z3z a x b
  have need := el8 c.ins a.length (by omega) (by omega) x
  have l5 : ∀ (q p : List Cd), x.c = p ++ q → RPt Tryd.prog 3 0 (cb true) [] 5 ⟨[(1, ci slots), (2, .c (.a (.ep 0 6 0 0))), (5, cb true), (8, ci a.length), (9, ci p.length)], [(0, obC c)], 1⟩ := by
   intro q
   induction q with
   | nil =>
    intro p hp
    refine RPt.vc hP sh lv3 (Eq.mpr (v3_5a ..) ?_)
    rw [e]
    simp only [FI0, FI1, FI2, FI3, FI4, FI5, FI6, FI7]
    rw [w64 (x := (a.length : Int) + 1) (by omega) (by omega)]
    refine ⟨need, rfl, z00 (fun h => absurd (of_decide_eq_true h) ?_) (fun _ => next)⟩
    show ¬ (p.length : Int) < (((FCs x.c).length : Nat) : Int)
    rw [z09, hp]; simp
   | cons d q ih =>
    intro p hp
    have hdm : d ∈ x.c := by rw [hp]; simp
    have hpl : p.length < x.c.length := by rw [hp]; simp
    have zd := Cd.szs_mem hdm
    have vd := z2f d (by simp only [B]; omega) (z9w n1.2.2 hdm)
    rw [vC_in hv x hxm d hdm] at vd
    have nxt := ih (p ++ [d]) (by rw [hp]; simp)
    rw [nx] at nxt
    have e2 : List.getD (FV.ses (.sl false 6 (FCs x.c))) (Int.toNat (p.length : Int)) [] = FC d := by rw [hp]; exact z8l p d q
    refine RPt.vc hP sh lv3 (Eq.mpr (v3_5a ..) ?_)
    rw [e]
    simp only [FI0, FI1, FI2, FI3, FI4, FI5, FI6, FI7]
    rw [e2, w64 (x := (p.length : Int) + 1) (by omega) (by omega)]
    refine ⟨need, rfl, z00 (fun _ => ⟨need, ⟨rfl, by omega, by show (p.length : Int) < (((FCs x.c).length : Nat) : Int); rw [z09]; omega, z8h d⟩, true, by rw [show (TV.agg [.a (.fz (.str (FV.asS (List.getD (FC d) 0 FV.nils)))), .a (.fz (.int .i64 (FV.asI (List.getD (FC d) 1 FV.nils)))), .a (.fz (.int .i64 (FV.asI (List.getD (FC d) 2 FV.nils)))), .a (.fz (.int .i64 (FV.asI (List.getD (FC d) 3 FV.nils)))), .a (.fz (.int .i64 (FV.asI (List.getD (FC d) 4 FV.nils)))), .a (.fz (List.getD (FC d) 5 FV.nils))]) = aC d from z77 d]; exact vd, nxt⟩) (fun h => absurd (of_decide_eq_false h) ?_)⟩
    show ¬ ¬ (p.length : Int) < (((FCs x.c).length : Nat) : Int)
    rw [z09]; omega
  refine RPt.vc hP sh lv3 (Eq.mpr (v3_1a ..) ?_)
  refine ⟨rfl, z00 (fun _ => l5 x.c [] rfl) (fun h => absurd (of_decide_eq_false h) ?_)⟩
  rw [z04]; omega
theorem zfg (c : Cd) (hz : c.sz ≤ 137438953472) (slots : Int) : AC Tryd.prog 3 [aC c, ci slots] [] (cb true) [] := by
 have h1 := c_cover c (by simp only [B]; omega)
 refine AC.vc hP sh lv3 (Nat.le_refl _) (by simp) (by simp) (Eq.mpr (v3 ..) ?_)
 refine ⟨_, c_cworks, _, h1, z00 (fun _ => z01 rfl) (fun ho => z00 (fun _ => z01 rfl) (fun h2 => z00 (fun _ => z01 rfl) (fun h3 => ?_)))⟩
 have hn := (over_nb ho).1
 refine ⟨_, z2f c (by simp only [B]; omega) hn, z00 (fun _ => z01 rfl) (fun h4 => ?_)⟩
 have := of_decide_eq_false h2
 have := of_decide_eq_false h3
 exact zix c hz hn (by simpa using h4) slots (by omega) (by omega) c.ins [] rfl
end Go.AM

namespace Go.AM
open Go.ChangeShapes Go.WideShapes Go.ChangeAt Go.RowKit
end Go.AM

set_option maxRecDepth 100000
open Go Go.Proofs
namespace Go.Proofs.YtmeolnpbbhinjaaDoor.base
open Go.ChangeShapes Go.WideShapes Go.ChangeAt Go.RowKit Go.AM
theorem one_le {H : Type} (d : DataW H) : 1 ≤ Rows.uptoBulk d := by
 cases d with
 | lit l => cases l <;> simp [Rows.uptoBulk]
 | _ => simp [Rows.uptoBulk]
theorem bulk {H : Type} : Bulk (H := H) Rows.uptoBulk Rows.uptoBulkAll :=
 ⟨rfl, fun _ _ => rfl, one_le, fun es sp => by simp only [Rows.uptoBulk]; omega, fun l => by simp [Rows.uptoBulk], fun l => by simp [Rows.uptoBulk]⟩
theorem own : ownKnob Tryd.prog.godebug = none := by kernel_rfl
theorem laidOut : laidOutB Tryd.prog = true := by kernel_rfl
theorem tmTy : ∃ f0 f1 f2 f3 : Field, TmTy Tryd.prog 31 f0 f1 f2 f3 :=
 ⟨_, _, _, _, Tryd.underlying31, Tryd.underlying28, Tryd.underlying9, Tryd.underlying3, Tryd.underlying29, rfl, rfl, rfl, rfl, by kernel_rfl, by kernel_rfl, by kernel_rfl, by kernel_rfl, by kernel_rfl⟩
theorem rec3 : Tryd.prog.readableRec 3 = true := by kernel_rfl
theorem lt3 : 3 < Tryd.prog.types.size := of_decide_eq_true (by kernel_rfl)
theorem rec24 : Tryd.prog.readableRec 24 = true := by kernel_rfl
theorem lt24 : 24 < Tryd.prog.types.size := of_decide_eq_true (by kernel_rfl)
theorem want3 : Tryd.prog.wantsStandIn 3 = false := by kernel_rfl
theorem want24 : Tryd.prog.wantsStandIn 24 = false := by kernel_rfl
theorem zgt {n : Int} (h : (Lit.int .i64 n).wf = true) : -9223372036854775808 ≤ n ∧ n ≤ 9223372036854775807 := by
 simp only [Lit.wf, IntKind.min, IntKind.max, IntKind.signed, IntKind.bits, Bool.and_eq_true, decide_eq_true_eq, if_true] at h; omega
theorem upto {H : Type} {l : List (DataW H)} (hk : Rows.uptoSmall H l = true) : Rows.uptoBulkAll l ≤ 1048576 := of_decide_eq_true hk
abbrev zhn : List (String × DataW Unit) := [("math/bits.deBruijn32tab", Rows.laid_math_bits_deBruijn32tab), ("math/bits.deBruijn64tab", Rows.laid_math_bits_deBruijn64tab), ("internal/strconv.uint64pow10", Rows.laid_internal_strconv_uint64pow10)]
theorem gTab : Tryd.prog.globalNamed "internal/strconv.uint64pow10" = some 1 := by kernel_rfl
theorem gTabType : (Tryd.prog.globals[1]?).map (·.type) = some 117 := by kernel_rfl
theorem powTab : (Rows.laid_internal_strconv_uint64pow10 : DataW Unit) = Lib.tabData .u64 Lib.pow10Tab := by kernel_rfl
theorem tabHas {W : World} (h : laidMetH Tryd.prog zhn W) : Lib.TabIs Tryd.prog W "internal/strconv.uint64pow10" .u64 Lib.pow10Tab := by
 have h : laidMet Tryd.prog zhn W := h
 obtain ⟨ps, ⟨_, _, _, _, _, q1, _, _, _, _, ⟨_, _, _, _, _, q2, _, _, _, _, ⟨g', t', cs, fuel, p, q, hg', ht', hvar, hd, _, _⟩, _⟩, _⟩, _⟩ := h
 obtain rfl := Option.some.inj (gTab.symm.trans hg')
 obtain rfl := Option.some.inj (gTabType.symm.trans ht')
 unfold Lib.TabIs
 rw [powTab] at hd
 rw [hvar, ← Lib.cells_of_tab Tryd.underlying117 (by first | exact Tryd.underlying108) (by kernel_rfl) (by kernel_rfl) hd]
theorem glHas {W : World} (h : laidMetH Tryd.prog zhn W) : Gl Tryd.prog W z3c := fun g hg => by
 obtain rfl := Option.some.inj (gTab.symm.trans hg)
 have ht := tabHas h
 refine ⟨ht, fun h => h, ?_⟩
 unfold Lib.TabIs World.var? at ht
 rw [gTab] at ht
 simp only [Option.bind_some] at ht
 split at ht
 · rename_i hh; exact (Array.getElem?_eq_some_iff.1 hh).1
 · cases ht
noncomputable def z76 (os : Os) : World :=
 { World.holding Tryd.prog os ⟨#[], #[], []⟩ with heap := ((((World.holding Tryd.prog os ⟨#[], #[], []⟩).heap.modify 2 fun | .cells _ t frozen => .cells #[.int .u8 0, .int .u8 1, .int .u8 28, .int .u8 2, .int .u8 29, .int .u8 14, .int .u8 24, .int .u8 3, .int .u8 30, .int .u8 22, .int .u8 20, .int .u8 15, .int .u8 25, .int .u8 17, .int .u8 4, .int .u8 8, .int .u8 31, .int .u8 27, .int .u8 13, .int .u8 23, .int .u8 21, .int .u8 19, .int .u8 16, .int .u8 7, .int .u8 26, .int .u8 12, .int .u8 18, .int .u8 6, .int .u8 11, .int .u8 5, .int .u8 10, .int .u8 9] t frozen | o => o).modify 3 fun | .cells _ t frozen => .cells #[.int .u8 0, .int .u8 1, .int .u8 56, .int .u8 2, .int .u8 57, .int .u8 49, .int .u8 28, .int .u8 3, .int .u8 61, .int .u8 58, .int .u8 42, .int .u8 50, .int .u8 38, .int .u8 29, .int .u8 17, .int .u8 4, .int .u8 62, .int .u8 47, .int .u8 59, .int .u8 36, .int .u8 45, .int .u8 43, .int .u8 51, .int .u8 22, .int .u8 53, .int .u8 39, .int .u8 33, .int .u8 30, .int .u8 24, .int .u8 18, .int .u8 12, .int .u8 5, .int .u8 63, .int .u8 55, .int .u8 48, .int .u8 27, .int .u8 60, .int .u8 41, .int .u8 37, .int .u8 16, .int .u8 46, .int .u8 35, .int .u8 44, .int .u8 21, .int .u8 52, .int .u8 32, .int .u8 23, .int .u8 11, .int .u8 54, .int .u8 26, .int .u8 40, .int .u8 15, .int .u8 34, .int .u8 20, .int .u8 31, .int .u8 10, .int .u8 25, .int .u8 14, .int .u8 19, .int .u8 9, .int .u8 13, .int .u8 8, .int .u8 7, .int .u8 6] t frozen | o => o).modify 1 fun | .cells _ t frozen => .cells #[.int .u64 1, .int .u64 10, .int .u64 100, .int .u64 1000, .int .u64 10000, .int .u64 100000, .int .u64 1000000, .int .u64 10000000, .int .u64 100000000, .int .u64 1000000000, .int .u64 10000000000, .int .u64 100000000000, .int .u64 1000000000000, .int .u64 10000000000000, .int .u64 100000000000000, .int .u64 1000000000000000, .int .u64 10000000000000000, .int .u64 100000000000000000, .int .u64 1000000000000000000, .int .u64 10000000000000000000] t frozen | o => o) }
end Go.Proofs.YtmeolnpbbhinjaaDoor.base
