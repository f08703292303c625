/- A calculus of plain values for the model's code, what the code of each function asks (computed by the kernel), contracts of the functions, and plain laws (part 6). No conditions. -/
import Derived.Test.YtmeolnpbbhinjaaGreatDoorPart5
import Derived.Test.YtmeolnpbbhinjaaGreatDoorPart3
import Derived.Test.YtmeolnpbbhinjaaGreatDoorCards
import Derived.Test.YtmeolnpbbhinjaaGreatDoorTie
import Derived.Deep.DeepHandedRow
set_option maxRecDepth 100000
open Go Go.Proofs
namespace Go.AM
theorem FI2 (x : In1) : FV.asI (List.getD (FI x) 2 FV.nils) = x.t.k := by cases x; rw [FI]; rfl
theorem FI4 (x : In1) : FV.asI (List.getD (FI x) 4 FV.nils) = x.t.n := by cases x; rw [FI]; rfl
theorem FI5 (x : In1) : List.getD (FI x) 5 FV.nils = .sl false 4 (FTs x.t.l) := by cases x; rw [FI]; rfl
theorem el8 (ins : List In1) (i : Int) (h0 : 0 ≤ i) (h1 : i < ins.length) (x : In1) : FV.isSl 8 (.sl false 8 (FIs ins)) = true ∧ 0 ≤ i ∧ i < (((FIs ins).length : Nat) : Int) ∧
  ([.int .i64 x.k, .int .i64 x.a, .int .i64 x.t.k, .str x.t.s, .int .i64 x.t.n, .sl false 4 (FTs x.t.l), .sl false 4 (FTs x.l), .sl false 6 (FCs x.c)] : List FV) = FI x :=
 ⟨rfl, h0, by rw [z02]; exact h1, (FI_eta x).symm⟩
def oddC (sl : Int) (d : Cd) : Bool := decide (d.fr > sl) || !vC d
theorem vCs_any (sl : Int) (l : List Cd) : (!l.any (oddC sl)) = vCs sl l := by
 rw [zjg]
 induction l with
 | nil => rfl
 | cons d l ih =>
  rw [List.any_cons, List.all_cons, ← ih, Bool.not_or]
  congr 1
  unfold oddC
  by_cases h : d.fr ≤ sl
  · rw [decide_eq_false (by omega), decide_eq_true h]; simp
  · rw [decide_eq_true (show d.fr > sl by omega), decide_eq_false h]; rfl
theorem c_cins1 (c d : Cd) (h : AC Tryz.prog 6 [aC d] [] (cb (vC d)) []) : AC Tryz.prog 73 [aC d, .c (.a (.ep 0 6 0 0))] [obC c] (cb (oddC c.sl d)) [obC c] := by
 refine AC.vc hP sh lv73 (Nat.le_refl _) (by simp [isLive]) (by simp) (Eq.mpr (v73 ..) ?_)
 exact z00 (fun q => ⟨z3o (by rw [oddC, q]; rfl), rfl⟩) (fun q => ⟨_, h, z3o (by rw [oddC, q]; rfl), rfl⟩)
def ixC (p : Cd → Bool) : List Cd → Nat → Int
 | [], _ => -1
 | t :: l, i => if p t = true then (i : Int) else ixC p l (i + 1)
theorem zka (p : Cd → Bool) : ∀ (l : List Cd) (i : Nat), decide (ixC p l i ≥ 0) = l.any p
 | [], _ => rfl
 | t :: l, i => by
  rw [ixC, List.any_cons]
  split
  · rename_i h; rw [h]; simp
  · rename_i h; rw [zka p l, show p t = false by simpa using h, Bool.false_or]
theorem zih (p : Cd → Bool) (c : Cd) (b : List Cd) : ∀ a : List Cd, (a ++ b).length ≤ B → (∀ u ∈ b, AC Tryz.prog 73 [aC u, .c (.a (.ep 0 6 0 0))] [obC c] (cb (p u)) [obC c]) → RPt Tryz.prog 88 1 (ci (ixC p b a.length)) [obC c] 1 ⟨[(0, aCs (a ++ b)), (1, .c (.fn (.func 73) [] [(false, [.ep 0 6 0 0])])), (7, ci (a ++ b).length), (8, ci a.length)], [(0, obC c)], 1⟩ := by
 induction b with
 | nil =>
  intro a hs _
  refine RPt.vc hP sh lv88 (Eq.mpr (z9x ..) ?_)
  exact z00 (fun h => absurd (of_decide_eq_true h) (by simp)) (fun _ => ⟨.refl _, rfl⟩)
 | cons t b ihb =>
  intro a hs ih
  have h1 := ih t List.mem_cons_self
  have h2 := ihb (a ++ [t]) (by simpa using hs) (fun u hu => ih u (List.mem_cons_of_mem _ hu))
  rw [ap, nx, show (a ++ [t]).length = a.length + 1 by simp] at h2
  rw [ixC]
  simp only [List.length_append, List.length_cons, B] at hs
  have h4 : (a.length : Int) < ((a ++ t :: b).length : Int) := by simp only [List.length_append, List.length_cons]; omega
  refine RPt.vc hP sh lv88 (Eq.mpr (z9x ..) ?_)
  rw [w64 (by omega) (by omega), z9w]
  have e := z81 t
  refine z00 (fun _ => ⟨⟨rfl, by omega, by rw [z08]; exact h4, z8y t⟩, p t, by rw [show (TV.agg [.a (.fz (.str (FV.asS (List.getD (FC t) 0 FV.nils)))), .a (.fz (.int .i64 (FV.asI (List.getD (FC t) 1 FV.nils)))), .a (.fz (.int .i64 (FV.asI (List.getD (FC t) 2 FV.nils)))), .a (.fz (.int .i64 (FV.asI (List.getD (FC t) 3 FV.nils)))), .a (.fz (.int .i64 (FV.asI (List.getD (FC t) 4 FV.nils)))), .a (.fz (List.getD (FC t) 5 FV.nils))]) = aC t from z81 t]; exact h1, z00 (fun h => ?_) (fun h => ?_)⟩) (fun h => absurd h4 (of_decide_eq_false h))
  · rw [if_pos h]; exact ⟨.refl _, rfl⟩
  · rw [if_neg (by rw [h]; simp)]; exact h2
theorem c_ccontc (c : Cd) (l : List Cd) (hl : l.length ≤ B) (h : ∀ u ∈ l, AC Tryz.prog 6 [aC u] [] (cb (vC u)) []) : AC Tryz.prog 74 [aCs l, .c (.fn (.func 73) [] [(false, [.ep 0 6 0 0])])] [obC c] (cb (!vCs c.sl l)) [obC c] := by
 have h0 := zih (oddC c.sl) c l [] hl (fun u hu => c_cins1 c u (h u hu))
 have h1 : AC Tryz.prog 88 [aCs l, .c (.fn (.func 73) [] [(false, [.ep 0 6 0 0])])] [obC c] (ci (ixC (oddC c.sl) l 0)) [obC c] := by
  refine AC.vc hP sh lv88 (Nat.le_refl _) (by simp [isLive]) (by simp) (Eq.mpr (v88_F73 ..) ?_)
  rw [z08]
  exact ⟨rfl, h0⟩
 rw [← vCs_any, Bool.not_not]
 refine AC.vc hP sh lv74 (Nat.le_refl _) (by simp [isLive]) (by simp) (Eq.mpr (v74_F73 ..) ?_)
 exact ⟨_, h1, by rw [zka (oddC c.sl) l 0]; exact ⟨.refl _, rfl⟩⟩
def z3n (a : List In1) : Option (Int × Int) := a.getLast?.map fun y => (y.k, y.a)
theorem z4a (a : List In1) (x : In1) : z3n (a ++ [x]) = some (x.k, x.a) := by simp [z3n]
def insR (c : Cd) (a : List In1) (x : In1) : Bool :=
 if x.k = 5 then x.l.length == 2 else if x.k = 14 then vCs c.sl x.c else insB c.ar (c.fr + c.vs) c.sl c.ins.length a.length (z3n a) x.k x.a x.t
abbrev usesT (k : Int) (ok : Bool) : TV := .tup [(true, [.a (.fz (.bool (useT k))), .a (.fz (.bool (k == 5))), .a (.fz (.bool (k == 14))), .a (.fz (.bool (useA k)))]), (false, [.a (.fz (.bool ok))])]
theorem c_cins (c : Cd) (a b : List In1) (x : In1) (hx : c.ins = a ++ x :: b) (hB : c.ins.length ≤ B) (hf : 0 ≤ c.fr + c.vs ∧ c.fr + c.vs ≤ B) (ht : x.t.sz ≤ B) (hc : x.c.length ≤ B) (hd : ∀ d ∈ x.c, AC Tryz.prog 6 [aC d] [] (cb (vC d)) []) :
  AC Tryz.prog 44 [aC c, ci a.length] [] (usesT x.k (insR c a x)) [] := by
 simp only [B] at hB hf
 have hla : a.length < c.ins.length := by rw [hx]; simp
 have e : List.getD (FIs c.ins) (Int.toNat (a.length : Int)) [] = FI x := by rw [hx]; exact z30 a x b
 have c1 := c_cpred x.t ht
 have c2 := zjh x.t ht
 have c3 := c_ccontc c x.c hc hd
 have need := el8 c.ins a.length (by omega) (by omega) x
 have e5 : ((((FTs x.l).length : Nat) : Int) == 2) = (x.l.length == 2) := by rw [z03, Bool.eq_iff_iff, beq_iff_eq, beq_iff_eq]; omega
 have hlen : (((FIs c.ins).length : Nat) : Int) = c.ins.length := by rw [z02]
 refine AC.vc hP sh lv44 (Nat.le_refl _) (by simp) (by simp) (Eq.mpr (v44 ..) ?_)
 rw [e, w64 (x := c.fr + c.vs) (by omega) (by omega)]
 simp only [FI0, FI1, FI2, FI3, FI4, FI5, FI6, FI7]
 refine ⟨need, ?_⟩
 have hkinds : ∀ ok, insR c a x = ok → True := fun _ _ => trivial
 rcases List.eq_nil_or_concat a with ha | ⟨a', y, ha⟩
 · subst ha
   have h0 : (decide ((([] : List In1).length : Int) > 0)) = false := rfl
   rw [h0]
   simp only [insR, insB, z3n, List.getLast?_nil, Option.map_none]
   simp only [FV.ses, e5, hlen]
   generalize x.k = k at *
   repeat' (first | refine z00 (fun _ => ?_) (fun _ => ?_) | refine ⟨_, c1, ?_⟩ | refine ⟨_, c2, ?_⟩ | refine ⟨_, c3, ?_⟩ | refine And.intro (show FV.isSl _ _ = true by rfl) ?_)
   all_goals first
    | contradiction
    | (refine ⟨z3o ?_, by trivial⟩; simp_all [useT, useA] <;> omega)
 · have ha : a = a' ++ [y] := by simpa using ha
   subst ha
   have h1 : (decide (((a' ++ [y]).length : Int) > 0)) = true := by simp
   have e2 : List.getD (FIs c.ins) (Int.toNat (IntKind.wrap .i64 (((a' ++ [y]).length : Int) - 1))) [] = FI y := by
    have q : IntKind.wrap .i64 (((a' ++ [y]).length : Int) - 1) = (a'.length : Int) := by
     simp only [List.length_append, List.length_singleton] at hla ⊢
     rw [w64 (by omega) (by omega)]; omega
    rw [q, hx, List.append_assoc]; exact z30 a' y (x :: b)
   have need2 := el8 c.ins (IntKind.wrap .i64 (((a' ++ [y]).length : Int) - 1)) (by
    simp only [List.length_append, List.length_singleton] at hla ⊢
    rw [w64 (by omega) (by omega)]; omega) (by
    simp only [List.length_append, List.length_singleton] at hla ⊢
    rw [w64 (by omega) (by omega)]; omega) y
   have c4 := c_chead y.k
   rw [h1, e2]
   simp only [FI0, FI1, FI2, FI3, FI4, FI5, FI6, FI7]
   simp only [insR, insB, z4a]
   simp only [FV.ses, e5, hlen]
   rw [hlen] at need2
   generalize x.k = k at *
   repeat' (first | refine z00 (fun _ => ?_) (fun _ => ?_) | refine ⟨_, c1, ?_⟩ | refine ⟨_, c2, ?_⟩ | refine ⟨_, c3, ?_⟩ | refine ⟨_, c4, ?_⟩ | refine And.intro (show FV.isSl 4 _ = true by rfl) ?_ | refine And.intro need2 ?_ | refine And.intro (show FV.isSl 6 _ = true by rfl) ?_ | refine And.intro (show FV.isSl 8 _ = true by rfl) ?_)
   all_goals clear need need2 e e2 ha hx hd c1 c2 c3 c4 hkinds e5 hlen h1 hla
   all_goals first
    | contradiction
    | (refine ⟨z3o ?_, by trivial⟩; simp_all [useT, useA] <;> omega)
end Go.AM

set_option maxRecDepth 100000
open Go Go.Proofs
namespace Go.AM
def z1c (c : Cd) (a : List In1) (x : In1) : Bool := fldB c.ar (c.fr + c.vs) c.sl c.ins.length a.length (z3n a) x.k x.a x.t x.l x.c.isEmpty && vCs c.sl x.c
theorem zi6 (c : Cd) (a : List In1) (x : In1) : z1c c a x = ((x.k == 14 || ((plB c.sl x.t || z31 x.t) && x.l.all (plB c.sl))) && (insR c a x && ((useA x.k || x.a == 0) && ((x.k == 14 || x.c.isEmpty) && ((x.k == 5 || x.l.isEmpty) && (if useT x.k = true then plB c.sl x.t else z31 x.t)))))) := by
 have hAV : plB c.sl x.t = true → z0b x.t = true := fun h => by unfold plB at h; simp only [Bool.and_eq_true] at h; exact h.1
 have hCs : x.c.isEmpty = true → vCs c.sl x.c = true := fun h => by rw [List.isEmpty_iff.1 h, vCs]
 have hLs : x.l.isEmpty = true → x.l.all (plB c.sl) = true := fun h => by rw [List.isEmpty_iff.1 h]; rfl
 have h5 : x.k = 5 → insB c.ar (c.fr + c.vs) c.sl c.ins.length a.length (z3n a) x.k x.a x.t = true := fun h => by rw [h]; rfl
 have h14 : x.k = 14 → insB c.ar (c.fr + c.vs) c.sl c.ins.length a.length (z3n a) x.k x.a x.t = true := fun h => by rw [h]; rfl
 unfold z1c fldB insR
 generalize insB c.ar (c.fr + c.vs) c.sl c.ins.length a.length (z3n a) x.k x.a x.t = I at *
 generalize plB c.sl x.t = A at *
 generalize z31 x.t = E at *
 generalize z0b x.t = V at *
 generalize x.l.all (plB c.sl) = Ls at *
 generalize vCs c.sl x.c = W at *
 generalize x.c.isEmpty = ce at *
 generalize x.l.isEmpty = le at *
 generalize (x.l.length == 2) = l2 at *
 generalize (x.a == 0) = a0 at *
 generalize x.k = k at *
 by_cases q : k = 14
 · have := h14 q
   subst q
   cases E <;> cases le <;> cases a0 <;> cases W <;> simp_all [useA, useT]
 by_cases q2 : k = 5
 · have := h5 q2
   subst q2
   cases E <;> cases ce <;> cases l2 <;> cases a0 <;> cases Ls <;> simp_all [useA, useT]
 · have e1 : (k == 14) = false := by simpa using q
   have e2 : (k == 5) = false := by simpa using q2
   rw [e1, e2, if_neg q2, if_neg q2, if_neg q]
   generalize useT k = uT
   generalize useA k = uA
   cases uT <;> cases A <;> cases E <;> cases ce <;> cases Ls <;> simp_all
theorem zis (c : Cd) (a b : List In1) (x : In1) (hx : c.ins = a ++ x :: b) (hB : c.ins.length ≤ B) (hf : 0 ≤ c.fr + c.vs ∧ c.fr + c.vs ≤ B) (ht : x.t.sz ≤ B) (hbt : bd 2305843009213693952 x.t) (hl : x.l.length ≤ B) (hs : ∀ t ∈ x.l, t.sz ≤ B ∧ bd 2305843009213693952 t)
  (hc : x.c.length ≤ B) (hd : ∀ d ∈ x.c, AC Tryz.prog 6 [aC d] [] (cb (vC d)) []) : AC Tryz.prog 16 [aC c, ci a.length] [] (cb (z1c c a x)) [] := by
 have c0 := c_cins c a b x hx hB hf ht hc hd
 have c1 := c_codd c x.t ht hbt
 have c2 := c_cempty x.t ht
 have c3 := c_anyOdd c x.l hl hs
 have hla : a.length < c.ins.length := by rw [hx]; simp
 have e : List.getD (FIs c.ins) (Int.toNat (a.length : Int)) [] = FI x := by rw [hx]; exact z30 a x b
 have need := el8 c.ins a.length (by omega) (by omega) x
 have hce : decide (((x.c.length : Nat) : Int) > 0) = !x.c.isEmpty := by cases x.c <;> simp
 have hle : decide (((x.l.length : Nat) : Int) > 0) = !x.l.isEmpty := by cases x.l <;> simp
 refine AC.vc hP sh lv16 (Nat.le_refl _) (by simp) (by simp) (Eq.mpr (v16 ..) ?_)
 rw [e]
 simp only [FI0, FI1, FI2, FI3, FI4, FI5, FI6, FI7]
 refine ⟨need, ?_⟩
 rw [zi6]
 simp only [FV.ses, z08, z03]
 rw [hce, hle, show (x.a != 0) = !(x.a == 0) from rfl, show (x.k != 14) = !(x.k == 14) from rfl]
 unfold usesT at c0
 generalize insR c a x = OK at *
 generalize plB c.sl x.t = A at *
 generalize z31 x.t = E at *
 generalize x.l.all (plB c.sl) = Ls at *
 generalize x.c.isEmpty = ce at *
 generalize x.l.isEmpty = le at *
 generalize useA x.k = uA at *
 generalize useT x.k = uT at *
 generalize (x.a == 0) = a0 at *
 generalize (x.k == 14) = k14 at *
 generalize (x.k == 5) = k5 at *
 repeat' (first | refine z00 (fun _ => ?_) (fun _ => ?_) | refine ⟨_, c1, ?_⟩ | refine ⟨_, c2, ?_⟩ | refine ⟨_, c3, ?_⟩ | refine ⟨_, _, _, _, _, c0, ?_⟩ | refine And.intro (show FV.isSl 4 _ = true by rfl) ?_ | refine And.intro (show FV.isSl 6 _ = true by rfl) ?_)
 all_goals clear c0 c1 c2 c3 hx hB hf ht hbt hl hs hc hd hla e need hce hle
 all_goals refine ⟨z3o ?_, by trivial⟩
 all_goals (simp_all; done)
mutual
def nbC : Cd → Prop
 | .mk _ _ _ _ _ ins => nbIs ins
def nbIs : List In1 → Prop
 | [] => True
 | .mk _ _ t l c :: r => (bd 2305843009213693952 t ∧ (∀ u ∈ l, bd 2305843009213693952 u) ∧ nbCs c) ∧ nbIs r
def nbCs : List Cd → Prop
 | [] => True
 | c :: r => nbC c ∧ nbCs r
end
theorem z5e : ∀ {l : List In1} {x : In1}, nbIs l → x ∈ l → bd 2305843009213693952 x.t ∧ (∀ u ∈ x.l, bd 2305843009213693952 u) ∧ nbCs x.c
 | .mk k a t q c :: r, x, h, hm => by
  rw [nbIs] at h
  rcases List.mem_cons.1 hm with rfl | hm
  · exact h.1
  · exact z5e h.2 hm
theorem zb3 : ∀ {l : List Cd} {d : Cd}, nbCs l → d ∈ l → nbC d
 | c :: r, d, h, hm => by
  rw [nbCs] at h
  rcases List.mem_cons.1 hm with rfl | hm
  · exact h.1
  · exact zb3 h.2 hm
theorem zae {c : Cd} (h : nbC c) : nbIs c.ins := by cases c; rw [nbC] at h; exact h
theorem zgc (c : Cd) (hz : c.sz ≤ B) (hn : nbC c) (hf : 0 ≤ c.fr + c.vs ∧ c.fr + c.vs ≤ B) (ih : ∀ x ∈ c.ins, ∀ d ∈ x.c, AC Tryz.prog 6 [aC d] [] (cb (vC d)) []) (h0 : 0 < c.ins.length) : ∀ (b a : List In1), c.ins = a ++ b →
  (∀ x ∈ a, (x.k = 9 ∨ x.k = 10) → 0 ≤ x.a ∧ x.a ≤ B) →
  RPt Tryz.prog 6 0 (cb (vIs c.ar (c.fr + c.vs) c.sl c.ins.length a.length (z3n a) b && z8j c.ins)) [] 3 ⟨[(5, .c (.a (.ep 0 6 0 0))), (68, ci c.ins.length), (69, ci a.length)], [(0, obC c)], 1⟩
 | [], a, hx, ha => by
  have hl : c.ins.length ≤ B := by
   have := In1.szs_length c.ins
   cases c; simp only [Cd.sz, Cd.ins] at *; omega
  have h1 := c_cways c hl h0 (fun x hm => ha x (by rw [hx] at hm; simpa using hm))
  refine RPt.vc hP sh lv6 (Eq.mpr (v6_3a ..) ?_)
  refine z00 (fun h => absurd (of_decide_eq_true h) ?_) (fun _ => ⟨_, h1, z01 (by rw [vIs]; rfl)⟩)
  rw [hx]; simp
 | x :: b, a, hx, ha => by
  have hxm : x ∈ c.ins := by rw [hx]; simp
  have z1 := In1.szs_mem hxm
  have z2 := In1.szs_length c.ins
  have z3 : In1.szs c.ins ≤ B := by cases c; simp only [Cd.sz, Cd.ins, B] at *; omega
  have z4 : x.t.bk ≤ B ∧ Tm.bks x.l ≤ B ∧ Cd.szs x.c ≤ B := by cases x; simp only [In1.sz1, In1.t, In1.l, In1.c, B] at *; omega
  have z5 := Tm.sz_bk x.t
  have z6 := Tm.szs_bks x.l
  have z7 := Tm.szs_length x.l
  have z8 := Cd.szs_length x.c
  have n1 := z5e (zae hn) hxm
  have hl : c.ins.length ≤ B := by omega
  have hla : a.length < c.ins.length := by rw [hx]; simp
  have h1 := zis c a b x hx hl hf (by omega) n1.1 (by omega) (fun t ht => ⟨by have := Tm.szs_mem ht; omega, n1.2.1 t ht⟩) (by omega) (ih x hxm)
  have ev : vIs c.ar (c.fr + c.vs) c.sl c.ins.length a.length (z3n a) (x :: b) = (z1c c a x && vIs c.ar (c.fr + c.vs) c.sl c.ins.length ((a.length : Int) + 1) (some (x.k, x.a)) b) := by
   cases x
   rw [vIs, z1c, Bool.and_assoc]; rfl
  rw [ev]
  simp only [B] at hl
  refine RPt.vc hP sh lv6 (Eq.mpr (v6_3a ..) ?_)
  rw [w64 (x := (a.length : Int) + 1) (by omega) (by omega)]
  refine z00 (fun _ => ⟨_, h1, z00 (fun h => z01 ?_) (fun h => ?_)⟩) (fun h => absurd (of_decide_eq_false h) (by omega))
  · rw [show z1c c a x = false by simpa using h]; rfl
  · have hfb : z1c c a x = true := by simpa using h
    have := zgc c hz hn hf ih h0 b (a ++ [x]) (by rw [hx]; simp) (fun y hy hk => by
     rcases List.mem_append.1 hy with hy | hy
     · exact ha y hy hk
     · have hy : y = x := by simpa using hy
       subst hy
       have : insB c.ar (c.fr + c.vs) c.sl c.ins.length a.length (z3n a) y.k y.a y.t = true := by
        unfold z1c fldB at hfb
        simp only [Bool.and_eq_true] at hfb
        exact hfb.1.2.1
       unfold insB at this
       rw [if_neg (by omega), if_neg (by omega), if_neg (by omega), if_pos hk] at this
       have := of_decide_eq_true this
       simp only [B]
       omega)
    rw [nx, z4a] at this
    rw [hfb, Bool.true_and]
    exact this
theorem zg8 {l : List In1} (h : l.length = 0) : zcp l = false := by rw [List.eq_nil_of_length_eq_zero h]; rfl
theorem zau : ∀ c : Cd, c.sz ≤ B → nbC c → AC Tryz.prog 6 [aC c] [] (cb (vC c)) [] := by
 refine Cd.ind fun c ih hz hn => ?_
 have z2 := In1.szs_length c.ins
 have z3 : In1.szs c.ins ≤ B ∧ c.nm.length ≤ B := by cases c; simp only [Cd.sz, Cd.ins, Cd.nm, B] at *; omega
 have hl : c.ins.length ≤ B := by omega
 simp only [B] at hl
 have ih' : ∀ x ∈ c.ins, ∀ d ∈ x.c, AC Tryz.prog 6 [aC d] [] (cb (vC d)) [] := fun x hx d hd => ih x hx d hd (by
  have a1 := In1.szs_mem hx
  have a2 := Cd.szs_mem hd
  cases x
  simp only [In1.sz1, In1.c] at *
  omega) (zb3 (z5e (zae hn) hx).2.2 hd)
 have c1 := zf8 c.nm
 have c2 := zjn c.nm
 have c3 := z9s c.nm
 have c4 := c_ccount [c.ar, c.fr, c.vs, c.sl] (by simp [B])
 have eV : vC c = (nmB c.nm && (cntB c.ar c.fr c.vs c.sl && (zcp c.ins && (vIs c.ar (c.fr + c.vs) c.sl c.ins.length 0 none c.ins && z8j c.ins)))) := by cases c; rw [vC]; rfl
 rw [eV]
 have hlen : (((FIs c.ins).length : Nat) : Int) = c.ins.length := by rw [z02]
 have tail : nmB c.nm = true → ∀ R : Prop, (∀ b : Bool, R → False) ∨ True → True := fun _ _ _ => trivial
 have ecnt : (!([c.ar, c.fr, c.vs, c.sl].any cntN)) = true → (0 ≤ c.ar ∧ c.ar ≤ 4096) ∧ (0 ≤ c.fr ∧ c.fr ≤ 4096) ∧ (0 ≤ c.vs ∧ c.vs ≤ 4096) ∧ (0 ≤ c.sl ∧ c.sl ≤ 4096) := fun h => by
  simp only [List.any_cons, List.any_nil, cntN, Bool.not_or, Bool.not_false, Bool.and_true, Bool.and_eq_true, Bool.not_eq_true', decide_eq_false_iff_not] at h
  omega
 have ecnt2 : (!([c.ar, c.fr, c.vs, c.sl].any cntN)) = false → cntB c.ar c.fr c.vs c.sl = false := fun h => by
  unfold cntB
  refine decide_eq_false fun q => ?_
  have : (!([c.ar, c.fr, c.vs, c.sl].any cntN)) = true := by
   simp only [List.any_cons, List.any_nil, cntN, Bool.not_or, Bool.not_false, Bool.and_true, Bool.and_eq_true, Bool.not_eq_true', decide_eq_false_iff_not]
   omega
  rw [this] at h; cases h
 have loop : 0 < c.ins.length → 0 ≤ c.fr + c.vs ∧ c.fr + c.vs ≤ B → RPt Tryz.prog 6 0 (cb (vIs c.ar (c.fr + c.vs) c.sl c.ins.length 0 none c.ins && z8j c.ins)) [] 3 ⟨[(5, .c (.a (.ep 0 6 0 0))), (68, ci c.ins.length), (69, ci 0)], [(0, obC c)], 1⟩ := fun h0 hf => zgc c hz hn hf ih' h0 c.ins [] rfl (fun x hx => by cases hx)
 have rest : nmB c.nm = true → (∃ b3 : Bool, AC Tryz.prog 15 [.c (.a (.fz (.sl false 1 [[.int .i64 c.ar], [.int .i64 c.fr], [.int .i64 c.vs], [.int .i64 c.sl]])))] [] (cb b3) [] ∧ (true = true) ∧ True) := fun _ => ⟨_, c4, rfl, trivial⟩
 have hlast : 0 < c.ins.length → ∃ y a', c.ins = a' ++ [y] ∧ zcp c.ins = (y.k == 3 || y.k == 4 || y.k == 8) ∧ List.getD (FIs c.ins) (Int.toNat (IntKind.wrap .i64 ((c.ins.length : Int) - 1))) [] = FI y ∧ 0 ≤ IntKind.wrap .i64 ((c.ins.length : Int) - 1) ∧ IntKind.wrap .i64 ((c.ins.length : Int) - 1) < c.ins.length := fun h0 => by
  rcases List.eq_nil_or_concat c.ins with h | ⟨a', y, h⟩
  · rw [h] at h0; cases h0
  · have h : c.ins = a' ++ [y] := by simpa using h
    rw [w64 (by omega) (by omega)]
    refine ⟨y, a', h, by rw [h]; simp [zcp], ?_, by omega, by omega⟩
    rw [show (c.ins.length : Int) - 1 = a'.length by rw [h]; simp, h]; exact z30 a' y []
 refine AC.vc hP sh lv6 (Nat.le_refl _) (by simp) (by simp) (Eq.mpr (v6 ..) ?_)
 refine ⟨rfl, _, c1, ?_⟩
 rw [hlen]
 by_cases h0 : 0 < c.ins.length
 · obtain ⟨y, a', hy1, hy2, hy3, hy4, hy5⟩ := hlast h0
   have need := el8 c.ins _ hy4 hy5 y
   have en : ((c.ins.length : Int) == 0) = false := by rw [beq_eq_false_iff_ne]; omega
   rw [hy3, en, hy2]
   simp only [FI0, FI1, FI2, FI3, FI4, FI5, FI6, FI7]
   rw [hlen] at need
   have hgo := loop h0
   clear loop hlast hy1 hy2 hy3 hy4 hy5 tail rest eV ih ih' z2 z3 hl hn hz
   unfold nmB
   cases hcnt : (!([c.ar, c.fr, c.vs, c.sl].any cntN)) with
   | false =>
    have hc0 := ecnt2 hcnt
    rw [hcnt] at c4
    rw [hc0]
    clear ecnt ecnt2
    repeat' (first | refine z00 (fun _ => ?_) (fun _ => ?_) | refine ⟨_, c2, ?_⟩ | refine ⟨_, c3, ?_⟩ | refine ⟨_, c4, ?_⟩ | refine And.intro (And.intro True.intro (Nat.le_refl 4)) ?_ | refine And.intro (And.intro (rfl : (1 : Nat) = 1) (Nat.le_refl 4)) ?_ | refine And.intro True.intro ?_ | refine And.intro (rfl : true = true) ?_ | refine And.intro need ?_ | fail)
    all_goals first
     | contradiction
     | exact ⟨z3o (by rw [Bool.false_and, Bool.and_false]), by trivial⟩
   | true =>
    have hb := ecnt hcnt
    rw [hcnt] at c4
    rw [w64 (x := c.fr + c.vs) (by omega) (by omega)]
    have hgo := hgo (by simp only [B]; omega)
    have hc1 : cntB c.ar c.fr c.vs c.sl = !decide (c.fr + c.vs > c.sl) := by
     unfold cntB
     by_cases q : c.fr + c.vs > c.sl
     · rw [decide_eq_true q, decide_eq_false (by omega)]; rfl
     · rw [decide_eq_false q, decide_eq_true (by omega)]; rfl
    rw [hc1]
    clear hc1 ecnt ecnt2 hcnt hb en h0
    generalize (vIs c.ar (c.fr + c.vs) c.sl c.ins.length 0 none c.ins && z8j c.ins) = V at *
    generalize decide (c.fr + c.vs > c.sl) = d at *
    generalize z3l c.nm = n1 at *
    generalize z6r c.nm = n2 at *
    generalize logB c.nm = lg at *
    generalize (y.k == 3) = k3 at *
    generalize (y.k == 4) = k4 at *
    generalize (y.k == 8) = k8 at *
    repeat' (first | refine z00 (fun _ => ?_) (fun _ => ?_) | refine ⟨_, c2, ?_⟩ | refine ⟨_, c3, ?_⟩ | refine ⟨_, c4, ?_⟩ | refine And.intro (And.intro True.intro (Nat.le_refl 4)) ?_ | refine And.intro (And.intro (rfl : (1 : Nat) = 1) (Nat.le_refl 4)) ?_ | refine And.intro True.intro ?_ | refine And.intro (rfl : true = true) ?_ | refine And.intro need ?_ | fail)
    all_goals first
     | contradiction
     | (refine ⟨z3o ?_, by trivial⟩; clear hgo need c1 c2 c3 c4; simp_all; done)
     | ((have e9 : ((n1 || n2) && !lg && (!d && ((k3 || k4 || k8) && V))) = V := by (clear hgo need c1 c2 c3 c4; simp_all)); rw [e9]; exact hgo)
 · have hl0 : c.ins.length = 0 := by omega
   have en : ((c.ins.length : Int) == 0) = true := by rw [beq_iff_eq]; omega
   have hla := zg8 hl0
   rw [en, hla, Bool.false_and, Bool.and_false, Bool.and_false]
   clear hlast
   repeat' (first | exact z01 rfl | refine z00 (fun _ => ?_) (fun _ => ?_) | refine ⟨_, c2, ?_⟩ | refine ⟨_, c3, ?_⟩ | refine ⟨_, c4, ?_⟩ | refine And.intro (And.intro True.intro (Nat.le_refl 4)) ?_ | refine And.intro (And.intro (rfl : (1 : Nat) = 1) (Nat.le_refl 4)) ?_ | refine And.intro True.intro ?_ | refine And.intro (rfl : true = true) ?_ | fail)
   all_goals contradiction
end Go.AM

set_option maxRecDepth 100000
open Go Go.Proofs
namespace Go.AM
theorem zbb : ∀ c : Cd, 0 ≤ nIns c ∧ nIns c ≤ c.sz := by
 refine Cd.ind fun c ih => ?_
 obtain ⟨nm, ar, fr, vs, sl, ins⟩ := c
 simp only [Cd.ins] at ih
 rw [nIns, Cd.sz]
 have kC : ∀ l : List Cd, (∀ d ∈ l, 0 ≤ nIns d ∧ nIns d ≤ d.sz) → 0 ≤ nCs l ∧ nCs l ≤ Cd.szs l := by
  intro l
  induction l with
  | nil => intro _; simp [nCs, Cd.szs]
  | cons d l ih2 =>
   intro h
   have h1 := h d List.mem_cons_self
   have h2 := ih2 fun u hu => h u (List.mem_cons_of_mem _ hu)
   rw [nCs, Cd.szs]; omega
 have kI : ∀ l : List In1, (∀ x ∈ l, ∀ d ∈ x.c, 0 ≤ nIns d ∧ nIns d ≤ d.sz) → 0 ≤ nIs l ∧ nIs l + l.length ≤ In1.szs l := by
  intro l
  induction l with
  | nil => intro _; simp [nIs, In1.szs]
  | cons x l ih2 =>
   intro h
   have h1 := kC x.c (h x List.mem_cons_self)
   have h2 := ih2 fun u hu => h u (List.mem_cons_of_mem _ hu)
   obtain ⟨k, a, t, q, c⟩ := x
   simp only [In1.c] at h1
   rw [nIs, In1.szs, In1.sz1, List.length_cons]; omega
 have := kI ins ih
 omega
theorem z9p : ∀ l : List Cd, 0 ≤ nCs l ∧ nCs l ≤ Cd.szs l
 | [] => by simp [nCs, Cd.szs]
 | d :: l => by have h1 := zbb d; have h2 := z9p l; rw [nCs, Cd.szs]; omega
theorem zdc : ∀ l : List In1, 0 ≤ nIs l ∧ nIs l + l.length ≤ In1.szs l
 | [] => by simp [nIs, In1.szs]
 | .mk k a t q c :: l => by have h1 := z9p c; have h2 := zdc l; rw [nIs, In1.szs, In1.sz1, List.length_cons]; omega
def szF (c : Cd) (n : Int) : Int := n + nIns c
def szI (l : List In1) (n : Int) : Int := n + nIs l
def szC (l : List Cd) (n : Int) : Int := n + nCs l
theorem szF_eq (c : Cd) (n : Int) : szF c n = szI c.ins (n + c.ins.length) := by cases c; simp only [szF, szI, nIns, Cd.ins]; omega
theorem szI_cons (x : In1) (l : List In1) (n : Int) : szI (x :: l) n = szI l (szC x.c n) := by cases x; simp only [szC, szI, nIs, In1.c]; omega
theorem szI_nil (n : Int) : szI [] n = n := by simp only [szI, nIs]; omega
theorem szC_cons (x : Cd) (l : List Cd) (n : Int) : szC (x :: l) n = szC l (szF x n) := by simp only [szC, szF, nCs]; omega
theorem szC_nil (n : Int) : szC [] n = n := by simp only [szC, nCs]; omega
theorem mSl_eq (c : Cd) (n : Int) : mSl c n = mSlI c.ins (z1p [n, c.sl]) := by cases c; rw [mSl]; rfl
theorem zhu (x : In1) (l : List In1) (n : Int) : mSlI (x :: l) n = mSlI l (mSlC x.c n) := by cases x; rw [mSlI]; rfl
theorem mSlI_nil (n : Int) : mSlI [] n = n := by rw [mSlI]
theorem zj8 (x : Cd) (l : List Cd) (n : Int) : mSlC (x :: l) n = mSlC l (mSl x n) := by rw [mSlC]
theorem mSlC_nil (n : Int) : mSlC [] n = n := by rw [mSlC]
abbrev z6k (f : Nat) : TV := .c (.fn (.func f) [] [(false, [.ep 0 1 0 0])])
theorem c_csize1 (c : Cd) (n : Int) (hz : c.sz ≤ B) (h : 0 ≤ n ∧ n ≤ M61) : AC Tryz.prog 23 [aC c, .c (.a (.ep 0 1 0 0))] [obN n] (.tup []) [obN (n + c.ins.length)] := by
 have z2 := In1.szs_length c.ins
 have z3 : In1.szs c.ins ≤ B := by cases c; simp only [Cd.sz, Cd.ins, B] at *; omega
 simp only [B, M61] at *
 refine AC.vc hP sh lv23 (Nat.le_refl _) (by simp [isLive]) (by simp) (Eq.mpr (v23 ..) ?_)
 rw [z02, w64 (by omega) (by omega)]
 exact ⟨rfl, .refl _, rfl⟩
theorem ziu (c : Cd) (n : Int) (hz : c.sz ≤ B) (h : True) : AC Tryz.prog 24 [aC c, .c (.a (.ep 0 1 0 0))] [obN n] (.tup []) [obN (z1p [n, c.sl])] := by
 refine AC.vc hP sh lv24 (Nat.le_refl _) (by simp [isLive]) (by simp) (Eq.mpr (v24 ..) ?_)
 exact ⟨.refl _, rfl⟩
theorem z56 (ins : List In1) (x : In1) (i : Int) (r : Int) (h0 : 0 ≤ i) (h1 : i ≤ B) : ∀ (b a : List Cd) (n : Int), x.c = a ++ b → x.c.length ≤ B → (∀ d ∈ b, ∀ n : Int, (0 ≤ n ∧ n + nIns d ≤ M61) → AC Tryz.prog 22 [aC d, z6k 23] [obN n] (.tup []) [obN (szF d n)]) → (0 ≤ n ∧ n + nCs b ≤ M61) →
  RPt Tryz.prog 22 1 (.tup []) [obN r] 1 ⟨[(1, z6k 23), (12, .c (.a (.fz (.sl false 8 (FIs ins))))), (13, ci ins.length), (14, ci (i + 1))], [(0, obN (szC b n))], 1⟩ →
  RPt Tryz.prog 22 1 (.tup []) [obN r] 5 ⟨[(1, z6k 23), (12, .c (.a (.fz (.sl false 8 (FIs ins))))), (13, ci ins.length), (14, ci i), (19, aCs x.c), (20, ci x.c.length), (21, ci a.length)], [(0, obN n)], 1⟩
 | [], a, n, hx, hB, ih, hL, hk => by
  refine RPt.vc hP sh lv22 (Eq.mpr (z8x ..) ?_)
  simp only [B] at h1
  rw [szC_nil] at hk
  rw [w64 (x := i + 1) (by omega) (by omega)]
  refine z00 (fun h => absurd (of_decide_eq_true h) ?_) (fun _ => hk)
  rw [hx]; simp
 | d :: b, a, n, hx, hB, ih, hL, hk => by
  simp only [B] at hB h1
  have hn := zbb d
  have hm := z9p b
  have hc := ih d List.mem_cons_self n (by first | trivial | (simp only [nCs] at hL; omega))
  rw [szC_cons] at hk
  have next := z56 ins x i r h0 (by simp only [B]; omega) b (a ++ [d]) (szF d n) (by rw [hx]; simp) (by simp only [B]; omega) (fun u hu => ih u (List.mem_cons_of_mem _ hu)) (by first | trivial | (simp only [nCs, szF] at *; omega)) hk
  rw [nx] at next
  have hla : a.length < x.c.length := by rw [hx]; simp
  refine RPt.vc hP sh lv22 (Eq.mpr (z8x ..) ?_)
  have e : List.getD (FV.ses (.sl false 6 (FCs x.c))) (Int.toNat (a.length : Int)) [] = FC d := by rw [hx]; exact z9w a d b
  rw [e, w64 (x := (a.length : Int) + 1) (by omega) (by omega)]
  refine z00 (fun _ => ⟨⟨rfl, by omega, by show (a.length : Int) < (((FCs x.c).length : Nat) : Int); rw [z08]; omega, z8y d⟩, _, by rw [show (TV.agg [.a (.fz (.str (FV.asS (List.getD (FC d) 0 FV.nils)))), .a (.fz (.int .i64 (FV.asI (List.getD (FC d) 1 FV.nils)))), .a (.fz (.int .i64 (FV.asI (List.getD (FC d) 2 FV.nils)))), .a (.fz (.int .i64 (FV.asI (List.getD (FC d) 3 FV.nils)))), .a (.fz (.int .i64 (FV.asI (List.getD (FC d) 4 FV.nils)))), .a (.fz (List.getD (FC d) 5 FV.nils))]) = aC d from z81 d]; exact hc, next⟩) (fun h => absurd (of_decide_eq_false h) (by omega))
theorem z4w (ins : List In1) (hB : In1.szs ins ≤ B) : ∀ (b a : List In1) (n : Int), ins = a ++ b → (∀ x ∈ b, ∀ d ∈ x.c, ∀ n : Int, (0 ≤ n ∧ n + nIns d ≤ M61) → AC Tryz.prog 22 [aC d, z6k 23] [obN n] (.tup []) [obN (szF d n)]) → (0 ≤ n ∧ n + nIs b ≤ M61) →
  RPt Tryz.prog 22 1 (.tup []) [obN (szI b n)] 1 ⟨[(1, z6k 23), (12, .c (.a (.fz (.sl false 8 (FIs ins))))), (13, ci ins.length), (14, ci a.length)], [(0, obN n)], 1⟩
 | [], a, n, hx, ih, hI => by
  refine RPt.vc hP sh lv22 (Eq.mpr (z9o ..) ?_)
  rw [szI_nil]
  refine z00 (fun h => absurd (of_decide_eq_true h) ?_) (fun _ => ⟨.refl _, rfl⟩)
  rw [hx]; simp
 | x :: b, a, n, hx, ih, hI => by
  have z1 : In1.sz1 x ≤ In1.szs ins := In1.szs_mem (by rw [hx]; simp)
  have z2 := In1.szs_length ins
  have z3 := Cd.szs_length x.c
  have z4 : Cd.szs x.c ≤ In1.sz1 x := by cases x; simp only [In1.c, In1.sz1]; omega
  simp only [B] at hB
  have hla : a.length < ins.length := by rw [hx]; simp
  have hn := z9p x.c
  have hm := zdc b
  have e0 : nIs (x :: b) = nCs x.c + nIs b := by cases x; rw [nIs]; rfl
  rw [szI_cons]
  have next := z4w ins (by simp only [B]; omega) b (a ++ [x]) (szC x.c n) (by rw [hx]; simp) (fun y hy => ih y (List.mem_cons_of_mem _ hy)) (by first | trivial | (simp only [szC] at *; omega))
  rw [nx] at next
  have h5 := z56 ins x a.length (szI b (szC x.c n)) (by omega) (by simp only [B]; omega) x.c [] n (by simp) (by simp only [B]; omega) (ih x List.mem_cons_self) (by first | trivial | omega) next
  have e : List.getD (FIs ins) (Int.toNat (a.length : Int)) [] = FI x := by rw [hx]; exact z30 a x b
  refine RPt.vc hP sh lv22 (Eq.mpr (z9o ..) ?_)
  rw [e]
  simp only [FI0, FI1, FI2, FI3, FI4, FI5, FI6, FI7]
  refine z00 (fun _ => ⟨el8 ins a.length (by omega) (by omega) x, rfl, ?_⟩) (fun h => absurd (of_decide_eq_false h) (by omega))
  rw [show (((FV.ses (.sl false 6 (FCs x.c))).length : Nat) : Int) = (x.c.length : Int) by show (((FCs x.c).length : Nat) : Int) = _; rw [z08]]
  exact h5
theorem zc2 : ∀ c : Cd, c.sz ≤ B → ∀ n : Int, (0 ≤ n ∧ n + nIns c ≤ M61) → AC Tryz.prog 22 [aC c, z6k 23] [obN n] (.tup []) [obN (szF c n)] := by
 refine Cd.ind fun c ih hz n hT => ?_
 have z2 := In1.szs_length c.ins
 have z3 : In1.szs c.ins ≤ B := by cases c; simp only [Cd.sz, Cd.ins, B] at *; omega
 have hn := zdc c.ins
 have e0 : nIns c = (c.ins.length : Int) + nIs c.ins := by cases c; rw [nIns]; rfl
 have h1 := c_csize1 c n hz (by first | trivial | omega)
 have h := z4w c.ins z3 c.ins [] (n + c.ins.length) rfl (fun x hx d hd n hn => ih x hx d hd (by
  have a1 := In1.szs_mem hx
  have a2 := Cd.szs_mem hd
  cases x
  simp only [In1.sz1, In1.c] at *
  omega) n hn) (by first | trivial | omega)
 rw [szF_eq]
 refine AC.vc hP sh lv22 (Nat.le_refl _) (by simp [isLive]) (by simp) (Eq.mpr (v22_F23 ..) ?_)
 rw [z02]
 exact ⟨_, h1, rfl, h⟩
theorem z4m (ins : List In1) (x : In1) (i : Int) (r : Int) (h0 : 0 ≤ i) (h1 : i ≤ B) : ∀ (b a : List Cd) (n : Int), x.c = a ++ b → x.c.length ≤ B → (∀ d ∈ b, ∀ n : Int, True → AC Tryz.prog 22 [aC d, z6k 24] [obN n] (.tup []) [obN (mSl d n)]) → True →
  RPt Tryz.prog 22 1 (.tup []) [obN r] 1 ⟨[(1, z6k 24), (12, .c (.a (.fz (.sl false 8 (FIs ins))))), (13, ci ins.length), (14, ci (i + 1))], [(0, obN (mSlC b n))], 1⟩ →
  RPt Tryz.prog 22 1 (.tup []) [obN r] 5 ⟨[(1, z6k 24), (12, .c (.a (.fz (.sl false 8 (FIs ins))))), (13, ci ins.length), (14, ci i), (19, aCs x.c), (20, ci x.c.length), (21, ci a.length)], [(0, obN n)], 1⟩
 | [], a, n, hx, hB, ih, hL, hk => by
  refine RPt.vc hP sh lv22 (Eq.mpr (z9l ..) ?_)
  simp only [B] at h1
  rw [mSlC_nil] at hk
  rw [w64 (x := i + 1) (by omega) (by omega)]
  refine z00 (fun h => absurd (of_decide_eq_true h) ?_) (fun _ => hk)
  rw [hx]; simp
 | d :: b, a, n, hx, hB, ih, hL, hk => by
  simp only [B] at hB h1
  have hn := zbb d
  have hm := z9p b
  have hc := ih d List.mem_cons_self n (by first | trivial | (simp only [nCs] at hL; omega))
  rw [zj8] at hk
  have next := z4m ins x i r h0 (by simp only [B]; omega) b (a ++ [d]) (mSl d n) (by rw [hx]; simp) (by simp only [B]; omega) (fun u hu => ih u (List.mem_cons_of_mem _ hu)) (by first | trivial | (simp only [nCs, szF] at *; omega)) hk
  rw [nx] at next
  have hla : a.length < x.c.length := by rw [hx]; simp
  refine RPt.vc hP sh lv22 (Eq.mpr (z9l ..) ?_)
  have e : List.getD (FV.ses (.sl false 6 (FCs x.c))) (Int.toNat (a.length : Int)) [] = FC d := by rw [hx]; exact z9w a d b
  rw [e, w64 (x := (a.length : Int) + 1) (by omega) (by omega)]
  refine z00 (fun _ => ⟨⟨rfl, by omega, by show (a.length : Int) < (((FCs x.c).length : Nat) : Int); rw [z08]; omega, z8y d⟩, _, by rw [show (TV.agg [.a (.fz (.str (FV.asS (List.getD (FC d) 0 FV.nils)))), .a (.fz (.int .i64 (FV.asI (List.getD (FC d) 1 FV.nils)))), .a (.fz (.int .i64 (FV.asI (List.getD (FC d) 2 FV.nils)))), .a (.fz (.int .i64 (FV.asI (List.getD (FC d) 3 FV.nils)))), .a (.fz (.int .i64 (FV.asI (List.getD (FC d) 4 FV.nils)))), .a (.fz (List.getD (FC d) 5 FV.nils))]) = aC d from z81 d]; exact hc, next⟩) (fun h => absurd (of_decide_eq_false h) (by omega))
theorem z4l (ins : List In1) (hB : In1.szs ins ≤ B) : ∀ (b a : List In1) (n : Int), ins = a ++ b → (∀ x ∈ b, ∀ d ∈ x.c, ∀ n : Int, True → AC Tryz.prog 22 [aC d, z6k 24] [obN n] (.tup []) [obN (mSl d n)]) → True →
  RPt Tryz.prog 22 1 (.tup []) [obN (mSlI b n)] 1 ⟨[(1, z6k 24), (12, .c (.a (.fz (.sl false 8 (FIs ins))))), (13, ci ins.length), (14, ci a.length)], [(0, obN n)], 1⟩
 | [], a, n, hx, ih, hI => by
  refine RPt.vc hP sh lv22 (Eq.mpr (z9e ..) ?_)
  rw [mSlI_nil]
  refine z00 (fun h => absurd (of_decide_eq_true h) ?_) (fun _ => ⟨.refl _, rfl⟩)
  rw [hx]; simp
 | x :: b, a, n, hx, ih, hI => by
  have z1 : In1.sz1 x ≤ In1.szs ins := In1.szs_mem (by rw [hx]; simp)
  have z2 := In1.szs_length ins
  have z3 := Cd.szs_length x.c
  have z4 : Cd.szs x.c ≤ In1.sz1 x := by cases x; simp only [In1.c, In1.sz1]; omega
  simp only [B] at hB
  have hla : a.length < ins.length := by rw [hx]; simp
  have hn := z9p x.c
  have hm := zdc b
  have e0 : nIs (x :: b) = nCs x.c + nIs b := by cases x; rw [nIs]; rfl
  rw [zhu]
  have next := z4l ins (by simp only [B]; omega) b (a ++ [x]) (mSlC x.c n) (by rw [hx]; simp) (fun y hy => ih y (List.mem_cons_of_mem _ hy)) (by first | trivial | (simp only [szC] at *; omega))
  rw [nx] at next
  have h5 := z4m ins x a.length (mSlI b (mSlC x.c n)) (by omega) (by simp only [B]; omega) x.c [] n (by simp) (by simp only [B]; omega) (ih x List.mem_cons_self) (by first | trivial | omega) next
  have e : List.getD (FIs ins) (Int.toNat (a.length : Int)) [] = FI x := by rw [hx]; exact z30 a x b
  refine RPt.vc hP sh lv22 (Eq.mpr (z9e ..) ?_)
  rw [e]
  simp only [FI0, FI1, FI2, FI3, FI4, FI5, FI6, FI7]
  refine z00 (fun _ => ⟨el8 ins a.length (by omega) (by omega) x, rfl, ?_⟩) (fun h => absurd (of_decide_eq_false h) (by omega))
  rw [show (((FV.ses (.sl false 6 (FCs x.c))).length : Nat) : Int) = (x.c.length : Int) by show (((FCs x.c).length : Nat) : Int) = _; rw [z08]]
  exact h5
theorem zal : ∀ c : Cd, c.sz ≤ B → ∀ n : Int, True → AC Tryz.prog 22 [aC c, z6k 24] [obN n] (.tup []) [obN (mSl c n)] := by
 refine Cd.ind fun c ih hz n hT => ?_
 have z2 := In1.szs_length c.ins
 have z3 : In1.szs c.ins ≤ B := by cases c; simp only [Cd.sz, Cd.ins, B] at *; omega
 have hn := zdc c.ins
 have e0 : nIns c = (c.ins.length : Int) + nIs c.ins := by cases c; rw [nIns]; rfl
 have h1 := ziu c n hz (by first | trivial | omega)
 have h := z4l c.ins z3 c.ins [] (z1p [n, c.sl]) rfl (fun x hx d hd n hn => ih x hx d hd (by
  have a1 := In1.szs_mem hx
  have a2 := Cd.szs_mem hd
  cases x
  simp only [In1.sz1, In1.c] at *
  omega) n hn) (by first | trivial | omega)
 rw [mSl_eq]
 refine AC.vc hP sh lv22 (Nat.le_refl _) (by simp [isLive]) (by simp) (Eq.mpr (v22_F24 ..) ?_)
 rw [z02]
 exact ⟨_, h1, rfl, h⟩
theorem c_csize (c : Cd) (hz : c.sz ≤ B) : AC Tryz.prog 8 [aC c] [] (ci (nIns c)) [] := by
 have hn := zbb c
 have h := zc2 c hz 0 (by simp only [B, M61] at *; omega)
 refine AC.vc hP sh lv8 (Nat.le_refl _) (by simp) (by simp) (Eq.mpr (v8 ..) ?_)
 exact ⟨_, h, z2f (by rw [szF]; omega)⟩
theorem c_cslots (c : Cd) (hz : c.sz ≤ B) : AC Tryz.prog 9 [aC c] [] (ci (mSl c c.sl)) [] := by
 have h := zal c hz c.sl trivial
 refine AC.vc hP sh lv9 (Nat.le_refl _) (by simp) (by simp) (Eq.mpr (v9 ..) ?_)
 exact ⟨_, h, z2f rfl⟩
end Go.AM

set_option maxRecDepth 100000
open Go Go.Proofs
namespace Go.AM
open Go.RowKit Go.Lib in
set_option maxHeartbeats 1000000 in
theorem zer (b : Nat) (w : World) (h0 : w.cell? ⟨b, 0, none⟩ = some (.pointer (some ⟨b, 0, none⟩))) :
  Calls Tryz.prog 55 #[.pointer (some ⟨b, 0, none⟩)] w fun e w' => e = .returned (.tuple #[]) ∧ w' = w := by
 obtain ⟨j, hj, _⟩ := Option.map_eq_some_iff.1 (show (Tryz.prog.info? 48).map (·.size) = some 2 by kernel_rfl)
 go_enter Tryz.func55, Tryz.ntmps55
 go_wp2
 rw [Lib.run_neq_ptr_same w _ (show Tryz.prog.underlying 45 = some (.pointer 48) by kernel_rfl) hj]
 go_wp2
 go_end0
 exact ⟨rfl, rfl⟩
open Go.RowKit Go.Lib in
set_option maxHeartbeats 1000000 in
theorem zdn (b : Nat) (w : World) (h0 : w.cell? ⟨b, 0, none⟩ = some (.pointer none)) (hsh : w.shape? b = some (48, 2)) (hfz : w.frozen? ⟨b, 0, none⟩ = false) :
  Calls Tryz.prog 55 #[.pointer (some ⟨b, 0, none⟩)] w fun e w' => e = .returned (.tuple #[]) ∧ w' = w.setCell ⟨b, 0, none⟩ (.pointer (some ⟨b, 0, none⟩)) := by
 obtain ⟨j, hj, hjs⟩ := Option.map_eq_some_iff.1 (show (Tryz.prog.info? 48).map (·.size) = some 2 by kernel_rfl)
 have tP : Tryz.prog.underlying 45 = some (.pointer 48) := by kernel_rfl
 have tU : Tryz.prog.underlying 95 = some .unsafePointer := by kernel_rfl
 go_enter Tryz.func55, Tryz.ntmps55
 go_wp2
 rw [Lib.run_to_unsafe w ⟨b, 0, none⟩ tP tU hj (by rw [hjs]; decide) hsh (Nat.zero_lt_succ 1)]
 simp only [Result.andThen]
 rw [Oper.upon_value]
 go_wp2
 rw [run_callFunc_extern Tryz.func80 (by kernel_rfl) (by kernel_rfl) (by kernel_rfl) (e := Extern.AbiNoEscape.same) (by kernel_rfl)]
 rw [Lib.run_noEscape]
 simp only [Result.andThen]
 rw [Oper.upon_value]
 go_wp2
 rw [Lib.run_from_unsafe w ⟨b, 0, none⟩ tU tP hj hsh (by kernel_rfl)]
 simp only [Result.andThen]
 rw [Oper.upon_value]
 go_wp2
 go_end0
 exact ⟨rfl, rfl⟩
open Go.RowKit Go.Lib in
set_option maxHeartbeats 1000000 in
theorem zci : BW Tryz.prog 25 48 5 := by
 intro b p v bs s w hb hp hown hne hlen
 obtain ⟨i0, hi, hz0, hz1, hz2⟩ := info_parts (show (Tryz.prog.info? 5).map (fun i => (i.zero, i.size, i.bytes)) = some (some (.int .u8 0), 1, 1) by kernel_rfl)
 have tS : Tryz.prog.underlying 46 = some (.slice 5) := by kernel_rfl
 have tR : Tryz.prog.underlying 9 = some .string := by kernel_rfl
 have hba : BuilderAt 48 5 0 b p bs w := ⟨Nat.zero_le _, v, hb, hown, hne⟩
 have cC : Calls Tryz.prog 55 #[.pointer (some ⟨b, 0, none⟩)] w fun e w' => e = .returned (.tuple #[]) ∧ w' = w.setCell ⟨b, 0, none⟩ (.pointer (some ⟨b, 0, none⟩)) := by
  rcases hp with rfl | rfl
  · exact zdn b w hba.cell0 hba.shape hba.frozen0
  · refine (zer b w hba.cell0).mono ?_
    rintro e w' ⟨rfl, hw⟩
    exact ⟨rfl, hw.trans (zc7 hb rfl).symm⟩
 have hlt : b < w.heap.size := hba.lt
 have hb1 : (w.setCell ⟨b, 0, none⟩ (.pointer (some ⟨b, 0, none⟩))).heap[b]? = some (.cells #[.pointer (some ⟨b, 0, none⟩), v] 48 (0, 0)) := by
  simp [World.setCell, Array.getElem?_modify, hb]
 have hown1 : (w.setCell ⟨b, 0, none⟩ (.pointer (some ⟨b, 0, none⟩))).ownsRow 0 5 1 v bs.length bs := by
  obtain ⟨_, v1, q1, q2, _⟩ := hba.used (.pointer (some ⟨b, 0, none⟩))
  rw [hb1] at q1
  simp at q1
  rw [q1]; exact q2
 have hsz : (w.setCell ⟨b, 0, none⟩ (.pointer (some ⟨b, 0, none⟩))).heap.size = w.heap.size := by simp [World.setCell]
 have eC : ∀ args w, (callFunc 55 args).run Tryz.prog w = .ok (.enter 55 args) w := enters_of Tryz.func55 (by kernel_rfl) rfl
 go_enter Tryz.func25, Tryz.ntmps25
 go_wp2_with (go_at_fn 55; refine cC.mono ?_)
 rintro e w1 ⟨rfl, rfl⟩
 generalize hw1 : w.setCell ⟨b, 0, none⟩ (.pointer (some ⟨b, 0, none⟩)) = w1 at *
 have c0 : w1.cell? ⟨b, 0, none⟩ = some (.pointer (some ⟨b, 0, none⟩)) := by rw [Lib.cell_of_heap hb1]; rfl
 have c1 : w1.cell? ⟨b, 1, none⟩ = some v := by rw [Lib.cell_of_heap hb1]; rfl
 go_wp2_with (at_builtin; refine zhk rfl _ _ 46 9 rfl 5 i0 tS tR hi hz0 hz1 hz2 v bs.length bs rfl hown1 s rfl hlen ?_)
 intro v' w2 hk
 have hb2 : w2.heap[b]? = some (.cells #[.pointer (some ⟨b, 0, none⟩), v] 48 (0, 0)) := by
  rw [hk.blk b (by rw [hsz]; exact hlt) hne]; exact hb1
 have d0 : w2.cell? ⟨b, 0, none⟩ = some (.pointer (some ⟨b, 0, none⟩)) := by rw [Lib.cell_of_heap hb2]; rfl
 have d1 : w2.cell? ⟨b, 1, none⟩ = some v := by rw [Lib.cell_of_heap hb2]; rfl
 have f1 : w2.frozen? ⟨b, 1, none⟩ = false := Lib.frozen_of_heap hb2 1
 obtain ⟨ao, n', cap, rfl⟩ : ∃ ao n' cap, v' = .slice ao n' cap := by
  rcases hk.own.2 with ⟨hv, _⟩ | ⟨g, cap, cur, hv, _⟩
  · exact ⟨_, _, _, hv⟩
  · exact ⟨_, _, _, hv⟩
 go_wp2
 go_ret2
 exact ⟨rfl, w2, _, by rw [hw1]; exact hk, hb2, rfl⟩
open Go.RowKit Go.Lib in
set_option maxHeartbeats 1000000 in
theorem bstr_ok : BS Tryz.prog 28 48 5 := by
 intro b g cap p cur l w hbk hown hg hnc hcm hcs h0
 have hl0 : l.length ≠ 0 := by simpa using h0
 have c1 : w.drew.cell? ⟨b, 1, none⟩ = some (.slice (some ⟨g, 0, none⟩) l.length cap) := by
  have : w.drew.heap[b]? = some (.cells #[p, .slice (some ⟨g, 0, none⟩) l.length cap] 48 (0, 0)) := hbk
  rw [Lib.cell_of_heap this]; rfl
 have hSD : (Builtin.unsafeSliceData_ #[46] 83 #[.slice (some ⟨g, 0, none⟩) l.length cap]).run Tryz.prog w.drew = .ok (.pointer (some ⟨g, 0, none⟩)) w.drew :=
  Lib.run_unsafeSliceData_row _ _ _ _ _ _ (by omega)
 have hUS : (Builtin.unsafeString_ #[83, 3] 9 #[.pointer (some ⟨g, 0, none⟩), .int .i64 l.length]).run Tryz.prog w.drew = .ok (.string ⟨l.toArray⟩) (w.drew.freeze ⟨g, 0, none⟩ l.length) := by
  refine Lib.run_unsafeString_row w.drew 83 3 9 5 (by kernel_rfl) (by kernel_rfl) g cur.size (by have hg' : w.drew.heap[g]? = some (.cells cur 5 (0, 0)) := hg; simp [World.shape?, hg']) l h0 (by omega) (by unfold maxLen at hcm; omega) ?_
  intro j x hx
  exact hown.cells (g := g) rfl j (.int .u8 x.toNat) (by simp [Lib.byteCells, hx])
 go_enter Tryz.func28, Tryz.ntmps28
 go_wp2
 go_region
 all_goals (go_wp2; go_ret; exact ⟨rfl, rfl⟩)
abbrev bob (l : List UInt8) (n : Nat) : AObj := .arr 2 [[.a (.bld 48 0), .a (.osb n 5 l.length)]]
theorem c_bw0 (s : List UInt8) (hs : s ≠ []) (hlen : s.length ≤ 140737488355328) : AC Tryz.prog 25 [.c (.a (.ep 0 2 0 0)), cs s] [.arr 2 [[.a (.bld 48 0), .a (.fz .nils)]]] (zcs s.length) [bob s 1, .arz 1 (BR s)] := AM.c_bw0_ zci (by kernel_rfl) s hs hlen
theorem c_bw1 (l s : List UInt8) (hs : s ≠ []) (hlen : l.length + s.length ≤ 140737488355328) : AC Tryz.prog 25 [.c (.a (.ep 0 2 0 0)), cs s] [bob l 1, .arz 1 (BR l)] (zcs s.length) [bob (l ++ s) 2, .gone, .arz 1 (BR (l ++ s))] := AM.c_bw1_ zci (by kernel_rfl) l s hs hlen
theorem c_bstr (l : List UInt8) (hs : l ≠ []) : AC Tryz.prog 28 [.c (.a (.ep 0 2 0 0))] [bob l 1, .arz 1 (BR l)] (cs l) [.gone, .gone] := AM.c_bstr_ bstr_ok (by kernel_rfl) l hs
end Go.AM

set_option maxRecDepth 100000
open Go Go.Proofs
namespace Go.AM
theorem tab_now {w : World} {X : Nat → Prop} (h : Gl Tryz.prog w X) : Lib.TabIs Tryz.prog w "internal/strconv.uint64pow10" .u64 Lib.pow10Tab := by
 have : (Tryz.prog.globalNamed "internal/strconv.uint64pow10").isSome = true := by kernel_rfl
 obtain ⟨g, hg⟩ := Option.isSome_iff_exists.1 this
 exact (h g hg).1
theorem zjz (w : World) (foot : Nat → Prop) (k : Nat) (os : Array Obj) : Good w foot (Go.Sort.grow (w.drewN k) os) := by
 have e : ∀ b, b < w.heap.size → (w.heap ++ os)[b]? = w.heap[b]? := fun b hb => by rw [Array.getElem?_append_left hb]
 refine ⟨by simp [Go.Sort.grow, World.drewN], fun b hb _ => e b hb, fun b hb => ?_, rfl, rfl, rfl⟩
 show World.shape? { w with heap := w.heap ++ os, drawn := w.drawn + k } b = _
 simp only [World.shape?, e b hb]
theorem c_itoa (n : Int) (h0 : 0 ≤ n) (h1 : n ≤ 9223372036854775807) : AC Tryz.prog 56 [ci n] [] (cs (Lib.decDigits n.toNat)) [] := by
 refine ⟨by kernel_rfl, Nat.le_refl _, fun w us β Y g1 g2 gl g3 g4 => ?_⟩
 obtain ⟨u, us', rfl, k1, k2⟩ := g4.cons_inv
 rw [TRep.int_inv k1, k2.nil_inv]
 refine (Tryz.strconv_Itoa n (by omega) h1 w (tab_now gl)).mono fun e w' ⟨he, k, os, hw⟩ => ?_
 subst hw
 have hgood := zjz w (Own (fun o => ([] : List AObj).getD o .gone) β) k os
 refine ⟨_, β, he, hgood, ⟨fun o b h => by simp [isLive] at h, fun o h => by simp [isLive] at h, fun o o' b h => by simp [isLive] at h, fun o b h => absurd (g1 o b h) (Nat.not_lt_zero _)⟩, ?_, g1, fun o ho => absurd ho (Nat.not_lt_zero _), fun o b _ hb => absurd (g1 o b hb) (Nat.not_lt_zero _)⟩
 rw [show Lib.itoa n = Lib.decDigits n.toNat from if_neg (by omega)]
 exact .a _ _ (.fz _ _ (.str _))
end Go.AM

set_option maxRecDepth 100000
open Go Go.Proofs
namespace Go.AM
theorem z2y (n : Int) (h : n ≤ 9223372036854775807) : AC Tryz.prog 26 [ci n] [] (cs (dgF n)) [] := by
 have h1 := c_itoa (max n 0) (by omega) (by omega)
 refine AC.vc hP sh lv26 (Nat.le_refl _) (by simp) (by simp) (Eq.mpr (v26 ..) ?_)
 exact ⟨_, h1, ret_r (.refl _)⟩
theorem c_cword (k : Int) : AC Tryz.prog 27 [ci k] [] (.tup [(false, [.a (.fz (.str (z4v k)))]), (false, [.a (.fz (.bool (useA k)))])]) [] := by
 refine AC.vc hP sh lv27 (Nat.le_refl _) (by simp) (by simp) (Eq.mpr (v27 ..) ?_)
 repeat' (refine z00 (fun _ => ?_) (fun _ => ?_))
 all_goals first
  | (refine ret_r (z3o ?_); simp_all [z4v, useA, wordL]; done)
  | (simp only [beq_eq_false_iff_ne] at *; rw [show z4v k = [63] from by (unfold z4v; rw [if_neg (by omega)])]; refine ⟨z3o ?_, by trivial⟩; simp_all [useA]; done)
theorem zhv (l s : List UInt8) (hs : s ≠ []) (hlen : l.length + s.length ≤ 1000000000000) : AC Tryz.prog 25 [.c (.a (.ep 0 2 0 0)), cs s] [bob l 1, .arz 1 (BR l)] (.tup [(false, [.a (.fz (.int .i64 (((s.length : Nat) : Int), l ++ s).1))]), (false, [.a (.fz (.cst .nilIface))])])
      [bob (((s.length : Nat) : Int), l ++ s).2 2, .gone, .arz 1 (BR (((s.length : Nat) : Int), l ++ s).2)] := c_bw1 l s hs (by omega)
abbrev txE (ins : List In1) (i : Int) : Env := [(3, .c (.a (.ep 0 2 0 0))), (35, .c (.a (.fz (.sl false 8 (FIs ins))))), (36, ci ins.length), (37, ci i)]
theorem zfh (ins : List In1) (x : In1) (i : Int) (r : List UInt8) (h0 : 0 ≤ i) (h1 : i ≤ B) : ∀ (b a : List Cd) (l : List UInt8), x.c = a ++ b → x.c.length ≤ B → l ≠ [] → (∀ d ∈ b, AC Tryz.prog 10 [aC d] [] (cs (txF d)) []) → (l ++ txCs b).length ≤ 999999999999 →
  RPt Tryz.prog 10 0 (cs r) [] 1 ⟨txE ins (i + 1), [(0, bob (l ++ txCs b) 1), (1, .arz 1 (BR (l ++ txCs b)))], 2⟩ →
  RPt Tryz.prog 10 0 (cs r) [] 5 ⟨[(3, .c (.a (.ep 0 2 0 0))), (35, .c (.a (.fz (.sl false 8 (FIs ins))))), (36, ci ins.length), (37, ci i), (66, aCs x.c), (67, ci x.c.length), (68, ci a.length)], [(0, bob l 1), (1, .arz 1 (BR l))], 2⟩
 | [], a, l, hx, hB, hne, ih, hL, hk => by
  rw [txCs, List.append_nil] at hk
  simp only [B] at h1
  refine RPt.vc hP sh lv10 (Eq.mpr (v10_5a ..) ?_)
  rw [w64 (x := i + 1) (by omega) (by omega)]
  refine z00 (fun h => absurd (of_decide_eq_true h) ?_) (fun _ => hk)
  rw [hx]; simp
 | d :: b, a, l, hx, hB, hne, ih, hL, hk => by
  simp only [B] at hB h1
  have hla : a.length < x.c.length := by rw [hx]; simp
  rw [txCs, ← List.append_assoc] at hk hL
  have hc := ih d List.mem_cons_self
  have hd : txF d ≠ [] := by cases d; rw [txF]; simp
  have hL2 := hL
  simp only [List.length_append] at hL2
  have hw := zhv l (txF d) hd (by omega)
  have next := zfh ins x i r h0 (by simp only [B]; omega) b (a ++ [d]) (l ++ txF d) (by rw [hx]; simp) (by simp only [B]; omega) (by simp [hne]) (fun u hu => ih u (List.mem_cons_of_mem _ hu)) hL hk
  rw [nx] at next
  have e : List.getD (FV.ses (.sl false 6 (FCs x.c))) (Int.toNat (a.length : Int)) [] = FC d := by rw [hx]; exact z9w a d b
  refine RPt.vc hP sh lv10 (Eq.mpr (v10_5a ..) ?_)
  rw [e, w64 (x := (a.length : Int) + 1) (by omega) (by omega)]
  refine z00 (fun _ => ⟨⟨rfl, by omega, by show (a.length : Int) < (((FCs x.c).length : Nat) : Int); rw [z08]; omega, z8y d⟩, _, by rw [show (TV.agg [.a (.fz (.str (FV.asS (List.getD (FC d) 0 FV.nils)))), .a (.fz (.int .i64 (FV.asI (List.getD (FC d) 1 FV.nils)))), .a (.fz (.int .i64 (FV.asI (List.getD (FC d) 2 FV.nils)))), .a (.fz (.int .i64 (FV.asI (List.getD (FC d) 3 FV.nils)))), .a (.fz (.int .i64 (FV.asI (List.getD (FC d) 4 FV.nils)))), .a (.fz (List.getD (FC d) 5 FV.nils))]) = aC d from z81 d]; exact hc, (_, _), hw, next⟩) (fun h => absurd (of_decide_eq_false h) (by omega))
theorem za6 (ins : List In1) (hB : In1.szs ins ≤ B) (ho : z8m ins) : ∀ (b a : List In1) (l : List UInt8), ins = a ++ b → l ≠ [] → (∀ x ∈ b, x.k = 14 → ∀ d ∈ x.c, (txF d).length ≤ 999999999999 → AC Tryz.prog 10 [aC d] [] (cs (txF d)) []) → (l ++ txIs a.length b).length ≤ 999999999999 →
  RPt Tryz.prog 10 0 (cs (l ++ txIs a.length b)) [] 1 ⟨txE ins a.length, [(0, bob l 1), (1, .arz 1 (BR l))], 2⟩
 | [], a, l, hx, hne, ih, hL => by
  rw [txIs, List.append_nil]
  have h1 := c_bstr l hne
  refine RPt.vc hP sh lv10 (Eq.mpr (v10_1a ..) ?_)
  refine z00 (fun h => absurd (of_decide_eq_true h) ?_) (fun _ => ⟨_, h1, ret_r (.refl _)⟩)
  rw [hx]; simp
 | x :: b, a, l, hx, hne, ih, hL => by
  have hxm : x ∈ ins := by rw [hx]; simp
  have z1 := In1.szs_mem hxm
  have z2 := In1.szs_length ins
  have z3 := Cd.szs_length x.c
  have z4 : Cd.szs x.c ≤ In1.sz1 x := by cases x; simp only [In1.c, In1.sz1]; omega
  have ox : (-9223372036854775808 ≤ x.a ∧ x.a ≤ 9223372036854775807) := by have := z7r ho hxm; cases x; rw [okIn] at this; exact this.2.1
  simp only [B] at hB
  have hla : a.length < ins.length := by rw [hx]; simp
  have e : List.getD (FIs ins) (Int.toNat (a.length : Int)) [] = FI x := by rw [hx]; exact z30 a x b
  have eT : txIs a.length (x :: b) = ([32] ++ dgF a.length ++ [32] ++ z4v x.k ++ (if useA x.k = true then [32] ++ dgF x.a else []) ++ [10]) ++ ((if x.k = 14 then txCs x.c else []) ++ txIs ((a.length : Int) + 1) b) := by cases x; rw [txIs]; rfl
  have c1 := c_cword x.k
  have c2 := z2y (a.length : Int) (by omega)
  have c3 := z2y x.a ox.2
  have d1 := z5z (n := (a.length : Int)) (by omega)
  have d2 := z5z ox.2
  have d3 := word_len x.k
  rw [eT] at hL ⊢
  have hL2 := hL
  simp only [List.length_append, List.length_singleton] at hL2
  have w1 := zhv l (([32] ++ dgF a.length) ++ [32] ++ z4v x.k) (by simp) (by simp only [List.length_append, List.length_singleton]; omega)
  have next : ∀ q : List UInt8, q = l ++ ([32] ++ dgF a.length ++ [32] ++ z4v x.k ++ (if useA x.k = true then [32] ++ dgF x.a else []) ++ [10]) →
    br (x.k != 14) (RPt Tryz.prog 10 0 (cs (l ++ (([32] ++ dgF a.length ++ [32] ++ z4v x.k ++ (if useA x.k = true then [32] ++ dgF x.a else []) ++ [10]) ++ ((if x.k = 14 then txCs x.c else []) ++ txIs ((a.length : Int) + 1) b)))) [] 1 ⟨txE ins ((a.length : Int) + 1), [(0, bob q 1), (1, .arz 1 (BR q))], 2⟩)
     (FV.isSl 6 (.sl false 6 (FCs x.c)) = true ∧ RPt Tryz.prog 10 0 (cs (l ++ (([32] ++ dgF a.length ++ [32] ++ z4v x.k ++ (if useA x.k = true then [32] ++ dgF x.a else []) ++ [10]) ++ ((if x.k = 14 then txCs x.c else []) ++ txIs ((a.length : Int) + 1) b)))) [] 5 ⟨[(3, .c (.a (.ep 0 2 0 0))), (35, .c (.a (.fz (.sl false 8 (FIs ins))))), (36, ci ins.length), (37, ci a.length), (66, aCs x.c), (67, ci (((FV.ses (.sl false 6 (FCs x.c))).length : Nat) : Int)), (68, ci 0)], [(0, bob q 1), (1, .arz 1 (BR q))], 2⟩) := fun q hq => by
   rw [← List.append_assoc] at hL ⊢
   rw [← hq] at hL ⊢
   have hqne : q ≠ [] := by rw [hq]; simp
   refine z00 (fun h => ?_) (fun h => ?_)
   · have h : ¬ x.k = 14 := by simpa using h
     rw [if_neg h, List.nil_append] at hL ⊢
     have := za6 ins (by simp only [B]; omega) ho b (a ++ [x]) q (by rw [hx]; simp) hqne (fun y hy => ih y (List.mem_cons_of_mem _ hy)) (by rw [nx]; exact hL)
     rw [nx] at this
     exact this
   · have h : x.k = 14 := by simpa using h
     rw [if_pos h] at hL ⊢
     rw [← List.append_assoc] at hL ⊢
     have hL3 := hL
     simp only [List.length_append] at hL3
     refine ⟨rfl, ?_⟩
     have := zfh ins x a.length ((q ++ txCs x.c) ++ txIs ((a.length : Int) + 1) b) (by omega) (by simp only [B]; omega) x.c [] q (by simp) (by simp only [B]; omega) hqne (fun d hd => ih x List.mem_cons_self h d hd (by
      have : ∀ (m : List Cd), d ∈ m → (txF d).length ≤ (txCs m).length := by
       intro m
       induction m with
       | nil => intro h; cases h
       | cons e m ihm =>
        intro h
        rw [txCs, List.length_append]
        rcases List.mem_cons.1 h with rfl | h
        · omega
        · have := ihm h; omega
      have := this x.c hd
      omega)) (by simp only [List.length_append]; omega) (by
      have := za6 ins (by simp only [B]; omega) ho b (a ++ [x]) (q ++ txCs x.c) (by rw [hx]; simp) (by simp [hqne]) (fun y hy => ih y (List.mem_cons_of_mem _ hy)) (by rw [nx]; exact hL)
      rw [nx] at this
      exact this)
     rw [show (((FV.ses (.sl false 6 (FCs x.c))).length : Nat) : Int) = (x.c.length : Int) by show (((FCs x.c).length : Nat) : Int) = _; rw [z08]]
     exact this
  refine RPt.vc hP sh lv10 (Eq.mpr (v10_1a ..) ?_)
  rw [e]
  simp only [FI0, FI1, FI2, FI3, FI4, FI5, FI6, FI7]
  rw [w64 (x := (a.length : Int) + 1) (by omega) (by omega)]
  have need := el8 ins a.length (by omega) (by omega) x
  refine z00 (fun _ => ⟨need, _, _, c1, _, c2, by omega, by simp only [List.length_append, List.length_singleton]; omega, by simp only [List.length_append, List.length_singleton]; omega, (_, _), w1, z00 (fun h => ?_) (fun h => ?_)⟩) (fun h => absurd (of_decide_eq_false h) (by omega))
  · have hu : (if useA x.k = true then [32] ++ dgF x.a else []).length = (dgF x.a).length + 1 := by rw [if_pos h]; simp
    have w2 := zhv (l ++ (([32] ++ dgF a.length) ++ [32] ++ z4v x.k)) ([32] ++ dgF x.a) (by simp) (by simp only [List.length_append, List.length_singleton]; omega)
    have w3 := zhv ((l ++ (([32] ++ dgF a.length) ++ [32] ++ z4v x.k)) ++ ([32] ++ dgF x.a)) [10] (by simp) (by simp only [List.length_append, List.length_singleton]; omega)
    refine ⟨_, c3, by omega, (_, _), w2, (_, _), w3, next _ ?_⟩
    rw [if_pos h]; simp
  · have w3 := zhv (l ++ (([32] ++ dgF a.length) ++ [32] ++ z4v x.k)) [10] (by simp) (by simp only [List.length_append, List.length_singleton]; omega)
    refine ⟨(_, _), w3, next _ ?_⟩
    rw [if_neg (by rw [h]; simp)]; simp
theorem c_ctext : ∀ c : Cd, c.sz ≤ B → okCd c → (txF c).length ≤ 999999999999 → AC Tryz.prog 10 [aC c] [] (cs (txF c)) [] := by
 refine Cd.ind fun c ih hz ho hL => ?_
 have z3 : In1.szs c.ins ≤ B ∧ c.nm.length ≤ B := by cases c; simp only [Cd.sz, Cd.ins, Cd.nm, B] at *; omega
 have oc : c.ar ≤ 9223372036854775807 ∧ c.fr ≤ 9223372036854775807 ∧ c.vs ≤ 9223372036854775807 ∧ c.sl ≤ 9223372036854775807 ∧ z8m c.ins := by cases c; rw [okCd] at ho; exact ⟨ho.1.2, ho.2.1.2, ho.2.2.1.2, ho.2.2.2.1.2, ho.2.2.2.2⟩
 have eT : txF c = (c.nm ++ [47] ++ dgF c.ar ++ [32] ++ dgF c.fr ++ [32] ++ dgF c.vs ++ [32] ++ dgF c.sl ++ [10]) ++ txIs 0 c.ins := by cases c; rw [txF]; rfl
 rw [eT] at hL ⊢
 have hL2 := hL
 simp only [List.length_append, List.length_singleton] at hL2
 have d1 := z5z oc.1
 have d2 := z5z oc.2.1
 have d3 := z5z oc.2.2.1
 have d4 := z5z oc.2.2.2.1
 have w0 := c_bw0 (c.nm ++ [47] ++ dgF c.ar ++ [32] ++ dgF c.fr ++ [32] ++ dgF c.vs ++ [32] ++ dgF c.sl ++ [10]) (by simp) (by simp only [List.length_append, List.length_singleton]; omega)
 have h := za6 c.ins z3.1 oc.2.2.2.2 c.ins [] (c.nm ++ [47] ++ dgF c.ar ++ [32] ++ dgF c.fr ++ [32] ++ dgF c.vs ++ [32] ++ dgF c.sl ++ [10]) rfl (by simp) (fun x hx hk d hd hl => by
  have a1 := In1.szs_mem hx
  have a2 := Cd.szs_mem hd
  have o1 := z7r oc.2.2.2.2 hx
  refine ih x hx d hd ?_ ?_ hl
  · cases x
    simp only [In1.sz1, In1.c] at *
    omega
  · cases x
    rw [okIn] at o1
    exact zc8 o1.2.2.2.2 hd) hL
 simp only [B] at z3
 refine AC.vc hP sh lv10 (Nat.le_refl _) (by simp) (by simp) (Eq.mpr (v10 ..) ?_)
 refine ⟨by omega, _, z2y _ oc.1, ?_, ?_, _, z2y _ oc.2.1, ?_, ?_, _, z2y _ oc.2.2.1, ?_, ?_, _, z2y _ oc.2.2.2.1, ?_, ?_, (_, _), w0, rfl, ?_⟩
 all_goals try (simp only [List.length_append, List.length_singleton]; omega)
 rw [z02]
 exact h
end Go.AM

set_option maxRecDepth 100000
open Go Go.Proofs
namespace Go.AM
theorem fle_rows {b : Bool} {n : Nat} {es es' : List (List FV)} (h : All2 (All2 FV.Le) es es') : FV.Le (.sl b n es) (.sl b n es') := by
 have h1 := z38 h
 refine .rows b n es es' h1.1 (fun i e e' he he' => (z38 (h1.2 i e e' he he')).1) fun i j e e' f f' he he' hf hf' => (z38 (h1.2 i e e' he he')).2 j f f' hf hf'
theorem le_ag2 {xs ys : List WV} (h : All2 WV.Le xs ys) : TV.Le (.agg xs) (.agg ys) := by
 have h1 := z38 h
 exact .agg _ _ h1.1 h1.2
theorem w_fz {x y : FV} (h : FV.Le x y) : WV.Le (.a (.fz x)) (.a (.fz y)) := .a _ _ (.fz _ _ h)
abbrev rowI (k : Int) : List FV := [.int .i64 k, .int .i64 0, .int .i64 0, .str [], .int .i64 0, .nils, .nils, .nils]
theorem le_rowI (k : Int) : All2 FV.Le (rowI k) (FI (.mk k 0 (.mk 0 [] 0 []) [] [])) := by
 rw [FI]
 exact ⟨.refl _, .refl _, .refl _, .refl _, .refl _, .nils 4, .nils 4, .nils 6, trivial⟩
abbrev exCd : Cd := .mk [112] 1 0 0 0 [.mk 4 0 (.mk 0 [] 0 []) [] []]
abbrev exCe : Cd := .mk [112] 1 0 0 0 []
abbrev agX (f : FV) : TV := .agg [.a (.fz (.str [112])), .a (.fz (.int .i64 1)), .a (.fz (.int .i64 0)), .a (.fz (.int .i64 0)), .a (.fz (.int .i64 0)), .a (.fz f)]
theorem za5 : TV.Le (.agg [.a (.fz (.str [112])), .a (.fz (.int .i64 1)), .a (.fz (.int .i64 0)), .a (.fz (.int .i64 0)), .a (.fz (.int .i64 0)), .a (.fz (.sl false 8 [rowI 4]))]) (aC exCd) :=
 le_ag2 ⟨.refl _, .refl _, .refl _, .refl _, .refl _, w_fz (by show FV.Le _ (.sl false 8 (FIs [_])); rw [FIs, FIs]; exact fle_rows ⟨le_rowI 4, trivial⟩), trivial⟩
theorem le_exCe : TV.Le (.agg [.a (.fz (.str [112])), .a (.fz (.int .i64 1)), .a (.fz (.int .i64 0)), .a (.fz (.int .i64 0)), .a (.fz (.int .i64 0)), .a (.fz .nils)]) (aC exCe) :=
 le_ag2 ⟨.refl _, .refl _, .refl _, .refl _, .refl _, w_fz (by show FV.Le _ (.sl false 8 (FIs [])); rw [FIs]; exact .nils 8), trivial⟩
theorem nb_no (k : Int) (c : List Cd) (h : nbCs c) : bd 2305843009213693952 (.mk 0 [] 0 []) ∧ (∀ u ∈ ([] : List Tm), bd 2305843009213693952 u) ∧ nbCs c := ⟨⟨(fun e => by cases e), trivial⟩, (fun u hu => by cases hu), h⟩
theorem c_cworks : AC Tryz.prog 4 [] [] (cb true) [] := by
 have hC : exCd.sz ≤ B := by simp [exCd, Cd.sz, In1.szs, In1.sz1, Tm.bk, Tm.bks, Cd.szs, B]
 have hD : exCe.sz ≤ B := by simp [exCe, Cd.sz, In1.szs, B]
 have n1 : nbC exCd := ⟨nb_no 4 [] trivial, trivial⟩
 have n2 : nbC exCe := trivial
 have k1 := (zau exCd hC n1).args (args := [agX (.sl false 8 [rowI 4])]) ⟨za5, trivial⟩
 have k2 := (zau exCe hD n2).args (args := [agX .nils]) ⟨le_exCe, trivial⟩
 have k3 := (c_csize exCd hC).args (args := [agX (.sl false 8 [rowI 4])]) ⟨za5, trivial⟩
 have k4 := (c_cslots exCd hC).args (args := [agX (.sl false 8 [rowI 4])]) ⟨za5, trivial⟩
 have e0 : ∀ k : Nat, k < 10 → dgF k = [UInt8.ofNat (48 + k)] := by
  intro k hk
  unfold dgF
  rw [show (max (k : Int) 0).toNat = k by omega, Lib.decDigits, dif_pos hk]
 have d0 : dgF 0 = [48] := e0 0 (by omega)
 have d1 : dgF 1 = [49] := e0 1 (by omega)
 have eT : txF exCd = [112, 47, 49, 32, 48, 32, 48, 32, 48, 10, 32, 48, 32, 112, 114, 111, 99, 101, 101, 100, 10] := by
  rw [txF, txIs, txIs, d0, d1]; rfl
 have o1 : okCd exCd := by simp [okCd, z8m, okIn, okIs, okI, zcc]
 have k5 := (c_ctext exCd hC o1 (by rw [eT]; simp)).args (args := [agX (.sl false 8 [rowI 4])]) ⟨za5, trivial⟩
 rw [eT] at k5
 have q1 : vC exCd = true := by decide
 have q2 : vC exCe = false := by decide
 have q3 : nIns exCd = 1 := by decide
 have q4 : mSl exCd exCd.sl = 0 := by decide
 rw [q1] at k1
 rw [q2] at k2
 rw [q3] at k3
 rw [q4] at k4
 refine AC.vc hP sh lv4 (Nat.le_refl _) (by simp) (by simp) (Eq.mpr (v4 ..) ?_)
 refine ⟨⟨rfl, Nat.le_refl _⟩, true, k1, false, k2, z00 (fun _ => z00 (fun _ => ⟨_, k3, z00 (fun _ => ⟨_, k4, z00 (fun _ => ⟨_, k5, z01 rfl⟩) (fun q => by cases q)⟩) (fun q => by cases q)⟩) (fun q => by cases q)) (fun q => by cases q)⟩
def zjx (c : Cd) : Bool := decide (((c.nm.length : Nat) : Int) > 60) || zjs c 60
theorem c_cover (c : Cd) (hz : c.sz ≤ B) : AC Tryz.prog 5 [aC c] [] (cb (zjx c)) [] := by
 have h := c_clarge c hz 60 (by omega) (by omega)
 refine AC.vc hP sh lv5 (Nat.le_refl _) (by simp) (by simp) (Eq.mpr (v5 ..) ?_)
 exact z00 (fun q => z01 (by rw [zjx, q]; rfl)) (fun q => ⟨_, h, z01 (by rw [zjx, q]; rfl)⟩)
theorem bad_near {t : Tm} {l : List Tm} (h : z8k t l = false) : bd 2305843009213693952 t ∧ ∀ u ∈ l, bd 2305843009213693952 u := by
 unfold z8k at h
 simp only [Bool.or_eq_false_iff, Bool.not_eq_false'] at h
 refine ⟨bd_le (by omega) _ (zem t h.2.1), fun u hu => ?_⟩
 have h2 := h.2.2.2.2
 unfold badL at h2
 rw [List.any_eq_false] at h2
 have := h2 u hu
 simp only [Bool.or_eq_true, Bool.not_eq_true', not_or, Bool.not_eq_false] at this
 exact bd_le (by omega) _ (zem u this.2)
mutual
theorem zin : ∀ (c : Cd) (m : Int), 0 ≤ m → 0 ≤ z44 c m → nbC c
 | .mk nm ar fr vs sl ins, m, h0, h => by
  rw [z44] at h
  rw [nbC]
  exact zg9 ins (m - 1) (by omega) h
theorem zg9 : ∀ (l : List In1) (n : Int), 0 - 1 ≤ n → 0 ≤ z1m l n → nbIs l
 | [], _, _, _ => by rw [nbIs]; trivial
 | .mk k a t q c :: r, n, hn, h => by
  rw [z1m] at h
  by_cases h1 : n < 0
  · rw [if_pos h1] at h; omega
  rw [if_neg h1] at h
  by_cases h2 : z8k t q = true
  · rw [if_pos h2] at h; omega
  rw [if_neg h2] at h
  have hb := z6y c (n - 1) (by omega)
  have h3 : 0 ≤ z0q c (n - 1) := by
   by_cases h4 : z0q c (n - 1) < 0
   · rw [zho h4] at h; omega
   · omega
  have h4 := bad_near (t := t) (l := q) (by simpa using h2)
  rw [nbIs]
  refine ⟨⟨h4.1, h4.2, ?_⟩, zg9 r _ hb.1 h⟩
  exact zcu c (n - 1) (by omega) h3
theorem zcu : ∀ (l : List Cd) (n : Int), 0 - 1 ≤ n → 0 ≤ z0q l n → nbCs l
 | [], _, _, _ => by rw [nbCs]; trivial
 | c :: r, n, hn, h => by
  rw [z0q] at h
  by_cases h1 : n < 0
  · rw [if_pos h1] at h; omega
  rw [if_neg h1] at h
  have hb := ze0 c n (by omega)
  have h3 : 0 ≤ z44 c n := by
   by_cases h4 : z44 c n < 0
   · cases r with
     | nil => rw [z0q] at h; exact h
     | cons d r => rw [z0q, if_pos h4] at h; omega
   · omega
  rw [nbCs]
  exact ⟨zin c n (by omega) h3, zcu r _ hb.1 h⟩
end
theorem over_nb {c : Cd} (h : zjx c = false) : nbC c ∧ c.nm.length ≤ 60 ∧ 0 ≤ z44 c 60 := by
 unfold zjx zjs at h
 simp only [Bool.or_eq_false_iff, decide_eq_false_iff_not] at h
 exact ⟨zin c 60 (by omega) (by omega), by omega, by omega⟩
end Go.AM

set_option maxRecDepth 100000
open Go Go.Proofs
namespace Go.AM
theorem zix (s : List UInt8) : ∀ (b a : List (List UInt8)), a ++ b = logs → RPt Tryz.prog 49 0 (cb (b.contains s)) [] 1 ⟨[(0, cs s), (3, .c (.a (.osl 0 1 0 15))), (4, ci a.length)], [(0, .arz 1 (logs.map fun x => [.str x]))], 1⟩
 | [], a, h => by
  have hl : a.length = 15 := by rw [List.append_nil] at h; rw [h]; rfl
  refine RPt.vc hP sh lv49 (Eq.mpr (v49_1a ..) ?_)
  exact z00 (fun q => absurd (of_decide_eq_true q) (by omega)) (fun _ => z01 rfl)
 | x :: b, a, h => by
  have hl : a.length < 15 := by
   have := congrArg List.length h
   simp only [List.length_append, List.length_cons] at this
   have e : logs.length = 15 := rfl
   omega
  have next := zix s b (a ++ [x]) (by rw [← h]; simp)
  rw [nx] at next
  have e : List.getD (logs.map fun x => [FV.str x]) (0 + Int.toNat (a.length : Int)) [] = [.str x] := by
   rw [← h, Int.toNat_natCast, Nat.zero_add]; simp [List.getD]
  refine RPt.vc hP sh lv49 (Eq.mpr (v49_1a ..) ?_)
  rw [e, w64 (x := (a.length : Int) + 1) (by omega) (by omega)]
  refine z00 (fun _ => ⟨⟨by omega, by omega⟩, ⟨by rw [List.length_map, Int.toNat_natCast]; show _ < 15; omega, rfl, rfl⟩, z00 (fun q => z01 ?_) (fun q => ?_)⟩) (fun q => absurd (of_decide_eq_false q) (by omega))
  · have : x = s := by simpa [FV.asS] using q
    rw [this]; simp
  · have : ¬ x = s := by simpa [FV.asS] using q
    rw [show ((x :: b).contains s) = b.contains s by simp [List.contains_cons, Ne.symm this]]
    exact next
theorem zk8 (s : List UInt8) : AC Tryz.prog 49 [cs s] [] (cb (logB s)) [] := by
 have h := zix s logs [] rfl
 refine AC.vc hP sh lv49 (Nat.le_refl _) (by simp) (by simp) (Eq.mpr (v49 ..) ?_)
 exact h
theorem zfg (t : Tm) : AC Tryz.prog 50 [aT t] [] (cb (z31 t)) [] := by
 refine AC.vc hP sh lv50 (Nat.le_refl _) (by simp) (by simp) (Eq.mpr (v50 ..) ?_)
 have e : ((((FTs t.l).length : Nat) : Int) == 0) = t.l.isEmpty := by rw [z03]; cases t.l <;> simp <;> omega
 rw [e]
 unfold z31
 exact z00 (fun h => z00 (fun h2 => z00 (fun h3 => ⟨rfl, z01 (by rw [h, h2, h3]; rfl)⟩) (fun h3 => z01 (by rw [h, h2, h3]; rfl))) (fun h2 => z01 (by rw [h, h2]; rfl))) (fun h => z01 (by rw [h]; rfl))
theorem zct (n : Int) (t : Tm) (hl : t.l.length ≤ B) : ∀ (b a : List Tm), t.l = a ++ b → (∀ u ∈ b, AC Tryz.prog 79 [aT u, ci n] [] (cb (unF n u)) []) →
  RPt Tryz.prog 79 0 (cb (b.all (unF n))) [] 1 ⟨[(1, ci n), (2, .c (.a (.ep 0 4 0 0))), (5, ci a.length)], [(0, .arr 4 [cT t])], 1⟩
 | [], a, hx, _ => by
  refine RPt.vc hP sh lv79 (Eq.mpr (v79_1a ..) ?_)
  refine ⟨rfl, z00 (fun h => absurd (of_decide_eq_true h) (by rw [z03, hx]; simp)) (fun _ => z01 rfl)⟩
 | u :: b, a, hx, ih => by
  simp only [B] at hl
  have hla : a.length < t.l.length := by rw [hx]; simp
  have h1 := ih u List.mem_cons_self
  have next := zct n t (by simp only [B]; omega) b (a ++ [u]) (by rw [hx]; simp) (fun w hw => ih w (List.mem_cons_of_mem _ hw))
  rw [nx] at next
  have em : rE (List.getD (FTs t.l) (Int.toNat (a.length : Int)) []) = List.getD (FTs t.l) (Int.toNat (a.length : Int)) [] := by rw [hx]; exact zbo a u b
  have ea : aE (List.getD (FTs t.l) (Int.toNat (a.length : Int)) []) = aT u := by rw [hx]; exact zc5 a u b
  refine RPt.vc hP sh lv79 (Eq.mpr (v79_1a ..) ?_)
  rw [ea, w64 (x := (a.length : Int) + 1) (by omega) (by omega), List.all_cons]
  refine ⟨rfl, z00 (fun _ => ⟨⟨rfl, by omega, by rw [z03]; omega, em⟩, _, h1, z00 (fun h => z01 ?_) (fun h => ?_)⟩) (fun h => absurd (of_decide_eq_false h) (by rw [z03]; omega))⟩
  · rw [show unF n u = false by simpa using h]; rfl
  · rw [show unF n u = true by simpa using h, Bool.true_and]; exact next
theorem ziy (n : Int) : ∀ t : Tm, t.sz ≤ B → AC Tryz.prog 79 [aT t, ci n] [] (cb (unF n t)) [] := by
 refine Tm.ind fun t ih hs => ?_
 have hl := Tm.szs_length t.l
 have he := t.sz_eq
 have h1 := zct n t (by omega) t.l [] rfl (fun u hu => ih u hu (by have := Tm.szs_mem hu; omega))
 refine AC.vc hP sh lv79 (Nat.le_refl _) (by simp) (by simp) (Eq.mpr (v79 ..) ?_)
 rw [unF_eq]
 refine z00 (fun h => z01 (by rw [h]; rfl)) (fun h => z00 (fun h' => z00 (fun q => z01 (by rw [h, h', q]; rfl)) (fun q => ?_)) (fun h' => ?_))
 · rw [h, h', q, Bool.and_false, Bool.or_false, Bool.not_false, Bool.true_and]; exact h1
 · rw [h, h', Bool.false_and, Bool.or_false, Bool.not_false, Bool.true_and]; exact h1
theorem zjw : ∀ (t : Tm) (k : Int), 0 ≤ z33 t k
 | .mk kd s n l, k => by
  rw [z33]
  split
  · exact zeo _ _
  · split
    · exact z63 _ _
    · exact Int.le_refl _
theorem maxI_0 {a : Int} (h : 0 ≤ a) : maxI 0 a = a := by unfold maxI; rw [if_pos h]
theorem loose_R (t : Tm) : z2d t 0 0 = z33 t 0 ∧ 0 ≤ z33 t 0 := by
 have h := zjw t 0
 refine ⟨?_, h⟩
 rw [zd7 t 0 0 (Int.le_refl _)]
 exact maxI_0 h
theorem zbl (n : Int) (t : Tm) (hk : t.bk ≤ B) (hb : bd 2305843009213693952 t) : AC Tryz.prog 53 [aT t, ci n] [] (cb (plB n t)) [] := by
 have hs := Tm.sz_bk t
 have h1 := zge t hk
 have h2 := c_rloose t (by omega) hb 0 (by omega) (by simp only [B] at hk; omega)
 have h3 := ziy n t (by omega)
 have hp := loose_R t
 rw [← hp.1] at h2
 refine AC.vc hP sh lv53 (Nat.le_refl _) (by simp) (by simp) (Eq.mpr (v53 ..) ?_)
 unfold plB
 refine ⟨_, h1, z00 (fun h => ⟨_, h2, z00 (fun q => ⟨_, h3, z01 ?_⟩) (fun q => z01 ?_)⟩) (fun h => z01 (by rw [h]; rfl))⟩
 · have : z2d t 0 0 = 0 := by simpa using q
   rw [h, this]; rfl
 · have : ¬ z2d t 0 0 = 0 := by simpa using q
   rw [h, decide_eq_false (by omega)]; rfl
theorem zkn (s : List UInt8) (hl : s.length ≤ B) : AC Tryz.prog 18 [cs s] [] (cb (nmB s)) [] := by
 have h1 := zc0 s
 have h2 := zfx s hl
 have h3 := zk8 s
 refine AC.vc hP sh lv18 (Nat.le_refl _) (by simp) (by simp) (Eq.mpr (v18 ..) ?_)
 unfold nmB
 exact ⟨_, h1, _, h2, z00 (fun h => ⟨_, h3, z01 (by rw [h]; rfl)⟩) (fun h => z00 (fun q => ⟨_, h3, z01 (by rw [h, q]; rfl)⟩) (fun q => z01 (by rw [h, q]; rfl)))⟩
theorem c_rcnums (c : Cd) : AC Tryz.prog 19 [aC c] [] (cb (cntB c.ar c.fr c.vs c.sl)) [] := by
 refine AC.vc hP sh lv19 (Nat.le_refl _) (by simp) (by simp) (Eq.mpr (v19 ..) ?_)
 unfold cntB
 have no : ∀ {p : Prop} [Decidable p], ¬ p → TV.Le (cb false) (cb (decide p)) ∧ ([] : List AObj) = [] := fun h => z01 (decide_eq_false h).symm
 refine z00 (fun h1 => z00 (fun h2 => z00 (fun h3 => z00 (fun h4 => z00 (fun h5 => z00 (fun h6 => z00 (fun h7 => ?_) (fun q => no fun z => ?_)) (fun q => no fun z => ?_)) (fun q => no fun z => ?_)) (fun q => no fun z => ?_)) (fun q => no fun z => ?_)) (fun q => no fun z => ?_)) (fun q => no fun z => ?_)
 · have h1 := of_decide_eq_true h1
   have h2 := of_decide_eq_true h2
   have h3 := of_decide_eq_true h3
   have h4 := of_decide_eq_true h4
   have h5 := of_decide_eq_true h5
   have h6 := of_decide_eq_true h6
   have h7 := of_decide_eq_true h7
   rw [w64 (x := c.fr + c.vs) (by omega) (by omega)]
   exact z01 (by by_cases w : c.fr + c.vs ≤ c.sl
                 · rw [decide_eq_true w, decide_eq_true (by omega)]
                 · rw [decide_eq_false w, decide_eq_false (by omega)])
 all_goals (have q := of_decide_eq_false q; omega)
theorem zao (l : List Pl) (i : Nat) (p : Int × Int) : AC Tryz.prog 54 [.c (.a (.osl 0 3 0 l.length)), ci i, .agg [.a (.fz (.bool true)), .a (.fz (.int .i64 p.1)), .a (.fz (.int .i64 p.2))]] [.arz 3 (PR l)]
  (cb (z1l l i p).isSome) [.arz 3 (PR ((z1l l i p).getD l))] := by
 refine AC.vc hP sh lv54 (Nat.le_refl _) (by simp [isLive]) (by simp) (Eq.mpr (v54 ..) ?_)
 rw [Int.toNat_natCast, Nat.zero_add]
 refine z00 (fun h => ?_) (fun h => ?_)
 · have h := of_decide_eq_true h
   rw [z1l, if_neg (by omega)]
   exact ⟨.refl _, rfl⟩
 · have h := of_decide_eq_false h
   have hi : i < l.length := by omega
   have hn : (0 : Int) ≤ (i : Int) ∧ (i : Int) < ((l.length : Nat) : Int) := ⟨by omega, by omega⟩
   have e := zd3 hi
   rw [z1l, if_pos (by omega), Int.toNat_natCast]
   have e2 : List.set (PR l) i [.bool true, .int .i64 p.1, .int .i64 p.2] = PR (l.set i (true, p)) := zfl l i (true, p)
   rw [e2, e]
   generalize l.getD i (false, 0, 0) = q
   obtain ⟨m, x, y⟩ := q
   refine ⟨hn, ⟨by rw [z1g]; exact hi, rfl, rfl⟩, z00 (fun h1 => ?_) (fun h1 => ?_)⟩
   · have h1 : m = false := by simpa [pR, FV.asB] using h1
     subst h1
     exact ⟨hn, ⟨by rw [z1g]; exact hi, rfl⟩, .refl _, rfl⟩
   · have h1 : m = true := by simpa [pR, FV.asB] using h1
     subst h1
     refine ⟨hn, ⟨by rw [z1g]; exact hi, rfl, rfl⟩, ?_⟩
     by_cases hq : ((true, x, y) : Pl) = (true, p)
     · rw [if_neg (by simp), if_pos hq]
       obtain ⟨_, rfl⟩ := Prod.mk.inj hq
       exact ⟨z3o (by simp [pR, FV.asB, FV.asI]), rfl⟩
     · rw [if_neg (by simp), if_neg hq]
       refine ⟨z3o ?_, rfl⟩
       obtain ⟨p1, p2⟩ := p
       simp [pR, FV.asB, FV.asI] at hq ⊢
       exact hq
abbrev evW (n : Nat) (i : Int) : Env := [(1, .c (.a (.ep 0 6 0 0))), (3, .c (.a (.osl 1 3 0 n))), (4, ci i)]
theorem zfz (c : Cd) (hB : c.ins.length ≤ B) : ∀ (b a : List In1) (l : List Pl), c.ins = a ++ b → l.length = c.ins.length → (∀ x ∈ b, (x.k = 9 ∨ x.k = 10) → 0 ≤ x.a ∧ x.a ≤ B) →
  (∀ q ∈ l, (0 ≤ q.2.1 ∧ q.2.1 ≤ a.length) ∧ 0 ≤ q.2.2 ∧ q.2.2 ≤ a.length) →
  RPt Tryz.prog 21 0 (cb (z0j l a.length b)) [] 1 ⟨evW l.length a.length, [(0, obC c), (1, .arz 3 (PR l))], 2⟩
 | [], a, l, hx, hl, _, _ => by
  refine RPt.vc hP sh lv21 (Eq.mpr (v21_1a ..) ?_)
  refine z00 (fun h => absurd (of_decide_eq_true h) ?_) (fun _ => z01 rfl)
  rw [hl, hx]; simp
 | x :: b, a, l, hx, hl, ha, hq => by
  have hla : a.length < l.length := by rw [hl, hx]; simp
  simp only [B] at hB
  have next : ∀ l' : List Pl, l'.length = l.length → (∀ q ∈ l', (0 ≤ q.2.1 ∧ q.2.1 ≤ (a.length : Int) + 1) ∧ 0 ≤ q.2.2 ∧ q.2.2 ≤ (a.length : Int) + 1) → z7q l a.length x.k x.a = some l' →
    RPt Tryz.prog 21 0 (cb (z0j l a.length (x :: b))) [] 1 ⟨evW l.length ((a.length : Int) + 1), [(0, obC c), (1, .arz 3 (PR l'))], 2⟩ := fun l' h1 h2 h3 => by
   have := zfz c (by simp only [B]; omega) b (a ++ [x]) l' (by rw [hx]; simp) (by rw [h1, hl]) (fun y hy => ha y (List.mem_cons_of_mem _ hy)) (fun q hm => by
    have := h2 q hm
    simp only [List.length_append, List.length_singleton]
    omega)
   rw [nx, h1] at this
   rw [z0j, h3]
   exact this
  have em : List.getD (FIs c.ins) (Int.toNat (a.length : Int)) [] = FI x := by rw [hx]; exact z30 a x b
  have eq0 := zd3 hla
  refine RPt.vc hP sh lv21 (Eq.mpr (v21_1a ..) ?_)
  rw [w64 (x := (a.length : Int) + 1) (by omega) (by omega), em, Int.toNat_natCast, Nat.zero_add, eq0]
  rw [FI0, FI1, FI2, FI3, FI4, FI5, FI6, FI7]
  have hmem : l.getD a.length (false, 0, 0) ∈ l := by simp [List.getD, List.getElem?_eq_getElem hla]
  have hbd := hq _ hmem
  have sno := zf1 (l := l) (i := (a.length : Int)) (k := x.k) (a := x.a)
  have syes := zd (l := l) (i := (a.length : Int)) (k := x.k) (a := x.a)
  rw [Int.toNat_natCast] at sno syes
  generalize l.getD a.length (false, 0, 0) = q at *
  obtain ⟨m, p⟩ := q
  simp only at hbd sno syes
  have hn : (0 : Int) ≤ (a.length : Int) ∧ (a.length : Int) < ((l.length : Nat) : Int) := ⟨by omega, by omega⟩
  have hgrow : ∀ q ∈ l, (0 ≤ q.2.1 ∧ q.2.1 ≤ (a.length : Int) + 1) ∧ 0 ≤ q.2.2 ∧ q.2.2 ≤ (a.length : Int) + 1 := fun q hm => by have := hq q hm; omega
  have nd := el8 c.ins a.length (by omega) (by omega) x
  refine z00 (fun _ => ⟨hn, ⟨by rw [z1g]; exact hla, rfl, rfl⟩, z00 (fun h1 => ?_) (fun h1 => ⟨nd, ?_⟩)⟩) (fun h => absurd (of_decide_eq_false h) (by omega))
  · exact next l rfl hgrow (sno (by simpa [pR, FV.asB] using h1))
  have h1 : m = true := by simpa [pR, FV.asB] using h1
  subst h1
  obtain ⟨p1, p2⟩ := p
  have hs := syes rfl
  simp only at hbd hs
  have q0 : FV.asB (List.getD (pR (true, p1, p2)) 0 FV.nils) = true := rfl
  have q1 : FV.asI (List.getD (pR (true, p1, p2)) 1 FV.nils) = p1 := rfl
  have q2 : FV.asI (List.getD (pR (true, p1, p2)) 2 FV.nils) = p2 := rfl
  rw [q0, q1, q2]
  have none_no : z7q l a.length x.k x.a = none → TV.Le (cb false) (cb (z0j l a.length (x :: b))) ∧ ([] : List AObj) = [] := fun h => z01 (by rw [z0j, h])
  have hm1 : ∀ (l1 l2 : List Pl) (i : Int) (p' : Int × Int), (0 ≤ p'.1 ∧ p'.1 ≤ (a.length : Int) + 1) ∧ 0 ≤ p'.2 ∧ p'.2 ≤ (a.length : Int) + 1 → (∀ q ∈ l1, (0 ≤ q.2.1 ∧ q.2.1 ≤ (a.length : Int) + 1) ∧ 0 ≤ q.2.2 ∧ q.2.2 ≤ (a.length : Int) + 1) → z1l l1 i p' = some l2 → l2.length = l1.length ∧ ∀ q ∈ l2, (0 ≤ q.2.1 ∧ q.2.1 ≤ (a.length : Int) + 1) ∧ 0 ≤ q.2.2 ∧ q.2.2 ≤ (a.length : Int) + 1 := fun l1 l2 i p' hb2 h3 h4 => by
   have := z7g h4
   refine ⟨this.1, fun q hm => ?_⟩
   rcases this.2 q hm with h | h
   · exact h3 q h
   · rw [h]; exact hb2
  have tail : ∀ x' y' : Int, aftP x.k (p1, p2) = (x', y') → ¬ (x.k = 3 ∨ x.k = 4) → ¬ x.k = 8 →
    br (decide (x' < 0)) (TV.Le (cb false) (cb (z0j l a.length (x :: b))) ∧ ([] : List AObj) = []) (br (decide (y' < 0)) (TV.Le (cb false) (cb (z0j l a.length (x :: b))) ∧ ([] : List AObj) = [])
     (br (x.k == 9)
      ((FV.isSl 8 (.sl false 8 (FIs c.ins)) = true ∧ 0 ≤ (a.length : Int) ∧ (a.length : Int) < (((FIs c.ins).length : Nat) : Int) ∧ ([.int .i64 x.k, .int .i64 x.a, .int .i64 x.t.k, .str x.t.s, .int .i64 x.t.n, .sl false 4 (FTs x.t.l), .sl false 4 (FTs x.l), .sl false 6 (FCs x.c)] : List FV) = FI x) ∧
       ∃ z1 : Bool × List (List FV), AC Tryz.prog 54 [.c (.a (.osl 0 3 0 l.length)), ci x.a, .agg [.a (.fz (.bool true)), .a (.fz (.int .i64 x')), .a (.fz (.int .i64 y'))]] [.arz 3 (PR l)] (cb z1.1) [.arz 3 z1.2] ∧
        br (x.k != 10) (∃ z2 : Bool × List (List FV), AC Tryz.prog 54 [.c (.a (.osl 0 3 0 l.length)), ci ((a.length : Int) + 1), .agg [.a (.fz (.bool true)), .a (.fz (.int .i64 x')), .a (.fz (.int .i64 y'))]] [.arz 3 z1.2] (cb z2.1) [.arz 3 z2.2] ∧
          br z1.1 (br (!z2.1) (TV.Le (cb false) (cb (z0j l a.length (x :: b))) ∧ ([] : List AObj) = []) (RPt Tryz.prog 21 0 (cb (z0j l a.length (x :: b))) [] 1 ⟨evW l.length ((a.length : Int) + 1), [(0, obC c), (1, .arz 3 z2.2)], 2⟩)) (TV.Le (cb false) (cb (z0j l a.length (x :: b))) ∧ ([] : List AObj) = []))
         (br (!z1.1) (TV.Le (cb false) (cb (z0j l a.length (x :: b))) ∧ ([] : List AObj) = []) (RPt Tryz.prog 21 0 (cb (z0j l a.length (x :: b))) [] 1 ⟨evW l.length ((a.length : Int) + 1), [(0, obC c), (1, .arz 3 z1.2)], 2⟩)))
      (br (x.k == 10)
       ((FV.isSl 8 (.sl false 8 (FIs c.ins)) = true ∧ 0 ≤ (a.length : Int) ∧ (a.length : Int) < (((FIs c.ins).length : Nat) : Int) ∧ ([.int .i64 x.k, .int .i64 x.a, .int .i64 x.t.k, .str x.t.s, .int .i64 x.t.n, .sl false 4 (FTs x.t.l), .sl false 4 (FTs x.l), .sl false 6 (FCs x.c)] : List FV) = FI x) ∧
        ∃ z1 : Bool × List (List FV), AC Tryz.prog 54 [.c (.a (.osl 0 3 0 l.length)), ci x.a, .agg [.a (.fz (.bool true)), .a (.fz (.int .i64 x')), .a (.fz (.int .i64 y'))]] [.arz 3 (PR l)] (cb z1.1) [.arz 3 z1.2] ∧
         br (x.k != 10) (∃ z2 : Bool × List (List FV), AC Tryz.prog 54 [.c (.a (.osl 0 3 0 l.length)), ci ((a.length : Int) + 1), .agg [.a (.fz (.bool true)), .a (.fz (.int .i64 x')), .a (.fz (.int .i64 y'))]] [.arz 3 z1.2] (cb z2.1) [.arz 3 z2.2] ∧
           br z1.1 (br (!z2.1) (TV.Le (cb false) (cb (z0j l a.length (x :: b))) ∧ ([] : List AObj) = []) (RPt Tryz.prog 21 0 (cb (z0j l a.length (x :: b))) [] 1 ⟨evW l.length ((a.length : Int) + 1), [(0, obC c), (1, .arz 3 z2.2)], 2⟩)) (TV.Le (cb false) (cb (z0j l a.length (x :: b))) ∧ ([] : List AObj) = []))
          (br (!z1.1) (TV.Le (cb false) (cb (z0j l a.length (x :: b))) ∧ ([] : List AObj) = []) (RPt Tryz.prog 21 0 (cb (z0j l a.length (x :: b))) [] 1 ⟨evW l.length ((a.length : Int) + 1), [(0, obC c), (1, .arz 3 z1.2)], 2⟩)))
       (br (x.k != 10) (∃ z2 : Bool × List (List FV), AC Tryz.prog 54 [.c (.a (.osl 0 3 0 l.length)), ci ((a.length : Int) + 1), .agg [.a (.fz (.bool true)), .a (.fz (.int .i64 x')), .a (.fz (.int .i64 y'))]] [.arz 3 (PR l)] (cb z2.1) [.arz 3 z2.2] ∧
         br (!z2.1) (TV.Le (cb false) (cb (z0j l a.length (x :: b))) ∧ ([] : List AObj) = []) (RPt Tryz.prog 21 0 (cb (z0j l a.length (x :: b))) [] 1 ⟨evW l.length ((a.length : Int) + 1), [(0, obC c), (1, .arz 3 z2.2)], 2⟩))
        (RPt Tryz.prog 21 0 (cb (z0j l a.length (x :: b))) [] 1 ⟨evW l.length ((a.length : Int) + 1), [(0, obC c), (1, .arz 3 (PR l))], 2⟩))))) := by
   intro x' y' hp n34 n8
   have hR : aftR x.k (p1, p2) = ((x', y'), true, decide (x' ≥ 0) && decide (y' ≥ 0)) := by unfold aftR; rw [if_neg n34, if_neg n8, hp]
   rw [hR] at hs
   simp only at hs
   refine z00 (fun h => none_no ?_) (fun h => z00 (fun h' => none_no ?_) (fun h' => ?_))
   · have := of_decide_eq_true h
     rw [hs, decide_eq_false (by omega), Bool.false_and, if_pos rfl]
   · have := of_decide_eq_true h'
     rw [hs, decide_eq_false (show ¬ y' ≥ 0 by omega), Bool.and_false, if_pos rfl]
   have h := of_decide_eq_false h
   have h' := of_decide_eq_false h'
   rw [decide_eq_true (show x' ≥ 0 by omega), decide_eq_true (show y' ≥ 0 by omega)] at hs
   simp only [Bool.and_self, Bool.true_eq_false, if_false] at hs
   have hb2 := aft_bd (k := x.k) (p := (p1, p2)) hbd.1 hbd.2 (by omega) (by rw [hR, decide_eq_true (show x' ≥ 0 by omega), decide_eq_true (show y' ≥ 0 by omega)]; rfl)
   rw [hR] at hb2
   simp only at hb2
   have go2 : ∀ l1 : List Pl, l1.length = l.length → (∀ q ∈ l1, (0 ≤ q.2.1 ∧ q.2.1 ≤ (a.length : Int) + 1) ∧ 0 ≤ q.2.2 ∧ q.2.2 ≤ (a.length : Int) + 1) → z7q l a.length x.k x.a = z1l l1 ((a.length : Int) + 1) (x', y') →
     ∃ z2 : Bool × List (List FV), AC Tryz.prog 54 [.c (.a (.osl 0 3 0 l.length)), ci ((a.length : Int) + 1), .agg [.a (.fz (.bool true)), .a (.fz (.int .i64 x')), .a (.fz (.int .i64 y'))]] [.arz 3 (PR l1)] (cb z2.1) [.arz 3 z2.2] ∧
      br (!z2.1) (TV.Le (cb false) (cb (z0j l a.length (x :: b))) ∧ ([] : List AObj) = []) (RPt Tryz.prog 21 0 (cb (z0j l a.length (x :: b))) [] 1 ⟨evW l.length ((a.length : Int) + 1), [(0, obC c), (1, .arz 3 z2.2)], 2⟩) := fun l1 e1 h3 h4 => by
    have hc2 := zao l1 (a.length + 1) (x', y')
    rw [e1, show ((a.length + 1 : Nat) : Int) = (a.length : Int) + 1 by omega] at hc2
    refine ⟨(_, _), hc2, z00 (fun h => none_no ?_) (fun h => ?_)⟩
    · rw [h4]
      cases hm : z1l l1 ((a.length : Int) + 1) (x', y') with
      | none => rfl
      | some l2 => rw [hm] at h; cases h
    · cases hm : z1l l1 ((a.length : Int) + 1) (x', y') with
      | none => rw [hm] at h; cases h
      | some l2 =>
       have h5 := hm1 l1 l2 _ _ hb2 h3 hm
       exact next l2 (by rw [h5.1, e1]) h5.2 (by rw [h4, hm])
   by_cases hk : x.k = 9 ∨ x.k = 10
   · rw [if_pos hk] at hs
     have hxa := ha x List.mem_cons_self hk
     obtain ⟨j, hj⟩ : ∃ j : Nat, x.a = j := ⟨x.a.toNat, by omega⟩
     have hc1 := zao l j (x', y')
     rw [← hj] at hc1
     have hc2 := zao ((z1l l x.a (x', y')).getD l) (a.length + 1) (x', y')
     rw [show ((a.length + 1 : Nat) : Int) = (a.length : Int) + 1 by omega] at hc2
     have hlen1 : ((z1l l x.a (x', y')).getD l).length = l.length := by
      cases hm : z1l l x.a (x', y') with
      | none => rfl
      | some l2 => exact (z7g hm).1
     rw [hlen1] at hc2
     have key : ∃ z1 : Bool × List (List FV), AC Tryz.prog 54 [.c (.a (.osl 0 3 0 l.length)), ci x.a, .agg [.a (.fz (.bool true)), .a (.fz (.int .i64 x')), .a (.fz (.int .i64 y'))]] [.arz 3 (PR l)] (cb z1.1) [.arz 3 z1.2] ∧
               br (x.k != 10) (∃ z2 : Bool × List (List FV), AC Tryz.prog 54 [.c (.a (.osl 0 3 0 l.length)), ci ((a.length : Int) + 1), .agg [.a (.fz (.bool true)), .a (.fz (.int .i64 x')), .a (.fz (.int .i64 y'))]] [.arz 3 z1.2] (cb z2.1) [.arz 3 z2.2] ∧
                 br z1.1 (br (!z2.1) (TV.Le (cb false) (cb (z0j l a.length (x :: b))) ∧ ([] : List AObj) = []) (RPt Tryz.prog 21 0 (cb (z0j l a.length (x :: b))) [] 1 ⟨evW l.length ((a.length : Int) + 1), [(0, obC c), (1, .arz 3 z2.2)], 2⟩)) (TV.Le (cb false) (cb (z0j l a.length (x :: b))) ∧ ([] : List AObj) = []))
                (br (!z1.1) (TV.Le (cb false) (cb (z0j l a.length (x :: b))) ∧ ([] : List AObj) = []) (RPt Tryz.prog 21 0 (cb (z0j l a.length (x :: b))) [] 1 ⟨evW l.length ((a.length : Int) + 1), [(0, obC c), (1, .arz 3 z1.2)], 2⟩)) := by
      refine ⟨(_, _), hc1, ?_⟩
      cases hm : z1l l x.a (x', y') with
      | none =>
       rw [hm] at hs hc2
       refine z00 (fun _ => ⟨(_, _), hc2, ?_⟩) (fun _ => ?_)
       · exact none_no hs
       · exact none_no hs
      | some l2 =>
       rw [hm] at hs hc2
       simp only at hs
       have h5 := hm1 l l2 _ _ hb2 hgrow hm
       refine z00 (fun h6 => ?_) (fun h6 => ?_)
       · rw [if_neg (by simpa using h6)] at hs
         obtain ⟨z, q1, q2⟩ := go2 l2 h5.1 h5.2 hs
         exact ⟨z, q1, q2⟩
       · rw [if_pos (by simpa using h6)] at hs
         exact next l2 h5.1 h5.2 hs
     refine z00 (fun _ => ⟨nd, key⟩) (fun h9 => ?_)
     have h10 : (x.k == 10) = true := by
      rcases hk with h | h
      · rw [h] at h9; cases h9
      · rw [h]; rfl
     exact z00 (fun _ => ⟨nd, key⟩) (fun q => by rw [h10] at q; cases q)
   · rw [if_neg hk] at hs
     refine z00 (fun q => absurd (Or.inl (by simpa using q)) hk) (fun _ => z00 (fun q => absurd (Or.inr (by simpa using q)) hk) (fun h10 => z00 (fun _ => go2 l rfl hgrow hs) (fun q => ?_)))
     rw [bne, h10] at q; cases q
  have stop34 : (x.k = 3 ∨ x.k = 4) → br (p1 != 0) (TV.Le (cb false) (cb (z0j l a.length (x :: b))) ∧ ([] : List AObj) = []) (br (p2 != 0) (TV.Le (cb false) (cb (z0j l a.length (x :: b))) ∧ ([] : List AObj) = []) (RPt Tryz.prog 21 0 (cb (z0j l a.length (x :: b))) [] 1 ⟨evW l.length ((a.length : Int) + 1), [(0, obC c), (1, .arz 3 (PR l))], 2⟩)) := fun h34 => by
   have hR : aftR x.k (p1, p2) = ((p1, p2), false, p1 == 0 && p2 == 0) := by unfold aftR; rw [if_pos h34]
   rw [hR] at hs
   simp only at hs
   refine z00 (fun h => none_no ?_) (fun h => z00 (fun h' => none_no ?_) (fun h' => next l rfl hgrow ?_))
   · rw [hs, show (p1 == 0) = false by simpa using h]; rfl
   · rw [hs, show (p2 == 0) = false by simpa using h', Bool.and_false]; rfl
   · rw [hs, show (p1 == 0) = true by simpa using h, show (p2 == 0) = true by simpa using h']; rfl
  have w1 : IntKind.wrap .i64 (p1 + 1) = p1 + 1 := w64 (by omega) (by omega)
  have w2 : IntKind.wrap .i64 (p1 - 1) = p1 - 1 := w64 (by omega) (by omega)
  have w3 : IntKind.wrap .i64 (p2 + 1) = p2 + 1 := w64 (by omega) (by omega)
  have w4 : IntKind.wrap .i64 (p2 - 1) = p2 - 1 := w64 (by omega) (by omega)
  rw [w1, w2, w3, w4]
  have kk : ∀ {v : Int}, (x.k == v) = true → x.k = v := fun h => by simpa using h
  have nk : ∀ {v : Int}, (x.k == v) = false → ¬ x.k = v := fun h => by simpa using h
  refine z00 (fun h4 => stop34 (.inr (kk h4))) (fun n4 => z00 (fun h3 => stop34 (.inl (kk h3))) (fun n3 => z00 (fun h8 => ?_) (fun n8 => ?_)))
  · refine next l rfl hgrow ?_
    have hR : aftR x.k (p1, p2) = ((p1, p2), false, true) := by unfold aftR; rw [if_neg (by rw [kk h8]; omega), if_pos (kk h8)]
    rw [hs, hR]; rfl
  have n34 : ¬ (x.k = 3 ∨ x.k = 4) := fun h => h.elim (nk n3) (nk n4)
  refine z00 (fun h => tail _ _ ?_ n34 (nk n8)) (fun n11 => z00 (fun h => tail _ _ ?_ n34 (nk n8)) (fun n12 => z00 (fun h => tail _ _ ?_ n34 (nk n8)) (fun n14 => z00 (fun h => tail _ _ ?_ n34 (nk n8)) (fun n15 => tail _ _ ?_ n34 (nk n8)))))
  · rw [aftP, if_pos (kk h)]
  · rw [aftP, if_neg (nk n11), if_pos (kk h)]
  · rw [aftP, if_neg (nk n11), if_neg (nk n12), if_pos (kk h)]
  · rw [aftP, if_neg (nk n11), if_neg (nk n12), if_neg (nk n14), if_pos (kk h)]
  · rw [aftP, if_neg (nk n11), if_neg (nk n12), if_neg (nk n14), if_neg (nk n15)]
theorem c_rcways (c : Cd) (hB : c.ins.length ≤ B) (h0 : 0 < c.ins.length) (ha : ∀ x ∈ c.ins, (x.k = 9 ∨ x.k = 10) → 0 ≤ x.a ∧ x.a ≤ B) : AC Tryz.prog 21 [aC c] [] (cb (z8j c.ins)) [] := by
 have h := zfz c hB c.ins [] ((List.replicate c.ins.length (false, 0, 0)).set 0 (true, 0, 0)) rfl (by simp) ha (fun q hq => by
  rcases List.mem_or_eq_of_mem_set hq with h | h
  · rw [(List.mem_replicate.1 h).2]; simp
  · rw [h]; simp)
 have e : PR ((List.replicate c.ins.length (false, 0, 0)).set 0 (true, 0, 0)) = List.set (List.replicate (Int.toNat (((FIs c.ins).length : Nat) : Int)) [.bool false, .int .i64 0, .int .i64 0]) 0 (z2p (List.getD (List.replicate (Int.toNat (((FIs c.ins).length : Nat) : Int)) [.bool false, .int .i64 0, .int .i64 0]) 0 []) 0 [.bool true]) := by
  rw [← zfl, Int.toNat_natCast, z02]
  have : List.getD (List.replicate c.ins.length [FV.bool false, .int .i64 0, .int .i64 0]) 0 [] = [.bool false, .int .i64 0, .int .i64 0] := by simp [List.getD, h0]
  rw [this]
  simp [PR, pR, z2p]
 rw [e] at h
 simp only [B] at hB
 refine AC.vc hP sh lv21 (Nat.le_refl _) (by simp) (by simp) (Eq.mpr (v21 ..) ?_)
 refine ⟨rfl, ⟨rfl, by omega, rfl, by omega, by omega, ?_⟩, ⟨by omega, ?_⟩, ⟨?_, ?_⟩, ?_⟩
 · unfold z2s; rw [Int.toNat_natCast, z02]; omega
 · rw [Int.toNat_natCast, z02]; omega
 · rw [List.length_replicate, Int.toNat_natCast, z02]; exact h0
 · rw [Int.toNat_natCast, z02]; simp [List.getD, h0]
 · have hn : ((List.replicate c.ins.length ((false, 0, 0) : Pl)).set 0 (true, 0, 0)).length = Int.toNat (((FIs c.ins).length : Nat) : Int) := by simp [z02]
   rw [hn] at h
   exact h
end Go.AM

set_option maxRecDepth 100000
open Go Go.Proofs
namespace Go.AM
theorem el6 (l : List Cd) (i : Int) (h0 : 0 ≤ i) (h1 : i < l.length) (d : Cd) : FV.isSl 6 (.sl false 6 (FCs l)) = true ∧ 0 ≤ i ∧ i < (((FCs l).length : Nat) : Int) ∧ (fCr (FC d) : List FV) = FC d := ⟨rfl, h0, by rw [z08]; exact h1, z8y d⟩
abbrev evFl (ok : Bool) (r : Nat) (i : Int) : Env := [(2, .c (.a (.ep 0 6 0 0))), (5, .c (.a (.ep 1 8 0 0))), (10, cb ok), (r, ci i)]
abbrev hpF (c : Cd) (x : In1) : AHeap := [(0, obC c), (1, .arr 8 [cIn x])]
theorem z80 (c : Cd) (x : In1) (hB : x.c.length ≤ B) : ∀ (b a : List Cd) (ok : Bool), x.c = a ++ b → (∀ d ∈ b, AC Tryz.prog 7 [aC d] [] (cb (vC d)) []) →
  RPt Tryz.prog 20 0 (cb (ok && vCs c.sl b)) [] 7 ⟨evFl ok 23 a.length, hpF c x, 2⟩
 | [], a, ok, hx, ih => by
  refine RPt.vc hP sh lv20 (Eq.mpr (v20_7a ..) ?_)
  rw [vCs, Bool.and_true]
  refine ⟨rfl, z00 (fun h => absurd (of_decide_eq_true h) ?_) (fun _ => z01 rfl)⟩
  show ¬ (a.length : Int) < (((FCs x.c).length : Nat) : Int)
  rw [z08, hx]; simp
 | d :: b, a, ok, hx, ih => by
  simp only [B] at hB
  have hla : a.length < x.c.length := by rw [hx]; simp
  have hc := ih d List.mem_cons_self
  have e : List.getD (FV.ses (.sl false 6 (FCs x.c))) (Int.toNat (a.length : Int)) [] = FC d := by rw [hx]; exact z9w a d b
  have f2 : FV.asI (List.getD (FC d) 2 FV.nils) = d.fr := by cases d; rw [FC]; rfl
  have nd := el6 x.c a.length (by omega) (by omega) d
  have next := fun ok' => z80 c x (by simp only [B]; omega) b (a ++ [d]) ok' (by rw [hx]; simp) (fun u hu => ih u (List.mem_cons_of_mem _ hu))
  rw [nx] at next
  refine RPt.vc hP sh lv20 (Eq.mpr (v20_7a ..) ?_)
  rw [e, w64 (x := (a.length : Int) + 1) (by omega) (by omega), vCs]
  refine ⟨rfl, z00 (fun _ => z00 (fun h => ?_) (fun h => z01 (by rw [h]; rfl))) (fun h => absurd (of_decide_eq_false h) ?_)⟩
  · have hok : ok = true := by simpa using h
    subst hok
    refine ⟨nd, z00 (fun q => ?_) (fun q => ?_)⟩
    · rw [f2] at q
      rw [q, Bool.true_and, Bool.true_and]
      exact ⟨nd, _, by rw [show (TV.agg [.a (.fz (.str (FV.asS (List.getD (FC d) 0 FV.nils)))), .a (.fz (.int .i64 (FV.asI (List.getD (FC d) 1 FV.nils)))), .a (.fz (.int .i64 (FV.asI (List.getD (FC d) 2 FV.nils)))), .a (.fz (.int .i64 (FV.asI (List.getD (FC d) 3 FV.nils)))), .a (.fz (.int .i64 (FV.asI (List.getD (FC d) 4 FV.nils)))), .a (.fz (List.getD (FC d) 5 FV.nils))]) = aC d from z81 d]; exact hc, next _⟩
    · rw [f2] at q
      have n := next false
      rw [Bool.false_and] at n
      rw [q, Bool.false_and, Bool.and_false]
      exact n
  · show ¬ ¬ (a.length : Int) < (((FCs x.c).length : Nat) : Int)
    rw [z08]; omega
theorem z89 (c : Cd) (x : In1) (hB : x.c.length ≤ B) (hL : x.l.length ≤ B) (ih : ∀ d ∈ x.c, AC Tryz.prog 7 [aC d] [] (cb (vC d)) []) : ∀ (b a : List Tm) (ok : Bool), x.l = a ++ b → (∀ t ∈ b, t.bk ≤ B ∧ bd 2305843009213693952 t) →
  RPt Tryz.prog 20 0 (cb (ok && (b.all (plB c.sl) && vCs c.sl x.c))) [] 3 ⟨evFl ok 21 a.length, hpF c x, 2⟩
 | [], a, ok, hx, hb => by
  have n := z80 c x hB x.c [] ok rfl ih
  refine RPt.vc hP sh lv20 (Eq.mpr (v20_3a ..) ?_)
  refine ⟨rfl, z00 (fun h => absurd (of_decide_eq_true h) ?_) (fun _ => n)⟩
  show ¬ (a.length : Int) < (((FTs x.l).length : Nat) : Int)
  rw [z03, hx]; simp
 | t :: b, a, ok, hx, hb => by
  simp only [B] at hL
  have hla : a.length < x.l.length := by rw [hx]; simp
  have ht := hb t List.mem_cons_self
  have hc := zbl c.sl t ht.1 ht.2
  have em : rE (List.getD (FV.ses (.sl false 4 (FTs x.l))) (Int.toNat (a.length : Int)) []) = List.getD (FV.ses (.sl false 4 (FTs x.l))) (Int.toNat (a.length : Int)) [] := by rw [hx]; exact zbo a t b
  have ea : aE (List.getD (FV.ses (.sl false 4 (FTs x.l))) (Int.toNat (a.length : Int)) []) = aT t := by rw [hx]; exact zc5 a t b
  have next := fun ok' => z89 c x hB (by simp only [B]; omega) ih b (a ++ [t]) ok' (by rw [hx]; simp) (fun u hu => hb u (List.mem_cons_of_mem _ hu))
  rw [nx] at next
  refine RPt.vc hP sh lv20 (Eq.mpr (v20_3a ..) ?_)
  rw [ea, w64 (x := (a.length : Int) + 1) (by omega) (by omega), List.all_cons]
  refine ⟨rfl, z00 (fun _ => ⟨⟨rfl, by omega, by show (a.length : Int) < (((FTs x.l).length : Nat) : Int); rw [z03]; omega, em⟩, _, hc, z00 (fun h => ?_) (fun h => ?_)⟩) (fun h => absurd (of_decide_eq_false h) ?_)⟩
  · have n := next (plB c.sl t)
    rw [h, Bool.true_and, Bool.and_assoc]
    exact n
  · have n := next false
    rw [Bool.false_and] at n
    rw [h, Bool.false_and]
    exact n
  · show ¬ ¬ (a.length : Int) < (((FTs x.l).length : Nat) : Int)
    rw [z03]; omega
abbrev ev96 (uA uT uL uC ok : Bool) : Env := [(2, .c (.a (.ep 0 6 0 0))), (5, .c (.a (.ep 1 8 0 0))), (6, cb uA), (7, cb uT), (8, cb uL), (9, cb uC), (10, cb ok)]
def gF (c : Cd) (x : In1) (uA uT uL uC ok : Bool) : Bool := (uA || x.a == 0) && ((uC || x.c.isEmpty) && ((if uL = true then x.l.length == 2 else x.l.isEmpty) && (ok && ((if uT = true then plB c.sl x.t else z31 x.t) && (x.l.all (plB c.sl) && vCs c.sl x.c)))))
theorem zdg (c : Cd) (x : In1) (hB : x.c.length ≤ B) (hL : x.l.length ≤ B) (ht : x.t.bk ≤ B ∧ bd 2305843009213693952 x.t) (ih : ∀ d ∈ x.c, AC Tryz.prog 7 [aC d] [] (cb (vC d)) []) (hb : ∀ t ∈ x.l, t.bk ≤ B ∧ bd 2305843009213693952 t) (uA uT uL uC ok : Bool) :
  RPt Tryz.prog 20 0 (cb (gF c x uA uT uL uC ok)) [] 96 ⟨ev96 uA uT uL uC ok, hpF c x, 2⟩ := by
 have n := fun ok' => z89 c x hB hL ih x.l [] ok' rfl hb
 have c1 := zbl c.sl x.t ht.1 ht.2
 have c2 := zfg x.t
 have hce : decide (((x.c.length : Nat) : Int) > 0) = !x.c.isEmpty := by cases x.c <;> simp
 have hle : decide (((x.l.length : Nat) : Int) > 0) = !x.l.isEmpty := by cases x.l <;> simp
 have hl2 : (((x.l.length : Nat) : Int) != 2) = !(x.l.length == 2) := by rw [Bool.eq_iff_iff]; simp; omega
 refine RPt.vc hP sh lv20 (Eq.mpr (v20_96a ..) ?_)
 simp only [FV.ses, z08, z03]
 rw [hce, hle, hl2, show (x.a != 0) = !(x.a == 0) from rfl]
 unfold gF
 generalize (x.l.all (plB c.sl) && vCs c.sl x.c) = R at *
 generalize plB c.sl x.t = A at *
 generalize z31 x.t = E at *
 generalize x.c.isEmpty = ce at *
 generalize x.l.isEmpty = le at *
 generalize (x.l.length == 2) = l2 at *
 generalize (x.a == 0) = a0 at *
 clear hB hL ht ih hb hce hle hl2
 repeat' (first | refine z00 (fun _ => ?_) (fun _ => ?_) | refine ⟨_, c1, ?_⟩ | refine ⟨_, c2, ?_⟩ | refine And.intro (show FV.isSl 4 _ = true by rfl) ?_ | refine And.intro (show FV.isSl 6 _ = true by rfl) ?_ | fail)
 all_goals first
  | (refine ⟨z3o ?_, by trivial⟩; clear n c1 c2; simp_all; done)
  | (have e9 : ((uA || a0) && ((uC || ce) && ((if uL = true then l2 else le) && (ok && ((if uT = true then A else E) && R))))) = (A && R) := (by clear n c1 c2; simp_all); rw [e9]; exact n A)
  | (have e9 : ((uA || a0) && ((uC || ce) && ((if uL = true then l2 else le) && (ok && ((if uT = true then A else E) && R))))) = (E && R) := (by clear n c1 c2; simp_all); rw [e9]; exact n E)
  | (have e9 : ((uA || a0) && ((uC || ce) && ((if uL = true then l2 else le) && (ok && ((if uT = true then A else E) && R))))) = (false && R) := (by clear n c1 c2; simp_all); rw [e9]; exact n false)
  | (exfalso; clear n c1 c2; simp_all; done)
theorem zjl (t : Tm) (hv : t.k = 6 → z0b t = true) : AC Tryz.prog 52 [aT t] [] (aSp (z1a t)) [] := by
 by_cases h6 : t.k = 6
 · have hv := hv h6
   obtain ⟨k, str, n, l⟩ := t
   simp only [Tm.k] at h6
   subst h6
   obtain ⟨x, y, r, rfl, hx6, hl⟩ := okB6 (zav _ hv) rfl
   refine AC.vc hP sh lv52 (Nat.le_refl _) (by simp) (by simp) (Eq.mpr (v52 6 str n (FTs (x :: y :: r)) _ _) ?_)
   have e1 : List.drop 1 (List.take (Int.toNat (((FTs (x :: y :: r)).length : Nat) : Int)) (FTs (x :: y :: r))) = FTs (y :: r) := by rw [zf7]; rfl
   rw [e1, z1a, if_pos ⟨rfl, hv⟩]
   refine z00 (fun _ => ⟨el0 x (y :: r), rfl, ⟨by omega, by rw [z03]; simp only [List.length_cons]; omega, Int.le_refl _⟩, ?_, rfl⟩) (fun h => by cases h)
   rw [show cE (List.getD (FTs (x :: y :: r)) 0 []) = cT x from cE_FT x]
   exact .refl _
 · have e : z1a t = (t, []) := by rw [z1a, if_neg (fun h => h6 h.1)]
   rw [e]
   refine AC.vc hP sh lv52 (Nat.le_refl _) (by simp) (by simp) (Eq.mpr (v52 ..) ?_)
   refine z00 (fun h => absurd (by simpa using h) h6) (fun _ => ⟨le_tup ⟨lwR _, lw1 (.a _ _ (.fz _ _ leNil)), trivial⟩, rfl⟩)
set_option maxHeartbeats 2000000 in
theorem z6g (c : Cd) (a b : List In1) (x : In1) (hx : c.ins = a ++ x :: b) (hIB : c.ins.length ≤ B) (hf : 0 ≤ c.fr + c.vs ∧ c.fr + c.vs ≤ B) (hB : x.c.length ≤ B) (hL : x.l.length ≤ B) (ht : x.t.bk ≤ B ∧ bd 2305843009213693952 x.t) (hv : x.t.k = 6 → z0b x.t = true) (ih : ∀ d ∈ x.c, AC Tryz.prog 7 [aC d] [] (cb (vC d)) []) (hb : ∀ t ∈ x.l, t.bk ≤ B ∧ bd 2305843009213693952 t) :
  RPt Tryz.prog 20 0 (cb (gF c x (useA x.k) (useT x.k) (x.k == 5) (x.k == 14) (insB c.ar (c.fr + c.vs) c.sl c.ins.length a.length (z3n a) x.k x.a x.t))) [] 22 ⟨(1, ci a.length) :: ev96 false false false false true, hpF c x, 2⟩ := by
 simp only [B] at hIB hf
 have hla : a.length < c.ins.length := by rw [hx]; simp
 have n := zdg c x hB hL ht ih hb
 have nn : ∀ (I uA uT uL uC ok : Bool), useA x.k = uA → useT x.k = uT → (x.k == 5) = uL → (x.k == 14) = uC → I = ok → RPt Tryz.prog 20 0 (cb (gF c x (useA x.k) (useT x.k) (x.k == 5) (x.k == 14) I)) [] 96 ⟨ev96 uA uT uL uC ok, hpF c x, 2⟩ := fun I uA uT uL uC ok h1 h2 h3 h4 h5 => by rw [h1, h2, h3, h4, h5]; exact n uA uT uL uC ok
 have c1 := zjl x.t hv
 have c2 := zk8 (z1a x.t).1.s
 have hlen : (((FIs c.ins).length : Nat) : Int) = c.ins.length := by rw [z02]
 have e5 : ((((FTs (z1a x.t).2).length : Nat) : Int) == 2) = ((z1a x.t).2.length == 2) := by rw [z03, Bool.eq_iff_iff, beq_iff_eq, beq_iff_eq]; omega
 refine RPt.vc hP sh lv20 (Eq.mpr (v20_22a ..) ?_)
 rw [w64 (x := c.fr + c.vs) (by omega) (by omega)]
 simp only [FV.ses, hlen, e5]
 rcases List.eq_nil_or_concat a with ha | ⟨a', y, ha⟩
 · subst ha
   have h0 : (decide ((([] : List In1).length : Int) > 0)) = false := rfl
   rw [h0]
   simp only [insB, z3n, List.getLast?_nil, Option.map_none, zgk, zia, numB, nums]
   repeat' (first | refine z00 (fun _ => ?_) (fun _ => ?_) | refine ⟨_, c1, ?_⟩ | refine ⟨_, c2, ?_⟩ | refine And.intro (show FV.isSl 4 _ = true by rfl) ?_ | refine And.intro (show FV.isSl 6 _ = true by rfl) ?_ | refine And.intro (show FV.isSl 8 _ = true by rfl) ?_ | fail)
   all_goals first
    | contradiction
    | (refine And.intro (z3o ?_) True.intro; clear n nn c1 c2 hb ih hv ht; simp_all [useT, useA, gF] <;> omega)
    | (refine nn _ _ _ _ _ _ ?_ ?_ ?_ ?_ ?_ <;> clear n nn c1 c2 hb ih hv ht <;> simp_all [useT, useA] <;> first | omega | (intros; omega))
 · have ha : a = a' ++ [y] := by simpa using ha
   subst ha
   have h1 : (decide (((a' ++ [y]).length : Int) > 0)) = true := by simp
   have e2 : List.getD (FIs c.ins) (Int.toNat (IntKind.wrap .i64 (((a' ++ [y]).length : Int) - 1))) [] = FI y := by
    have q : IntKind.wrap .i64 (((a' ++ [y]).length : Int) - 1) = (a'.length : Int) := by
     simp only [List.length_append, List.length_singleton] at hla ⊢
     rw [w64 (by omega) (by omega)]; omega
    rw [q, hx, List.append_assoc]; exact z30 a' y (x :: b)
   have need2 := el8 c.ins (IntKind.wrap .i64 (((a' ++ [y]).length : Int) - 1)) (by
    simp only [List.length_append, List.length_singleton] at hla ⊢
    rw [w64 (by omega) (by omega)]; omega) (by
    simp only [List.length_append, List.length_singleton] at hla ⊢
    rw [w64 (by omega) (by omega)]; omega) y
   rw [h1, e2]
   simp only [FI0, FI1, FI2, FI3, FI4, FI5, FI6, FI7]
   rw [hlen] at need2
   simp only [insB, z4a, zgk, zia, numB, nums]
   repeat' (first | refine z00 (fun _ => ?_) (fun _ => ?_) | refine ⟨_, c1, ?_⟩ | refine ⟨_, c2, ?_⟩ | refine And.intro (show FV.isSl 4 _ = true by rfl) ?_ | refine And.intro need2 ?_ | refine And.intro (show FV.isSl 6 _ = true by rfl) ?_ | refine And.intro (show FV.isSl 8 _ = true by rfl) ?_ | fail)
   all_goals clear need2 e2 ha hx c1 c2 hb ih hv ht hlen h1 hla hIB hf hB hL
   all_goals first
    | contradiction
    | (refine And.intro (z3o ?_) True.intro; clear n nn; simp_all [useT, useA, gF] <;> omega)
    | (refine nn _ _ _ _ _ _ ?_ ?_ ?_ ?_ ?_ <;> clear n nn <;> simp_all [useT, useA] <;> first | omega | (intros; omega))
theorem zh7 (c : Cd) (a : List In1) (x : In1) : z1c c a x = ((z31 x.t || z0b x.t) && gF c x (useA x.k) (useT x.k) (x.k == 5) (x.k == 14) (insB c.ar (c.fr + c.vs) c.sl c.ins.length a.length (z3n a) x.k x.a x.t)) := by
 unfold z1c fldB gF
 generalize insB c.ar (c.fr + c.vs) c.sl c.ins.length a.length (z3n a) x.k x.a x.t = I
 have e : (if x.k = 5 then x.l.length == 2 else x.l.isEmpty) = (if (x.k == 5) = true then x.l.length == 2 else x.l.isEmpty) := by
  by_cases h : x.k = 5
  · rw [if_pos h, if_pos (by rw [h]; rfl)]
  · rw [if_neg h, if_neg (by simpa using h)]
 rw [e]
 generalize (if (x.k == 5) = true then x.l.length == 2 else x.l.isEmpty) = q5
 generalize (if useT x.k = true then plB c.sl x.t else z31 x.t) = qT
 generalize (z31 x.t || z0b x.t) = EV
 generalize vCs c.sl x.c = W
 generalize x.l.all (plB c.sl) = Ls
 generalize (useA x.k || x.a == 0) = u
 generalize (x.k == 14 || x.c.isEmpty) = ce
 cases EV <;> cases I <;> cases u <;> cases ce <;> cases q5 <;> cases qT <;> cases Ls <;> cases W <;> rfl
theorem zhh (c : Cd) (a b : List In1) (x : In1) (hx : c.ins = a ++ x :: b) (hIB : c.ins.length ≤ B) (hf : 0 ≤ c.fr + c.vs ∧ c.fr + c.vs ≤ B) (hB : x.c.length ≤ B) (hL : x.l.length ≤ B) (ht : x.t.bk ≤ B ∧ bd 2305843009213693952 x.t) (ih : ∀ d ∈ x.c, AC Tryz.prog 7 [aC d] [] (cb (vC d)) []) (hb : ∀ t ∈ x.l, t.bk ≤ B ∧ bd 2305843009213693952 t) :
  AC Tryz.prog 20 [aC c, ci a.length] [] (cb (z1c c a x)) [] := by
 have hla : a.length < c.ins.length := by rw [hx]; simp
 have e : List.getD (FIs c.ins) (Int.toNat (a.length : Int)) [] = FI x := by rw [hx]; exact z30 a x b
 have need := el8 c.ins a.length (by omega) (by omega) x
 have c1 := zfg x.t
 have c2 := zge x.t ht.1
 rw [zh7]
 refine AC.vc hP sh lv20 (Nat.le_refl _) (by simp) (by simp) (Eq.mpr (v20 ..) ?_)
 rw [e, FI0, FI1, FI2, FI3, FI4, FI5, FI6, FI7]
 refine ⟨need, _, c1, _, c2, z00 (fun h1 => z00 (fun h2 => z01 ?_) (fun h2 => ?_)) (fun h1 => ?_)⟩
 · rw [show z31 x.t = false by simpa using h1, show z0b x.t = false by simpa using h2]; rfl
 · have hv : z0b x.t = true := by simpa using h2
   rw [hv, Bool.or_true, Bool.true_and]
   exact z6g c a b x hx hIB hf hB hL ht (fun _ => hv) ih hb
 · have hn : z31 x.t = true := by simpa using h1
   rw [hn, Bool.true_or, Bool.true_and]
   refine z6g c a b x hx hIB hf hB hL ht (fun h6 => ?_) ih hb
   unfold z31 at hn
   rw [h6] at hn
   cases hn
theorem zbz (c : Cd) (hz : c.sz ≤ B) (hn : nbC c) (hf : 0 ≤ c.fr + c.vs ∧ c.fr + c.vs ≤ B) (ih : ∀ x ∈ c.ins, ∀ d ∈ x.c, AC Tryz.prog 7 [aC d] [] (cb (vC d)) []) (h0 : 0 < c.ins.length) : ∀ (b a : List In1), c.ins = a ++ b →
  (∀ x ∈ a, (x.k = 9 ∨ x.k = 10) → 0 ≤ x.a ∧ x.a ≤ B) →
  RPt Tryz.prog 7 0 (cb (vIs c.ar (c.fr + c.vs) c.sl c.ins.length a.length (z3n a) b && z8j c.ins)) [] 1 ⟨[(1, .c (.a (.ep 0 6 0 0))), (3, ci c.ins.length), (7, ci a.length)], [(0, obC c)], 1⟩
 | [], a, hx, ha => by
  have hl : c.ins.length ≤ B := by
   have := In1.szs_length c.ins
   cases c; simp only [Cd.sz, Cd.ins] at *; omega
  have h1 := c_rcways c hl h0 (fun x hm => ha x (by rw [hx] at hm; simpa using hm))
  refine RPt.vc hP sh lv7 (Eq.mpr (v7_1a ..) ?_)
  refine z00 (fun h => absurd (of_decide_eq_true h) ?_) (fun _ => ⟨_, h1, z01 (by rw [vIs]; rfl)⟩)
  rw [hx]; simp
 | x :: b, a, hx, ha => by
  have hxm : x ∈ c.ins := by rw [hx]; simp
  have z1 := In1.szs_mem hxm
  have z2 := In1.szs_length c.ins
  have z3 : In1.szs c.ins ≤ B := by cases c; simp only [Cd.sz, Cd.ins, B] at *; omega
  have z4 : x.t.bk ≤ B ∧ Tm.bks x.l ≤ B ∧ Cd.szs x.c ≤ B := by cases x; simp only [In1.sz1, In1.t, In1.l, In1.c, B] at *; omega
  have z6 := Tm.szs_bks x.l
  have z7 := Tm.szs_length x.l
  have z8 := Cd.szs_length x.c
  have n1 := z5e (zae hn) hxm
  have hl : c.ins.length ≤ B := by omega
  have hla : a.length < c.ins.length := by rw [hx]; simp
  have h1 := zhh c a b x hx hl hf (by omega) (by omega) ⟨z4.1, n1.1⟩ (ih x hxm) (fun t ht => ⟨by have := Tm.bks_mem ht; omega, n1.2.1 t ht⟩)
  have ev : vIs c.ar (c.fr + c.vs) c.sl c.ins.length a.length (z3n a) (x :: b) = (z1c c a x && vIs c.ar (c.fr + c.vs) c.sl c.ins.length ((a.length : Int) + 1) (some (x.k, x.a)) b) := by
   cases x
   rw [vIs, z1c, Bool.and_assoc]; rfl
  rw [ev]
  simp only [B] at hl
  refine RPt.vc hP sh lv7 (Eq.mpr (v7_1a ..) ?_)
  rw [w64 (x := (a.length : Int) + 1) (by omega) (by omega)]
  refine z00 (fun _ => ⟨_, h1, z00 (fun h => z01 ?_) (fun h => ?_)⟩) (fun h => absurd (of_decide_eq_false h) (by omega))
  · rw [show z1c c a x = false by simpa using h]; rfl
  · have hfb : z1c c a x = true := by simpa using h
    have := zbz c hz hn hf ih h0 b (a ++ [x]) (by rw [hx]; simp) (fun y hy hk => by
     rcases List.mem_append.1 hy with hy | hy
     · exact ha y hy hk
     · have hy : y = x := by simpa using hy
       subst hy
       have : insB c.ar (c.fr + c.vs) c.sl c.ins.length a.length (z3n a) y.k y.a y.t = true := by
        unfold z1c fldB at hfb
        simp only [Bool.and_eq_true] at hfb
        exact hfb.1.2.1
       unfold insB at this
       rw [if_neg (by omega), if_neg (by omega), if_neg (by omega), if_pos hk] at this
       have := of_decide_eq_true this
       simp only [B]
       omega)
    rw [nx, z4a] at this
    rw [hfb, Bool.true_and]
    exact this
theorem zkd : ∀ c : Cd, c.sz ≤ B → nbC c → AC Tryz.prog 7 [aC c] [] (cb (vC c)) [] := by
 refine Cd.ind fun c ih hz hn => ?_
 have z2 := In1.szs_length c.ins
 have z3 : In1.szs c.ins ≤ B ∧ c.nm.length ≤ B := by cases c; simp only [Cd.sz, Cd.ins, Cd.nm, B] at *; omega
 have hl : c.ins.length ≤ B := by omega
 simp only [B] at hl
 have ih' : ∀ x ∈ c.ins, ∀ d ∈ x.c, AC Tryz.prog 7 [aC d] [] (cb (vC d)) [] := fun x hx d hd => ih x hx d hd (by
  have a1 := In1.szs_mem hx
  have a2 := Cd.szs_mem hd
  cases x
  simp only [In1.sz1, In1.c] at *
  omega) (zb3 (z5e (zae hn) hx).2.2 hd)
 have c1 := zkn c.nm z3.2
 have c2 := c_rcnums c
 have eV : vC c = (nmB c.nm && (cntB c.ar c.fr c.vs c.sl && (zcp c.ins && (vIs c.ar (c.fr + c.vs) c.sl c.ins.length 0 none c.ins && z8j c.ins)))) := by cases c; rw [vC]; rfl
 have hlen : (((FIs c.ins).length : Nat) : Int) = c.ins.length := by rw [z02]
 rw [eV]
 refine AC.vc hP sh lv7 (Nat.le_refl _) (by simp) (by simp) (Eq.mpr (v7 ..) ?_)
 rw [hlen]
 refine ⟨rfl, _, c1, _, c2, z00 (fun h => z01 (by rw [show nmB c.nm = false by simpa using h]; rfl)) (fun h1 => z00 (fun h => z01 (by rw [show cntB c.ar c.fr c.vs c.sl = false by simpa using h, Bool.false_and, Bool.and_false])) (fun h2 => z00 (fun h => z01 ?_) (fun h => ?_)))⟩
 · have : c.ins.length = 0 := by have : (c.ins.length : Int) = 0 := by simpa using h
                                 omega
   rw [zg8 this, Bool.false_and, Bool.and_false, Bool.and_false]
 have h0 : 0 < c.ins.length := by have : ¬ (c.ins.length : Int) = 0 := by simpa using h
                                  omega
 have hcnt : cntB c.ar c.fr c.vs c.sl = true := by simpa using h2
 have hf := of_decide_eq_true hcnt
 have hgo := zbz c hz hn (by simp only [B]; omega) ih' h0 c.ins [] rfl (fun x hx => by cases hx)
 obtain ⟨y, a', hy1, hy2, hy3, hy4, hy5⟩ : ∃ y a', c.ins = a' ++ [y] ∧ zcp c.ins = (y.k == 3 || y.k == 4 || y.k == 8) ∧ List.getD (FIs c.ins) (Int.toNat (IntKind.wrap .i64 ((c.ins.length : Int) - 1))) [] = FI y ∧ 0 ≤ IntKind.wrap .i64 ((c.ins.length : Int) - 1) ∧ IntKind.wrap .i64 ((c.ins.length : Int) - 1) < c.ins.length := by
  rcases List.eq_nil_or_concat c.ins with h | ⟨a', y, h⟩
  · rw [h] at h0; cases h0
  · have h : c.ins = a' ++ [y] := by simpa using h
    rw [w64 (by omega) (by omega)]
    refine ⟨y, a', h, by rw [h]; simp [zcp], ?_, by omega, by omega⟩
    rw [show (c.ins.length : Int) - 1 = a'.length by rw [h]; simp, h]; exact z30 a' y []
 have need := el8 c.ins _ hy4 hy5 y
 rw [hlen] at need
 rw [hy3, FI0, FI1, FI2, FI3, FI4, FI5, FI6, FI7, show nmB c.nm = true by simpa using h1, hcnt, hy2, Bool.true_and, Bool.true_and]
 have go : (y.k == 3 || y.k == 4 || y.k == 8) = true → RPt Tryz.prog 7 0 (cb ((y.k == 3 || y.k == 4 || y.k == 8) && (vIs c.ar (c.fr + c.vs) c.sl c.ins.length 0 none c.ins && z8j c.ins))) [] 1 ⟨[(1, .c (.a (.ep 0 6 0 0))), (3, ci c.ins.length), (7, ci 0)], [(0, obC c)], 1⟩ := fun q => by
  rw [q, Bool.true_and]; exact hgo
 refine ⟨need, z00 (fun q4 => z00 (fun q3 => z00 (fun q8 => z01 ?_) (fun q8 => go ?_)) (fun q3 => go ?_)) (fun q4 => go ?_)⟩
 · rw [show (y.k == 3) = false by simpa using q3, show (y.k == 4) = false by simpa using q4, show (y.k == 8) = false by simpa using q8]; rfl
 · rw [show (y.k == 8) = true by simpa using q8]; simp
 · rw [show (y.k == 3) = true by simpa using q3]; simp
 · rw [show (y.k == 4) = true by simpa using q4]; simp
theorem zek (c : Cd) (hz : c.sz ≤ 137438953472) : AC Tryz.prog 3 [aC c] [] (cb true) [] := by
 have h1 := c_cover c (by simp only [B]; omega)
 refine AC.vc hP sh lv3 (Nat.le_refl _) (by simp) (by simp) (Eq.mpr (v3 ..) ?_)
 refine ⟨_, c_cworks, z00 (fun h => by cases h) (fun _ => ⟨_, h1, z00 (fun _ => z01 rfl) (fun o1 => z00 (fun _ => ?_) (fun h => by cases h))⟩)⟩
 have hn := (over_nb o1).1
 exact ⟨_, zau c (by simp only [B]; omega) hn, _, zkd c (by simp only [B]; omega) hn, z01 (by simp)⟩
end Go.AM

namespace Go.AM
open Go.ChangeShapes Go.WideShapes Go.ChangeAt Go.RowKit
end Go.AM

set_option maxRecDepth 100000
open Go Go.Proofs
namespace Go.Proofs.YtmeolnpbbhinjaaGreatDoor.base
open Go.ChangeShapes Go.WideShapes Go.ChangeAt Go.RowKit Go.AM
theorem one_le {H : Type} (d : DataW H) : 1 ≤ Rows.uptoBulk d := by
 cases d with
 | lit l => cases l <;> simp [Rows.uptoBulk]
 | _ => simp [Rows.uptoBulk]
theorem bulk {H : Type} : Bulk (H := H) Rows.uptoBulk Rows.uptoBulkAll :=
 ⟨rfl, fun _ _ => rfl, one_le, fun es sp => by simp only [Rows.uptoBulk]; omega, fun l => by simp [Rows.uptoBulk], fun l => by simp [Rows.uptoBulk]⟩
theorem own : ownKnob Tryz.prog.godebug = none := by kernel_rfl
theorem laidOut : laidOutB Tryz.prog = true := by kernel_rfl
theorem tmTy : ∃ f0 f1 f2 f3 : Field, TmTy Tryz.prog 31 f0 f1 f2 f3 :=
 ⟨_, _, _, _, Tryz.underlying31, Tryz.underlying28, Tryz.underlying9, Tryz.underlying3, Tryz.underlying29, rfl, rfl, rfl, rfl, by kernel_rfl, by kernel_rfl, by kernel_rfl, by kernel_rfl, by kernel_rfl⟩
theorem rec24 : Tryz.prog.readableRec 24 = true := by kernel_rfl
theorem lt24 : 24 < Tryz.prog.types.size := of_decide_eq_true (by kernel_rfl)
theorem want24 : Tryz.prog.wantsStandIn 24 = false := by kernel_rfl
theorem upto {H : Type} {l : List (DataW H)} (hk : Rows.uptoSmall H l = true) : Rows.uptoBulkAll l ≤ 1048576 := of_decide_eq_true hk
abbrev zk0 : List (String × DataW Unit) := [("math/bits.deBruijn32tab", Rows.laid_math_bits_deBruijn32tab), ("math/bits.deBruijn64tab", Rows.laid_math_bits_deBruijn64tab), ("internal/strconv.uint64pow10", Rows.laid_internal_strconv_uint64pow10)]
theorem gTab : Tryz.prog.globalNamed "internal/strconv.uint64pow10" = some 1 := by kernel_rfl
theorem gTabType : (Tryz.prog.globals[1]?).map (·.type) = some 115 := by kernel_rfl
theorem powTab : (Rows.laid_internal_strconv_uint64pow10 : DataW Unit) = Lib.tabData .u64 Lib.pow10Tab := by kernel_rfl
theorem tabHas {W : World} (h : laidMetH Tryz.prog zk0 W) : Lib.TabIs Tryz.prog W "internal/strconv.uint64pow10" .u64 Lib.pow10Tab := by
 have h : laidMet Tryz.prog zk0 W := h
 obtain ⟨ps, ⟨_, _, _, _, _, q1, _, _, _, _, ⟨_, _, _, _, _, q2, _, _, _, _, ⟨g', t', cs, fuel, p, q, hg', ht', hvar, hd, _, _⟩, _⟩, _⟩, _⟩ := h
 obtain rfl := Option.some.inj (gTab.symm.trans hg')
 obtain rfl := Option.some.inj (gTabType.symm.trans ht')
 unfold Lib.TabIs
 rw [powTab] at hd
 rw [hvar, ← Lib.cells_of_tab Tryz.underlying115 (by first | exact Tryz.underlying106) (by kernel_rfl) (by kernel_rfl) hd]
theorem glHas {W : World} (h : laidMetH Tryz.prog zk0 W) : Gl Tryz.prog W z4f := fun g hg => by
 obtain rfl := Option.some.inj (gTab.symm.trans hg)
 have ht := tabHas h
 refine ⟨ht, fun h => h, ?_⟩
 unfold Lib.TabIs World.var? at ht
 rw [gTab] at ht
 simp only [Option.bind_some] at ht
 split at ht
 · rename_i hh; exact (Array.getElem?_eq_some_iff.1 hh).1
 · cases ht
noncomputable def z7z (os : Os) : World :=
 { World.holding Tryz.prog os ⟨#[], #[], []⟩ with heap := ((((World.holding Tryz.prog os ⟨#[], #[], []⟩).heap.modify 2 fun | .cells _ t frozen => .cells #[.int .u8 0, .int .u8 1, .int .u8 28, .int .u8 2, .int .u8 29, .int .u8 14, .int .u8 24, .int .u8 3, .int .u8 30, .int .u8 22, .int .u8 20, .int .u8 15, .int .u8 25, .int .u8 17, .int .u8 4, .int .u8 8, .int .u8 31, .int .u8 27, .int .u8 13, .int .u8 23, .int .u8 21, .int .u8 19, .int .u8 16, .int .u8 7, .int .u8 26, .int .u8 12, .int .u8 18, .int .u8 6, .int .u8 11, .int .u8 5, .int .u8 10, .int .u8 9] t frozen | o => o).modify 3 fun | .cells _ t frozen => .cells #[.int .u8 0, .int .u8 1, .int .u8 56, .int .u8 2, .int .u8 57, .int .u8 49, .int .u8 28, .int .u8 3, .int .u8 61, .int .u8 58, .int .u8 42, .int .u8 50, .int .u8 38, .int .u8 29, .int .u8 17, .int .u8 4, .int .u8 62, .int .u8 47, .int .u8 59, .int .u8 36, .int .u8 45, .int .u8 43, .int .u8 51, .int .u8 22, .int .u8 53, .int .u8 39, .int .u8 33, .int .u8 30, .int .u8 24, .int .u8 18, .int .u8 12, .int .u8 5, .int .u8 63, .int .u8 55, .int .u8 48, .int .u8 27, .int .u8 60, .int .u8 41, .int .u8 37, .int .u8 16, .int .u8 46, .int .u8 35, .int .u8 44, .int .u8 21, .int .u8 52, .int .u8 32, .int .u8 23, .int .u8 11, .int .u8 54, .int .u8 26, .int .u8 40, .int .u8 15, .int .u8 34, .int .u8 20, .int .u8 31, .int .u8 10, .int .u8 25, .int .u8 14, .int .u8 19, .int .u8 9, .int .u8 13, .int .u8 8, .int .u8 7, .int .u8 6] t frozen | o => o).modify 1 fun | .cells _ t frozen => .cells #[.int .u64 1, .int .u64 10, .int .u64 100, .int .u64 1000, .int .u64 10000, .int .u64 100000, .int .u64 1000000, .int .u64 10000000, .int .u64 100000000, .int .u64 1000000000, .int .u64 10000000000, .int .u64 100000000000, .int .u64 1000000000000, .int .u64 10000000000000, .int .u64 100000000000000, .int .u64 1000000000000000, .int .u64 10000000000000000, .int .u64 100000000000000000, .int .u64 1000000000000000000, .int .u64 10000000000000000000] t frozen | o => o) }
end Go.Proofs.YtmeolnpbbhinjaaGreatDoor.base
