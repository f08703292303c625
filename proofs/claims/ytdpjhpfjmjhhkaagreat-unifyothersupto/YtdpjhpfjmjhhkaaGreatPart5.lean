/- A calculus of plain values for the model's code, what the code of each function asks (computed by the kernel), contracts of the functions, and plain laws (part 5). No conditions. -/
import Derived.Test.YtdpjhpfjmjhhkaaGreatPart4
import Derived.Test.YtdpjhpfjmjhhkaaGreatPart3
import Derived.ProofKit
import Derived.OpenShut
import Derived.JoinedCond
import Derived.WalkKit
import Derived.Test.YtdpjhpfjmjhhkaaGreatRows
set_option maxRecDepth 100000
open Go Go.Proofs
namespace Go.AM
theorem c_grow (n : Int) (h0 : 0 ≤ n) (h1 : n ≤ 2199023255552) : (n = 0 → AC Tryz.prog 103 [.c (.a (.fz .nils)), ci n] [] (.c (.a (.fz .nils))) []) ∧
  (n ≠ 0 → AC Tryz.prog 103 [.c (.a (.fz .nils)), ci n] [] (.c (.a (.osl 0 4 0 0))) [.arz 4 []]) := by
 constructor
 · intro hn
   refine AC.vc hP sh lv103 (Nat.le_refl _) (by simp) (by simp) (Eq.mpr (v103 ..) ?_)
   refine z01 (fun h => absurd (of_decide_eq_true h) (by omega)) (fun _ => ⟨rfl, z01 (fun h => ?_) (fun _ => zi9 (.refl _))⟩)
   rw [w64 (by omega) (by omega)] at h
   exact absurd (of_decide_eq_true h) (by omega)
 · intro hn
   refine AC.vc hP sh lv103 (by simp) (by simp) (by simp [isLive]) (Eq.mpr (v103 ..) ?_)
   rw [w64 (by omega) (by omega)]
   refine z01 (fun h => absurd (of_decide_eq_true h) (by omega)) (fun _ => ⟨rfl, z01 (fun h => ⟨rfl, ⟨by omega, by omega, by omega⟩, ⟨by omega, by unfold z0b; omega⟩, rfl, ⟨by omega, by omega, by omega⟩, .refl _, rfl⟩) (fun h => absurd (of_decide_eq_false h) (by omega))⟩)
def FLs (ls : List (List Tm)) : List (List FV) := ls.map fun l => [.sl false 4 (FTs l)]
def z4a (ls : List (List Tm)) : Nat := (ls.map List.length).foldr (· + ·) 0
theorem z9e (ls : List (List Tm)) : (FLs ls).length = ls.length := by simp [FLs]
theorem midL (a : List (List Tm)) (l : List Tm) (b : List (List Tm)) : List.getD (FLs (a ++ l :: b)) (Int.toNat (a.length : Int)) [] = [.sl false 4 (FTs l)] := by
 rw [show Int.toNat (a.length : Int) = a.length by omega]
 simp [List.getD, FLs]
theorem ltL (a : List (List Tm)) (t : List Tm) (b : List (List Tm)) : (a.length : Int) < (((FLs (a ++ t :: b)).length : Nat) : Int) := by rw [z9e]; exact ltI a t b
theorem zgv (a : List (List Tm)) (l : List Tm) (b : List (List Tm)) : z4a (a ++ l :: b) = z4a a + l.length + z4a b := by
 induction a with
 | nil => simp [z4a]
 | cons x a ih => simp only [z4a, List.cons_append, List.map_cons, List.foldr_cons] at ih ⊢; omega
theorem zn1 (a : List (List Tm)) (l : List Tm) : z4a (a ++ [l]) = z4a a + l.length := by rw [zgv]; simp [z4a]
abbrev aLs (ls : List (List Tm)) : TV := .c (.a (.fz (.sl false 1 (FLs ls))))
theorem z5d {n : Nat} (h : n ≤ 2199023255552) : z0b n 56 := by unfold z0b; omega
theorem zqw : ∀ (b a : List (List Tm)) (acc : List Tm), acc.length + z4a b ≤ 2199023255552 → (a ++ b).length ≤ B →
  RPt Tryz.prog 70 0 (aL (acc ++ b.flatten)) [] 5 ⟨[(6, (.c (.a (.osl 0 4 0 acc.length)))), (25, aLs (a ++ b)), (26, ci (a ++ b).length), (27, ci a.length)], [(0, (.arz 4 (FTs acc)))], 1⟩
 | [], a, acc, ht, hl => by
  refine RPt.vc hP sh lv70 (Eq.mpr (v70_5b ..) ?_)
  refine z01 (fun h => absurd (of_decide_eq_true h) (by simp)) (fun _ => ⟨⟨rfl, by rw [z00]; omega⟩, zi9 ?_⟩)
  rw [List.drop_zero, List.take_of_length_le (by rw [z00]; omega), List.flatten_nil, List.append_nil]
  exact le_c leSl
 | l :: b, a, acc, ht, hl => by
  refine RPt.vc hP sh lv70 (Eq.mpr (v70_5b ..) ?_)
  have hl' := hl
  have h3 := ltL a l b
  simp only [List.length_append, List.length_cons, B] at hl'
  have ht' : acc.length + (l.length + z4a b) ≤ 2199023255552 := by simpa [z4a] using ht
  have h2 := zqw b (a ++ [l]) (acc ++ l) (by rw [List.length_append]; omega) (by rw [ap]; exact hl)
  rw [ap, nx] at h2
  rw [midL, w64 (by omega) (by omega)]
  refine z01 (fun _ => ⟨⟨rfl, by omega, h3, rfl⟩, rfl, ⟨by rw [z00]; omega, ?_⟩, ?_⟩) (fun h => absurd (ltI a l b) (of_decide_eq_false h))
  · show z0b (acc.length + (FTs l).length) 56
    rw [z00]; exact z5d (by omega)
  · show RPt _ _ _ _ _ _ ⟨[(6, (.c (.a (.osl 0 4 0 (acc.length + (FTs l).length))))), _, _, _], [(0, .arz 4 (List.take acc.length (FTs acc) ++ FTs l))], 1⟩
    rw [List.take_of_length_le (by rw [z00]; omega), ← z1u, z00, ← List.length_append]
    rw [show acc ++ (l :: b).flatten = acc ++ l ++ b.flatten by simp]
    exact h2
theorem l_cat2 : ∀ (b a : List (List Tm)), z4a b ≤ 2199023255552 → (a ++ b).length ≤ B →
  RPt Tryz.prog 70 0 (aL b.flatten) [] 5 ⟨[(6, (.c (.a (.fz .nils)))), (25, aLs (a ++ b)), (26, ci (a ++ b).length), (27, ci a.length)], [], 0⟩
 | [], a, ht, hl => by
  refine RPt.vc hP sh lv70 (Eq.mpr (v70_5a ..) ?_)
  refine z01 (fun h => absurd (of_decide_eq_true h) (by simp)) (fun _ => zi9 (le_c z0d))
 | l :: b, a, ht, hl => by
  refine RPt.vc hP sh lv70 (Eq.mpr (v70_5a ..) ?_)
  have hl' := hl
  have h3 := ltL a l b
  simp only [List.length_append, List.length_cons, B] at hl'
  have ht' : l.length + z4a b ≤ 2199023255552 := by simpa [z4a] using ht
  rw [midL, w64 (by omega) (by omega)]
  refine z01 (fun _ => ⟨⟨rfl, by omega, h3, rfl⟩, rfl, ?_⟩) (fun h => absurd (ltI a l b) (of_decide_eq_false h))
  show br (List.isEmpty (FTs l)) _ _
  refine z01 (fun he => ?_) (fun he => ⟨?_, ?_⟩)
  · have h2 := l_cat2 b (a ++ [l]) (by omega) (by rw [ap]; exact hl)
    rw [ap, nx] at h2
    have hnil : l = [] := by cases l with
     | nil => rfl
     | cons x l => simp [FTs] at he
    rw [show (l :: b).flatten = b.flatten by rw [hnil]; simp]
    exact h2
  · show z0b (FTs l).length 56
    rw [z00]; exact z5d (by omega)
  · have h2 := zqw b (a ++ [l]) l (by omega) (by rw [ap]; exact hl)
    rw [ap, nx] at h2
    show RPt _ _ _ _ _ _ ⟨[(6, (.c (.a (.osl 0 4 0 (FTs l).length)))), _, _, _], [(0, .arz 4 (FTs l))], 1⟩
    rw [z00, List.flatten_cons]
    exact h2
theorem l_cat1 : ∀ (b a : List (List Tm)), z4a (a ++ b) ≤ 2199023255552 → (a ++ b).length ≤ B →
  RPt Tryz.prog 70 0 (aL (a ++ b).flatten) [] 1 ⟨[(0, aLs (a ++ b)), (3, ci (z4a a)), (9, aLs (a ++ b)), (10, ci (a ++ b).length), (11, ci a.length)], [], 0⟩
 | [], a, ht, hl => by
  refine RPt.vc hP sh lv70 (Eq.mpr (v70_1a ..) ?_)
  have hg := c_grow (z4a a : Int) (by omega) (by simp only [List.append_nil] at ht; omega)
  refine z01 (fun h => absurd (of_decide_eq_true h) (by simp)) (fun _ => ?_)
  have e : (((FLs (a ++ [])).length : Nat) : Int) = (((a ++ []).length : Nat) : Int) := by rw [z9e]
  rw [e]
  by_cases hz : z4a a = 0
  · have h2 := l_cat2 (a ++ []) [] (by simpa using ht) (by simpa using hl)
    exact .inl ⟨(), hg.1 (by omega), rfl, by simpa using h2⟩
  · have h2 := zqw (a ++ []) [] [] (by simpa using ht) (by simpa using hl)
    exact .inr ⟨(), hg.2 (by omega), rfl, by simpa [FTs] using h2⟩
 | l :: b, a, ht, hl => by
  refine RPt.vc hP sh lv70 (Eq.mpr (v70_1a ..) ?_)
  have hl' := hl
  have ht' := ht
  have h3 := ltL a l b
  rw [zgv] at ht'
  simp only [List.length_append, List.length_cons, B] at hl'
  have h2 := l_cat1 b (a ++ [l]) (by rw [ap]; exact ht) (by rw [ap]; exact hl)
  rw [ap, nx, zn1] at h2
  rw [midL, w64 (x := (a.length : Int) + 1) (by omega) (by omega)]
  refine z01 (fun _ => ⟨⟨rfl, by omega, h3, rfl⟩, rfl, ?_⟩) (fun h => absurd (ltI a l b) (of_decide_eq_false h))
  show br (decide (IntKind.wrap .i64 ((z4a a : Int) + (((FTs l).length : Nat) : Int)) < 0)) _ (RPt _ _ _ _ _ _ ⟨[_, (3, ci (IntKind.wrap .i64 ((z4a a : Int) + (((FTs l).length : Nat) : Int)))), _, _, _], _, _⟩)
  rw [z00, w64 (by omega) (by omega)]
  refine z01 (fun h => absurd (of_decide_eq_true h) (by omega)) (fun _ => ?_)
  simpa using h2
theorem c_concat (ls : List (List Tm)) (ht : z4a ls ≤ 2199023255552) (hl : ls.length ≤ B) : AC Tryz.prog 70 [aLs ls] [] (aL ls.flatten) [] := by
 refine AC.vc hP sh lv70 (Nat.le_refl _) (by simp) (by simp) (Eq.mpr (v70 ..) ?_)
 have := l_cat1 ls [] (by simpa using ht) (by simpa using hl)
 have e : (((FLs ls).length : Nat) : Int) = ((ls.length : Nat) : Int) := by rw [z9e]
 rw [e]
 exact ⟨rfl, by simpa [z4a] using this⟩
theorem zc7 {x y : FV} {l m : List Tm} (hx : FV.Le x (.sl false 4 (FTs l))) (hy : FV.Le y (.sl false 4 (FTs m))) (ht : l.length + m.length ≤ 2199023255552) : AC Tryz.prog 70 [.c (.a (.fz (.sl false 1 [[x], [y]])))] [] (aL (l ++ m)) [] := by
 have h := c_concat [l, m] (by simpa [z4a] using ht) (by simp [B])
 rw [show [l, m].flatten = l ++ m by simp] at h
 refine h.args ⟨le_c (.trans _ _ _ (.rows false 1 _ (FLs [l, m]) rfl (fun i e e' he he' => ?_) (fun i j e e' f f' he he' hf hf' => ?_)) (.nn _ _ _)), trivial⟩
 · match i, he, he' with
   | 0, he, he' => simp [FLs] at he he'; subst he; subst he'; rfl
   | 1, he, he' => simp [FLs] at he he'; subst he; subst he'; rfl
   | i + 2, he, he' => simp at he
 · match i, he, he' with
   | 0, he, he' =>
    simp [FLs] at he he'; subst he; subst he'
    match j, hf, hf' with
    | 0, hf, hf' => simp at hf hf'; subst hf; subst hf'; exact hx
    | j + 1, hf, hf' => simp at hf
   | 1, he, he' =>
    simp [FLs] at he he'; subst he; subst he'
    match j, hf, hf' with
    | 0, hf, hf' => simp at hf hf'; subst hf; subst hf'; exact hy
    | j + 1, hf, hf' => simp at hf
   | i + 2, he, he' => simp at he
def z07 (f : Tm) (args : List Tm) : Tm :=
 match args with
 | [] => f
 | _ => if (f.k == 6) = true ∧ f.l ≠ [] then .mk 6 [] 0 (f.l ++ args) else .mk 6 [] 0 (f :: args)
theorem z3c (f : Tm) (args : List Tm) (h : f.l.length + args.length < 2199023255552) : AC Tryz.prog 24 [aT f, aL args] [] (aT (z07 f args)) [] := by
 obtain ⟨k, s, n, l⟩ := f
 simp only [Tm.l] at h
 refine AC.vc hP sh lv24 (Nat.le_refl _) (by simp) (by simp) (Eq.mpr (v24 k s n (FTs l) (FTs args) _ _) ?_)
 refine ⟨rfl, z01 (fun h1 => ?_) (fun h1 => ?_)⟩
 · have : args = [] := by cases args with
    | nil => rfl
    | cons x l => simp [FTs] at h1; omega
   subst this
   exact zi9 (.refl _)
 · match args, h1, h with
   | [], h1, _ => simp [FTs] at h1
   | a :: r, h1, h =>
    have one : FV.Le (.sl false 4 [[.int .i64 k, .str s, .int .i64 n, .sl false 4 (FTs l)]]) (.sl false 4 (FTs [.mk k s n l])) := .nn _ _ _
    have same : ∀ l : List Tm, FV.Le (.sl false 4 (FTs l)) (.sl false 4 (FTs l)) := fun _ => .refl _
    refine z01 (fun h2 => ⟨rfl, z01 (fun h3 => ⟨⟨rfl, by omega⟩, _, zc7 (same l) (same (a :: r)) (by omega), zi9 ?_⟩) (fun h3 => ⟨⟨rfl, by omega⟩, ⟨rfl, by omega⟩, _, zc7 one (same (a :: r)) (by simp only [List.length_cons, List.length_nil] at h ⊢; omega), zi9 ?_⟩)⟩)
     (fun h2 => ⟨⟨rfl, by omega⟩, ⟨rfl, by omega⟩, _, zc7 one (same (a :: r)) (by simp only [List.length_cons, List.length_nil] at h ⊢; omega), zi9 ?_⟩)
    · have hl : l ≠ [] := by intro e; subst e; simp [FTs] at h3
      rw [show z07 (.mk k s n l) (a :: r) = .mk 6 [] 0 (l ++ a :: r) from if_pos ⟨h2, hl⟩]
      exact .refl _
    · have hl : l = [] := by cases l with
       | nil => rfl
       | cons x l => simp [FTs] at h3
      rw [show z07 (.mk k s n l) (a :: r) = .mk 6 [] 0 (.mk k s n l :: a :: r) from if_neg (fun e => e.2 hl)]
      exact .refl _
    · rw [show z07 (.mk k s n l) (a :: r) = .mk 6 [] 0 (.mk k s n l :: a :: r) from if_neg (fun e => by have := e.1; simp only [Tm.k, h2] at this; cases this)]
      exact .refl _
end Go.AM

set_option maxRecDepth 100000
open Go Go.Proofs
namespace Go.AM
def z2w (t : Tm) (out : List Tm) : Tm :=
 if (t.k == 6) = true ∧ 1 < out.length ∧ ((out.headD default).k == 6) = true ∧ ((t.l.headD default).k != 6) = true then z07 (out.headD default) out.tail else .mk t.k t.s t.n out
mutual
def z0k (lf : Tm → Int → Tm) : Tm → Int → Tm
 | .mk k s n l, d => if (k == 5 || k == 6) = true then z2w (.mk k s n l) (z0f lf l (d + if (k == 5) = true then 1 else 0)) else lf (.mk k s n l) d
def z0f (lf : Tm → Int → Tm) : List Tm → Int → List Tm
 | [], _ => []
 | t :: l, d => z0k lf t d :: z0f lf l d
end
abbrev cloSh : TV := .agg [.fn (.func 149) [] [(false, [.ep 0 1 0 0]), (false, [.ep 1 1 0 0])]]
abbrev stSh (fr by1 : Int) (k by_ : Int) (kd : Int) (s : List UInt8) (n : Int) (l : List Tm) (w : AV) (i : Nat) (h : AHeap) (nx : Nat) : St :=
 ⟨[(2, ci k), (3, .c (.a (.ep 2 1 0 0))), (4, .c (.a (.ep 3 4 0 0))), (6, .c (.a (.ep 4 4 0 0))), (7, aL l), (8, ci by_), (9, .c (.a w)), (30, aL l), (31, ci l.length), (32, ci i)],
  [(0, (obj1 fr)), (1, (obj1 by1)), (2, .arr 1 [[.fn (.func 149) [] [(false, [.ep 0 1 0 0]), (false, [.ep 1 1 0 0])]]]), (3, .arr 4 [fzs (FT (.mk kd s n l))]), (4, .arr 4 [[.a (.fz (.int .i64 0)), .a (.fz (.str [])), .a (.fz (.int .i64 0)), .a (.fz .nils)]])] ++ h, nx⟩
theorem l_w2Sh (fr by1 : Int) (lf : Tm → Int → Tm) (k by_ : Int) (h0 : 0 ≤ k) (hk : k ≤ 2305843009213693952) (hb0 : 0 ≤ by_) (hb1 : by_ ≤ 1) (kd : Int) (s : List UInt8) (n : Int) (hin : (kd == 5 || kd == 6) = true) :
  ∀ (b a acc : List Tm), acc ≠ [] → acc.length = a.length → (a ++ b).length ≤ B → (∀ u ∈ acc ++ z0f lf b (k + by_), u.l.length ≤ 2 * B) →
  (∀ u ∈ b, AC Tryz.prog 151 [cloSh, aT u, ci (k + by_)] [(obj1 fr), (obj1 by1)] (aT (z0k lf u (k + by_))) [(obj1 fr), (obj1 by1)]) →
  RPt Tryz.prog 151 2 (aT (z2w (.mk kd s n (a ++ b)) (acc ++ z0f lf b (k + by_)))) [(obj1 fr), (obj1 by1)] 1 (stSh fr by1 k by_ kd s n (a ++ b) (.osl 5 4 0 acc.length) a.length [(5, .arz 4 (FTs acc))] 6)
 | [], a, acc, hne, hlen, hl, hw, _ => by
  refine RPt.vc hP sh z6v (Eq.mpr (z9v ..) ?_)
  match acc, a, hne, hlen with
  | o :: r, u :: a', _, hlen =>
  have e1 : List.take (o :: r).length (List.drop 0 (FTs (o :: r))) = FTs (o :: r) := by rw [List.drop_zero, List.take_of_length_le (by rw [z00]; omega)]
  have e2 : (0 : Nat) + (o :: r).length ≤ (FTs (o :: r)).length := by rw [z00]; omega
  have hrest : ∀ (k' : Int) (s' : List UInt8) (n' : Int), TV.Le (.agg [.a (.fz (.int .i64 k')), .a (.fz (.str s')), .a (.fz (.int .i64 n')), .a (.fz (.sl false 4 (List.take (o :: r).length (List.drop 0 (FTs (o :: r))))))]) (aT (.mk k' s' n' (o :: r))) := fun k' s' n' => by rw [e1]; exact leT leSl
  refine z01 (fun h => absurd (of_decide_eq_true h) (by simp)) (fun _ => z01 (fun h6 => z01 (fun h1 => ⟨⟨by omega, by simp⟩, ⟨by rw [z00]; simp, by cases o; rfl, rfl⟩, z01 (fun ho => ⟨⟨rfl, by omega, by rw [List.append_nil]; show (0 : Int) < (((FTs (u :: a')).length : Nat) : Int); rw [z00]; simp, by cases u; rfl⟩, z01 (fun hu => ?_) (fun hu => ⟨⟨rfl, e2⟩, ?_, rfl⟩)⟩) (fun ho => ⟨⟨rfl, e2⟩, ?_, rfl⟩)⟩) (fun h1 => ⟨⟨rfl, e2⟩, ?_, rfl⟩)) (fun h6 => ⟨⟨rfl, e2⟩, ?_, rfl⟩))
  ·
   have hap := z3c o r (by
    have := hw o (by simp)
    simp only [List.length_cons, List.length_append, List.length_nil, B] at hl hlen this ⊢; omega)
   have e3 : z2w (.mk kd s n (u :: a' ++ [])) (o :: r ++ z0f lf [] (k + by_)) = z07 o r := by
    have c1 : 1 < (o :: r ++ z0f lf [] (k + by_)).length := by have := of_decide_eq_true h1; simp only [z0f, List.append_nil]; omega
    have c2 : (o.k == 6) = true := by cases o; exact ho
    have c3 : (u.k != 6) = true := by cases u; exact hu
    unfold z2w
    rw [if_pos ⟨h6, c1, c2, c3⟩]
    simp [z0f]
   have e4 : List.take (Int.toNat ((o :: r).length : Int) - 1) (List.drop 1 (FTs (o :: r))) = FTs r := by
    rw [show Int.toNat ((o :: r).length : Int) - 1 = r.length by simp only [List.length_cons]; omega]
    show List.take r.length (FTs r) = FTs r
    rw [List.take_of_length_le (by rw [z00]; omega)]
   have e5 : (1 : Nat) + (Int.toNat ((o :: r).length : Int) - 1) ≤ (FTs (o :: r)).length := by rw [z00]; simp only [List.length_cons]; omega
   rw [e3]
   refine ⟨⟨by omega, by simp⟩, ⟨by rw [z00]; simp, by cases o; rfl, rfl⟩, ⟨by omega, by simp; omega, by omega⟩, ⟨rfl, e5⟩, ?_⟩
   rw [e4]
   obtain ⟨k1, s1, n1, l1⟩ := o
   exact ⟨_, hap.args ⟨.refl _, le_c leSl, trivial⟩, .refl _, rfl⟩
  · have e3 : z2w (.mk kd s n (u :: a' ++ [])) (o :: r ++ z0f lf [] (k + by_)) = .mk kd s n (o :: r) := by
     simp only [z0f, List.append_nil]
     exact if_neg fun e => by
      have hu' : (u.k != 6) = false := by cases u; exact hu
      have : (u.k != 6) = true := e.2.2.2
      rw [hu'] at this; cases this
    rw [e3]; exact hrest _ _ _
  · have e3 : z2w (.mk kd s n (u :: a' ++ [])) (o :: r ++ z0f lf [] (k + by_)) = .mk kd s n (o :: r) := by
     simp only [z0f, List.append_nil]
     exact if_neg fun e => by
      have ho' : (o.k == 6) = false := by cases o; exact ho
      have : (o.k == 6) = true := e.2.2.1
      rw [ho'] at this; cases this
    rw [e3]; exact hrest _ _ _
  · have e3 : z2w (.mk kd s n (u :: a' ++ [])) (o :: r ++ z0f lf [] (k + by_)) = .mk kd s n (o :: r) := by
     simp only [z0f, List.append_nil]
     exact if_neg fun e => by have := e.2.1; have := of_decide_eq_false h1; omega
    rw [e3]; exact hrest _ _ _
  · have e3 : z2w (.mk kd s n (u :: a' ++ [])) (o :: r ++ z0f lf [] (k + by_)) = .mk kd s n (o :: r) := by
     simp only [z0f, List.append_nil]
     exact if_neg fun e => by
      have h6' : (kd == 6) = false := h6
      have : (kd == 6) = true := e.1
      rw [h6'] at this; cases this
    rw [e3]; exact hrest _ _ _
 | t :: b, a, acc, hne, hlen, hl, hw, ih => by
  refine RPt.vc hP sh z6v (Eq.mpr (z9v ..) ?_)
  have hl' := hl
  simp only [List.length_append, List.length_cons, B] at hl'
  have h1 := ih t List.mem_cons_self
  have h2 := l_w2Sh fr by1 lf k by_ h0 hk hb0 hb1 kd s n hin b (a ++ [t]) (acc ++ [z0k lf t (k + by_)]) (by simp) (by simp [hlen]) (by rw [ap]; exact hl)
   (by rw [List.append_assoc]; simpa [z0f] using hw) (fun u hu => ih u (List.mem_cons_of_mem _ hu))
  have h3 := ltI' a t b
  unfold stSh at h2
  rw [ap, show (((a ++ [t]).length : Nat) : Int) = (a.length : Int) + 1 from nx a t] at h2
  show br (decide ((a.length : Int) < (((a ++ t :: b).length : Nat) : Int))) ((FV.isSl 4 (.sl false 4 (FTs (a ++ t :: b))) = true ∧ _ ∧ _ ∧ _) ∧ _) _
  refine z01 (fun _ => ?_) (fun h => absurd (ltI a t b) (of_decide_eq_false h))
  have hm := midI a t b
  rw [show FV.ses (.sl false 4 (FTs (a ++ t :: b))) = FTs (a ++ t :: b) from rfl, hm, w64 (x := (a.length : Int) + 1) (by omega) (by omega), w64 (x := k + by_) (by omega) (by omega)]
  obtain ⟨k', s', n', l'⟩ := t
  refine ⟨⟨rfl, by omega, h3, rfl⟩, _, h1, Nat.le_refl _, ⟨by rw [z00]; omega, z5d (by omega)⟩, ?_⟩
  have e5 : List.take acc.length (FTs acc) ++ FTs [z0k lf (.mk k' s' n' l') (k + by_)] = FTs (acc ++ [z0k lf (.mk k' s' n' l') (k + by_)]) := by rw [List.take_of_length_le (by rw [z00]; omega), ← z1u]
  have e6 : FTs [z0k lf (.mk k' s' n' l') (k + by_)] = [[.int .i64 (z0k lf (.mk k' s' n' l') (k + by_)).k, .str (z0k lf (.mk k' s' n' l') (k + by_)).s, .int .i64 (z0k lf (.mk k' s' n' l') (k + by_)).n, .sl false 4 (FTs (z0k lf (.mk k' s' n' l') (k + by_)).l)]] := by
   rw [FTs, FTs, zbm]
  rw [e6] at e5
  rw [e5]
  rw [show acc ++ z0f lf (.mk k' s' n' l' :: b) (k + by_) = acc ++ z0k lf (.mk k' s' n' l') (k + by_) :: z0f lf b (k + by_) by simp [z0f]]
  rw [show (acc ++ [z0k lf (.mk k' s' n' l') (k + by_)]).length = acc.length + 1 by simp, List.append_assoc] at h2
  exact h2
theorem l_w1Sh (fr by1 : Int) (lf : Tm → Int → Tm) (k by_ : Int) (h0 : 0 ≤ k) (hk : k ≤ 2305843009213693952) (hb0 : 0 ≤ by_) (hb1 : by_ ≤ 1) (kd : Int) (s : List UInt8) (n : Int) (hin : (kd == 5 || kd == 6) = true) :
  ∀ (b : List Tm), b.length ≤ B → (∀ u ∈ z0f lf b (k + by_), u.l.length ≤ 2 * B) →
  (∀ u ∈ b, AC Tryz.prog 151 [cloSh, aT u, ci (k + by_)] [(obj1 fr), (obj1 by1)] (aT (z0k lf u (k + by_))) [(obj1 fr), (obj1 by1)]) →
  RPt Tryz.prog 151 2 (aT (z2w (.mk kd s n b) (z0f lf b (k + by_)))) [(obj1 fr), (obj1 by1)] 1 (stSh fr by1 k by_ kd s n b (.fz .nils) 0 [] 5)
 | [], hl, hw, _ => by
  refine RPt.vc hP sh z6v (Eq.mpr (za2 ..) ?_)
  have e : z2w (.mk kd s n []) (z0f lf [] (k + by_)) = .mk kd s n [] := if_neg fun e => by have := e.2.1; simp [z0f] at this
  rw [e]
  exact z01 (fun h => absurd (of_decide_eq_true h) (by simp)) (fun _ => z01 (fun _ => ⟨rfl, leT z0d, rfl⟩) (fun _ => ⟨leT z0d, rfl⟩))
 | t :: b, hl, hw, ih => by
  refine RPt.vc hP sh z6v (Eq.mpr (za2 ..) ?_)
  have hl' := hl
  simp only [List.length_cons, B] at hl'
  have h1 := ih t List.mem_cons_self
  have h2 := l_w2Sh fr by1 lf k by_ h0 hk hb0 hb1 kd s n hin b [t] [z0k lf t (k + by_)] (by simp) rfl (by simpa using hl) (by simpa [z0f] using hw) (fun u hu => ih u (List.mem_cons_of_mem _ hu))
  show br (decide ((0 : Int) < (((t :: b).length : Nat) : Int))) ((FV.isSl 4 (.sl false 4 (FTs (t :: b))) = true ∧ _ ∧ _ ∧ _) ∧ _) _
  refine z01 (fun _ => ?_) (fun h => absurd (of_decide_eq_false h) (by simp))
  rw [show FV.ses (.sl false 4 (FTs (t :: b))) = FTs (t :: b) from rfl, show List.getD (FTs (t :: b)) (Int.toNat ((0 : Nat) : Int)) [] = FT t from rfl, w64 (x := k + by_) (by omega) (by omega), w64 (x := ((0 : Nat) : Int) + 1) (by omega) (by omega)]
  obtain ⟨k', s', n', l'⟩ := t
  have h3 : (0 : Int) < (((FTs (.mk k' s' n' l' :: b)).length : Nat) : Int) := by rw [z00]; simp
  refine ⟨⟨rfl, by omega, h3, rfl⟩, _, h1, Nat.le_refl _, z5d (by omega), ?_⟩
  have e6 : FTs [z0k lf (.mk k' s' n' l') (k + by_)] = [[.int .i64 (z0k lf (.mk k' s' n' l') (k + by_)).k, .str (z0k lf (.mk k' s' n' l') (k + by_)).s, .int .i64 (z0k lf (.mk k' s' n' l') (k + by_)).n, .sl false 4 (FTs (z0k lf (.mk k' s' n' l') (k + by_)).l)]] := by
   rw [FTs, FTs, zbm]
  unfold stSh at h2
  rw [e6] at h2
  exact h2
theorem c_wSh (fr by1 : Int) (lf : Tm → Int → Tm) (Q : Tm → Int → Prop)
  (hq : ∀ (kd : Int) (s : List UInt8) (n : Int) (l : List Tm) (d : Int), Q (.mk kd s n l) d → (kd == 5 || kd == 6) = true → ∀ u ∈ l, Q u (d + if (kd == 5) = true then 1 else 0))
  (hleaf : ∀ (u : Tm) (d : Int), (u.k == 5 || u.k == 6) = false → Q u d → 0 ≤ d → d ≤ 2305843009213693952 → AC Tryz.prog 149 [aT u, ci d, .c (.a (.ep 0 1 0 0)), .c (.a (.ep 1 1 0 0))] [(obj1 fr), (obj1 by1)] (aT (lf u d)) [(obj1 fr), (obj1 by1)])
  (hwid : ∀ (u : Tm) (d : Int), Q u d → (z0k lf u d).l.length ≤ 2 * B) :
  ∀ t : Tm, t.sz ≤ B → ∀ k : Int, Q t k → 0 ≤ k → k + t.sz ≤ 2305843009213693952 → AC Tryz.prog 151 [cloSh, aT t, ci k] [(obj1 fr), (obj1 by1)] (aT (z0k lf t k)) [(obj1 fr), (obj1 by1)] := by
 refine Tm.ind fun t ih hs k hQ h0 h1 => ?_
 have hlen := Tm.szs_length t.l
 obtain ⟨kd, s, n, l⟩ := t
 simp only [Tm.sz, B, Tm.l] at hs hlen
 simp only [Tm.sz] at h1
 have key : ∀ by_ : Int, 0 ≤ by_ → by_ ≤ 1 → (by_ = if (kd == 5) = true then 1 else 0) → (hin : (kd == 5 || kd == 6) = true) → RPt Tryz.prog 151 2 (aT (z0k lf (.mk kd s n l) k)) [(obj1 fr), (obj1 by1)] 1 (stSh fr by1 k by_ kd s n l (.fz .nils) 0 [] 5) := by
  intro by_ hb0 hb1 hby hin
  have hQ' := hq kd s n l k hQ hin
  rw [← hby] at hQ'
  have := l_w1Sh fr by1 lf k by_ h0 (by omega) hb0 hb1 kd s n hin l (by simp only [B]; omega) (fun u hu => by
   have : ∀ {m : List Tm}, (∀ v ∈ m, Q v (k + by_)) → ∀ u ∈ z0f lf m (k + by_), u.l.length ≤ 2 * B := by
    intro m
    induction m with
    | nil => intro _ u hu; simp [z0f] at hu
    | cons v m ihm =>
     intro hm u hu
     simp only [z0f, List.mem_cons] at hu
     rcases hu with rfl | hu
     · exact hwid v _ (hm v List.mem_cons_self)
     · exact ihm (fun x hx => hm x (List.mem_cons_of_mem _ hx)) u hu
   exact this hQ' u hu) (fun u hu => ih u hu (by have := Tm.szs_mem hu; simp only [B]; omega) (k + by_) (hQ' u hu) (by omega) (by have := Tm.szs_mem hu; omega))
  rw [z0k, if_pos hin, ← hby]
  exact this
 refine AC.vc hP sh z6v (Nat.le_refl _) (by simp [isLive]) (by simp) (Eq.mpr (zrl kd s n (FTs l) k fr by1 _ _) ?_)
 have wi : (kd == 5 || kd == 6) = true → AC Tryz.prog 88 [aT (.mk kd s n l)] [] (.tup [(false, [.a (.fz (.sl false 4 (FTs l)))]), (false, [.a (.fz (.int .i64 (if (kd == 5) = true then 1 else 0)))])]) [] := fun hin => by
  have hw := z8n (.mk kd s n l)
  rw [show z5h (.mk kd s n l) = .sl false 4 (FTs l) from if_pos hin] at hw
  exact hw
 refine z01 (fun h => z01 (fun h2 => ?_) (fun h2 => ?_)) (fun h => ?_)
 · have e1 : (kd == 5) = false := by simpa using h
   have e2 : (kd == 6) = false := by simpa using h2
   have e : (kd == 5 || kd == 6) = false := by rw [e1, e2]; rfl
   have hl := hleaf (.mk kd s n l) k e hQ h0 (by omega)
   rw [show z0k lf (.mk kd s n l) k = lf (.mk kd s n l) k by rw [z0k, if_neg (by rw [e]; simp)]]
   exact ⟨_, hl, .refl _, rfl⟩
 · have e1 : (kd == 5) = false := by simpa using h
   have e2 : (kd == 6) = true := by simpa using h2
   have hin : (kd == 5 || kd == 6) = true := by rw [e1, e2]; rfl
   have hk := key 0 (by omega) (by omega) (by rw [e1]; rfl) hin
   have hw := wi hin
   rw [e1] at hw
   refine ⟨_, _, hw, rfl, ?_⟩
   show RPt _ _ _ _ _ _ ⟨[_, _, _, _, _, _, _, _, (31, ci (((FTs l).length : Nat) : Int)), _], _, _⟩
   rw [z00]
   exact hk
 · have e1 : (kd == 5) = true := by simpa using h
   have hin : (kd == 5 || kd == 6) = true := by rw [e1]; rfl
   have hk := key 1 (by omega) (by omega) (by rw [e1]; rfl) hin
   have hw := wi hin
   rw [e1] at hw
   refine ⟨_, _, hw, rfl, ?_⟩
   show RPt _ _ _ _ _ _ ⟨[_, _, _, _, _, _, _, _, (31, ci (((FTs l).length : Nat) : Int)), _], _, _⟩
   rw [z00]
   exact hk
abbrev cloSu : TV := .agg [.fn (.func 176) [] [(false, [.ep 0 1 0 0]), (false, [.ep 1 4 0 0])]]
abbrev stSu (ix : Int) (sk : Int) (ss : List UInt8) (sn : Int) (sl : List Tm) (k by_ : Int) (kd : Int) (s : List UInt8) (n : Int) (l : List Tm) (w : AV) (i : Nat) (h : AHeap) (nx : Nat) : St :=
 ⟨[(2, ci k), (3, .c (.a (.ep 2 1 0 0))), (4, .c (.a (.ep 3 4 0 0))), (6, .c (.a (.ep 4 4 0 0))), (7, aL l), (8, ci by_), (9, .c (.a w)), (30, aL l), (31, ci l.length), (32, ci i)],
  [(0, (obj1 ix)), (1, (.arr 4 [fzs (FT (.mk sk ss sn sl))])), (2, .arr 1 [[.fn (.func 176) [] [(false, [.ep 0 1 0 0]), (false, [.ep 1 4 0 0])]]]), (3, .arr 4 [fzs (FT (.mk kd s n l))]), (4, .arr 4 [[.a (.fz (.int .i64 0)), .a (.fz (.str [])), .a (.fz (.int .i64 0)), .a (.fz .nils)]])] ++ h, nx⟩
theorem l_w2Su (ix : Int) (sk : Int) (ss : List UInt8) (sn : Int) (sl : List Tm) (lf : Tm → Int → Tm) (k by_ : Int) (h0 : 0 ≤ k) (hk : k ≤ 2305843009213693952) (hb0 : 0 ≤ by_) (hb1 : by_ ≤ 1) (kd : Int) (s : List UInt8) (n : Int) (hin : (kd == 5 || kd == 6) = true) :
  ∀ (b a acc : List Tm), acc ≠ [] → acc.length = a.length → (a ++ b).length ≤ B → (∀ u ∈ acc ++ z0f lf b (k + by_), u.l.length ≤ 2 * B) →
  (∀ u ∈ b, AC Tryz.prog 151 [cloSu, aT u, ci (k + by_)] [(obj1 ix), (.arr 4 [fzs (FT (.mk sk ss sn sl))])] (aT (z0k lf u (k + by_))) [(obj1 ix), (.arr 4 [fzs (FT (.mk sk ss sn sl))])]) →
  RPt Tryz.prog 151 2 (aT (z2w (.mk kd s n (a ++ b)) (acc ++ z0f lf b (k + by_)))) [(obj1 ix), (.arr 4 [fzs (FT (.mk sk ss sn sl))])] 1 (stSu ix sk ss sn sl k by_ kd s n (a ++ b) (.osl 5 4 0 acc.length) a.length [(5, .arz 4 (FTs acc))] 6)
 | [], a, acc, hne, hlen, hl, hw, _ => by
  refine RPt.vc hP sh z6v (Eq.mpr (z9x ..) ?_)
  match acc, a, hne, hlen with
  | o :: r, u :: a', _, hlen =>
  have e1 : List.take (o :: r).length (List.drop 0 (FTs (o :: r))) = FTs (o :: r) := by rw [List.drop_zero, List.take_of_length_le (by rw [z00]; omega)]
  have e2 : (0 : Nat) + (o :: r).length ≤ (FTs (o :: r)).length := by rw [z00]; omega
  have hrest : ∀ (k' : Int) (s' : List UInt8) (n' : Int), TV.Le (.agg [.a (.fz (.int .i64 k')), .a (.fz (.str s')), .a (.fz (.int .i64 n')), .a (.fz (.sl false 4 (List.take (o :: r).length (List.drop 0 (FTs (o :: r))))))]) (aT (.mk k' s' n' (o :: r))) := fun k' s' n' => by rw [e1]; exact leT leSl
  refine z01 (fun h => absurd (of_decide_eq_true h) (by simp)) (fun _ => z01 (fun h6 => z01 (fun h1 => ⟨⟨by omega, by simp⟩, ⟨by rw [z00]; simp, by cases o; rfl, rfl⟩, z01 (fun ho => ⟨⟨rfl, by omega, by rw [List.append_nil]; show (0 : Int) < (((FTs (u :: a')).length : Nat) : Int); rw [z00]; simp, by cases u; rfl⟩, z01 (fun hu => ?_) (fun hu => ⟨⟨rfl, e2⟩, ?_, rfl⟩)⟩) (fun ho => ⟨⟨rfl, e2⟩, ?_, rfl⟩)⟩) (fun h1 => ⟨⟨rfl, e2⟩, ?_, rfl⟩)) (fun h6 => ⟨⟨rfl, e2⟩, ?_, rfl⟩))
  ·
   have hap := z3c o r (by
    have := hw o (by simp)
    simp only [List.length_cons, List.length_append, List.length_nil, B] at hl hlen this ⊢; omega)
   have e3 : z2w (.mk kd s n (u :: a' ++ [])) (o :: r ++ z0f lf [] (k + by_)) = z07 o r := by
    have c1 : 1 < (o :: r ++ z0f lf [] (k + by_)).length := by have := of_decide_eq_true h1; simp only [z0f, List.append_nil]; omega
    have c2 : (o.k == 6) = true := by cases o; exact ho
    have c3 : (u.k != 6) = true := by cases u; exact hu
    unfold z2w
    rw [if_pos ⟨h6, c1, c2, c3⟩]
    simp [z0f]
   have e4 : List.take (Int.toNat ((o :: r).length : Int) - 1) (List.drop 1 (FTs (o :: r))) = FTs r := by
    rw [show Int.toNat ((o :: r).length : Int) - 1 = r.length by simp only [List.length_cons]; omega]
    show List.take r.length (FTs r) = FTs r
    rw [List.take_of_length_le (by rw [z00]; omega)]
   have e5 : (1 : Nat) + (Int.toNat ((o :: r).length : Int) - 1) ≤ (FTs (o :: r)).length := by rw [z00]; simp only [List.length_cons]; omega
   rw [e3]
   refine ⟨⟨by omega, by simp⟩, ⟨by rw [z00]; simp, by cases o; rfl, rfl⟩, ⟨by omega, by simp; omega, by omega⟩, ⟨rfl, e5⟩, ?_⟩
   rw [e4]
   obtain ⟨k1, s1, n1, l1⟩ := o
   exact ⟨_, hap.args ⟨.refl _, le_c leSl, trivial⟩, .refl _, rfl⟩
  · have e3 : z2w (.mk kd s n (u :: a' ++ [])) (o :: r ++ z0f lf [] (k + by_)) = .mk kd s n (o :: r) := by
     simp only [z0f, List.append_nil]
     exact if_neg fun e => by
      have hu' : (u.k != 6) = false := by cases u; exact hu
      have : (u.k != 6) = true := e.2.2.2
      rw [hu'] at this; cases this
    rw [e3]; exact hrest _ _ _
  · have e3 : z2w (.mk kd s n (u :: a' ++ [])) (o :: r ++ z0f lf [] (k + by_)) = .mk kd s n (o :: r) := by
     simp only [z0f, List.append_nil]
     exact if_neg fun e => by
      have ho' : (o.k == 6) = false := by cases o; exact ho
      have : (o.k == 6) = true := e.2.2.1
      rw [ho'] at this; cases this
    rw [e3]; exact hrest _ _ _
  · have e3 : z2w (.mk kd s n (u :: a' ++ [])) (o :: r ++ z0f lf [] (k + by_)) = .mk kd s n (o :: r) := by
     simp only [z0f, List.append_nil]
     exact if_neg fun e => by have := e.2.1; have := of_decide_eq_false h1; omega
    rw [e3]; exact hrest _ _ _
  · have e3 : z2w (.mk kd s n (u :: a' ++ [])) (o :: r ++ z0f lf [] (k + by_)) = .mk kd s n (o :: r) := by
     simp only [z0f, List.append_nil]
     exact if_neg fun e => by
      have h6' : (kd == 6) = false := h6
      have : (kd == 6) = true := e.1
      rw [h6'] at this; cases this
    rw [e3]; exact hrest _ _ _
 | t :: b, a, acc, hne, hlen, hl, hw, ih => by
  refine RPt.vc hP sh z6v (Eq.mpr (z9x ..) ?_)
  have hl' := hl
  simp only [List.length_append, List.length_cons, B] at hl'
  have h1 := ih t List.mem_cons_self
  have h2 := l_w2Su ix sk ss sn sl lf k by_ h0 hk hb0 hb1 kd s n hin b (a ++ [t]) (acc ++ [z0k lf t (k + by_)]) (by simp) (by simp [hlen]) (by rw [ap]; exact hl)
   (by rw [List.append_assoc]; simpa [z0f] using hw) (fun u hu => ih u (List.mem_cons_of_mem _ hu))
  have h3 := ltI' a t b
  unfold stSu at h2
  rw [ap, show (((a ++ [t]).length : Nat) : Int) = (a.length : Int) + 1 from nx a t] at h2
  show br (decide ((a.length : Int) < (((a ++ t :: b).length : Nat) : Int))) ((FV.isSl 4 (.sl false 4 (FTs (a ++ t :: b))) = true ∧ _ ∧ _ ∧ _) ∧ _) _
  refine z01 (fun _ => ?_) (fun h => absurd (ltI a t b) (of_decide_eq_false h))
  have hm := midI a t b
  rw [show FV.ses (.sl false 4 (FTs (a ++ t :: b))) = FTs (a ++ t :: b) from rfl, hm, w64 (x := (a.length : Int) + 1) (by omega) (by omega), w64 (x := k + by_) (by omega) (by omega)]
  obtain ⟨k', s', n', l'⟩ := t
  refine ⟨⟨rfl, by omega, h3, rfl⟩, _, h1, Nat.le_refl _, ⟨by rw [z00]; omega, z5d (by omega)⟩, ?_⟩
  have e5 : List.take acc.length (FTs acc) ++ FTs [z0k lf (.mk k' s' n' l') (k + by_)] = FTs (acc ++ [z0k lf (.mk k' s' n' l') (k + by_)]) := by rw [List.take_of_length_le (by rw [z00]; omega), ← z1u]
  have e6 : FTs [z0k lf (.mk k' s' n' l') (k + by_)] = [[.int .i64 (z0k lf (.mk k' s' n' l') (k + by_)).k, .str (z0k lf (.mk k' s' n' l') (k + by_)).s, .int .i64 (z0k lf (.mk k' s' n' l') (k + by_)).n, .sl false 4 (FTs (z0k lf (.mk k' s' n' l') (k + by_)).l)]] := by
   rw [FTs, FTs, zbm]
  rw [e6] at e5
  rw [e5]
  rw [show acc ++ z0f lf (.mk k' s' n' l' :: b) (k + by_) = acc ++ z0k lf (.mk k' s' n' l') (k + by_) :: z0f lf b (k + by_) by simp [z0f]]
  rw [show (acc ++ [z0k lf (.mk k' s' n' l') (k + by_)]).length = acc.length + 1 by simp, List.append_assoc] at h2
  exact h2
theorem l_w1Su (ix : Int) (sk : Int) (ss : List UInt8) (sn : Int) (sl : List Tm) (lf : Tm → Int → Tm) (k by_ : Int) (h0 : 0 ≤ k) (hk : k ≤ 2305843009213693952) (hb0 : 0 ≤ by_) (hb1 : by_ ≤ 1) (kd : Int) (s : List UInt8) (n : Int) (hin : (kd == 5 || kd == 6) = true) :
  ∀ (b : List Tm), b.length ≤ B → (∀ u ∈ z0f lf b (k + by_), u.l.length ≤ 2 * B) →
  (∀ u ∈ b, AC Tryz.prog 151 [cloSu, aT u, ci (k + by_)] [(obj1 ix), (.arr 4 [fzs (FT (.mk sk ss sn sl))])] (aT (z0k lf u (k + by_))) [(obj1 ix), (.arr 4 [fzs (FT (.mk sk ss sn sl))])]) →
  RPt Tryz.prog 151 2 (aT (z2w (.mk kd s n b) (z0f lf b (k + by_)))) [(obj1 ix), (.arr 4 [fzs (FT (.mk sk ss sn sl))])] 1 (stSu ix sk ss sn sl k by_ kd s n b (.fz .nils) 0 [] 5)
 | [], hl, hw, _ => by
  refine RPt.vc hP sh z6v (Eq.mpr (za6 ..) ?_)
  have e : z2w (.mk kd s n []) (z0f lf [] (k + by_)) = .mk kd s n [] := if_neg fun e => by have := e.2.1; simp [z0f] at this
  rw [e]
  exact z01 (fun h => absurd (of_decide_eq_true h) (by simp)) (fun _ => z01 (fun _ => ⟨rfl, leT z0d, rfl⟩) (fun _ => ⟨leT z0d, rfl⟩))
 | t :: b, hl, hw, ih => by
  refine RPt.vc hP sh z6v (Eq.mpr (za6 ..) ?_)
  have hl' := hl
  simp only [List.length_cons, B] at hl'
  have h1 := ih t List.mem_cons_self
  have h2 := l_w2Su ix sk ss sn sl lf k by_ h0 hk hb0 hb1 kd s n hin b [t] [z0k lf t (k + by_)] (by simp) rfl (by simpa using hl) (by simpa [z0f] using hw) (fun u hu => ih u (List.mem_cons_of_mem _ hu))
  show br (decide ((0 : Int) < (((t :: b).length : Nat) : Int))) ((FV.isSl 4 (.sl false 4 (FTs (t :: b))) = true ∧ _ ∧ _ ∧ _) ∧ _) _
  refine z01 (fun _ => ?_) (fun h => absurd (of_decide_eq_false h) (by simp))
  rw [show FV.ses (.sl false 4 (FTs (t :: b))) = FTs (t :: b) from rfl, show List.getD (FTs (t :: b)) (Int.toNat ((0 : Nat) : Int)) [] = FT t from rfl, w64 (x := k + by_) (by omega) (by omega), w64 (x := ((0 : Nat) : Int) + 1) (by omega) (by omega)]
  obtain ⟨k', s', n', l'⟩ := t
  have h3 : (0 : Int) < (((FTs (.mk k' s' n' l' :: b)).length : Nat) : Int) := by rw [z00]; simp
  refine ⟨⟨rfl, by omega, h3, rfl⟩, _, h1, Nat.le_refl _, z5d (by omega), ?_⟩
  have e6 : FTs [z0k lf (.mk k' s' n' l') (k + by_)] = [[.int .i64 (z0k lf (.mk k' s' n' l') (k + by_)).k, .str (z0k lf (.mk k' s' n' l') (k + by_)).s, .int .i64 (z0k lf (.mk k' s' n' l') (k + by_)).n, .sl false 4 (FTs (z0k lf (.mk k' s' n' l') (k + by_)).l)]] := by
   rw [FTs, FTs, zbm]
  unfold stSu at h2
  rw [e6] at h2
  exact h2
theorem c_wSu (ix : Int) (sk : Int) (ss : List UInt8) (sn : Int) (sl : List Tm) (lf : Tm → Int → Tm) (Q : Tm → Int → Prop)
  (hq : ∀ (kd : Int) (s : List UInt8) (n : Int) (l : List Tm) (d : Int), Q (.mk kd s n l) d → (kd == 5 || kd == 6) = true → ∀ u ∈ l, Q u (d + if (kd == 5) = true then 1 else 0))
  (hleaf : ∀ (u : Tm) (d : Int), (u.k == 5 || u.k == 6) = false → Q u d → 0 ≤ d → d ≤ 2305843009213693952 → AC Tryz.prog 176 [aT u, ci d, .c (.a (.ep 0 1 0 0)), .c (.a (.ep 1 4 0 0))] [(obj1 ix), (.arr 4 [fzs (FT (.mk sk ss sn sl))])] (aT (lf u d)) [(obj1 ix), (.arr 4 [fzs (FT (.mk sk ss sn sl))])])
  (hwid : ∀ (u : Tm) (d : Int), Q u d → (z0k lf u d).l.length ≤ 2 * B) :
  ∀ t : Tm, t.sz ≤ B → ∀ k : Int, Q t k → 0 ≤ k → k + t.sz ≤ 2305843009213693952 → AC Tryz.prog 151 [cloSu, aT t, ci k] [(obj1 ix), (.arr 4 [fzs (FT (.mk sk ss sn sl))])] (aT (z0k lf t k)) [(obj1 ix), (.arr 4 [fzs (FT (.mk sk ss sn sl))])] := by
 refine Tm.ind fun t ih hs k hQ h0 h1 => ?_
 have hlen := Tm.szs_length t.l
 obtain ⟨kd, s, n, l⟩ := t
 simp only [Tm.sz, B, Tm.l] at hs hlen
 simp only [Tm.sz] at h1
 have key : ∀ by_ : Int, 0 ≤ by_ → by_ ≤ 1 → (by_ = if (kd == 5) = true then 1 else 0) → (hin : (kd == 5 || kd == 6) = true) → RPt Tryz.prog 151 2 (aT (z0k lf (.mk kd s n l) k)) [(obj1 ix), (.arr 4 [fzs (FT (.mk sk ss sn sl))])] 1 (stSu ix sk ss sn sl k by_ kd s n l (.fz .nils) 0 [] 5) := by
  intro by_ hb0 hb1 hby hin
  have hQ' := hq kd s n l k hQ hin
  rw [← hby] at hQ'
  have := l_w1Su ix sk ss sn sl lf k by_ h0 (by omega) hb0 hb1 kd s n hin l (by simp only [B]; omega) (fun u hu => by
   have : ∀ {m : List Tm}, (∀ v ∈ m, Q v (k + by_)) → ∀ u ∈ z0f lf m (k + by_), u.l.length ≤ 2 * B := by
    intro m
    induction m with
    | nil => intro _ u hu; simp [z0f] at hu
    | cons v m ihm =>
     intro hm u hu
     simp only [z0f, List.mem_cons] at hu
     rcases hu with rfl | hu
     · exact hwid v _ (hm v List.mem_cons_self)
     · exact ihm (fun x hx => hm x (List.mem_cons_of_mem _ hx)) u hu
   exact this hQ' u hu) (fun u hu => ih u hu (by have := Tm.szs_mem hu; simp only [B]; omega) (k + by_) (hQ' u hu) (by omega) (by have := Tm.szs_mem hu; omega))
  rw [z0k, if_pos hin, ← hby]
  exact this
 refine AC.vc hP sh z6v (Nat.le_refl _) (by simp [isLive]) (by simp) (Eq.mpr (zpa kd s n (FTs l) k ix sk ss sn (FTs sl) _ _) ?_)
 have wi : (kd == 5 || kd == 6) = true → AC Tryz.prog 88 [aT (.mk kd s n l)] [] (.tup [(false, [.a (.fz (.sl false 4 (FTs l)))]), (false, [.a (.fz (.int .i64 (if (kd == 5) = true then 1 else 0)))])]) [] := fun hin => by
  have hw := z8n (.mk kd s n l)
  rw [show z5h (.mk kd s n l) = .sl false 4 (FTs l) from if_pos hin] at hw
  exact hw
 refine z01 (fun h => z01 (fun h2 => ?_) (fun h2 => ?_)) (fun h => ?_)
 · have e1 : (kd == 5) = false := by simpa using h
   have e2 : (kd == 6) = false := by simpa using h2
   have e : (kd == 5 || kd == 6) = false := by rw [e1, e2]; rfl
   have hl := hleaf (.mk kd s n l) k e hQ h0 (by omega)
   rw [show z0k lf (.mk kd s n l) k = lf (.mk kd s n l) k by rw [z0k, if_neg (by rw [e]; simp)]]
   exact ⟨_, hl, .refl _, rfl⟩
 · have e1 : (kd == 5) = false := by simpa using h
   have e2 : (kd == 6) = true := by simpa using h2
   have hin : (kd == 5 || kd == 6) = true := by rw [e1, e2]; rfl
   have hk := key 0 (by omega) (by omega) (by rw [e1]; rfl) hin
   have hw := wi hin
   rw [e1] at hw
   refine ⟨_, _, hw, rfl, ?_⟩
   show RPt _ _ _ _ _ _ ⟨[_, _, _, _, _, _, _, _, (31, ci (((FTs l).length : Nat) : Int)), _], _, _⟩
   rw [z00]
   exact hk
 · have e1 : (kd == 5) = true := by simpa using h
   have hin : (kd == 5 || kd == 6) = true := by rw [e1]; rfl
   have hk := key 1 (by omega) (by omega) (by rw [e1]; rfl) hin
   have hw := wi hin
   rw [e1] at hw
   refine ⟨_, _, hw, rfl, ?_⟩
   show RPt _ _ _ _ _ _ ⟨[_, _, _, _, _, _, _, _, (31, ci (((FTs l).length : Nat) : Int)), _], _, _⟩
   rw [z00]
   exact hk
end Go.AM

set_option maxRecDepth 100000
open Go Go.Proofs
namespace Go.AM
theorem z2g (f : Tm) (l : List Tm) : (z07 f l).sz ≤ 1 + f.sz + Tm.szs l := by
 unfold z07
 split
 · simp only [Tm.szs]; omega
 · split
   · have := f.sz_eq; simp only [Tm.sz, Tm.szs_append, List.length_nil]; omega
   · simp only [Tm.sz, Tm.szs, List.length_nil]; omega
theorem zlj (t : Tm) (o : List Tm) : (z2w t o).sz ≤ 1 + Tm.szs o := by
 unfold z2w
 split
 · rename_i h
   match o, h with
   | [], h => simp at h
   | x :: r, h =>
    simp only [List.headD_cons, List.tail_cons, Tm.szs] at h ⊢
    have hx : (x.k == 6) = true := h.2.2.1
    have hr : r ≠ [] := by intro e; rw [e] at h; simp at h
    unfold z07
    split
    · exact absurd rfl hr
    · have := x.sz_eq
      by_cases hl : x.l = []
      · rw [if_neg (fun e => e.2 hl)]
        simp only [Tm.sz, Tm.szs, List.length_nil]; omega
      · rw [if_pos ⟨hx, hl⟩]
        simp only [Tm.sz, Tm.szs_append, List.length_nil]; omega
 · simp only [Tm.sz]; omega
mutual
def nd : Tm → Nat
 | .mk _ _ _ l => 1 + nds l
def nds : List Tm → Nat
 | [] => 0
 | t :: l => nd t + nds l
end
theorem nd_eq (t : Tm) : nd t = 1 + nds t.l := by cases t; rfl
theorem zri : ∀ {l : List Tm} {t : Tm}, t ∈ l → nd t ≤ nds l
 | x :: l, t, h => by
  rcases List.mem_cons.1 h with rfl | h
  · simp only [nds]; omega
  · have := zri h; simp only [nds]; omega
mutual
theorem zey (lf : Tm → Int → Tm) (S : Nat) (h : ∀ u d, (lf u d).sz ≤ u.sz + S) : ∀ (t : Tm) (d : Int), (z0k lf t d).sz ≤ t.sz + nd t * S
 | .mk k s n l, d => by
  rw [z0k]
  split
  · refine Nat.le_trans (zlj ..) ?_
    have := zkm lf S h l (d + if (k == 5) = true then 1 else 0)
    simp only [Tm.sz, Tm.s, nd, Nat.add_mul, Nat.one_mul]
    omega
  · refine Nat.le_trans (h _ _) ?_
    simp only [nd, Nat.add_mul, Nat.one_mul]; omega
theorem zkm (lf : Tm → Int → Tm) (S : Nat) (h : ∀ u d, (lf u d).sz ≤ u.sz + S) : ∀ (l : List Tm) (d : Int), Tm.szs (z0f lf l d) ≤ Tm.szs l + nds l * S
 | [], _ => by simp [z0f, Tm.szs]
 | t :: l, d => by
  have := zey lf S h t d
  have := zkm lf S h l d
  simp only [z0f, Tm.szs, nds, Nat.add_mul]; omega
end
theorem zds {M : Int} : ∀ {a b : List Tm}, bds M a → bds M b → bds M (a ++ b)
 | [], _, _, h => h
 | _ :: _, _, h, h' => ⟨h.1, zds h.2 h'⟩
theorem z74 {M : Int} : ∀ {l : List Tm}, (∀ t ∈ l, bd M t) → bds M l
 | [], _ => trivial
 | t :: _, h => ⟨h t List.mem_cons_self, z74 fun u hu => h u (List.mem_cons_of_mem _ hu)⟩
theorem bd6 {M : Int} {s : List UInt8} {n : Int} {l : List Tm} (h : bds M l) : bd M (.mk 6 s n l) := ⟨fun e => absurd e (by omega), h⟩
theorem z2h {M : Int} {f : Tm} {l : List Tm} (hf : bd M f) (hl : bds M l) : bd M (z07 f l) := by
 unfold z07
 split
 · exact hf
 · split
   · exact bd6 (zds (bd_l hf) hl)
   · exact bd6 ⟨hf, hl⟩
theorem withF_bd {M : Int} {t : Tm} {o : List Tm} (hk : t.k ≠ 3) (ho : bds M o) : bd M (z2w t o) := by
 unfold z2w
 split
 · rename_i h
   match o, h, ho with
   | [], h, _ => simp at h
   | x :: r, h, ho => exact z2h ho.1 ho.2
 · exact ⟨fun e => absurd e hk, ho⟩
mutual
theorem zam (lf : Tm → Int → Tm) (M M' D : Int) (h : ∀ u d, bd M u → 0 ≤ d → d ≤ D → bd M' (lf u d)) : ∀ (t : Tm) (d : Int), bd M t → 0 ≤ d → d + t.sz ≤ D → bd M' (z0k lf t d)
 | .mk k s n l, d, hb, h0, h1 => by
  rw [z0k]
  simp only [Tm.sz] at h1
  split
  · rename_i hk
    refine withF_bd (fun e => ?_) (zmc lf M M' D h l _ hb.2 (by split <;> omega) (by split <;> omega))
    have e : k = 3 := e
    rw [e] at hk; exact absurd hk (by decide)
  · exact h _ _ hb h0 (by omega)
theorem zmc (lf : Tm → Int → Tm) (M M' D : Int) (h : ∀ u d, bd M u → 0 ≤ d → d ≤ D → bd M' (lf u d)) : ∀ (l : List Tm) (d : Int), bds M l → 0 ≤ d → d + Tm.szs l ≤ D → bds M' (z0f lf l d)
 | [], _, _, _, _ => trivial
 | t :: l, d, hb, h0, h1 => by
  simp only [Tm.szs] at h1
  exact ⟨zam lf M M' D h t d hb.1 h0 (by omega), zmc lf M M' D h l d hb.2 h0 (by omega)⟩
end
theorem z9t (lf : Tm → Int → Tm) : ∀ (l : List Tm) (d : Int), (z0f lf l d).length = l.length
 | [], _ => rfl
 | _ :: l, d => by simp only [z0f, List.length_cons, z9t lf l d]
abbrev M61 : Int := 2305843009213693952
def z3p (fr by_ : Int) (u : Tm) (d : Int) : Tm := if (u.k == 3) = true ∧ d + fr ≤ u.n then .mk u.k u.s (u.n + by_) u.l else u
def shT (fr by_ : Int) (t : Tm) (d : Int) : Tm := z0k (z3p fr by_) t d
theorem zst (fr by_ : Int) (u : Tm) (d : Int) : (z3p fr by_ u d).sz = u.sz := by
 unfold z3p; split
 · cases u; rfl
 · rfl
theorem zd4 (fr by_ : Int) (t : Tm) (d : Int) : (shT fr by_ t d).sz ≤ t.sz := by
 have := zey (z3p fr by_) 0 (fun u d => by rw [zst]; omega) t d
 rw [Nat.mul_zero] at this; exact this
theorem z60 {M M' : Int} (h : M ≤ M') : ∀ t : Tm, bd M t → bd M' t := by
 refine Tm.ind fun t ih hb => ?_
 obtain ⟨k, s, n, l⟩ := t
 exact ⟨fun e => by have := hb.1 e; omega, z74 fun u hu => ih u hu (z2y hb.2 hu)⟩
theorem zpz {fr by_ M : Int} (h0 : 0 ≤ by_) (u : Tm) (d : Int) (hb : bd M u) : bd (M + by_) (z3p fr by_ u d) := by
 unfold z3p
 split
 · obtain ⟨k, s, n, l⟩ := u
   exact ⟨fun e => by have := hb.1 e; simp only [Tm.n]; omega, z74 fun u hu => z60 (by omega) u (z2y hb.2 hu)⟩
 · exact z60 (by omega) u hb
theorem shT_bd {fr by_ M : Int} (h0 : 0 ≤ by_) (t : Tm) (d : Int) (hb : bd M t) (hd : 0 ≤ d) : bd (M + by_) (shT fr by_ t d) :=
 zam (z3p fr by_) M (M + by_) (d + t.sz) (fun u d' hu _ _ => zpz h0 u d' hu) t d hb hd (Int.le_refl _)
theorem zof (t : Tm) (by_ : Int) (h1 : -9223372036854775808 ≤ t.n + by_) (h2 : t.n + by_ ≤ 9223372036854775807) : AC Tryz.prog 150 [aT t, ci by_] [] (aT (.mk t.k t.s (t.n + by_) t.l)) [] := by
 obtain ⟨k, s, n, l⟩ := t
 refine AC.vc hP sh lv150 (Nat.le_refl _) (by simp) (by simp) (Eq.mpr (v150 k s n (FTs l) by_ _ _) ?_)
 rw [w64 (x := n + by_) h1 h2]
 exact ⟨.refl _, rfl⟩
theorem c_shift1 (fr by_ d : Int) (u : Tm) (hb : u.k = 3 → 0 - M61 ≤ u.n ∧ u.n ≤ M61) (hd0 : 0 ≤ d) (hd1 : d ≤ M61) (hf0 : 0 ≤ fr) (hf1 : fr ≤ M61) (hb0 : 0 - 1 ≤ by_) (hb1 : by_ ≤ M61) :
  AC Tryz.prog 149 [aT u, ci d, .c (.a (.ep 0 1 0 0)), .c (.a (.ep 1 1 0 0))] [obj1 fr, obj1 by_] (aT (z3p fr by_ u d)) [obj1 fr, obj1 by_] := by
 obtain ⟨k, s, n, l⟩ := u
 simp only [M61, Tm.k, Tm.n] at *
 refine AC.vc hP sh lv149 (Nat.le_refl _) (by simp [isLive]) (by simp) (Eq.mpr (v149 k s n (FTs l) d fr by_ _ _) ?_)
 rw [w64 (by omega) (by omega)]
 refine z01 (fun h => z01 (fun h2 => ?_) (fun h2 => ?_)) (fun h => ?_)
 · have hk : k = 3 := by simpa using h
   have h3 : d + fr ≤ n := of_decide_eq_true h2
   have := hb hk
   have e : z3p fr by_ (.mk k s n l) d = .mk k s (n + by_) l := if_pos ⟨h, h3⟩
   rw [e]
   exact ⟨_, zof (.mk k s n l) by_ (by simp only [Tm.n]; omega) (by simp only [Tm.n]; omega), .refl _, rfl⟩
 · have h3 : ¬ d + fr ≤ n := of_decide_eq_false h2
   have e : z3p fr by_ (.mk k s n l) d = .mk k s n l := if_neg fun e => h3 e.2
   rw [e]; exact ⟨.refl _, rfl⟩
 · have e : z3p fr by_ (.mk k s n l) d = .mk k s n l := if_neg fun e => by have := e.1; rw [show Tm.k (.mk k s n l) = k from rfl, h] at this; cases this
   rw [e]; exact ⟨.refl _, rfl⟩
theorem zjp (t : Tm) (fr by_ : Int) (hs : t.sz ≤ B) (hb : bd M61 t) (hf0 : 0 ≤ fr) (hf1 : fr ≤ M61) (hb0 : 0 - 1 ≤ by_) (hb1 : by_ ≤ M61) :
  AC Tryz.prog 131 [aT t, ci fr, ci by_] [] (aT (shT fr by_ t 0)) [] := by
 have h := c_wSh fr by_ (z3p fr by_) (fun u _ => bd M61 u ∧ u.sz ≤ B) (fun kd s n l d hq hk u hu => ⟨z2y hq.1.2 hu, by have := Tm.szs_mem hu; have := hq.2; simp only [Tm.sz] at this; omega⟩)
  (fun u d hk hq h0 h1 => c_shift1 fr by_ d u (by obtain ⟨k, s, n, l⟩ := u; exact hq.1.1) h0 h1 hf0 hf1 hb0 hb1)
  (fun u d hq => by have := zd4 fr by_ u d; have h1 := (shT fr by_ u d).sz_eq; have := Tm.szs_length (shT fr by_ u d).l; have := hq.2; show (shT fr by_ u d).l.length ≤ _; omega)
  t hs 0 ⟨hb, hs⟩ (Int.le_refl _) (by simp only [B] at hs; omega)
 obtain ⟨k, s, n, l⟩ := t
 refine AC.vc hP sh lv131 (Nat.le_refl _) (by simp) (by simp) (Eq.mpr (v131 k s n (FTs l) fr by_ _ _) ?_)
 exact ⟨_, h, .refl _, rfl⟩
def z2k (i : Int) (s : Tm) (u : Tm) (d : Int) : Tm :=
 if (u.k == 3) = true then (if u.n < d + i then u else if (u.n == d + i) = true then shT 0 d s 0 else .mk u.k u.s (u.n - 1) u.l) else u
def suT (i : Int) (s t : Tm) (d : Int) : Tm := z0k (z2k i s) t d
theorem zp1 (i : Int) (s u : Tm) (d : Int) : (z2k i s u d).sz ≤ u.sz + s.sz := by
 have h3 := zd4 0 d s 0
 unfold z2k
 split
 · split
   · omega
   · split
     · omega
     · cases u; simp only [Tm.sz, Tm.s, Tm.l]; omega
 · omega
theorem suT_sz (i : Int) (s t : Tm) (d : Int) : (suT i s t d).sz ≤ t.sz + nd t * s.sz := zey _ _ (zp1 i s) t d
theorem suT_bd {i M M' D : Int} (s t : Tm) (d : Int) (hb : bd M t) (hs : bd M' s) (hM : M' + D ≤ M) (hd : 0 ≤ d) (hD : d + t.sz ≤ D) (hi : 0 ≤ i) (hM' : 0 ≤ M): bd M (suT i s t d) := by
 refine zam (z2k i s) M M D (fun u d' hu h0 h1 => ?_) t d hb hd hD
 unfold z2k
 split
 · split
   · exact hu
   · split
     · exact z60 (by omega) _ (shT_bd h0 s 0 hs (Int.le_refl _))
     · rename_i h2 h3
       obtain ⟨k, s', n, l⟩ := u
       have h3' : n ≠ d' + i := fun e => h3 (by rw [show Tm.n (.mk k s' n l) = n from rfl, e]; simp)
       have h2' : ¬ n < d' + i := h2
       exact ⟨fun e => by have := hu.1 e; simp only [Tm.n]; omega, hu.2⟩
 · exact hu
theorem c_subst1 (i d : Int) (s u : Tm) (hs : s.sz ≤ B) (hbs : bd M61 s) (hb : u.k = 3 → 0 - M61 ≤ u.n ∧ u.n ≤ M61) (hd0 : 0 ≤ d) (hd1 : d ≤ M61) (hi0 : 0 ≤ i) (hi1 : i ≤ M61) :
  AC Tryz.prog 176 [aT u, ci d, .c (.a (.ep 0 1 0 0)), .c (.a (.ep 1 4 0 0))] [obj1 i, .arr 4 [fzs (FT s)]] (aT (z2k i s u d)) [obj1 i, .arr 4 [fzs (FT s)]] := by
 obtain ⟨k, t, n, l⟩ := u
 have hsh := zjp s 0 d hs hbs (Int.le_refl _) (by simp only [M61]; omega) (by omega) hd1
 rw [zbm]
 simp only [M61, Tm.k, Tm.n] at *
 refine AC.vc hP sh lv176 (Nat.le_refl _) (by simp [isLive]) (by simp) (Eq.mpr (v176 k t n (FTs l) d i s.k s.s s.n (FTs s.l) _ _) ?_)
 rw [w64 (by omega) (by omega)]
 refine z01 (fun h => ?_) (fun h => z01 (fun h2 => ?_) (fun h2 => z01 (fun h3 => ?_) (fun h3 => ?_)))
 · have e : z2k i s (.mk k t n l) d = .mk k t n l := if_neg fun e => by rw [show Tm.k (.mk k t n l) = k from rfl] at e; rw [bne, e] at h; cases h
   rw [e]; exact ⟨.refl _, rfl⟩
 · have hk : (k == 3) = true := by simpa [bne] using h
   have e : z2k i s (.mk k t n l) d = .mk k t n l := by rw [z2k, if_pos (show (Tm.k (.mk k t n l) == 3) = true from hk), if_pos (show Tm.n (.mk k t n l) < d + i from of_decide_eq_true h2)]
   rw [e]; exact ⟨.refl _, rfl⟩
 · have hk : (k == 3) = true := by simpa [bne] using h
   have e : z2k i s (.mk k t n l) d = shT 0 d s 0 := by rw [z2k, if_pos (show (Tm.k (.mk k t n l) == 3) = true from hk), if_neg (show ¬ Tm.n (.mk k t n l) < d + i from of_decide_eq_false h2), if_pos (show (Tm.n (.mk k t n l) == d + i) = true from h3)]
   rw [e]; exact ⟨_, hsh, .refl _, rfl⟩
 · have hk : (k == 3) = true := by simpa [bne] using h
   have e : z2k i s (.mk k t n l) d = .mk k t (n - 1) l := by rw [z2k, if_pos (show (Tm.k (.mk k t n l) == 3) = true from hk), if_neg (show ¬ Tm.n (.mk k t n l) < d + i from of_decide_eq_false h2), if_neg (by rw [show Tm.n (.mk k t n l) = n from rfl, h3]; simp)]; rfl
   have := hb (by simpa using hk)
   rw [e]; exact ⟨_, zof (.mk k t n l) (-1) (by simp only [Tm.n]; omega) (by simp only [Tm.n]; omega), .refl _, rfl⟩
theorem c_subst (t s : Tm) (i : Int) (hs : s.sz ≤ B) (ht : t.sz + nd t * s.sz ≤ B) (hb : bd M61 t) (hbs : bd M61 s) (hi0 : 0 ≤ i) (hi1 : i ≤ M61) :
  AC Tryz.prog 173 [aT t, ci i, aT s] [] (aT (suT i s t 0)) [] := by
 have ht' : t.sz ≤ B := by omega
 have hFT := zbm s
 obtain ⟨sk, ss, sn, sl⟩ := s
 have h := c_wSu i sk ss sn sl (z2k i (.mk sk ss sn sl)) (fun u _ => bd M61 u ∧ u.sz + nd u * (Tm.mk sk ss sn sl).sz ≤ B) (fun kd s n l d hq hk u hu => ⟨z2y hq.1.2 hu, by have h2 := hq.2; have := Nat.mul_le_mul_right (Tm.mk sk ss sn sl).sz (zri hu); have := Tm.szs_mem hu; rw [Tm.sz_eq (.mk kd s n l), nd_eq (.mk kd s n l), Nat.add_mul] at h2; simp only [Tm.l, Tm.s] at h2; omega⟩)
  (fun u d hk hq h0 h1 => c_subst1 i d (.mk sk ss sn sl) u hs hbs (by obtain ⟨k, s, n, l⟩ := u; exact hq.1.1) h0 h1 hi0 hi1)
  (fun u d hq => by have := suT_sz i (.mk sk ss sn sl) u d; have h1 := (suT i (.mk sk ss sn sl) u d).sz_eq; have := Tm.szs_length (suT i (.mk sk ss sn sl) u d).l; have := hq.2; show (suT i (.mk sk ss sn sl) u d).l.length ≤ _; omega)
  t ht' 0 ⟨hb, ht⟩ (Int.le_refl _) (by simp only [B] at ht'; omega)
 obtain ⟨k, s, n, l⟩ := t
 refine AC.vc hP sh lv173 (Nat.le_refl _) (by simp) (by simp) (Eq.mpr (v173 k s n (FTs l) i sk ss sn (FTs sl) _ _) ?_)
 exact ⟨_, h, .refl _, rfl⟩
end Go.AM

set_option maxRecDepth 100000
open Go Go.Proofs
namespace Go.AM
def z5q : Nat → Tm → Tm
 | 0, t => t
 | n + 1, t => z5q n (.mk 5 [] 0 [t])
theorem zq4 (N : Int) (hN : N ≤ 4294967296) : ∀ (m : Nat) (i k : Int) (s : List UInt8) (n : Int) (rows : List (List FV)) (l : List Tm), 0 ≤ i → i + m = N → FV.Le (.sl false 4 rows) (.sl false 4 (FTs l)) →
  RPt Tryz.prog 45 0 (aT (z5q m (.mk k s n l))) [] 1 ⟨[(3, .c (.a (.ep 0 4 0 0))), (4, .c (.a (.ep 1 4 0 0))), (6, ci N), (7, ci i)], [(0, .arr 4 [[.a (.fz (.int .i64 k)), .a (.fz (.str s)), .a (.fz (.int .i64 n)), .a (.fz (.sl false 4 rows))]]), (1, .arr 4 [[.a (.fz (.int .i64 0)), .a (.fz (.str [])), .a (.fz (.int .i64 0)), .a (.fz .nils)]])], 2⟩
 | 0, i, k, s, n, rows, l, h0, hi, hle => by
  refine RPt.vc hP sh lv45 (Eq.mpr (zpg ..) ?_)
  refine z01 (fun h => absurd (of_decide_eq_true h) (by omega)) (fun _ => ⟨leT hle, rfl⟩)
 | m + 1, i, k, s, n, rows, l, h0, hi, hle => by
  refine RPt.vc hP sh lv45 (Eq.mpr (zpg ..) ?_)
  have h2 := zq4 N hN m (i + 1) 5 [] 0 [[.int .i64 k, .str s, .int .i64 n, .sl false 4 rows]] [.mk k s n l] (by omega) (by omega) (zpk rfl fun j r t hr ht => by
   match j, hr, ht with
   | 0, hr, ht =>
    simp only [List.getElem?_cons_zero, Option.some.injEq] at hr ht
    subst hr; subst ht
    exact leFT hle
   | j + 1, hr, _ => simp at hr)
  rw [w64 (x := i + 1) (by omega) (by omega)]
  refine z01 (fun _ => ⟨⟨rfl, by omega⟩, ?_⟩) (fun h => absurd (of_decide_eq_false h) (by omega))
  exact h2
theorem zfa {n : Int} (h : 0 ≤ n) : z0e [n, 0] = n := by
 rw [zlm]; unfold maxI; split <;> omega
theorem zcx (m : Nat) (t : Tm) (hm : m ≤ 4294967296) : AC Tryz.prog 45 [ci m, aT t] [] (aT (z5q m t)) [] := by
 obtain ⟨k, s, n, l⟩ := t
 refine AC.vc hP sh lv45 (Nat.le_refl _) (by simp) (by simp) (Eq.mpr (v45 m k s n (FTs l) _ _) ?_)
 rw [zfa (by omega)]
 refine RPt.vc hP sh lv45 (Eq.mpr (zpg ..) ?_)
 match m, hm with
 | 0, _ => exact z01 (fun h => absurd (of_decide_eq_true h) (by omega)) (fun _ => ⟨.refl _, rfl⟩)
 | m + 1, hm =>
  refine z01 (fun _ => ⟨⟨rfl, by omega⟩, ?_⟩) (fun h => absurd (of_decide_eq_false h) (by omega))
  exact zq4 ((m + 1 : Nat) : Int) (by omega) m 1 5 [] 0 [[.int .i64 k, .str s, .int .i64 n, .sl false 4 (FTs l)]] [.mk k s n l] (by omega) (by omega) (zpk rfl fun j r t hr ht => by
   match j, hr, ht with
   | 0, hr, ht =>
    simp only [List.getElem?_cons_zero, Option.some.injEq] at hr ht
    subst hr; subst ht
    exact leFT (.refl _)
   | j + 1, hr, _ => simp at hr)
mutual
def z02 : Tm → Bool
 | .mk k s n l =>
  if (k == 0) = true then (zgl s || znv s) && n == 0 && (((FTs l).length : Nat) : Int) == 0
  else if (k == 1) = true then decide (n ≥ 1) && s == [] && (((FTs l).length : Nat) : Int) == 0 && z34 l
  else if (k == 2) = true then s == [] && (((FTs l).length : Nat) : Int) == 0 && z34 l
  else if (k == 3) = true then decide (n ≥ 0) && decide (n ≤ 4611686018427387904) && s == [] && (((FTs l).length : Nat) : Int) == 0 && z34 l
  else if (k == 4) = true then decide (n ≥ 0) && decide (n ≤ 4611686018427387904) && s == [] && (((FTs l).length : Nat) : Int) == 0 && z34 l
  else if (k == 5) = true then n == 0 && s == [] && (((FTs l).length : Nat) : Int) == 1 && z34 l
  else if (k == 6) = true then n == 0 && decide ((((FTs l).length : Nat) : Int) ≥ 2) && ((l.headD default).k != 6) && s == [] && z34 l
  else false
def z34 : List Tm → Bool
 | [] => true
 | t :: l => z02 t && z34 l
end
def ziv : List Tm → Int → Int
 | [], _ => -1
 | t :: l, i => if z02 t = true then ziv l (i + 1) else i
theorem zm6 : ∀ (l : List Tm) (i : Int), 0 ≤ i → decide (ziv l i ≥ 0) = !z34 l
 | [], _, _ => rfl
 | t :: l, i, h => by
  rw [ziv, z34]
  split
  · rename_i e; rw [zm6 l (i + 1) (by omega), e, Bool.true_and]
  · rename_i e; rw [show z02 t = false by simpa using e]; simp; omega
theorem zsj : ∀ (b a : List Tm), (∀ u ∈ b, AC Tryz.prog 66 [aT u] [] (cb (!z02 u)) []) → (a ++ b).length ≤ B →
  RPt Tryz.prog 83 0 (ci (ziv b a.length)) [] 1 ⟨[(0, aL (a ++ b)), (1, .c (.fn (.func 66) [] [])), (7, ci (((FTs (a ++ b)).length : Nat) : Int)), (8, ci a.length)], [], 0⟩
 | [], a, _, _ => by
  refine RPt.vc hP sh lv83 (Eq.mpr (zd ..) ?_)
  exact z01 (fun h => absurd (of_decide_eq_true h) (geI' a)) (fun _ => z3b rfl)
 | t :: b, a, ih, hl => by
  refine RPt.vc hP sh lv83 (Eq.mpr (zd ..) ?_)
  have hl' := hl
  simp only [List.length_append, List.length_cons, B] at hl'
  have h1 := ih t List.mem_cons_self
  have h2 := zsj b (a ++ [t]) (fun u hu => ih u (List.mem_cons_of_mem _ hu)) (by rw [ap]; exact hl)
  have h3 := ltI' a t b
  rw [ap, nx] at h2
  rw [midI, w64 (x := (a.length : Int) + 1) (by omega) (by omega)]
  refine z01 (fun _ => ?_) (fun h => absurd h3 (of_decide_eq_false h))
  obtain ⟨k', s', n', l'⟩ := t
  refine ⟨⟨rfl, by omega, h3, rfl⟩, _, h1, z01 (fun h => ?_) (fun h => ?_)⟩
  · rw [ziv, if_neg (by simpa using h)]; exact z3b rfl
  · rw [ziv, if_pos (by simpa using h)]; exact h2
theorem c_contf (l : List Tm) (hl : l.length ≤ B) (ih : ∀ u ∈ l, AC Tryz.prog 20 [aT u] [] (cb (z02 u)) []) : AC Tryz.prog 49 [aL l, .c (.fn (.func 66) [] [])] [] (cb (!z34 l)) [] := by
 have h1 : ∀ u ∈ l, AC Tryz.prog 66 [aT u] [] (cb (!z02 u)) [] := fun u hu => by
  have h := ih u hu
  obtain ⟨k, s, n, l⟩ := u
  refine AC.vc hP sh lv66 (Nat.le_refl _) (by simp) (by simp) (Eq.mpr (v66 k s n (FTs l) _ _) ?_)
  exact ⟨_, h, z06 rfl⟩
 have h2 : AC Tryz.prog 83 [aL l, .c (.fn (.func 66) [] [])] [] (ci (ziv l 0)) [] := by
  refine AC.vc hP sh lv83 (Nat.le_refl _) (by simp) (by simp) (Eq.mpr (v83_F66 ..) ?_)
  exact ⟨rfl, zsj l [] h1 hl⟩
 refine AC.vc hP sh lv49 (Nat.le_refl _) (by simp) (by simp) (Eq.mpr (v49_F66 ..) ?_)
 exact ⟨_, h2, z06 (zm6 l 0 (Int.le_refl _))⟩
theorem head0 : ∀ {l : List Tm}, 2 ≤ (((FTs l).length : Nat) : Int) → List.getD (FTs l) 0 [] = FT (l.headD default)
 | [], h => by simp [FTs] at h
 | t :: l, _ => rfl
theorem z26 : ∀ t : Tm, t.sz ≤ B → AC Tryz.prog 20 [aT t] [] (cb (z02 t)) [] := by
 refine Tm.ind fun t ih hs => ?_
 have hlen := Tm.szs_length t.l
 obtain ⟨k, s, n, l⟩ := t
 simp only [Tm.sz, Tm.l] at hs hlen
 have hc := c_contf l (by omega) fun u hu => ih u hu (by have := Tm.szs_mem hu; omega)
 refine AC.vc hP sh lv20 (Nat.le_refl _) (by simp) (by simp) (Eq.mpr (v20 k s n (FTs l) _ _) ?_)
 refine z01 (fun h0 => ⟨_, c_isname s, z01 (fun h1 => z01 (fun h2 => ⟨rfl, z06 ?_⟩) (fun h2 => z06 ?_)) (fun h1 => ⟨_, c_issym s, z01 (fun h1' => z01 (fun h2 => ⟨rfl, z06 ?_⟩) (fun h2 => z06 ?_)) (fun h1' => z06 ?_)⟩)⟩)
  (fun h0 => z01 (fun h1 => z01 (fun h2 => z01 (fun h3 => ⟨rfl, z01 (fun h4 => ⟨_, hc, z06 ?_⟩) (fun h4 => z06 ?_)⟩) (fun h3 => z06 ?_)) (fun h2 => z06 ?_))
  (fun h1 => z01 (fun h2 => z01 (fun h3 => ⟨rfl, z01 (fun h4 => ⟨_, hc, z06 ?_⟩) (fun h4 => z06 ?_)⟩) (fun h3 => z06 ?_))
  (fun h2 => z01 (fun h3 => z01 (fun h4 => z01 (fun h5 => z01 (fun h6 => ⟨rfl, z01 (fun h7 => ⟨_, hc, z06 ?_⟩) (fun h7 => z06 ?_)⟩) (fun h6 => z06 ?_)) (fun h5 => z06 ?_)) (fun h4 => z06 ?_))
  (fun h3 => z01 (fun h3' => z01 (fun h4 => z01 (fun h5 => z01 (fun h6 => ⟨rfl, z01 (fun h7 => ⟨_, hc, z06 ?_⟩) (fun h7 => z06 ?_)⟩) (fun h6 => z06 ?_)) (fun h5 => z06 ?_)) (fun h4 => z06 ?_))
  (fun h3' => z01 (fun h5 => z01 (fun h6 => z01 (fun h7 => ⟨rfl, z01 (fun h8 => ⟨_, hc, z06 ?_⟩) (fun h8 => z06 ?_)⟩) (fun h7 => z06 ?_)) (fun h6 => z06 ?_))
  (fun h5 => z01 (fun h6 => z01 (fun h7 => ⟨rfl, z01 (fun h8 => ?app) (fun h8 => ⟨rfl, z06 ?_⟩)⟩) (fun h7 => ⟨rfl, z06 ?_⟩)) (fun h6 => z06 ?_)))))))
 case app =>
  have h8' := of_decide_eq_true h8
  rw [head0 h8', zbm]
  refine ⟨⟨rfl, by omega, by omega, rfl⟩, rfl, z01 (fun h9 => z01 (fun h10 => ⟨rfl, z01 (fun h11 => ⟨_, hc, z06 ?_⟩) (fun h11 => z06 ?_)⟩) (fun h10 => z06 ?_)) (fun h9 => z06 ?_)⟩
  all_goals (have h9' : ((l.headD default).k != 6) = _ := h9; simp_all [z02])
 all_goals first
  | (simp_all [z02]; done)
  | (simp_all [z02]; intros; omega)
end Go.AM

set_option maxRecDepth 100000
open Go Go.Proofs
namespace Go.AM
mutual
theorem zfi {M : Int} : ∀ t : Tm, near M t = true → bd M t
 | .mk k s n l, h => by
  simp only [near, Bool.and_eq_true] at h
  refine ⟨fun e => ?_, zlq l h.2⟩
  have := h.1
  rw [e] at this
  simp at this; omega
theorem zlq {M : Int} : ∀ l : List Tm, zim M l = true → bds M l
 | [], _ => trivial
 | t :: l, h => by
  simp only [zim, Bool.and_eq_true] at h
  exact ⟨zfi t h.1, zlq l h.2⟩
end
end Go.AM

set_option maxRecDepth 100000
open Go Go.Proofs
namespace Go.AM
abbrev aI (l : List Int) : TV := .c (.a (.fz (.sl false 1 (IR l))))
theorem z44 (l : List Int) : (IR l).length = l.length := by simp [IR]
theorem zsf (a b : List Int) : IR (a ++ b) = IR a ++ IR b := by simp [IR]
theorem midN (a : List Int) (x : Int) (b : List Int) : List.getD (IR (a ++ x :: b)) (Int.toNat (a.length : Int)) [] = [.int .i64 x] := by
 rw [show Int.toNat (a.length : Int) = a.length by omega]
 simp [List.getD, IR]
theorem ltN (a : List Int) (t : Int) (b : List Int) : (a.length : Int) < (((IR (a ++ t :: b)).length : Nat) : Int) := by rw [z44]; exact ltI a t b
def hasI (v : Int) (l : List Int) : Bool := l.any fun x => v == x
def idxI (v : Int) : List Int → Int → Int
 | [], _ => -1
 | x :: l, i => if (v == x) = true then i else idxI v l (i + 1)
theorem zsh (v : Int) : ∀ (l : List Int) (i : Int), 0 ≤ i → decide (idxI v l i ≥ 0) = hasI v l
 | [], _, _ => rfl
 | x :: l, i, h => by
  rw [idxI]
  split
  · rename_i e; simp [hasI, e, h]
  · rename_i e; rw [zsh v l (i + 1) (by omega)]; simp [hasI, show (v == x) = false by simpa using e]
theorem zle (v : Int) : ∀ (b a : List Int), (a ++ b).length ≤ B → RPt Tryz.prog 89 0 (ci (idxI v b a.length)) [] 1 ⟨[(0, aI (a ++ b)), (1, ci v), (7, ci (((IR (a ++ b)).length : Nat) : Int)), (8, ci a.length)], [], 0⟩
 | [], a, hl => by
  refine RPt.vc hP sh lv89 (Eq.mpr (v89_1a ..) ?_)
  exact z01 (fun h => absurd (of_decide_eq_true h) (by rw [z44]; simp)) (fun _ => z3b rfl)
 | x :: b, a, hl => by
  refine RPt.vc hP sh lv89 (Eq.mpr (v89_1a ..) ?_)
  have hl' := hl
  simp only [List.length_append, List.length_cons, B] at hl'
  have h2 := zle v b (a ++ [x]) (by rw [ap]; exact hl)
  rw [ap, nx] at h2
  rw [midN, w64 (x := (a.length : Int) + 1) (by omega) (by omega)]
  refine z01 (fun _ => ⟨⟨rfl, by omega, ltN a x b, rfl⟩, z01 (fun h => ?_) (fun h => ?_)⟩) (fun h => absurd (ltN a x b) (of_decide_eq_false h))
  · rw [idxI, if_pos (show (v == x) = true from h)]; exact z3b rfl
  · rw [idxI, if_neg (by rw [show (v == x) = false from h]; simp)]; exact h2
theorem zih (l : List Int) (v : Int) (hl : l.length ≤ B) : AC Tryz.prog 60 [aI l, ci v] [] (cb (hasI v l)) [] := by
 have h1 : AC Tryz.prog 89 [aI l, ci v] [] (ci (idxI v l 0)) [] := by
  refine AC.vc hP sh lv89 (Nat.le_refl _) (by simp) (by simp) (Eq.mpr (v89 ..) ?_)
  exact ⟨rfl, zle v l [] hl⟩
 refine AC.vc hP sh lv60 (Nat.le_refl _) (by simp) (by simp) (Eq.mpr (v60 ..) ?_)
 exact ⟨_, h1, z06 (zsh v l 0 (Int.le_refl _))⟩
def z0s (u : Tm) (l : List Int) : List Int := if (u.k == 4 && !hasI u.n l) = true then l ++ [u.n] else l
mutual
def z0p : Tm → List Int → List Int
 | .mk k s n l, acc => if (k == 5 || k == 6) = true then z4e l acc else z0s (.mk k s n l) acc
def z4e : List Tm → List Int → List Int
 | [], acc => acc
 | t :: l, acc => z4e l (z0p t acc)
end
mutual
theorem z7z : ∀ (t : Tm) (acc : List Int), ∃ e, z0p t acc = acc ++ e
 | .mk k s n l, acc => by
  rw [z0p]
  split
  · exact zcg l acc
  · unfold z0s
    split
    · exact ⟨_, rfl⟩
    · exact ⟨[], by simp⟩
theorem zcg : ∀ (l : List Tm) (acc : List Int), ∃ e, z4e l acc = acc ++ e
 | [], acc => ⟨[], by simp [z4e]⟩
 | t :: l, acc => by
  obtain ⟨e, h⟩ := z7z t acc
  obtain ⟨e', h'⟩ := zcg l (z0p t acc)
  exact ⟨e ++ e', by rw [z4e, h', h, List.append_assoc]⟩
end
mutual
theorem z5z : ∀ (t : Tm) (acc : List Int), (z0p t acc).length ≤ acc.length + t.sz
 | .mk k s n l, acc => by
  rw [z0p]
  split
  · have := zg5 l acc; simp only [Tm.sz]; omega
  · unfold z0s
    split
    · simp only [List.length_append, List.length_cons, List.length_nil, Tm.sz]; omega
    · omega
theorem zg5 : ∀ (l : List Tm) (acc : List Int), (z4e l acc).length ≤ acc.length + Tm.szs l
 | [], acc => by simp [z4e]
 | t :: l, acc => by
  have h1 := z5z t acc
  have h2 := zg5 l (z0p t acc)
  simp only [z4e, Tm.szs]; omega
end
def HsV : List Int → List AObj
 | [] => [.arr 1 [[.a (.fz .nils)]]]
 | x :: l => [.arr 1 [[.a (.osl 1 1 0 (x :: l).length)]], .arz 1 (IR (x :: l))]
def HsW (l l' : List Int) : List AObj := if l' = l then HsV l else if l = [] then HsV l' else [.arr 1 [[.a (.osl 2 1 0 l'.length)]], .gone, .arz 1 (IR l')]
theorem z8b {l : List Int} (h : l ≠ []) : HsV l = [.arr 1 [[.a (.osl 1 1 0 l.length)]], .arz 1 (IR l)] := by
 match l, h with
 | x :: l, _ => rfl
theorem zp4 (l : List Int) : 1 ≤ (HsV l).length := by cases l <;> simp [HsV]
theorem z8u : ∀ (l : List Int) (x : AObj), x ∈ HsV l → isLive x
 | [], x, h => by simp [HsV] at h; subst h; trivial
 | y :: l, x, h => by
  simp only [HsV, List.mem_cons, List.not_mem_nil, or_false] at h
  rcases h with rfl | rfl <;> trivial
theorem z7g (l' : List Int) : HsW [] l' = HsV l' := by unfold HsW; split <;> simp_all
theorem z4n (l : List Int) : HsW l l = HsV l := if_pos rfl
theorem z4k {l l' : List Int} (h : l ≠ []) (h' : l' ≠ l) : HsW l l' = [.arr 1 [[.a (.osl 2 1 0 l'.length)]], .gone, .arz 1 (IR l')] := by rw [HsW, if_neg h', if_neg h]
theorem takeIR (l : List Int) : List.take l.length (List.drop 0 (IR l)) = IR l := by rw [List.drop_zero, List.take_of_length_le (by rw [z44]; exact Nat.le_refl _)]
theorem roomN {n : Nat} (h : n ≤ 2199023255552) : z0b n 8 := by unfold z0b; omega
theorem c_vars1 (u : Tm) (k : Int) (l : List Int) (hl : l.length ≤ 2 * B) (hl' : l.length ≤ B) : AC Tryz.prog 59 [aT u, ci k, .c (.a (.ep 0 1 0 0))] (HsV l) (.tup []) (HsW l (z0s u l)) := by
 have hc := zih l u.n hl'
 obtain ⟨kd, s, n, kl⟩ := u
 simp only [B] at hl hl'
 by_cases hne : l = []
 · subst hne
   rw [z7g]
   refine AC.vc hP sh lv59 (zp4 _) (z8u []) (fun x hx => z8u _ x (List.mem_of_mem_drop hx)) (Eq.mpr (v59 kd s n (FTs kl) k _ _) ?_)
   refine z01 (fun h => ⟨_, hc.args ⟨le_c (.nils 1), .refl _, trivial⟩, z01 (fun h1 => ⟨by omega, roomN (by omega), ?_⟩) (fun h1 => ?_)⟩) (fun h => ?_)
   · rw [show z0s (.mk kd s n kl) [] = [n] from if_pos (by simp [Tm.k, Tm.n, hasI] at h ⊢; exact h)]
     exact ⟨.refl _, rfl⟩
   · exact absurd h1 (by simp [hasI])
   · rw [show z0s (.mk kd s n kl) [] = [] from if_neg (by intro e; rw [Bool.and_eq_true] at e; rw [show (Tm.k (.mk kd s n kl) == 4) = false from h] at e; cases e.1)]
     exact ⟨.refl _, rfl⟩
 · have hv := z8b hne
   rw [hv]
   have hw : ∀ l', z0s (.mk kd s n kl) l = l' → l' ≠ l → HsW l (z0s (.mk kd s n kl) l) = [.arr 1 [[.a (.osl 2 1 0 l'.length)]], .gone, .arz 1 (IR l')] := fun l' h h' => by rw [h, z4k hne h']
   have hsame : z0s (.mk kd s n kl) l = l → HsW l (z0s (.mk kd s n kl) l) = [.arr 1 [[.a (.osl 1 1 0 l.length)]], .arz 1 (IR l)] := fun h => by rw [h, z4n, hv]
   have hdic : z0s (.mk kd s n kl) l = l ∨ z0s (.mk kd s n kl) l = l ++ [n] := by unfold z0s; split <;> simp [Tm.n]
   have hlen : 2 ≤ (HsW l (z0s (.mk kd s n kl) l)).length ∧ (1 : Nat) = 1 := by
    rcases hdic with h | h
    · rw [hsame h]; simp
    · rw [hw _ h (by simp)]; simp
   refine AC.vc hP sh lv59 hlen.1 (by simp [isLive]) (by
    rcases hdic with h | h
    · rw [hsame h]; simp
    · rw [hw _ h (by simp)]; simp [isLive]) (Eq.mpr (v59_i1 kd s n (FTs kl) k l.length (IR l) _ _) ?_)
   rw [takeIR]
   refine z01 (fun h => ⟨⟨rfl, by rw [z44]; omega⟩, _, hc.args ⟨le_c (.nn _ _ _), .refl _, trivial⟩, rfl, z01 (fun h1 => ⟨by omega, ⟨by rw [z44]; omega, roomN (by omega)⟩, ?_⟩) (fun h1 => ?_)⟩) (fun h => ?_)
   · have e : z0s (.mk kd s n kl) l = l ++ [n] := if_pos (by rw [show (Tm.k (.mk kd s n kl) == 4) = true from h]; simpa [Tm.n] using h1)
     rw [hw _ e (by simp), zsf, List.take_of_length_le (by rw [z44]; omega), List.length_append]
     exact ⟨.refl _, rfl⟩
   · rw [hsame (if_neg (by intro e; rw [Bool.and_eq_true] at e; rw [show (!hasI (Tm.n (.mk kd s n kl)) l) = false from h1] at e; cases e.2))]
     exact ⟨.refl _, rfl⟩
   · rw [hsame (if_neg (by intro e; rw [Bool.and_eq_true] at e; rw [show (Tm.k (.mk kd s n kl) == 4) = false from h] at e; cases e.1))]
     exact ⟨.refl _, rfl⟩
end Go.AM

set_option maxRecDepth 100000
open Go Go.Proofs
namespace Go.AM
abbrev znm : TV := .c (.fn (.func 59) [] [(false, [.ep 0 1 0 0])])
abbrev eV (k by_ : Int) (v : FV) (n i : Int) : Env := [(1, ci k), (2, znm), (7, ci by_), (27, .c (.a (.fz v))), (28, ci n), (29, ci i)]
def sV1 (k by_ : Int) (v : FV) (n i : Int) : List Int → St
 | [] => ⟨eV k by_ v n i, [(0, .arr 1 [[.a (.fz .nils)]])], 1⟩
 | x :: l => ⟨eV k by_ v n i, [(0, .arr 1 [[.a (.osl 1 1 0 (x :: l).length)]]), (1, .arz 1 (IR (x :: l)))], 2⟩
theorem zm0 (k by_ : Int) (h0 : 0 ≤ k) (hby : 0 ≤ by_) (hby1 : by_ ≤ 1) (hk : k ≤ 2305843009213693952) : ∀ (b a : List Tm) (v : FV) (acc : List Int), v.ses = FTs (a ++ b) → v.isSl 4 = true →
  (∀ u ∈ b, ∀ acc : List Int, acc.length + u.sz ≤ B → AC Tryz.prog 58 [aT u, ci (k + by_), znm] (HsV acc) (.tup []) (HsW acc (z0p u acc))) → (a ++ b).length ≤ B → acc.length + Tm.szs b ≤ B →
  RPt Tryz.prog 58 1 (.tup []) (HsV (z4e b acc)) 1 (sV1 k by_ v (a ++ b).length a.length acc)
 | [], a, v, acc, hv, hs, _, hl, ha => by
  match acc with
  | [] =>
   refine RPt.vc hP sh lv58 (Eq.mpr (zdd ..) ?_)
   exact z01 (fun h => absurd (of_decide_eq_true h) (by simp)) (fun _ => ⟨.refl _, rfl⟩)
  | x :: l =>
   refine RPt.vc hP sh lv58 (Eq.mpr (zcv ..) ?_)
   exact z01 (fun h => absurd (of_decide_eq_true h) (by simp)) (fun _ => ⟨.refl _, rfl⟩)
 | t :: b, a, v, acc, hv, hs, ih, hl, ha => by
  have hl' := hl
  simp only [List.length_append, List.length_cons, B] at hl'
  simp only [Tm.szs] at ha
  have h1 := ih t List.mem_cons_self acc (by omega)
  have hlen := z5z t acc
  have h2 := zm0 k by_ h0 hby hby1 hk b (a ++ [t]) v (z0p t acc) (by rw [ap]; exact hv) hs (fun u hu => ih u (List.mem_cons_of_mem _ hu)) (by rw [ap]; exact hl) (by omega)
  have h3 := ltI' a t b
  rw [ap, nx] at h2
  rw [z4e]
  obtain ⟨k', s', n', l'⟩ := t
  match acc, h1, h2, hlen with
  | [], h1, h2, _ =>
   refine RPt.vc hP sh lv58 (Eq.mpr (zdd ..) ?_)
   rw [hv, midI, w64 (x := (a.length : Int) + 1) (by omega) (by omega), w64 (x := k + by_) (by omega) (by omega)]
   refine z01 (fun _ => ⟨⟨hs, by omega, h3, rfl⟩, ?_⟩) (fun h => absurd (ltI a (Tm.mk k' s' n' l') b) (of_decide_eq_false h))
   rw [z7g] at h1
   generalize z0p (.mk k' s' n' l') [] = acc' at h1 h2 ⊢
   match acc', h1, h2 with
   | [], h1, h2 => exact .inr (.inl ⟨(), h1, h2⟩)
   | y :: m, h1, h2 => exact .inr (.inr (.inl ⟨((y :: m).length, IR (y :: m)), h1, h2⟩))
  | x :: l, h1, h2, _ =>
   refine RPt.vc hP sh lv58 (Eq.mpr (zcv ..) ?_)
   rw [hv, midI, w64 (x := (a.length : Int) + 1) (by omega) (by omega), w64 (x := k + by_) (by omega) (by omega)]
   refine z01 (fun _ => ⟨⟨hs, by omega, h3, rfl⟩, ?_⟩) (fun h => absurd (ltI a (Tm.mk k' s' n' l') b) (of_decide_eq_false h))
   obtain ⟨e, he⟩ := z7z (.mk k' s' n' l') (x :: l)
   by_cases hsame : z0p (.mk k' s' n' l') (x :: l) = x :: l
   · rw [hsame, z4n] at h1
     rw [hsame] at h2 ⊢
     exact .inr (.inr (.inl ⟨((x :: l).length, IR (x :: l)), h1, h2⟩))
   · rw [z4k (by simp) hsame] at h1
     generalize z0p (.mk k' s' n' l') (x :: l) = acc' at h1 h2 he ⊢
     subst he
     exact .inr (.inr (.inr ⟨(((x :: l) ++ e).length, IR ((x :: l) ++ e)), h1, h2⟩))
theorem zh9 (k by_ : Int) (h0 : 0 ≤ k) (hby : 0 ≤ by_) (hby1 : by_ ≤ 1) (hk : k ≤ 2305843009213693952) (l0 : List Int) (hne : l0 ≠ []) : ∀ (b a : List Tm) (v : FV) (acc : List Int), v.ses = FTs (a ++ b) → v.isSl 4 = true →
  (∀ u ∈ b, ∀ acc : List Int, acc.length + u.sz ≤ B → AC Tryz.prog 58 [aT u, ci (k + by_), znm] (HsV acc) (.tup []) (HsW acc (z0p u acc))) → (a ++ b).length ≤ B → acc.length + Tm.szs b ≤ B → l0.length < acc.length →
  RPt Tryz.prog 58 2 (.tup []) (HsW l0 (z4e b acc)) 1 ⟨eV k by_ v (a ++ b).length a.length, [(0, .arr 1 [[.a (.osl 2 1 0 acc.length)]]), (1, .gone), (2, .arz 1 (IR acc))], 3⟩
 | [], a, v, acc, hv, hs, _, hl, ha, hlt => by
  refine RPt.vc hP sh lv58 (Eq.mpr (z8e ..) ?_)
  rw [z4e, z4k hne (fun e => by rw [e] at hlt; omega)]
  exact z01 (fun h => absurd (of_decide_eq_true h) (by simp)) (fun _ => ⟨.refl _, rfl⟩)
 | t :: b, a, v, acc, hv, hs, ih, hl, ha, hlt => by
  have hl' := hl
  simp only [List.length_append, List.length_cons, B] at hl'
  simp only [Tm.szs] at ha
  have h1 := ih t List.mem_cons_self acc (by omega)
  have hlen := z5z t acc
  obtain ⟨e, he⟩ := z7z t acc
  have h2 := zh9 k by_ h0 hby hby1 hk l0 hne b (a ++ [t]) v (z0p t acc) (by rw [ap]; exact hv) hs (fun u hu => ih u (List.mem_cons_of_mem _ hu)) (by rw [ap]; exact hl) (by omega) (by rw [he, List.length_append]; omega)
  have h3 := ltI' a t b
  have hacc : acc ≠ [] := by intro e; rw [e] at hlt; simp at hlt
  rw [ap, nx] at h2
  rw [z4e]
  obtain ⟨k', s', n', l'⟩ := t
  refine RPt.vc hP sh lv58 (Eq.mpr (z8e ..) ?_)
  rw [hv, midI, w64 (x := (a.length : Int) + 1) (by omega) (by omega), w64 (x := k + by_) (by omega) (by omega)]
  refine z01 (fun _ => ⟨⟨hs, by omega, h3, rfl⟩, ?_⟩) (fun h => absurd (ltI a (Tm.mk k' s' n' l') b) (of_decide_eq_false h))
  rw [z8b hacc] at h1
  by_cases hsame : z0p (.mk k' s' n' l') acc = acc
  · rw [hsame, z4n, z8b hacc] at h1
    rw [hsame] at h2 ⊢
    exact .inr (.inr (.inl ⟨(acc.length, IR acc), h1, h2⟩))
  · rw [z4k hacc hsame] at h1
    exact .inr (.inr (.inr ⟨((z0p (.mk k' s' n' l') acc).length, IR (z0p (.mk k' s' n' l') acc)), h1, h2⟩))
theorem zg8 (k by_ : Int) (h0 : 0 ≤ k) (hby : 0 ≤ by_) (hby1 : by_ ≤ 1) (hk : k ≤ 2305843009213693952) (l0 : List Int) (hne : l0 ≠ []) : ∀ (b a : List Tm) (v : FV), v.ses = FTs (a ++ b) → v.isSl 4 = true →
  (∀ u ∈ b, ∀ acc : List Int, acc.length + u.sz ≤ B → AC Tryz.prog 58 [aT u, ci (k + by_), znm] (HsV acc) (.tup []) (HsW acc (z0p u acc))) → (a ++ b).length ≤ B → l0.length + Tm.szs b ≤ B →
  RPt Tryz.prog 58 2 (.tup []) (HsW l0 (z4e b l0)) 1 ⟨eV k by_ v (a ++ b).length a.length, [(0, .arr 1 [[.a (.osl 1 1 0 l0.length)]]), (1, .arz 1 (IR l0))], 2⟩
 | [], a, v, hv, hs, _, hl, ha => by
  refine RPt.vc hP sh lv58 (Eq.mpr (z8l ..) ?_)
  rw [z4e, z4n, z8b hne]
  exact z01 (fun h => absurd (of_decide_eq_true h) (by simp)) (fun _ => ⟨.refl _, rfl⟩)
 | t :: b, a, v, hv, hs, ih, hl, ha => by
  have hl' := hl
  simp only [List.length_append, List.length_cons, B] at hl'
  simp only [Tm.szs] at ha
  have h1 := ih t List.mem_cons_self l0 (by omega)
  have hlen := z5z t l0
  obtain ⟨e, he⟩ := z7z t l0
  have h3 := ltI' a t b
  have ihb := fun u hu => ih u (List.mem_cons_of_mem t hu)
  have h2 := zg8 k by_ h0 hby hby1 hk l0 hne b (a ++ [t]) v (by rw [ap]; exact hv) hs ihb (by rw [ap]; exact hl) (by omega)
  have h4 := zh9 k by_ h0 hby hby1 hk l0 hne b (a ++ [t]) v (z0p t l0) (by rw [ap]; exact hv) hs ihb (by rw [ap]; exact hl) (by omega)
  rw [ap, nx] at h2 h4
  rw [z4e]
  obtain ⟨k', s', n', l'⟩ := t
  refine RPt.vc hP sh lv58 (Eq.mpr (z8l ..) ?_)
  rw [hv, midI, w64 (x := (a.length : Int) + 1) (by omega) (by omega), w64 (x := k + by_) (by omega) (by omega)]
  refine z01 (fun _ => ⟨⟨hs, by omega, h3, rfl⟩, ?_⟩) (fun h => absurd (ltI a (Tm.mk k' s' n' l') b) (of_decide_eq_false h))
  rw [z8b hne] at h1
  by_cases hsame : z0p (.mk k' s' n' l') l0 = l0
  · rw [hsame, z4n, z8b hne] at h1
    rw [hsame]
    exact .inr (.inr (.inl ⟨(l0.length, IR l0), h1, h2⟩))
  · have h4 := h4 (by
     rw [he, List.length_append]
     cases e with
     | nil => exact absurd (by simpa using he) hsame
     | cons y e => simp)
    rw [z4k hne hsame] at h1
    exact .inr (.inr (.inr ⟨((z0p (.mk k' s' n' l') l0).length, IR (z0p (.mk k' s' n' l') l0)), h1, h4⟩))
theorem zoq (l l' : List Int) : (HsV l).length ≤ (HsW l l').length := by
 by_cases h : l = []
 · subst h; rw [z7g]; exact zp4 l'
 · by_cases h' : l' = l
   · rw [h', z4n]; exact Nat.le_refl _
   · rw [z4k h h', z8b h]; simp
theorem zm4 (l l' : List Int) : ∀ x ∈ (HsW l l').drop (HsV l).length, isLive x := by
 by_cases h : l = []
 · subst h; rw [z7g]; exact fun x hx => z8u _ x (List.mem_of_mem_drop hx)
 · by_cases h' : l' = l
   · rw [h', z4n]; simp
   · rw [z4k h h', z8b h]; simp [isLive]
theorem c_eachV : ∀ t : Tm, t.sz ≤ B → ∀ (k : Int) (acc : List Int), 0 ≤ k → k + t.sz ≤ 2305843009213693952 → acc.length + t.sz ≤ B → AC Tryz.prog 58 [aT t, ci k, znm] (HsV acc) (.tup []) (HsW acc (z0p t acc)) := by
 refine Tm.ind fun t ih hs k acc h0 h1 ha => ?_
 have hw := z8n t
 have hk := zby t
 have hlen := Tm.szs_length t.l
 have hv1 := c_vars1 t k acc (by omega) (by omega)
 obtain ⟨kd, s, n, l⟩ := t
 simp only [Tm.sz, B, Tm.l] at hs hlen ha
 simp only [Tm.sz] at h1
 have ihl : ∀ by_ : Int, 0 ≤ by_ → by_ ≤ 1 → ∀ u ∈ l, ∀ acc : List Int, acc.length + u.sz ≤ B → AC Tryz.prog 58 [aT u, ci (k + by_), znm] (HsV acc) (.tup []) (HsW acc (z0p u acc)) := fun by_ hb0 hb1 u hu acc ha => ih u hu (by have := Tm.szs_mem hu; simp only [B]; omega) (k + by_) acc (by omega) (by have := Tm.szs_mem hu; omega) ha
 have leaf : (kd == 5) = false → (kd == 6) = false → z0p (.mk kd s n l) acc = z0s (.mk kd s n l) acc := fun e1 e2 => by rw [z0p, if_neg (by rw [e1, e2]; simp)]
 have inn : (kd == 5 || kd == 6) = true → z0p (.mk kd s n l) acc = z4e l acc := fun e => by rw [z0p, if_pos e]
 have kids : (kd == 5 || kd == 6) = true → Tm.kids (.mk kd s n l) = l := fun e => if_pos e
 by_cases hne : acc = []
 · subst hne
   refine AC.vc hP sh lv58 (zoq _ _) (z8u _) (zm4 _ _) (Eq.mpr (v58_F59 kd s n (FTs l) k _ _) ?_)
   have key : ∀ by_ : Int, 0 ≤ by_ → by_ ≤ 1 → Tm.kids (.mk kd s n l) = l → RPt Tryz.prog 58 1 (.tup []) (HsV (z4e l [])) 1 ⟨eV k by_ (z5h (.mk kd s n l)) l.length 0, [(0, .arr 1 [[.a (.fz .nils)]])], 1⟩ := by
    intro by_ hb0 hb1 hkids
    exact zm0 k by_ h0 hb0 hb1 (by omega) l [] (z5h (.mk kd s n l)) [] (by rw [hk.1, hkids]; rfl) hk.2 (ihl by_ hb0 hb1) (by simp only [List.nil_append, B]; omega) (by simp only [B, List.length_nil]; omega)
   rw [z7g]
   refine z01 (fun h => z01 (fun h2 => ?_) (fun h2 => ⟨_, _, hw, hk.2, ?_⟩)) (fun h => ⟨_, _, hw, hk.2, ?_⟩)
   · have e1 : (kd == 5) = false := by simpa using h
     have e2 : (kd == 6) = false := by simpa using h2
     rw [leaf e1 e2]
     rw [z7g] at hv1
     generalize z0s (.mk kd s n l) [] = acc' at hv1 ⊢
     match acc', hv1 with
     | [], hv1 => exact .inl ⟨(), hv1, .refl _, rfl⟩
     | y :: m, hv1 => exact .inr (.inl ⟨((y :: m).length, IR (y :: m)), hv1, .refl _, rfl⟩)
   · have e1 : (kd == 5) = false := by simpa using h
     have e2 : (kd == 6) = true := by simpa using h2
     have hin : (kd == 5 || kd == 6) = true := by rw [e2]; simp
     rw [inn hin, hk.1, kids hin, lenI, show Tm.by (.mk kd s n l) = 0 by unfold Tm.by; simp only [Tm.k, e1, Bool.false_eq_true, if_false]]
     exact key 0 (by omega) (by omega) (kids hin)
   · have e1 : (kd == 5) = true := by simpa using h
     have hin : (kd == 5 || kd == 6) = true := by rw [e1]; simp
     rw [inn hin, hk.1, kids hin, lenI, show Tm.by (.mk kd s n l) = 1 by unfold Tm.by; simp only [Tm.k, e1, if_true]]
     exact key 1 (by omega) (by omega) (kids hin)
 · have hvv := z8b hne
   refine AC.vc hP sh lv58 (zoq _ _) (z8u _) (zm4 _ _) ?_
   rw [hvv] at hv1 ⊢
   refine Eq.mpr (zmq kd s n (FTs l) k acc.length (IR acc) _ _) ?_
   have key : ∀ by_ : Int, 0 ≤ by_ → by_ ≤ 1 → Tm.kids (.mk kd s n l) = l → RPt Tryz.prog 58 2 (.tup []) (HsW acc (z4e l acc)) 1 ⟨eV k by_ (z5h (.mk kd s n l)) l.length 0, [(0, .arr 1 [[.a (.osl 1 1 0 acc.length)]]), (1, .arz 1 (IR acc))], 2⟩ := by
    intro by_ hb0 hb1 hkids
    exact zg8 k by_ h0 hb0 hb1 (by omega) acc hne l [] (z5h (.mk kd s n l)) (by rw [hk.1, hkids]; rfl) hk.2 (ihl by_ hb0 hb1) (by simp only [List.nil_append, B]; omega) (by simp only [B]; omega)
   refine z01 (fun h => z01 (fun h2 => ?_) (fun h2 => ⟨_, _, hw, hk.2, ?_⟩)) (fun h => ⟨_, _, hw, hk.2, ?_⟩)
   · have e1 : (kd == 5) = false := by simpa using h
     have e2 : (kd == 6) = false := by simpa using h2
     rw [leaf e1 e2]
     by_cases hsame : z0s (.mk kd s n l) acc = acc
     · rw [hsame, z4n, hvv] at hv1 ⊢
       exact .inr (.inl ⟨(acc.length, IR acc), hv1, .refl _, rfl⟩)
     · rw [z4k hne hsame] at hv1 ⊢
       exact .inr (.inr ⟨((z0s (.mk kd s n l) acc).length, IR (z0s (.mk kd s n l) acc)), hv1, .refl _, rfl⟩)
   · have e1 : (kd == 5) = false := by simpa using h
     have e2 : (kd == 6) = true := by simpa using h2
     have hin : (kd == 5 || kd == 6) = true := by rw [e2]; simp
     rw [inn hin, hk.1, kids hin, lenI, show Tm.by (.mk kd s n l) = 0 by unfold Tm.by; simp only [Tm.k, e1, Bool.false_eq_true, if_false]]
     exact key 0 (by omega) (by omega) (kids hin)
   · have e1 : (kd == 5) = true := by simpa using h
     have hin : (kd == 5 || kd == 6) = true := by rw [e1]; simp
     rw [inn hin, hk.1, kids hin, lenI, show Tm.by (.mk kd s n l) = 1 by unfold Tm.by; simp only [Tm.k, e1, if_true]]
     exact key 1 (by omega) (by omega) (kids hin)
theorem c_vars (t : Tm) (hs : t.sz ≤ B) : AC Tryz.prog 17 [aT t] [] (aI (z0p t [])) [] := by
 have h := c_eachV t hs 0 [] (Int.le_refl _) (by simp only [B] at hs; omega) (by simpa using hs)
 rw [z7g] at h
 obtain ⟨k, s, n, l⟩ := t
 refine AC.vc hP sh lv17 (Nat.le_refl _) (by simp) (by simp) (Eq.mpr (v17 k s n (FTs l) _ _) ?_)
 generalize z0p (.mk k s n l) [] = acc at h ⊢
 match acc, h with
 | [], h => exact .inr (.inl ⟨(), h, le_c (.nils 1), rfl⟩)
 | x :: m, h =>
  refine .inr (.inr (.inl ⟨((x :: m).length, IR (x :: m)), h, ⟨rfl, by rw [z44]; omega⟩, ?_, rfl⟩))
  rw [takeIR]
  exact le_c (.nn _ _ _)
end Go.AM

set_option maxRecDepth 100000
open Go Go.Proofs

set_option maxRecDepth 100000
open Go Go.Proofs
namespace Go.AM
theorem zlh : ∀ (b a b' a' : List Tm), (∀ u ∈ b, ∀ v : Tm, AC Tryz.prog 139 [aT u, aT v] [] (cb (z1m u v)) []) → (a ++ b).length ≤ B → a.length = a'.length → b.length = b'.length →
  RPt Tryz.prog 157 0 (cb (z6x b b')) [] 1 ⟨[(1, aL (a' ++ b')), (2, .c (.fn (.func 139) [] [])), (15, aL (a ++ b)), (16, ci (((FTs (a ++ b)).length : Nat) : Int)), (17, ci a.length)], [], 0⟩
 | [], a, [], a', _, _, _, _ => by
  refine RPt.vc hP sh zsa (Eq.mpr (z9u ..) ?_)
  exact z01 (fun h => absurd (of_decide_eq_true h) (geI' a)) (fun _ => z06 rfl)
 | t :: b, a, t' :: b', a', ih, hl, ha, hb => by
  refine RPt.vc hP sh zsa (Eq.mpr (z9u ..) ?_)
  have hl' := hl
  simp only [List.length_append, List.length_cons, B] at hl'
  simp only [List.length_cons] at hb
  have h1 := ih t List.mem_cons_self t'
  have h2 := zlh b (a ++ [t]) b' (a' ++ [t']) (fun u hu => ih u (List.mem_cons_of_mem _ hu)) (by rw [ap]; exact hl) (by simp [ha]) (by omega)
  have h3 := ltI' a t b
  have h4 := ltI' a' t' b'
  rw [← ha] at h4
  rw [ap, ap, nx] at h2
  rw [midI, midI' a a' ha, w64 (x := (a.length : Int) + 1) (by omega) (by omega)]
  refine z01 (fun _ => ?_) (fun h => absurd h3 (of_decide_eq_false h))
  obtain ⟨k1, s1, n1, l1⟩ := t
  obtain ⟨k2, s2, n2, l2⟩ := t'
  refine ⟨⟨rfl, by omega, h3, rfl⟩, ⟨rfl, by omega, h4, rfl⟩, _, h1, z01 (fun h => z06 ?_) (fun h => ?_)⟩
  · rw [z6x, show z1m (.mk k1 s1 n1 l1) (.mk k2 s2 n2 l2) = false by simpa using h]; rfl
  · rw [z6x, show z1m (.mk k1 s1 n1 l1) (.mk k2 s2 n2 l2) = true by simpa using h]; exact h2
theorem c_same : ∀ a : Tm, a.sz ≤ B → ∀ b : Tm, AC Tryz.prog 139 [aT a, aT b] [] (cb (z1m a b)) [] := by
 refine Tm.ind fun a ih hs b => ?_
 have hlen := Tm.szs_length a.l
 obtain ⟨k1, s1, n1, l1⟩ := a
 obtain ⟨k2, s2, n2, l2⟩ := b
 simp only [Tm.sz, Tm.l] at hs hlen
 have he : AC Tryz.prog 157 [aL l1, aL l2, .c (.fn (.func 139) [] [])] [] (cb (z6x l1 l2)) [] := by
  refine AC.vc hP sh zsa (Nat.le_refl _) (by simp) (by simp) (Eq.mpr (zs1 ..) ?_)
  refine ⟨rfl, rfl, z01 (fun h => z06 ?_) (fun h => ⟨rfl, ?_⟩)⟩
  · rw [z00, z00] at h
    exact (zbe (fun e => by rw [e] at h; simp at h)).symm
  · rw [z00, z00] at h
    exact zlh l1 [] l2 [] (fun u hu v => ih u hu (by have := Tm.szs_mem hu; omega) v) (by simp only [List.nil_append]; omega) rfl (by have : (l1.length : Int) = l2.length := by simpa using h
                                                                                                                                      omega)
 refine AC.vc hP sh lv139 (Nat.le_refl _) (by simp) (by simp) (Eq.mpr (v139 k1 s1 n1 (FTs l1) k2 s2 n2 (FTs l2) _ _) ?_)
 refine z01 (fun h => z01 (fun h1 => z01 (fun h2 => ⟨_, he, z06 ?_⟩) (fun h2 => z06 ?_)) (fun h1 => z06 ?_)) (fun h => z06 ?_)
 all_goals simp only [z1m]
 all_goals simp_all
end Go.AM

set_option maxRecDepth 100000
open Go Go.Proofs

set_option maxRecDepth 100000
open Go Go.Proofs
namespace Go.AM
mutual
def occF : Tm → Int → Nat
 | .mk k _ n l, i => if (k == 3) = true ∧ (n == i) = true then 1 else occL l (i + if (k == 5) = true then 1 else 0)
def occL : List Tm → Int → Nat
 | [], _ => 0
 | t :: l, i => occF t i + occL l i
end
mutual
theorem zrm : ∀ (t : Tm) (i : Int), occF t i ≤ t.sz
 | .mk k s n l, i => by
  rw [occF]
  have := zjz l (i + if (k == 5) = true then 1 else 0)
  split <;> simp only [Tm.sz] <;> omega
theorem zjz : ∀ (l : List Tm) (i : Int), occL l i ≤ Tm.szs l
 | [], _ => Nat.le_refl _
 | t :: l, i => by have := zrm t i; have := zjz l i; simp only [occL, Tm.szs]; omega
end
theorem zl1 (i : Int) : ∀ (b a : List Tm) (acc : Nat), (∀ u ∈ b, AC Tryz.prog 166 [aT u, ci i] [] (ci (occF u i)) []) → (a ++ b).length ≤ B → acc + occL b i ≤ 2 * B →
  RPt Tryz.prog 166 0 (ci ((acc + occL b i : Nat) : Int)) [] 3 ⟨[(1, ci i), (5, ci acc), (21, aL (a ++ b)), (22, ci (((FTs (a ++ b)).length : Nat) : Int)), (23, ci a.length)], [], 0⟩
 | [], a, acc, _, _, _ => by
  refine RPt.vc hP sh zox (Eq.mpr (zqe ..) ?_)
  exact z01 (fun h => absurd (of_decide_eq_true h) (geI' a)) (fun _ => z3b (by simp [occL]))
 | t :: b, a, acc, ih, hl, ha => by
  have hl' := hl
  simp only [List.length_append, List.length_cons, B] at hl'
  simp only [occL, B] at ha
  have h1 := ih t List.mem_cons_self
  have h2 := zl1 i b (a ++ [t]) (acc + occF t i) (fun u hu => ih u (List.mem_cons_of_mem _ hu)) (by rw [ap]; exact hl) (by simp only [B]; omega)
  have h3 := ltI' a t b
  rw [ap, nx] at h2
  refine RPt.vc hP sh zox (Eq.mpr (zqe ..) ?_)
  rw [midI, w64 (x := (a.length : Int) + 1) (by omega) (by omega)]
  refine z01 (fun _ => ?_) (fun h => absurd h3 (of_decide_eq_false h))
  rw [occL, ← Nat.add_assoc]
  obtain ⟨k', s', n', l'⟩ := t
  refine ⟨⟨rfl, by omega, h3, rfl⟩, _, h1, ?_⟩
  rw [w64 (by omega) (by omega), show (acc : Int) + ((occF (.mk k' s' n' l') i : Nat) : Int) = ((acc + occF (.mk k' s' n' l') i : Nat) : Int) by omega]
  exact h2
theorem zkr : ∀ t : Tm, t.sz ≤ B → ∀ i : Int, 0 - 2305843009213693952 ≤ i → i + t.sz ≤ 2305843009213693952 → AC Tryz.prog 166 [aT t, ci i] [] (ci (occF t i)) [] := by
 refine Tm.ind fun t ih hs i h0 h1 => ?_
 have hlen := Tm.szs_length t.l
 obtain ⟨k, s, n, l⟩ := t
 simp only [Tm.sz, Tm.l, B] at hs hlen h1
 have loop : ∀ j : Int, 0 - 2305843009213693952 ≤ j → j + Tm.szs l ≤ 2305843009213693952 → RPt Tryz.prog 166 0 (ci (occL l j)) [] 3 ⟨[(1, ci j), (5, ci 0), (21, aL l), (22, ci (((FTs l).length : Nat) : Int)), (23, ci 0)], [], 0⟩ := fun j hj0 hj1 => by
  have hle := zjz l j
  have := zl1 j l [] 0 (fun u hu => ih u hu (by have := Tm.szs_mem hu; simp only [B]; omega) j hj0 (by have := Tm.szs_mem hu; omega)) (by simp only [List.nil_append, B]; omega) (by simp only [B]; omega)
  rw [Nat.zero_add] at this
  exact this
 refine AC.vc hP sh zox (Nat.le_refl _) (by simp) (by simp) (Eq.mpr (v166 k s n (FTs l) i _ _) ?_)
 have no : ∀ (c : ¬ ((k == 3) = true ∧ (n == i) = true)), occF (.mk k s n l) i = occL l (i + if (k == 5) = true then 1 else 0) := fun c => by rw [occF, if_neg c]
 refine z01 (fun h => z01 (fun h2 => z3b ?_) (fun h2 => ⟨rfl, ?_⟩)) (fun h => z01 (fun h2 => ⟨rfl, ?_⟩) (fun h2 => ⟨rfl, ?_⟩))
 · rw [occF, if_pos ⟨h, h2⟩]; rfl
 · have e : k = 3 := by simpa using h
   rw [no (fun c => by rw [c.2] at h2; cases h2)]
   subst e
   rw [show (i + if ((3 : Int) == 5) = true then 1 else 0) = i by simp]
   exact loop i (by omega) (by omega)
 · rw [no (fun c => by rw [c.1] at h; cases h), if_pos h2, w64 (by omega) (by omega)]
   exact loop (i + 1) (by omega) (by omega)
 · rw [no (fun c => by rw [c.1] at h; cases h), if_neg (by rw [h2]; simp), Int.add_zero]
   exact loop i (by omega) (by omega)
theorem zjs : (∀ es : List (List FV), es ≠ [] → es.length ≤ B → AC Tryz.prog 102 [.c (.a (.fz (.sl false 4 es)))] [] (.c (.a (.osl 0 4 0 es.length))) [.arz 4 es]) ∧ AC Tryz.prog 102 [.c (.a (.fz (.sl false 4 [])))] [] (.c (.a (.fz (.sl false 4 [])))) [] := by
 have h0 : AC Tryz.prog 102 [.c (.a (.fz .nils))] [] (.c (.a (.fz .nils))) [] := by
  refine AC.vc hP sh lv102 (Nat.le_refl _) (by simp) (by simp) (Eq.mpr (v102 ..) ?_)
  exact ⟨.refl _, rfl⟩
 have h1 : ∀ es : List (List FV), es.length ≤ B → AC Tryz.prog 102 [.c (.a (.fz (.sl true 4 es)))] [] (.c (.a (.osl 0 4 0 es.length))) [.arz 4 es] := fun es hl => by
  refine AC.vc hP sh lv102 (by simp) (by simp) (by simp [isLive]) (Eq.mpr (v102_i1 ..) ?_)
  refine ⟨rfl, ⟨by omega, by rw [Nat.zero_add]; exact z5d (by simp only [B] at hl; omega)⟩, ?_⟩
  rw [Nat.zero_add]
  exact ⟨.refl _, rfl⟩
 exact AC.clone_le h0 h1
theorem zqq (t : Tm) (hs : t.sz ≤ B) (i : Int) (h0 : 0 - 2305843009213693952 ≤ i) (h1 : i + t.sz ≤ 2305843009213693952) : AC Tryz.prog 148 [aT t, ci i] [] (ci (if z02 t = true then (occF t i : Int) else 0)) [] := by
 have hv := z26 t hs
 have ho := zkr t hs i h0 h1
 obtain ⟨k, s, n, l⟩ := t
 refine AC.vc hP sh lv148 (Nat.le_refl _) (by simp) (by simp) (Eq.mpr (v148 k s n (FTs l) i _ _) ?_)
 refine ⟨_, hv, z01 (fun h => z3b ?_) (fun h => ⟨_, ho, z3b ?_⟩)⟩
 · rw [if_neg (by simpa using h)]
 · rw [if_pos (by simpa using h)]
end Go.AM

set_option maxRecDepth 100000
open Go Go.Proofs
namespace Go.AM
abbrev aTE (t : Tm) (e : Int) : TV := .tup [(true, [.a (.fz (.int .i64 t.k)), .a (.fz (.str t.s)), .a (.fz (.int .i64 t.n)), .a (.fz (.sl false 4 (FTs t.l)))]), (false, [.a (.fz (.int .i64 e))])]
abbrev noT : Tm := .mk 0 [] 0 []
theorem leTE {k n e : Int} {s : List UInt8} {x : FV} {l : List Tm} (h : FV.Le x (.sl false 4 (FTs l))) : TV.Le (.tup [(true, [.a (.fz (.int .i64 k)), .a (.fz (.str s)), .a (.fz (.int .i64 n)), .a (.fz x)]), (false, [.a (.fz (.int .i64 e))])]) (aTE (.mk k s n l) e) := by
 refine .tup _ _ rfl fun i p q hp hq => ?_
 match i, hp, hq with
 | 0, hp, hq =>
  simp only [List.getElem?_cons_zero, Option.some.injEq] at hp hq
  subst hp; subst hq
  refine ⟨rfl, rfl, fun j x y hx hy => ?_⟩
  match j, hx, hy with
  | 0, hx, hy => simp at hx hy; subst hx; subst hy; exact .refl _
  | 1, hx, hy => simp at hx hy; subst hx; subst hy; exact .refl _
  | 2, hx, hy => simp at hx hy; subst hx; subst hy; exact .refl _
  | 3, hx, hy => simp at hx hy; subst hx; subst hy; exact .a _ _ (.fz _ _ h)
  | j + 4, hx, _ => simp at hx
 | 1, hp, hq =>
  simp only [List.getElem?_cons_zero, List.getElem?_cons_succ, Option.some.injEq] at hp hq
  subst hp; subst hq
  refine ⟨rfl, rfl, fun j x y hx hy => ?_⟩
  match j, hx, hy with
  | 0, hx, hy => simp at hx hy; subst hx; subst hy; exact .refl _
  | j + 1, hx, _ => simp at hx
 | i + 2, hp, _ => simp at hp
def z50 (body arg : Tm) : Bool := !decide ((z3h body : Int) + (occF body 0 : Int) * (z3h arg : Int) > 4096)
def conF (body arg : Tm) : Tm := if z50 body arg = true then suT 0 arg body 0 else noT
def conE (body arg : Tm) : Int := if z50 body arg = true then 0 else 80
end Go.AM

set_option maxRecDepth 100000
open Go Go.Proofs
namespace Go.AM
def hd (l : List Tm) : Tm := l.headD default
def z52 (t : Tm) : Bool := t.k == 6 && (hd t.l).k == 5
mutual
def okB : Tm → Bool
 | .mk k s n l => (if (k == 6) = true then decide (2 ≤ l.length) && (hd l).k != 6 && (s == [] && n == 0) else if (k == 5) = true then decide (l.length = 1) && (s == [] && n == 0) else decide (l.length = 0)) && okL l
def okL : List Tm → Bool
 | [] => true
 | t :: l => okB t && okL l
end
theorem z4s : ∀ {l : List Tm} {t : Tm}, okL l = true → t ∈ l → okB t = true
 | x :: l, t, h, hm => by
  simp only [okL, Bool.and_eq_true] at h
  rcases List.mem_cons.1 hm with rfl | hm
  · exact h.1
  · exact z4s h.2 hm
theorem zra : ∀ {l : List Tm}, (∀ t ∈ l, okB t = true) → okL l = true
 | [], _ => rfl
 | t :: l, h => by simp only [okL, h t List.mem_cons_self, zra (l := l) fun u hu => h u (List.mem_cons_of_mem _ hu), Bool.and_self]
theorem okB6 {k n : Int} {s : List UInt8} {l : List Tm} (h : okB (.mk k s n l) = true) (hk : k = 6) : ∃ x y r, l = x :: y :: r ∧ x.k ≠ 6 ∧ okL l = true := by
 subst hk
 simp only [okB, Bool.and_eq_true] at h
 match l, h with
 | [], h => simp at h
 | [x], h => simp at h
 | x :: y :: r, h => exact ⟨x, y, r, rfl, by have := h.1; simp [hd] at this; exact this.1, h.2⟩
theorem okB5 {k n : Int} {s : List UInt8} {l : List Tm} (h : okB (.mk k s n l) = true) (hk : k = 5) : ∃ x, l = [x] ∧ okB x = true := by
 subst hk
 simp only [okB, Bool.and_eq_true] at h
 match l, h with
 | [], h => simp at h
 | [x], h => exact ⟨x, rfl, by have := h.2; simpa [okL] using this⟩
 | x :: y :: r, h => simp at h
theorem okB0 {k n : Int} {s : List UInt8} {l : List Tm} (h : okB (.mk k s n l) = true) (h5 : k ≠ 5) (h6 : k ≠ 6) : l = [] := by
 simp only [okB, Bool.and_eq_true] at h
 have := h.1
 rw [if_neg (by simpa using h6), if_neg (by simpa using h5)] at this
 exact List.eq_nil_of_length_eq_zero (by simpa using this)
theorem okB_sn {k n : Int} {s : List UInt8} {l : List Tm} (h : okB (.mk k s n l) = true) (hk : k = 5 ∨ k = 6) : s = [] ∧ n = 0 := by
 simp only [okB, Bool.and_eq_true] at h
 have h := h.1
 rcases hk with rfl | rfl
 · simp at h; exact h.2
 · simp at h; exact h.2
theorem zep {t : Tm} (h : okB t = true) : okL t.l = true := by
 obtain ⟨k, s, n, l⟩ := t
 simp only [okB, Bool.and_eq_true] at h; exact h.2
mutual
theorem z08 : ∀ t : Tm, z02 t = true → okB t = true
 | .mk k s n l, h => by
  rw [okB]
  have hl := zh5 l
  rw [z02] at h
  split at h
  · rename_i e
    have e : k = 0 := by simpa using e
    subst e
    rw [lenI] at h
    have : l = [] := by simp at h; exact h.2
    subst this; rfl
  split at h
  · rename_i e
    have e : k = 1 := by simpa using e
    subst e
    rw [lenI] at h
    have : l = [] := by simp at h; exact h.1.2
    subst this; rfl
  split at h
  · rename_i e
    have e : k = 2 := by simpa using e
    subst e
    rw [lenI] at h
    have : l = [] := by simp at h; exact h.1.2
    subst this; rfl
  split at h
  · rename_i e
    have e : k = 3 := by simpa using e
    subst e
    rw [lenI] at h
    have : l = [] := by simp at h; exact h.1.2
    subst this; rfl
  split at h
  · rename_i e
    have e : k = 4 := by simpa using e
    subst e
    rw [lenI] at h
    have : l = [] := by simp at h; exact h.1.2
    subst this; rfl
  split at h
  · rename_i e
    have e : k = 5 := by simpa using e
    subst e
    rw [lenI] at h
    simp only [Bool.and_eq_true, beq_iff_eq] at h
    have h1 : l.length = 1 := by have := h.1.2; omega
    rw [hl h.2]
    simp [h1, h.1.1.1, h.1.1.2]
  split at h
  · rename_i e
    have e : k = 6 := by simpa using e
    subst e
    rw [lenI] at h
    simp only [Bool.and_eq_true, decide_eq_true_eq, beq_iff_eq] at h
    have h1 : 2 ≤ l.length := by have := h.1.1.1.2; omega
    have h2 : ((hd l).k != 6) = true := h.1.1.2
    rw [hl h.2, h2]
    simp [h1, h.1.1.1.1, h.1.2]
  · cases h
theorem zh5 : ∀ l : List Tm, z34 l = true → okL l = true
 | [], _ => rfl
 | t :: l, h => by
  simp only [z34, Bool.and_eq_true] at h
  simp only [okL, z08 t h.1, zh5 l h.2, Bool.and_self]
end
theorem ok_ne {t : Tm} (h : okB t = true) : t.k = 6 → t.l ≠ [] := by
 obtain ⟨k, s, n, l⟩ := t
 intro hk
 obtain ⟨x, y, r, e, _⟩ := okB6 h hk
 show l ≠ []
 rw [e]; simp
end Go.AM

set_option maxRecDepth 100000
open Go Go.Proofs
namespace Go.AM
abbrev zT : List WV := [.a (.fz (.int .i64 0)), .a (.fz (.str [])), .a (.fz (.int .i64 0)), .a (.fz .nils)]
theorem zdk (k : Int) (s : List UInt8) (n : Int) (l : List Tm) (a : Tm) (r : List Tm) : z07 (.mk k s n l) (a :: r) = if (k == 6) = true ∧ l ≠ [] then .mk 6 [] 0 (l ++ a :: r) else .mk 6 [] 0 (.mk k s n l :: a :: r) := rfl
end Go.AM

set_option maxRecDepth 100000
open Go Go.Proofs
namespace Go.AM
mutual
theorem nd_sz : ∀ t : Tm, nd t = t.sz
 | .mk _ _ _ l => by simp only [nd, Tm.sz, zov l]
theorem zov : ∀ l : List Tm, nds l = Tm.szs l
 | [] => rfl
 | t :: l => by simp only [nds, Tm.szs, nd_sz t, zov l]
end
mutual
theorem zja : ∀ t : Tm, okB t = true → z3h t = t.sz
 | .mk k s n l, h => by
  have hl := zld l (zep h)
  by_cases h6 : k = 6
  · subst h6; simp [z3h, Tm.sz, hl]
  · by_cases h5 : k = 5
    · subst h5; simp [z3h, Tm.sz, hl]
    · have : l = [] := okB0 h h5 h6
      subst this
      simp [z3h, Tm.sz, z7c, Tm.szs]
theorem zld : ∀ l : List Tm, okL l = true → z7c l = Tm.szs l
 | [], _ => rfl
 | t :: l, h => by
  simp only [okL, Bool.and_eq_true] at h
  simp only [z7c, Tm.szs, zja t h.1, zld l h.2]
end
def SZ : Nat := 130000000
theorem zj2 {body arg : Tm} (ob : okB body = true) (oa : okB arg = true) (hr : z50 body arg = true) (ha : arg.sz ≤ SZ) : body.sz + nd body * arg.sz ≤ B ∧ body.sz + occF body 0 * arg.sz ≤ 4096 := by
 have h1 : ((z3h body : Int) + (occF body 0 : Int) * (z3h arg : Int) ≤ 4096) := by
  have : (!decide ((z3h body : Int) + (occF body 0 : Int) * (z3h arg : Int) > 4096)) = true := hr
  simp only [Bool.not_eq_true', decide_eq_false_iff_not] at this
  omega
 rw [zja body ob, zja arg oa, nd_sz] at *
 have h0 : body.sz + occF body 0 * arg.sz ≤ 4096 := by
  have : ((body.sz + occF body 0 * arg.sz : Nat) : Int) ≤ 4096 := by rw [Int.natCast_add, Int.natCast_mul]; exact h1
  omega
 have h2 : body.sz ≤ 4096 := by omega
 have h3 := Nat.mul_le_mul h2 ha
 simp only [SZ] at h3
 exact ⟨by simp only [B]; omega, h0⟩
theorem zm_le {body arg : Tm} (hb : body.sz ≤ 1073741824) (ha : arg.sz ≤ 1073741824) : 0 ≤ (occF body 0 : Int) * (z3h arg : Int) ∧ (occF body 0 : Int) * (z3h arg : Int) ≤ 1152921504606846976 := by
 have := Nat.mul_le_mul (Nat.le_trans (zrm body 0) hb) (Nat.le_trans (zaq arg) ha)
 exact ⟨Int.mul_nonneg (by omega) (by omega), by omega⟩
theorem c_bcontr (body arg : Tm) (ob : okB body = true) (oa : okB arg = true) (hb : body.sz ≤ SZ) (ha : arg.sz ≤ SZ) (db : bd M61 body) (da : bd M61 arg) : AC Tryz.prog 165 [aT body, aT arg] [] (aTE (conF body arg) (conE body arg)) [] := by
 simp only [SZ] at hb ha
 have h1 := c_size body (by simp only [B]; omega)
 have h2 := zkr body (by simp only [B]; omega) 0 (by omega) (by omega)
 have h3 := c_size arg (by simp only [B]; omega)
 have h4 := fun hr => c_subst body arg 0 (by simp only [B]; omega) (zj2 ob oa hr (by simp only [SZ]; omega)).1 db da (by omega) (by simp only [M61]; omega)
 have z1 := zaq body
 have z2 := zm_le (body := body) (arg := arg) (by omega) (by omega)
 have cF : ∀ b, z50 body arg = b → conF body arg = (if b = true then suT 0 arg body 0 else noT) ∧ conE body arg = (if b = true then 0 else 80) := fun b h => by unfold conF conE; rw [h]; exact ⟨rfl, rfl⟩
 have hf : z50 body arg = !decide ((z3h body : Int) + (occF body 0 : Int) * (z3h arg : Int) > 4096) := rfl
 obtain ⟨k, s, n, l⟩ := body
 obtain ⟨k', s', n', l'⟩ := arg
 refine AC.vc hP sh lv165 (Nat.le_refl _) (by simp) (by simp) (Eq.mpr (v165 k s n (FTs l) k' s' n' (FTs l') _ _) ?_)
 refine ⟨_, h1, _, h2, _, h3, ?_⟩
 rw [w64 (x := (occF (.mk k s n l) 0 : Int) * (z3h (.mk k' s' n' l') : Int)) (by omega) (by omega), w64 (by omega) (by omega)]
 refine z01 (fun h => ?_) (fun h => ?_)
 · obtain ⟨e1, e2⟩ := cF false (by rw [hf, h]; rfl)
   rw [e1, e2]
   exact ⟨leTE z0d, rfl⟩
 · obtain ⟨e1, e2⟩ := cF true (by rw [hf, h]; rfl)
   rw [e1, e2]
   exact ⟨_, h4 (by rw [hf, h]; rfl), .refl _, rfl⟩
theorem zj (body arg : Tm) (hb : body.sz ≤ SZ) (ha : arg.sz ≤ SZ) (db : bd M61 body) (da : bd M61 arg) : AC Tryz.prog 147 [aT body, aT arg] [] (if (z02 body && z02 arg) = true then aTE (conF body arg) (conE body arg) else aTE noT 1) [] := by
 have h1 := z26 body (by simp only [SZ, B] at *; omega)
 have h2 := z26 arg (by simp only [SZ, B] at *; omega)
 have h3 := fun ob oa => c_bcontr body arg (z08 body ob) (z08 arg oa) hb ha db da
 obtain ⟨k, s, n, l⟩ := body
 obtain ⟨k', s', n', l'⟩ := arg
 refine AC.vc hP sh lv147 (Nat.le_refl _) (by simp) (by simp) (Eq.mpr (v147 k s n (FTs l) k' s' n' (FTs l') _ _) ?_)
 refine ⟨_, h1, z01 (fun h => ?_) (fun h => ⟨_, h2, z01 (fun h' => ?_) (fun h' => ?_)⟩)⟩
 · rw [if_neg (by rw [show z02 (.mk k s n l) = false by simpa using h]; simp)]
   exact ⟨leTE z0d, rfl⟩
 · rw [if_neg (by rw [show z02 (.mk k' s' n' l') = false by simpa using h']; simp)]
   exact ⟨leTE z0d, rfl⟩
 · have e1 : z02 (.mk k s n l) = true := by simpa using h
   have e2 : z02 (.mk k' s' n' l') = true := by simpa using h'
   rw [if_pos (by rw [e1, e2]; rfl)]
   exact ⟨(_, _), h3 e1 e2, .refl _, rfl⟩
theorem zaz {t : Tm} (ho : okB t = true) (hr : z52 t = true) : ∃ s n s1 n1 body arg rest, t = .mk 6 s n (.mk 5 s1 n1 [body] :: arg :: rest) ∧ okB body = true ∧ okB arg = true ∧ okL rest = true := by
 obtain ⟨k, s, n, l⟩ := t
 simp only [z52, Tm.k, Tm.l, Bool.and_eq_true, beq_iff_eq] at hr
 obtain ⟨rfl, h5⟩ := hr
 obtain ⟨x, y, r, rfl, _, hl⟩ := okB6 ho rfl
 simp only [okL, Bool.and_eq_true] at hl
 obtain ⟨k', s', n', l'⟩ := x
 have h5 : k' = 5 := h5
 subst h5
 obtain ⟨b, rfl, hb⟩ := okB5 hl.1 rfl
 exact ⟨s, n, s', n', b, y, r, rfl, hb, hl.2.1, hl.2.2⟩
mutual
def z3z : Tm → Tm × Int
 | .mk k s n l => if z52 (.mk k s n l) = true then (if z50 (hd (hd l).l) (hd l.tail) = true then (z07 (suT 0 (hd l.tail) (hd (hd l).l) 0) (l.drop 2), 1) else (noT, 2))
  else if (z4t l).2 = 0 then (.mk k s n l, 0) else if (z4t l).2 = 1 then (.mk k [] 0 (z4t l).1, 1) else (noT, 2)
def z4t : List Tm → List Tm × Int
 | [] => ([], 0)
 | t :: l => if (z3z t).2 = 0 then (t :: (z4t l).1, (z4t l).2) else ((z3z t).1 :: l, (z3z t).2)
end
theorem zmh {t : Tm} (ho : okB t = true) (h5 : t.k ≠ 5) (h6 : t.k ≠ 6) : z3z t = (t, 0) := by
 obtain ⟨k, s, n, l⟩ := t
 have : l = [] := okB0 ho h5 h6
 subst this
 rw [z3z, if_neg (by simp only [z52, Tm.k, Bool.and_eq_true, beq_iff_eq]; exact fun e => h6 e.1)]
 rfl
theorem stepF_hd {k n : Int} {s : List UInt8} {x : Tm} {l : List Tm} (ho : okB (.mk k s n (x :: l)) = true) (hr : z52 (.mk k s n (x :: l)) = false) (hk : k = 6) : z3z x = (x, 0) := by
 obtain ⟨y, z, r, e, h6, hl⟩ := okB6 ho hk
 injection e with e1 e2
 subst e1
 subst hk
 simp only [okL, Bool.and_eq_true] at hl
 refine zmh hl.1 (fun e => ?_) h6
 have : z52 (.mk 6 s n (x :: l)) = true := by simp only [z52, Tm.k, Tm.l, hd, List.headD_cons, Bool.and_eq_true, beq_iff_eq]; exact ⟨trivial, e⟩
 rw [hr] at this; cases this
abbrev aSt (u : Tm) (n : Int) : TV := .tup [(true, cT u), (false, [.a (.fz (.bool (n != 0)))]), (false, [.a (.fz (.int .i64 (if n = 2 then 80 else 0)))])]
theorem el0 (x : Tm) (l : List Tm) : FV.isSl 4 (.sl false 4 (FTs (x :: l))) = true ∧ ((0 : Int) ≤ 0 ∧ ((0 : Int) < (((FTs (x :: l)).length : Nat) : Int) ∧ (rE (List.getD (FTs (x :: l)) 0 []) : List FV) = List.getD (FTs (x :: l)) 0 [])) := ⟨rfl, Int.le_refl _, by rw [lenI]; simp only [List.length_cons]; omega, z8y x⟩
theorem el1 (x y : Tm) (l : List Tm) : FV.isSl 4 (.sl false 4 (FTs (x :: y :: l))) = true ∧ ((0 : Int) ≤ 1 ∧ ((1 : Int) < (((FTs (x :: y :: l)).length : Nat) : Int) ∧ (rE (List.getD (FTs (x :: y :: l)) 1 []) : List FV) = List.getD (FTs (x :: y :: l)) 1 [])) := ⟨rfl, by omega, by rw [lenI]; simp only [List.length_cons]; omega, z8y y⟩
theorem zsr (a : List Tm) (t : Tm) (b : List Tm) (u : Tm) : List.set (FTs (a ++ t :: b)) (0 + Int.toNat (a.length : Int)) (FT4 u) = FTs (a ++ u :: b) := by
 rw [Nat.zero_add, z8m, z5o, FTs_set]
 congr 1
 simp
theorem leTB {k n : Int} {b : Bool} {s : List UInt8} {x : FV} {l : List Tm} (h : FV.Le x (.sl false 4 (FTs l))) : TV.Le (.tup [(true, [.a (.fz (.int .i64 k)), .a (.fz (.str s)), .a (.fz (.int .i64 n)), .a (.fz x)]), (false, [.a (.fz (.bool b))])]) (.tup [(true, cT (.mk k s n l)), (false, [.a (.fz (.bool b))])]) := by
 refine .tup _ _ rfl fun i p q hp hq => ?_
 match i, hp, hq with
 | 0, hp, hq =>
  simp only [List.getElem?_cons_zero, Option.some.injEq] at hp hq
  subst hp; subst hq
  refine ⟨rfl, rfl, fun j x y hx hy => ?_⟩
  match j, hx, hy with
  | 0, hx, hy => simp at hx hy; subst hx; subst hy; exact .refl _
  | 1, hx, hy => simp at hx hy; subst hx; subst hy; exact .refl _
  | 2, hx, hy => simp at hx hy; subst hx; subst hy; exact .refl _
  | 3, hx, hy => simp at hx hy; subst hx; subst hy; exact .a _ _ (.fz _ _ h)
  | j + 4, hx, _ => simp at hx
 | 1, hp, hq =>
  simp only [List.getElem?_cons_zero, List.getElem?_cons_succ, Option.some.injEq] at hp hq
  subst hp; subst hq
  exact ⟨rfl, rfl, fun j x y hx hy => by rw [hx] at hy; injection hy with hy; subst hy; exact .refl _⟩
 | i + 2, hp, _ => simp at hp
theorem not_t {b : Bool} (h : (!b) = true) : b = false := by cases b <;> simp_all
theorem zng {b : Bool} (h : (!b) = false) : b = true := by cases b <;> simp_all
end Go.AM

set_option maxRecDepth 100000
open Go Go.Proofs
namespace Go.AM
theorem z4u {f : Tm} {args : List Tm} (hf : okB f = true) (ha : okL args = true) : okB (z07 f args) = true := by
 match args, ha with
 | [], _ => exact hf
 | a :: r, ha =>
  obtain ⟨k, s, n, l⟩ := f
  rw [zdk]
  split
  · rename_i h
    have hk : k = 6 := by simpa using h.1
    obtain ⟨x, y, r', rfl, h6, hl⟩ := okB6 hf hk
    have hall : okL ((x :: y :: r') ++ a :: r) = true := zra fun t ht => by
     rcases List.mem_append.1 ht with ht | ht
     · exact z4s hl ht
     · exact z4s ha ht
    have h6' : (x.k != 6) = true := by simpa using h6
    rw [okB, hall]
    simp [hd, h6]
  · rename_i h
    have h6 : k ≠ 6 := fun e => h ⟨by simpa using e, ok_ne hf e⟩
    have hall : okL (.mk k s n l :: a :: r) = true := by simp only [okL, Bool.and_eq_true] at ha ⊢; exact ⟨hf, ha⟩
    rw [okB, hall]
    simp [hd, Tm.k, h6]
theorem withF_ok {k n : Int} {s : List UInt8} {l o : List Tm} (h : okB (.mk k s n l) = true) (hk : k = 5 ∨ k = 6) (ho : okL o = true) (hlen : o.length = l.length) : okB (z2w (.mk k s n l) o) = true := by
 obtain ⟨rfl, rfl⟩ := okB_sn h hk
 unfold z2w
 split
 · rename_i hc
   match o, ho, hc with
   | [], _, hc => simp at hc
   | x :: r, ho, hc =>
    simp only [okL, Bool.and_eq_true] at ho
    exact z4u ho.1 ho.2
 · rename_i hc
   show okB (.mk k [] 0 o) = true
   rcases hk with rfl | rfl
   · obtain ⟨x, rfl, _⟩ := okB5 h rfl
     rw [okB, ho]; simp only [List.length_cons, List.length_nil] at hlen; simp [hlen]
   · obtain ⟨x, y, r, rfl, h6, _⟩ := okB6 h rfl
     have h1 : ¬ (hd o).k = 6 := fun e => hc ⟨rfl, by rw [hlen]; simp, by simpa [hd] using e, show (x.k != 6) = true by simpa using h6⟩
     rw [okB, ho]; simp only [List.length_cons] at hlen; simp [hlen, h1]
mutual
theorem zea (lf : Tm → Int → Tm) (h : ∀ u d, okB u = true → u.k ≠ 5 → u.k ≠ 6 → okB (lf u d) = true) : ∀ (t : Tm) (d : Int), okB t = true → okB (z0k lf t d) = true
 | .mk k s n l, d, ho => by
  rw [z0k]
  split
  · rename_i hk
    exact withF_ok ho (by simpa using hk) (zm3 lf h l _ (zep ho)) (z9t ..)
  · rename_i hk
    exact h _ _ ho (fun e => hk (by simp [show k = 5 from e])) (fun e => hk (by simp [show k = 6 from e]))
theorem zm3 (lf : Tm → Int → Tm) (h : ∀ u d, okB u = true → u.k ≠ 5 → u.k ≠ 6 → okB (lf u d) = true) : ∀ (l : List Tm) (d : Int), okL l = true → okL (z0f lf l d) = true
 | [], _, _ => rfl
 | t :: l, d, ho => by
  simp only [okL, Bool.and_eq_true] at ho
  simp only [z0f, okL, zea lf h t d ho.1, zm3 lf h l d ho.2, Bool.and_self]
end
theorem zlg {k n m : Int} {s : List UInt8} {l : List Tm} (h : okB (.mk k s n l) = true) (h5 : k ≠ 5) (h6 : k ≠ 6) : okB (.mk k s m l) = true := by
 have : l = [] := okB0 h h5 h6
 subst this
 simp [okB, h5, h6, okL]
theorem zpb {fr by_ : Int} {t : Tm} (d : Int) (h : okB t = true) : okB (shT fr by_ t d) = true := by
 refine zea _ (fun u d hu h5 h6 => ?_) t d h
 unfold z3p
 split
 · obtain ⟨k, s, n, l⟩ := u; exact zlg hu h5 h6
 · exact hu
theorem suT_ok {i : Int} {s t : Tm} (d : Int) (hs : okB s = true) (h : okB t = true) : okB (suT i s t d) = true := by
 refine zea _ (fun u d hu h5 h6 => ?_) t d h
 unfold z2k
 split
 · split
   · exact hu
   · split
     · exact zpb _ hs
     · obtain ⟨k, s, n, l⟩ := u; exact zlg hu h5 h6
 · exact hu
mutual
theorem zo4 (i : Int) (s : Tm) : ∀ (t : Tm) (d : Int), (suT i s t d).sz ≤ t.sz + occF t (d + i) * s.sz
 | .mk k s' n l, d => by
  rw [suT, z0k]
  split
  · rename_i hk
    have h1 := zlp i s l (d + if (k == 5) = true then 1 else 0)
    have h2 := zlj (.mk k s' n l) (z0f (z2k i s) l (d + if (k == 5) = true then 1 else 0))
    have h3 : occF (.mk k s' n l) (d + i) = occL l (d + (if (k == 5) = true then 1 else 0) + i) := by
     rw [occF, if_neg (by rintro ⟨e, _⟩; have : k = 3 := by simpa using e
                          subst this; simp at hk)]
     congr 1; omega
    rw [h3]
    simp only [Tm.sz]; omega
  · unfold z2k
    rw [occF]
    split
    · rename_i h3
      split
      · omega
      · split
        · rename_i h4
          have h5 := zd4 0 d s 0
          rw [if_pos ⟨h3, h4⟩]; omega
        · simp only [Tm.sz, Tm.l]; omega
    · omega
theorem zlp (i : Int) (s : Tm) : ∀ (l : List Tm) (d : Int), Tm.szs (z0f (z2k i s) l d) ≤ Tm.szs l + occL l (d + i) * s.sz
 | [], _ => by simp [z0f, Tm.szs]
 | t :: l, d => by
  have h1 := zo4 i s t d
  have h2 := zlp i s l d
  have h1 : (z0k (z2k i s) t d).sz ≤ t.sz + occF t (d + i) * s.sz := h1
  simp only [z0f, Tm.szs, occL, Nat.add_mul]; omega
end
theorem zhb {k n : Int} {s : List UInt8} {l : List Tm} (h : z52 (.mk k s n l) = false) : z3z (.mk k s n l) = (if (z4t l).2 = 0 then (.mk k s n l, 0) else if (z4t l).2 = 1 then (.mk k [] 0 (z4t l).1, 1) else (noT, 2)) := by rw [z3z, if_neg (by rw [h]; simp)]
mutual
theorem zc (M : Int) (hM : 0 ≤ M) : ∀ t : Tm, okB t = true → t.sz ≤ SZ → bd M t → (z3z t).2 = 1 → okB (z3z t).1 = true ∧ (z3z t).1.sz ≤ t.sz + 42000 ∧ bd (M + SZ) (z3z t).1
 | .mk k s n l, ho, hs, hb, h1 => by
  by_cases q : z52 (.mk k s n l) = true
  · obtain ⟨s', n', s1, n1, body, arg, rest, e, ob, oa, orr⟩ := zaz ho q
    injection e with e1 e2 e3 e4
    subst e1; subst e2; subst e3; subst e4
    have hF : z3z (.mk 6 s n (.mk 5 s1 n1 [body] :: arg :: rest)) = if z50 body arg = true then (z07 (suT 0 arg body 0) rest, 1) else (noT, 2) := by rw [z3z, if_pos q]; rfl
    rw [hF] at h1 ⊢
    by_cases hr : z50 body arg = true
    · simp only [Tm.sz, Tm.szs] at hs
      have h2 := (zj2 ob oa hr (by omega)).2
      have h3 := zo4 0 arg body 0
      have h4 := z2g (suT 0 arg body 0) rest
      rw [Int.zero_add] at h3
      rw [if_pos hr]
      refine ⟨z4u (suT_ok 0 oa ob) orr, by simp only [Tm.sz, Tm.szs]; omega, z2h ?_ ?_⟩
      · exact suT_bd (M := M + SZ) (M' := M) (D := SZ) arg body 0 (z60 (by omega) _ hb.2.1.2.1) hb.2.2.1 (Int.le_refl _) (Int.le_refl _) (by omega) (Int.le_refl _) (by omega)
      · exact z74 fun u hu => z60 (by omega) _ (z2y hb.2.2.2 hu)
    · rw [if_neg hr] at h1; cases h1
  · have q : z52 (.mk k s n l) = false := by simpa using q
    have hl := zep ho
    rw [zhb q] at h1 ⊢
    split at h1
    · cases h1
    split at h1
    · rename_i h0 h2
      rw [if_neg h0, if_pos h2]
      simp only [Tm.sz] at hs
      obtain ⟨g1, g2, g3, g4, g5⟩ := zg3 M hM l hl (by omega) hb.2 h2
      have hk : k = 5 ∨ k = 6 := by
       by_cases k5 : k = 5
       · exact .inl k5
       · by_cases k6 : k = 6
         · exact .inr k6
         · have : l = [] := okB0 ho k5 k6
           subst this
           exact absurd rfl h0
      refine ⟨?_, by simp only [Tm.sz]; omega, ⟨fun e => by omega, g4⟩⟩
      rcases hk with rfl | rfl
      · obtain ⟨x, rfl, _⟩ := okB5 ho rfl
        rw [okB, g1]; simp only [List.length_cons, List.length_nil] at g2; simp [g2]
      · obtain ⟨x, y, r, rfl, h6, _⟩ := okB6 ho rfl
        have hx := stepF_hd ho q rfl
        rw [okB, g1]; simp only [List.length_cons] at g2
        have : (hd (z4t (x :: y :: r)).1).k ≠ 6 := by rw [z4t, if_pos (by rw [hx])]; exact h6
        simp [g2, this]
    · cases h1
theorem zg3 (M : Int) (hM : 0 ≤ M) : ∀ l : List Tm, okL l = true → Tm.szs l ≤ SZ → bds M l → (z4t l).2 = 1 → okL (z4t l).1 = true ∧ (z4t l).1.length = l.length ∧ Tm.szs (z4t l).1 ≤ Tm.szs l + 42000 ∧ bds (M + SZ) (z4t l).1 ∧ True
 | [], _, _, _, h => by cases h
 | t :: l, ho, hs, hb, h => by
  simp only [okL, Bool.and_eq_true] at ho
  simp only [Tm.szs] at hs
  rw [z4t] at h ⊢
  split at h
  · rename_i h0
    rw [if_pos h0]
    obtain ⟨g1, g2, g3, g4, _⟩ := zg3 M hM l ho.2 (by omega) hb.2 h
    exact ⟨by simp only [okL, ho.1, g1, Bool.and_self], by simp [g2], by simp only [Tm.szs]; omega, ⟨z60 (by omega) _ hb.1, g4⟩, trivial⟩
  · rename_i h0
    rw [if_neg h0]
    obtain ⟨g1, g2, g3⟩ := zc M hM t ho.1 (by omega) hb.1 h
    exact ⟨by simp only [okL, ho.2, g1, Bool.and_self], rfl, by simp only [Tm.szs]; omega, ⟨g3, z74 fun u hu => z60 (by omega) _ (z2y hb.2 hu)⟩, trivial⟩
end
def Fit (F : Nat) (t : Tm) : Prop := okB t = true ∧ t.sz + 42000 * F ≤ SZ ∧ bd (M61 - SZ - SZ * F) t ∧ F ≤ 5000
theorem Fit.next {F : Nat} {t : Tm} (h : Fit (F + 1) t) (h1 : (z3z t).2 = 1) : Fit F (z3z t).1 := by
 obtain ⟨g1, g2, g3, g4⟩ := h
 have := zc (M61 - SZ - SZ * ((F + 1 : Nat) : Int)) (by simp only [M61, SZ]; omega) t g1 (by omega) g3 h1
 refine ⟨this.1, by have := this.2.1; omega, z60 ?_ _ this.2.2, by omega⟩
 simp only [SZ]; omega
theorem Fit.mono {F G : Nat} {t : Tm} (h : Fit F t) (hg : G ≤ F) : Fit G t := ⟨h.1, by have := h.2.1; have := Nat.mul_le_mul_left 42000 hg; omega, z60 (by simp only [SZ]; omega) _ h.2.2.1, by have := h.2.2.2; omega⟩
theorem Fit.kid {F : Nat} {t u : Tm} (h : Fit F t) (hu : u ∈ t.l) : Fit F u := by
 have h1 := Tm.szs_mem hu
 have h2 := t.sz_eq
 refine ⟨z4s (zep h.1) hu, by have := h.2.1; omega, ?_, h.2.2.2⟩
 obtain ⟨k, s, n, l⟩ := t
 exact z2y h.2.2.1.2 hu
theorem Fit.sz {F : Nat} {t : Tm} (h : Fit F t) : t.sz ≤ SZ := by have := h.2.1; omega
theorem Fit.bd {F : Nat} {t : Tm} (h : Fit F t) : bd M61 t := z60 (by simp only [SZ]; omega) _ h.2.2.1
theorem Fit.ok {F : Nat} {t : Tm} (h : Fit F t) : okB t = true := h.1
theorem zlz (s s1 : List UInt8) (n n1 : Int) (body arg : Tm) (rest : List Tm) : z52 (.mk 6 s n (.mk 5 s1 n1 [body] :: arg :: rest)) = true := rfl
end Go.AM

set_option maxRecDepth 100000
open Go Go.Proofs

set_option maxRecDepth 100000
open Go Go.Proofs
namespace Go.AM
mutual
theorem zs6 : ∀ (t : Tm) (m : Int), 0 ≤ z9a t m → (t.sz : Int) ≤ m - z9a t m
 | .mk _ s _ l, m, h => by
  simp only [z9a] at h ⊢
  have := zlk l (m - 1) h
  simp only [Tm.sz]; omega
theorem zlk : ∀ (l : List Tm) (m : Int), 0 ≤ z99 l m → (Tm.szs l : Int) ≤ m - z99 l m
 | [], m, h => by simp [z99, Tm.szs]
 | t :: l, m, h => by
  simp only [z99] at h ⊢
  split at h
  · rename_i h0
    rw [if_pos h0]
    have h1 := zlk l _ h
    have h3 := (ze2 l (z9a t m)).1
    have h2 := zs6 t m (by omega)
    simp only [Tm.szs]; omega
  · rename_i h0; exact absurd h h0
end
theorem large_sz {t : Tm} {m : Int} (h : zbn t m = false) : (t.sz : Int) ≤ m := by
 have h := of_decide_eq_false h
 have := zs6 t m (by omega)
 omega
theorem zho {a : List FV} {x : Tm} (ha : LeR a (FT x)) : TV.Le (.c (.a (.fz (.sl false 4 [a])))) (aL [x]) := le_c (zpk rfl fun i r t hr ht => by
 match i, hr, ht with
 | 0, hr, ht => simp only [List.getElem?_cons_zero, Option.some.injEq] at hr ht; subst hr; subst ht; exact ha
 | i + 1, hr, _ => simp at hr)
def fitD (F : Nat) (t : Tm) : Bool := okB t && decide (t.sz ≤ 60) && near 1099511627776 t && decide (F ≤ 3000)
theorem fit_of {F : Nat} {t : Tm} (h : fitD F t = true) : Fit F t := by
 simp only [fitD, Bool.and_eq_true, decide_eq_true_eq] at h
 exact ⟨h.1.1.1, by simp only [SZ]; omega, z60 (by simp only [M61, SZ]; omega) _ (zfi t h.1.2), by omega⟩
end Go.AM

set_option maxRecDepth 100000
open Go Go.Proofs
namespace Go.AM
mutual
def lvB : Tm → Bool
 | .mk k s n l => if (k == 5 || k == 6) = true then lvL l else z02 (.mk k s n l)
def lvL : List Tm → Bool
 | [] => true
 | t :: l => lvB t && lvL l
end
theorem z7k : ∀ {l : List Tm} {t : Tm}, lvL l = true → t ∈ l → lvB t = true
 | x :: l, t, h, hm => by
  simp only [lvL, Bool.and_eq_true] at h
  rcases List.mem_cons.1 hm with rfl | hm
  · exact h.1
  · exact z7k h.2 hm
theorem zlc : ∀ {l : List Tm}, (∀ t ∈ l, lvB t = true) → lvL l = true
 | [], _ => rfl
 | t :: l, h => by simp only [lvL, h t List.mem_cons_self, zlc (l := l) fun u hu => h u (List.mem_cons_of_mem _ hu), Bool.and_self]
theorem z30 {k n : Int} {s : List UInt8} {l : List Tm} (hk : k = 5 ∨ k = 6) : lvB (.mk k s n l) = lvL l := by
 rw [lvB, if_pos (by rcases hk with rfl | rfl <;> rfl)]
theorem z7n {k n : Int} {s : List UInt8} {l : List Tm} (h5 : k ≠ 5) (h6 : k ≠ 6) : lvB (.mk k s n l) = z02 (.mk k s n l) := by
 rw [lvB, if_neg (by simp [h5, h6])]
theorem valid5 {s : List UInt8} {n : Int} {l : List Tm} : z02 (.mk 5 s n l) = (n == 0 && s == [] && decide (l.length = 1) && z34 l) := by
 rw [z02, lenI]
 simp only [show ((5 : Int) == 0) = false from rfl, show ((5 : Int) == 1) = false from rfl, show ((5 : Int) == 2) = false from rfl, show ((5 : Int) == 3) = false from rfl, show ((5 : Int) == 4) = false from rfl, Bool.false_eq_true, if_false, show ((5 : Int) == 5) = true from rfl, if_true]
 congr 2
 by_cases h : l.length = 1
 · rw [h]; rfl
 · rw [decide_eq_false h]; simp; omega
theorem valid6 {s : List UInt8} {n : Int} {l : List Tm} : z02 (.mk 6 s n l) = (n == 0 && decide (2 ≤ l.length) && ((hd l).k != 6) && s == [] && z34 l) := by
 rw [z02, lenI]
 simp only [show ((6 : Int) == 0) = false from rfl, show ((6 : Int) == 1) = false from rfl, show ((6 : Int) == 2) = false from rfl, show ((6 : Int) == 3) = false from rfl, show ((6 : Int) == 4) = false from rfl, show ((6 : Int) == 5) = false from rfl, Bool.false_eq_true, if_false, show ((6 : Int) == 6) = true from rfl, if_true]
 congr 4
 by_cases h : 2 ≤ l.length
 · rw [decide_eq_true h, decide_eq_true (by omega)]
 · rw [decide_eq_false h, decide_eq_false (by omega)]
mutual
theorem z31 : ∀ t : Tm, z02 t = (okB t && lvB t)
 | .mk k s n l => by
  by_cases h5 : k = 5
  · subst h5
    rw [valid5, z30 (.inl rfl), z8x l, okB]
    cases okL l <;> cases lvL l <;> simp [Bool.and_comm, Bool.and_assoc, Bool.and_left_comm]
  · by_cases h6 : k = 6
    · subst h6
      rw [valid6, z30 (.inr rfl), z8x l, okB]
      cases okL l <;> cases lvL l <;> simp [Bool.and_comm, Bool.and_assoc, Bool.and_left_comm]
    · rw [z7n h5 h6]
      cases hv : z02 (.mk k s n l) with
      | false => simp
      | true => rw [z08 _ hv]; rfl
theorem z8x : ∀ l : List Tm, z34 l = (okL l && lvL l)
 | [] => rfl
 | t :: l => by
  rw [z34, okL, lvL, z31 t, z8x l]
  cases okB t <;> cases lvB t <;> simp
end
theorem z3y {t : Tm} (h : z02 t = true) : lvB t = true := by rw [z31] at h; simp at h; exact h.2
theorem z4w {f : Tm} {args : List Tm} (hf : lvB f = true) (ha : lvL args = true) : lvB (z07 f args) = true := by
 match args, ha with
 | [], _ => exact hf
 | a :: r, ha =>
  obtain ⟨k, s, n, l⟩ := f
  rw [zdk]
  split
  · rename_i h
    have hk : k = 6 := by simpa using h.1
    rw [z30 (.inr hk)] at hf
    rw [z30 (.inr rfl)]
    exact zlc fun t ht => by
     rcases List.mem_append.1 ht with ht | ht
     · exact z7k hf ht
     · exact z7k ha ht
  · rw [z30 (.inr rfl)]
    simp only [lvL, Bool.and_eq_true] at ha ⊢
    exact ⟨hf, ha⟩
theorem withF_lv {t : Tm} {o : List Tm} (hk : t.k = 5 ∨ t.k = 6) (ho : lvL o = true) : lvB (z2w t o) = true := by
 obtain ⟨k, s, n, l⟩ := t
 unfold z2w
 split
 · rename_i hc
   match o, ho, hc with
   | [], _, hc => exact absurd hc.2.1 (by simp)
   | x :: r, ho, hc =>
    simp only [lvL, Bool.and_eq_true] at ho
    exact z4w ho.1 ho.2
 · exact (z30 hk).trans ho
mutual
theorem zaw (lf : Tm → Int → Tm) (Q : Tm → Int → Prop) (hq : ∀ k s n l d, Q (.mk k s n l) d → ∀ u ∈ l, Q u (d + if (k == 5) = true then 1 else 0)) (h : ∀ u d, lvB u = true → Q u d → u.k ≠ 5 → u.k ≠ 6 → lvB (lf u d) = true) : ∀ (t : Tm) (d : Int), lvB t = true → Q t d → lvB (z0k lf t d) = true
 | .mk k s n l, d, ho, hQ => by
  rw [z0k]
  split
  · rename_i hk
    have hk : k = 5 ∨ k = 6 := by simpa using hk
    rw [z30 hk] at ho
    exact withF_lv hk (zm lf Q hq h l _ ho (hq k s n l d hQ))
  · rename_i hk
    exact h _ _ ho hQ (fun e => hk (by simp [show k = 5 from e])) (fun e => hk (by simp [show k = 6 from e]))
theorem zm (lf : Tm → Int → Tm) (Q : Tm → Int → Prop) (hq : ∀ k s n l d, Q (.mk k s n l) d → ∀ u ∈ l, Q u (d + if (k == 5) = true then 1 else 0)) (h : ∀ u d, lvB u = true → Q u d → u.k ≠ 5 → u.k ≠ 6 → lvB (lf u d) = true) : ∀ (l : List Tm) (d : Int), lvL l = true → (∀ u ∈ l, Q u d) → lvL (z0f lf l d) = true
 | [], _, _, _ => rfl
 | t :: l, d, ho, hQ => by
  simp only [lvL, Bool.and_eq_true] at ho
  simp only [z0f, lvL, zaw lf Q hq h t d ho.1 (hQ t List.mem_cons_self), zm lf Q hq h l d ho.2 (fun u hu => hQ u (List.mem_cons_of_mem _ hu)), Bool.and_self]
end
theorem zct {s : List UInt8} {n : Int} {l : List Tm} : z02 (.mk 3 s n l) = true ↔ 0 ≤ n ∧ n ≤ 4611686018427387904 ∧ s = [] ∧ l = [] := by
 rw [z02, lenI]
 simp only [show ((3 : Int) == 0) = false from rfl, show ((3 : Int) == 1) = false from rfl, show ((3 : Int) == 2) = false from rfl, Bool.false_eq_true, if_false, show ((3 : Int) == 3) = true from rfl, if_true]
 simp only [Bool.and_eq_true, decide_eq_true_eq, beq_iff_eq]
 constructor
 · rintro ⟨⟨⟨⟨h1, h2⟩, h3⟩, h4⟩, _⟩
   exact ⟨h1, h2, h3, List.eq_nil_of_length_eq_zero (by omega)⟩
 · rintro ⟨h1, h2, rfl, rfl⟩
   exact ⟨⟨⟨⟨h1, h2⟩, rfl⟩, rfl⟩, rfl⟩
theorem shT_lv {by_ M D : Int} (h0 : 0 ≤ by_) (hM : M + by_ ≤ 4611686018427387904) (t : Tm) (d : Int) (fr : Int) (hb : bd M t) (h : lvB t = true) (_ : d ≤ D) : lvB (shT fr by_ t d) = true := by
 refine zaw _ (fun u _ => bd M u) (fun k s n l d hQ u hu => z2y hQ.2 hu) (fun u d hu hQ h5 h6 => ?_) t d h hb
 unfold z3p
 split
 · rename_i hc
   obtain ⟨k, s, n, l⟩ := u
   have hk : k = 3 := by have hc := hc.1; have hc : (k == 3) = true := hc; simpa using hc
   subst hk
   rw [z7n (by decide) (by decide), zct] at hu
   have hb := hQ.1 rfl
   show lvB (.mk 3 s (n + by_) l) = true
   rw [z7n (by decide) (by decide), zct]
   exact ⟨by omega, by omega, hu.2.2.1, hu.2.2.2⟩
 · exact hu
theorem suT_lv {i M : Int} {s t : Tm} {D : Int} (hi : 0 ≤ i) (hM : M + D ≤ 4611686018427387904) (hbs : bd M s) (hs : lvB s = true) (hl : lvB t = true) (d : Int) (h0 : 0 ≤ d) (hD : d + t.sz ≤ D) : lvB (suT i s t d) = true := by
 refine zaw _ (fun u d => 0 ≤ d ∧ d + u.sz ≤ D) (fun k s n l d hQ u hu => ?_) (fun u d hu hQ h5 h6 => ?_) t d hl ⟨h0, hD⟩
 · have := Tm.szs_mem hu
   simp only [Tm.sz] at hQ
   constructor
   · have := hQ.1; split <;> omega
   · have := hQ.2; split <;> omega
 · unfold z2k
   split
   · rename_i hc
     split
     · exact hu
     · rename_i hlt
       split
       · have := hQ.2
         exact shT_lv hQ.1 (D := 0) (by omega) s 0 0 hbs hs (Int.le_refl _)
       · rename_i hne
         obtain ⟨k, s', n, l⟩ := u
         have hk : k = 3 := by have hc : (k == 3) = true := hc; simpa using hc
         subst hk
         rw [z7n (by decide) (by decide), zct] at hu
         have h1 : ¬ n < d + i := hlt
         have h2 : n ≠ d + i := fun e => hne (by rw [show Tm.n (.mk 3 s' n l) = n from rfl, e]; simp)
         show lvB (.mk 3 s' (n - 1) l) = true
         rw [z7n (by decide) (by decide), zct]
         have := hQ.1
         exact ⟨by omega, by omega, hu.2.2.1, hu.2.2.2⟩
   · exact hu
mutual
theorem zkt (M : Int) (hM : M + SZ ≤ 4611686018427387904) : ∀ t : Tm, okB t = true → t.sz ≤ SZ → bd M t → lvB t = true → (z3z t).2 = 1 → lvB (z3z t).1 = true
 | .mk k s n l, ho, hs, hb, hl, h1 => by
  by_cases q : z52 (.mk k s n l) = true
  · obtain ⟨s', n', s1, n1, body, arg, rest, e, ob, oa, orr⟩ := zaz ho q
    injection e with e1 e2 e3 e4
    subst e1; subst e2; subst e3; subst e4
    have hF : z3z (.mk 6 s n (.mk 5 s1 n1 [body] :: arg :: rest)) = if z50 body arg = true then (z07 (suT 0 arg body 0) rest, 1) else (noT, 2) := by rw [z3z, if_pos q]; rfl
    rw [hF] at h1 ⊢
    by_cases hr : z50 body arg = true
    · rw [if_pos hr]
      rw [z30 (.inr rfl)] at hl
      simp only [lvL, Bool.and_eq_true] at hl
      have hb0 : lvB body = true := by have := hl.1; rw [z30 (.inl rfl)] at this; simpa [lvL] using this
      simp only [Tm.sz, Tm.szs] at hs
      exact z4w (suT_lv (M := M) (D := SZ) (Int.le_refl _) hM hb.2.2.1 hl.2.1 hb0 0 (Int.le_refl _) (by omega)) hl.2.2
    · rw [if_neg hr] at h1; cases h1
  · have q : z52 (.mk k s n l) = false := by simpa using q
    rw [zhb q] at h1 ⊢
    split at h1
    · cases h1
    split at h1
    · rename_i h0 h2
      rw [if_neg h0, if_pos h2]
      simp only [Tm.sz] at hs
      have hk : k = 5 ∨ k = 6 := by
       by_cases k5 : k = 5
       · exact .inl k5
       · by_cases k6 : k = 6
         · exact .inr k6
         · have : l = [] := okB0 ho k5 k6
           subst this
           exact absurd rfl h0
      rw [z30 hk] at hl
      show lvB (.mk k [] 0 (z4t l).1) = true
      rw [z30 hk]
      exact zli M hM l (zep ho) (by omega) hb.2 hl h2
    · cases h1
theorem zli (M : Int) (hM : M + SZ ≤ 4611686018427387904) : ∀ l : List Tm, okL l = true → Tm.szs l ≤ SZ → bds M l → lvL l = true → (z4t l).2 = 1 → lvL (z4t l).1 = true
 | [], _, _, _, _, h => by cases h
 | t :: l, ho, hs, hb, hl, h => by
  simp only [okL, Bool.and_eq_true] at ho
  simp only [Tm.szs] at hs
  simp only [lvL, Bool.and_eq_true] at hl
  rw [z4t] at h ⊢
  split at h
  · rename_i h0
    rw [if_pos h0]
    simp only [lvL, hl.1, zli M hM l ho.2 (by omega) hb.2 hl.2 h, Bool.and_self]
  · rename_i h0
    rw [if_neg h0]
    simp only [lvL, hl.2, zkt M hM t ho.1 (by omega) hb.1 hl.1 h, Bool.and_self]
end
end Go.AM

set_option maxRecDepth 100000
open Go Go.Proofs
namespace Go.AM
theorem z1t {k n : Int} {s : List UInt8} {l : List Tm} (h : z02 (.mk k s n l) = true) (hk : k = 5 ∨ k = 6) : ∀ u ∈ l, z02 u = true := fun u hu => by
 rw [z31, Bool.and_eq_true] at h ⊢
 have h1 := zep h.1
 have h2 := h.2
 rw [z30 hk] at h2
 exact ⟨z4s h1 hu, z7k h2 hu⟩
def LeW (p q : Bool × List WV) : Prop := p.1 = q.1 ∧ All2 WV.Le p.2 q.2
theorem zfk {α β : Type} {R : α → β → Prop} : ∀ {a : List α} {b : List β}, All2 R a b → a.length = b.length ∧ ∀ (i : Nat) (x : α) (y : β), a[i]? = some x → b[i]? = some y → R x y
 | [], [], _ => ⟨rfl, fun i x y hx _ => by simp at hx⟩
 | x :: a, y :: b, h => by
  have := zfk h.2
  refine ⟨by simp [this.1], fun i u v hu hv => ?_⟩
  match i, hu, hv with
  | 0, hu, hv => simp at hu hv; subst hu; subst hv; exact h.1
  | i + 1, hu, hv => exact this.2 i u v (by simpa using hu) (by simpa using hv)
 | [], _ :: _, h => h.elim
 | _ :: _, [], h => h.elim
theorem zm1 {a b : List (Bool × List WV)} (h : All2 LeW a b) : TV.Le (.tup a) (.tup b) := by
 have := zfk h
 refine .tup _ _ this.1 fun i p q hp hq => ?_
 have h1 := this.2 i p q hp hq
 have h2 := zfk h1.2
 exact ⟨h1.1, h2.1, h2.2⟩
theorem leWn : WV.Le (.a (.fz .nils)) (.a (.fz (.sl false 4 (FTs [])))) := .a _ _ (.fz _ _ z0d)
theorem lwT {k n : Int} {s : List UInt8} {x : FV} {l : List Tm} {b : Bool} (h : FV.Le x (.sl false 4 (FTs l))) : LeW (b, [.a (.fz (.int .i64 k)), .a (.fz (.str s)), .a (.fz (.int .i64 n)), .a (.fz x)]) (b, cT (.mk k s n l)) := ⟨rfl, .refl _, .refl _, .refl _, .a _ _ (.fz _ _ h), trivial⟩
theorem lwR (p : Bool × List WV) : LeW p p := by
 obtain ⟨b, l⟩ := p
 refine ⟨rfl, ?_⟩
 show All2 WV.Le l l
 induction l with
 | nil => trivial
 | cons x l ih => exact ⟨.refl _, ih⟩
theorem z55 (l : List Inf) : (SR l).length = l.length := by simp [SR]
theorem SR_get {l : List Inf} {i : Nat} (h : i < l.length) : List.getD (SR l) i [] = Inf.c l[i] := by simp [SR, List.getD, h]
theorem zoe (a b : List Inf) : SR (a ++ b) = SR a ++ SR b := by simp [SR]
abbrev noI : Inf := ⟨0, false, noT⟩
abbrev aS (o : Nat) : TV := .c (.a (.ep o 2 0 0))
abbrev sto2 (a b : Nat) (s : Sto) : AObj := .arr 2 [[.a (.osl a 6 0 s.V.length), .a (.osl b 1 0 s.T.length)]]
abbrev oS (s : Sto) : List AObj := [sto2 1 2 s, .arz 6 (SR s.V), .arz 1 (IR s.T)]
abbrev oSf (s : Sto) (f : Int) : List AObj := [sto2 1 2 s, .arz 6 (SR s.V), .arz 1 (IR s.T), obj1 f]
def infOf (V : List Inf) (x : Int) : Inf := if 0 ≤ x ∧ x < (V.length : Int) then (V[x.toNat]?).getD noI else noI
def inB (V : List Inf) (x : Int) : Bool := decide (0 ≤ x) && decide (x < (V.length : Int))
theorem z2x {V : List Inf} {x : Int} (h0 : 0 ≤ x) (h1 : x < (V.length : Int)) : ∃ h : x.toNat < V.length, infOf V x = V[x.toNat] := by
 have h : x.toNat < V.length := by omega
 exact ⟨h, by rw [infOf, if_pos ⟨h0, h1⟩, List.getElem?_eq_getElem h]; rfl⟩
theorem z6h {V : List Inf} {x : Int} (h : ¬ (0 ≤ x ∧ x < (V.length : Int))) : infOf V x = noI := if_neg h
abbrev tI (i : Inf) (b : Bool) : TV := .tup [(true, [.a (.fz (.int .i64 i.lv)), .a (.fz (.bool i.bd)), .a (.fz (.int .i64 i.v.k)), .a (.fz (.str i.v.s)), .a (.fz (.int .i64 i.v.n)), .a (.fz (.sl false 4 (FTs i.v.l)))]), (false, [.a (.fz (.bool b))])]
theorem inf_no {c d : Bool} (h : c = d) {n : Nat} : TV.Le (.tup [(true, [.a (.fz (.int .i64 0)), .a (.fz (.bool false)), .a (.fz (.int .i64 0)), .a (.fz (.str [])), .a (.fz (.int .i64 0)), .a (.fz .nils)]), (false, [.a (.fz (.bool c))])]) (tI noI d) ∧ n = n := by
 subst h
 exact ⟨zm1 ⟨⟨rfl, .refl _, .refl _, .refl _, .refl _, .refl _, leWn, trivial⟩, lwR _, trivial⟩, rfl⟩
theorem c_snew : AC Tryz.prog 34 [] [] (aS 0) (oS ⟨[], []⟩) := by
 refine AC.vc hP sh lv34 (by simp) (by simp) (by simp [isLive]) (Eq.mpr (v34 ..) ?_)
 exact ⟨.refl _, rfl⟩
theorem z78 (s : Sto) (x : Int) : AC Tryz.prog 19 [aS 0, ci x] (oS s) (tI (infOf s.V x) (inB s.V x)) (oS s) := by
 refine AC.vc hP sh lv19 (Nat.le_refl _) (by simp [isLive]) (by simp) (Eq.mpr (v19 ..) ?_)
 refine z01 (fun h => ?_) (fun h => z01 (fun h' => ?_) (fun h' => ?_))
 · have h := of_decide_eq_true h
   rw [z6h (by omega)]
   exact ⟨(inf_no (by simp [inB]; omega) (n := 0)).1, rfl⟩
 · have h' := of_decide_eq_true h'
   rw [z6h (by omega)]
   exact ⟨(inf_no (by simp [inB]; omega) (n := 0)).1, rfl⟩
 · have h := of_decide_eq_false h
   have h' := of_decide_eq_false h'
   obtain ⟨hl, e⟩ := z2x (V := s.V) (x := x) (by omega) (by omega)
   rw [e, show List.getD (SR s.V) (0 + Int.toNat x) [] = Inf.c s.V[x.toNat] by rw [Nat.zero_add, SR_get hl], show inB s.V x = true by simp [inB]; omega]
   refine ⟨⟨by omega, by omega⟩, ⟨by rw [z55]; omega, rfl, rfl⟩, .refl _, rfl⟩
def valS (s : Sto) (t : Tm) : Tm := (infOf s.V t.n).v
def valB (s : Sto) (t : Tm) : Bool := t.k == 4 && (infOf s.V t.n).bd
theorem zkl (s : Sto) (t : Tm) : AC Tryz.prog 146 [aS 0, aT t] (oS s) (.tup [(true, cT (valS s t)), (false, [.a (.fz (.bool (valB s t)))])]) (oS s) := by
 have hi := z78 s t.n
 obtain ⟨k, str, n, l⟩ := t
 refine AC.vc hP sh lv146 (Nat.le_refl _) (by simp [isLive]) (by simp) (Eq.mpr (v146 k str n (FTs l) ..) ?_)
 have out : inB s.V n = false → (infOf s.V n).bd = false := fun h => by
  rw [z6h (by simp [inB] at h; omega)]
 refine ⟨(_, _, _, _), hi, z01 (fun h => z01 (fun h' => ?_) (fun h' => ?_)) (fun h => ?_)⟩
 · refine ⟨?_, rfl⟩
   show TV.Le _ (.tup [(true, cT (infOf s.V n).v), (false, [.a (.fz (.bool (k == 4 && (infOf s.V n).bd)))])])
   rw [show (k == 4) = true from h]; exact .refl _
 · refine ⟨?_, rfl⟩
   show TV.Le _ (.tup [(true, cT (infOf s.V n).v), (false, [.a (.fz (.bool (k == 4 && (infOf s.V n).bd)))])])
   rw [out h', Bool.and_false]; exact .refl _
 · refine ⟨?_, rfl⟩
   show TV.Le _ (.tup [(true, cT (infOf s.V n).v), (false, [.a (.fz (.bool (k == 4 && (infOf s.V n).bd)))])])
   rw [show (k == 4) = false from h]; exact .refl _
def OKV (v : Tm) : Prop := z02 v = true ∧ v.sz ≤ 40000 ∧ bd 2199023255552 v
def OKS (s : Sto) : Prop := ∀ i ∈ s.V, i.bd = true → OKV i.v
theorem OKS.val {s : Sto} (h : OKS s) {t : Tm} (hb : valB s t = true) : OKV (valS s t) := by
 simp only [valB, Bool.and_eq_true] at hb
 by_cases q : 0 ≤ t.n ∧ t.n < (s.V.length : Int)
 · obtain ⟨hl, e⟩ := z2x q.1 q.2
   rw [valS, e]
   rw [e] at hb
   exact h _ (List.getElem_mem hl) hb.2
 · rw [z6h q] at hb; simp [noI] at hb
def z0h (s : Sto) (t : Tm) : Tm × Int :=
 if valB s t = true then (valS s t, 1) else if t.k ≠ 6 then (t, 0)
 else if valB s (hd t.l) = true then (z07 (valS s (hd t.l)) (t.l.drop 1), 1) else if (hd t.l).k ≠ 5 then (t, 0)
 else (z07 (conF (hd (hd t.l).l) (hd (t.l.drop 1))) (t.l.drop 2), if z50 (hd (hd t.l).l) (hd (t.l.drop 1)) = true then 1 else 2)
theorem zf4 (s : Sto) (t : Tm) : (z0h s t).2 = 0 ∨ (z0h s t).2 = 1 ∨ (z0h s t).2 = 2 := by
 unfold z0h
 split
 · exact .inr (.inl rfl)
 · split
   · exact .inl rfl
   · split
     · exact .inr (.inl rfl)
     · split
       · exact .inl rfl
       · simp only; split
         · exact .inr (.inl rfl)
         · exact .inr (.inr rfl)
theorem zei (t : List (List FV)) : List.take (Int.toNat ((t.length : Nat) : Int)) t = t := by rw [Int.toNat_natCast, List.take_of_length_le (Nat.le_refl _)]
theorem aE0 (x : Tm) (l : List Tm) : aE (List.getD (FTs (x :: l)) 0 []) = aT x := zco x
theorem aE1 (x y : Tm) (l : List Tm) : aE (List.getD (FTs (x :: y :: l)) 1 []) = aT y := zco y
theorem asI0 (x : Tm) (l : List Tm) : FV.asI (List.getD (List.getD (FTs (x :: l)) 0 []) 0 FV.nils) = x.k := by cases x; rfl
theorem zrj (s : Sto) (hs : OKS s) (t : Tm) (hv : z02 t = true) (hz : t.sz ≤ SZ) (hb : bd M61 t) : AC Tryz.prog 129 [aS 0, aT t] (oS s) (aSt (z0h s t).1 (z0h s t).2) (oS s) := by
 have h1 := zkl s t
 have ok := z08 t hv
 obtain ⟨k, str, n, l⟩ := t
 refine AC.vc hP sh lv129 (Nat.le_refl _) (by simp [isLive]) (by simp) (Eq.mpr (v129 k str n (FTs l) ..) ?_)
 refine ⟨(_, _), h1, z01 (fun h => ?_) (fun h => z01 (fun h6 => ?_) (fun h6 => ?_))⟩
 · have h : valB s (.mk k str n l) = true := h
   rw [z0h, if_pos h]; exact ⟨.refl _, rfl⟩
 · have h : valB s (.mk k str n l) = false := h
   have h6 : k ≠ 6 := by simpa using h6
   rw [z0h, if_neg (by rw [h]; simp), if_pos (show Tm.k (.mk k str n l) ≠ 6 from h6)]; exact ⟨.refl _, rfl⟩
 have h : valB s (.mk k str n l) = false := h
 have h6 : k = 6 := by simpa using h6
 obtain ⟨x, y, r, rfl, hx6, hl⟩ := okB6 ok h6
 simp only [okL, Bool.and_eq_true] at hl
 subst h6
 simp only [Tm.sz, Tm.szs, SZ] at hz
 have szr := Tm.szs_length r
 have bx := hb.2.1
 have by_ := hb.2.2.1
 have h2 := zkl s x
 have e1 : List.drop 1 (List.take (Int.toNat (((FTs (x :: y :: r)).length : Nat) : Int)) (FTs (x :: y :: r))) = FTs (y :: r) := by rw [zei]; rfl
 have e2 : List.drop 2 (List.take (Int.toNat (((FTs (x :: y :: r)).length : Nat) : Int)) (FTs (x :: y :: r))) = FTs r := by rw [zei]; rfl
 rw [e1, e2, aE0, aE1, asI0]
 have len : ∀ n : Nat, n ≤ 2 → ((n : Nat) : Int) ≤ (((FTs (x :: y :: r)).length : Nat) : Int) := fun n hn => by rw [z00]; simp only [List.length_cons]; omega
 have hS : z0h s (.mk 6 str n (x :: y :: r)) = if valB s x = true then (z07 (valS s x) (y :: r), 1) else if x.k ≠ 5 then (.mk 6 str n (x :: y :: r), 0) else (z07 (conF (hd x.l) y) r, if z50 (hd x.l) y = true then 1 else 2) := by
  rw [z0h, if_neg (by rw [h]; simp), if_neg (show ¬ Tm.k (.mk 6 str n (x :: y :: r)) ≠ 6 from fun e => e rfl)]; rfl
 refine ⟨el0 x (y :: r), (_, _), h2, z01 (fun h3 => ⟨rfl, ⟨by omega, len 1 (by omega), Int.le_refl _⟩, _, z3c (valS s x) (y :: r) ?_, ?_⟩) (fun h3 => ⟨el0 x (y :: r), z01 (fun h5 => ?_) (fun h5 => ?_)⟩)⟩
 · have h3 : valB s x = true := h3
   have hv := (hs.val h3).2.1
   have := Tm.szs_length (valS s x).l
   have := (valS s x).sz_eq
   simp only [List.length_cons]; omega
 · have h3 : valB s x = true := h3
   rw [hS, if_pos h3]; exact ⟨.refl _, rfl⟩
 · have h3 : valB s x = false := h3
   have h5 : x.k ≠ 5 := by simpa using h5
   rw [hS, if_neg (by rw [h3]; simp), if_pos h5]; exact ⟨.refl _, rfl⟩
 · have h3 : valB s x = false := h3
   have h5 : x.k = 5 := by simpa using h5
   rw [hS, if_neg (by rw [h3]; simp), if_neg (by rw [h5]; simp)]
   have hvl := z1t hv (.inr rfl)
   have vx := hvl x List.mem_cons_self
   have vy := hvl y (List.mem_cons_of_mem _ List.mem_cons_self)
   obtain ⟨xk, xs, xn, xl⟩ := x
   have h5 : xk = 5 := h5
   subst h5
   obtain ⟨b, rfl, ob⟩ := okB5 hl.1 rfl
   have vb := z1t vx (.inl rfl) b List.mem_cons_self
   simp only [Tm.sz, Tm.szs] at hz
   have hc := zj b y (by simp only [SZ]; omega) (by simp only [SZ]; omega) bx.2.1 by_
   rw [if_pos (by rw [vb, vy]; rfl)] at hc
   rw [show aE (List.getD (FV.ses (List.getD (List.getD (FTs (.mk 5 xs xn [b] :: y :: r)) 0 []) 3 FV.nils)) 0 []) = aT b from zco b]
   refine ⟨el0 _ _, el0 b [], el1 _ _ _, (_, _), hc, rfl, ⟨by omega, len 2 (by omega), Int.le_refl _⟩, _, z3c (conF b y) r ?_, ?_⟩
   · unfold conF
     split
     · rename_i hr
       have h5 := (zj2 ob hl.2.1 hr (by simp only [SZ]; omega)).1
       have hz := suT_sz 0 y b 0
       have h6 := Tm.szs_length (suT 0 y b 0).l
       have h7 := (suT 0 y b 0).sz_eq
       simp only [B] at h5
       omega
     · simp only [Tm.l, List.length_nil]; omega
   · refine ⟨?_, rfl⟩
     show TV.Le (.tup [(true, cT (z07 (conF b y) r)), (false, [.a (.fz (.bool true))]), (false, [.a (.fz (.int .i64 (conE b y)))])]) (aSt (z07 (conF b y) r) (if z50 b y = true then 1 else 2))
     unfold conE
     by_cases q : z50 b y = true
     · rw [if_pos q, if_pos q]; exact .refl _
     · rw [if_neg q, if_neg q]; exact .refl _
end Go.AM

set_option maxRecDepth 100000
open Go Go.Proofs
namespace Go.AM
theorem z84 {F : Nat} {s : Sto} {t : Tm} (hs : OKS s) (hv : z02 t = true) (hf : Fit (F + 1) t) (h : (z0h s t).2 = 1) : z02 (z0h s t).1 = true ∧ Fit F (z0h s t).1 := by
 have hM : (2199023255552 : Int) ≤ M61 - SZ - SZ * F := by have := hf.2.2.2; simp only [M61, SZ]; omega
 have hval : ∀ u, valB s u = true → z02 (valS s u) = true ∧ okB (valS s u) = true ∧ lvB (valS s u) = true ∧ (valS s u).sz ≤ 40000 ∧ bd (M61 - SZ - SZ * F) (valS s u) := fun u hu => by
  have := hs.val hu
  exact ⟨this.1, z08 _ this.1, z3y this.1, this.2.1, z60 hM _ this.2.2⟩
 have hF := hf.2.1
 have hF4 := hf.2.2.2
 unfold z0h at h ⊢
 split
 · rename_i q
   obtain ⟨v1, v2, v3, v4, v5⟩ := hval _ q
   exact ⟨v1, v2, by simp only; omega, v5, by omega⟩
 rename_i q
 rw [if_neg q] at h
 split
 · rename_i q2; rw [if_pos q2] at h; simp at h
 rename_i q2
 rw [if_neg q2] at h
 have ok := z08 t hv
 obtain ⟨k, str, n, l⟩ := t
 have h6 : k = 6 := by
  by_cases e : k = 6
  · exact e
  · exact absurd e q2
 obtain ⟨x, y, r, rfl, hx6, hl⟩ := okB6 ok h6
 subst h6
 simp only [okL, Bool.and_eq_true] at hl
 have kv := z1t hv (.inr rfl)
 have hb := z60 (M' := M61 - SZ - SZ * F) (by simp only [SZ]; omega) _ hf.2.2.1
 simp only [Tm.sz, Tm.szs] at hF
 have lvr : lvL r = true := zlc fun u hu => z3y (kv u (List.mem_cons_of_mem _ (List.mem_cons_of_mem _ hu)))
 have ey : Tm.l (.mk 6 str n (x :: y :: r)) = x :: y :: r := rfl
 have eh : hd (x :: y :: r) = x := rfl
 have e1 : List.drop 1 (x :: y :: r) = y :: r := rfl
 have e2 : List.drop 2 (x :: y :: r) = r := rfl
 have ehy : hd (y :: r) = y := rfl
 simp only [ey, eh, e1, e2, ehy] at h ⊢
 split
 · rename_i q3
   obtain ⟨v1, v2, v3, v4, v5⟩ := hval _ q3
   have ok2 : okB (z07 (valS s x) (y :: r)) = true := z4u v2 (by simp only [okL, hl.2.1, hl.2.2, Bool.and_self])
   have lv2 : lvB (z07 (valS s x) (y :: r)) = true := z4w v3 (by simp only [lvL, lvr, z3y (kv y (List.mem_cons_of_mem _ List.mem_cons_self)), Bool.and_self])
   have z := z2g (valS s x) (y :: r)
   simp only [Tm.szs] at z
   refine ⟨by rw [z31, ok2, lv2]; rfl, ok2, by simp only; omega, z2h v5 (show bds _ (y :: r) from ⟨hb.2.2.1, hb.2.2.2⟩), by omega⟩
 rename_i q3
 rw [if_neg q3] at h
 split
 · rename_i q4; rw [if_pos q4] at h; simp at h
 rename_i q4
 rw [if_neg q4] at h
 obtain ⟨xk, xs, xn, xl⟩ := x
 have h5 : xk = 5 := by
  by_cases e : xk = 5
  · exact e
  · exact absurd e q4
 subst h5
 obtain ⟨b, rfl, ob⟩ := okB5 hl.1 rfl
 have room : z50 b y = true := by
  by_cases e : z50 b y = true
  · exact e
  · exfalso
    have h : (if z50 b y = true then (1 : Int) else 2) = 1 := h
    rw [if_neg e] at h; cases h
 have hst : z3z (.mk 6 str n (.mk 5 xs xn [b] :: y :: r)) = (z07 (suT 0 y b 0) r, 1) := by
  rw [z3z, if_pos (zlz str xs n xn b y r)]; exact if_pos room
 have e3 : conF (hd (Tm.l (.mk 5 xs xn [b]))) y = suT 0 y b 0 := by show conF b y = _; rw [conF, if_pos room]
 rw [e3]
 have hn := hf.next (by rw [hst])
 have hlv := zkt (M61 - SZ - SZ * ((F + 1 : Nat) : Int)) (by simp only [M61, SZ]; omega) _ ok hf.sz hf.2.2.1 (z3y hv) (by rw [hst])
 rw [hst] at hn hlv
 exact ⟨by rw [z31, hn.1, hlv]; rfl, hn⟩
def runH (s : Sto) : Nat → Tm → Tm × Int × Nat
 | 0, t => if (z0h s t).2 = 0 then (t, 0, 0) else (noT, 80, 0)
 | F + 1, t => if (z0h s t).2 = 0 then (t, 0, 0) else if (z0h s t).2 = 2 then (noT, 80, 0) else ((runH s F (z0h s t).1).1, (runH s F (z0h s t).1).2.1, (runH s F (z0h s t).1).2.2 + 1)
theorem z8o {s : Sto} (hs : OKS s) : ∀ {F : Nat} {t : Tm}, z02 t = true → Fit F t → (runH s F t).2.2 ≤ F ∧ ((runH s F t).2.1 = 0 ∧ z02 (runH s F t).1 = true ∧ Fit (F - (runH s F t).2.2) (runH s F t).1 ∧ (z0h s (runH s F t).1).2 = 0 ∨ (runH s F t).2.1 = 80 ∧ (runH s F t).1 = noT)
 | 0, t, hv, hf => by
  rw [runH]
  split
  · rename_i h; exact ⟨Nat.le_refl _, .inl ⟨rfl, hv, hf, h⟩⟩
  · exact ⟨Nat.le_refl _, .inr ⟨rfl, rfl⟩⟩
 | F + 1, t, hv, hf => by
  rw [runH]
  split
  · rename_i h; exact ⟨Nat.zero_le _, .inl ⟨rfl, hv, hf, h⟩⟩
  · rename_i h0
    split
    · exact ⟨Nat.zero_le _, .inr ⟨rfl, rfl⟩⟩
    · rename_i h2
      have h1 : (z0h s t).2 = 1 := by rcases zf4 s t with q | q | q; · exact absurd q h0
                                      · exact q
                                      · exact absurd q h2
      obtain ⟨v, f⟩ := z84 hs hv hf h1
      have := z8o hs v f
      refine ⟨by simp only; omega, ?_⟩
      rcases this.2 with ⟨a, b, c, d⟩ | ⟨a, b⟩
      · exact .inl ⟨a, b, by simp only; rw [show F + 1 - ((runH s F (z0h s t).1).2.2 + 1) = F - (runH s F (z0h s t).1).2.2 by omega]; exact c, d⟩
      · exact .inr ⟨a, b⟩
theorem l_shead (s : Sto) (hs : OKS s) : ∀ (F : Nat) (f : Int) (t : Tm), f.toNat = F → 0 - 9223372036854775808 ≤ f → z02 t = true → Fit F t →
  RPt Tryz.prog 101 4 (aTE (runH s F t).1 (runH s F t).2.1) (oSf s (f - ((runH s F t).2.2 : Int))) 1
   ⟨[(0, aS 0), (2, .c (.a (.ep 3 1 0 0))), (4, .c (.a (.ep 4 4 0 0))), (6, .c (.a (.ep 5 4 0 0)))], [(0, sto2 1 2 s), (1, .arz 6 (SR s.V)), (2, .arz 1 (IR s.T)), (3, obj1 f), (4, .arr 4 [cT t]), (5, .arr 4 [zT])], 6⟩ := by
 intro F
 induction F with
 | zero =>
  intro f t hf hf0 hv hfit
  have hc := zrj s hs t hv hfit.sz hfit.bd
  have hr : runH s 0 t = if (z0h s t).2 = 0 then (t, 0, 0) else (noT, 80, 0) := rfl
  rw [hr]
  obtain ⟨k, str, n, l⟩ := t
  refine RPt.vc hP sh zq9 (Eq.mpr (zsp s.V.length s.T.length (SR s.V) (IR s.T) f k str n (FTs l) 0 [] 0 _ _) ?_)
  refine ⟨(_, _, _), hc, z01 (fun h => ?_) (fun h => z01 (fun h2 => ?_) (fun h2 => z01 (fun h3 => ?_) (fun h3 => absurd (of_decide_eq_false h3) (by omega))))⟩
  · have h : (z0h s (.mk k str n l)).2 = 0 := by have h : (!((z0h s (.mk k str n l)).2 != 0)) = true := h; simpa using h
    rw [if_pos h]
    exact ⟨.refl _, by simp⟩
  · have h : ¬ (z0h s (.mk k str n l)).2 = 0 := by have h : (!((z0h s (.mk k str n l)).2 != 0)) = false := h; simpa using h
    rw [if_neg h]
    exact ⟨leTE (l := []) z0d, by simp⟩
  · have h : ¬ (z0h s (.mk k str n l)).2 = 0 := by have h : (!((z0h s (.mk k str n l)).2 != 0)) = false := h; simpa using h
    rw [if_neg h]
    exact ⟨leTE (l := []) z0d, by simp⟩
 | succ F ih =>
  intro f t hf hf0 hv hfit
  have hc := zrj s hs t hv hfit.sz hfit.bd
  have hr : runH s (F + 1) t = if (z0h s t).2 = 0 then (t, 0, 0) else if (z0h s t).2 = 2 then (noT, 80, 0) else ((runH s F (z0h s t).1).1, (runH s F (z0h s t).1).2.1, (runH s F (z0h s t).1).2.2 + 1) := rfl
  rw [hr]
  have hF4 := hfit.2.2.2
  have next : ¬ (z0h s t).2 = 0 → ¬ (z0h s t).2 = 2 → _ := fun h0 h2 => by
   have h1 : (z0h s t).2 = 1 := by rcases zf4 s t with q | q | q; · exact absurd q h0
                                   · exact q
                                   · exact absurd q h2
   obtain ⟨v, ff⟩ := z84 hs hv hfit h1
   exact ih (f - 1) (z0h s t).1 (by omega) (by omega) v ff
  obtain ⟨k, str, n, l⟩ := t
  refine RPt.vc hP sh zq9 (Eq.mpr (zsp s.V.length s.T.length (SR s.V) (IR s.T) f k str n (FTs l) 0 [] 0 _ _) ?_)
  rw [w64 (x := f - 1) (by omega) (by omega)]
  refine ⟨(_, _, _), hc, z01 (fun h => ?_) (fun h => z01 (fun h2 => ?_) (fun h2 => z01 (fun h3 => absurd (of_decide_eq_true h3) (by omega)) (fun h3 => ?_)))⟩
  · have h : (z0h s (.mk k str n l)).2 = 0 := by have h : (!((z0h s (.mk k str n l)).2 != 0)) = true := h; simpa using h
    rw [if_pos h]
    exact ⟨.refl _, by simp⟩
  · have h : ¬ (z0h s (.mk k str n l)).2 = 0 := by have h : (!((z0h s (.mk k str n l)).2 != 0)) = false := h; simpa using h
    have h2 : (z0h s (.mk k str n l)).2 = 2 := by
     by_cases q : (z0h s (.mk k str n l)).2 = 2
     · exact q
     · have h2 : ((if (z0h s (.mk k str n l)).2 = 2 then (80 : Int) else 0) != 0) = true := h2
       rw [if_neg q] at h2; cases h2
    rw [if_neg h, if_pos h2]
    exact ⟨leTE (l := []) z0d, by simp⟩
  · have h : ¬ (z0h s (.mk k str n l)).2 = 0 := by have h : (!((z0h s (.mk k str n l)).2 != 0)) = false := h; simpa using h
    have h2 : ¬ (z0h s (.mk k str n l)).2 = 2 := fun q => by
     have h2 : ((if (z0h s (.mk k str n l)).2 = 2 then (80 : Int) else 0) != 0) = false := h2
     rw [if_pos q] at h2; cases h2
    rw [if_neg h, if_neg h2]
    have := next h h2
    rw [show f - 1 - (((runH s F (z0h s (.mk k str n l)).1).2.2 : Nat) : Int) = f - (((runH s F (z0h s (.mk k str n l)).1).2.2 + 1 : Nat) : Int) by omega] at this
    exact this
theorem zrw (s : Sto) (hs : OKS s) (F : Nat) (f : Int) (t : Tm) (hF : f.toNat = F) (h0 : 0 - 9223372036854775808 ≤ f) (hv : z02 t = true) (hf : Fit F t) :
  AC Tryz.prog 101 [aS 0, aT t, .c (.a (.ep 3 1 0 0))] (oSf s f) (aTE (runH s F t).1 (runH s F t).2.1) (oSf s (f - ((runH s F t).2.2 : Int))) := by
 have h := l_shead s hs F f t hF h0 hv hf
 obtain ⟨k, str, n, l⟩ := t
 exact AC.vc hP sh zq9 (Nat.le_refl _) (by simp [isLive]) (by simp) (Eq.mpr (v101 k str n (FTs l) ..) h)
def z0w (s : Sto) (f : Int) (t : Tm) : Tm × Int × Int :=
 if z02 t = true then (if (runH s f.toNat t).2.1 = 0 then ((runH s f.toNat t).1, f - ((runH s f.toNat t).2.2 : Int), 0) else (noT, 0, (runH s f.toNat t).2.1)) else (noT, 0, 1)
abbrev aHd (z : Tm × Int × Int) : TV := .tup [(true, cT z.1), (false, [.a (.fz (.int .i64 z.2.1))]), (false, [.a (.fz (.int .i64 z.2.2))])]
theorem leHd {k n a e : Int} {s : List UInt8} {x : FV} {l : List Tm} (h : FV.Le x (.sl false 4 (FTs l))) : TV.Le (.tup [(true, [.a (.fz (.int .i64 k)), .a (.fz (.str s)), .a (.fz (.int .i64 n)), .a (.fz x)]), (false, [.a (.fz (.int .i64 a))]), (false, [.a (.fz (.int .i64 e))])]) (aHd (.mk k s n l, a, e)) :=
 zm1 ⟨lwT h, lwR _, lwR _, trivial⟩
theorem zif (s : Sto) (hs : OKS s) (f : Int) (t : Tm) (h0 : 0 - 9223372036854775808 ≤ f) (hz : t.sz ≤ B) (hf : z02 t = true → Fit f.toNat t) :
  AC Tryz.prog 67 [aT t, ci f, .c (.fn (.func 101) [(false, [.ep 0 2 0 0])] [])] (oS s) (aHd (z0w s f t)) (oS s) := by
 have h1 := z26 t hz
 have h2 := fun hv => zrw s hs f.toNat f t rfl h0 hv (hf hv)
 have h3 := fun hv => z8o hs hv (hf hv)
 have hV : z0w s f t = if z02 t = true then (if (runH s f.toNat t).2.1 = 0 then ((runH s f.toNat t).1, f - ((runH s f.toNat t).2.2 : Int), 0) else (noT, 0, (runH s f.toNat t).2.1)) else (noT, 0, 1) := rfl
 rw [hV]
 obtain ⟨k, str, n, l⟩ := t
 refine AC.vc hP sh lv67 (Nat.le_refl _) (by simp [isLive]) (by simp) (Eq.mpr (v67_F101 k str n (FTs l) ..) ?_)
 refine ⟨_, h1, z01 (fun h => ?_) (fun h => ⟨(_, _, _), h2 (by simpa using h), z01 (fun h' => ?_) (fun h' => ?_)⟩)⟩
 · rw [if_neg (by simpa using h)]; exact ⟨leHd (l := []) z0d, rfl⟩
 · have h : z02 (.mk k str n l) = true := by simpa using h
   have h' : ((runH s f.toNat (.mk k str n l)).2.1 != 0) = true := h'
   rw [if_pos h, if_neg (by simpa using h')]; exact ⟨leHd (l := []) z0d, rfl⟩
 · have h : z02 (.mk k str n l) = true := by simpa using h
   have h' : ((runH s f.toNat (.mk k str n l)).2.1 != 0) = false := h'
   rw [if_pos h, if_pos (by simpa using h')]; exact ⟨.refl _, rfl⟩
theorem zsc (s : Sto) (hs : OKS s) (f : Int) (t : Tm) (h0 : 0 - 9223372036854775808 ≤ f) (hz : t.sz ≤ B) (hf : z02 t = true → Fit f.toNat t) : AC Tryz.prog 91 [aS 0, aT t, ci f] (oS s) (aHd (z0w s f t)) (oS s) := by
 have h := zif s hs f t h0 hz hf
 obtain ⟨k, str, n, l⟩ := t
 refine AC.vc hP sh lv91 (Nat.le_refl _) (by simp [isLive]) (by simp) (Eq.mpr (v91 k str n (FTs l) ..) ?_)
 exact ⟨(_, _, _), h, .refl _, rfl⟩
theorem stepS_sz {F : Nat} {s : Sto} {t : Tm} (hs : OKS s) (hv : z02 t = true) (hf : Fit (F + 1) t) (h : (z0h s t).2 = 1) : (z0h s t).1.sz ≤ t.sz + 42000 := by
 unfold z0h at h ⊢
 split
 · rename_i q
   have := (hs.val q).2.1
   simp only; omega
 rename_i q
 rw [if_neg q] at h
 split
 · rename_i q2; rw [if_pos q2] at h; simp at h
 rename_i q2
 rw [if_neg q2] at h
 have ok := z08 t hv
 obtain ⟨k, str, n, l⟩ := t
 have h6 : k = 6 := by
  by_cases e : k = 6
  · exact e
  · exact absurd e q2
 obtain ⟨x, y, r, rfl, hx6, hl⟩ := okB6 ok h6
 subst h6
 simp only [okL, Bool.and_eq_true] at hl
 have ey : Tm.l (.mk 6 str n (x :: y :: r)) = x :: y :: r := rfl
 have eh : hd (x :: y :: r) = x := rfl
 have e1 : List.drop 1 (x :: y :: r) = y :: r := rfl
 have e2 : List.drop 2 (x :: y :: r) = r := rfl
 have ehy : hd (y :: r) = y := rfl
 simp only [ey, eh, e1, e2, ehy] at h ⊢
 split
 · rename_i q3
   have v4 := (hs.val q3).2.1
   have z := z2g (valS s x) (y :: r)
   have zx := x.sz_pos
   simp only [Tm.szs, Tm.sz] at z ⊢
   omega
 rename_i q3
 rw [if_neg q3] at h
 split
 · rename_i q4; rw [if_pos q4] at h; simp at h
 rename_i q4
 rw [if_neg q4] at h
 obtain ⟨xk, xs, xn, xl⟩ := x
 have h5 : xk = 5 := by
  by_cases e : xk = 5
  · exact e
  · exact absurd e q4
 subst h5
 obtain ⟨b, rfl, ob⟩ := okB5 hl.1 rfl
 have room : z50 b y = true := by
  by_cases e : z50 b y = true
  · exact e
  · exfalso
    have h : (if z50 b y = true then (1 : Int) else 2) = 1 := h
    rw [if_neg e] at h; cases h
 have hst : z3z (.mk 6 str n (.mk 5 xs xn [b] :: y :: r)) = (z07 (suT 0 y b 0) r, 1) := by
  rw [z3z, if_pos (zlz str xs n xn b y r)]; exact if_pos room
 have e3 : conF (hd (Tm.l (.mk 5 xs xn [b]))) y = suT 0 y b 0 := by show conF b y = _; rw [conF, if_pos room]
 rw [e3]
 have := (zc M61 (by simp only [M61]; omega) _ hf.ok hf.sz hf.bd (by rw [hst])).2.1
 rw [hst] at this
 exact this
def z04 (t : Tm) : Tm × List Tm := if t.k = 6 ∧ z02 t = true then (hd t.l, t.l.drop 1) else (t, [])
theorem zg4 (t : Tm) (hz : t.sz ≤ B) (h : ¬ (t.k = 6 ∧ z02 t = true)) : AC Tryz.prog 92 [aT t] [] (.tup [(true, cT t), (false, [.a (.fz .nils)])]) [] := by
 have h1 := z26 t hz
 obtain ⟨k, str, n, l⟩ := t
 refine AC.vc hP sh lv92 (Nat.le_refl _) (by simp) (by simp) (Eq.mpr (v92 k str n (FTs l) _ _) ?_)
 refine z01 (fun _ => ⟨.refl _, rfl⟩) (fun h6 => ⟨_, h1, z01 (fun _ => ⟨.refl _, rfl⟩) (fun h' => absurd ⟨?_, ?_⟩ h)⟩)
 · have h6 : (k != 6) = false := h6
   show k = 6
   simpa using h6
 · simpa using h'
theorem zgg (t : Tm) (hz : t.sz ≤ B) (h6 : t.k = 6) (hv : z02 t = true) : AC Tryz.prog 92 [aT t] [] (.tup [(true, cT (hd t.l)), (false, [.a (.osl 0 4 0 (t.l.drop 1).length)])]) [.arz 4 (FTs (t.l.drop 1))] := by
 have h1 := z26 t hz
 have hlen := Tm.szs_length t.l
 have hsz := t.sz_eq
 obtain ⟨k, str, n, l⟩ := t
 have h6 : k = 6 := h6
 subst h6
 obtain ⟨x, y, r, rfl, hx6, hl⟩ := okB6 (z08 _ hv) rfl
 simp only [Tm.l, List.length_cons, B] at hlen hsz hz
 have hcl := zjs.1 (FTs (y :: r)) (by simp [FTs]) (by rw [z00]; simp only [List.length_cons, B]; omega)
 have e1 : List.drop 1 (List.take (Int.toNat (((FTs (x :: y :: r)).length : Nat) : Int)) (FTs (x :: y :: r))) = FTs (y :: r) := by rw [zei]; rfl
 refine AC.vc hP sh lv92 (by simp) (by simp) (by simp [isLive]) (Eq.mpr (v92 6 str n (FTs (x :: y :: r)) _ _) ?_)
 rw [e1]
 refine z01 (fun h => by cases h) (fun _ => ⟨_, h1, z01 (fun h' => absurd hv (by simpa using h')) (fun _ => ?_)⟩)
 refine ⟨el0 x (y :: r), rfl, ⟨by omega, by rw [z00]; simp only [List.length_cons]; omega, Int.le_refl _⟩, .inr ⟨_, hcl, ?_, rfl⟩⟩
 rw [show cE (List.getD (FTs (x :: y :: r)) 0 []) = cT x from cE_FT x, z00]
 exact .refl _
end Go.AM

set_option maxRecDepth 100000
open Go Go.Proofs
namespace Go.AM
abbrev oS' (s : Sto) : List AObj := [sto2 3 4 s, .gone, .gone, .arz 6 (SR s.V), .arz 1 (IR s.T)]
def freshS (s : Sto) (lv : Int) : Sto := ⟨s.V ++ [⟨z0e [lv, 0], false, noT⟩], s.T⟩
theorem z42 (l : List Int) : (IR l).length = l.length := by simp [IR]
theorem znf (a b : List Int) : IR (a ++ b) = IR a ++ IR b := by simp [IR]
theorem zl0 {n : Nat} {fs gs : List (List FV)} (hl : gs.length = fs.length) (h : ∀ (i : Nat) (e e' : List FV), fs[i]? = some e → gs[i]? = some e' → LeR e e') : OLe (.arz n fs) (.arz n gs) :=
 .rows n fs gs (by omega) (fun i e e' he he' => (h i e e' he he').length) (fun i j e e' f f' he he' hf hf' => (h i e e' he he').get j f f' hf hf')
theorem ole_app {n : Nat} {a : List (List FV)} {x y : List FV} (h : LeR x y) : OLe (.arz n (a ++ [x])) (.arz n (a ++ [y])) := by
 refine zl0 (by simp) fun i e e' he he' => ?_
 by_cases q : i < a.length
 · rw [List.getElem?_append_left q] at he he'
   rw [he] at he'; injection he' with he'; subst he'; exact LeR.refl _
 · rw [List.getElem?_append_right (by omega)] at he he'
   cases hi : i - a.length with
   | zero => rw [hi] at he he'; simp at he he'; subst he; subst he'; exact h
   | succ k => rw [hi] at he; simp at he
theorem ole_set {n i : Nat} {a : List (List FV)} {x y : List FV} (h : LeR x y) : OLe (.arz n (a.set i x)) (.arz n (a.set i y)) := by
 refine zl0 (by simp) fun j e e' he he' => ?_
 rw [List.getElem?_set] at he he'
 split at he
 · rename_i q
   rw [if_pos q] at he'
   split at he
   · rename_i q2; rw [if_pos q2] at he'; injection he with he; injection he' with he'; subst he; subst he'; exact h
   · cases he
 · rename_i q
   rw [if_neg q] at he'
   rw [he] at he'; injection he' with he'; subst he'; exact LeR.refl _
theorem ze0 (s : Sto) (lv : Int) (h : s.V.length ≤ 1073741824) : AC Tryz.prog 35 [aS 0, ci lv] (oS s) (ci (s.V.length : Int)) (oS' (freshS s lv)) := by
 have hrow : LeR [.int .i64 (z0e [lv, 0]), .bool false, .int .i64 0, .str [], .int .i64 0, .nils] (Inf.c ⟨z0e [lv, 0], false, noT⟩) := ⟨.refl _, .refl _, .refl _, .refl _, .refl _, z0d, trivial⟩
 have hV : (freshS s lv).V.length = s.V.length + 1 := by simp [freshS]
 refine AC.obj (Hs' := [.arr 2 [[.a (.osl 3 6 0 (s.V.length + 1)), .a (.osl 4 1 0 s.T.length)]], .gone, .gone, .arz 6 (SR s.V ++ [[.int .i64 (z0e [lv, 0]), .bool false, .int .i64 0, .str [], .int .i64 0, .nils]]), .arz 1 (IR s.T)]) ?_ ⟨by rw [sto2, hV]; exact .refl _, .refl _, .refl _, ?_, .refl _, trivial⟩
 · refine AC.vc hP sh lv35 (by simp) (by simp [isLive]) (by simp [isLive]) (Eq.mpr (v35 ..) ?_)
   rw [w64 (x := (((s.V.length + 1 : Nat) : Int) - 1)) (by omega) (by omega), List.take_of_length_le (by rw [z55]; omega)]
   exact ⟨by omega, ⟨by rw [z55]; omega, by unfold z0b; omega⟩, by rw [show (((s.V.length + 1 : Nat) : Int) - 1) = (s.V.length : Int) by omega]; exact .refl _, rfl⟩
 · show OLe _ (.arz 6 (SR (s.V ++ [⟨z0e [lv, 0], false, noT⟩])))
   rw [zoe]
   exact ole_app hrow
def z4b (s : Sto) (x : Int) (t : Tm) : Bool := inB s.V x && (!(infOf s.V x).bd && (z02 t && decide (z35 t 0 0 ≤ 0)))
def bindS (s : Sto) (x : Int) (t : Tm) : Sto := if z4b s x t = true then ⟨s.V.set x.toNat ⟨(infOf s.V x).lv, true, t⟩, s.T ++ [x]⟩ else s
def zee (s : Sto) (x : Int) (t : Tm) : Int := if z4b s x t = true then 0 else 1
theorem z3d {s : Sto} {x : Int} {t : Tm} (h : z4b s x t = false) : bindS s x t = s ∧ zee s x t = 1 := by
 unfold bindS zee; rw [h]; exact ⟨rfl, rfl⟩
theorem z1n {s : Sto} {x : Int} {t : Tm} (h : z4b s x t = true) : bindS s x t = ⟨s.V.set x.toNat ⟨(infOf s.V x).lv, true, t⟩, s.T ++ [x]⟩ ∧ zee s x t = 0 := by
 unfold bindS zee; rw [h]; exact ⟨rfl, rfl⟩
theorem inB_of {V : List Inf} {x : Int} (h0 : 0 ≤ x) (h1 : x < (V.length : Int)) : inB V x = true := by simp [inB]; omega
theorem bind_end {s : Sto} {x : Int} {t : Tm} (hb : z4b s x t = true) (h0 : 0 ≤ x) (h1 : x < (s.V.length : Int)) {e : List FV} (he : LeR e (Inf.c ⟨(infOf s.V x).lv, true, t⟩)) :
  All2 OLe [.arr 2 [[.a (.osl 3 6 0 s.V.length), .a (.osl 4 1 0 (s.T.length + 1))]], .gone, .gone, .arz 6 (List.set (SR s.V) (0 + x.toNat) e), .arz 1 (IR s.T ++ [[.int .i64 x]])] (oS' (bindS s x t)) := by
 rw [(z1n hb).1]
 refine ⟨by rw [sto2, List.length_set, List.length_append]; exact .refl _, .refl _, .refl _, ?_, ?_, trivial⟩
 · show OLe _ (.arz 6 (SR (s.V.set x.toNat _)))
   rw [show SR (s.V.set x.toNat ⟨(infOf s.V x).lv, true, t⟩) = List.set (SR s.V) (0 + x.toNat) (Inf.c ⟨(infOf s.V x).lv, true, t⟩) by rw [Nat.zero_add, SR, SR, List.map_set]]
   exact ole_set he
 · show OLe _ (.arz 1 (IR (s.T ++ [x])))
   rw [znf]; exact .refl _
theorem zop (s : Sto) (x : Int) (t : Tm) (hT : s.T.length ≤ 1073741824) (hz : t.sz ≤ B) (hb : bd M61 t) : AC Tryz.prog 47 [aS 0, ci x, aT t] (oS s) (ci (zee s x t)) (oS' (bindS s x t)) := by
 have h1 := z78 s x
 have h2 := z26 t hz
 have h3 := c_loose t hz hb
 have hB : z4b s x t = (inB s.V x && (!(infOf s.V x).bd && (z02 t && decide (z35 t 0 0 ≤ 0)))) := rfl
 cases hq : z4b s x t with
 | false =>
  rw [(z3d hq).1, (z3d hq).2]
  rw [hq] at hB
  obtain ⟨k, str, n, l⟩ := t
  refine AC.vc hP sh lv47 (by simp) (by simp [isLive]) (by simp [isLive]) (Eq.mpr (v47 x k str n (FTs l) ..) ?_)
  refine ⟨(_, _, _, _), h1, z01 (fun _ => ⟨.refl _, rfl⟩) (fun e1 => z01 (fun _ => ⟨.refl _, rfl⟩) (fun e2 => ⟨_, h2, z01 (fun _ => ⟨.refl _, rfl⟩) (fun e3 => ⟨_, h3, z01 (fun _ => ⟨.refl _, rfl⟩) (fun e4 => ?_)⟩)⟩))⟩
  exfalso
  have e1 : (!(inB s.V x)) = false := e1
  have e1 : inB s.V x = true := by cases h : inB s.V x; · rw [h] at e1; cases e1
                                   · rfl
  have e2 : (infOf s.V x).bd = false := e2
  have e3 : z02 (.mk k str n l) = true := by simpa using e3
  rw [e1, e2, e3, decide_eq_true (by have := of_decide_eq_false e4; omega)] at hB
  cases hB
 | true =>
  rw [(z1n hq).2]
  have hq' := hq
  rw [hB] at hq'
  simp only [Bool.and_eq_true, Bool.not_eq_true', decide_eq_true_eq] at hq'
  obtain ⟨g1, g2, g3, g4⟩ := hq'
  have g1' : 0 ≤ x ∧ x < (s.V.length : Int) := by simp [inB] at g1; omega
  refine AC.obj (Hs' := [.arr 2 [[.a (.osl 3 6 0 s.V.length), .a (.osl 4 1 0 (s.T.length + 1))]], .gone, .gone, .arz 6 (List.set (SR s.V) (0 + x.toNat) [.int .i64 (infOf s.V x).lv, .bool true, .int .i64 t.k, .str t.s, .int .i64 t.n, .sl false 4 (FTs t.l)]), .arz 1 (IR s.T ++ [[.int .i64 x]])]) ?_ (bind_end hq g1'.1 g1'.2 (show LeR [.int .i64 (infOf s.V x).lv, .bool true, .int .i64 t.k, .str t.s, .int .i64 t.n, .sl false 4 (FTs t.l)] (Inf.c ⟨(infOf s.V x).lv, true, t⟩) from LeR.refl _))
  obtain ⟨hl, ei⟩ := z2x g1'.1 g1'.2
  obtain ⟨k, str, n, l⟩ := t
  refine AC.vc hP sh lv47 (by simp) (by simp [isLive]) (by simp [isLive]) (Eq.mpr (v47 x k str n (FTs l) ..) ?_)
  refine ⟨(_, _, _, _), h1, z01 (fun e => by have e : (!(inB s.V x)) = true := e; rw [g1] at e; cases e) (fun _ => z01 (fun e => by have e : (infOf s.V x).bd = true := e; rw [g2] at e; cases e) (fun _ => ⟨_, h2, z01 (fun e => by rw [g3] at e; cases e) (fun _ => ⟨_, h3, z01 (fun e => absurd (of_decide_eq_true e) (by omega)) (fun _ => ⟨g1', ⟨by rw [z55]; omega, ?_⟩, by omega, ⟨by rw [z42]; omega, by unfold z0b; omega⟩, .refl _, ?_⟩)⟩)⟩))⟩
  · rw [Nat.zero_add, SR_get hl]; rfl
  · rw [List.take_of_length_le (by rw [z42]; omega)]; rfl
end Go.AM

set_option maxRecDepth 100000
open Go Go.Proofs
namespace Go.AM
theorem c_iodd (t : Tm) (hs : t.sz ≤ B) : AC Tryz.prog 50 [aT t] [] (cb (!z02 t)) [] := by
 have hv := z26 t hs
 obtain ⟨k, s, n, l⟩ := t
 refine AC.vc hP sh lv50 (Nat.le_refl _) (by simp) (by simp) (Eq.mpr (v50 k s n (FTs l) ..) ?_)
 exact ⟨_, hv, z06 rfl⟩
theorem zay (x : Int) : AC Tryz.prog 122 [ci x] [] (aT (.mk 4 [] x [])) [] := by
 refine AC.vc hP sh lv122 (Nat.le_refl _) (by simp) (by simp) (Eq.mpr (v122 ..) ?_)
 exact ⟨leT (l := []) z0d, rfl⟩
theorem z7x (n : Int) : AC Tryz.prog 121 [ci n] [] (aT (.mk 3 [] n [])) [] := by
 refine AC.vc hP sh lv121 (Nat.le_refl _) (by simp) (by simp) (Eq.mpr (v121 ..) ?_)
 exact ⟨leT (l := []) z0d, rfl⟩
def z5w (s : Sto) (lams : Nat) (on : List Tm) : Tm := z5q lams (z07 (.mk 4 [] (s.V.length : Int) []) on)
def z32 (s : Sto) (x lv : Int) (lams : Nat) (on : List Tm) : Sto := bindS (freshS s lv) x (z5w s lams on)
theorem c_hang (s : Sto) (x lv : Int) (lams : Nat) (on : List Tm) (hl : lams ≤ 1000000) (ho : on.length ≤ 1000000) (hV : s.V.length ≤ 1073741824) (hT : s.T.length ≤ 1073741824) (hz : (z5w s lams on).sz ≤ B) (hb : bd M61 (z5w s lams on)) :
  AC Tryz.prog 123 [aS 0, ci x, ci lv, ci (lams : Int), aL on] (oS s) (aT (.mk 4 [] (s.V.length : Int) [])) (oS' (z32 s x lv lams on)) := by
 have h1 := ze0 s lv (by omega)
 have h2 := zay (s.V.length : Int)
 have h3 := z3c (.mk 4 [] (s.V.length : Int) []) on (by simp only [Tm.l, List.length_nil]; omega)
 have h4 := zcx lams (z07 (.mk 4 [] (s.V.length : Int) []) on) (by omega)
 have h5 := zop (freshS s lv) x (z5w s lams on) hT hz hb
 refine AC.vc hP sh lv123 (by simp) (by simp [isLive]) (by simp [isLive]) (Eq.mpr (v123 ..) ?_)
 exact ⟨(_, freshS s lv), h1, _, h2, _, h3, _, h4, (_, z32 s x lv lams on), h5, .refl _, rfl⟩
end Go.AM

set_option maxRecDepth 100000
open Go Go.Proofs
namespace Go.AM
def onK (n : Int) : List Bool → Int → List Tm
 | [], _ => []
 | b :: r, i => if b = true then .mk 3 [] (n - 1 - i) [] :: onK n r (i + 1) else onK n r (i + 1)
def BR (l : List Bool) : List (List FV) := l.map fun b => [.bool b]
theorem z1h (l : List Bool) : (BR l).length = l.length := by simp [BR]
abbrev hsP16 (s : Sto) (e : Inf) (rest : List (Nat × AObj)) : List (Nat × AObj) := (0, sto2 3 4 s) :: (1, .gone) :: (2, .gone) :: (3, .arz 6 (SR s.V)) :: (4, .arz 1 (IR s.T)) :: (5, .arr 6 [[.a (.fz (.int .i64 e.lv)), .a (.fz (.bool e.bd)), .a (.fz (.int .i64 e.v.k)), .a (.fz (.str e.v.s)), .a (.fz (.int .i64 e.v.n)), .a (.fz (.sl false 4 (FTs e.v.l)))]]) :: rest
abbrev stPb (s : Sto) (x : Int) (e : Inf) (keep : List Bool) (i : Nat) (o : List Tm) : St :=
 ⟨[(0, aS 0), (1, ci x), (2, .c (.a (.fz (.sl false 1 (BR keep))))), (7, .c (.a (.ep 5 6 0 0))), (9, .c (.a (.osl 6 4 0 o.length))), (24, .c (.a (.fz (.sl false 1 (BR keep))))), (25, ci (keep.length : Int)), (26, ci (i : Int))], hsP16 s e [(6, .arz 4 (FTs o))], 7⟩
theorem zef (s : Sto) (x : Int) (e : Inf) (keep : List Bool) (hk : keep.length ≤ 1000) (res : List Tm) (hh : AC Tryz.prog 123 [aS 0, ci x, ci e.lv, ci (keep.length : Int), aL res] (oS s) (aT (.mk 4 [] (s.V.length : Int) [])) (oS' (z32 s x e.lv keep.length res))) :
  ∀ (j i : Nat) (o : List Tm), i + j = keep.length → o.length ≤ i → o ++ onK (keep.length : Int) (keep.drop i) (i : Int) = res → RPt Tryz.prog 155 3 (ci 0) (oS' (z32 s x e.lv keep.length res)) 1 (stPb s x e keep i o)
 | 0, i, o, hi, ho, hr => by
  have hlen := z1h keep
  refine RPt.vc hP sh zgt (Eq.mpr (zqv ..) ?_)
  rw [List.drop_eq_nil_of_le (by omega), onK, List.append_nil] at hr
  subst hr
  refine z01 (fun h => absurd (of_decide_eq_true h) (by omega)) (fun _ => ⟨rfl, ⟨rfl, by rw [z00]; omega⟩, ((.mk 4 [] (s.V.length : Int) [] : Tm), z32 s x e.lv keep.length o), ?_, .refl _, rfl⟩)
  rw [List.drop_zero, List.take_of_length_le (by rw [z00]; exact Nat.le_refl _), hlen]
  exact hh
 | j + 1, i, o, hi, ho, hr => by
  have hlen := z1h keep
  have hi2 : i < keep.length := by omega
  have eg : List.getD (BR keep) (Int.toNat (i : Int)) [] = [.bool keep[i]] := by rw [Int.toNat_natCast]; simp [BR, List.getD, hi2]
  have ed : keep.drop i = keep[i] :: keep.drop (i + 1) := List.drop_eq_getElem_cons hi2
  rw [ed, onK] at hr
  refine RPt.vc hP sh zgt (Eq.mpr (zqv ..) ?_)
  rw [eg, w64 (x := (i : Int) + 1) (by omega) (by omega), hlen, w64 (x := (keep.length : Int) - 1) (by omega) (by omega), w64 (x := (keep.length : Int) - 1 - (i : Int)) (by omega) (by omega)]
  refine z01 (fun _ => ⟨⟨rfl, by omega, by omega, rfl⟩, z01 (fun hb => ?_) (fun hb => ?_)⟩) (fun h => absurd (of_decide_eq_false h) (by omega))
  · have hb : keep[i] = true := hb
    rw [if_pos hb] at hr
    refine ⟨rfl, _, z7x _, Nat.le_refl _, ⟨by rw [z00]; omega, by simp only [z0b]; omega⟩, ?_⟩
    have nx := zef s x e keep hk res hh j (i + 1) (o ++ [.mk 3 [] ((keep.length : Int) - 1 - (i : Int)) []]) (by omega) (by simp; omega) (by rw [List.append_assoc]; exact hr)
    rw [z5o, show List.take o.length (FTs o) ++ [FT (.mk 3 [] ((keep.length : Int) - 1 - (i : Int)) [])] = FTs (o ++ [.mk 3 [] ((keep.length : Int) - 1 - (i : Int)) []]) by rw [List.take_of_length_le (by rw [z00]; exact Nat.le_refl _), z1u]; rfl]
    simp only [stPb, List.length_append, List.length_singleton] at nx
    exact nx
  · have hb : keep[i] = false := hb
    rw [if_neg (by rw [hb]; simp)] at hr
    exact zef s x e keep hk res hh j (i + 1) o (by omega) (by omega) hr
end Go.AM

set_option maxRecDepth 100000
open Go Go.Proofs
namespace Go.AM
abbrev stPa (s : Sto) (x : Int) (e : Inf) (keep : List Bool) (i : Nat) : St :=
 ⟨[(0, aS 0), (1, ci x), (2, .c (.a (.fz (.sl false 1 (BR keep))))), (7, .c (.a (.ep 5 6 0 0))), (9, .c (.a (.fz .nils))), (24, .c (.a (.fz (.sl false 1 (BR keep))))), (25, ci (keep.length : Int)), (26, ci (i : Int))], hsP16 s e [], 6⟩
theorem zl5 (s : Sto) (x : Int) (e : Inf) (keep : List Bool) (hk : keep.length ≤ 1000) (res : List Tm) (hh : AC Tryz.prog 123 [aS 0, ci x, ci e.lv, ci (keep.length : Int), aL res] (oS s) (aT (.mk 4 [] (s.V.length : Int) [])) (oS' (z32 s x e.lv keep.length res))) :
  ∀ (j i : Nat), i + j = keep.length → onK (keep.length : Int) (keep.drop i) (i : Int) = res → RPt Tryz.prog 155 3 (ci 0) (oS' (z32 s x e.lv keep.length res)) 1 (stPa s x e keep i)
 | 0, i, hi, hr => by
  have hlen := z1h keep
  refine RPt.vc hP sh zgt (Eq.mpr (zqs ..) ?_)
  rw [List.drop_eq_nil_of_le (by omega), onK] at hr
  subst hr
  refine z01 (fun h => absurd (of_decide_eq_true h) (by omega)) (fun _ => ⟨rfl, ((.mk 4 [] (s.V.length : Int) [] : Tm), z32 s x e.lv keep.length []), ?_, .refl _, rfl⟩)
  rw [hlen]
  exact hh.args ⟨.refl _, .refl _, .refl _, .refl _, .c _ _ (.a _ _ (.fz _ _ z0d)), trivial⟩
 | j + 1, i, hi, hr => by
  have hlen := z1h keep
  have hi2 : i < keep.length := by omega
  have eg : List.getD (BR keep) (Int.toNat (i : Int)) [] = [.bool keep[i]] := by rw [Int.toNat_natCast]; simp [BR, List.getD, hi2]
  have ed : keep.drop i = keep[i] :: keep.drop (i + 1) := List.drop_eq_getElem_cons hi2
  rw [ed, onK] at hr
  refine RPt.vc hP sh zgt (Eq.mpr (zqs ..) ?_)
  rw [eg, w64 (x := (i : Int) + 1) (by omega) (by omega), hlen, w64 (x := (keep.length : Int) - 1) (by omega) (by omega), w64 (x := (keep.length : Int) - 1 - (i : Int)) (by omega) (by omega)]
  refine z01 (fun _ => ⟨⟨rfl, by omega, by omega, rfl⟩, z01 (fun hb => ?_) (fun hb => ?_)⟩) (fun h => absurd (of_decide_eq_false h) (by omega))
  · have hb : keep[i] = true := hb
    rw [if_pos hb] at hr
    refine ⟨rfl, _, z7x _, Nat.le_refl _, by simp only [z0b]; omega, ?_⟩
    exact zef s x e keep hk res hh j (i + 1) [.mk 3 [] ((keep.length : Int) - 1 - (i : Int)) []] (by omega) (by simp) hr
  · have hb : keep[i] = false := hb
    rw [if_neg (by rw [hb]; simp)] at hr
    exact zl5 s x e keep hk res hh j (i + 1) (by omega) hr
end Go.AM

set_option maxRecDepth 100000
open Go Go.Proofs
namespace Go.AM
def z33 (s : Sto) (x : Int) (keep : List Bool) : Sto := if inB s.V x = true ∧ (infOf s.V x).bd = false then z32 s x (infOf s.V x).lv keep.length (onK (keep.length : Int) keep 0) else s
def z72 (s : Sto) (x : Int) : Int := if inB s.V x = true ∧ (infOf s.V x).bd = false then 0 else 1
theorem c_iprune (s : Sto) (x : Int) (keep : List Bool) (hk : keep.length ≤ 1000) (hh : AC Tryz.prog 123 [aS 0, ci x, ci (infOf s.V x).lv, ci (keep.length : Int), aL (onK (keep.length : Int) keep 0)] (oS s) (aT (.mk 4 [] (s.V.length : Int) [])) (oS' (z32 s x (infOf s.V x).lv keep.length (onK (keep.length : Int) keep 0)))) :
  AC Tryz.prog 155 [aS 0, ci x, .c (.a (.fz (.sl false 1 (BR keep))))] (oS s) (ci (z72 s x)) (oS' (z33 s x keep)) := by
 have hi := z78 s x
 have hlen := z1h keep
 refine AC.vc hP sh zgt (by simp) (by simp [isLive]) (by simp [isLive]) (Eq.mpr (v155 ..) ?_)
 refine ⟨((infOf s.V x).lv, (infOf s.V x).bd, (infOf s.V x).v, inB s.V x), hi, z01 (fun h => ?_) (fun h => z01 (fun h2 => ?_) (fun h2 => ⟨rfl, ?_⟩))⟩
 · have h : inB s.V x = false := by simpa using h
   rw [z72, z33, if_neg (by rw [h]; simp), if_neg (by rw [h]; simp)]; exact ⟨.refl _, rfl⟩
 · have h2 : (infOf s.V x).bd = true := h2
   rw [z72, z33, if_neg (by rw [h2]; simp), if_neg (by rw [h2]; simp)]; exact ⟨.refl _, rfl⟩
 · have h : inB s.V x = true := by simpa using h
   have h2 : (infOf s.V x).bd = false := h2
   rw [z72, z33, if_pos ⟨h, h2⟩, if_pos ⟨h, h2⟩, hlen]
   exact zl5 s x (infOf s.V x) keep hk _ hh keep.length 0 (by omega) (by rw [List.drop_zero]; rfl)
end Go.AM

set_option maxRecDepth 100000
open Go Go.Proofs
namespace Go.AM
theorem zj3 (s : Sto) : AC Tryz.prog 31 [aS 0] (oS s) (.agg [.a (.fz (.int .i64 (s.T.length : Int))), .a (.fz (.int .i64 (s.V.length : Int)))]) (oS s) := by
 refine AC.vc hP sh lv31 (Nat.le_refl _) (by simp [isLive]) (by simp) (Eq.mpr (v31 ..) ?_)
 exact ⟨.refl _, rfl⟩
theorem zku (a b : Int) (h : a ≤ b) : z0x [a, b] = a := by
 simp only [z0x, List.foldl, min, minOfLe]; rw [if_pos h]
theorem drop_get {l : List Int} {j : Nat} {x : Int} {xs : List Int} (h : l.drop j = x :: xs) : j < l.length ∧ List.getD (IR l) j [] = [.int .i64 x] ∧ l.drop (j + 1) = xs := by
 have hj : j < l.length := by
  rcases Nat.lt_or_ge j l.length with q | q
  · exact q
  · rw [List.drop_eq_nil_of_le q] at h; cases h
 rw [List.drop_eq_getElem_cons hj] at h
 injection h with h1 h2
 exact ⟨hj, by simp [IR, List.getD, hj, h1], h2⟩
def clrI (i : Inf) : Inf := ⟨i.lv, false, noT⟩
def clrV (V : List Inf) (x : Int) : List Inf := V.modify x.toNat clrI
def clrR (h : List (List FV)) (x : Int) : List (List FV) := List.set h (0 + x.toNat) [.int .i64 (FV.asI (List.getD (List.getD h (0 + x.toNat) []) 0 FV.nils)), .bool false, .int .i64 0, .str [], .int .i64 0, .nils]
def RowOf (i : Inf) (r : List FV) : Prop := r = Inf.c i ∨ (i.bd = false ∧ i.v = noT ∧ r = [.int .i64 i.lv, .bool false, .int .i64 0, .str [], .int .i64 0, .nils])
def RowsOf (V : List Inf) (h : List (List FV)) : Prop := h.length = V.length ∧ ∀ (i : Nat) (v : Inf) (r : List FV), V[i]? = some v → h[i]? = some r → RowOf v r
theorem RowOf.le {i : Inf} {r : List FV} (h : RowOf i r) : LeR r (Inf.c i) := by
 rcases h with rfl | ⟨h1, h2, rfl⟩
 · exact LeR.refl _
 · obtain ⟨lv, bd, v⟩ := i
   simp only at h1 h2
   subst h1; subst h2
   exact ⟨.refl _, .refl _, .refl _, .refl _, .refl _, z0d, trivial⟩
theorem RowOf.sz {i : Inf} {r : List FV} (h : RowOf i r) : r.length = 6 ∧ FV.asI (List.getD r 0 FV.nils) = i.lv ∧ List.take 1 r = [.int .i64 i.lv] := by
 rcases h with rfl | ⟨_, _, rfl⟩ <;> exact ⟨rfl, rfl, rfl⟩
theorem SR_of (V : List Inf) : RowsOf V (SR V) := ⟨z55 V, fun i v r h1 h2 => by
 rw [SR, List.getElem?_map, h1] at h2
 injection h2 with h2; exact .inl h2.symm⟩
theorem RowsOf.get {V : List Inf} {h : List (List FV)} (hr : RowsOf V h) {i : Nat} (hi : i < V.length) : RowOf V[i] (List.getD h i []) := by
 have h2 : i < h.length := by rw [hr.1]; exact hi
 have := hr.2 i _ _ (List.getElem?_eq_getElem hi) (List.getElem?_eq_getElem h2)
 simpa [List.getD, h2] using this
theorem z5a (V : List Inf) (x : Int) : (clrV V x).length = V.length := by simp [clrV]
theorem zl7 (V : List Inf) (x : Int) (i : Nat) : (clrV V x)[i]? = V[i]?.map fun v => if x.toNat = i then clrI v else v := by
 rw [clrV, List.getElem?_modify]
 cases V[i]? with
 | none => rfl
 | some v => rfl
theorem RowsOf.clr {V : List Inf} {h : List (List FV)} (hr : RowsOf V h) {x : Int} (h1 : x.toNat < V.length) : RowsOf (clrV V x) (clrR h x) := by
 refine ⟨by rw [z5a, clrR, List.length_set, hr.1], fun i v r hv hh => ?_⟩
 rw [zl7] at hv
 rw [clrR, Nat.zero_add, List.getElem?_set] at hh
 obtain ⟨v0, hv0, rfl⟩ := Option.map_eq_some_iff.1 hv
 by_cases e : x.toNat = i
 · subst e
   rw [if_pos rfl, if_pos (by rw [hr.1]; exact h1)] at hh
   injection hh with hh
   have hg := (hr.get h1).sz
   rw [hg.2.1] at hh
   rw [if_pos rfl]
   have : V[x.toNat] = v0 := by rw [List.getElem?_eq_getElem h1] at hv0; injection hv0
   exact .inr ⟨rfl, rfl, by rw [← hh, this]; rfl⟩
 · rw [if_neg e] at hh ⊢
   exact hr.2 i _ _ hv0 hh
theorem z7f : ∀ (xs : List Int) (V : List Inf), (xs.foldl clrV V).length = V.length
 | [], _ => rfl
 | x :: xs, V => by rw [List.foldl_cons, z7f xs, z5a]
theorem zgr : ∀ (xs : List Int) (V : List Inf) (h : List (List FV)), RowsOf V h → (∀ x ∈ xs, 0 ≤ x ∧ x < (V.length : Int)) → RowsOf (xs.foldl clrV V) (xs.foldl clrR h)
 | [], _, _, hr, _ => hr
 | x :: xs, V, h, hr, hx => by
  have h1 := hx x List.mem_cons_self
  exact zgr xs _ _ (hr.clr (by omega)) fun y hy => by rw [z5a]; exact hx y (List.mem_cons_of_mem _ hy)
theorem z8v : ∀ (xs : List Int) (V : List Inf) (i : Nat), (xs.foldl clrV V)[i]? = V[i]?.map fun v => if xs.any (fun x => x.toNat == i) = true then clrI v else v
 | [], V, i => by simp
 | x :: xs, V, i => by
  rw [List.foldl_cons, z8v xs, zl7, Option.map_map]
  congr 1
  funext v
  simp only [Function.comp, List.any_cons, Bool.or_eq_true, beq_iff_eq]
  by_cases e1 : x.toNat = i <;> by_cases e2 : xs.any (fun x => x.toNat == i) = true <;> simp [e1, e2, clrI]
theorem zqy {n : Nat} {fs gs : List (List FV)} (hl : gs.length ≤ fs.length) (h : ∀ (i : Nat) (e e' : List FV), fs[i]? = some e → gs[i]? = some e' → LeR e e') : OLe (.arz n fs) (.arz n gs) :=
 .rows n fs gs hl (fun i e e' he he' => (h i e e' he he').length) fun i j e e' f f' he he' hf hf' => (h i e e' he he').get j f f' hf hf'
theorem c_sundo1 (x v : Int) : AC Tryz.prog 106 [ci x, .c (.a (.ep 0 1 0 0))] [obj1 v] (cb (decide (x ≥ v))) [obj1 v] := by
 refine AC.vc hP sh lv106 (Nat.le_refl _) (by simp [isLive]) (by simp) (Eq.mpr (v106 ..) ?_)
 exact ⟨.refl _, rfl⟩
abbrev fnU : TV := .c (.fn (.func 106) [] [(false, [.ep 1 1 0 0])])
theorem l_sidx (T : List Int) (m : Nat) (v : Int) (hm : m ≤ T.length) (hB : T.length ≤ 1073741824) (h : ∀ x ∈ T.take m, x < v) : ∀ (j i : Nat), i + j = m →
  RPt Tryz.prog 132 2 (ci (-1)) [.arz 1 (IR T), obj1 v] 1 ⟨[(0, .c (.a (.osl 0 1 0 m))), (1, fnU), (7, ci (m : Int)), (8, ci (i : Int))], [(0, .arz 1 (IR T)), (1, obj1 v)], 2⟩
 | 0, i, hi => by
  refine RPt.vc hP sh zoc (Eq.mpr (z9y ..) ?_)
  exact z01 (fun h => absurd (of_decide_eq_true h) (by omega)) (fun _ => ⟨.refl _, rfl⟩)
 | j + 1, i, hi => by
  refine RPt.vc hP sh zoc (Eq.mpr (z9y ..) ?_)
  have hi2 : i < T.length := by omega
  have eg : List.getD (IR T) (0 + Int.toNat (i : Int)) [] = [.int .i64 T[i]] := by rw [Nat.zero_add, Int.toNat_natCast]; simp [IR, List.getD, hi2]
  have hx : T[i] < v := h _ (by rw [List.mem_take_iff_getElem]; exact ⟨i, by omega, rfl⟩)
  have hc := c_sundo1 T[i] v
  rw [eg, w64 (x := (i : Int) + 1) (by omega) (by omega)]
  refine z01 (fun _ => ⟨⟨by omega, by omega⟩, ⟨by rw [z42]; omega, rfl, rfl⟩, _, hc, z01 (fun e => absurd (of_decide_eq_true e) (by omega)) (fun _ => ?_)⟩) (fun h => absurd (of_decide_eq_false h) (by omega))
  exact l_sidx T m v hm hB h j (i + 1) (by omega)
theorem c_sdel (T : List Int) (m : Nat) (v : Int) (hm : m ≤ T.length) (hB : T.length ≤ 1073741824) (h : ∀ x ∈ T.take m, x < v) :
  AC Tryz.prog 105 [.c (.a (.osl 0 1 0 m)), fnU] [.arz 1 (IR T), obj1 v] (.c (.a (.osl 0 1 0 m))) [.arz 1 (IR T), obj1 v] := by
 have h1 : AC Tryz.prog 132 [.c (.a (.osl 0 1 0 m)), fnU] [.arz 1 (IR T), obj1 v] (ci (-1)) [.arz 1 (IR T), obj1 v] := by
  refine AC.vc hP sh zoc (Nat.le_refl _) (by simp [isLive]) (by simp) (Eq.mpr (zq1 ..) ?_)
  exact l_sidx T m v hm hB h m 0 (by omega)
 refine AC.vc hP sh lv105 (Nat.le_refl _) (by simp [isLive]) (by simp) (Eq.mpr (zq5 ..) ?_)
 exact ⟨_, h1, z01 (fun _ => ⟨.refl _, rfl⟩) (fun h => by cases h)⟩
abbrev stU (T : List Int) (L m n : Nat) (h : List (List FV)) (i : Nat) : St :=
 ⟨[(0, aS 0), (3, .c (.a (.ep 5 2 0 0))), (4, ci (m : Int)), (22, .c (.a (.osl 4 1 m (T.length - m)))), (23, ci ((T.length - m : Nat) : Int)), (24, ci (i : Int))],
  [(0, .arr 2 [[.a (.osl 3 6 0 L), .a (.osl 4 1 0 T.length)]]), (1, .gone), (2, .gone), (3, .arz 6 h), (4, .arz 1 (IR T)), (5, .arr 2 [[.a (.fz (.int .i64 (m : Int))), .a (.fz (.int .i64 (n : Int)))]])], 6⟩
theorem zs9 (T : List Int) (L m n : Nat) (hm : m ≤ T.length) (hB : T.length ≤ 1073741824) (hn : n ≤ L) (hT : ∀ x ∈ T, 0 ≤ x ∧ x < (L : Int)) (hk : ∀ x ∈ T.take m, x < (n : Int)) :
  ∀ (xs : List Int) (i : Nat) (V : List Inf) (h : List (List FV)), T.drop (m + i) = xs → i + xs.length = T.length - m → RowsOf V h → V.length = L →
  RPt Tryz.prog 72 3 (.tup []) [.arr 2 [[.a (.osl 3 6 0 n), .a (.osl 4 1 0 m)]], .gone, .gone, .arz 6 (xs.foldl clrR h), .arz 1 (IR T)] 1 (stU T L m n h i)
 | [], i, V, h, hd, hi, hr, hV => by
  refine RPt.vc hP sh lv72 (Eq.mpr (v72_1a ..) ?_)
  have hc := c_sdel T m (n : Int) hm hB hk
  simp only [List.length_nil, Nat.add_zero] at hi
  rw [zfa (by omega), zku _ _ (by omega), Int.toNat_natCast, Int.toNat_natCast]
  exact z01 (fun h => absurd (of_decide_eq_true h) (by omega)) (fun _ => ⟨by omega, by omega, _, hc, .refl _, rfl⟩)
 | x :: xs, i, V, h, hd, hi, hr, hV => by
  refine RPt.vc hP sh lv72 (Eq.mpr (v72_1a ..) ?_)
  obtain ⟨g1, g2, g3⟩ := drop_get hd
  have hx := hT x (List.mem_of_mem_drop (by rw [hd]; exact List.mem_cons_self))
  have hxl : x.toNat < V.length := by omega
  have hrow := (hr.get hxl).sz
  have hlen := hr.1
  simp only [List.length_cons] at hi
  have nx := zs9 T L m n hm hB hn hT hk xs (i + 1) (clrV V x) (clrR h x) (by rw [← Nat.add_assoc]; exact g3) (by omega) (hr.clr hxl) (by rw [z5a]; exact hV)
  rw [show (Int.toNat (i : Int)) = i from Int.toNat_natCast i, g2, w64 (x := (i : Int) + 1) (by omega) (by omega)]
  refine z01 (fun _ => ⟨⟨by omega, by omega⟩, ⟨by rw [z42]; omega, rfl, rfl⟩, hx, ⟨by show 0 + x.toNat < _; omega, ?_, rfl⟩, hx, ⟨by show 0 + x.toNat < _; omega, by show (List.getD h (0 + x.toNat) []).length = 6; rw [Nat.zero_add]; exact hrow.1⟩, nx⟩) (fun h => absurd (of_decide_eq_false h) (by omega))
  show [FV.int .i64 (FV.asI (List.getD (List.getD h (0 + x.toNat) []) 0 FV.nils))] = List.take 1 (List.drop 0 (List.getD h (0 + x.toNat) []))
  rw [Nat.zero_add, List.drop_zero, hrow.2.1, hrow.2.2]
def z9s (s : Sto) (m n : Nat) : Sto := ⟨((s.T.drop m).foldl clrV s.V).take n, s.T.take m⟩
def OKT (s : Sto) : Prop := ∀ x ∈ s.T, 0 ≤ x ∧ x < (s.V.length : Int)
theorem zo5 (s : Sto) (m n : Nat) (hm : m ≤ s.T.length) (hB : s.T.length ≤ 1073741824) (hn : n ≤ s.V.length) (hT : OKT s) (hk : ∀ x ∈ s.T.take m, x < (n : Int)) :
  AC Tryz.prog 72 [aS 0, .agg [.a (.fz (.int .i64 (m : Int))), .a (.fz (.int .i64 (n : Int)))]] (oS s) (.tup []) (oS' (z9s s m n)) := by
 have hr := zgr (s.T.drop m) s.V (SR s.V) (SR_of _) fun x hx => hT x (List.mem_of_mem_drop hx)
 refine AC.obj (Hs' := [.arr 2 [[.a (.osl 3 6 0 n), .a (.osl 4 1 0 m)]], .gone, .gone, .arz 6 ((s.T.drop m).foldl clrR (SR s.V)), .arz 1 (IR s.T)]) ?_ ⟨?_, .refl _, .refl _, ?_, ?_, trivial⟩
 · refine AC.vc hP sh lv72 (by simp) (by simp [isLive]) (by simp [isLive]) (Eq.mpr (v72 ..) ?_)
   rw [zfa (by omega), zku _ _ (by omega), Int.toNat_natCast, Int.toNat_natCast, Nat.zero_add]
   exact ⟨by omega, zs9 s.T s.V.length m n hm hB hn hT hk (s.T.drop m) 0 s.V (SR s.V) rfl (by simp) (SR_of _) rfl⟩
 · have e1 : (z9s s m n).V.length = n := by simp only [z9s, List.length_take, z7f]; omega
   have e2 : (z9s s m n).T.length = m := by simp only [z9s, List.length_take]; omega
   rw [sto2, e1, e2]; exact .refl _
 · have e0 := z7f (s.T.drop m) s.V
   refine zqy (by rw [z55, hr.1, z9s, List.length_take]; omega) fun i e e' he he' => ?_
   rw [SR, List.getElem?_map] at he'
   obtain ⟨v, hv, rfl⟩ := Option.map_eq_some_iff.1 he'
   rw [z9s, List.getElem?_take] at hv
   split at hv
   · exact (hr.2 i v e hv he).le
   · cases hv
 · refine zqy (by rw [z42, z42, z9s, List.length_take]; omega) fun i e e' he he' => ?_
   rw [IR, List.getElem?_map] at he he'
   obtain ⟨v, hv, rfl⟩ := Option.map_eq_some_iff.1 he'
   obtain ⟨v2, hv2, rfl⟩ := Option.map_eq_some_iff.1 he
   rw [z9s, List.getElem?_take] at hv
   split at hv
   · rw [hv2] at hv; injection hv with hv; subst hv; exact LeR.refl _
   · cases hv
end Go.AM

set_option maxRecDepth 100000
open Go Go.Proofs
namespace Go.AM
def z1p (fu : Int → Tm → Tm × Int × Int) : Bool → List Tm → Int → List Tm × Int × Int
 | _, [], g => ([], 0, g)
 | true, t :: l, g => (t :: (z1p fu false l g).1, (z1p fu false l g).2)
 | false, t :: l, g => if (fu g t).2.1 ≠ 0 then ([], (fu g t).2) else ((fu g t).1 :: (z1p fu false l (fu g t).2.2).1, (z1p fu false l (fu g t).2.2).2)
def zab (h : Tm) (r : List Tm × Int × Int) : Tm × Int × Int := if r.2.1 ≠ 0 then (noT, r.2) else (.mk h.k h.s h.n r.1, r.2)
def zjy (fu : Int → Tm → Tm × Int × Int) (q : Tm × Int × Int) : Tm × Int × Int := if q.2.1 ≠ 0 then (noT, q.2) else zab q.1 (z1p fu (q.1.k == 6) q.1.l q.2.2)
def z7t (s : Sto) (f : Int) (t : Tm) : Tm × Int × Int := ((runH s f.toNat t).1, (runH s f.toNat t).2.1, f - ((runH s f.toNat t).2.2 : Int))
def z0j (s : Sto) : Nat → Int → Tm → Tm × Int × Int
 | 0, f, _ => (noT, 80, f)
 | D + 1, f, t => if f ≤ 0 then (noT, 80, f) else zjy (z0j s D) (z7t s (f - 1) t)
theorem zjo (s : Sto) : ∀ (F : Nat) (t : Tm), (runH s F t).2.2 ≤ F
 | 0, t => by
  have hr : runH s 0 t = if (z0h s t).2 = 0 then (t, 0, 0) else (noT, 80, 0) := rfl
  rw [hr]; split <;> exact Nat.le_refl _
 | F + 1, t => by
  have hr : runH s (F + 1) t = if (z0h s t).2 = 0 then (t, 0, 0) else if (z0h s t).2 = 2 then (noT, 80, 0) else ((runH s F (z0h s t).1).1, (runH s F (z0h s t).1).2.1, (runH s F (z0h s t).1).2.2 + 1) := rfl
  rw [hr]
  split
  · exact Nat.zero_le _
  · split
    · exact Nat.zero_le _
    · have := zjo s F (z0h s t).1; simp only; omega
theorem z6s {fu : Int → Tm → Tm × Int × Int} (h : ∀ g t, 0 ≤ g → 0 ≤ (fu g t).2.2 ∧ (fu g t).2.2 ≤ g) : ∀ (l : List Tm) (sk : Bool) (g : Int), 0 ≤ g → 0 ≤ (z1p fu sk l g).2.2 ∧ (z1p fu sk l g).2.2 ≤ g
 | [], _, g, hg => ⟨hg, Int.le_refl _⟩
 | t :: l, true, g, hg => z6s h l false g hg
 | t :: l, false, g, hg => by
  have h1 := h g t hg
  rw [z1p]
  split
  · exact h1
  · have := z6s h l false _ h1.1
    exact ⟨this.1, by simp only; omega⟩
theorem z54 (s : Sto) : ∀ (D : Nat) (f : Int) (t : Tm), 0 ≤ f → 0 ≤ (z0j s D f t).2.2 ∧ (z0j s D f t).2.2 ≤ f
 | 0, f, t, h => ⟨h, Int.le_refl _⟩
 | D + 1, f, t, h => by
  rw [z0j]
  split
  · exact ⟨h, Int.le_refl _⟩
  · have h1 := zjo s (f - 1).toNat t
    have h2 : 0 ≤ (z7t s (f - 1) t).2.2 ∧ (z7t s (f - 1) t).2.2 ≤ f - 1 := by simp only [z7t]; omega
    unfold zjy
    split
    · exact ⟨h2.1, by simp only; omega⟩
    · have h3 := z6s (z54 s D) (z7t s (f - 1) t).1.l ((z7t s (f - 1) t).1.k == 6) _ h2.1
      unfold zab
      split <;> exact ⟨h3.1, by simp only; omega⟩
abbrev aFT (z : Tm × Int × Int) : TV := aTE z.1 z.2.1
abbrev aEP3 : TV := .c (.a (.ep 3 1 0 0))
abbrev stF (s : Sto) (k : Int) (str : List UInt8) (n : Int) (l0 : List Tm) (g : Int) (l : List Tm) (i : Int) : St :=
 ⟨[(0, aS 0), (2, aEP3), (4, .c (.a (.ep 4 4 0 0))), (6, .c (.a (.ep 5 4 0 0))), (9, .c (.a (.osl 6 4 0 l0.length))), (36, ci l0.length), (37, ci i)],
  [(0, sto2 1 2 s), (1, .arz 6 (SR s.V)), (2, .arz 1 (IR s.T)), (3, obj1 g), (4, .arr 4 [cT (.mk k str n l0)]), (5, .arr 4 [zT]), (6, .arz 4 (FTs l))], 7⟩
theorem zjk (s : Sto) (k : Int) (str : List UInt8) (n : Int) (l0 : List Tm) (hl0 : l0.length ≤ SZ) (fu : Int → Tm → Tm × Int × Int) (hfu : ∀ g t, 0 ≤ g → 0 ≤ (fu g t).2.2 ∧ (fu g t).2.2 ≤ g) :
  ∀ (b a : List Tm) (sk : Bool) (g : Int), sk = ((k == 6) && (a.length == 0)) → a.length + b.length = l0.length → 0 ≤ g →
  (∀ u ∈ b, ∀ g' : Int, 0 ≤ g' → g' ≤ g → AC Tryz.prog 68 [aS 0, aT u, aEP3] (oSf s g') (aFT (fu g' u)) (oSf s (fu g' u).2.2)) →
  RPt Tryz.prog 68 4 (aFT (zab (.mk k str n l0) (a ++ (z1p fu sk b g).1, (z1p fu sk b g).2))) (oSf s (z1p fu sk b g).2.2) 1 (stF s k str n l0 g (a ++ b) a.length)
 | [], a, sk, g, hsk, hlen, hg, _ => by
  refine RPt.vc hP sh lv68 (Eq.mpr (v68_1b l0.length l0.length a.length s.V.length s.T.length (SR s.V) (IR s.T) g k str n (FTs l0) 0 [] 0 (FTs (a ++ [])) _ _) ?_)
  simp only [List.length_nil, Nat.add_zero] at hlen
  refine z01 (fun h => absurd (of_decide_eq_true h) (by omega)) (fun _ => ⟨⟨⟨rfl, by rw [z00]; simp; omega⟩, trivial⟩, ?_, rfl⟩)
  rw [List.drop_zero, List.take_of_length_le (by rw [z00]; simp; omega)]
  exact leTE leSl
 | t :: b, a, sk, g, hsk, hlen, hg, ih => by
  simp only [List.length_cons, SZ] at hlen hl0
  have em := z4x a t b
  have h3 := ltI' a t b
  have el : (0 + Int.toNat (a.length : Int)) < (FTs (a ++ t :: b)).length ∧ ((rE (List.getD (FTs (a ++ t :: b)) (0 + Int.toNat (a.length : Int)) []) : List FV) = List.take 4 (List.drop 0 (List.getD (FTs (a ++ t :: b)) (0 + Int.toNat (a.length : Int)) [])) ∧ (4 : Nat) = 4) := by
   rw [Nat.zero_add, em]
   refine ⟨by omega, ?_, rfl⟩
   rw [midI, List.drop_zero, List.take_of_length_le (by rw [z2i]; exact Nat.le_refl _)]
  have el2 : (0 + Int.toNat (a.length : Int)) < (FTs (a ++ t :: b)).length ∧ (List.getD (FTs (a ++ t :: b)) (0 + Int.toNat (a.length : Int)) []).length = 4 := ⟨el.1, by rw [Nat.zero_add, midI]; exact z2i t⟩
  have ea : aE (List.getD (FTs (a ++ t :: b)) (0 + Int.toNat (a.length : Int)) []) = aT t := by rw [Nat.zero_add, z3u]
  refine RPt.vc hP sh lv68 (Eq.mpr (v68_1b l0.length l0.length a.length s.V.length s.T.length (SR s.V) (IR s.T) g k str n (FTs l0) 0 [] 0 (FTs (a ++ t :: b)) _ _) ?_)
  rw [ea, w64 (x := (a.length : Int) + 1) (by omega) (by omega)]
  refine z01 (fun _ => ?_) (fun h => absurd (of_decide_eq_false h) (by omega))
  cases sk with
  | true =>
   have hsk : (k == 6) = true ∧ (a.length == 0) = true := by rw [← Bool.and_eq_true]; exact hsk.symm
   have ha : a = [] := List.eq_nil_of_length_eq_zero (by simpa using hsk.2)
   subst ha
   have h2 := zjk s k str n l0 (by simp only [SZ]; omega) fu hfu b [t] false g (by simp) (by simp at hlen ⊢; omega) hg (fun u hu => ih u (List.mem_cons_of_mem _ hu))
   exact z01 (fun _ => z01 (fun _ => h2) (fun h => by cases h)) (fun h => absurd hsk.1 (by rw [h]; simp))
  | false =>
   have hc := ih t List.mem_cons_self g hg (Int.le_refl _)
   have hq := hfu g t hg
   have go : ((0 : Int) ≤ (a.length : Int) ∧ (a.length : Int) < ((l0.length : Nat) : Int)) := by omega
   have eK : z1p fu false (t :: b) g = if (fu g t).2.1 ≠ 0 then ([], (fu g t).2) else ((fu g t).1 :: (z1p fu false b (fu g t).2.2).1, (z1p fu false b (fu g t).2.2).2) := rfl
   have next := zjk s k str n l0 (by simp only [SZ]; omega) fu hfu b (a ++ [(fu g t).1]) false (fu g t).2.2 (by simp) (by simp; omega) hq.1 (fun u hu g' h0 h1 => ih u (List.mem_cons_of_mem _ hu) g' h0 (by omega))
   generalize fu g t = z at *
   obtain ⟨z1, z2, z3⟩ := z
   simp only at hc hq eK next
   have step : br (z2 != 0) (TV.Le (.tup [(true, [.a (.fz (.int .i64 0)), .a (.fz (.str [])), .a (.fz (.int .i64 0)), .a (.fz .nils)]), (false, [.a (.fz (.int .i64 z2))])]) (aFT (zab (.mk k str n l0) (a ++ (z1p fu false (t :: b) g).1, (z1p fu false (t :: b) g).2))) ∧ oSf s z3 = oSf s (z1p fu false (t :: b) g).2.2)
     (RPt Tryz.prog 68 4 (aFT (zab (.mk k str n l0) (a ++ (z1p fu false (t :: b) g).1, (z1p fu false (t :: b) g).2))) (oSf s (z1p fu false (t :: b) g).2.2) 1 (stF s k str n l0 z3 (a ++ z1 :: b) ((a.length : Int) + 1))) := by
    refine z01 (fun h => ?_) (fun h => ?_)
    · have h : z2 ≠ 0 := by simpa using h
      rw [if_pos h] at eK
      rw [eK, zab, if_pos h]
      exact ⟨leTE (l := []) z0d, rfl⟩
    · have h : ¬ z2 ≠ 0 := by simpa using h
      rw [if_neg h] at eK
      rw [eK]
      rw [List.append_assoc, ap a z1 b, nx] at next
      exact next
   have tail := step
   rw [show stF s k str n l0 z3 (a ++ z1 :: b) ((a.length : Int) + 1) = ⟨[(0, aS 0), (2, aEP3), (4, .c (.a (.ep 4 4 0 0))), (6, .c (.a (.ep 5 4 0 0))), (9, .c (.a (.osl 6 4 0 l0.length))), (36, ci l0.length), (37, ci ((a.length : Int) + 1))],
  [(0, sto2 1 2 s), (1, .arz 6 (SR s.V)), (2, .arz 1 (IR s.T)), (3, obj1 z3), (4, .arr 4 [cT (.mk k str n l0)]), (5, .arr 4 [zT]), (6, .arz 4 (List.set (FTs (a ++ t :: b)) (0 + Int.toNat (a.length : Int)) (FT4 z1)))], 7⟩ by rw [zsr]] at tail
   have hsk : ((k == 6) && (a.length == 0)) = false := hsk.symm
   refine z01 (fun h6 => z01 (fun h0 => ?_) (fun _ => ⟨go, el, (z1, z2, z3), hc, go, el2, tail⟩)) (fun _ => ⟨go, el, (z1, z2, z3), hc, go, el2, tail⟩)
   exfalso
   have h6 : (k == 6) = true := h6
   have h0 : ((a.length : Int) == 0) = true := h0
   rw [h6, Bool.true_and] at hsk
   simp at hsk h0
   exact hsk h0
theorem c_sfull (s : Sto) (hs : OKS s) : ∀ (D : Nat) (f : Int) (t : Tm), f.toNat ≤ D → 0 - 9223372036854775808 ≤ f → z02 t = true → Fit f.toNat t → AC Tryz.prog 68 [aS 0, aT t, aEP3] (oSf s f) (aFT (z0j s D f t)) (oSf s (z0j s D f t).2.2) := by
 intro D
 induction D with
 | zero =>
  intro f t hD h0 hv hf
  obtain ⟨k, str, n, l⟩ := t
  refine AC.vc hP sh lv68 (Nat.le_refl _) (by simp [isLive]) (by simp) (Eq.mpr (v68 k str n (FTs l) ..) ?_)
  exact z01 (fun _ => ⟨leTE (l := []) z0d, rfl⟩) (fun h => absurd (of_decide_eq_false h) (by omega))
 | succ D ihD =>
  intro f t hD h0 hv hf
  by_cases hf0 : f ≤ 0
  · have e : z0j s (D + 1) f t = (noT, 80, f) := by rw [z0j, if_pos hf0]
    rw [e]
    obtain ⟨k, str, n, l⟩ := t
    refine AC.vc hP sh lv68 (Nat.le_refl _) (by simp [isLive]) (by simp) (Eq.mpr (v68 k str n (FTs l) ..) ?_)
    exact z01 (fun _ => ⟨leTE (l := []) z0d, rfl⟩) (fun h => absurd (of_decide_eq_false h) (by omega))
  · have hfit := hf.mono (show (f - 1).toNat ≤ f.toNat by omega)
    have hf5 := hf.2.2.2
    have hh := zrw s hs (f - 1).toNat (f - 1) t rfl (by omega) hv hfit
    have hq := z8o hs hv hfit
    have e : z0j s (D + 1) f t = zjy (z0j s D) (z7t s (f - 1) t) := by rw [z0j, if_neg hf0]
    rw [e]
    have eh : z7t s (f - 1) t = ((runH s (f - 1).toNat t).1, (runH s (f - 1).toNat t).2.1, f - 1 - ((runH s (f - 1).toNat t).2.2 : Int)) := rfl
    rw [eh]
    generalize runH s (f - 1).toNat t = q at *
    obtain ⟨h, er, u⟩ := q
    simp only at hh hq ⊢
    obtain ⟨hu, hq⟩ := hq
    have start : ∀ (r : TV) (o : Int), br (er != 0) (TV.Le (.tup [(true, [.a (.fz (.int .i64 0)), .a (.fz (.str [])), .a (.fz (.int .i64 0)), .a (.fz .nils)]), (false, [.a (.fz (.int .i64 er))])]) r ∧ oSf s (f - 1 - (u : Int)) = oSf s o)
      ((∃ b : Bool, AC Tryz.prog 102 [.c (.a (.fz (.sl false 4 (FTs h.l))))] [] (.c (.a (.fz (.sl b 4 [])))) [] ∧ FV.isSl 4 (.sl b 4 []) = true ∧ RPt Tryz.prog 68 4 r (oSf s o) 1 ⟨[(0, aS 0), (2, aEP3), (4, .c (.a (.ep 4 4 0 0))), (6, .c (.a (.ep 5 4 0 0))), (9, .c (.a (.fz (.sl b 4 [])))), (36, ci 0), (37, ci 0)],
        [(0, sto2 1 2 s), (1, .arz 6 (SR s.V)), (2, .arz 1 (IR s.T)), (3, obj1 (f - 1 - (u : Int))), (4, .arr 4 [cT h]), (5, .arr 4 [zT])], 6⟩) ∨
       (∃ z : List (List FV), AC Tryz.prog 102 [.c (.a (.fz (.sl false 4 (FTs h.l))))] [] (.c (.a (.osl 0 4 0 z.length))) [.arz 4 z] ∧ RPt Tryz.prog 68 4 r (oSf s o) 1 ⟨[(0, aS 0), (2, aEP3), (4, .c (.a (.ep 4 4 0 0))), (6, .c (.a (.ep 5 4 0 0))), (9, .c (.a (.osl 6 4 0 z.length))), (36, ci z.length), (37, ci 0)],
          [(0, sto2 1 2 s), (1, .arz 6 (SR s.V)), (2, .arz 1 (IR s.T)), (3, obj1 (f - 1 - (u : Int))), (4, .arr 4 [cT h]), (5, .arr 4 [zT]), (6, .arz 4 z)], 7⟩)) →
      AC Tryz.prog 68 [aS 0, aT t, aEP3] (oSf s f) r (oSf s o) := fun r o hb => by
     obtain ⟨tk, ts, tn, tl⟩ := t
     refine AC.vc hP sh lv68 (Nat.le_refl _) (by simp [isLive]) (by simp) (Eq.mpr (v68 tk ts tn (FTs tl) ..) ?_)
     rw [w64 (x := f - 1) (by omega) (by omega)]
     exact z01 (fun h => absurd (of_decide_eq_true h) (by omega)) (fun _ => ⟨(h, er, f - 1 - (u : Int)), hh, hb⟩)
    refine start _ _ (z01 (fun he => ?_) (fun he => ?_))
    · have he : er ≠ 0 := by simpa using he
      rw [zjy, if_pos he]
      exact ⟨leTE (l := []) z0d, rfl⟩
    · have he : er = 0 := by simpa using he
      subst he
      rcases hq with ⟨_, hvh, hfh, _⟩ | ⟨h80, _⟩
      · have hls : h.l.length ≤ SZ := by have := hfh.sz; have := h.sz_eq; have := Tm.szs_length h.l; omega
        rw [zjy, if_neg (by simp)]
        have hg0 : 0 ≤ f - 1 - (u : Int) := by omega
        have kid : ∀ x ∈ h.l, ∀ g' : Int, 0 ≤ g' → g' ≤ f - 1 - (u : Int) → AC Tryz.prog 68 [aS 0, aT x, aEP3] (oSf s g') (aFT (z0j s D g' x)) (oSf s (z0j s D g' x).2.2) := fun x hx g' h0 h1 => by
         have hvx : z02 x = true := by
          obtain ⟨hk, hst, hn, hl⟩ := h
          by_cases h5 : hk = 5 ∨ hk = 6
          · exact z1t hvh h5 x hx
          · rw [not_or] at h5
            have := okB0 (z08 _ hvh) h5.1 h5.2
            have hx : x ∈ hl := hx
            rw [this] at hx; cases hx
         exact ihD g' x (by omega) (by omega) hvx ((hfh.kid hx).mono (by omega))
        have loop := zjk s h.k h.s h.n h.l hls (z0j s D) (z54 s D) h.l [] (h.k == 6) (f - 1 - (u : Int)) (by simp) (by simp) hg0 kid
        obtain ⟨hk, hst, hn, hl⟩ := h
        simp only [Tm.l, Tm.k, Tm.s, Tm.n, List.nil_append] at loop hls ⊢
        have e9 : zab (.mk hk hst hn hl) ((z1p (z0j s D) (hk == 6) hl (f - 1 - (u : Int))).1, (z1p (z0j s D) (hk == 6) hl (f - 1 - (u : Int))).2) = zab (.mk hk hst hn hl) (z1p (z0j s D) (hk == 6) hl (f - 1 - (u : Int))) := rfl
        have e8 : (zab (.mk hk hst hn hl) (z1p (z0j s D) (hk == 6) hl (f - 1 - (u : Int)))).2.2 = (z1p (z0j s D) (hk == 6) hl (f - 1 - (u : Int))).2.2 := by unfold zab; split <;> rfl
        rw [e8]
        by_cases hnil : hl = []
        · subst hnil
          refine .inl ⟨false, zjs.2, rfl, ?_⟩
          refine RPt.vc hP sh lv68 (Eq.mpr (v68_1a false [] 0 0 s.V.length s.T.length (SR s.V) (IR s.T) (f - 1 - (u : Int)) hk hst hn (FTs []) 0 [] 0 _ _) ?_)
          exact z01 (fun h => by cases h) (fun _ => ⟨.refl _, rfl⟩)
        · refine .inr ⟨FTs hl, zjs.1 (FTs hl) (by rw [z1w]; simp [hnil]) (by rw [z00]; simp only [SZ, B] at *; omega), ?_⟩
          rw [z00]
          exact loop
      · cases h80
end Go.AM

set_option maxRecDepth 100000
open Go Go.Proofs
namespace Go.AM
def lastT (l : List Tm) : Tm := l.getLastD default
def ze7 (b : Tm) : Tm := z07 (hd b.l) b.l.tail.dropLast
def z49 (b : Tm) : Bool := b.k == 6 && (lastT b.l).k == 3 && (lastT b.l).n == 0 && occF (ze7 b) 0 == 0
def z9i (b : Tm) : Tm := if z49 b = true then shT 0 (-1) (ze7 b) 0 else noT
mutual
def z09 : Tm → Tm
 | .mk k s n l => if (k == 5) = true then (if z49 (hd (z1q l)) = true then z9i (hd (z1q l)) else .mk 5 [] 0 [hd (z1q l)]) else if (k == 6) = true then z07 (hd (z1q l)) (z1q l).tail else .mk k s n l
def z1q : List Tm → List Tm
 | [] => []
 | t :: l => z09 t :: z1q l
end
theorem zgi {k n : Int} {s : List UInt8} {l : List Tm} (h : okB (.mk k s n l) = true) (hk : k = 6) : ∃ x a z, l = x :: a ++ [z] ∧ x.k ≠ 6 ∧ okB x = true ∧ okL a = true ∧ okB z = true := by
 obtain ⟨x, y, r, rfl, h6, hl⟩ := okB6 h hk
 refine ⟨x, (y :: r).dropLast, (y :: r).getLast (by simp), by rw [List.cons_append, List.dropLast_concat_getLast], h6, z4s hl List.mem_cons_self, zra fun u hu => z4s hl (List.mem_cons_of_mem _ (List.dropLast_subset _ hu)), z4s hl (List.mem_cons_of_mem _ (List.getLast_mem _))⟩
theorem last_app (x : Tm) (a : List Tm) (z : Tm) : lastT (x :: a ++ [z]) = z := by
 rw [lastT, List.getLastD_eq_getLast?, List.getLast?_append]; rfl
theorem zat (k n : Int) (s : List UInt8) (x : Tm) (a : List Tm) (z : Tm) : ze7 (.mk k s n (x :: a ++ [z])) = z07 x a := by
 rw [ze7]; show z07 x ((a ++ [z]).dropLast) = _
 rw [List.dropLast_concat]
theorem drop6 {b : Tm} (h : z49 b = true) : b.k = 6 := by
 simp only [z49, Bool.and_eq_true, beq_iff_eq] at h; exact h.1.1.1
theorem drop0 {b : Tm} (h : z49 b = true) : occF (ze7 b) 0 = 0 := by
 simp only [z49, Bool.and_eq_true, beq_iff_eq] at h; exact h.2
theorem zlx {b : Tm} (h : okB b = true) (hk : b.k = 6) : okB (ze7 b) = true ∧ (lvB b = true → lvB (ze7 b) = true) ∧ (ze7 b).sz ≤ b.sz ∧ ∀ M, bd M b → bd M (ze7 b) := by
 obtain ⟨k, s, n, l⟩ := b
 have hk' : k = 6 := hk
 obtain ⟨x, a, z, rfl, h6, hx, ha, hz⟩ := zgi h hk'
 rw [zat]
 refine ⟨z4u hx ha, fun hl => ?_, ?_, fun M hb => ?_⟩
 · rw [z30 (.inr hk')] at hl
   exact z4w (z7k hl List.mem_cons_self) (zlc fun u hu => z7k hl (List.mem_cons_of_mem _ (List.mem_append_left _ hu)))
 · have := z2g x a
   simp only [Tm.sz, List.cons_append, Tm.szs, Tm.szs_append]; omega
 · exact z2h (z2y hb.2 List.mem_cons_self) (z74 fun u hu => z2y hb.2 (List.mem_cons_of_mem _ (List.mem_append_left _ hu)))
theorem zl9 : ∀ {l : List Tm} {i : Int}, occL l i = 0 → ∀ u ∈ l, occF u i = 0
 | x :: l, i, h, u, hu => by
  simp only [occL] at h
  rcases List.mem_cons.1 hu with rfl | hu
  · omega
  · exact zl9 (l := l) (by omega) u hu
theorem occ_kids {k n : Int} {s : List UInt8} {l : List Tm} {d : Int} (h : occF (.mk k s n l) d = 0) : ∀ u ∈ l, occF u (d + if (k == 5) = true then 1 else 0) = 0 := by
 rw [occF] at h
 split at h
 · cases h
 · exact zl9 h
theorem zr9 {t : Tm} (h : lvB t = true) (d : Int) (h0 : occF t d = 0) (hd : 0 ≤ d) : lvB (shT 0 (-1) t d) = true := by
 refine zaw _ (fun u d => occF u d = 0 ∧ 0 ≤ d) (fun k s n l d hQ u hu => ⟨occ_kids hQ.1 u hu, by have := hQ.2; split <;> omega⟩) (fun u d hu hQ h5 h6 => ?_) t d h ⟨h0, hd⟩
 unfold z3p
 split
 · rename_i hc
   obtain ⟨k, s, n, l⟩ := u
   have hk : k = 3 := by have hc := hc.1; have hc : (k == 3) = true := hc; simpa using hc
   subst hk
   rw [z7n (by decide) (by decide), zct] at hu
   have h1 : n ≠ d := fun e => by
    have := hQ.1
    rw [occF, if_pos ⟨rfl, by simp [e]⟩] at this; cases this
   have h2 : d + 0 ≤ n := hc.2
   have := hQ.2
   show lvB (.mk 3 s (n + -1) l) = true
   rw [z7n (by decide) (by decide), zct]
   exact ⟨by omega, by omega, hu.2.2.1, hu.2.2.2⟩
 · exact hu
theorem zo2 {M : Int} (hM : 1 ≤ M) {t : Tm} (h : bd M t) (d : Int) (hd : 0 ≤ d) : bd M (shT 0 (-1) t d) := by
 refine zam _ M M (d + t.sz) (fun u d' hu h0 _ => ?_) t d h hd (Int.le_refl _)
 unfold z3p
 split
 · rename_i hc
   obtain ⟨k, s, n, l⟩ := u
   exact ⟨fun e => by have := hu.1 e; have h2 : d' + 0 ≤ n := hc.2; simp only [Tm.n]; omega, hu.2⟩
 · exact hu
theorem dropF_ok {b : Tm} (h : okB b = true) (hd : z49 b = true) : okB (z9i b) = true ∧ (lvB b = true → lvB (z9i b) = true) ∧ (z9i b).sz ≤ b.sz ∧ ∀ M, 1 ≤ M → bd M b → bd M (z9i b) := by
 obtain ⟨h1, h2, h3, h4⟩ := zlx h (drop6 hd)
 rw [z9i, if_pos hd]
 exact ⟨zpb 0 h1, fun hl => zr9 (h2 hl) 0 (drop0 hd) (Int.le_refl _), Nat.le_trans (zd4 ..) h3, fun M hM hb => zo2 hM (h4 M hb) 0 (Int.le_refl _)⟩
mutual
theorem z68 : ∀ t : Tm, okB t = true → okB (z09 t) = true ∧ (lvB t = true → lvB (z09 t) = true) ∧ (z09 t).sz ≤ t.sz ∧ ∀ M, 1 ≤ M → bd M t → bd M (z09 t)
 | .mk k s n l, h => by
  have hl := zgj l (zep h)
  rw [z09]
  split
  · rename_i h5
    have h5 : k = 5 := by simpa using h5
    obtain ⟨x, rfl, hx⟩ := okB5 h h5
    obtain ⟨g1, g2, g3, g4⟩ := hl
    simp only [z1q, okL, lvL, Bool.and_true, Tm.szs] at g1 g2 g3 g4
    show okB (if z49 (z09 x) = true then z9i (z09 x) else .mk 5 [] 0 [z09 x]) = true ∧ _
    rw [show hd (z1q [x]) = z09 x from rfl]
    split
    · rename_i hd
      obtain ⟨f1, f2, f3, f4⟩ := dropF_ok g1 hd
      refine ⟨f1, fun hl => f2 (g2 ?_), by simp only [Tm.sz, Tm.szs]; omega, fun M hM hb => f4 M hM (g4 M hM hb.2).1⟩
      rw [z30 (.inl h5)] at hl
      simpa [lvL] using hl
    · refine ⟨by simp [okB, okL, g1], fun hl => ?_, by simp only [Tm.sz, Tm.szs]; omega, fun M hM hb => ⟨fun e => by omega, g4 M hM hb.2⟩⟩
      rw [z30 (.inl h5)] at hl
      rw [z30 (.inl rfl)]
      simp only [lvL, Bool.and_true] at hl ⊢
      exact g2 hl
  · split
    · rename_i h6
      have h6 : k = 6 := by simpa using h6
      obtain ⟨x, y, r, rfl, _, _⟩ := okB6 h h6
      obtain ⟨g1, g2, g3, g4⟩ := hl
      rw [show hd (z1q (x :: y :: r)) = z09 x from rfl, show (z1q (x :: y :: r)).tail = z1q (y :: r) from rfl]
      rw [show z1q (x :: y :: r) = z09 x :: z1q (y :: r) from rfl] at g1 g2 g3 g4
      simp only [okL, Bool.and_eq_true] at g1
      refine ⟨z4u g1.1 g1.2, fun hl => ?_, ?_, fun M hM hb => ?_⟩
      · rw [z30 (.inr h6)] at hl
        have := g2 hl
        simp only [lvL, Bool.and_eq_true] at this
        exact z4w this.1 this.2
      · have := z2g (z09 x) (z1q (y :: r))
        simp only [Tm.szs] at g3
        simp only [Tm.sz, Tm.szs]; omega
      · have := g4 M hM hb.2
        exact z2h this.1 this.2
    · exact ⟨h, fun hl => hl, Nat.le_refl _, fun M _ hb => hb⟩
theorem zgj : ∀ l : List Tm, okL l = true → okL (z1q l) = true ∧ (lvL l = true → lvL (z1q l) = true) ∧ Tm.szs (z1q l) ≤ Tm.szs l ∧ ∀ M, 1 ≤ M → bds M l → bds M (z1q l)
 | [], _ => ⟨rfl, fun _ => rfl, Nat.le_refl _, fun _ _ _ => trivial⟩
 | t :: l, h => by
  simp only [okL, Bool.and_eq_true] at h
  obtain ⟨a1, a2, a3, a4⟩ := z68 t h.1
  obtain ⟨b1, b2, b3, b4⟩ := zgj l h.2
  refine ⟨by simp only [z1q, okL, a1, b1, Bool.and_self], fun hl => ?_, by simp only [z1q, Tm.szs]; omega, fun M hM hb => ⟨a4 M hM hb.1, b4 M hM hb.2⟩⟩
  simp only [lvL, Bool.and_eq_true] at hl
  simp only [z1q, lvL, a2 hl.1, b2 hl.2, Bool.and_self]
end
theorem c_efree (t : Tm) (i : Int) (hs : t.sz ≤ B) (h0 : 0 - 2305843009213693952 ≤ i) (h1 : i + t.sz ≤ 2305843009213693952) : AC Tryz.prog 130 [aT t, ci i] [] (cb (z02 t && decide (occF t i > 0))) [] := by
 have h := zqq t hs i h0 h1
 obtain ⟨k, s, n, l⟩ := t
 refine AC.vc hP sh lv130 (Nat.le_refl _) (by simp) (by simp) (Eq.mpr (v130 k s n (FTs l) i _ _) ?_)
 refine ⟨_, h, z06 ?_⟩
 cases z02 (.mk k s n l) with
 | false => rfl
 | true => simp
theorem lastI (x : Tm) (a : List Tm) (z : Tm) (hl : a.length ≤ SZ) : IntKind.wrap .i64 ((((FTs (x :: a ++ [z])).length : Nat) : Int) - 1) = ((x :: a).length : Int) := by
 rw [z00]; simp only [SZ] at hl
 rw [w64 (by simp; omega) (by simp; omega)]; simp
theorem c_edrop (b : Tm) (ho : okB b = true) (hl : lvB b = true) (hs : b.sz ≤ SZ) (hb : bd M61 b) : AC Tryz.prog 104 [aT b] [] (.tup [(true, cT (z9i b)), (false, [.a (.fz (.bool (z49 b)))])]) [] := by
 have no : z49 b = false → z9i b = noT := fun h => if_neg (by rw [h]; simp)
 obtain ⟨k, s, n, l⟩ := b
 have hlen := Tm.szs_length l
 simp only [Tm.sz, SZ] at hs
 refine AC.vc hP sh lv104 (Nat.le_refl _) (by simp) (by simp) (Eq.mpr (v104 k s n (FTs l) _ _) ?_)
 refine ⟨rfl, z01 (fun h => ?_) (fun h => ?_)⟩
 · have hd : z49 (.mk k s n l) = false := by
    have h : (k != 6) = true := h
    rw [z49, show (Tm.k (.mk k s n l) == 6) = false by show (k == 6) = false; simpa using h]; rfl
   rw [no hd, hd]
   exact ⟨leTB (l := []) z0d, rfl⟩
 · have h6 : k = 6 := by simpa using h
   subst h6
   obtain ⟨x, a, z, rfl, hx6, hx, ha, hz⟩ := zgi ho rfl
   obtain ⟨r1, r2, r3, r4⟩ := zlx ho rfl
   have hd : z49 (.mk 6 s n (x :: a ++ [z])) = (z.k == 3 && z.n == 0 && occF (z07 x a) 0 == 0) := by
    rw [z49, zat, show Tm.l (.mk 6 s n (x :: a ++ [z])) = x :: a ++ [z] from rfl, last_app]; rfl
   have hdF : z49 (.mk 6 s n (x :: a ++ [z])) = true → z9i (.mk 6 s n (x :: a ++ [z])) = shT 0 (-1) (z07 x a) 0 := fun h => by rw [z9i, if_pos h, zat]
   rw [zat] at r1 r2 r3 r4
   have hal : a.length ≤ 130000000 := by rw [List.length_append, List.length_cons] at hlen; omega
   rw [lastI x a z hal]
   have el : FV.isSl 4 (.sl false 4 (FTs (x :: a ++ [z]))) = true ∧ ((0 : Int) ≤ ((x :: a).length : Int) ∧ (((x :: a).length : Int) < (((FTs (x :: a ++ [z])).length : Nat) : Int) ∧ (rE (List.getD (FTs (x :: a ++ [z])) (Int.toNat ((x :: a).length : Int)) []) : List FV) = List.getD (FTs (x :: a ++ [z])) (Int.toNat ((x :: a).length : Int)) [])) := ⟨rfl, by omega, ltI' (x :: a) z [], z4x (x :: a) z []⟩
   have ez : List.getD (FTs (x :: a ++ [z])) (Int.toNat ((x :: a).length : Int)) [] = FT z := midI (x :: a) z []
   have ek : FV.asI (List.getD (List.getD (FTs (x :: a ++ [z])) (Int.toNat ((x :: a).length : Int)) []) 0 FV.nils) = z.k := by rw [ez]; cases z; rfl
   have en : FV.asI (List.getD (List.getD (FTs (x :: a ++ [z])) (Int.toNat ((x :: a).length : Int)) []) 2 FV.nils) = z.n := by rw [ez]; cases z; rfl
   rw [ek, en]
   refine ⟨el, z01 (fun h1 => ?_) (fun h1 => ⟨el, z01 (fun h2 => ?_) (fun h2 => ⟨el0 x (a ++ [z]), rfl, ⟨by omega, by simp only [List.length_cons]; omega, by rw [lenI, List.length_append]; omega⟩, ?_⟩)⟩)⟩
   · have hd' : z49 (.mk 6 s n (x :: a ++ [z])) = false := by
      have h1 : (z.k != 3) = true := h1
      rw [hd, show (z.k == 3) = false by simpa using h1]; rfl
     rw [no hd', hd']
     exact ⟨leTB (l := []) z0d, rfl⟩
   · have hd' : z49 (.mk 6 s n (x :: a ++ [z])) = false := by
      have h2 : (z.n != 0) = true := h2
      rw [hd, show (z.n == 0) = false by simpa using h2]; simp
     rw [no hd', hd']
     exact ⟨leTB (l := []) z0d, rfl⟩
   · have e1 : aE (List.getD (FTs (x :: a ++ [z])) 0 []) = aT x := zco x
     have e2 : List.drop 1 (List.take (Int.toNat ((x :: a).length : Int)) (FTs (x :: a ++ [z]))) = FTs a := by
      rw [z8m, FTs_take, zk5, List.take_left]; rfl
     rw [e1, e2]
     have hxs : x.l.length ≤ x.sz := by have := x.sz_eq; have := Tm.szs_length x.l; omega
     have hxz : x.sz ≤ 130000000 := by simp only [List.cons_append, Tm.szs] at hs; omega
     have hap := z3c x a (by omega)
     have hrz : (z07 x a).sz ≤ SZ := by simp only [Tm.sz] at r3; simp only [SZ]; omega
     have hfr := c_efree (z07 x a) 0 (by simp only [SZ, B] at *; omega) (by omega) (by simp only [SZ] at hrz; omega)
     have hva : z02 (z07 x a) = true := by rw [z31, r1, r2 hl]; rfl
     rw [hva, Bool.true_and] at hfr
     have hsh := zjp (z07 x a) 0 (-1) (by simp only [SZ, B] at *; omega) (r4 _ hb) (Int.le_refl _) (by simp only [M61]; omega) (by omega) (by simp only [M61]; omega)
     have hz3 : (z.k == 3) = true := by
      have h1 : (z.k != 3) = false := h1
      simpa using h1
     have hz0 : (z.n == 0) = true := by
      have h2 : (z.n != 0) = false := h2
      simpa using h2
     refine ⟨_, hap, _, hfr, z01 (fun h3 => ?_) (fun h3 => ?_)⟩
     · have hd' : z49 (.mk 6 s n (x :: a ++ [z])) = false := by
        have h3 := of_decide_eq_true h3
        rw [hd, show (occF (z07 x a) 0 == 0) = false by simp; omega, Bool.and_false]
       rw [no hd', hd']
       exact ⟨leTB (l := []) z0d, rfl⟩
     · have hd' : z49 (.mk 6 s n (x :: a ++ [z])) = true := by
        have h3 := of_decide_eq_false h3
        rw [hd, hz3, hz0, show (occF (z07 x a) 0 == 0) = true by simp; omega]; rfl
       rw [hdF hd', hd']
       exact ⟨_, hsh, .refl _, rfl⟩
theorem zga : ∀ (b a acc : List Tm), acc ≠ [] → acc.length = a.length → (∀ u ∈ b, AC Tryz.prog 71 [aT u] [] (aT (z09 u)) []) → (a ++ b).length ≤ SZ → (hd (acc ++ z1q b)).l.length ≤ B →
  RPt Tryz.prog 71 0 (aT (z07 (hd (acc ++ z1q b)) (acc ++ z1q b).tail)) [] 3 ⟨[(2, .c (.a (.ep 0 4 0 0))), (6, .c (.a (.osl 1 4 0 acc.length))), (30, aL (a ++ b)), (31, ci (((FTs (a ++ b)).length : Nat) : Int)), (32, ci a.length)], [(0, .arr 4 [zT]), (1, .arz 4 (FTs acc))], 2⟩
 | [], a, acc, hne, hlen, _, hl, hh => by
  simp only [z1q, List.append_nil] at hh hl ⊢
  refine RPt.vc hP sh lv71 (Eq.mpr (v71_3b ..) ?_)
  match acc, hne, hlen, hh with
  | x :: r, _, hlen, hh =>
   simp only [SZ, B, List.length_cons] at hl hlen hh
   have hh : x.l.length ≤ 549755813888 := hh
   have hap := z3c x r (by omega)
   have e2 : List.take (Int.toNat ((x :: r).length : Int) - 1) (List.drop 1 (FTs (x :: r))) = FTs r := by
    rw [z8m, zk5, List.take_of_length_le (by rw [z00]; simp)]; rfl
   have e1 : aE (List.getD (FTs (x :: r)) 0 []) = aT x := zco x
   rw [e2, e1]
   refine z01 (fun h => absurd (of_decide_eq_true h) (by rw [z00]; omega)) (fun _ => ⟨⟨by omega, by simp⟩, ⟨by rw [z00]; simp, ?_, rfl⟩, ⟨by omega, by simp; omega, Int.le_refl _⟩, ⟨rfl, by rw [z8m, z00]; simp; omega⟩, _, hap.args ⟨.refl _, le_c leSl, trivial⟩, zi9 (.refl _)⟩)
   rw [show List.getD (FTs (x :: r)) 0 [] = FT x from rfl, z8y, List.drop_zero, List.take_of_length_le (by rw [z2i]; exact Nat.le_refl _)]
 | t :: b, a, acc, hne, hlen, ih, hl, hh => by
  have hl' := hl
  simp only [List.length_append, List.length_cons, SZ] at hl'
  have h1 := ih t List.mem_cons_self
  have h2 := zga b (a ++ [t]) (acc ++ [z09 t]) (by simp) (by simp [hlen]) (fun u hu => ih u (List.mem_cons_of_mem _ hu)) (by rw [ap]; exact hl) (by rw [ap]; exact hh)
  have h3 := ltI' a t b
  rw [ap, ap, nx] at h2
  rw [z1q]
  refine RPt.vc hP sh lv71 (Eq.mpr (v71_3b ..) ?_)
  rw [z3u, w64 (x := (a.length : Int) + 1) (by omega) (by omega)]
  refine z01 (fun _ => ⟨⟨rfl, by omega, h3, z4x ..⟩, z09 t, h1, Nat.le_refl _, ⟨by rw [z00]; omega, z5d (by omega)⟩, ?_⟩) (fun h => absurd h3 (of_decide_eq_false h))
  have e5 : List.take acc.length (FTs acc) ++ [FT4 (z09 t)] = FTs (acc ++ [z09 t]) := by rw [List.take_of_length_le (by rw [z00]; omega), z5o, z1u]; rfl
  rw [e5]
  rw [List.length_append] at h2
  exact h2
theorem zk9 : ∀ t : Tm, okB t = true → lvB t = true → t.sz ≤ SZ → bd M61 t → AC Tryz.prog 71 [aT t] [] (aT (z09 t)) [] := by
 refine Tm.ind fun t ih ho hl hs hb => ?_
 have hlen := Tm.szs_length t.l
 have hol := zep ho
 obtain ⟨k, s, n, l⟩ := t
 simp only [Tm.sz, Tm.l, SZ] at hs hlen hol
 refine AC.vc hP sh lv71 (Nat.le_refl _) (by simp) (by simp) (Eq.mpr (v71 k s n (FTs l) _ _) ?_)
 refine z01 (fun h => ?_) (fun h => z01 (fun h' => ⟨rfl, ?_⟩) (fun h' => ?_))
 · have h5 : k = 5 := by simpa using h
   subst h5
   obtain ⟨x, rfl, hx⟩ := okB5 ho rfl
   rw [z30 (.inl rfl)] at hl
   have hlx : lvB x = true := by simpa [lvL] using hl
   simp only [Tm.szs] at hs
   obtain ⟨g1, g2, g3, g4⟩ := z68 x hx
   have h1 := ih x (List.mem_singleton.2 rfl) hx hlx (by simp only [SZ]; omega) hb.2.1
   have h2 := c_edrop (z09 x) g1 (g2 hlx) (by simp only [SZ]; omega) (g4 _ (by simp only [M61]; omega) hb.2.1)
   have h3 := zcx 1 (z09 x) (by omega)
   have e : z09 (.mk 5 s n [x]) = if z49 (z09 x) = true then z9i (z09 x) else .mk 5 [] 0 [z09 x] := by rw [z09, if_pos (show ((5 : Int) == 5) = true from rfl)]; rfl
   rw [show aE (List.getD (FTs [x]) 0 []) = aT x from zco x, e]
   refine ⟨el0 x [], _, h1, (z9i (z09 x), z49 (z09 x)), h2, z01 (fun hd => ?_) (fun hd => ⟨_, h3, ?_⟩)⟩
   · have hd : z49 (z09 x) = true := hd
     rw [if_pos hd]; exact ⟨.refl _, rfl⟩
   · rw [if_neg (by rw [show z49 (z09 x) = false from hd]; simp)]; exact ⟨.refl _, rfl⟩
 · have h6 : k = 6 := by simpa using h'
   subst h6
   obtain ⟨x, y, r, rfl, hx6, _⟩ := okB6 ho rfl
   rw [z30 (.inr rfl)] at hl
   have ihl : ∀ u ∈ x :: y :: r, AC Tryz.prog 71 [aT u] [] (aT (z09 u)) [] := fun u hu => ih u hu (z4s hol hu) (z7k hl hu) (by have := Tm.szs_mem hu; simp only [SZ]; omega) (z2y hb.2 hu)
   have hx := (z68 x (z4s hol List.mem_cons_self)).2.2.1
   have hxl : (z09 x).l.length ≤ B := by
    have h1 := (z09 x).sz_eq
    have h2 := Tm.szs_length (z09 x).l
    simp only [Tm.szs] at hs
    simp only [B]; omega
   have loop := zga (y :: r) [x] [z09 x] (by simp) rfl (fun u hu => ihl u (List.mem_cons_of_mem _ hu)) (show (x :: y :: r).length ≤ SZ by simp only [SZ]; omega) hxl
   have h1 := ihl x List.mem_cons_self
   have h3 := ltI' [] x (y :: r)
   refine RPt.vc hP sh lv71 (Eq.mpr (v71_3a ..) ?_)
   rw [show aE (List.getD (FTs (x :: y :: r)) (Int.toNat 0) []) = aT x from zco x, w64 (by omega) (by omega)]
   refine z01 (fun _ => ⟨⟨rfl, by omega, h3, z8y x⟩, z09 x, h1, Nat.le_refl _, z5d (by omega), ?_⟩) (fun h => absurd h3 (of_decide_eq_false h))
   rw [z5o]
   exact loop
 · have h : (k == 5) = false := h
   have h' : (k == 6) = false := h'
   rw [z09, if_neg (by rw [h]; simp), if_neg (by rw [h']; simp)]
   exact ⟨.refl _, rfl⟩
theorem c_eShort (t : Tm) (hs : t.sz ≤ SZ) (hb : bd M61 t) : AC Tryz.prog 26 [aT t] [] (aT (if z02 t = true then z09 t else t)) [] := by
 have h1 := z26 t (by simp only [SZ, B] at *; omega)
 have h2 := fun h => zk9 t (z08 t h) (z3y h) hs hb
 obtain ⟨k, s, n, l⟩ := t
 refine AC.vc hP sh lv26 (Nat.le_refl _) (by simp) (by simp) (Eq.mpr (v26 k s n (FTs l) _ _) ?_)
 refine ⟨_, h1, z01 (fun h => ?_) (fun h => ?_)⟩
 · rw [if_neg (by rw [not_t h]; simp)]; exact ⟨.refl _, rfl⟩
 · rw [if_pos (zng h)]; exact ⟨_, h2 (zng h), .refl _, rfl⟩
end Go.AM

namespace Go.AM
open Go.ChangeShapes Go.WideShapes Go.ChangeAt Go.RowKit
section
variable {H : Type} {enc : TypeId × Value → H} {P : Program} {w : World}
abbrev z9o : Nat → Prop := fun _ => False
def RdN (enc : TypeId × Value → H) (P : Program) (w : World) (b : DataW H → Nat) (fuel : Nat) (t : TypeId) {α : Type} (F : α → List FV) (sz : α → Nat) : Prop :=
 ∀ cs x, DataW.trod enc P w 0 (fun _ => true) true fuel t cs = some x → ∃ a, LRep (FRep w z9o) (F a) cs ∧ sz a ≤ b x.1
theorem zpu {b : DataW H → Nat} {t : TypeId} {k : IntKind} (ht : P.underlying t = some (.int k)) (hb : ∀ d, 1 ≤ b d) (fuel : Nat) : RdN enc P w b fuel t (fun n : Int => [.int k n]) (fun _ => 1) := by
 intro cs x h
 obtain ⟨n, rfl, rfl, _⟩ := DataW.trod_int ht h
 exact ⟨n, .cons (.int k n) .nil, hb _⟩
theorem rd_str {b : DataW H → Nat} {t : TypeId} (ht : P.underlying t = some .string) (hb : ∀ l : List UInt8, l.length + 1 ≤ b (.lit (.string l))) (fuel : Nat) : RdN enc P w b fuel t (fun l : List UInt8 => [.str l]) (fun l => l.length + 1) := by
 intro cs x h
 obtain ⟨s, rfl, rfl, _⟩ := DataW.trod_string ht h
 refine ⟨s.data.toList, .cons ?_ .nil, hb _⟩
 have : (⟨s.data.toList.toArray⟩ : ByteArray) = s := by simp
 have h2 := FRep.str (w := w) (X := z9o) s.data.toList
 rw [this] at h2
 exact h2
def zac {α : Type} (sz : α → Nat) : List α → Nat
 | [] => 0
 | a :: l => sz a + zac sz l
theorem sum_le {α : Type} {sz : α → Nat} {b : DataW H → Nat} {bs : List (DataW H) → Nat} (hbs : ∀ d l, bs (d :: l) = b d + bs l) : ∀ {xs : List α} {es : List (DataW H × List MemPlace)}, xs.length = es.length → (∀ (i : Nat) (x : α) (y : DataW H × List MemPlace), xs[i]? = some x → es[i]? = some y → sz x ≤ b y.1) → zac sz xs ≤ bs (es.map (·.1))
 | [], _, _, _ => by simp [zac]
 | x :: xs, [], h, _ => by simp at h
 | x :: xs, e :: es, h, hr => by
  have h1 := hr 0 x e rfl rfl
  have h2 := sum_le (sz := sz) hbs (xs := xs) (es := es) (by simpa using h) fun i x y hx hy => hr (i + 1) x y (by simpa using hx) (by simpa using hy)
  simp only [zac, List.map_cons, hbs]
  omega
theorem zhh {a : Addr} {n : Nat} {cs : List Value} (h : w.cells? 0 a n = some cs) : cs.length = n ∧ ∀ j u, cs[j]? = some u → w.cell? (a.add j) = some u := by
 unfold World.cells? at h
 rw [if_pos (Nat.zero_le _)] at h
 refine ⟨by have := mapM_some_length h; simpa using this, fun j u hu => ?_⟩
 have hj : j < n := by
  have h1 := (List.getElem?_eq_some_iff.1 hu).1
  have := mapM_some_length h; simp at this; omega
 have := mapM_some_get h j j (by simp [hj])
 rw [this, hu]
theorem zrd {a : Addr} {u : Value} (h : w.cell? a = some u) : a.spot = none := by
 unfold World.cell? at h
 split at h
 · split at h
   · cases h
   · rename_i hs; simpa using hs
 · cases h
theorem cell_blk {a : Addr} {u : Value} (h : w.cell? a = some u) : a.block < w.heap.size := by
 apply Decidable.byContradiction
 intro hn
 have : w.heap[a.block]? = none := by simp; omega
 simp [World.cell?, this] at h
theorem add_zero (a : Addr) : a.add 0 = a := rfl
theorem zkc (b o k : Nat) : (Addr.mk b o none).add k = ⟨b, o + k, none⟩ := by
 unfold Addr.add
 split
 · rename_i h; rw [h]; rfl
 · rfl
theorem zf1 {b : DataW H → Nat} {bs : List (DataW H) → Nat} (hbs : ∀ d l, bs (d :: l) = b d + bs l) (hb0 : ∀ d, 1 ≤ b d) (hb : ∀ es sp, bs es + 1 ≤ b (.slice es sp)) {t e : TypeId} (ht : P.underlying t = some (.slice e)) {n : Nat} (hn : P.cellsOf e = n) (hn0 : 0 < n)
  {α : Type} {F : α → List FV} {sz : α → Nat} (hF : ∀ a, (F a).length = n) {fuel : Nat} (ih : ∀ k, k < fuel → RdN enc P w b k e F sz) : RdN enc P w b fuel t (fun l : List α => [.sl false n (l.map F)]) (fun l => zac sz l + 1) := by
 intro cs x h
 rcases DataW.trod_slice ht h with ⟨rfl, rfl⟩ | ⟨a, len, cap, elems, rest, k, rfl, rfl, rfl, _, hlc, _, hlen, hel, hrest, _⟩
 · exact ⟨[], .cons (.slnil n) .nil, by simpa [zac] using hb0 _⟩
 · rw [hn] at hel
   have key : ∀ (i : Nat) (y : DataW H × List MemPlace), elems[i]? = some y → ∃ x : α, (∃ cs, w.cells? 0 (a.add (i * n)) n = some cs ∧ LRep (FRep w z9o) (F x) cs) ∧ sz x ≤ b y.1 := by
    intro i y hy
    have hi : i < len := by rw [← hlen]; exact (List.getElem?_eq_some_iff.1 hy).1
    have h1 := hel i hi
    rw [hy] at h1
    obtain ⟨cs, h2, h3⟩ := Option.bind_eq_some_iff.1 h1
    obtain ⟨x, h4, h5⟩ := ih k (Nat.lt_succ_self _) cs y h3
    exact ⟨x, ⟨cs, h2, h4⟩, h5⟩
   have key2 : ∃ xs : List α, xs.length = elems.length ∧ ∀ (i : Nat) (x : α), xs[i]? = some x → (∃ cs, w.cells? 0 (a.add (i * n)) n = some cs ∧ LRep (FRep w z9o) (F x) cs) ∧ ∀ y, elems[i]? = some y → sz x ≤ b y.1 := by
    have : ∀ (l : List (DataW H × List MemPlace)) (o : Nat), (∀ i, l[i]? = elems[o + i]?) → ∃ xs : List α, xs.length = l.length ∧ ∀ (i : Nat) (x : α), xs[i]? = some x → (∃ cs, w.cells? 0 (a.add ((o + i) * n)) n = some cs ∧ LRep (FRep w z9o) (F x) cs) ∧ ∀ y, l[i]? = some y → sz x ≤ b y.1 := by
     intro l
     induction l with
     | nil => exact fun o _ => ⟨[], rfl, fun i x h => by simp at h⟩
     | cons y l ih =>
      intro o ho
      obtain ⟨x, hx1, hx2⟩ := key o y (by have := ho 0; simpa using this.symm)
      obtain ⟨xs, h1, h2⟩ := ih (o + 1) (fun i => by have := ho (i + 1); rw [show o + 1 + i = o + (i + 1) by omega]; simpa using this)
      refine ⟨x :: xs, by simp [h1], fun i x' hx' => ?_⟩
      cases i with
      | zero => simp at hx'; subst hx'; exact ⟨by simpa using hx1, fun y' hy' => by simp at hy'; subst hy'; exact hx2⟩
      | succ i =>
       have := h2 i x' (by simpa using hx')
       rw [show o + 1 + i = o + (i + 1) by omega] at this
       exact ⟨this.1, fun y' hy' => this.2 y' (by simpa using hy')⟩
    obtain ⟨xs, h1, h2⟩ := this elems 0 (fun i => by simp)
    exact ⟨xs, h1, fun i x hx => by simpa using h2 i x hx⟩
   obtain ⟨xs, hxl, hx⟩ := key2
   have hsum := sum_le (sz := sz) (b := b) hbs hxl (fun i x y h1 h2 => (hx i x h1).2 y h2)
   have hb' := hb (elems.map (·.1)) (rest.map (·.1))
   refine ⟨xs, ?_, show zac sz xs + 1 ≤ b (.slice (elems.map (·.1)) (rest.map (·.1))) by omega⟩
   by_cases hc0 : cap = 0
   · have h0 : len = 0 := by omega
     subst hc0; subst h0
     have : xs = [] := List.length_eq_zero_iff.1 (by omega)
     subst this
     exact .cons (.sl0 false n a) .nil
   · have hone : ∃ cs, w.cells? 0 a n = some cs := by
      by_cases h0 : len = 0
      · have hr := (hrest rfl).2 0 (by omega)
        have hr' : rest[0]? ≠ none := by
         rw [List.getElem?_eq_getElem (by rw [(hrest rfl).1]; omega)]; simp
        rw [hn] at hr
        rw [h0, show (0 + 0) * n = 0 by simp, add_zero] at hr
        cases hcl : w.cells? 0 a n with
        | none => rw [hcl] at hr; exact absurd hr.symm hr'
        | some cs => exact ⟨cs, rfl⟩
      · have : 0 < xs.length := by omega
        obtain ⟨⟨cs, h1, _⟩, _⟩ := hx 0 xs[0] (by simp [this])
        rw [show 0 * n = 0 by simp, add_zero] at h1
        exact ⟨cs, h1⟩
     obtain ⟨cs0, hq⟩ := hone
     obtain ⟨hl0, hq'⟩ := zhh hq
     have hq0 := hq' 0 (cs0[0]'(by omega)) (by simp)
     rw [add_zero] at hq0
     have hsp : a.spot = none := zrd hq0
     have hbl : a.block < w.heap.size := cell_blk hq0
     obtain ⟨blk, off, sp⟩ := a
     have hsp : sp = none := hsp
     subst hsp
     refine .cons (.sl false n (xs.map F) blk off cap len (fun i j => (w.cell? ⟨blk, off + i * n + j, none⟩).getD (.bool false)) (by rw [List.length_map]; omega) (by rw [List.length_map]; omega) (fun h => h) hbl (fun i e he => ?_) (fun i j e f he hf => ?_) (fun i j e f he hf => ?_)) .nil
     · rw [List.getElem?_map] at he
       obtain ⟨x, _, rfl⟩ := Option.map_eq_some_iff.1 he
       exact hF x
     all_goals
      rw [List.getElem?_map] at he
      obtain ⟨x, hxi, rfl⟩ := Option.map_eq_some_iff.1 he
      obtain ⟨⟨cs, h1, h2⟩, _⟩ := hx i x hxi
      obtain ⟨h3, h4⟩ := zhh h1
      have hj : j < cs.length := by rw [← h2.1]; exact (List.getElem?_eq_some_iff.1 hf).1
      have h5 := h4 j cs[j] (by simp)
      rw [zkc, zkc] at h5
     · rw [h5]; rfl
     · rw [h5]
       exact h2.2 j f cs[j] hf (by simp)
theorem zoh : ∀ l : List Tm, Tm.bks l = zac Tm.bk l
 | [] => rfl
 | t :: l => by rw [Tm.bks, zac, zoh l]
structure TmTy (P : Program) (T : TypeId) (f0 f1 f2 f3 : Field) : Prop where
 str : P.underlying T = some (.struct #[f0, f1, f2, f3])
 u0 : P.underlying f0.type = some (.int .i64)
 u1 : P.underlying f1.type = some .string
 u2 : P.underlying f2.type = some (.int .i64)
 u3 : P.underlying f3.type = some (.slice T)
 o0 : f0.offset = 0
 o1 : f1.offset = 1
 o2 : f2.offset = 2
 o3 : f3.offset = 3
 c0 : P.cellsOf f0.type = 1
 c1 : P.cellsOf f1.type = 1
 c2 : P.cellsOf f2.type = 1
 c3 : P.cellsOf f3.type = 1
 cT : P.cellsOf T = 4
structure Bulk (b : DataW H → Nat) (bs : List (DataW H) → Nat) : Prop where
 nil : bs [] = 0
 cons : ∀ d l, bs (d :: l) = b d + bs l
 one : ∀ d, 1 ≤ b d
 slice : ∀ es sp, bs es + 1 ≤ b (.slice es sp)
 str : ∀ l : List UInt8, l.length + 1 ≤ b (.lit (.string l))
 agg : ∀ l, bs l + 1 ≤ b (.agg l)
theorem LRep.one {α : Type} {R : α → Value → Prop} {c : α} {u : Value} (h : LRep R [c] [u]) : R c u := h.2 0 c u rfl rfl
theorem rd_term {b : DataW H → Nat} {bs : List (DataW H) → Nat} (hb : Bulk b bs) {T : TypeId} {f0 f1 f2 f3 : Field} (hT : TmTy P T f0 f1 f2 f3) : ∀ fuel, RdN enc P w b fuel T FT Tm.bk := by
 intro fuel
 induction fuel using Nat.strongRecOn with
 | _ fuel ih =>
  intro cs x h
  obtain ⟨xs, n, rfl, rfl, hl, hxl, hf⟩ := DataW.trod_struct hT.str h
  rw [hT.cT] at hl
  match cs, hl with
  | [v0, v1, v2, v3], _ =>
  match xs, hxl with
  | [x0, x1, x2, x3], _ =>
  have g0 := hf 0 f0 rfl
  have g1 := hf 1 f1 rfl
  have g2 := hf 2 f2 rfl
  have g3 := hf 3 f3 rfl
  rw [hT.o0, hT.c0] at g0
  rw [hT.o1, hT.c1] at g1
  rw [hT.o2, hT.c2] at g2
  rw [hT.o3, hT.c3] at g3
  obtain ⟨k, r0, _⟩ := zpu (b := b) hT.u0 hb.one n _ _ g0
  obtain ⟨s, r1, z1⟩ := rd_str (b := b) hT.u1 hb.str n _ _ g1
  have z1 : s.length + 1 ≤ b x1.1 := z1
  obtain ⟨m, r2, _⟩ := zpu (b := b) hT.u2 hb.one n _ _ g2
  obtain ⟨l, r3, z3⟩ := zf1 (F := FT) (sz := Tm.bk) hb.cons hb.one hb.slice hT.u3 hT.cT (by omega) z2i (fun k hk => ih k (by omega)) _ _ g3
  have z3 : zac Tm.bk l + 1 ≤ b x3.1 := z3
  refine ⟨.mk k s m l, ?_, ?_⟩
  · rw [FT, z1w]
    exact .cons (LRep.one r0) (.cons (LRep.one r1) (.cons (LRep.one r2) (.cons (LRep.one r3) .nil)))
  · have := hb.one x0.1
    simp only [Tm.bk, zoh]
    show _ ≤ b (.agg [x0.1, x1.1, x2.1, x3.1])
    have h9 := hb.agg [x0.1, x1.1, x2.1, x3.1]
    simp only [hb.cons, hb.nil] at h9
    omega
theorem none_own {Y : Nat → Prop} (hY : ∀ b, ¬ Y b) {Hs : List AObj} : (fun b => Y b ∨ Own (fun o => Hs.getD o .gone) (fun _ => none) b) = z9o := by
 funext b
 refine propext ⟨fun h => ?_, fun h => h.elim⟩
 rcases h with h | ⟨o, _, h⟩
 · exact (hY b h).elim
 · cases h
abbrev β0 : Nat → Option Nat := fun _ => none
theorem zdh {b : DataW H → Nat} {bs : List (DataW H) → Nat} (hb : Bulk b bs) {T S : TypeId} {f0 f1 f2 f3 : Field} (hT : TmTy P T f0 f1 f2 f3) (hS : P.underlying S = some (.slice T)) {r : Reach} {base : Nat} {v : Value} {d : DataW H} {ps : List MemPlace}
  (hv : Value.okWide P w r base S v) (hd : DataW.Trod enc P w 0 (fun _ => true) true S v d ps) : ∃ l : List Tm, TRep w z9o β0 (aL l) v ∧ Tm.bks l + 1 ≤ b d := by
 obtain ⟨a, len, cap, rfl⟩ := okWide_slice hS hv
 obtain ⟨fuel, hf⟩ := hd
 obtain ⟨l, h1, h2⟩ := zf1 (F := FT) (sz := Tm.bk) hb.cons hb.one hb.slice hS hT.cT (by omega) z2i (fun k _ => rd_term hb hT k) _ _ hf
 have h2 : zac Tm.bk l + 1 ≤ b d := h2
 rw [← zoh] at h2
 have h1 : LRep (FRep w z9o) [.sl false 4 (l.map FT)] [_] := h1
 rw [← z1w] at h1
 exact ⟨l, .a _ _ (.fz _ _ h1.one), h2⟩
theorem zpr {w' : World} {foot : Nat → Prop} (g : Good w foot w') (hf : ∀ b, ¬ foot b) (may : MemPlace → Prop) : w.keptBut w' may := by
 refine ⟨g.os, g.output, fun i hi => ?_⟩
 rw [g.blk i hi (hf i)]
 exact (World.keptBut_refl w may).2.2 i hi
theorem zpi {w' : World} {foot : Nat → Prop} (g : Good w foot w') (hf : ∀ b, ¬ foot b) {p : MemPlace} (hp : p.block < w.heap.size) : w.sameAt w' p := by
 cases p with
 | cell b o => exact World.cell?_of_block (a := ⟨b, o, none⟩) (g.blk b hp (hf b))
 | map b => exact g.blk b hp (hf b)
theorem z89 (hl : laidOutB P = true) {w' : World} {sp : Nat → Bool} : ∀ {ts : List TypeId} {vs : List Value} {ds : List (DataW H)} {p : List MemPlace}, DataW.TrodAll enc P w 0 (fun _ => true) true ts vs ds p →
  (∀ t ∈ ts, P.readableRec t = true ∧ t < P.types.size) → (∀ x ∈ p, w.sameAt w' x) → (∀ x ∈ p, sp x.block = true) → DataW.TrodAll enc P w' 0 sp true ts vs ds p
 | [], _, _, _, h, _, _, _ => by
  obtain ⟨rfl, rfl, rfl⟩ := trodAll_nil h
  exact trodAll_mk0
 | t :: ts, _, _, _, h, ht, hs, hsp => by
  obtain ⟨v, vs', d, ds', p, q, rfl, rfl, rfl, ⟨n, h1⟩, h2⟩ := trodAll_cons h
  have hr := (ht t List.mem_cons_self).1
  exact ⟨p, q, ⟨n, DataW.trod_stays (kids_book hl hr) (book_sized hr) (fun h => by cases h) ⟨(ht t List.mem_cons_self).2, book_self t⟩ h1 (fun x hx => hs x (List.mem_append_left _ hx)) (fun x hx => hsp x (List.mem_append_left _ hx))⟩,
   z89 hl h2 (fun u hu => ht u (List.mem_cons_of_mem _ hu)) (fun x hx => hs x (List.mem_append_right _ hx)) (fun x hx => hsp x (List.mem_append_right _ hx)), rfl⟩
theorem zrc (hl : laidOutB P = true) {f : Func} {s : ChangeSpec} {apart fresh handsOn again : Bool} {w' : World} {args : Array Value} {ds gs : List (DataW H)} {before : List MemPlace} {foot : Nat → Prop} {tb : TypeId}
  (hW : DataW.Whole enc P f.params.toList s.vars apart w args.toList ds gs before) (hv : s.vars = []) (hs : ∀ ds' : List (DataW H), ds'.length = ds.length → s.fn H ds' = { results := [.lit (.bool true)], args := ds' })
  (ht : ∀ t ∈ f.params.toList, P.readableRec t = true ∧ t < P.types.size) (hr : f.resultTypes = #[tb]) (hb : P.underlying tb = some .bool) (g : Good w foot w') (hf : ∀ b, ¬ foot b) :
  s.post enc P f apart fresh handsOn again w args (.bool true) w' := by
 have hlt := hW.lt
 obtain ⟨p, q, h1, h2, he, hz, hn⟩ := hW
 rw [hv] at h2
 obtain ⟨rfl, rfl⟩ := trodVars_none h2
 rw [List.append_nil] at he
 subst he
 have hold : ∀ x ∈ before, (fun b => decide (b < w.heap.size)) x.block = true := fun x hx => by simpa using hlt x hx
 have hfn := hs (ds ++ []) (by simp)
 have hargs : ∀ sp : Nat → Bool, (∀ x ∈ before, sp x.block = true) → DataW.TrodAll enc P w' 0 sp true f.params.toList args.toList (s.fn H (ds ++ [])).args before := fun sp hsp => by
  rw [hfn, List.append_nil]
  exact z89 hl h1 ht (fun x hx => zpi g hf (hlt x hx)) hsp
 have hres : ∀ (b : Nat) (sp : Nat → Bool) (hd : Bool), DataW.TrodAll enc P w' b sp hd f.resultTypes.toList ((Value.bool true).resultList f.resultTypes.size) (s.fn H (ds ++ [])).results [] := fun b sp hd => by
  rw [hfn, hr]
  exact trodAll_mk1 ⟨1, by simp [DataW.trod, Value.cells, hb]⟩
 have hvars : ∀ sp : Nat → Bool, DataW.TrodVars enc P w' sp s.vars (s.fn H (ds ++ [])).vars [] := fun sp => by
  rw [hfn, hv]
  rfl
 refine ⟨ds, [], before, [], before, [], ⟨before, [], h1, by rw [hv]; rfl, by simp, hz, hn⟩, hres _ _ _, hargs _ hold, hvars _, World.keptBut_mono (fun x hx => ⟨hx, ?_⟩) (zpr g hf (· ∈ before)), fun _ => ?_⟩
 · simpa using hx
 · refine ⟨ok_one hr rfl (okWide_bool_mk hb _), _, _, ([] ++ before) ++ [], ⟨[] ++ before, [], trodAll_append (hargs _ (fun _ _ => rfl)) (hres _ _ _), hvars _, rfl, ?_, ?_⟩, ?_⟩
   · intro b off hp
     have hp : MemPlace.cell b off ∈ before := by simpa using hp
     have hb := hlt _ hp
     have : w'.frozen? ⟨b, off, none⟩ = w.frozen? ⟨b, off, none⟩ := by
      unfold World.frozen?
      rw [g.blk b hb (hf b)]
     rw [this]
     exact hz b off hp
   · intro ha
     simpa using hn ha
   · intro x hx _
     simpa using hx
theorem law_true {f : FuncId} {args : List TV} (hgl : Gl P w z9o) (h : AC P f args [] (cb true) []) {vals : List Value} (hv : LRep (TRep w z9o β0) args vals) :
  Calls P f vals.toArray w fun e w' => e = .returned (.bool true) ∧ ∃ foot, (∀ b, ¬ foot b) ∧ Good w foot w' := by
 have hX : (fun b => (fun _ : Nat => False) b ∨ Own (fun o => ([] : List AObj).getD o .gone) β0 b) = z9o := none_own (fun _ h => h)
 refine (h.2.2 w vals β0 (fun _ => False) (fun o b h => by cases h) (fun b h => h.elim) (hgl.sub fun b ⟨o, h5, _⟩ => by simp [isLive] at h5) ⟨fun o b h _ => by simp [isLive] at h, fun o h => by simp [isLive] at h, fun o o' b h => by simp [isLive] at h, fun o b h => by cases h⟩ (by rw [hX]; exact hv)).mono fun e w' ⟨v, β', h1, h2, h3, h4, _⟩ => ?_
 subst h1
 cases h4 with
 | a _ _ h4 =>
  cases h4 with
  | fz _ _ h4 =>
   cases h4
   exact ⟨rfl, _, fun b ⟨o, h5, _⟩ => by simp [isLive] at h5, h2⟩
end
end Go.AM

namespace Go.AM
open Go.ChangeShapes Go.WideShapes Go.ChangeAt Go.RowKit
section
variable {H : Type} {enc : TypeId × Value → H} {P : Program} {w : World}
end
end Go.AM

namespace Go.AM
open Go.ChangeShapes Go.WideShapes Go.ChangeAt Go.RowKit
section
variable {H : Type} {enc : TypeId × Value → H} {P : Program} {w : World}
theorem zo9 {b : DataW H → Nat} {bs : List (DataW H) → Nat} (hb : Bulk b bs) {T S : TypeId} {n : Nat} {α : Type} {F : α → List FV} {sz : α → Nat} (hF : ∀ a, (F a).length = n) (hn : P.cellsOf T = n) (hn0 : 0 < n) (hz : ∀ a, 1 ≤ sz a)
  (h1 : ∀ k, RdN enc P w b k T F sz) (hS : P.underlying S = some (.slice T)) {r : Reach} {base : Nat} {v : Value} {d : DataW H} {ps : List MemPlace}
  (hv : Value.okWide P w r base S v) (hd : DataW.Trod enc P w 0 (fun _ => true) true S v d ps) : ∃ l : List α, TRep w z9o β0 (.c (.a (.fz (.sl false n (l.map F))))) v ∧ zac sz l + 1 ≤ b d := by
 obtain ⟨a, len, cap, rfl⟩ := okWide_slice hS hv
 obtain ⟨fuel, hf⟩ := hd
 obtain ⟨l, h1, h2⟩ := zf1 hb.cons hb.one hb.slice hS hn hn0 hF (fun k _ => h1 k) _ _ hf
 have h1 : LRep (FRep w z9o) [.sl false n (l.map F)] [_] := h1
 exact ⟨l, .a _ _ (.fz _ _ h1.one), h2⟩
end
end Go.AM

set_option maxRecDepth 100000
open Go Go.Proofs
namespace Go.AM
theorem runH_sz {s : Sto} (hs : OKS s) : ∀ (F : Nat) (t : Tm), z02 t = true → Fit F t → (runH s F t).2.1 = 0 → (runH s F t).1.sz + 42000 * (F - (runH s F t).2.2) ≤ t.sz + 42000 * F := by
 intro F
 induction F with
 | zero => intro t hv hf h; rw [runH] at h ⊢; split <;> rename_i q
           · exact Nat.le_refl _
           · rw [if_neg q] at h; cases h
 | succ F ih =>
  intro t hv hf h
  rw [runH] at h ⊢
  split
  · exact Nat.le_refl _
  · rename_i q
    rw [if_neg q] at h
    split
    · rename_i q2; rw [if_pos q2] at h; cases h
    · rename_i q2
      rw [if_neg q2] at h
      have q1 : (z0h s t).2 = 1 := by rcases zf4 s t with q' | q' | q'; · exact absurd q' q
                                      · exact q'
                                      · exact absurd q' q2
      obtain ⟨v, ff⟩ := z84 hs hv hf q1
      have h1 := ih _ v ff h
      have h2 := stepS_sz hs hv hf q1
      simp only
      omega
theorem zen {fu : Int → Tm → Tm × Int × Int} (hfu : ∀ g t, 0 ≤ g → 0 ≤ (fu g t).2.2 ∧ (fu g t).2.2 ≤ g) {A : Tm → Tm → Prop} :
  ∀ (l : List Tm) (sk : Bool) (g : Int), 0 ≤ g → (∀ u ∈ (if sk = true then l.drop 1 else l), ∀ g' : Int, 0 ≤ g' → g' ≤ g → (fu g' u).2.1 = 0 → A u (fu g' u).1 ∧ (fu g' u).1.sz + 42000 * (fu g' u).2.2.toNat ≤ u.sz + 42000 * g'.toNat) →
  (z1p fu sk l g).2.1 = 0 → Tm.szs (z1p fu sk l g).1 + 42000 * (z1p fu sk l g).2.2.toNat ≤ Tm.szs l + 42000 * g.toNat ∧ (z1p fu sk l g).1.length = l.length ∧ (sk = true → hd (z1p fu sk l g).1 = hd l) ∧ All2 A (if sk = true then l.drop 1 else l) (if sk = true then (z1p fu sk l g).1.drop 1 else (z1p fu sk l g).1)
 | [], sk, g, _, _, _ => by
  refine ⟨Nat.le_refl _, rfl, fun _ => rfl, ?_⟩
  cases sk <;> trivial
 | t :: l, true, g, hg, h, h0 => by
  have := zen hfu l false g hg h h0
  refine ⟨?_, by rw [z1p, List.length_cons, this.2.1]; rfl, fun _ => rfl, this.2.2.2⟩
  have h1 := this.1
  show t.sz + Tm.szs _ + _ ≤ t.sz + Tm.szs l + _
  have e : (z1p fu true (t :: l) g).2.2 = (z1p fu false l g).2.2 := rfl
  rw [e]; omega
 | t :: l, false, g, hg, h, h0 => by
  have eK : z1p fu false (t :: l) g = if (fu g t).2.1 ≠ 0 then ([], (fu g t).2) else ((fu g t).1 :: (z1p fu false l (fu g t).2.2).1, (z1p fu false l (fu g t).2.2).2) := rfl
  rw [eK] at h0 ⊢
  by_cases q : (fu g t).2.1 ≠ 0
  · rw [if_pos q] at h0; exact absurd h0 q
  · rw [if_neg q] at h0 ⊢
    have q : (fu g t).2.1 = 0 := by simpa using q
    have h1 := hfu g t hg
    have h2 := h t List.mem_cons_self g hg (Int.le_refl _) q
    have h3 := zen hfu l false (fu g t).2.2 h1.1 (fun u hu g' a b c => h u (List.mem_cons_of_mem _ hu) g' a (by omega) c) h0
    refine ⟨?_, by simp only [List.length_cons, h3.2.1], fun e => (by cases e), ⟨h2.1, h3.2.2.2⟩⟩
    have h4 := h3.1
    have h5 := h2.2
    simp only [Tm.szs]
    omega
theorem zm9 {α β : Type} {R : α → β → Prop} {Q : β → Prop} (h : ∀ x y, R x y → Q y) : ∀ {a : List α} {b : List β}, All2 R a b → ∀ y ∈ b, Q y
 | [], [], _, y, hy => by cases hy
 | x :: a, z :: b, hr, y, hy => by
  rcases List.mem_cons.1 hy with rfl | hy
  · exact h _ _ hr.1
  · exact zm9 h hr.2 y hy
 | [], _ :: _, h, _, _ => h.elim
 | _ :: _, [], h, _, _ => h.elim
theorem mem_hd {l : List Tm} {y : Tm} (h : y ∈ l) : y = hd l ∨ y ∈ l.drop 1 := by
 cases l with
 | nil => cases h
 | cons x l => exact (List.mem_cons.1 h).imp id id
theorem zcw {l : List Tm} : z34 l = true ↔ ∀ u ∈ l, z02 u = true := by
 induction l with
 | nil => exact ⟨(fun _ u hu => nomatch hu), fun _ => rfl⟩
 | cons x l ih =>
  rw [z34, Bool.and_eq_true, ih]
  exact ⟨fun h u hu => (List.mem_cons.1 hu).elim (fun e => e ▸ h.1) (h.2 u), fun h => ⟨h x List.mem_cons_self, fun u hu => h u (List.mem_cons_of_mem _ hu)⟩⟩
theorem znu {k n : Int} {s : List UInt8} {l us : List Tm} (hv : z02 (.mk k s n l) = true) (hl : us.length = l.length) (hk : k = 6 → hd us = hd l) (hu : k = 5 ∨ k = 6 → ∀ u ∈ us, z02 u = true) : z02 (.mk k s n us) = true := by
 by_cases h5 : k = 5
 · subst h5
   rw [valid5] at hv ⊢
   simp only [Bool.and_eq_true] at hv ⊢
   exact ⟨⟨hv.1.1, by rw [hl]; exact hv.1.2⟩, zcw.2 (hu (.inl rfl))⟩
 · by_cases h6 : k = 6
   · subst h6
     rw [valid6] at hv ⊢
     simp only [Bool.and_eq_true] at hv ⊢
     rw [hk rfl, hl]
     exact ⟨hv.1, zcw.2 (hu (.inr rfl))⟩
   · have := okB0 (z08 _ hv) h5 h6
     subst this
     have : us = [] := List.eq_nil_of_length_eq_zero hl
     subst this; exact hv
theorem zf7 {s : Sto} (hs : OKS s) : ∀ (D : Nat) (f : Int) (t : Tm), f.toNat ≤ D → 0 ≤ f → z02 t = true → Fit f.toNat t → (z0j s D f t).2.1 = 0 →
  (z02 (z0j s D f t).1 = true ∧ bd M61 (z0j s D f t).1) ∧ (z0j s D f t).1.sz + 42000 * (z0j s D f t).2.2.toNat ≤ t.sz + 42000 * f.toNat
 | 0, f, t, _, _, _, _, h => by rw [z0j] at h; cases h
 | D + 1, f, t, hD, h0, hv, hf, h => by
  rw [z0j] at h ⊢
  split
  · rename_i q; rw [if_pos q] at h; cases h
  rename_i q
  rw [if_neg q] at h
  have hfit := hf.mono (show (f - 1).toNat ≤ f.toNat by omega)
  have hq := z8o hs hv hfit
  have hz := runH_sz hs (f - 1).toNat t hv hfit
  have eh : z7t s (f - 1) t = ((runH s (f - 1).toNat t).1, (runH s (f - 1).toNat t).2.1, f - 1 - ((runH s (f - 1).toNat t).2.2 : Int)) := rfl
  rw [eh] at h ⊢
  generalize runH s (f - 1).toNat t = q at *
  obtain ⟨x, er, u⟩ := q
  simp only at hq hz h ⊢
  obtain ⟨hu, hq⟩ := hq
  rw [zjy] at h ⊢
  split
  · rename_i q2; rw [if_pos q2] at h; exact absurd h q2
  rename_i q2
  rw [if_neg q2] at h
  have he : er = 0 := by simpa using q2
  subst he
  rcases hq with ⟨_, hvx, hfx, _⟩ | ⟨h80, _⟩
  · have hz := hz rfl
    obtain ⟨k, str, n, l⟩ := x
    simp only [Tm.l, Tm.k, Tm.s, Tm.n] at h ⊢
    have hg0 : 0 ≤ f - 1 - (u : Int) := by omega
    have hkid : ∀ x ∈ l, k = 5 ∨ k = 6 := fun x hx => by
     by_cases h5 : k = 5 ∨ k = 6
     · exact h5
     · rw [not_or] at h5
       have := okB0 (z08 _ hvx) h5.1 h5.2
       rw [this] at hx; cases hx
    have kid : ∀ x ∈ l, ∀ g' : Int, 0 ≤ g' → g' ≤ f - 1 - (u : Int) → (z0j s D g' x).2.1 = 0 → (z02 (z0j s D g' x).1 = true ∧ bd M61 (z0j s D g' x).1) ∧ (z0j s D g' x).1.sz + 42000 * (z0j s D g' x).2.2.toNat ≤ x.sz + 42000 * g'.toNat := fun x hx g' a b c =>
     zf7 hs D g' x (by omega) a (z1t hvx (hkid x hx) x hx) ((hfx.kid (show x ∈ Tm.l (.mk k str n l) from hx)).mono (by omega)) c
    unfold zab at h ⊢
    split
    · rename_i q3; rw [if_pos q3] at h; exact absurd h q3
    rename_i q3
    have h9 : (z1p (z0j s D) (k == 6) l (f - 1 - (u : Int))).2.1 = 0 := by simpa using q3
    have sub : ∀ x ∈ (if (k == 6) = true then l.drop 1 else l), x ∈ l := fun x hx => by
     split at hx
     · exact List.mem_of_mem_drop hx
     · exact hx
    have hk := zen (A := fun _ y => z02 y = true ∧ bd M61 y) (z54 s D) l (k == 6) (f - 1 - (u : Int)) hg0 (fun x hx g' a b c => kid x (sub x hx) g' a b c) h9
    generalize z1p (z0j s D) (k == 6) l (f - 1 - (u : Int)) = r at *
    obtain ⟨us, er2, g2⟩ := r
    simp only at hk ⊢
    obtain ⟨k1, k2, k3, k4⟩ := hk
    have k5 := zm9 (Q := fun y => z02 y = true ∧ bd M61 y) (fun _ _ h => h) k4
    have all : ∀ y ∈ us, z02 y = true ∧ bd M61 y := fun y hy => by
     by_cases h6 : (k == 6) = true
     · rcases mem_hd hy with e | e
       · rw [k3 h6] at e
         have hl : l ≠ [] := fun e2 => by rw [e2] at k2; rw [List.eq_nil_of_length_eq_zero k2] at hy; cases hy
         have hm : y ∈ l := by cases l with
          | nil => exact absurd rfl hl
          | cons z l => rw [e]; exact List.mem_cons_self
         exact ⟨z1t hvx (hkid y hm) y hm, z2y hfx.bd.2 hm⟩
       · exact k5 y (by rw [if_pos h6]; exact e)
     · exact k5 y (by rw [if_neg h6]; exact hy)
    refine ⟨⟨znu hvx k2 (fun e => k3 (by have e : k = 6 := e; rw [e]; rfl)) (fun _ y hy => (all y hy).1), ⟨hfx.bd.1, z74 fun y hy => (all y hy).2⟩⟩, ?_⟩
    simp only [Tm.sz] at hz ⊢
    omega
  · cases h80
def z1r (s : Sto) (f : Int) (t : Tm) : Tm × Int × Int :=
 if z02 t = true then (if (z0j s f.toNat f t).2.1 = 0 then (z09 (z0j s f.toNat f t).1, (z0j s f.toNat f t).2.2, 0) else (noT, 0, (z0j s f.toNat f t).2.1)) else (noT, 0, 1)
theorem zgb (s : Sto) (D : Nat) {f : Int} (t : Tm) (h : f ≤ 0) : z0j s D f t = (noT, 80, f) := by
 cases D with
 | zero => rfl
 | succ D => rw [z0j, if_pos h]
def fullR (s : Sto) (f : Int) (t : Tm) : Tm × Int × Int :=
 if z02 t = true then (if (z0j s f.toNat f t).2.1 = 0 then ((z0j s f.toNat f t).1, (z0j s f.toNat f t).2.2, 0) else (noT, 0, (z0j s f.toNat f t).2.1)) else (noT, 0, 1)
theorem zje (s : Sto) (hs : OKS s) (f : Int) (t : Tm) (h0 : 0 - 9223372036854775808 ≤ f) (hz : t.sz ≤ B) (hf : z02 t = true → Fit f.toNat t) :
  AC Tryz.prog 67 [aT t, ci f, .c (.fn (.func 68) [(false, [.ep 0 2 0 0])] [])] (oS s) (aHd (fullR s f t)) (oS s) := by
 have h1 := z26 t hz
 have h2 := fun hv => c_sfull s hs f.toNat f t (Nat.le_refl _) h0 hv (hf hv)
 have hV : fullR s f t = if z02 t = true then (if (z0j s f.toNat f t).2.1 = 0 then ((z0j s f.toNat f t).1, (z0j s f.toNat f t).2.2, 0) else (noT, 0, (z0j s f.toNat f t).2.1)) else (noT, 0, 1) := rfl
 rw [hV]
 generalize z0j s f.toNat f t = z at *
 obtain ⟨z1, z2, z3⟩ := z
 obtain ⟨k, str, n, l⟩ := t
 refine AC.vc hP sh lv67 (Nat.le_refl _) (by simp [isLive]) (by simp) (Eq.mpr (v67_F68 k str n (FTs l) ..) ?_)
 refine ⟨_, h1, z01 (fun h => ?_) (fun h => ⟨(z1, z2, z3), h2 (by simpa using h), z01 (fun h' => ?_) (fun h' => ?_)⟩)⟩
 · rw [if_neg (by simpa using h)]; exact ⟨leHd (l := []) z0d, rfl⟩
 · have h : z02 (.mk k str n l) = true := by simpa using h
   rw [if_pos h, if_neg (by simpa using h')]; exact ⟨leHd (l := []) z0d, rfl⟩
 · have h : z02 (.mk k str n l) = true := by simpa using h
   rw [if_pos h, if_pos (by simpa using h')]; exact ⟨.refl _, rfl⟩
theorem ziz (s : Sto) (hs : OKS s) (f : Int) (t : Tm) (h0 : 0 - 9223372036854775808 ≤ f) (hz : t.sz ≤ B) (hf : z02 t = true → Fit f.toNat t) : AC Tryz.prog 21 [aS 0, aT t, ci f] (oS s) (aHd (z1r s f t)) (oS s) := by
 have h := zje s hs f t h0 hz hf
 have hsh : z02 t = true → (z0j s f.toNat f t).2.1 = 0 → AC Tryz.prog 26 [aT (z0j s f.toNat f t).1] [] (aT (z09 (z0j s f.toNat f t).1)) [] := fun hv he => by
  have h0 : 0 ≤ f := by
   rcases Int.le_total 0 f with q | q
   · exact q
   · rw [zgb s _ t q] at he; cases he
  obtain ⟨⟨a, b⟩, c⟩ := zf7 hs f.toNat f t (Nat.le_refl _) h0 hv (hf hv) he
  have := (hf hv).2.1
  have h3 := c_eShort (z0j s f.toNat f t).1 (by omega) b
  rw [if_pos a] at h3
  exact h3
 have e1 : z1r s f t = if z02 t = true then (if (z0j s f.toNat f t).2.1 = 0 then (z09 (z0j s f.toNat f t).1, (z0j s f.toNat f t).2.2, 0) else (noT, 0, (z0j s f.toNat f t).2.1)) else (noT, 0, 1) := rfl
 have e2 : fullR s f t = if z02 t = true then (if (z0j s f.toNat f t).2.1 = 0 then ((z0j s f.toNat f t).1, (z0j s f.toNat f t).2.2, 0) else (noT, 0, (z0j s f.toNat f t).2.1)) else (noT, 0, 1) := rfl
 have go : ∀ z : Tm × Int × Int, AC Tryz.prog 67 [aT t, ci f, .c (.fn (.func 68) [(false, [.ep 0 2 0 0])] [])] (oS s) (aHd z) (oS s) → ∀ r : TV, br (z.2.2 != 0) (TV.Le (.tup [(true, [.a (.fz (.int .i64 0)), .a (.fz (.str [])), .a (.fz (.int .i64 0)), .a (.fz .nils)]), (false, [.a (.fz (.int .i64 0))]), (false, [.a (.fz (.int .i64 z.2.2))])]) r ∧ oS s = oS s)
   (∃ u : Tm, AC Tryz.prog 26 [aT z.1] [] (aT u) [] ∧ TV.Le (.tup [(true, cT u), (false, [.a (.fz (.int .i64 z.2.1))]), (false, [.a (.fz (.int .i64 0))])]) r ∧ oS s = oS s) → AC Tryz.prog 21 [aS 0, aT t, ci f] (oS s) r (oS s) := fun z hz r hb => by
  obtain ⟨k, str, n, l⟩ := t
  refine AC.vc hP sh lv21 (Nat.le_refl _) (by simp [isLive]) (by simp) (Eq.mpr (v21 k str n (FTs l) ..) ?_)
  exact ⟨z, hz, hb⟩
 refine go _ h _ ?_
 rw [e1, e2]
 by_cases hv : z02 t = true
 · rw [if_pos hv, if_pos hv]
   by_cases he : (z0j s f.toNat f t).2.1 = 0
   · rw [if_pos he, if_pos he]
     exact z01 (fun h => by cases h) (fun _ => ⟨_, hsh hv he, .refl _, rfl⟩)
   · rw [if_neg he, if_neg he]
     exact z01 (fun _ => ⟨leHd (l := []) z0d, rfl⟩) (fun h => absurd (by simpa using h) he)
 · rw [if_neg hv, if_neg hv]
   exact z01 (fun _ => ⟨leHd (l := []) z0d, rfl⟩) (fun h => by cases h)
structure OKA (s : Sto) (n : Nat) : Prop where
 ok : OKS s
 V : s.V.length ≤ n
 T : s.T.length ≤ n
 tr : OKT s
 wf : ∀ i ∈ s.V, i.bd = false → i.v = noT
 nn : ∀ i ∈ s.V, i.bd = true → i.v.bk ≤ B
theorem z1c (s : Sto) (x : Int) (t : Tm) : (bindS s x t).V.length = s.V.length := by unfold bindS; split <;> simp
theorem OKS.bindA {s : Sto} {x : Int} {t : Tm} (h : OKS s) (hz : t.sz ≤ 40000) (hb : bd 2199023255552 t) : OKS (bindS s x t) := by
 by_cases q : z4b s x t = true
 · rw [(z1n q).1]
   intro i hi hbd
   rcases List.mem_or_eq_of_mem_set hi with hi | rfl
   · exact h i hi hbd
   · refine ⟨?_, hz, hb⟩
     simp only [z4b, Bool.and_eq_true] at q
     exact q.2.2.1
 · rw [(z3d (by simpa using q)).1]; exact h
theorem z6l {s : Sto} {x : Int} {t : Tm} (q : z4b s x t = true) : 0 ≤ x ∧ x < (s.V.length : Int) := by
 simp only [z4b, Bool.and_eq_true, inB, decide_eq_true_eq] at q
 exact q.1
theorem OKA.bind {s : Sto} {n : Nat} {x : Int} {t : Tm} (h : OKA s n) (hz : t.sz ≤ 40000) (hb : bd 2199023255552 t) (hk : t.bk ≤ B) : OKA (bindS s x t) (n + 1) := by
 have h1 := h.V
 have h2 := h.T
 by_cases q : z4b s x t = true
 · have hx := z6l q
   refine ⟨h.ok.bindA hz hb, by rw [z1c]; omega, by rw [(z1n q).1]; simp; omega, fun y hy => ?_, fun i hi hbd => ?_, fun i hi hbd => ?_⟩
   · rw [z1c]
     rw [(z1n q).1] at hy
     rcases List.mem_append.1 hy with hy | hy
     · exact h.tr y hy
     · simp at hy; subst hy; exact hx
   · rw [(z1n q).1] at hi
     rcases List.mem_or_eq_of_mem_set hi with hi | rfl
     · exact h.wf i hi hbd
     · cases hbd
   · rw [(z1n q).1] at hi
     rcases List.mem_or_eq_of_mem_set hi with hi | rfl
     · exact h.nn i hi hbd
     · exact hk
 · rw [(z3d (by simpa using q)).1]
   exact ⟨h.ok, by omega, by omega, h.tr, h.wf, h.nn⟩
theorem OKA.fresh {s : Sto} {n : Nat} (h : OKA s n) (lv : Int) : OKA (freshS s lv) (n + 1) := by
 have h1 := h.V
 have h2 := h.T
 have hl : (freshS s lv).V.length = s.V.length + 1 := by simp [freshS]
 refine ⟨fun i hi hb => ?_, by omega, by simp only [freshS]; omega, fun y hy => ?_, fun i hi hbd => ?_, fun i hi hbd => ?_⟩
 · rcases List.mem_append.1 hi with hi | hi
   · exact h.ok i hi hb
   · simp at hi; subst hi; cases hb
 · rw [hl]; have := h.tr y hy; omega
 · rcases List.mem_append.1 hi with hi | hi
   · exact h.wf i hi hbd
   · simp at hi; subst hi; rfl
 · rcases List.mem_append.1 hi with hi | hi
   · exact h.nn i hi hbd
   · simp at hi; subst hi; cases hbd
theorem OKA.nil : OKA ⟨[], []⟩ 0 := ⟨(fun i hi => nomatch hi), Nat.le_refl _, Nat.le_refl _, (fun i hi => nomatch hi), (fun i hi => nomatch hi), (fun i hi => nomatch hi)⟩
theorem OKA.more {s : Sto} {n m : Nat} (h : OKA s n) (hm : n ≤ m) : OKA s m := ⟨h.ok, Nat.le_trans h.V hm, Nat.le_trans h.T hm, h.tr, h.wf, h.nn⟩
end Go.AM

set_option maxRecDepth 100000
open Go Go.Proofs
namespace Go.AM
abbrev sNil : Sto := ⟨[], []⟩
def Ext (s0 s : Sto) : Prop := ∃ xs, s.T = s0.T ++ xs ∧ s0.V.length ≤ s.V.length ∧ ∀ j, j < s0.V.length → (xs.foldl clrV s.V)[j]? = s0.V[j]?
theorem Ext.refl (s : Sto) : Ext s s := ⟨[], by simp, Nat.le_refl _, fun _ _ => rfl⟩
theorem Ext.fresh {s0 s : Sto} (h : Ext s0 s) (lv : Int) : Ext s0 (freshS s lv) := by
 obtain ⟨xs, h1, h2, h3⟩ := h
 refine ⟨xs, h1, by simp only [freshS, List.length_append]; omega, fun j hj => ?_⟩
 rw [← h3 j hj, z8v, z8v]
 show (s.V ++ _)[j]?.map _ = _
 rw [List.getElem?_append_left (by omega)]
theorem Ext.bind {s0 s : Sto} (h : Ext s0 s) (wf : ∀ i ∈ s.V, i.bd = false → i.v = noT) (x : Int) (t : Tm) : Ext s0 (bindS s x t) := by
 by_cases q : z4b s x t = true
 · obtain ⟨xs, h1, h2, h3⟩ := h
   have hx := z6l q
   obtain ⟨hl, ei⟩ := z2x hx.1 hx.2
   have hub : (infOf s.V x).bd = false := by
    simp only [z4b, Bool.and_eq_true, Bool.not_eq_true'] at q; exact q.2.1
   rw [ei] at hub
   have hw := wf _ (List.getElem_mem hl) hub
   rw [(z1n q).1, ei]
   refine ⟨xs ++ [x], by rw [h1, List.append_assoc], by rw [List.length_set]; exact h2, fun j hj => ?_⟩
   rw [← h3 j hj, z8v, z8v, List.getElem?_set]
   by_cases e : x.toNat = j
   · subst e
     rw [if_pos rfl, if_pos hl, List.getElem?_eq_getElem hl]
     simp only [Option.map_some, List.any_append, List.any_cons, beq_self_eq_true, Bool.true_or, Bool.or_true, if_true]
     congr 1
     generalize s.V[x.toNat] = v at *
     obtain ⟨lv, bd, v⟩ := v
     simp only at hub hw
     subst hub; subst hw
     unfold clrI; split <;> rfl
   · rw [if_neg e]
     congr 1
     funext v
     simp [List.any_append, e]
 · rw [(z3d (by simpa using q)).1]; exact h
theorem Ext.undo {s0 s : Sto} (h : Ext s0 s) : z9s s s0.T.length s0.V.length = s0 := by
 obtain ⟨xs, h1, h2, h3⟩ := h
 obtain ⟨V0, T0⟩ := s0
 have e1 : s.T.drop T0.length = xs := by rw [h1, List.drop_left]
 have e2 : s.T.take T0.length = T0 := by rw [h1, List.take_left]
 show (⟨((s.T.drop T0.length).foldl clrV s.V).take V0.length, s.T.take T0.length⟩ : Sto) = _
 rw [e1, e2]
 congr 1
 apply List.ext_getElem?
 intro j
 rw [List.getElem?_take]
 split
 · rename_i hj; exact h3 j hj
 · rename_i hj; rw [List.getElem?_eq_none (by omega)]
theorem Ext.cut {s0 s : Sto} (h : Ext s0 s) (h0 : OKT s0) : s0.T.length ≤ s.T.length ∧ s0.V.length ≤ s.V.length ∧ ∀ x ∈ s.T.take s0.T.length, x < (s0.V.length : Int) := by
 obtain ⟨xs, h1, h2, h3⟩ := h
 refine ⟨by rw [h1, List.length_append]; omega, h2, fun x hx => ?_⟩
 rw [h1, List.take_left] at hx
 exact (h0 x hx).2
end Go.AM

set_option maxRecDepth 100000
open Go Go.Proofs
namespace Go.AM
abbrev vx1 (n : Int) : Tm := .mk 4 [] n []
end Go.AM

set_option maxRecDepth 100000
open Go Go.Proofs
namespace Go.Proofs.YtdpjhpfjmjhhkaaGreat.base
open Go.ChangeShapes Go.WideShapes Go.ChangeAt Go.RowKit Go.AM
theorem one_le {H : Type} (d : DataW H) : 1 ≤ Rows.uptoBulk d := by
 cases d with
 | lit l => cases l <;> simp [Rows.uptoBulk]
 | _ => simp [Rows.uptoBulk]
theorem bulk {H : Type} : Bulk (H := H) Rows.uptoBulk Rows.uptoBulkAll :=
 ⟨rfl, fun _ _ => rfl, one_le, fun es sp => by simp only [Rows.uptoBulk]; omega, fun l => by simp [Rows.uptoBulk], fun l => by simp [Rows.uptoBulk]⟩
theorem own : ownKnob Tryz.prog.godebug = none := by kernel_rfl
theorem laidOut : laidOutB Tryz.prog = true := by kernel_rfl
theorem tmTy : ∃ f0 f1 f2 f3 : Field, TmTy Tryz.prog 40 f0 f1 f2 f3 :=
 ⟨_, _, _, _, Tryz.underlying40, Tryz.underlying38, Tryz.underlying9, Tryz.underlying3, Tryz.underlying23, rfl, rfl, rfl, rfl, by kernel_rfl, by kernel_rfl, by kernel_rfl, by kernel_rfl, by kernel_rfl⟩
theorem rec23 : Tryz.prog.readableRec 23 = true := by kernel_rfl
theorem lt23 : 23 < Tryz.prog.types.size := of_decide_eq_true (by kernel_rfl)
theorem rec41 : Tryz.prog.readableRec 41 = true := by kernel_rfl
theorem lt41 : 41 < Tryz.prog.types.size := of_decide_eq_true (by kernel_rfl)
theorem noGl (g : Nat) (h : Tryz.prog.globalNamed "internal/strconv.uint64pow10" = some g) : False := by
 rw [show Tryz.prog.globalNamed "internal/strconv.uint64pow10" = none by kernel_rfl] at h; cases h
theorem upto {H : Type} {l : List (DataW H)} (hk : Rows.uptoSmall H l = true) : Rows.uptoBulkAll l ≤ 1048576 := of_decide_eq_true hk
end Go.Proofs.YtdpjhpfjmjhhkaaGreat.base

set_option maxRecDepth 100000
open Go Go.Proofs
namespace Go.AM
def badW (t : Tm) : Bool := zbn t 24 || !near 1000 t
def rowW (m : Int) (l : List Tm) : Bool := decide ((l.length : Int) > m) || l.any badW
theorem badW_no {t : Tm} (h : badW t = false) : t.sz ≤ 24 ∧ bd 1000 t := by
 simp only [badW, Bool.or_eq_false_iff, Bool.not_eq_false'] at h
 exact ⟨by have := large_sz h.1; omega, zfi _ h.2⟩
theorem zq2 {m : Int} {l : List Tm} (h : rowW m l = false) : (l.length : Int) ≤ m ∧ ∀ t ∈ l, t.sz ≤ 24 ∧ bd 1000 t := by
 rw [rowW, Bool.or_eq_false_iff] at h
 refine ⟨by have := of_decide_eq_false h.1; omega, fun t ht => badW_no (by simpa using List.any_eq_false.1 h.2 t ht)⟩
theorem zou (l : List Tm) (hl : l.length ≤ 8) (hb : ∀ t ∈ l, t.bk ≤ B) : ∀ (b a : List Tm), a ++ b = l → RPt Tryz.prog 29 0 (cb (b.any badW)) [] 1 ⟨[(0, aL l), (3, ci (a.length : Int))], [], 0⟩
 | [], a, hi => by
  refine RPt.vc hP sh lv29 (Eq.mpr (v29_1a ..) ?_)
  refine ⟨rfl, z01 (fun h => ?_) (fun _ => ?_)⟩
  · have h := of_decide_eq_true h
    rw [z00] at h; rw [List.append_nil] at hi; subst hi; omega
  · exact z06 rfl
 | t :: b, a, hi => by
  have next := zou l hl hb b (a ++ [t]) (by rw [← hi]; simp)
  have hmem := hb t (by rw [← hi]; simp)
  have zb := Tm.sz_bk t
  have hal : a.length < 8 := by have := congrArg List.length hi; simp at this; omega
  have c1 := c_large t (by omega) 24 (by omega) (by omega)
  have c2 := c_near 1000 (by omega) (by omega) t (by omega)
  have eb : badW t = (zbn t 24 || !near 1000 t) := rfl
  rw [List.any_cons]
  refine RPt.vc hP sh lv29 (Eq.mpr (v29_1a ..) ?_)
  rw [show FTs l = FTs (a ++ t :: b) by rw [hi], z3u, w64 (x := (a.length : Int) + 1) (by omega) (by omega)]
  have op : (FV.isSl 4 (.sl false 4 (FTs (a ++ t :: b))) = true) ∧ ((0 : Int) ≤ (a.length : Int)) ∧ ((a.length : Int) < (((FTs (a ++ t :: b)).length : Nat) : Int)) ∧ ((rE (List.getD (FTs (a ++ t :: b)) (Int.toNat (a.length : Int)) []) : List FV) = List.getD (FTs (a ++ t :: b)) (Int.toNat (a.length : Int)) []) := ⟨rfl, by omega, ltI' a t b, z4x a t b⟩
  refine ⟨rfl, z01 (fun _ => ⟨op, _, c1, op, _, c2, z01 (fun e1 => ?_) (fun e1 => z01 (fun e2 => ?_) (fun e2 => ?_))⟩) (fun h => absurd (ltI' a t b) (of_decide_eq_false h))⟩
  · rw [eb, e1]; exact z06 rfl
  · rw [eb, e1, e2]; exact z06 rfl
  · rw [eb, e1, e2, Bool.false_or, Bool.false_or]
    rw [hi]
    simpa using next
theorem zpy (l : List Tm) (hb : ∀ t ∈ l, t.bk ≤ B) : AC Tryz.prog 29 [aL l] [] (cb (rowW 8 l)) [] := by
 refine AC.vc hP sh lv29 (Nat.le_refl _) (by simp) (by simp) (Eq.mpr (v29 ..) ?_)
 rw [z00]
 refine ⟨rfl, z01 (fun h => ?_) (fun h => ?_)⟩
 · rw [rowW, h]; exact z06 rfl
 · rw [rowW, h, Bool.false_or]
   have h := of_decide_eq_false h
   exact zou l (by omega) hb l [] rfl
end Go.AM

set_option maxRecDepth 100000
open Go Go.Proofs
namespace Go.AM
def LV0 (s : Sto) : Prop := ∀ i ∈ s.V, 0 ≤ i.lv
theorem zmz (a : Int) : 0 ≤ z0e [a, 0] := by simp only [z0e, List.foldl]; omega
theorem LV0.fresh {s : Sto} (h : LV0 s) (lv : Int) : LV0 (freshS s lv) := fun i hi => by
 rcases List.mem_append.1 hi with hi | hi
 · exact h i hi
 · simp at hi; subst hi; exact zmz lv
theorem LV0.bind {s : Sto} (h : LV0 s) (x : Int) (t : Tm) : LV0 (bindS s x t) := fun i hi => by
 by_cases q : z4b s x t = true
 · rw [(z1n q).1] at hi
   rcases List.mem_or_eq_of_mem_set hi with hi | rfl
   · exact h i hi
   · obtain ⟨hl, e⟩ := z2x (z6l q).1 (z6l q).2
     show 0 ≤ (infOf s.V x).lv
     rw [e]; exact h _ (List.getElem_mem hl)
 · rw [(z3d (by simpa using q)).1] at hi; exact h i hi
end Go.AM

set_option maxRecDepth 100000
open Go Go.Proofs
namespace Go.AM
def z47 (t : Tm) : Bool := (z09 t).k == 3 || (z09 t).k == 1
def z1d (t : Tm) : Tm := if z47 t = true then z09 t else noT
abbrev zf0 (t : Tm) (b : Bool) : TV := .tup [(true, cT t), (false, [.a (.fz (.bool b))])]
theorem zq8 (t : Tm) (hs : t.sz ≤ SZ) (hb : bd M61 t) : AC Tryz.prog 51 [aT t] [] (if z02 t = true then zf0 (z1d t) (z47 t) else zf0 noT false) [] := by
 have h0 := z26 t (by simp only [SZ, B] at *; omega)
 have h := fun h => zk9 t (z08 t h) (z3y h) hs hb
 have e1 : ∀ b, z47 t = b → z1d t = if b = true then z09 t else noT := fun b h => by rw [z1d, h]
 have e2 : z47 t = ((z09 t).k == 3 || (z09 t).k == 1) := rfl
 obtain ⟨k, s, n, l⟩ := t
 refine AC.vc hP sh lv51 (Nat.le_refl _) (by simp) (by simp) (Eq.mpr (v51 k s n (FTs l) _ _) ?_)
 refine ⟨_, h0, z01 (fun hv => ?_) (fun hv => ⟨_, h (zng hv), z01 (fun h3 => ?_) (fun h3 => z01 (fun h1 => ?_) (fun h1 => ?_))⟩)⟩
 · rw [if_neg (by rw [not_t hv]; simp)]; exact ⟨leTB (l := []) z0d, rfl⟩
 · have h3 : ((z09 (.mk k s n l)).k == 3) = true := h3
   have e : z47 (.mk k s n l) = true := by rw [e2, h3]; rfl
   rw [if_pos (zng hv), e1 true e, e, if_pos rfl]; exact ⟨.refl _, rfl⟩
 · have h1 : ((z09 (.mk k s n l)).k == 1) = true := h1
   have e : z47 (.mk k s n l) = true := by rw [e2, h1, Bool.or_true]
   rw [if_pos (zng hv), e1 true e, e, if_pos rfl]; exact ⟨.refl _, rfl⟩
 · have h3 : ((z09 (.mk k s n l)).k == 3) = false := h3
   have h1 : ((z09 (.mk k s n l)).k == 1) = false := h1
   have e : z47 (.mk k s n l) = false := by rw [e2, h1, h3]; rfl
   rw [if_pos (zng hv), e1 false e, e]; exact ⟨leTB (l := []) z0d, rfl⟩
end Go.AM
