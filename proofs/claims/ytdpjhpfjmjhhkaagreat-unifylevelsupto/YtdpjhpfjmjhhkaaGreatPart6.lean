/- A calculus of plain values for the model's code, what the code of each function asks (computed by the kernel), contracts of the functions, and plain laws (part 6). No conditions. -/
import Derived.Test.YtdpjhpfjmjhhkaaGreatPart5
set_option maxRecDepth 100000
open Go Go.Proofs
namespace Go.AM
def ixF (p : Tm → Bool) : List Tm → Nat → Int
 | [], _ => -1
 | t :: l, i => if p t = true then (i : Int) else ixF p l (i + 1)
theorem zf0 (p : Tm → Bool) : ∀ (l : List Tm) (i : Nat), decide (ixF p l i ≥ 0) = l.any p
 | [], _ => rfl
 | t :: l, i => by
  rw [ixF, List.any_cons]
  split
  · rename_i h; rw [h]; simp
  · rename_i h; rw [zf0 p l, show p t = false by simpa using h, Bool.false_or]
theorem zrt (p : Tm → Bool) : ∀ (l : List Tm) (i : Nat), -1 ≤ ixF p l i ∧ ixF p l i < (i : Int) + (l.length : Int) + 1
 | [], i => by simp only [ixF]; omega
 | t :: l, i => by
  have := zrt p l (i + 1)
  rw [ixF]
  split
  · simp only [List.length_cons]; omega
  · simp only [List.length_cons]; omega
theorem l_ixiodd (p : Tm → Bool) (b : List Tm) : ∀ a : List Tm, (a ++ b).length ≤ B → (∀ u ∈ b, AC Tryz.prog 50 [aT u] [] (cb (p u)) []) → RPt Tryz.prog 83 0 (ci (ixF p b a.length)) [] 1 ⟨[(0, aL (a ++ b)), (1, .c (.fn (.func 50) [] [])), (7, ci ((a ++ b).length : Int)), (8, ci (a.length : Int))], [], 0⟩ := by
 induction b with
 | nil =>
  intro a hs _
  refine RPt.vc hP sh lv83 (Eq.mpr (zd8 ..) ?_)
  exact z01 (fun h => absurd (of_decide_eq_true h) (by simp)) (fun _ => z3h rfl)
 | cons t b ihb =>
  intro a hs ih
  have h3 := ltI' a t b
  have h1 := ih t List.mem_cons_self
  have h2 := ihb (a ++ [t]) (by simpa using hs) (fun u hu => ih u (List.mem_cons_of_mem _ hu))
  rw [ap, nx, show (a ++ [t]).length = a.length + 1 by simp] at h2
  rw [ixF]
  simp only [List.length_append, List.length_cons, B] at hs
  have h4 : (a.length : Int) < ((a ++ t :: b).length : Int) := by simp only [List.length_append, List.length_cons]; omega
  refine RPt.vc hP sh lv83 (Eq.mpr (zd8 ..) ?_)
  rw [w64 (by omega) (by omega)]
  refine z01 (fun _ => ⟨⟨rfl, by omega, h3, z3o ..⟩, p t, by rw [z39]; exact h1, z01 (fun h => ?_) (fun h => ?_)⟩) (fun h => absurd h4 (of_decide_eq_false h))
  · rw [if_pos h]; exact z3h rfl
  · rw [if_neg (by rw [h]; simp)]; exact h2
theorem c_ixiodd (p : Tm → Bool) (l : List Tm) (hl : l.length ≤ B) (h : ∀ u ∈ l, AC Tryz.prog 50 [aT u] [] (cb (p u)) []) : AC Tryz.prog 83 [aL l, .c (.fn (.func 50) [] [])] [] (ci (ixF p l 0)) [] := by
 have := l_ixiodd p l [] hl h
 refine AC.vc hP sh lv83 (Nat.le_refl _) (by simp) (by simp) (Eq.mpr (v83_F50 ..) ?_)
 rw [z00]
 exact ⟨rfl, this⟩
theorem zpb (p : Tm → Bool) (l : List Tm) (hl : l.length ≤ B) (h : ∀ u ∈ l, AC Tryz.prog 50 [aT u] [] (cb (p u)) []) : AC Tryz.prog 49 [aL l, .c (.fn (.func 50) [] [])] [] (cb (l.any p)) [] := by
 refine AC.vc hP sh lv49 (Nat.le_refl _) (by simp) (by simp) (Eq.mpr (v49_F50 ..) ?_)
 exact ⟨_, c_ixiodd p l hl h, z06 (zf0 p l 0)⟩
theorem zj4 (p : Tm → Bool) (b : List Tm) : ∀ a : List Tm, (a ++ b).length ≤ B → (∀ u ∈ b, AC Tryz.prog 61 [aT u] [] (cb (p u)) []) → RPt Tryz.prog 83 0 (ci (ixF p b a.length)) [] 1 ⟨[(0, aL (a ++ b)), (1, .c (.fn (.func 61) [] [])), (7, ci ((a ++ b).length : Int)), (8, ci (a.length : Int))], [], 0⟩ := by
 induction b with
 | nil =>
  intro a hs _
  refine RPt.vc hP sh lv83 (Eq.mpr (zd6 ..) ?_)
  exact z01 (fun h => absurd (of_decide_eq_true h) (by simp)) (fun _ => z3h rfl)
 | cons t b ihb =>
  intro a hs ih
  have h3 := ltI' a t b
  have h1 := ih t List.mem_cons_self
  have h2 := ihb (a ++ [t]) (by simpa using hs) (fun u hu => ih u (List.mem_cons_of_mem _ hu))
  rw [ap, nx, show (a ++ [t]).length = a.length + 1 by simp] at h2
  rw [ixF]
  simp only [List.length_append, List.length_cons, B] at hs
  have h4 : (a.length : Int) < ((a ++ t :: b).length : Int) := by simp only [List.length_append, List.length_cons]; omega
  refine RPt.vc hP sh lv83 (Eq.mpr (zd6 ..) ?_)
  rw [w64 (by omega) (by omega)]
  refine z01 (fun _ => ⟨⟨rfl, by omega, h3, z3o ..⟩, p t, by rw [z39]; exact h1, z01 (fun h => ?_) (fun h => ?_)⟩) (fun h => absurd h4 (of_decide_eq_false h))
  · rw [if_pos h]; exact z3h rfl
  · rw [if_neg (by rw [h]; simp)]; exact h2
theorem zjs (p : Tm → Bool) (l : List Tm) (hl : l.length ≤ B) (h : ∀ u ∈ l, AC Tryz.prog 61 [aT u] [] (cb (p u)) []) : AC Tryz.prog 83 [aL l, .c (.fn (.func 61) [] [])] [] (ci (ixF p l 0)) [] := by
 have := zj4 p l [] hl h
 refine AC.vc hP sh lv83 (Nat.le_refl _) (by simp) (by simp) (Eq.mpr (v83_F61 ..) ?_)
 rw [z00]
 exact ⟨rfl, this⟩
theorem zg6 (p : Tm → Bool) (l : List Tm) (hl : l.length ≤ B) (h : ∀ u ∈ l, AC Tryz.prog 61 [aT u] [] (cb (p u)) []) : AC Tryz.prog 49 [aL l, .c (.fn (.func 61) [] [])] [] (cb (l.any p)) [] := by
 refine AC.vc hP sh lv49 (Nat.le_refl _) (by simp) (by simp) (Eq.mpr (v49_F61 ..) ?_)
 exact ⟨_, zjs p l hl h, z06 (zf0 p l 0)⟩
abbrev obT (t : Tm) : AObj := .arr 4 [cT t]
theorem zsj (p : Tm → Bool) (o : Tm) (b : List Tm) : ∀ a : List Tm, (a ++ b).length ≤ B → (∀ u ∈ b, AC Tryz.prog 52 [aT u, .c (.a (.ep 0 4 0 0))] [obT o] (cb (p u)) [obT o]) →
  RPt Tryz.prog 83 1 (ci (ixF p b a.length)) [obT o] 1 ⟨[(0, aL (a ++ b)), (1, .c (.fn (.func 52) [] [(false, [.ep 0 4 0 0])])), (7, ci ((a ++ b).length : Int)), (8, ci (a.length : Int))], [(0, obT o)], 1⟩ := by
 induction b with
 | nil =>
  intro a hs _
  obtain ⟨ok, os, on, ol⟩ := o
  refine RPt.vc hP sh lv83 (Eq.mpr (zdx ..) ?_)
  exact z01 (fun h => absurd (of_decide_eq_true h) (by simp)) (fun _ => ⟨.refl _, rfl⟩)
 | cons t b ihb =>
  intro a hs ih
  have h3 := ltI' a t b
  have h1 := ih t List.mem_cons_self
  have h2 := ihb (a ++ [t]) (by simpa using hs) (fun u hu => ih u (List.mem_cons_of_mem _ hu))
  rw [ap, nx, show (a ++ [t]).length = a.length + 1 by simp] at h2
  rw [ixF]
  simp only [List.length_append, List.length_cons, B] at hs
  have h4 : (a.length : Int) < ((a ++ t :: b).length : Int) := by simp only [List.length_append, List.length_cons]; omega
  obtain ⟨ok, os, on, ol⟩ := o
  refine RPt.vc hP sh lv83 (Eq.mpr (zdx ..) ?_)
  rw [w64 (by omega) (by omega)]
  refine z01 (fun _ => ⟨⟨rfl, by omega, h3, z3o ..⟩, p t, by rw [z39]; exact h1, z01 (fun h => ?_) (fun h => ?_)⟩) (fun h => absurd h4 (of_decide_eq_false h))
  · rw [if_pos h]; exact ⟨.refl _, rfl⟩
  · rw [if_neg (by rw [h]; simp)]; exact h2
theorem zs5 (p : Tm → Bool) (o : Tm) (l : List Tm) (hl : l.length ≤ B) (h : ∀ u ∈ l, AC Tryz.prog 52 [aT u, .c (.a (.ep 0 4 0 0))] [obT o] (cb (p u)) [obT o]) : AC Tryz.prog 83 [aL l, .c (.fn (.func 52) [] [(false, [.ep 0 4 0 0])])] [obT o] (ci (ixF p l 0)) [obT o] := by
 have := zsj p o l [] hl h
 obtain ⟨ok, os, on, ol⟩ := o
 refine AC.vc hP sh lv83 (Nat.le_refl _) (by simp [isLive]) (by simp) (Eq.mpr (v83_F52 ..) ?_)
 rw [z00]
 exact ⟨rfl, this⟩
theorem zn6 (p : Tm → Bool) (o : Tm) (b : List Tm) : ∀ a : List Tm, (a ++ b).length ≤ B → (∀ u ∈ b, AC Tryz.prog 124 [aT u, .c (.a (.ep 0 4 0 0))] [obT o] (cb (p u)) [obT o]) →
  RPt Tryz.prog 83 1 (ci (ixF p b a.length)) [obT o] 1 ⟨[(0, aL (a ++ b)), (1, .c (.fn (.func 124) [] [(false, [.ep 0 4 0 0])])), (7, ci ((a ++ b).length : Int)), (8, ci (a.length : Int))], [(0, obT o)], 1⟩ := by
 induction b with
 | nil =>
  intro a hs _
  obtain ⟨ok, os, on, ol⟩ := o
  refine RPt.vc hP sh lv83 (Eq.mpr (zc0 ..) ?_)
  exact z01 (fun h => absurd (of_decide_eq_true h) (by simp)) (fun _ => ⟨.refl _, rfl⟩)
 | cons t b ihb =>
  intro a hs ih
  have h3 := ltI' a t b
  have h1 := ih t List.mem_cons_self
  have h2 := ihb (a ++ [t]) (by simpa using hs) (fun u hu => ih u (List.mem_cons_of_mem _ hu))
  rw [ap, nx, show (a ++ [t]).length = a.length + 1 by simp] at h2
  rw [ixF]
  simp only [List.length_append, List.length_cons, B] at hs
  have h4 : (a.length : Int) < ((a ++ t :: b).length : Int) := by simp only [List.length_append, List.length_cons]; omega
  obtain ⟨ok, os, on, ol⟩ := o
  refine RPt.vc hP sh lv83 (Eq.mpr (zc0 ..) ?_)
  rw [w64 (by omega) (by omega)]
  refine z01 (fun _ => ⟨⟨rfl, by omega, h3, z3o ..⟩, p t, by rw [z39]; exact h1, z01 (fun h => ?_) (fun h => ?_)⟩) (fun h => absurd h4 (of_decide_eq_false h))
  · rw [if_pos h]; exact ⟨.refl _, rfl⟩
  · rw [if_neg (by rw [h]; simp)]; exact h2
theorem zo6 (p : Tm → Bool) (o : Tm) (l : List Tm) (hl : l.length ≤ B) (h : ∀ u ∈ l, AC Tryz.prog 124 [aT u, .c (.a (.ep 0 4 0 0))] [obT o] (cb (p u)) [obT o]) : AC Tryz.prog 83 [aL l, .c (.fn (.func 124) [] [(false, [.ep 0 4 0 0])])] [obT o] (ci (ixF p l 0)) [obT o] := by
 have := zn6 p o l [] hl h
 obtain ⟨ok, os, on, ol⟩ := o
 refine AC.vc hP sh lv83 (Nat.le_refl _) (by simp [isLive]) (by simp) (Eq.mpr (v83_F124 ..) ?_)
 rw [z00]
 exact ⟨rfl, this⟩
def lfB (a b : Tm) : Bool := a.k == b.k && a.n == b.n
theorem zsr (a b : Tm) : AC Tryz.prog 53 [aT a, aT b] [] (cb (lfB a b)) [] := by
 obtain ⟨k, s, n, l⟩ := a
 obtain ⟨k', s', n', l'⟩ := b
 refine AC.vc hP sh lv53 (Nat.le_refl _) (by simp) (by simp) (Eq.mpr (v53 k s n (FTs l) k' s' n' (FTs l') _ _) ?_)
 have e : lfB (.mk k s n l) (.mk k' s' n' l') = (k == k' && n == n') := rfl
 refine z01 (fun h => ?_) (fun h => ?_)
 · have h : (k == k') = true := h
   rw [e, h, Bool.true_and]; exact ⟨.refl _, rfl⟩
 · have h : (k == k') = false := h
   rw [e, h, Bool.false_and]; exact ⟨.refl _, rfl⟩
theorem c_args1 (a o : Tm) : AC Tryz.prog 52 [aT a, .c (.a (.ep 0 4 0 0))] [obT o] (cb (lfB a o)) [obT o] := by
 have h := zsr a o
 obtain ⟨k, s, n, l⟩ := a
 obtain ⟨k', s', n', l'⟩ := o
 refine AC.vc hP sh lv52 (Nat.le_refl _) (by simp [isLive]) (by simp) (Eq.mpr (v52 k s n (FTs l) k' s' n' (FTs l') _ _) ?_)
 exact ⟨_, h, .refl _, rfl⟩
theorem c_image1 (a o : Tm) : AC Tryz.prog 124 [aT a, .c (.a (.ep 0 4 0 0))] [obT o] (cb (lfB a o)) [obT o] := by
 have h := zsr a o
 obtain ⟨k, s, n, l⟩ := a
 obtain ⟨k', s', n', l'⟩ := o
 refine AC.vc hP sh lv124 (Nat.le_refl _) (by simp [isLive]) (by simp) (Eq.mpr (v124 k s n (FTs l) k' s' n' (FTs l') _ _) ?_)
 exact ⟨_, h, .refl _, rfl⟩
theorem l_ixO (o : Tm) (b : List Tm) : ∀ a : List Tm, (a ++ b).length ≤ B →
  RPt Tryz.prog 83 2 (ci (ixF (fun u => lfB u o) b a.length)) [.arz 4 (FTs (a ++ b)), obT o] 1 ⟨[(0, .c (.a (.osl 0 4 0 (a ++ b).length))), (1, .c (.fn (.func 52) [] [(false, [.ep 1 4 0 0])])), (7, ci ((a ++ b).length : Int)), (8, ci (a.length : Int))], [(0, .arz 4 (FTs (a ++ b))), (1, obT o)], 2⟩ := by
 induction b with
 | nil =>
  intro a hs
  obtain ⟨ok, os, on, ol⟩ := o
  refine RPt.vc hP sh lv83 (Eq.mpr (z8b ..) ?_)
  exact z01 (fun h => absurd (of_decide_eq_true h) (by simp)) (fun _ => ⟨.refl _, rfl⟩)
 | cons t b ihb =>
  intro a hs
  have h3 := ltI' a t b
  have h1 := c_args1 t o
  have h2 := ihb (a ++ [t]) (by simpa using hs)
  rw [ap, nx, show (a ++ [t]).length = a.length + 1 by simp] at h2
  rw [ixF]
  simp only [List.length_append, List.length_cons, B] at hs
  have h4 : (a.length : Int) < ((a ++ t :: b).length : Int) := by simp only [List.length_append, List.length_cons]; omega
  have em := z3o a t b
  obtain ⟨ok, os, on, ol⟩ := o
  refine RPt.vc hP sh lv83 (Eq.mpr (z8b ..) ?_)
  rw [w64 (by omega) (by omega)]
  refine z01 (fun _ => ⟨by simp only [List.length_append, List.length_cons]; omega, ⟨by rw [Nat.zero_add]; omega, by rw [Nat.zero_add, em, midI, List.drop_zero, List.take_of_length_le (by rw [z1s]; exact Nat.le_refl _)], rfl⟩, lfB t (.mk ok os on ol), by rw [Nat.zero_add, z39]; exact h1, z01 (fun h => ?_) (fun h => ?_)⟩) (fun h => absurd h4 (of_decide_eq_false h))
  · rw [if_pos h]; exact ⟨.refl _, rfl⟩
  · rw [if_neg (by rw [h]; simp)]; exact h2
theorem c_ixO (o : Tm) (l : List Tm) (hl : l.length ≤ B) : AC Tryz.prog 83 [.c (.a (.osl 0 4 0 l.length)), .c (.fn (.func 52) [] [(false, [.ep 1 4 0 0])])] [.arz 4 (FTs l), obT o] (ci (ixF (fun u => lfB u o) l 0)) [.arz 4 (FTs l), obT o] := by
 have := l_ixO o l [] hl
 obtain ⟨ok, os, on, ol⟩ := o
 refine AC.vc hP sh lv83 (Nat.le_refl _) (by simp [isLive]) (by simp) (Eq.mpr (znh ..) ?_)
 exact this
theorem c_anyO (o : Tm) (l : List Tm) (hl : l.length ≤ B) : AC Tryz.prog 49 [.c (.a (.osl 0 4 0 l.length)), .c (.fn (.func 52) [] [(false, [.ep 1 4 0 0])])] [.arz 4 (FTs l), obT o] (cb (l.any fun u => lfB u o)) [.arz 4 (FTs l), obT o] := by
 have h := c_ixO o l hl
 have e := zf0 (fun u => lfB u o) l 0
 obtain ⟨ok, os, on, ol⟩ := o
 refine AC.vc hP sh lv49 (Nat.le_refl _) (by simp [isLive]) (by simp) (Eq.mpr (znf ..) ?_)
 exact ⟨_, h, by rw [← e]; exact .refl _, rfl⟩
theorem c_anyN (o : Tm) : AC Tryz.prog 49 [.c (.a (.fz .nils)), .c (.fn (.func 52) [] [(false, [.ep 0 4 0 0])])] [obT o] (cb false) [obT o] := by
 have h := zs5 (fun u => lfB u o) o [] (by simp only [List.length_nil, B]; omega) (fun u hu => by cases hu)
 have hh : AC Tryz.prog 49 [aL [], .c (.fn (.func 52) [] [(false, [.ep 0 4 0 0])])] [obT o] (cb false) [obT o] := by
  obtain ⟨ok, os, on, ol⟩ := o
  refine AC.vc hP sh lv49 (Nat.le_refl _) (by simp [isLive]) (by simp) (Eq.mpr (v49_F52 ..) ?_)
  exact ⟨_, h, .refl _, rfl⟩
 exact hh.args ⟨.c _ _ (.a _ _ (.fz _ _ z0c)), .refl _, trivial⟩
end Go.AM

set_option maxRecDepth 100000
open Go Go.Proofs
namespace Go.AM
def z76 (lv : Int) (out : List Tm) (u : Tm) : Bool := !z49 u || ((z1d u).k == 1 && decide ((z1d u).n ≤ lv)) || out.any fun v => lfB v (z1d u)
def z3z (s : Sto) (lv : Int) : List Tm → List Tm → Int → List Tm × Int × Int
 | out, [], f => (out, f, 0)
 | out, t :: l, f => if (z1m s f t).2.2 ≠ 0 then ([], 0, (z1m s f t).2.2) else if z76 lv out (z1m s f t).1 = true then ([], 0, 171) else z3z s lv (out ++ [z1d (z1m s f t).1]) l (z1m s f t).2.1
def z1e (s : Sto) (x : Int) (l : List Tm) (f : Int) : List Tm × Int × Int := if (!inB s.V x || l.any fun t => !z02 t) = true then ([], 0, 1) else z3z s (infOf s.V x).lv [] l f
abbrev aAr (z : List Tm × Int × Int) : TV := .tup [(false, [.a (.fz (.sl false 4 (FTs z.1)))]), (false, [.a (.fz (.int .i64 z.2.1))]), (false, [.a (.fz (.int .i64 z.2.2))])]
theorem leAr {x : FV} {a b : Int} {l : List Tm} (h : FV.Le x (.sl false 4 (FTs l))) : TV.Le (.tup [(false, [.a (.fz x)]), (false, [.a (.fz (.int .i64 a))]), (false, [.a (.fz (.int .i64 b))])]) (aAr (l, a, b)) := zmr ⟨⟨rfl, .a _ _ (.fz _ _ h), trivial⟩, lwR _, lwR _, trivial⟩
theorem zb3 {s : Sto} (hs : OKS s) {f : Int} {t : Tm} (hf : z02 t = true → Fit f.toNat t) (he : (z1m s f t).2.2 = 0) : z02 t = true ∧ z02 (z1m s f t).1 = true ∧ bd M61 (z1m s f t).1 ∧ (z1m s f t).1.sz ≤ SZ ∧ (z1m s f t).1.sz + 42000 * (z1m s f t).2.1.toNat ≤ t.sz + 42000 * f.toNat ∧ 0 ≤ (z1m s f t).2.1 ∧ (z1m s f t).2.1 ≤ f := by
 unfold z1m at he ⊢
 split at he
 · rename_i hv
   rw [if_pos hv]
   have h0 : 0 ≤ f ∨ (z0h s f.toNat f t).2.1 ≠ 0 := by
    rcases Int.le_total 0 f with q | q
    · exact .inl q
    · right; rw [zh5 s _ t q]; simp
   split at he
   · rename_i h1
     rw [if_pos h1]
     have h0 : 0 ≤ f := h0.resolve_right (fun h => h h1)
     obtain ⟨⟨a, b⟩, c⟩ := zfo hs f.toNat f t (Nat.le_refl _) h0 hv (hf hv) h1
     have hl := z5a s f.toNat f t h0
     have so := z6j _ (z08 _ a)
     have hsz := (hf hv).2.1
     exact ⟨hv, by rw [z30, so.1, so.2.1 (z43 a)]; rfl, so.2.2.2 _ (by simp only [M61]; omega) b, by have := so.2.2.1; simp only; omega, by have := so.2.2.1; simp only; omega, hl⟩
   · rename_i h1; exact absurd he h1
 · cases he
abbrev oInf (i : Inf) : AObj := .arr 6 [[.a (.fz (.int .i64 i.lv)), .a (.fz (.bool i.bd)), .a (.fz (.int .i64 i.v.k)), .a (.fz (.str i.v.s)), .a (.fz (.int .i64 i.v.n)), .a (.fz (.sl false 4 (FTs i.v.l)))]]
theorem zru (s : Sto) (hs : OKS s) (i : Inf) (l0 : List Tm) (hl0 : l0.length ≤ 1000000000) : ∀ (b pre out : List Tm) (f : Int), out.length = pre.length → out ≠ [] → l0 = pre ++ b → 0 - 9223372036854775808 ≤ f → (∀ t ∈ b, t.sz ≤ B ∧ (z02 t = true → Fit f.toNat t)) →
  RPt Tryz.prog 13 3 (aAr (z3z s i.lv out b f)) (oS s) 1
   ⟨[(0, aS 0), (3, ci f), (11, .c (.a (.ep 3 6 0 0))), (13, .c (.a (.osl 4 4 0 out.length))), (35, aL l0), (36, ci (l0.length : Int)), (37, ci (pre.length : Int))],
    [(0, sto2 1 2 s), (1, .arz 6 (SR s.V)), (2, .arz 1 (IR s.T)), (3, oInf i), (4, .arz 4 (FTs out))], 5⟩
 | [], pre, out, f, ho, hne, hl, h0, _ => by
  subst hl
  obtain ⟨ilv, ibd, ⟨ik, is, iN, il⟩⟩ := i
  refine RPt.vc hP sh lv13 (Eq.mpr (v13_1b f out.length (FTs (pre ++ [])) ((pre ++ []).length : Nat) (pre.length : Nat) ..) ?_)
  refine z01 (fun h => absurd (of_decide_eq_true h) (by rw [List.append_nil]; omega)) (fun _ => ⟨⟨rfl, by rw [z00]; omega⟩, ?_, rfl⟩)
  rw [List.drop_zero, List.take_of_length_le (by rw [z00]; omega)]
  exact leAr leSl
 | t :: b, pre, out, f, ho, hne, hl, h0, hb => by
  subst hl
  obtain ⟨hz, hfit⟩ := hb t List.mem_cons_self
  have h3 := ltI' pre t b
  have em := z3o pre t b
  have hF := zfn s hs f t h0 hz hfit
  have okF := zb3 hs hfit
  have eA : z3z s i.lv out (t :: b) f = if (z1m s f t).2.2 ≠ 0 then ([], 0, (z1m s f t).2.2) else if z76 i.lv out (z1m s f t).1 = true then ([], 0, 171) else z3z s i.lv (out ++ [z1d (z1m s f t).1]) b (z1m s f t).2.1 := rfl
  have next := fun g w h1 h2 => zru s hs i (pre ++ t :: b) hl0 b (pre ++ [t]) (out ++ [w]) g (by simp; omega) (by simp) (by simp) h1 h2
  simp only [List.length_append, List.length_cons] at hl0
  rw [eA]
  generalize z1m s f t = z at *
  obtain ⟨u, g, e⟩ := z
  simp only at okF hF ⊢
  have h4 : ((pre.length : Nat) : Int) < (((pre ++ t :: b).length : Nat) : Int) := by simp only [List.length_append, List.length_cons]; omega
  obtain ⟨ilv, ibd, ⟨ik, is, iN, il⟩⟩ := i
  refine RPt.vc hP sh lv13 (Eq.mpr (v13_1b f out.length (FTs (pre ++ t :: b)) ((pre ++ t :: b).length : Nat) (pre.length : Nat) ..) ?_)
  rw [z39, w64 (x := ((pre.length : Nat) : Int) + 1) (by omega) (by omega)]
  refine z01 (fun _ => ⟨⟨rfl, by omega, h3, em⟩, (u, g, e), hF, z01 (fun he => ?_) (fun he => ?_)⟩) (fun h => absurd h4 (of_decide_eq_false h))
  · have he : e ≠ 0 := by have he : (e != 0) = true := he; simpa using he
    rw [if_pos he]; exact ⟨leAr (l := []) z0c, rfl⟩
  · have he : e = 0 := by have he : (e != 0) = false := he; simpa using he
    subst he
    obtain ⟨hv, hvu, hbu, hsz, _, hg0, hg1⟩ := okF rfl
    rw [if_neg (by simp)]
    have hleaf := zs9 u hsz hbu
    rw [if_pos hvu] at hleaf
    have hany := c_anyO (z1d u) out (by simp only [B]; omega)
    have eb : z76 ilv out u = (!z49 u || ((z1d u).k == 1 && decide ((z1d u).n ≤ ilv)) || out.any fun v => lfB v (z1d u)) := rfl
    have go : z76 ilv out u = false → 1 ≤ 1 ∧ (out.length ≤ (FTs out).length ∧ z0k (out.length + 1) 56) ∧ RPt Tryz.prog 13 3 (aAr (z3z s ilv (out ++ [z1d u]) b g)) (oS s) 1
      ⟨[(0, aS 0), (3, ci g), (11, .c (.a (.ep 3 6 0 0))), (13, .c (.a (.osl 4 4 0 (out.length + 1)))), (35, aL (pre ++ t :: b)), (36, ci ((pre ++ t :: b).length : Int)), (37, ci ((pre.length : Int) + 1))],
       [(0, sto2 1 2 s), (1, .arz 6 (SR s.V)), (2, .arz 1 (IR s.T)), (3, oInf ⟨ilv, ibd, ⟨ik, is, iN, il⟩⟩), (4, .arz 4 (List.take out.length (FTs out) ++ [FT4 (z1d u)]))], 5⟩ := fun _ => by
     have hn := next g (z1d u) (by omega) (fun x hx => ⟨(hb x (List.mem_cons_of_mem _ hx)).1, fun hv => ((hb x (List.mem_cons_of_mem _ hx)).2 hv).mono (by omega)⟩)
     have e5 : List.take out.length (FTs out) ++ [FT4 (z1d u)] = FTs (out ++ [z1d u]) := by rw [List.take_of_length_le (by rw [z00]; omega), z5w, z1x]; rfl
     have e7 : (out ++ [z1d u]).length = out.length + 1 := by simp
     have e8 : (((pre ++ [t]).length : Nat) : Int) = (pre.length : Int) + 1 := by simp
     rw [e7, e8] at hn
     rw [e5]
     exact ⟨Nat.le_refl _, ⟨by rw [z00]; exact Nat.le_refl _, z5n (by omega)⟩, hn⟩
    have bad : z76 ilv out u = true → (TV.Le (.tup [(false, [.a (.fz .nils)]), (false, [.a (.fz (.int .i64 0))]), (false, [.a (.fz (.int .i64 171))])]) (aAr (if z76 ilv out u = true then ([], 0, 171) else z3z s ilv (out ++ [z1d u]) b g)) ∧ oS s = oS s) := fun h => by
     rw [if_pos h]; exact ⟨leAr (l := []) z0c, rfl⟩
    have good : ∀ h : z76 ilv out u = false, 1 ≤ 1 ∧ (out.length ≤ (FTs out).length ∧ z0k (out.length + 1) 56) ∧ RPt Tryz.prog 13 3 (aAr (if z76 ilv out u = true then ([], 0, 171) else z3z s ilv (out ++ [z1d u]) b g)) (oS s) 1
      ⟨[(0, aS 0), (3, ci g), (11, .c (.a (.ep 3 6 0 0))), (13, .c (.a (.osl 4 4 0 (out.length + 1)))), (35, aL (pre ++ t :: b)), (36, ci ((pre ++ t :: b).length : Int)), (37, ci ((pre.length : Int) + 1))],
       [(0, sto2 1 2 s), (1, .arz 6 (SR s.V)), (2, .arz 1 (IR s.T)), (3, oInf ⟨ilv, ibd, ⟨ik, is, iN, il⟩⟩), (4, .arz 4 (List.take out.length (FTs out) ++ [FT4 (z1d u)]))], 5⟩ := fun h => by
     have := go h
     rw [if_neg (by rw [h]; simp)]; exact this
    refine ⟨(z1d u, z49 u), hleaf, z01 (fun h1 => ?_) (fun h1 => ?_)⟩
    · have h1 : ((z1d u).k == 1) = true := h1
      rw [h1, Bool.true_and] at eb
      refine ⟨_, hany, z01 (fun h2 => bad ?_) (fun h2 => z01 (fun h3 => bad ?_) (fun h3 => z01 (fun h4 => bad ?_) (fun h4 => good ?_)))⟩
      · have h2 : (!z49 u) = true := h2
        rw [eb, h2]; rfl
      · have h3 : decide ((z1d u).n ≤ ilv) = true := h3
        rw [eb, h3, Bool.or_true]; rfl
      · have h4 : (out.any fun v => lfB v (z1d u)) = true := h4
        rw [eb, h4, Bool.or_true]
      · have h2 : (!z49 u) = false := h2
        have h3 : decide ((z1d u).n ≤ ilv) = false := h3
        have h4 : (out.any fun v => lfB v (z1d u)) = false := h4
        rw [eb, h2, h3, h4]; rfl
    · have h1 : ((z1d u).k == 1) = false := h1
      rw [h1, Bool.false_and, Bool.or_false] at eb
      refine ⟨_, hany, z01 (fun h2 => bad ?_) (fun h2 => z01 (fun h4 => bad ?_) (fun h4 => good ?_))⟩
      · have h2 : (!z49 u) = true := h2
        rw [eb, h2]; rfl
      · have h4 : (out.any fun v => lfB v (z1d u)) = true := h4
        rw [eb, h4, Bool.or_true]
      · have h2 : (!z49 u) = false := h2
        have h4 : (out.any fun v => lfB v (z1d u)) = false := h4
        rw [eb, h2, h4]; rfl
theorem zpi (s : Sto) (hs : OKS s) (x f : Int) (l : List Tm) (hl0 : l.length ≤ 1000000000) (h0 : 0 - 9223372036854775808 ≤ f) (hb : ∀ t ∈ l, t.sz ≤ B ∧ (z02 t = true → Fit f.toNat t)) : AC Tryz.prog 13 [aS 0, ci x, aL l, ci f] (oS s) (aAr (z1e s x l f)) (oS s) := by
 have hI := z66 s x
 have hO := zpb (fun t => !z02 t) l (by simp only [B]; omega) (fun u hu => c_iodd u (hb u hu).1)
 have eA : z1e s x l f = if (!inB s.V x || l.any fun t => !z02 t) = true then ([], 0, 1) else z3z s (infOf s.V x).lv [] l f := rfl
 rw [eA]
 generalize infOf s.V x = i at *
 generalize inB s.V x = ib at *
 generalize (l.any fun t => !z02 t) = od at *
 obtain ⟨ilv, ibd, iv⟩ := i
 refine AC.vc hP sh lv13 (Nat.le_refl _) (by simp [isLive]) (by simp) (Eq.mpr (v13 x (FTs l) f ..) ?_)
 refine ⟨(ilv, ibd, iv, ib), hI, z01 (fun h => ?_) (fun h => ⟨_, hO, z01 (fun h2 => ?_) (fun h2 => ⟨rfl, ?_⟩)⟩)⟩
 · have h : (!ib) = true := h
   rw [h, Bool.true_or, if_pos rfl]; exact ⟨leAr (l := []) z0c, rfl⟩
 · rw [h2, Bool.or_true, if_pos rfl]; exact ⟨leAr (l := []) z0c, rfl⟩
 have h : (!ib) = false := h
 rw [h, h2, if_neg (by simp), z00]
 show RPt Tryz.prog 13 3 (aAr (z3z s ilv [] l f)) (oS s) 1 ⟨[(0, aS 0), (3, ci f), (11, .c (.a (.ep 3 6 0 0))), (13, .c (.a (.fz .nils))), (35, aL l), (36, ci (l.length : Int)), (37, ci 0)], [(0, sto2 1 2 s), (1, .arz 6 (SR s.V)), (2, .arz 1 (IR s.T)), (3, oInf ⟨ilv, ibd, iv⟩)], 4⟩
 cases l with
 | nil =>
  obtain ⟨ik, is, iN, il⟩ := iv
  refine RPt.vc hP sh lv13 (Eq.mpr (v13_1a f (FTs []) 0 0 ..) ?_)
  exact z01 (fun h => by cases h) (fun _ => ⟨leAr (l := []) z0c, rfl⟩)
 | cons t b =>
  obtain ⟨hz, hfit⟩ := hb t List.mem_cons_self
  have h3 := ltI' [] t b
  have em := z3o [] t b
  have hF := zfn s hs f t h0 hz hfit
  have okF := zb3 hs hfit
  have eA : z3z s ilv [] (t :: b) f = if (z1m s f t).2.2 ≠ 0 then ([], 0, (z1m s f t).2.2) else if z76 ilv [] (z1m s f t).1 = true then ([], 0, 171) else z3z s ilv [z1d (z1m s f t).1] b (z1m s f t).2.1 := rfl
  have next := fun g w h1 h2 => zru s hs ⟨ilv, ibd, iv⟩ (t :: b) hl0 b [t] [w] g rfl (by simp) rfl h1 h2
  simp only [List.length_cons] at hl0
  rw [eA]
  generalize z1m s f t = z at *
  obtain ⟨u, g, e⟩ := z
  simp only at okF hF ⊢
  obtain ⟨ik, is, iN, il⟩ := iv
  refine RPt.vc hP sh lv13 (Eq.mpr (v13_1a f (FTs (t :: b)) ((t :: b).length : Nat) 0 ..) ?_)
  rw [show aE (List.getD (FTs (t :: b)) (Int.toNat 0) []) = aT t from zcv t, w64 (x := (0 : Int) + 1) (by omega) (by omega)]
  refine z01 (fun _ => ⟨⟨rfl, Int.le_refl _, h3, em⟩, (u, g, e), hF, z01 (fun he => ?_) (fun he => ?_)⟩) (fun h => absurd (of_decide_eq_false h) (by simp only [List.length_cons]; omega))
  · have he : e ≠ 0 := by have he : (e != 0) = true := he; simpa using he
    rw [if_pos he]; exact ⟨leAr (l := []) z0c, rfl⟩
  · have he : e = 0 := by have he : (e != 0) = false := he; simpa using he
    subst he
    obtain ⟨hv, hvu, hbu, hsz, _, hg0, hg1⟩ := okF rfl
    rw [if_neg (by simp)]
    have hleaf := zs9 u hsz hbu
    rw [if_pos hvu] at hleaf
    have hany := c_anyN (z1d u)
    have eb : z76 ilv [] u = (!z49 u || ((z1d u).k == 1 && decide ((z1d u).n ≤ ilv))) := by rw [z76, List.any_nil, Bool.or_false]
    have bad : z76 ilv [] u = true → (TV.Le (.tup [(false, [.a (.fz .nils)]), (false, [.a (.fz (.int .i64 0))]), (false, [.a (.fz (.int .i64 171))])]) (aAr (if z76 ilv [] u = true then ([], 0, 171) else z3z s ilv [z1d u] b g)) ∧ oS s = oS s) := fun h => by
     rw [if_pos h]; exact ⟨leAr (l := []) z0c, rfl⟩
    have good : ∀ h : z76 ilv [] u = false, 1 ≤ 1 ∧ z0k 1 56 ∧ RPt Tryz.prog 13 3 (aAr (if z76 ilv [] u = true then ([], 0, 171) else z3z s ilv [z1d u] b g)) (oS s) 1
      ⟨[(0, aS 0), (3, ci g), (11, .c (.a (.ep 3 6 0 0))), (13, .c (.a (.osl 4 4 0 1))), (35, aL (t :: b)), (36, ci ((t :: b).length : Int)), (37, ci (0 + 1))],
       [(0, sto2 1 2 s), (1, .arz 6 (SR s.V)), (2, .arz 1 (IR s.T)), (3, oInf ⟨ilv, ibd, ⟨ik, is, iN, il⟩⟩), (4, .arz 4 [FT4 (z1d u)])], 5⟩ := fun h => by
     have hn := next g (z1d u) (by omega) (fun x hx => ⟨(hb x (List.mem_cons_of_mem _ hx)).1, fun hv => ((hb x (List.mem_cons_of_mem _ hx)).2 hv).mono (by omega)⟩)
     rw [if_neg (by rw [h]; simp), z5w]
     exact ⟨Nat.le_refl _, z5n (by omega), hn⟩
    refine ⟨(z1d u, z49 u), hleaf, z01 (fun h1 => ?_) (fun h1 => ?_)⟩
    · have h1 : ((z1d u).k == 1) = true := h1
      rw [h1, Bool.true_and] at eb
      refine ⟨_, hany, z01 (fun h2 => bad ?_) (fun h2 => z01 (fun h3 => bad ?_) (fun h3 => z01 (fun h4 => by cases h4) (fun _ => good ?_)))⟩
      · have h2 : (!z49 u) = true := h2
        rw [eb, h2]; rfl
      · have h3 : decide ((z1d u).n ≤ ilv) = true := h3
        rw [eb, h3, Bool.or_true]
      · have h2 : (!z49 u) = false := h2
        have h3 : decide ((z1d u).n ≤ ilv) = false := h3
        rw [eb, h2, h3]; rfl
    · have h1 : ((z1d u).k == 1) = false := h1
      rw [h1, Bool.false_and, Bool.or_false] at eb
      refine ⟨_, hany, z01 (fun h2 => bad ?_) (fun h2 => z01 (fun h4 => by cases h4) (fun _ => good ?_))⟩
      · have h2 : (!z49 u) = true := h2
        rw [eb, h2]
      · have h2 : (!z49 u) = false := h2
        rw [eb, h2]
end Go.AM

set_option maxRecDepth 100000
open Go Go.Proofs
namespace Go.AM
def FPr (p : Tm × Tm) : List FV := FT p.1 ++ FT p.2
def PTs (l : List (Tm × Tm)) : List (List FV) := l.map FPr
theorem z5k (l : List (Tm × Tm)) : (PTs l).length = l.length := by simp [PTs]
theorem z6r (a b : List (Tm × Tm)) : PTs (a ++ b) = PTs a ++ PTs b := by simp [PTs]
theorem FPr_len (p : Tm × Tm) : (FPr p).length = 8 := by simp [FPr, z1s]
abbrev fnB (bk oc : Nat) : TV := .c (.fn (.func bk) [] [(false, [.ep oc 1 0 0])])
theorem c_backT (l : List Tm) : AC Tryz.prog 152 [aL l] [] (fnB 167 0) [.arr 1 [[.a (.fz (.sl false 4 (FTs l)))]]] := by
 refine AC.vc hP sh lv152 (by simp) (by simp) (by simp [isLive]) (Eq.mpr (v152 ..) ?_)
 exact ⟨.refl _, rfl⟩
theorem c_backP (l : List (List FV)) : AC Tryz.prog 75 [.c (.a (.fz (.sl false 8 l)))] [] (fnB 108 0) [.arr 1 [[.a (.fz (.sl false 8 l))]]] := by
 refine AC.vc hP sh lv75 (by simp) (by simp) (by simp [isLive]) (Eq.mpr (v75 ..) ?_)
 exact ⟨.refl _, rfl⟩
theorem isBkT : IsBk Tryz.prog 167 23 40 := ⟨by kernel_rfl, _, 194, 3, 4, Tryz.func167, by kernel_rfl, by kernel_rfl, by kernel_rfl⟩
theorem bTyT : zm9 Tryz.prog 23 40 4 = true := by kernel_rfl
theorem isBkP : IsBk Tryz.prog 108 71 73 := ⟨by kernel_rfl, _, 151, 3, 4, Tryz.func108, by kernel_rfl, by kernel_rfl, by kernel_rfl⟩
theorem bTyP : zm9 Tryz.prog 71 73 8 = true := by kernel_rfl
def stk (R : List (List FV)) (n : Nat) (ps : List (Tm × Tm)) : List (List FV) := if ps = [] then R else R.take n ++ PTs ps
theorem zkj {R : List (List FV)} {n : Nat} (hn : n ≤ R.length) (ps : List (Tm × Tm)) : n + ps.length ≤ (stk R n ps).length ∧ (stk R n ps).take (n + ps.length) = R.take n ++ PTs ps := by
 unfold stk
 split
 · rename_i h; subst h; simp [PTs, hn]
 · have h1 : (R.take n ++ PTs ps).length = n + ps.length := by simp [z5k]; omega
   exact ⟨by omega, List.take_of_length_le (by omega)⟩
abbrev oWk (s : Sto) (n : Nat) (R : List (List FV)) (f : Int) : List AObj := [.arr 3 [[.a (.ep 1 2 0 0), .a (.osl 4 8 0 n), .a (.fz (.int .i64 f))]], sto2 2 3 s, .arz 6 (SR s.V), .arz 1 (IR s.T), .arz 8 R]
abbrev oWk' (s : Sto) (n : Nat) (R : List (List FV)) (f : Int) : List AObj := [.arr 3 [[.a (.ep 1 2 0 0), .a (.osl 7 8 0 n), .a (.fz (.int .i64 f))]], sto2 5 6 s, .gone, .gone, .gone, .arz 6 (SR s.V), .arz 1 (IR s.T), .arz 8 R]
abbrev hpPu (s : Sto) (n : Nat) (R : List (List FV)) (f : Int) (a b : List Tm) : AHeap :=
 [(0, .arr 3 [[.a (.ep 1 2 0 0), .a (.osl 14 8 0 n), .a (.fz (.int .i64 f))]]), (1, sto2 12 13 s), (2, .gone), (3, .gone), (4, .gone), (5, .gone), (6, .gone), (7, .gone), (8, .arr 1 [[.a (.ep 0 3 0 0)]]), (9, .arr 1 [[.a (.fz (.sl false 4 (FTs a)))]]), (10, .arr 1 [[.a (.fz (.sl false 4 (FTs b)))]]), (11, .arr 1 [[.a (.fz (.sl false 4 (FTs a)))]]), (12, .arz 6 (SR s.V)), (13, .arz 1 (IR s.T)), (14, .arz 8 R)]
theorem zot (s : Sto) (n : Nat) (R : List (List FV)) (f : Int) (a b : List Tm) (hab : a.length = b.length) (hn : n ≤ R.length) (hs : n + a.length ≤ 1099511627776) :
  AC Tryz.prog 134 [.c (.a (.ep 0 3 0 0)), aL a, aL b] (oWk s n R f) (.tup []) (oWk' s (n + a.length) (stk R n (a.zip b).reverse) f) := by
 refine AC.vc hP sh lv134 (by simp) (by simp [isLive]) (by simp [isLive]) (Eq.mpr (v134 (FTs a) (FTs b) ..) ?_)
 refine ⟨a, c_backT a, ?_⟩
 have hz : (a.zip b).length = a.length := by simp [hab]
 refine RPt.backF (sh := sh) (lv := lv134) (α := Nat) (Inv := fun i => i ≤ a.length) (idx := fun i => i) (nx := fun _ => 15) (m0 := 12) (U := [5, 6, 7]) (live := [3, 4, 5, 8]) (oc := 11) (n := 4) (es := FTs a) (x0 := a.length) (g := .tmp 8) (env := [(3, .c (.a (.ep 8 1 0 0))), (4, .c (.a (.ep 9 1 0 0))), (5, .c (.a (.ep 10 1 0 0))), (8, fnB 167 11)])
  (H := fun i => hpPu s (n + (a.length - i)) (stk R n ((a.zip b).drop i).reverse) f a b) hP (by kernel_rfl) isBkT bTyT ?_ (by kernel_rfl) (by kernel_rfl) (by kernel_rfl) (by kernel_rfl) (fun _ _ => by omega) (fun _ _ => rfl) (fun e he => ?_) (by rw [z00]; omega) (fun i hi => by rw [z00]; exact hi) (fun i k hi hik hk => ?_) (Nat.le_refl _) (by rw [z00]) (fun i hi h0 => ?_)
 · refine Eq.mpr (v134_1an ..) ?_
   rw [Nat.sub_self, Nat.add_zero, List.drop_eq_nil_of_le (by omega)]
   rfl
 · rw [z1r] at he
   obtain ⟨t, _, rfl⟩ := List.mem_map.1 he
   exact z1s t
 · have hik : i = k + 1 := hik
   have hi : i ≤ a.length := hi
   subst hik
   have ha : k < a.length := by omega
   have hb : k < b.length := by omega
   have hd := zkj hn ((a.zip b).drop (k + 1)).reverse
   have hrl : (((a.zip b).drop (k + 1)).reverse).length = a.length - (k + 1) := by simp [hab]
   rw [hrl] at hd
   have ea : List.getD (FTs a) (Int.toNat ((k : Nat) : Int)) [] = FT a[k] := by rw [z1r]; simp [List.getD, ha]
   have eb : List.getD (FTs b) (Int.toNat ((k : Nat) : Int)) [] = FT b[k] := by rw [z1r]; simp [List.getD, hb]
   have edz : (a.zip b).drop k = (a[k], b[k]) :: (a.zip b).drop (k + 1) := by
    rw [List.drop_eq_getElem_cons (by omega)]; simp
   have estk : stk R n ((a.zip b).drop k).reverse = List.take (n + (a.length - (k + 1))) (stk R n ((a.zip b).drop (k + 1)).reverse) ++ [FPr (a[k], b[k])] := by
    rw [hd.2, edz, List.reverse_cons]
    unfold stk
    rw [if_neg (by simp), z6r, ← List.append_assoc]; rfl
   have en : n + (a.length - k) = n + (a.length - (k + 1)) + 1 := by omega
   have ef : List.getD (FTs a) k [] = FT a[k] := by rw [← ea, Int.toNat_natCast]
   rw [ef]
   generalize a[k] = u at *
   generalize b[k] = w at *
   obtain ⟨uk, us, un, ul⟩ := u
   obtain ⟨wk, ws, wn, wl⟩ := w
   refine Eq.mpr (zsx ..) ?_
   rw [ea, eb, z00, z00]
   refine ⟨⟨rfl, by omega, by omega, rfl⟩, ⟨rfl, by omega, by omega, rfl⟩, Nat.le_refl _, ⟨hd.1, by unfold z0k; omega⟩, k, ⟨(by omega : k ≤ a.length), rfl⟩, ?_, rfl⟩
   show _ = hpPu s (n + (a.length - k)) (stk R n ((a.zip b).drop k).reverse) f a b
   rw [estk, en]
   rfl
 · have h0 : i = 0 := h0
   subst h0
   refine Eq.mpr (zpq ..) ?_
   rw [List.drop_zero, Nat.sub_zero]
   exact ⟨.refl _, rfl⟩
end Go.AM

set_option maxRecDepth 100000
open Go Go.Proofs
namespace Go.AM
structure IS where
 s : Sto
 f : Int
 e : Int
abbrev aIV : TV := .c (.a (.ep 0 6 0 0))
abbrev oIV (x lv : Int) (L : List Tm) (f e : Int) : AObj := .arr 6 [[.a (.ep 1 2 0 0), .a (.fz (.int .i64 x)), .a (.fz (.int .i64 lv)), .a (.fz (.sl false 4 (FTs L))), .a (.fz (.int .i64 f)), .a (.fz (.int .i64 e))]]
abbrev oIs (x lv : Int) (L : List Tm) (f e : Int) (s : Sto) : List AObj := [oIV x lv L f e, sto2 2 3 s, .arz 6 (SR s.V), .arz 1 (IR s.T)]
abbrev oIt (x lv : Int) (L : List Tm) (f e : Int) (s : Sto) : List AObj := [oIV x lv L f e, sto2 4 5 s, .gone, .gone, .arz 6 (SR s.V), .arz 1 (IR s.T)]
abbrev bV3 (n : Int) : Tm := .mk 3 [] n []
def z2i (q : IS) (e : Int) : IS := if q.e = 0 then ⟨q.s, q.f, e⟩ else q
theorem zq5 (x lv : Int) (L : List Tm) (f e er : Int) (s : Sto) : AC Tryz.prog 90 [aIV, ci er] (oIs x lv L f e s) (aT noT) (oIs x lv L f (if e = 0 then er else e) s) := by
 refine AC.vc hP sh lv90 (by simp) (by simp [isLive]) (by simp) (Eq.mpr (v90 ..) ?_)
 refine z01 (fun h => ?_) (fun h => ?_)
 · have h : (e == 0) = true := h
   rw [if_pos (by simpa using h)]; exact ⟨leT (l := []) z0c, rfl⟩
 · have h : (e == 0) = false := h
   rw [if_neg (by simpa using h)]; exact ⟨leT (l := []) z0c, rfl⟩
def outT (t : Tm) (k : Int) : Tm := if t.k = 3 then .mk t.k t.s (t.n - k) t.l else t
def imgT (lv : Int) (L : List Tm) (t : Tm) (k : Int) : Tm × Bool :=
 if t.k = 3 ∧ t.n < k then (t, true) else if ixF (fun u => lfB u (outT t k)) L 0 ≥ 0 then (bV3 (k + (L.length : Int) - 1 - ixF (fun u => lfB u (outT t k)) L 0), true) else (t, t.k == 1 && decide (t.n ≤ lv))
theorem zlb (x lv : Int) (L : List Tm) (f e : Int) (s : Sto) (t : Tm) (k : Int) (hL : L.length ≤ 100000) (hn : t.k = 3 → -4611686018427387904 ≤ t.n ∧ t.n ≤ 4611686018427387904) (hk0 : 0 ≤ k) (hk1 : k ≤ 1099511627776) :
  AC Tryz.prog 94 [aIV, aT t, ci k] (oIs x lv L f e s) (zet (imgT lv L t k).1 (imgT lv L t k).2) (oIs x lv L f e s) := by
 have hx := zo6 (fun u => lfB u (outT t k)) (outT t k) L (by simp only [B]; omega) (fun u _ => c_image1 u (outT t k))
 have hlt := zrt (fun u => lfB u (outT t k)) L 0
 have i1 : t.k = 3 ∧ t.n < k → imgT lv L t k = (t, true) := fun h => if_pos h
 have i2 : ¬ (t.k = 3 ∧ t.n < k) → ixF (fun u => lfB u (outT t k)) L 0 ≥ 0 → imgT lv L t k = (bV3 (k + (L.length : Int) - 1 - ixF (fun u => lfB u (outT t k)) L 0), true) := fun h h2 => (if_neg h).trans (if_pos h2)
 have i3 : ¬ (t.k = 3 ∧ t.n < k) → ¬ ixF (fun u => lfB u (outT t k)) L 0 ≥ 0 → imgT lv L t k = (t, t.k == 1 && decide (t.n ≤ lv)) := fun h h2 => (if_neg h).trans (if_neg h2)
 generalize imgT lv L t k = Z at *
 generalize ixF (fun u => lfB u (outT t k)) L 0 = p at *
 have hb := z81 (k + (L.length : Int) - 1 - p)
 obtain ⟨tk, ts, tn, tl⟩ := t
 simp only [Tm.n, Tm.k] at hn i1 i2 i3
 have tail : ¬ (tk = 3 ∧ tn < k) → br (decide (p ≥ 0)) (FV.isSl 4 (.sl false 4 (FTs L)) = true ∧ ∃ z2 : Tm, AC Tryz.prog 121 [ci (IntKind.wrap .i64 (IntKind.wrap .i64 (IntKind.wrap .i64 (k + (((FTs L).length : Nat) : Int)) - 1) - p))] [] (aT z2) [] ∧
   TV.Le (.tup [(true, cT z2), (false, [.a (.fz (.bool true))])]) (zet Z.1 Z.2) ∧ oIs x lv L f e s = oIs x lv L f e s)
   (br (tk == 1) (TV.Le (.tup [(true, [.a (.fz (.int .i64 tk)), .a (.fz (.str ts)), .a (.fz (.int .i64 tn)), .a (.fz (.sl false 4 (FTs tl)))]), (false, [.a (.fz (.bool (decide (tn ≤ lv))))])]) (zet Z.1 Z.2) ∧ oIs x lv L f e s = oIs x lv L f e s)
    (TV.Le (.tup [(true, [.a (.fz (.int .i64 tk)), .a (.fz (.str ts)), .a (.fz (.int .i64 tn)), .a (.fz (.sl false 4 (FTs tl)))]), (false, [.a (.fz (.bool false))])]) (zet Z.1 Z.2) ∧ oIs x lv L f e s = oIs x lv L f e s)) := by
  intro h0
  rw [z00]
  refine z01 (fun h => ?_) (fun h => ?_)
  · have h := of_decide_eq_true h
    rw [i2 h0 h, w64 (x := k + (L.length : Int)) (by omega) (by omega), w64 (x := k + (L.length : Int) - 1) (by omega) (by omega), w64 (x := k + (L.length : Int) - 1 - p) (by omega) (by omega)]
    exact ⟨rfl, _, hb, .refl _, rfl⟩
  · have h := of_decide_eq_false h
    rw [i3 h0 h]
    refine z01 (fun h1 => ?_) (fun h1 => ?_)
    · rw [h1, Bool.true_and]; exact ⟨.refl _, rfl⟩
    · rw [h1, Bool.false_and]; exact ⟨.refl _, rfl⟩
 refine AC.vc hP sh lv94 (by simp) (by simp [isLive]) (by simp) (Eq.mpr (v94 tk ts tn (FTs tl) k ..) ?_)
 refine z01 (fun h3 => ?_) (fun h3 => ?_)
 · have h3 : tk = 3 := by have h3 : (tk == 3) = true := h3; simpa using h3
   subst h3
   have hn := hn rfl
   have eo : outT (.mk 3 ts tn tl) k = .mk 3 ts (tn - k) tl := rfl
   rw [eo] at hx
   refine z01 (fun h4 => ?_) (fun h4 => ?_)
   · have h4 := of_decide_eq_true h4
     rw [i1 ⟨rfl, h4⟩]; exact ⟨.refl _, rfl⟩
   · have h4 := of_decide_eq_false h4
     rw [w64 (x := tn - k) (by omega) (by omega)]
     refine z01 (fun _ => ⟨p, hx, tail (fun q => h4 q.2)⟩) (fun h => by cases h)
 · have h3 : tk ≠ 3 := by have h3 : (tk == 3) = false := h3; simpa using h3
   have eo : outT (.mk tk ts tn tl) k = .mk tk ts tn tl := if_neg h3
   rw [eo] at hx
   refine z01 (fun h => absurd (by have h : (tk == 3) = true := h; simpa using h) h3) (fun _ => ⟨p, hx, tail (fun q => h3 q.1)⟩)
end Go.AM

set_option maxRecDepth 100000
open Go Go.Proofs
namespace Go.AM
def imgs (lv : Int) (L : List Tm) (k : Int) (m : Nat) : List Tm → Nat → List Tm × List Tm → List Tm × List Tm
 | [], _, a => a
 | t :: l, i, a => imgs lv L k m l (i + 1) (if (imgT lv L t k).2 = true then (a.1 ++ [bV3 ((m : Int) - 1 - (i : Int))], a.2 ++ [(imgT lv L t k).1]) else a)
def z53 (c : Bool) (lvy k : Int) (n : Nat) : List Tm → Nat → List Tm × List Tm → List Tm × List Tm
 | [], _, a => a
 | t :: l, i, a => z53 c lvy k n l (i + 1) (if (c && (t.k == 1 && decide (t.n ≤ lvy))) = true then (a.1 ++ [t], a.2 ++ [bV3 (k + (n : Int) - 1 - (i : Int))]) else a)
def onF (lv lvy : Int) (L : List Tm) (k : Int) (ls : List Tm) : List Tm × List Tm := z53 (decide (lvy > lv)) lvy k L.length L 0 (imgs lv L k ls.length ls 0 ([], []))
def z72 (lv : Int) (L : List Tm) (q : IS) (y k : Int) (ls : List Tm) (f : Int) : Tm × IS :=
 if (imgs lv L k ls.length ls 0 ([], [])).1.length = ls.length ∧ (infOf q.s.V y).lv ≤ lv then (z07 (.mk 4 [] y []) (imgs lv L k ls.length ls 0 ([], [])).2, ⟨q.s, f, q.e⟩)
 else (z07 (.mk 4 [] (q.s.V.length : Int) []) (onF lv (infOf q.s.V y).lv L k ls).2, ⟨z2s q.s y (z0j [lv, (infOf q.s.V y).lv]) ls.length (onF lv (infOf q.s.V y).lv L k ls).1, f, q.e⟩)
def z33 (lv : Int) (L : List Tm) (q : IS) (y : Int) (l : List Tm) (k : Int) : Tm × IS :=
 if (z1e q.s y l q.f).2.2 ≠ 0 then (noT, z2i q (z1e q.s y l q.f).2.2) else z72 lv L q y k (z1e q.s y l q.f).1 (z1e q.s y l q.f).2.1
abbrev fxH (x lv : Int) (L : List Tm) (f e : Int) (s : Sto) (i : Inf) : AHeap := [(0, oIV x lv L f e), (1, sto2 4 5 s), (2, .gone), (3, .gone), (4, .arz 6 (SR s.V)), (5, .arz 1 (IR s.T)), (6, .arr 4 [zT]), (7, oInf i)]
abbrev fxS (x lv : Int) (L : List Tm) (f e : Int) (s : Sto) (i : Inf) (y k : Int) (ls on im l : List Tm) (a b c : Nat) (j : Int) : St :=
 if on = [] then ⟨[(0, aIV), (1, ci y), (3, ci k), (8, .c (.a (.ep 6 4 0 0))), (9, aL ls), (12, .c (.a (.ep 7 6 0 0))), (14, .c (.a (.fz .nils))), (15, .c (.a (.fz .nils))), (a, aL l), (b, ci (l.length : Int)), (c, ci j)], fxH x lv L f e s i, 8⟩
 else ⟨[(0, aIV), (1, ci y), (3, ci k), (8, .c (.a (.ep 6 4 0 0))), (9, aL ls), (12, .c (.a (.ep 7 6 0 0))), (14, .c (.a (.osl 8 4 0 on.length))), (15, .c (.a (.osl 9 4 0 im.length))), (a, aL l), (b, ci (l.length : Int)), (c, ci j)], fxH x lv L f e s i ++ [(8, .arz 4 (FTs on)), (9, .arz 4 (FTs im))], 10⟩
theorem zro {α : Type} (l : List α) (a : α) : l ++ [a] ≠ [] := by simp
theorem zjw (x lv : Int) (L : List Tm) (f e : Int) (s : Sto) (ilv : Int) (ibd : Bool) (iv : Tm) (y k : Int) (ls : List Tm) (hL : L.length ≤ 100000) (hk0 : 0 ≤ k) (hk1 : k ≤ 1099511627776) (r : Tm) (S : Sto) (fin : List Tm × List Tm)
  (hfin : fin.1.length ≤ 200000 ∧ fin.2.length ≤ 200000) (hh : AC Tryz.prog 123 [aS 0, ci y, ci (z0j [lv, ilv]), ci (ls.length : Int), aL fin.1] (oS s) (aT (.mk 4 [] (s.V.length : Int) [])) (oS' S)) (hr : z07 (.mk 4 [] (s.V.length : Int) []) fin.2 = r) :
  ∀ (b pre on im : List Tm), L = pre ++ b → on.length = im.length → on.length + b.length ≤ 200000 → z53 (decide (ilv > lv)) ilv k L.length b pre.length (on, im) = fin →
  RPt Tryz.prog 93 4 (aT r) (oIt x lv L f e S) 5 (fxS x lv L f e s ⟨ilv, ibd, iv⟩ y k ls on im L 105 106 107 (pre.length : Int))
 | [], pre, on, im, hl, ho, h2, hm => by
  rw [List.append_nil] at hl
  have hm : (on, im) = fin := hm
  subst hm
  have ha := z3d (.mk 4 [] (s.V.length : Int) []) im (by simp only [Tm.l, List.length_nil]; omega)
  simp only at hh hr hfin
  rw [hr] at ha
  obtain ⟨ik, is, iN, il⟩ := iv
  unfold fxS
  by_cases hn : on = []
  · subst hn
    have : im = [] := List.eq_nil_of_length_eq_zero ho.symm
    subst this
    rw [if_pos rfl]
    refine RPt.vc hP sh lv93 (Eq.mpr (v93_5a ..) ?_)
    refine z01 (fun h => absurd (of_decide_eq_true h) (by rw [hl]; omega)) (fun _ => ⟨rfl, ?_⟩)
    rw [z00]
    exact ⟨(_, S), hh.args ⟨.refl _, .refl _, .refl _, .refl _, .c _ _ (.a _ _ (.fz _ _ z0c)), trivial⟩, _, ha.args ⟨.refl _, .c _ _ (.a _ _ (.fz _ _ z0c)), trivial⟩, .refl _, rfl⟩
  · rw [if_neg hn]
    refine RPt.vc hP sh lv93 (Eq.mpr (v93_5b ..) ?_)
    refine z01 (fun h => absurd (of_decide_eq_true h) (by rw [hl]; omega)) (fun _ => ⟨rfl, ⟨rfl, by rw [z00]; omega⟩, ?_⟩)
    rw [z00, List.drop_zero, List.take_of_length_le (l := FTs on) (by rw [z00]; exact Nat.le_refl _), List.drop_zero, List.take_of_length_le (l := FTs im) (by rw [z00]; exact Nat.le_refl _)]
    refine ⟨(_, S), hh, ?_⟩
    exact ⟨⟨rfl, by rw [z00]; omega⟩, _, ha, .refl _, rfl⟩
 | t :: b, pre, on, im, hl, ho, h2, hm => by
  have hlen : L.length = pre.length + (b.length + 1) := by rw [hl]; simp
  have em : List.getD (FTs L) (Int.toNat (pre.length : Int)) [] = FT t := by rw [hl]; exact midI pre t b
  have h3 : ((pre.length : Nat) : Int) < (((FTs L).length : Nat) : Int) := by rw [z00]; omega
  have ek : FV.asI (List.getD (FT t) 0 FV.nils) = t.k := by cases t; rfl
  have en : FV.asI (List.getD (FT t) 2 FV.nils) = t.n := by cases t; rfl
  have hmm : z53 (decide (ilv > lv)) ilv k L.length (t :: b) pre.length (on, im) = z53 (decide (ilv > lv)) ilv k L.length b (pre.length + 1) (if (decide (ilv > lv) && (t.k == 1 && decide (t.n ≤ ilv))) = true then (on ++ [t], im ++ [bV3 (k + (L.length : Int) - 1 - (pre.length : Int))]) else (on, im)) := rfl
  rw [hmm] at hm
  have ej : (((pre ++ [t]).length : Nat) : Int) = (pre.length : Int) + 1 := by simp
  have en1 : (pre ++ [t]).length = pre.length + 1 := by simp
  have skip : (decide (ilv > lv) && (t.k == 1 && decide (t.n ≤ ilv))) = false → RPt Tryz.prog 93 4 (aT r) (oIt x lv L f e S) 5 (fxS x lv L f e s ⟨ilv, ibd, iv⟩ y k ls on im L 105 106 107 ((pre.length : Int) + 1)) := fun h => by
   rw [h, if_neg (by simp)] at hm
   have := zjw x lv L f e s ilv ibd iv y k ls hL hk0 hk1 r S fin hfin hh hr b (pre ++ [t]) on im (by rw [hl]; simp) ho (by simp only [List.length_cons] at h2; omega) (by rw [en1]; exact hm)
   rw [ej] at this; exact this
  have take : (decide (ilv > lv) && (t.k == 1 && decide (t.n ≤ ilv))) = true → on.length + 1 + b.length ≤ 200000 → RPt Tryz.prog 93 4 (aT r) (oIt x lv L f e S) 5 (fxS x lv L f e s ⟨ilv, ibd, iv⟩ y k ls (on ++ [t]) (im ++ [bV3 (k + (L.length : Int) - 1 - (pre.length : Int))]) L 105 106 107 ((pre.length : Int) + 1)) := fun h h9 => by
   rw [if_pos h] at hm
   have := zjw x lv L f e s ilv ibd iv y k ls hL hk0 hk1 r S fin hfin hh hr b (pre ++ [t]) (on ++ [t]) (im ++ [bV3 (k + (L.length : Int) - 1 - (pre.length : Int))]) (by rw [hl]; simp) (by simp [ho]) (by simp only [List.length_append, List.length_cons, List.length_nil]; omega) (by rw [en1]; exact hm)
   rw [ej] at this; exact this
  have hb := z81 (k + (L.length : Int) - 1 - (pre.length : Int))
  have room : on.length + 1 + b.length ≤ 200000 := by simp only [List.length_cons] at h2; omega
  have op : FV.isSl 4 (.sl false 4 (FTs L)) = true ∧ ((0 : Int) ≤ (pre.length : Int) ∧ (((pre.length : Int) < (((FTs L).length : Nat) : Int)) ∧ ((rE (FT t) : List FV) = FT t))) := ⟨rfl, by omega, h3, zb7 t⟩
  obtain ⟨ik, is, iN, il⟩ := iv
  have w : IntKind.wrap .i64 (IntKind.wrap .i64 (IntKind.wrap .i64 (k + (((FTs L).length : Nat) : Int)) - 1) - (pre.length : Int)) = k + (L.length : Int) - 1 - (pre.length : Int) := by
   rw [z00, w64 (x := k + (L.length : Int)) (by omega) (by omega), w64 (x := k + (L.length : Int) - 1) (by omega) (by omega), w64 (by omega) (by omega)]
  unfold fxS at skip take ⊢
  rw [if_neg (zro on t)] at take
  by_cases hn : on = []
  · subst hn
    have : im = [] := List.eq_nil_of_length_eq_zero ho.symm
    subst this
    rw [if_pos rfl] at skip ⊢
    refine RPt.vc hP sh lv93 (Eq.mpr (v93_5a ..) ?_)
    rw [em, ek, en, w64 (x := (pre.length : Int) + 1) (by omega) (by omega), w]
    refine z01 (fun _ => ⟨op, z01 (fun c1 => z01 (fun c2 => z01 (fun c3 => ?_) (fun c3 => skip ?_)) (fun c2 => skip ?_)) (fun c1 => skip ?_)⟩) (fun h => absurd (of_decide_eq_false h) (by omega))
    · have c1 : decide (ilv > lv) = true := c1
      have c2 : (t.k == 1) = true := c2
      have c3 : decide (t.n ≤ ilv) = true := c3
      refine ⟨Nat.le_refl _, z5n (by omega), rfl, _, hb, Nat.le_refl _, z5n (by omega), ?_⟩
      rw [zb7]
      exact take (by rw [c1, c2, c3]; rfl) room
    · have c3 : decide (t.n ≤ ilv) = false := c3
      rw [c3, Bool.and_false, Bool.and_false]
    · have c2 : (t.k == 1) = false := c2
      rw [c2, Bool.false_and, Bool.and_false]
    · have c1 : decide (ilv > lv) = false := c1
      rw [c1, Bool.false_and]
  · rw [if_neg hn] at skip ⊢
    refine RPt.vc hP sh lv93 (Eq.mpr (v93_5b ..) ?_)
    rw [em, ek, en, w64 (x := (pre.length : Int) + 1) (by omega) (by omega), w]
    refine z01 (fun _ => ⟨op, z01 (fun c1 => z01 (fun c2 => z01 (fun c3 => ?_) (fun c3 => skip ?_)) (fun c2 => skip ?_)) (fun c1 => skip ?_)⟩) (fun h => absurd (of_decide_eq_false h) (by omega))
    · have c1 : decide (ilv > lv) = true := c1
      have c2 : (t.k == 1) = true := c2
      have c3 : decide (t.n ≤ ilv) = true := c3
      refine ⟨Nat.le_refl _, ⟨by rw [z00]; exact Nat.le_refl _, z5n (by omega)⟩, rfl, _, hb, Nat.le_refl _, ⟨by rw [z00]; exact Nat.le_refl _, z5n (by omega)⟩, ?_⟩
      rw [zb7, List.take_of_length_le (l := FTs on) (by rw [z00]; exact Nat.le_refl _), List.take_of_length_le (l := FTs im) (by rw [z00]; exact Nat.le_refl _), z5w]
      have := take (by rw [c1, c2, c3]; rfl) room
      rw [z1x, z1x, List.length_append, List.length_append] at this
      exact this
    · have c3 : decide (t.n ≤ ilv) = false := c3
      rw [c3, Bool.and_false, Bool.and_false]
    · have c2 : (t.k == 1) = false := c2
      rw [c2, Bool.false_and, Bool.and_false]
    · have c1 : decide (ilv > lv) = false := c1
      rw [c1, Bool.false_and]
theorem z67 (c : Bool) (lvy k : Int) (n : Nat) : ∀ (l : List Tm) (i : Nat) (a : List Tm × List Tm), a.1.length = a.2.length → (z53 c lvy k n l i a).1.length = (z53 c lvy k n l i a).2.length ∧ (z53 c lvy k n l i a).1.length ≤ a.1.length + l.length
 | [], _, a, h => ⟨h, Nat.le_refl _⟩
 | t :: l, i, a, h => by
  rw [z53]
  split
  · have := z67 c lvy k n l (i + 1) (a.1 ++ [t], a.2 ++ [bV3 (k + (n : Int) - 1 - (i : Int))]) (by simp [h])
    exact ⟨this.1, by have := this.2; simp only [List.length_append, List.length_cons, List.length_nil] at this ⊢; omega⟩
  · have := z67 c lvy k n l (i + 1) a h
    exact ⟨this.1, by have := this.2; simp only [List.length_cons]; omega⟩
theorem z8q (lv : Int) (L : List Tm) (k : Int) (m : Nat) : ∀ (l : List Tm) (i : Nat) (a : List Tm × List Tm), a.1.length = a.2.length → (imgs lv L k m l i a).1.length = (imgs lv L k m l i a).2.length ∧ (imgs lv L k m l i a).1.length ≤ a.1.length + l.length
 | [], _, a, h => ⟨h, Nat.le_refl _⟩
 | t :: l, i, a, h => by
  rw [imgs]
  split
  · have := z8q lv L k m l (i + 1) (a.1 ++ [bV3 ((m : Int) - 1 - (i : Int))], a.2 ++ [(imgT lv L t k).1]) (by simp [h])
    exact ⟨this.1, by have := this.2; simp only [List.length_append, List.length_cons, List.length_nil] at this ⊢; omega⟩
  · have := z8q lv L k m l (i + 1) a h
    exact ⟨this.1, by have := this.2; simp only [List.length_cons]; omega⟩
theorem zjg (x lv : Int) (L : List Tm) (f e : Int) (s : Sto) (ilv : Int) (ibd : Bool) (iv : Tm) (y k : Int) (ls : List Tm) (hls : ls.length ≤ 100000) (r : Tm) (S : Sto) (fin : List Tm × List Tm)
  (hI : ∀ t ∈ ls, AC Tryz.prog 94 [aIV, aT t, ci k] (oIs x lv L f e s) (zet (imgT lv L t k).1 (imgT lv L t k).2) (oIs x lv L f e s))
  (full : fin.1.length = ls.length → ilv ≤ lv → z07 (.mk 4 [] y []) fin.2 = r ∧ s = S)
  (part : ¬ (fin.1.length = ls.length ∧ ilv ≤ lv) → RPt Tryz.prog 93 4 (aT r) (oIt x lv L f e S) 5 (fxS x lv L f e s ⟨ilv, ibd, iv⟩ y k ls fin.1 fin.2 L 105 106 107 0)) :
  ∀ (b pre on im : List Tm), ls = pre ++ b → on.length = im.length → on.length ≤ pre.length → imgs lv L k ls.length b pre.length (on, im) = fin →
  RPt Tryz.prog 93 4 (aT r) (oIt x lv L f e S) 1 (fxS x lv L f e s ⟨ilv, ibd, iv⟩ y k ls on im ls 55 56 57 (pre.length : Int))
 | [], pre, on, im, hl, ho, h2, hm => by
  rw [List.append_nil] at hl
  have hm : (on, im) = fin := hm
  subst hm
  have hlp : ls.length = pre.length := by rw [hl]
  have ha := z3d (.mk 4 [] y []) im (by simp only [Tm.l, List.length_nil]; omega)
  simp only at full part
  have hv := zbp y
  obtain ⟨ik, is, iN, il⟩ := iv
  unfold fxS at part ⊢
  by_cases hn : on = []
  · subst hn
    have : im = [] := List.eq_nil_of_length_eq_zero ho.symm
    subst this
    rw [if_pos rfl] at part ⊢
    refine RPt.vc hP sh lv93 (Eq.mpr (v93_1a ..) ?_)
    rw [z00]
    refine z01 (fun h => absurd (of_decide_eq_true h) (by rw [hl]; omega)) (fun _ => ⟨rfl, rfl, z01 (fun c1 => z01 (fun c2 => ?_) (fun c2 => ⟨rfl, ?_⟩)) (fun c1 => ⟨rfl, ?_⟩)⟩)
    · have c1 : (0 : Int) = (ls.length : Int) := eq_of_beq c1
      have c2 := of_decide_eq_true c2
      obtain ⟨e1, rfl⟩ := full (by simp only [List.length_nil]; omega) c2
      rw [e1] at ha
      exact ⟨_, hv, _, ha.args ⟨.refl _, .c _ _ (.a _ _ (.fz _ _ z0c)), trivial⟩, .refl _, rfl⟩
    · have c2 := of_decide_eq_false c2
      rw [z00]
      exact part (fun h => c2 h.2)
    · have c1 : ((0 : Int) == (ls.length : Int)) = false := c1
      rw [z00]
      exact part (fun h => by have := h.1; simp only [List.length_nil] at this; rw [← this] at c1; cases c1)
  · rw [if_neg hn] at part ⊢
    refine RPt.vc hP sh lv93 (Eq.mpr (v93_1b ..) ?_)
    rw [z00]
    refine z01 (fun h => absurd (of_decide_eq_true h) (by rw [hl]; omega)) (fun _ => ⟨rfl, z01 (fun c1 => z01 (fun c2 => ?_) (fun c2 => ⟨rfl, ?_⟩)) (fun c1 => ⟨rfl, ?_⟩)⟩)
    · have c1 : (on.length : Int) = (ls.length : Int) := eq_of_beq c1
      have c2 := of_decide_eq_true c2
      obtain ⟨e1, rfl⟩ := full (by omega) c2
      rw [e1] at ha
      rw [List.drop_zero, List.take_of_length_le (by rw [z00]; exact Nat.le_refl _)]
      exact ⟨_, hv, ⟨rfl, by rw [z00]; omega⟩, _, ha, .refl _, rfl⟩
    · have c2 := of_decide_eq_false c2
      rw [z00]
      exact part (fun h => c2 h.2)
    · have c1 : ((on.length : Int) == (ls.length : Int)) = false := c1
      rw [z00]
      exact part (fun h => by rw [h.1] at c1; simp at c1)
 | t :: b, pre, on, im, hl, ho, h2, hm => by
  have hlen : ls.length = pre.length + (b.length + 1) := by rw [hl]; simp
  have em : List.getD (FTs ls) (Int.toNat (pre.length : Int)) [] = FT t := by rw [hl]; exact midI pre t b
  have ea : aE (List.getD (FTs ls) (Int.toNat (pre.length : Int)) []) = aT t := by rw [hl]; exact z39 pre t b
  have h3 : ((pre.length : Nat) : Int) < (((FTs ls).length : Nat) : Int) := by rw [z00]; omega
  have hmm : imgs lv L k ls.length (t :: b) pre.length (on, im) = imgs lv L k ls.length b (pre.length + 1) (if (imgT lv L t k).2 = true then (on ++ [bV3 ((ls.length : Int) - 1 - (pre.length : Int))], im ++ [(imgT lv L t k).1]) else (on, im)) := rfl
  rw [hmm] at hm
  have hi := hI t (by rw [hl]; simp)
  have ej : (((pre ++ [t]).length : Nat) : Int) = (pre.length : Int) + 1 := by simp
  have en1 : (pre ++ [t]).length = pre.length + 1 := by simp
  generalize imgT lv L t k = z at *
  obtain ⟨z1, z2⟩ := z
  simp only at hm hi
  have skip : z2 = false → RPt Tryz.prog 93 4 (aT r) (oIt x lv L f e S) 1 (fxS x lv L f e s ⟨ilv, ibd, iv⟩ y k ls on im ls 55 56 57 ((pre.length : Int) + 1)) := fun h => by
   rw [h, if_neg (by simp)] at hm
   have := zjg x lv L f e s ilv ibd iv y k ls hls r S fin hI full part b (pre ++ [t]) on im (by rw [hl]; simp) ho (by rw [en1]; omega) (by rw [en1]; exact hm)
   rw [ej] at this; exact this
  have take : z2 = true → RPt Tryz.prog 93 4 (aT r) (oIt x lv L f e S) 1 (fxS x lv L f e s ⟨ilv, ibd, iv⟩ y k ls (on ++ [bV3 ((ls.length : Int) - 1 - (pre.length : Int))]) (im ++ [z1]) ls 55 56 57 ((pre.length : Int) + 1)) := fun h => by
   rw [if_pos h] at hm
   have := zjg x lv L f e s ilv ibd iv y k ls hls r S fin hI full part b (pre ++ [t]) (on ++ [bV3 ((ls.length : Int) - 1 - (pre.length : Int))]) (im ++ [z1]) (by rw [hl]; simp) (by simp [ho]) (by rw [en1]; simp; omega) (by rw [en1]; exact hm)
   rw [ej] at this; exact this
  have hb := z81 ((ls.length : Int) - 1 - (pre.length : Int))
  have op : FV.isSl 4 (.sl false 4 (FTs ls)) = true ∧ ((0 : Int) ≤ (pre.length : Int) ∧ (((pre.length : Int) < (((FTs ls).length : Nat) : Int)) ∧ ((rE (List.getD (FTs ls) (Int.toNat (pre.length : Int)) []) : List FV) = List.getD (FTs ls) (Int.toNat (pre.length : Int)) []))) := ⟨rfl, by omega, h3, by rw [em]; exact zb7 t⟩
  have w : IntKind.wrap .i64 (IntKind.wrap .i64 ((((FTs ls).length : Nat) : Int) - 1) - (pre.length : Int)) = (ls.length : Int) - 1 - (pre.length : Int) := by
   rw [z00, w64 (x := (ls.length : Int) - 1) (by omega) (by omega), w64 (by omega) (by omega)]
  obtain ⟨ik, is, iN, il⟩ := iv
  unfold fxS at skip take ⊢
  rw [if_neg (zro on _)] at take
  by_cases hn : on = []
  · subst hn
    have : im = [] := List.eq_nil_of_length_eq_zero ho.symm
    subst this
    rw [if_pos rfl] at skip ⊢
    refine RPt.vc hP sh lv93 (Eq.mpr (v93_1a ..) ?_)
    rw [ea, w64 (x := (pre.length : Int) + 1) (by omega) (by omega), w]
    refine z01 (fun _ => ⟨op, (z1, z2), hi, z01 (fun c => ⟨rfl, _, hb, Nat.le_refl _, z5n (by omega), Nat.le_refl _, z5n (by omega), by rw [z5w, z5w]; exact take c⟩) (fun c => skip c)⟩) (fun h => absurd (of_decide_eq_false h) (by omega))
  · rw [if_neg hn] at skip ⊢
    refine RPt.vc hP sh lv93 (Eq.mpr (v93_1b ..) ?_)
    rw [ea, w64 (x := (pre.length : Int) + 1) (by omega) (by omega), w]
    refine z01 (fun _ => ⟨op, (z1, z2), hi, z01 (fun c => ⟨rfl, _, hb, Nat.le_refl _, ⟨by rw [z00]; exact Nat.le_refl _, z5n (by omega)⟩, Nat.le_refl _, ⟨by rw [z00]; exact Nat.le_refl _, z5n (by omega)⟩, ?_⟩) (fun c => skip c)⟩) (fun h => absurd (of_decide_eq_false h) (by omega))
    rw [List.take_of_length_le (l := FTs on) (by rw [z00]; exact Nat.le_refl _), List.take_of_length_le (l := FTs im) (by rw [z00]; exact Nat.le_refl _), z5w, z5w]
    have := take c
    rw [z1x, z1x, List.length_append, List.length_append] at this
    exact this
theorem c_iflex (x lv : Int) (L : List Tm) (q : IS) (y : Int) (l : List Tm) (k : Int) (hL : L.length ≤ 100000) (hk0 : 0 ≤ k) (hk1 : k ≤ 1099511627776)
  (hA : AC Tryz.prog 13 [aS 0, ci y, aL l, ci q.f] (oS q.s) (aAr (z1e q.s y l q.f)) (oS q.s)) (hls : (z1e q.s y l q.f).1.length ≤ 100000)
  (hI : ∀ t ∈ (z1e q.s y l q.f).1, AC Tryz.prog 94 [aIV, aT t, ci k] (oIs x lv L (z1e q.s y l q.f).2.1 q.e q.s) (zet (imgT lv L t k).1 (imgT lv L t k).2) (oIs x lv L (z1e q.s y l q.f).2.1 q.e q.s))
  (hh : (z1e q.s y l q.f).2.2 = 0 → AC Tryz.prog 123 [aS 0, ci y, ci (z0j [lv, (infOf q.s.V y).lv]), ci ((z1e q.s y l q.f).1.length : Int), aL (onF lv (infOf q.s.V y).lv L k (z1e q.s y l q.f).1).1] (oS q.s) (aT (.mk 4 [] (q.s.V.length : Int) [])) (oS' (z2s q.s y (z0j [lv, (infOf q.s.V y).lv]) (z1e q.s y l q.f).1.length (onF lv (infOf q.s.V y).lv L k (z1e q.s y l q.f).1).1))) :
  AC Tryz.prog 93 [aIV, ci y, aL l, ci k] (oIs x lv L q.f q.e q.s) (aT (z33 lv L q y l k).1) (oIt x lv L (z33 lv L q y l k).2.f (z33 lv L q y l k).2.e (z33 lv L q y l k).2.s) := by
 have hinf := z66 q.s y
 have eF : z33 lv L q y l k = if (z1e q.s y l q.f).2.2 ≠ 0 then (noT, z2i q (z1e q.s y l q.f).2.2) else z72 lv L q y k (z1e q.s y l q.f).1 (z1e q.s y l q.f).2.1 := rfl
 rw [eF]
 generalize z1e q.s y l q.f = z at *
 obtain ⟨ls, g, er⟩ := z
 simp only at hA hls hI hh ⊢
 refine AC.vc hP sh lv93 (by simp) (by simp [isLive]) (by simp [isLive]) (Eq.mpr (v93 ..) ?_)
 refine ⟨(ls, g, er), hA, z01 (fun h => ?_) (fun h => ?_)⟩
 · have h : er ≠ 0 := by have h : (er != 0) = true := h; simpa using h
   rw [if_pos h]
   have hf := zq5 x lv L q.f q.e er q.s
   refine ⟨(x, lv, L, q.f, if q.e = 0 then er else q.e), hf, ?_, ?_⟩
   · exact leT (l := []) (.refl _)
   · unfold z2i
     split <;> rfl
 · have h : er = 0 := by have h : (er != 0) = false := h; simpa using h
   subst h
   rw [if_neg (by simp)]
   have eG : z72 lv L q y k ls g = if (imgs lv L k ls.length ls 0 ([], [])).1.length = ls.length ∧ (infOf q.s.V y).lv ≤ lv then (z07 (.mk 4 [] y []) (imgs lv L k ls.length ls 0 ([], [])).2, ⟨q.s, g, q.e⟩)
    else (z07 (.mk 4 [] (q.s.V.length : Int) []) (onF lv (infOf q.s.V y).lv L k ls).2, ⟨z2s q.s y (z0j [lv, (infOf q.s.V y).lv]) ls.length (onF lv (infOf q.s.V y).lv L k ls).1, g, q.e⟩) := rfl
   have hh := hh rfl
   have eo : ∀ w, onF lv w L k ls = z53 (decide (w > lv)) w k L.length L 0 (imgs lv L k ls.length ls 0 ([], [])) := fun w => rfl
   have il := z8q lv L k ls.length ls 0 ([], []) rfl
   rw [eG]
   generalize infOf q.s.V y = i at *
   obtain ⟨ilv, ibd, iv⟩ := i
   have ml := z67 (decide (ilv > lv)) ilv k L.length L 0 (imgs lv L k ls.length ls 0 ([], [])) il.1
   rw [← eo ilv] at ml
   simp only [List.length_nil, Nat.zero_add] at il ml
   refine ⟨(ilv, ibd, iv, inB q.s.V y), hinf, rfl, ?_⟩
   rw [z00]
   have main : ∀ (r : Tm) (S : Sto), ((imgs lv L k ls.length ls 0 ([], [])).1.length = ls.length → ilv ≤ lv → z07 (.mk 4 [] y []) (imgs lv L k ls.length ls 0 ([], [])).2 = r ∧ q.s = S) →
     (¬ ((imgs lv L k ls.length ls 0 ([], [])).1.length = ls.length ∧ ilv ≤ lv) → z07 (.mk 4 [] (q.s.V.length : Int) []) (onF lv ilv L k ls).2 = r ∧ z2s q.s y (z0j [lv, ilv]) ls.length (onF lv ilv L k ls).1 = S) →
     RPt Tryz.prog 93 4 (aT r) (oIt x lv L g q.e S) 1 (fxS x lv L g q.e q.s ⟨ilv, ibd, iv⟩ y k ls [] [] ls 55 56 57 0) := fun r S h1 h2 => by
    refine zjg x lv L g q.e q.s ilv ibd iv y k ls hls r S _ hI h1 (fun hn => ?_) ls [] [] [] rfl rfl (Nat.le_refl _) rfl
    obtain ⟨e1, e2⟩ := h2 hn
    have hfin : (onF lv ilv L k ls).1.length ≤ 200000 ∧ (onF lv ilv L k ls).2.length ≤ 200000 := by rw [← ml.1]; omega
    rw [e2] at hh
    exact zjw x lv L g q.e q.s ilv ibd iv y k ls hL hk0 hk1 r S (onF lv ilv L k ls) hfin hh e1 L [] _ _ rfl il.1 (by omega) rfl
   split
   · rename_i hc
     exact main _ _ (fun _ _ => ⟨rfl, rfl⟩) (fun hn => absurd hc hn)
   · rename_i hc
     exact main _ _ (fun a b => absurd ⟨a, b⟩ hc) (fun _ => ⟨rfl, rfl⟩)
end Go.AM

set_option maxRecDepth 100000
open Go Go.Proofs
namespace Go.AM
theorem zql {s : Sto} {D : Nat} {f : Int} {t : Tm} (h : (z0h s D f t).2.1 = 0) : 1 ≤ f ∧ 0 ≤ (z0h s D f t).2.2 ∧ (z0h s D f t).2.2 ≤ f - 1 := by
 cases D with
 | zero => cases h
 | succ D =>
  rw [z0h] at h ⊢
  split at h
  · cases h
  · rename_i hf
    rw [if_neg hf]
    have h1 := zk8 s (f - 1).toNat t
    have h2 : 0 ≤ (z73 s (f - 1) t).2.2 ∧ (z73 s (f - 1) t).2.2 ≤ f - 1 := by simp only [z73]; omega
    have h3 := z6v (z5a s D) (z73 s (f - 1) t).1.l ((z73 s (f - 1) t).1.k == 6) _ h2.1
    refine ⟨by omega, ?_⟩
    unfold zid
    split
    · exact ⟨h2.1, by simp only; omega⟩
    · unfold z9x
      split <;> exact ⟨h3.1, by simp only; omega⟩
theorem ztf {s : Sto} {f : Int} {t : Tm} (h : (z1m s f t).2.2 = 0) : 1 ≤ f ∧ 0 ≤ (z1m s f t).2.1 ∧ (z1m s f t).2.1 ≤ f - 1 := by
 unfold z1m at h ⊢
 split at h
 · rename_i hv
   rw [if_pos hv]
   split at h
   · rename_i h1; rw [if_pos h1]; exact zql h1
   · rename_i h1; exact absurd h h1
 · cases h
theorem zgm {s : Sto} (lv : Int) : ∀ (l out : List Tm) (f : Int), 0 ≤ f → (z3z s lv out l f).2.2 = 0 → 0 ≤ (z3z s lv out l f).2.1 ∧ ((z3z s lv out l f).1.length : Int) + (z3z s lv out l f).2.1 ≤ (out.length : Int) + f
 | [], out, f, h0, _ => ⟨h0, Int.le_refl _⟩
 | t :: l, out, f, h0, h => by
  rw [z3z] at h ⊢
  split at h
  · rename_i h1; exact absurd h h1
  · rename_i h1
    rw [if_neg h1]
    split at h
    · cases h
    · rename_i h2
      rw [if_neg h2]
      have hd := ztf (by simpa using h1 : (z1m s f t).2.2 = 0)
      have := zgm lv l (out ++ [z1d (z1m s f t).1]) (z1m s f t).2.1 hd.2.1 h
      simp only [List.length_append, List.length_cons, List.length_nil] at this
      omega
def lfP (t : Tm) : Prop := t.sz = 1 ∧ (t.k = 3 ∨ t.k = 1) ∧ t.l = [] ∧ bd M61 t ∧ z02 t = true
theorem leafF_P {u : Tm} (hv : z02 u = true) (hb : bd M61 u) (h : z49 u = true) : lfP (z1d u) := by
 have so := z6j _ (z08 _ hv)
 have vs : z02 (z09 u) = true := by rw [z30, so.1, so.2.1 (z43 hv)]; rfl
 have bs := so.2.2.2 _ (by simp only [M61]; omega) hb
 have e : z1d u = z09 u := by rw [z1d, if_pos h]
 rw [e]
 have hk : (z09 u).k = 3 ∨ (z09 u).k = 1 := by
  unfold z49 at h
  simpa using h
 generalize z09 u = w at *
 obtain ⟨k, s, n, l⟩ := w
 have hk : k = 3 ∨ k = 1 := hk
 have hl : l = [] := okB0 (z08 _ vs) (by omega) (by omega)
 subst hl
 exact ⟨rfl, hk, rfl, bs, vs⟩
theorem zq {s : Sto} (hs : OKS s) (lv : Int) : ∀ (l out : List Tm) (f : Int), (∀ t ∈ l, z02 t = true → Fit f.toNat t) → (∀ t ∈ out, lfP t) → ∀ t ∈ (z3z s lv out l f).1, lfP t
 | [], out, f, _, ho => ho
 | t :: l, out, f, hl, ho => by
  rw [z3z]
  split
  · exact fun t h => nomatch h
  · rename_i he
    have ok := zb3 hs (hl t List.mem_cons_self) (by simpa using he)
    split
    · exact fun t h => nomatch h
    · rename_i hb
      have hlb : z49 (z1m s f t).1 = true := by
       rw [z76] at hb
       simp only [Bool.or_eq_true, not_or, Bool.not_eq_true', Bool.not_eq_false] at hb
       exact hb.1.1
      exact zq hs lv l _ _ (fun u hu hv => (hl u (List.mem_cons_of_mem _ hu) hv).mono (by have := ok.2.2.2.2.2; omega)) (fun u hu => by
       rcases List.mem_append.1 hu with hu | hu
       · exact ho u hu
       · simp at hu; subst hu; exact leafF_P ok.2.1 ok.2.2.1 hlb)
theorem z6q {s : Sto} (hs : OKS s) (x : Int) (l : List Tm) (f : Int) (hl : ∀ t ∈ l, z02 t = true → Fit f.toNat t) : (∀ t ∈ (z1e s x l f).1, lfP t) ∧ (0 ≤ f → (z1e s x l f).2.2 = 0 → 0 ≤ (z1e s x l f).2.1 ∧ ((z1e s x l f).1.length : Int) + (z1e s x l f).2.1 ≤ f ∧ inB s.V x = true) ∧ ((z1e s x l f).2.2 ≠ 0 → (z1e s x l f).1 = []) := by
 unfold z1e
 split
 · exact ⟨(fun t h => by cases h), (fun _ h => by cases h), fun _ => rfl⟩
 · rename_i hc
   refine ⟨zq hs _ l [] f hl (fun t h => nomatch h), fun h0 he => ?_, fun he => ?_⟩
   · have := zgm (s := s) (infOf s.V x).lv l [] f h0 he
     simp only [List.length_nil] at this
     refine ⟨this.1, by omega, ?_⟩
     simp only [Bool.or_eq_true, not_or, Bool.not_eq_true', Bool.not_eq_false] at hc
     exact hc.1
   · have key : ∀ (l out : List Tm) (f : Int), (z3z s (infOf s.V x).lv out l f).2.2 ≠ 0 → (z3z s (infOf s.V x).lv out l f).1 = [] := by
      intro l
      induction l with
      | nil => exact fun out f h => absurd rfl h
      | cons t l ih =>
       intro out f h
       rw [z3z] at h ⊢
       split
       · rfl
       · rename_i h1
         rw [if_neg h1] at h
         split
         · rfl
         · rename_i h2; rw [if_neg h2] at h; exact ih _ _ h
     exact key l [] f he
theorem z70 {s : Sto} (hs : OKS s) {f : Int} {t : Tm} (h0 : 0 ≤ f) (hf : z02 t = true → Fit f.toNat t) (he : (z0x s f t).2.2 = 0) : z02 (z0x s f t).1 = true ∧ Fit (z0x s f t).2.1.toNat (z0x s f t).1 ∧ 0 ≤ (z0x s f t).2.1 ∧ (z0x s f t).2.1 ≤ f := by
 unfold z0x at he ⊢
 split at he
 · rename_i hv
   rw [if_pos hv]
   have hq := z84 hs hv (hf hv)
   split at he
   · rename_i h1
     rw [if_pos h1]
     obtain ⟨hu, hq⟩ := hq
     rcases hq with ⟨_, a, b, _⟩ | ⟨h80, _⟩
     · refine ⟨a, ?_, by simp only; omega, by simp only; omega⟩
       have : (f - ((runH s f.toNat t).2.2 : Int)).toNat = f.toNat - (runH s f.toNat t).2.2 := by omega
       simp only [this]; exact b
     · rw [h80] at h1; cases h1
   · rename_i h1; exact absurd he h1
 · cases he
theorem zan : ∀ (n : Nat) (f : Tm), (z4v n f).sz = n + f.sz
 | 0, f => by rw [z4v]; omega
 | n + 1, f => by
  rw [z4v, zan n]
  simp only [Tm.sz, Tm.szs, List.length_nil]; omega
theorem zew {M : Int} : ∀ (n : Nat) {t : Tm}, bd M t → bd M (z4v n t)
 | 0, _, h => h
 | n + 1, t, h => by
  rw [z4v]
  exact zew n ⟨fun e => absurd e (by decide), h, trivial⟩
def LP (L : List Tm) : Prop := L.length ≤ 900 ∧ ∀ t ∈ L, t.sz = 1
theorem zeo : ∀ {l : List Tm}, (∀ t ∈ l, t.sz = 1) → Tm.szs l = l.length
 | [], _ => rfl
 | t :: l, h => by rw [Tm.szs, h t List.mem_cons_self, zeo fun u hu => h u (List.mem_cons_of_mem _ hu), List.length_cons]; omega
theorem bnd_P {n : Int} (h0 : 0 ≤ n) (h1 : n ≤ 2199023255552) : (bV3 n).sz = 1 ∧ bd 2199023255552 (bV3 n) := by
 refine ⟨rfl, fun _ => ⟨?_, ?_⟩, trivial⟩
 · show -2199023255552 ≤ n; omega
 · show n ≤ 2199023255552; omega
theorem imgs_P (lv : Int) (L : List Tm) (k : Int) (m : Nat) (hm : m ≤ 100000) : ∀ (l : List Tm) (i : Nat) (a : List Tm × List Tm), i + l.length ≤ m → (∀ t ∈ a.1, t.sz = 1 ∧ bd 2199023255552 t) → ∀ t ∈ (imgs lv L k m l i a).1, t.sz = 1 ∧ bd 2199023255552 t
 | [], _, _, _, h => h
 | t :: l, i, a, hi, h => by
  rw [imgs]
  simp only [List.length_cons] at hi
  refine imgs_P lv L k m hm l (i + 1) _ (by omega) ?_
  split
  · intro u hu
    rcases List.mem_append.1 hu with hu | hu
    · exact h u hu
    · simp at hu; subst hu; exact bnd_P (by omega) (by omega)
  · exact h
theorem one_bd {t : Tm} {M : Int} (h : t.sz = 1) (hk : t.k = 1) : t.sz = 1 ∧ bd M t := by
 refine ⟨h, ?_⟩
 obtain ⟨k, s, n, l⟩ := t
 have hk : k = 1 := hk
 have hl : l = [] := by
  cases l with
  | nil => rfl
  | cons a b =>
   have := a.sz_pos
   simp only [Tm.sz, Tm.szs] at h; omega
 subst hl
 exact ⟨fun q => by omega, trivial⟩
theorem zt1 (c : Bool) (lvy k : Int) (n : Nat) : ∀ (l : List Tm) (i : Nat) (a : List Tm × List Tm), (∀ t ∈ l, t.sz = 1) → (∀ t ∈ a.1, t.sz = 1 ∧ bd 2199023255552 t) → ∀ t ∈ (z53 c lvy k n l i a).1, t.sz = 1 ∧ bd 2199023255552 t
 | [], _, _, _, h => h
 | t :: l, i, a, hl, h => by
  rw [z53]
  refine zt1 c lvy k n l (i + 1) _ (fun u hu => hl u (List.mem_cons_of_mem _ hu)) ?_
  split
  · rename_i hq
    simp only [Bool.and_eq_true, beq_iff_eq] at hq
    intro u hu
    rcases List.mem_append.1 hu with hu | hu
    · exact h u hu
    · simp at hu; subst hu; exact one_bd (hl _ List.mem_cons_self) hq.2.1
  · exact h
theorem onF_P {L : List Tm} (hL : LP L) (lv lvy k : Int) (ls : List Tm) (hls : ls.length ≤ 900) : (onF lv lvy L k ls).1.length ≤ 1800 ∧ (onF lv lvy L k ls).1.length = (onF lv lvy L k ls).2.length ∧ ∀ t ∈ (onF lv lvy L k ls).1, t.sz = 1 ∧ bd 2199023255552 t := by
 have il := z8q lv L k ls.length ls 0 ([], []) rfl
 have ml := z67 (decide (lvy > lv)) lvy k L.length L 0 _ il.1
 have h1 := hL.1
 simp only [List.length_nil, Nat.zero_add] at il ml
 refine ⟨?_, ml.1, zt1 _ _ _ _ L 0 _ hL.2 (imgs_P lv L k ls.length (by omega) ls 0 ([], []) (by omega) (fun t h => nomatch h))⟩
 have := ml.2
 unfold onF
 omega
theorem zj3 {s : Sto} {m : Nat} {on : List Tm} (hV : s.V.length ≤ 1073741824) (hm : m ≤ 900) (ho : on.length ≤ 1800) (h : ∀ t ∈ on, t.sz = 1 ∧ bd 2199023255552 t) : (z5z s m on).sz ≤ 40000 ∧ bd 2199023255552 (z5z s m on) := by
 have h1 := z2m (.mk 4 [] (s.V.length : Int) []) on
 have h2 := zeo fun t ht => (h t ht).1
 have h3 : (Tm.mk 4 [] (s.V.length : Int) []).sz = 1 := rfl
 refine ⟨by rw [z5z, zan]; omega, zew _ (z2j ⟨fun _ => ⟨?_, ?_⟩, trivial⟩ (z7f fun t ht => (h t ht).2))⟩
 · show -2199023255552 ≤ ((s.V.length : Nat) : Int); omega
 · show ((s.V.length : Nat) : Int) ≤ 2199023255552; omega
structure GI (C : Nat) (q : IS) : Prop where
 ok : OKS q.s
 V : q.s.V.length + q.f.toNat ≤ C
 T : q.s.T.length + q.f.toNat ≤ C
 f0 : -9223372036854775808 ≤ q.f
 f1 : q.f ≤ 900
theorem GI.fail {C : Nat} {q : IS} (h : GI C q) (e : Int) : GI C (z2i q e) := by
 unfold z2i
 split
 · exact ⟨h.ok, h.V, h.T, h.f0, h.f1⟩
 · exact h
theorem z63 (q : IS) (e : Int) : (z2i q e).f = q.f := by unfold z2i; split <;> rfl
theorem GI.less {C : Nat} {q : IS} (h : GI C q) {f : Int} (h0 : 0 ≤ f) (h1 : f ≤ q.f) : GI C ⟨q.s, f, q.e⟩ := ⟨h.ok, by have := h.V; simp only; omega, by have := h.T; simp only; omega, by simp only; omega, by have := h.f1; simp only; omega⟩
theorem z7i (s : Sto) (lv : Int) : (freshS s lv).V.length = s.V.length + 1 ∧ (freshS s lv).T = s.T := by
 constructor
 · simp [freshS]
 · rfl
theorem z6p (s : Sto) (x : Int) (t : Tm) : (bindS s x t).T.length ≤ s.T.length + 1 := by
 by_cases q : z3v s x t = true
 · rw [(z1p q).1]; simp
 · rw [(z32 (by simpa using q)).1]; omega
theorem OKS.hang {s : Sto} (h : OKS s) (y lv : Int) {m : Nat} {on : List Tm} (hp : (z5z s m on).sz ≤ 40000 ∧ bd 2199023255552 (z5z s m on)) : OKS (z2s s y lv m on) := by
 refine OKS.bindA (fun i hi hb => ?_) hp.1 hp.2
 rcases List.mem_append.1 hi with hi | hi
 · exact h i hi hb
 · simp at hi; subst hi; cases hb
theorem ziv (lv : Int) (L : List Tm) (q : IS) (y k : Int) (ls : List Tm) (f : Int) : (z72 lv L q y k ls f).2.f = f := by unfold z72; split <;> rfl
theorem gi_flexG {C : Nat} (hC : C ≤ 1073741824) {L : List Tm} (hL : LP L) {lv : Int} {q : IS} (h : GI C q) (y k : Int) (ls : List Tm) {f : Int} (h0 : 0 ≤ f) (h1 : f ≤ q.f) (hV : q.s.V.length + f.toNat + 1 ≤ C) (hT : q.s.T.length + f.toNat + 1 ≤ C) (hls : ls.length ≤ 900) : GI C (z72 lv L q y k ls f).2 := by
 have hf1 := h.f1
 unfold z72
 split
 · exact h.less h0 h1
 · have o := onF_P hL lv (infOf q.s.V y).lv k ls hls
   have hp := zj3 (s := q.s) (m := ls.length) (by omega) hls o.1 o.2.2
   have e1 := z7i q.s (z0j [lv, (infOf q.s.V y).lv])
   refine ⟨h.ok.hang y _ hp, ?_, ?_, by simp only; omega, by simp only; omega⟩
   · show (z2s _ _ _ _ _).V.length + f.toNat ≤ C
     rw [z2s, z0p, e1.1]; omega
   · show (z2s _ _ _ _ _).T.length + f.toNat ≤ C
     have := z6p (freshS q.s (z0j [lv, (infOf q.s.V y).lv])) y (z5z q.s ls.length (onF lv (infOf q.s.V y).lv L k ls).1)
     rw [e1.2] at this
     rw [z2s]; omega
theorem gi_flexF {C : Nat} (hC : C ≤ 1073741824) {L : List Tm} (hL : LP L) {lv : Int} {q : IS} (h : GI C q) (h0 : 0 ≤ q.f) (hV : q.s.V.length + q.f.toNat + 1 ≤ C) (hT : q.s.T.length + q.f.toNat + 1 ≤ C) (y : Int) (l : List Tm) (k : Int) (hl : ∀ t ∈ l, z02 t = true → Fit q.f.toNat t) :
  GI C (z33 lv L q y l k).2 ∧ (z33 lv L q y l k).2.f ≤ q.f ∧ 0 ≤ (z33 lv L q y l k).2.f := by
 have ha := z6q h.ok y l q.f hl
 unfold z33
 split
 · exact ⟨h.fail _, by rw [z63]; exact Int.le_refl _, by rw [z63]; exact h0⟩
 · rename_i he
   have ha2 := ha.2.1 h0 (by simpa using he)
   have hf1 := h.f1
   exact ⟨gi_flexG hC hL h y k _ ha2.1 (by omega) (by omega) (by omega) (by omega), by rw [ziv]; omega, by rw [ziv]; exact ha2.1⟩
theorem lfP_n {t : Tm} (hb : bd M61 t) (hk : t.k = 3) : -4611686018427387904 ≤ t.n ∧ t.n ≤ 4611686018427387904 := by
 obtain ⟨k, s, n, l⟩ := t
 have hk : k = 3 := hk
 have := hb.1 hk
 simp only [M61] at this
 exact ⟨by show -4611686018427387904 ≤ n; omega, by show n ≤ 4611686018427387904; omega⟩
theorem zkt {C : Nat} (hC : C ≤ 1073741824) {L : List Tm} (hL : LP L) (x : Int) {lv : Int} {q : IS} (h : GI C q) (h0 : 0 ≤ q.f) (hV : q.s.V.length + q.f.toNat + 1 ≤ C) (hT : q.s.T.length + q.f.toNat + 1 ≤ C) (y : Int) (l : List Tm) (k : Int) (hlen : l.length ≤ 1000000000) (hl : ∀ t ∈ l, t.sz ≤ B ∧ (z02 t = true → Fit q.f.toNat t)) (hk0 : 0 ≤ k) (hk1 : k ≤ 1099511627776) :
  AC Tryz.prog 93 [aIV, ci y, aL l, ci k] (oIs x lv L q.f q.e q.s) (aT (z33 lv L q y l k).1) (oIt x lv L (z33 lv L q y l k).2.f (z33 lv L q y l k).2.e (z33 lv L q y l k).2.s) := by
 have ha := z6q h.ok y l q.f (fun t ht => (hl t ht).2)
 have hf1 := h.f1
 have hL1 := hL.1
 have hls : (z1e q.s y l q.f).1.length ≤ 900 := by
  by_cases he : (z1e q.s y l q.f).2.2 = 0
  · have := ha.2.1 h0 he; omega
  · rw [ha.2.2 he]; simp
 refine c_iflex x lv L q y l k (by omega) hk0 hk1 (zpi q.s h.ok y q.f l (by omega) (by omega) hl) (by omega) (fun t ht => ?_) (fun _ => ?_)
 · exact zlb x lv L _ _ _ t k (by omega) (lfP_n (ha.1 t ht).2.2.2.1) hk0 hk1
 · have o := onF_P hL lv (infOf q.s.V y).lv k (z1e q.s y l q.f).1 hls
   have hp := zj3 (s := q.s) (m := (z1e q.s y l q.f).1.length) (by omega) hls o.1 o.2.2
   exact c_hang q.s y _ _ _ (by omega) (by omega) (by omega) (by omega) (by have := hp.1; simp only [B]; omega) (z6a (by simp only [M61]; omega) _ hp.2)
end Go.AM

set_option maxRecDepth 100000
open Go Go.Proofs
namespace Go.AM
def z2a (tm : IS → Tm → Tm × IS) : List Tm → IS → List Tm × IS
 | [], q => ([], q)
 | t :: l, q => ((tm q t).1 :: (z2a tm l (tm q t).2).1, (z2a tm l (tm q t).2).2)
def zgr (lv : Int) (L : List Tm) (tm : IS → Tm → Tm × IS) (q : IS) (h : Tm) (l : List Tm) (k : Int) : Tm × IS :=
 if (h.k = 3 ∨ h.k = 1) ∧ (imgT lv L h k).2 = false then (noT, z2i q 170)
 else (z07 (if h.k = 3 ∨ h.k = 1 then (imgT lv L h k).1 else h) (z2a tm l q).1, (z2a tm l q).2)
def z5x (x lv : Int) (L : List Tm) (tm : IS → Tm → Int → Tm × IS) (q : IS) (h : Tm × List Tm) (k : Int) : Tm × IS :=
 if h.1.k = 5 then (z4v 1 (tm q (hd h.1.l) (k + 1)).1, (tm q (hd h.1.l) (k + 1)).2)
 else if h.1.k = 4 then (if h.1.n = x then (noT, z2i q 170) else z33 lv L q h.1.n h.2 k)
 else zgr lv L (fun q t => tm q t k) q h.1 h.2 k
def zkb (x lv : Int) (L : List Tm) (tm : IS → Tm → Int → Tm × IS) (q : IS) (z : Tm × Int × Int) (k : Int) : Tm × IS :=
 if z.2.2 ≠ 0 then (noT, z2i q z.2.2) else z5x x lv L tm ⟨q.s, z.2.1, q.e⟩ (z04 z.1) k
def z0r (x lv : Int) (L : List Tm) : Nat → IS → Tm → Int → Tm × IS
 | 0, q, _, _ => if q.e ≠ 0 then (noT, q) else (noT, z2i q 80)
 | D + 1, q, t, k => if q.e ≠ 0 then (noT, q) else if q.f ≤ 0 then (noT, z2i q 80) else zkb x lv L (z0r x lv L D) q (z0x q.s (q.f - 1) t) k
theorem zay {z : Tm} {F : Nat} (hv : z02 z = true) (hf : Fit F z) : (z02 (z04 z).1 = true ∧ Fit F (z04 z).1) ∧ (∀ t ∈ (z04 z).2, t.sz ≤ SZ ∧ (z02 t = true → Fit F t)) ∧ (z04 z).2.length ≤ SZ ∧ ∀ u ∈ (z04 z).1.l, u.sz ≤ SZ ∧ (z02 u = true → Fit F u) := by
 have hsz := hf.sz
 have hlen := Tm.szs_length z.l
 have hse := z.sz_eq
 have kids : ∀ w : Tm, Fit F w → ∀ u ∈ w.l, u.sz ≤ SZ ∧ (z02 u = true → Fit F u) := fun w hw u hu => ⟨(hw.kid hu).sz, fun _ => hw.kid hu⟩
 unfold z04
 split
 · rename_i h6
   obtain ⟨k, s, n, l⟩ := z
   have h6k : k = 6 := h6.1
   obtain ⟨x, y, r, rfl, hx6, _⟩ := okB6 (z08 _ hv) h6k
   have hx := z1v hv (.inr h6k) x List.mem_cons_self
   have hfx : Fit F x := hf.kid (show x ∈ Tm.l (.mk k s n (x :: y :: r)) from List.mem_cons_self)
   refine ⟨⟨hx, hfx⟩, fun t ht => kids _ hf t (List.mem_of_mem_drop ht), ?_, fun u hu => kids x hfx u hu⟩
   simp only [Tm.l, List.length_cons, List.length_drop] at hlen hse ⊢
   omega
 · exact ⟨⟨hv, hf⟩, (fun t h => nomatch h), Nat.zero_le _, fun u hu => kids z hf u hu⟩
section
variable {C : Nat} (hC : C ≤ 1073741824) {L : List Tm} (hL : LP L) (x lv : Int)
include hC hL
omit hC hL in
theorem zpu {tm : IS → Tm → Tm × IS} {f0 : Int} (htm : ∀ q t, GI C q → 0 ≤ q.f → q.f ≤ f0 → (q.e = 0 → z02 t = true → Fit q.f.toNat t) → GI C (tm q t).2 ∧ (tm q t).2.f ≤ q.f ∧ 0 ≤ (tm q t).2.f) :
  ∀ (l : List Tm) (q : IS), GI C q → 0 ≤ q.f → q.f ≤ f0 → (∀ t ∈ l, z02 t = true → Fit q.f.toNat t) → GI C (z2a tm l q).2 ∧ (z2a tm l q).2.f ≤ q.f ∧ 0 ≤ (z2a tm l q).2.f
 | [], q, h, h0, _, _ => ⟨h, Int.le_refl _, h0⟩
 | t :: l, q, h, h0, h1, hl => by
  have a := htm q t h h0 h1 (fun _ => hl t List.mem_cons_self)
  have b := zpu htm l (tm q t).2 a.1 a.2.2 (by omega) (fun u hu hv => (hl u (List.mem_cons_of_mem _ hu) hv).mono (by omega))
  exact ⟨b.1, by show (z2a tm l (tm q t).2).2.f ≤ q.f; omega, b.2.2⟩
theorem z9l : ∀ (D : Nat) (q : IS) (t : Tm) (k : Int), GI C q → 0 ≤ q.f → (q.e = 0 → z02 t = true → Fit q.f.toNat t) → GI C (z0r x lv L D q t k).2 ∧ (z0r x lv L D q t k).2.f ≤ q.f ∧ 0 ≤ (z0r x lv L D q t k).2.f
 | 0, q, t, k, h, h0, _ => by
  rw [z0r]
  split
  · exact ⟨h, Int.le_refl _, h0⟩
  · exact ⟨h.fail _, by rw [z63]; exact Int.le_refl _, by rw [z63]; exact h0⟩
 | D + 1, q, t, k, h, h0, hf => by
  rw [z0r]
  have hfl : ∀ e, GI C (z2i q e) ∧ (z2i q e).f ≤ q.f ∧ 0 ≤ (z2i q e).f := fun e => ⟨h.fail _, by rw [z63]; exact Int.le_refl _, by rw [z63]; exact h0⟩
  split
  · exact ⟨h, Int.le_refl _, h0⟩
  · rename_i he
    have he : q.e = 0 := by simpa using he
    split
    · exact hfl _
    · rename_i hf0
      have hV := h.V
      have hT := h.T
      have hfit : z02 t = true → Fit (q.f - 1).toNat t := fun hv => (hf he hv).mono (by omega)
      unfold zkb
      split
      · exact hfl _
      · rename_i hz
        have ok := z70 h.ok (by omega) hfit (by simpa using hz)
        generalize z0x q.s (q.f - 1) t = z at *
        obtain ⟨z1, z2, z3⟩ := z
        simp only at ok ⊢
        obtain ⟨hv, hfz, hz0, hz1⟩ := ok
        have sp := zay hv hfz
        have g : GI C ⟨q.s, z2, q.e⟩ := h.less hz0 (by omega)
        have hfl : ∀ e, GI C (z2i ⟨q.s, z2, q.e⟩ e) ∧ (z2i ⟨q.s, z2, q.e⟩ e).f ≤ q.f ∧ 0 ≤ (z2i ⟨q.s, z2, q.e⟩ e).f := fun e => ⟨g.fail _, by rw [z63]; simp only; omega, by rw [z63]; exact hz0⟩
        have ih := fun q' t' k' => z9l D q' t' k'
        unfold z5x
        split
        · rename_i h5
          have hne : (z04 z1).1.l ≠ [] := fun e => by
           have o := z08 _ sp.1.1
           generalize (z04 z1).1 = w at *
           obtain ⟨wk, ws, wn, wl⟩ := w
           obtain ⟨u, hu, _⟩ := okB5 o h5
           rw [hu] at e; cases e
          have hm : hd (z04 z1).1.l ∈ (z04 z1).1.l := by
           cases hl : (z04 z1).1.l with
           | nil => exact absurd hl hne
           | cons a b => exact List.mem_cons_self
          have := ih ⟨q.s, z2, q.e⟩ (hd (z04 z1).1.l) (k + 1) g hz0 (fun _ hv => (sp.2.2.2 _ hm).2 hv)
          simp only at this
          exact ⟨this.1, by simp only; omega, this.2.2⟩
        · split
          · split
            · exact hfl _
            · have := gi_flexF hC hL (lv := lv) g hz0 (by simp only; omega) (by simp only; omega) (z04 z1).1.n (z04 z1).2 k (fun t ht => (sp.2.1 t ht).2)
              simp only at this
              exact ⟨this.1, by omega, this.2.2⟩
          · unfold zgr
            split
            · exact hfl _
            · have := zpu (tm := fun q t => z0r x lv L D q t k) (f0 := z2) (fun q' t' a b _ d => ih q' t' k a b d) (z04 z1).2 ⟨q.s, z2, q.e⟩ g hz0 (Int.le_refl _) (fun t ht => (sp.2.1 t ht).2)
              simp only at this
              exact ⟨this.1, by simp only; omega, this.2.2⟩
end
end Go.AM

set_option maxRecDepth 100000
open Go Go.Proofs
namespace Go.AM
abbrev tmH (x lv : Int) (L : List Tm) (q : IS) (h : Tm) : AHeap := [(0, oIV x lv L q.f q.e), (1, sto2 4 5 q.s), (2, .gone), (3, .gone), (4, .arz 6 (SR q.s.V)), (5, .arz 1 (IR q.s.T)), (6, .arr 4 [zT]), (7, .arr 4 [cT h])]
section
variable {C : Nat} (hC : C ≤ 1073741824) {L : List Tm} (hL : LP L) (x lv : Int)
theorem zmm {tm : IS → Tm → Tm × IS} {f0 k : Int} (h : Tm) (n : Nat) (hn : n ≤ 1000000000) (hhl : h.l.length ≤ 1000000000)
  (htm : ∀ q t, GI C q → 0 ≤ q.f → q.f ≤ f0 → (q.e = 0 → z02 t = true → Fit q.f.toNat t) → GI C (tm q t).2 ∧ (tm q t).2.f ≤ q.f ∧ 0 ≤ (tm q t).2.f)
  (hk : ∀ q t, GI C q → 0 ≤ q.f → q.f ≤ f0 → t.sz ≤ B → (q.e = 0 → z02 t = true → Fit q.f.toNat t) → AC Tryz.prog 63 [aIV, aT t, ci k] (oIs x lv L q.f q.e q.s) (aT (tm q t).1) (oIt x lv L (tm q t).2.f (tm q t).2.e (tm q t).2.s)) :
  ∀ (b a : List Tm) (q : IS), a.length + b.length = n → GI C q → 0 ≤ q.f → q.f ≤ f0 → (∀ t ∈ b, t.sz ≤ B ∧ (z02 t = true → Fit q.f.toNat t)) →
  RPt Tryz.prog 63 4 (aT (z07 h (a ++ (z2a tm b q).1))) (oIt x lv L (z2a tm b q).2.f (z2a tm b q).2.e (z2a tm b q).2.s) 3
   ⟨[(0, aIV), (2, ci k), (6, .c (.a (.ep 6 4 0 0))), (9, .c (.a (.ep 7 4 0 0))), (10, .c (.a (.osl 8 4 0 n))), (102, .c (.a (.osl 8 4 0 n))), (103, ci (n : Int)), (104, ci (a.length : Int))], tmH x lv L q h ++ [(8, .arz 4 (FTs (a ++ b)))], 9⟩
 | [], a, q, hl, _, _, _, _ => by
  rw [List.length_nil, Nat.add_zero] at hl
  rw [List.append_nil, show (z2a tm [] q).1 = [] from rfl, List.append_nil, show (z2a tm [] q).2 = q from rfl]
  have ha := z3d h a (by omega)
  obtain ⟨hk', hs, hn', hl'⟩ := h
  refine RPt.vc hP sh lv63 (Eq.mpr (v63_3b ..) ?_)
  refine z01 (fun h => absurd (of_decide_eq_true h) (by omega)) (fun _ => ⟨⟨rfl, by rw [z00]; omega⟩, _, ?_, .refl _, rfl⟩)
  rw [List.drop_zero, List.take_of_length_le (by rw [z00]; omega)]
  exact ha
 | t :: b, a, q, hl, hg, h0, h1, hb => by
  have hlen : (a ++ t :: b).length = n := by simp only [List.length_append, List.length_cons] at hl ⊢; omega
  have h3 := ltI' a t b
  have hbt := hb t List.mem_cons_self
  have ht := htm q t hg h0 h1 (fun _ => hbt.2)
  have hc := hk q t hg h0 h1 hbt.1 (fun _ => hbt.2)
  have next := zmm h n hn hhl htm hk b (a ++ [(tm q t).1]) (tm q t).2 (by simp only [List.length_append, List.length_cons, List.length_nil] at hl ⊢; omega) ht.1 ht.2.2 (by omega) (fun u hu => ⟨(hb u (List.mem_cons_of_mem _ hu)).1, fun hv => ((hb u (List.mem_cons_of_mem _ hu)).2 hv).mono (by omega)⟩)
  have eK : z2a tm (t :: b) q = ((tm q t).1 :: (z2a tm b (tm q t).2).1, (z2a tm b (tm q t).2).2) := rfl
  rw [eK]
  simp only
  rw [List.append_assoc, show [(tm q t).1] ++ (z2a tm b (tm q t).2).1 = (tm q t).1 :: (z2a tm b (tm q t).2).1 from rfl, ap, nx] at next
  simp only [List.length_cons] at hl
  have em := z3o a t b
  have hsz : (0 + Int.toNat (a.length : Int)) < (FTs (a ++ t :: b)).length := by omega
  obtain ⟨hk', hs, hn', hl'⟩ := h
  refine RPt.vc hP sh lv63 (Eq.mpr (v63_3b ..) ?_)
  rw [w64 (x := (a.length : Int) + 1) (by omega) (by omega)]
  refine z01 (fun _ => ⟨by omega, ⟨hsz, by rw [Nat.zero_add, em, midI, List.drop_zero, List.take_of_length_le (by rw [z1s]; exact Nat.le_refl _)], rfl⟩, ((tm q t).1, (tm q t).2.s, x, lv, L, (tm q t).2.f, (tm q t).2.e), ?_, by omega, ⟨hsz, by rw [Nat.zero_add, midI]; exact z1s t⟩, ?_⟩) (fun h => absurd (of_decide_eq_false h) (by omega))
  · rw [Nat.zero_add, z39]; exact hc
  · rw [zrx]; exact next
omit hC hL
abbrev FAILP (x lv : Int) (L : List Tm) (q : IS) (er : Int) (r : TV) (Hs' : List AObj) : Prop :=
 ∃ z : Int × Int × List Tm × Int × Int, AC Tryz.prog 90 [aIV, ci er] (oIs x lv L q.f q.e q.s) (.agg [.a (.fz (.int .i64 0)), .a (.fz (.str [])), .a (.fz (.int .i64 0)), .a (.fz (.sl false 4 []))]) (oIs z.1 z.2.1 z.2.2.1 z.2.2.2.1 z.2.2.2.2 q.s) ∧
  TV.Le (.agg [.a (.fz (.int .i64 0)), .a (.fz (.str [])), .a (.fz (.int .i64 0)), .a (.fz (.sl false 4 []))]) r ∧ oIt z.1 z.2.1 z.2.2.1 z.2.2.2.1 z.2.2.2.2 q.s = Hs'
theorem zht (q : IS) (er : Int) : FAILP x lv L q er (aT noT) (oIt x lv L (z2i q er).f (z2i q er).e (z2i q er).s) := by
 have hf := zq5 x lv L q.f q.e er q.s
 refine ⟨(x, lv, L, q.f, if q.e = 0 then er else q.e), hf, .refl _, ?_⟩
 unfold z2i
 split <;> rfl
abbrev IMGP (x lv : Int) (L : List Tm) (q : IS) (h : Tm) (k : Int) (r : TV) (Hs' : List AObj) (R : Tm → Prop) : Prop :=
 ∃ z : Tm × Bool, AC Tryz.prog 94 [aIV, aT h, ci k] (oIs x lv L q.f q.e q.s) (zet z.1 z.2) (oIs x lv L q.f q.e q.s) ∧ br (!z.2) (FAILP x lv L q 170 r Hs') (R z.1)
abbrev TREE (x lv : Int) (L : List Tm) (q : IS) (h : Tm) (k : Int) (r : TV) (Hs' : List AObj) (F : Prop) (R : Tm → Prop) : Prop :=
 br (h.k == 5) ((FV.isSl 4 (.sl false 4 (FTs h.l)) = true ∧ ((0 : Int) ≤ 0 ∧ ((0 : Int) < (((FTs h.l).length : Nat) : Int) ∧ (rE (List.getD (FTs h.l) 0 []) : List FV) = List.getD (FTs h.l) 0 []))) ∧
  ∃ z : Tm × Sto × Int × Int × List Tm × Int × Int, AC Tryz.prog 63 [aIV, aE (List.getD (FTs h.l) 0 []), ci (IntKind.wrap .i64 (k + 1))] (oIs x lv L q.f q.e q.s) (aT z.1) (oIt z.2.2.1 z.2.2.2.1 z.2.2.2.2.1 z.2.2.2.2.2.1 z.2.2.2.2.2.2 z.2.1) ∧
   ∃ z6 : Tm, AC Tryz.prog 45 [ci 1, aT z.1] [] (aT z6) [] ∧ TV.Le (aT z6) r ∧ oIt z.2.2.1 z.2.2.2.1 z.2.2.2.2.1 z.2.2.2.2.2.1 z.2.2.2.2.2.2 z.2.1 = Hs')
 (br (h.k == 4) (br (h.n == x) (FAILP x lv L q 170 r Hs') F) (br (h.k == 3) (IMGP x lv L q h k r Hs' R) (br (h.k == 1) (IMGP x lv L q h k r Hs' R) (R h))))
theorem imgT_l (lv : Int) (L : List Tm) (t : Tm) (k : Int) : (imgT lv L t k).1.l.length ≤ t.l.length := by
 unfold imgT
 split
 · exact Nat.le_refl _
 · split
   · exact Nat.zero_le _
   · exact Nat.le_refl _
theorem tree_p {C : Nat} {tm : IS → Tm → Int → Tm × IS} (hLl : L.length ≤ 100000) (q : IS) (h : Tm × List Tm) (k : Int) (hk0 : 0 ≤ k) (hk1 : k + 1 ≤ 1099511627776) (hv : z02 h.1 = true) (hb : bd M61 h.1)
  (ht : h.1.k = 5 → AC Tryz.prog 63 [aIV, aT (hd h.1.l), ci (k + 1)] (oIs x lv L q.f q.e q.s) (aT (tm q (hd h.1.l) (k + 1)).1) (oIt x lv L (tm q (hd h.1.l) (k + 1)).2.f (tm q (hd h.1.l) (k + 1)).2.e (tm q (hd h.1.l) (k + 1)).2.s))
  (F : Prop) (R : Tm → Prop) (hF : h.1.k = 4 → h.1.n ≠ x → z5x x lv L tm q h k = z33 lv L q h.1.n h.2 k → F)
  (hR : ∀ h', h'.l.length ≤ h.1.l.length → z5x x lv L tm q h k = (z07 h' (z2a (fun q t => tm q t k) h.2 q).1, (z2a (fun q t => tm q t k) h.2 q).2) → R h') :
  TREE x lv L q h.1 k (aT (z5x x lv L tm q h k).1) (oIt x lv L (z5x x lv L tm q h k).2.f (z5x x lv L tm q h k).2.e (z5x x lv L tm q h k).2.s) F R := by
 have hT : z5x x lv L tm q h k = if h.1.k = 5 then (z4v 1 (tm q (hd h.1.l) (k + 1)).1, (tm q (hd h.1.l) (k + 1)).2)
  else if h.1.k = 4 then (if h.1.n = x then (noT, z2i q 170) else z33 lv L q h.1.n h.2 k) else zgr lv L (fun q t => tm q t k) q h.1 h.2 k := rfl
 have hA : zgr lv L (fun q t => tm q t k) q h.1 h.2 k = if (h.1.k = 3 ∨ h.1.k = 1) ∧ (imgT lv L h.1 k).2 = false then (noT, z2i q 170)
  else (z07 (if h.1.k = 3 ∨ h.1.k = 1 then (imgT lv L h.1 k).1 else h.1) (z2a (fun q t => tm q t k) h.2 q).1, (z2a (fun q t => tm q t k) h.2 q).2) := rfl
 have img : h.1.k ≠ 5 → h.1.k ≠ 4 → (h.1.k = 3 ∨ h.1.k = 1) → IMGP x lv L q h.1 k (aT (z5x x lv L tm q h k).1) (oIt x lv L (z5x x lv L tm q h k).2.f (z5x x lv L tm q h k).2.e (z5x x lv L tm q h k).2.s) R := fun h5 h4 h31 => by
  rw [if_neg h5, if_neg h4, hA] at hT
  have hi := zlb x lv L q.f q.e q.s h.1 k hLl (lfP_n hb) hk0 (by omega)
  refine ⟨imgT lv L h.1 k, hi, z01 (fun c => ?_) (fun c => ?_)⟩
  · have c : (imgT lv L h.1 k).2 = false := by simpa using c
    rw [if_pos ⟨h31, c⟩] at hT
    rw [hT]
    exact zht x lv q 170
  · have c : (imgT lv L h.1 k).2 = true := by simpa using c
    rw [if_neg (fun e => by rw [c] at e; cases e.2), if_pos h31] at hT
    exact hR _ (imgT_l lv L h.1 k) hT
 refine z01 (fun h5 => ?_) (fun h5 => z01 (fun h4 => z01 (fun hx => ?_) (fun hx => ?_)) (fun h4 => z01 (fun h3 => ?_) (fun h3 => z01 (fun h1 => ?_) (fun h1 => ?_))))
 · have h5 : h.1.k = 5 := by simpa using h5
   rw [if_pos h5] at hT
   have ht := ht h5
   rw [hT]
   have hne : ∃ u l', h.1.l = u :: l' := by
    have o := z08 _ hv
    generalize h.1 = w at *
    obtain ⟨wk, ws, wn, wl⟩ := w
    obtain ⟨u, hu, _⟩ := okB5 o h5
    exact ⟨u, [], hu⟩
   obtain ⟨u, l', hul⟩ := hne
   rw [hul] at ht ⊢
   have hl := zds 1 (tm q u (k + 1)).1 (by omega)
   refine ⟨⟨rfl, Int.le_refl _, ltI' [] u l', z3o [] u l'⟩, ((tm q u (k + 1)).1, (tm q u (k + 1)).2.s, x, lv, L, (tm q u (k + 1)).2.f, (tm q u (k + 1)).2.e), ?_, _, hl, .refl _, rfl⟩
   rw [show aE (List.getD (FTs (u :: l')) 0 []) = aT u from zcv u, w64 (x := k + 1) (by omega) (by omega)]
   exact ht
 · have h5 : h.1.k ≠ 5 := by simpa using h5
   have h4 : h.1.k = 4 := by simpa using h4
   have hx : h.1.n = x := by simpa using hx
   rw [if_neg h5, if_pos h4, if_pos hx] at hT
   rw [hT]
   exact zht x lv q 170
 · have h5 : h.1.k ≠ 5 := by simpa using h5
   have h4 : h.1.k = 4 := by simpa using h4
   have hx : h.1.n ≠ x := by simpa using hx
   rw [if_neg h5, if_pos h4, if_neg hx] at hT
   exact hF h4 hx hT
 · exact img (by simpa using h5) (by simpa using h4) (.inl (by simpa using h3))
 · exact img (by simpa using h5) (by simpa using h4) (.inr (by simpa using h1))
 · have h5 : h.1.k ≠ 5 := by simpa using h5
   have h4 : h.1.k ≠ 4 := by simpa using h4
   have h3 : h.1.k ≠ 3 := by simpa using h3
   have h1 : h.1.k ≠ 1 := by simpa using h1
   have hno : ¬ (h.1.k = 3 ∨ h.1.k = 1) := fun e => e.elim h3 h1
   rw [if_neg h5, if_neg h4, hA, if_neg (fun e => hno e.1), if_neg hno] at hT
   exact hR _ (Nat.le_refl _) hT
end
theorem zrs {C : Nat} (hC : C ≤ 1073741824) {L : List Tm} (hL : LP L) (x lv : Int) : ∀ (D : Nat) (q : IS) (t : Tm) (k : Int), q.f.toNat ≤ D → GI C q → 0 ≤ q.f → t.sz ≤ B → (q.e = 0 → z02 t = true → Fit q.f.toNat t) → 0 ≤ k → k + q.f ≤ 549755813888 →
  AC Tryz.prog 63 [aIV, aT t, ci k] (oIs x lv L q.f q.e q.s) (aT (z0r x lv L D q t k).1) (oIt x lv L (z0r x lv L D q t k).2.f (z0r x lv L D q t k).2.e (z0r x lv L D q t k).2.s)
 | 0, q, t, k, hD, hg, h0, hz, hf, hk0, hk1 => by
  obtain ⟨tk, ts, tn, tl⟩ := t
  refine AC.vc hP sh lv63 (by simp) (by simp [isLive]) (by simp [isLive]) (Eq.mpr (v63 tk ts tn (FTs tl) k ..) ?_)
  rw [z0r]
  refine z01 (fun he => ?_) (fun he => z01 (fun hf0 => ?_) (fun hf0 => absurd (of_decide_eq_false hf0) (by omega)))
  · have he : q.e ≠ 0 := by have he : (q.e != 0) = true := he; simpa using he
    rw [if_pos he]; exact ⟨leT (l := []) z0c, rfl⟩
  · have he : q.e = 0 := by have he : (q.e != 0) = false := he; simpa using he
    rw [if_neg (by simp [he])]
    exact zht x lv q 80
 | D + 1, q, t, k, hD, hg, h0, hz, hf, hk0, hk1 => by
  have ih := fun q' t' k' => zrs hC hL x lv D q' t' k'
  have hL1 := hL.1
  have hf1 := hg.f1
  have hV := hg.V
  have hT := hg.T
  rw [z0r]
  by_cases he : q.e ≠ 0
  · rw [if_pos he]
    obtain ⟨tk, ts, tn, tl⟩ := t
    refine AC.vc hP sh lv63 (by simp) (by simp [isLive]) (by simp [isLive]) (Eq.mpr (v63 tk ts tn (FTs tl) k ..) ?_)
    exact z01 (fun _ => ⟨leT (l := []) z0c, rfl⟩) (fun h => absurd (by have h : (q.e != 0) = false := h; simpa using h) he)
  rw [if_neg he]
  have he : q.e = 0 := by simpa using he
  by_cases hf0 : q.f ≤ 0
  · rw [if_pos hf0]
    obtain ⟨tk, ts, tn, tl⟩ := t
    refine AC.vc hP sh lv63 (by simp) (by simp [isLive]) (by simp [isLive]) (Eq.mpr (v63 tk ts tn (FTs tl) k ..) ?_)
    exact z01 (fun h => absurd he (by have h : (q.e != 0) = true := h; simpa using h)) (fun _ => z01 (fun _ => zht x lv q 80) (fun h => absurd hf0 (of_decide_eq_false h)))
  rw [if_neg hf0]
  have hfit : z02 t = true → Fit (q.f - 1).toNat t := fun hv => (hf he hv).mono (by omega)
  have hh := zsb q.s hg.ok (q.f - 1) t (by omega) hz hfit
  have ok := z70 hg.ok (t := t) (f := q.f - 1) (by omega) hfit
  have enter : ∀ (r : TV) (Hs' : List AObj), br ((z0x q.s (q.f - 1) t).2.2 != 0) (FAILP x lv L q (z0x q.s (q.f - 1) t).2.2 r Hs')
    ((∃ z4 : Tm, AC Tryz.prog 92 [aT (z0x q.s (q.f - 1) t).1] [] (.tup [(true, cT z4), (false, [.a (.fz .nils)])]) [] ∧ TREE x lv L ⟨q.s, (z0x q.s (q.f - 1) t).2.1, q.e⟩ z4 k r Hs'
      (∃ z8 : Tm × Sto × Int × Int × List Tm × Int × Int, AC Tryz.prog 93 [aIV, ci z4.n, .c (.a (.fz .nils)), ci k] (oIs x lv L (z0x q.s (q.f - 1) t).2.1 q.e q.s) (aT z8.1) (oIt z8.2.2.1 z8.2.2.2.1 z8.2.2.2.2.1 z8.2.2.2.2.2.1 z8.2.2.2.2.2.2 z8.2.1) ∧ TV.Le (aT z8.1) r ∧ oIt z8.2.2.1 z8.2.2.2.1 z8.2.2.2.2.1 z8.2.2.2.2.2.1 z8.2.2.2.2.2.2 z8.2.1 = Hs')
      (fun h' => FV.isSl 4 .nils = true ∧ RPt Tryz.prog 63 4 r Hs' 3 ⟨[(0, aIV), (2, ci k), (6, .c (.a (.ep 6 4 0 0))), (9, .c (.a (.ep 7 4 0 0))), (10, .c (.a (.fz .nils))), (102, .c (.a (.fz .nils))), (103, ci 0), (104, ci 0)], tmH x lv L ⟨q.s, (z0x q.s (q.f - 1) t).2.1, q.e⟩ h', 8⟩)) ∨
     (∃ z13 : Tm × List Tm, AC Tryz.prog 92 [aT (z0x q.s (q.f - 1) t).1] [] (.tup [(true, cT z13.1), (false, [.a (.osl 0 4 0 z13.2.length)])]) [.arz 4 (FTs z13.2)] ∧ TREE x lv L ⟨q.s, (z0x q.s (q.f - 1) t).2.1, q.e⟩ z13.1 k r Hs'
        (((4 : Nat) = 4 ∧ (0 + z13.2.length) ≤ (FTs z13.2).length) ∧ ∃ z8 : Tm × Sto × Int × Int × List Tm × Int × Int, AC Tryz.prog 93 [aIV, ci z13.1.n, .c (.a (.fz (.sl false 4 (List.take z13.2.length (List.drop 0 (FTs z13.2)))))), ci k] (oIs x lv L (z0x q.s (q.f - 1) t).2.1 q.e q.s) (aT z8.1) (oIt z8.2.2.1 z8.2.2.2.1 z8.2.2.2.2.1 z8.2.2.2.2.2.1 z8.2.2.2.2.2.2 z8.2.1) ∧ TV.Le (aT z8.1) r ∧ oIt z8.2.2.1 z8.2.2.2.1 z8.2.2.2.2.1 z8.2.2.2.2.2.1 z8.2.2.2.2.2.2 z8.2.1 = Hs')
        (fun h' => RPt Tryz.prog 63 4 r Hs' 3 ⟨[(0, aIV), (2, ci k), (6, .c (.a (.ep 6 4 0 0))), (9, .c (.a (.ep 7 4 0 0))), (10, .c (.a (.osl 8 4 0 z13.2.length))), (102, .c (.a (.osl 8 4 0 z13.2.length))), (103, ci (z13.2.length : Int)), (104, ci 0)], tmH x lv L ⟨q.s, (z0x q.s (q.f - 1) t).2.1, q.e⟩ h' ++ [(8, .arz 4 (FTs z13.2))], 9⟩))) →
    Hs'.length = 6 → (∀ o ∈ Hs'.drop 4, isLive o) → AC Tryz.prog 63 [aIV, aT t, ci k] (oIs x lv L q.f q.e q.s) r Hs' := fun r Hs' hb hl hlv => by
   obtain ⟨tk, ts, tn, tl⟩ := t
   refine AC.vc hP sh lv63 (by simp [hl]) (by simp [isLive]) hlv (Eq.mpr (v63 tk ts tn (FTs tl) k ..) ?_)
   rw [w64 (x := q.f - 1) (by omega) (by omega)]
   exact z01 (fun h => absurd he (by have h : (q.e != 0) = true := h; simpa using h)) (fun _ => z01 (fun h => absurd (of_decide_eq_true h) hf0) (fun _ => ⟨_, hh, hb⟩))
  refine enter _ _ ?_ rfl (by simp [isLive])
  have eH : ∀ z : Tm × Int × Int, zkb x lv L (z0r x lv L D) q z k = if z.2.2 ≠ 0 then (noT, z2i q z.2.2) else z5x x lv L (z0r x lv L D) ⟨q.s, z.2.1, q.e⟩ (z04 z.1) k := fun z => rfl
  rw [eH]
  clear enter hh
  generalize z0x q.s (q.f - 1) t = z at *
  obtain ⟨z1, z2, z3⟩ := z
  simp only at ok ⊢
  refine z01 (fun h3 => ?_) (fun h3 => ?_)
  · have h3 : z3 ≠ 0 := by have h3 : (z3 != 0) = true := h3; simpa using h3
    rw [if_pos h3]
    exact zht x lv q z3
  have h3 : z3 = 0 := by have h3 : (z3 != 0) = false := h3; simpa using h3
  subst h3
  rw [if_neg (by simp)]
  obtain ⟨hv, hfz, hz0, hz1⟩ := ok rfl
  have sp := zay hv hfz
  have g : GI C ⟨q.s, z2, q.e⟩ := hg.less hz0 (by omega)
  have hzs := hfz.sz
  have hkids := fun q' t' (a : GI C q') (b : 0 ≤ q'.f) (c : q'.f ≤ z2) (d : t'.sz ≤ B) e => ih q' t' k (by omega) a b d e hk0 (by omega)
  have htm := fun q' t' (a : GI C q') (b : 0 ≤ q'.f) (_ : q'.f ≤ z2) e => z9l hC hL x lv D q' t' k a b e
  have hlam : (z04 z1).1.k = 5 → AC Tryz.prog 63 [aIV, aT (hd (z04 z1).1.l), ci (k + 1)] (oIs x lv L z2 q.e q.s) (aT (z0r x lv L D ⟨q.s, z2, q.e⟩ (hd (z04 z1).1.l) (k + 1)).1) (oIt x lv L (z0r x lv L D ⟨q.s, z2, q.e⟩ (hd (z04 z1).1.l) (k + 1)).2.f (z0r x lv L D ⟨q.s, z2, q.e⟩ (hd (z04 z1).1.l) (k + 1)).2.e (z0r x lv L D ⟨q.s, z2, q.e⟩ (hd (z04 z1).1.l) (k + 1)).2.s) := fun h5 => by
   have hm : hd (z04 z1).1.l ∈ (z04 z1).1.l := by
    have o := z08 _ sp.1.1
    generalize (z04 z1).1 = w at *
    obtain ⟨wk, ws, wn, wl⟩ := w
    obtain ⟨u, hu, _⟩ := okB5 o h5
    have hu : wl = [u] := hu
    subst hu
    exact List.mem_cons_self
   have := sp.2.2.2 _ hm
   exact ih ⟨q.s, z2, q.e⟩ _ (k + 1) (by simp only; omega) g hz0 (by have := this.1; simp only [SZ, B] at *; omega) (fun _ => this.2) (by omega) (by simp only; omega)
  by_cases h6 : z1.k = 6 ∧ z02 z1 = true
  · have esp : z04 z1 = (hd z1.l, z1.l.drop 1) := if_pos h6
    have hcs := zhr z1 (by simp only [SZ, B] at *; omega) h6.1 h6.2
    rw [esp] at sp hlam ⊢
    simp only at sp hlam
    refine .inr ⟨(hd z1.l, z1.l.drop 1), hcs, tree_p (C := C) x lv (by omega) ⟨q.s, z2, q.e⟩ (hd z1.l, z1.l.drop 1) k hk0 (by omega) sp.1.1 sp.1.2.bd hlam _ _ (fun h4 hx hs => ?_) (fun h' hle hs => ?_)⟩
    · rw [hs]
      have hc := zkt hC hL x (lv := lv) g hz0 (by simp only; omega) (by simp only; omega) (hd z1.l).n (z1.l.drop 1) k (by have := sp.2.2.1; simp only [SZ] at this; omega) (fun t ht => ⟨by have := (sp.2.1 t ht).1; simp only [SZ, B] at *; omega, (sp.2.1 t ht).2⟩) hk0 (by omega)
      refine ⟨⟨by trivial, by rw [z00]; omega⟩, ((z33 lv L ⟨q.s, z2, q.e⟩ (hd z1.l).n (z1.l.drop 1) k).1, (z33 lv L ⟨q.s, z2, q.e⟩ (hd z1.l).n (z1.l.drop 1) k).2.s, x, lv, L, (z33 lv L ⟨q.s, z2, q.e⟩ (hd z1.l).n (z1.l.drop 1) k).2.f, (z33 lv L ⟨q.s, z2, q.e⟩ (hd z1.l).n (z1.l.drop 1) k).2.e), ?_, .refl _, rfl⟩
      rw [List.drop_zero, List.take_of_length_le (by rw [z00]; exact Nat.le_refl _)]
      exact hc
    · rw [hs]
      have hh' : h'.l.length ≤ 1000000000 := by
       have h1 := sp.1.2.sz
       have h2 := (hd z1.l).sz_eq
       have h3 := Tm.szs_length (hd z1.l).l
       have hle : h'.l.length ≤ (hd z1.l).l.length := hle
       simp only [SZ] at h1; omega
      exact zmm (C := C) x lv h' (z1.l.drop 1).length (by have := sp.2.2.1; simp only [SZ] at this; omega) hh' htm hkids (z1.l.drop 1) [] ⟨q.s, z2, q.e⟩ (by simp) g hz0 (Int.le_refl _) (fun t ht => ⟨by have := (sp.2.1 t ht).1; simp only [SZ, B] at *; omega, (sp.2.1 t ht).2⟩)
  · have esp : z04 z1 = (z1, []) := if_neg h6
    have hcs := zgk z1 (by simp only [SZ, B] at *; omega) h6
    rw [esp] at sp hlam ⊢
    simp only at sp hlam
    refine .inl ⟨z1, hcs, tree_p (C := C) x lv (by omega) ⟨q.s, z2, q.e⟩ (z1, []) k hk0 (by omega) sp.1.1 sp.1.2.bd hlam _ _ (fun h4 hx hs => ?_) (fun h' hle hs => ?_)⟩
    · rw [hs]
      have hc := zkt hC hL x (lv := lv) g hz0 (by simp only; omega) (by simp only; omega) z1.n [] k (by simp) (fun t ht => nomatch ht) hk0 (by omega)
      exact ⟨((z33 lv L ⟨q.s, z2, q.e⟩ z1.n [] k).1, (z33 lv L ⟨q.s, z2, q.e⟩ z1.n [] k).2.s, x, lv, L, (z33 lv L ⟨q.s, z2, q.e⟩ z1.n [] k).2.f, (z33 lv L ⟨q.s, z2, q.e⟩ z1.n [] k).2.e), hc.args ⟨.refl _, .refl _, .c _ _ (.a _ _ (.fz _ _ z0c)), .refl _, trivial⟩, .refl _, rfl⟩
    · rw [hs]
      have hle : h'.l.length ≤ z1.l.length := hle
      have ha := z3d h' [] (by have h1 := sp.1.2.sz; have h2 := z1.sz_eq; have h3 := Tm.szs_length z1.l; simp only [SZ, List.length_nil] at *; omega)
      refine ⟨rfl, ?_⟩
      obtain ⟨hk', hs', hn', hl'⟩ := h'
      refine RPt.vc hP sh lv63 (Eq.mpr (v63_3a ..) ?_)
      exact z01 (fun h => by cases h) (fun _ => ⟨_, ha.args ⟨.refl _, .c _ _ (.a _ _ (.fz _ _ z0c)), trivial⟩, .refl _, rfl⟩)
end Go.AM

set_option maxRecDepth 100000
open Go Go.Proofs
namespace Go.AM
def z55 (t : Tm) : Bool := z02 t && (t.k == 3 || t.k == 1)
theorem c_ileaf (t : Tm) (hz : t.sz ≤ B) : AC Tryz.prog 62 [aT t] [] (cb (z55 t)) [] := by
 have hv := z2w t hz
 have e : z55 t = (z02 t && (t.k == 3 || t.k == 1)) := rfl
 rw [e]
 generalize z02 t = v at *
 obtain ⟨k, s, n, l⟩ := t
 refine AC.vc hP sh lv62 (Nat.le_refl _) (by simp) (by simp) (Eq.mpr (v62 k s n (FTs l) ..) ?_)
 refine ⟨_, hv, z01 (fun h => z01 (fun h3 => ?_) (fun h3 => ?_)) (fun h => ?_)⟩
 · have h3 : (k == 3) = true := h3
   rw [h, show ((Tm.mk k s n l).k == 3) = true from h3]; exact z06 rfl
 · have h3 : (k == 3) = false := h3
   rw [h, show ((Tm.mk k s n l).k == 3) = false from h3]; exact z06 rfl
 · rw [h]; exact z06 rfl
theorem ztb (t : Tm) (hz : t.sz ≤ B) : AC Tryz.prog 61 [aT t] [] (cb (!z55 t)) [] := by
 have h := c_ileaf t hz
 obtain ⟨k, s, n, l⟩ := t
 refine AC.vc hP sh lv61 (Nat.le_refl _) (by simp) (by simp) (Eq.mpr (v61 k s n (FTs l) ..) ?_)
 exact ⟨_, h, z06 rfl⟩
def z05 (s : Sto) (x : Int) (l : List Tm) (t : Tm) (f : Int) : (Tm × Int × Int) × Sto :=
 if (!inB s.V x || (infOf s.V x).bd || !z02 t || l.any fun u => !z55 u) = true then ((noT, 0, 1), s)
 else if (z0r x (infOf s.V x).lv l f.toNat ⟨s, f, 0⟩ t 0).2.e ≠ 0 then ((noT, 0, (z0r x (infOf s.V x).lv l f.toNat ⟨s, f, 0⟩ t 0).2.e), (z0r x (infOf s.V x).lv l f.toNat ⟨s, f, 0⟩ t 0).2.s)
 else ((z4v l.length (z0r x (infOf s.V x).lv l f.toNat ⟨s, f, 0⟩ t 0).1, (z0r x (infOf s.V x).lv l f.toNat ⟨s, f, 0⟩ t 0).2.f, 0), (z0r x (infOf s.V x).lv l f.toNat ⟨s, f, 0⟩ t 0).2.s)
theorem z9e {t : Tm} (h : z55 t = true) : t.sz = 1 ∧ (t.k = 3 ∨ t.k = 1) ∧ t.l = [] := by
 simp only [z55, Bool.and_eq_true, Bool.or_eq_true, beq_iff_eq] at h
 obtain ⟨k, s, n, l⟩ := t
 have hk : k = 3 ∨ k = 1 := h.2
 have : l = [] := okB0 (z08 _ h.1) (by omega) (by omega)
 subst this
 exact ⟨rfl, hk, rfl⟩
theorem zrf {C : Nat} (hC : C ≤ 1073741824) (s : Sto) (x : Int) (l : List Tm) (t : Tm) (f : Int) (h0 : 0 ≤ f) (hf : f ≤ 900) (hs : OKS s) (hV : s.V.length + f.toNat ≤ C) (hT : s.T.length + f.toNat ≤ C)
  (hl : l.length ≤ 900) (hlz : ∀ u ∈ l, u.sz ≤ B) (hz : t.sz ≤ B) (hfit : z02 t = true → Fit f.toNat t) :
  AC Tryz.prog 18 [aS 0, ci x, aL l, aT t, ci f] (oS s) (aHd (z05 s x l t f).1) (oS' (z05 s x l t f).2) := by
 have hI := z66 s x
 have ho := c_iodd t hz
 have ha := zg6 (fun u => !z55 u) l (by simp only [B]; omega) (fun u hu => ztb u (hlz u hu))
 have eF : z05 s x l t f = if (!inB s.V x || (infOf s.V x).bd || !z02 t || l.any fun u => !z55 u) = true then ((noT, 0, 1), s)
  else if (z0r x (infOf s.V x).lv l f.toNat ⟨s, f, 0⟩ t 0).2.e ≠ 0 then ((noT, 0, (z0r x (infOf s.V x).lv l f.toNat ⟨s, f, 0⟩ t 0).2.e), (z0r x (infOf s.V x).lv l f.toNat ⟨s, f, 0⟩ t 0).2.s)
  else ((z4v l.length (z0r x (infOf s.V x).lv l f.toNat ⟨s, f, 0⟩ t 0).1, (z0r x (infOf s.V x).lv l f.toNat ⟨s, f, 0⟩ t 0).2.f, 0), (z0r x (infOf s.V x).lv l f.toNat ⟨s, f, 0⟩ t 0).2.s) := rfl
 have hterm : (l.any fun u => !z55 u) = false → AC Tryz.prog 63 [aIV, aT t, ci 0] (oIs x (infOf s.V x).lv l f 0 s) (aT (z0r x (infOf s.V x).lv l f.toNat ⟨s, f, 0⟩ t 0).1) (oIt x (infOf s.V x).lv l (z0r x (infOf s.V x).lv l f.toNat ⟨s, f, 0⟩ t 0).2.f (z0r x (infOf s.V x).lv l f.toNat ⟨s, f, 0⟩ t 0).2.e (z0r x (infOf s.V x).lv l f.toNat ⟨s, f, 0⟩ t 0).2.s) := fun h => by
  have hL : LP l := ⟨hl, fun u hu => (z9e (by have := List.any_eq_false.1 h u hu; simpa using this)).1⟩
  exact zrs hC hL x (infOf s.V x).lv f.toNat ⟨s, f, 0⟩ t 0 (Nat.le_refl _) ⟨hs, hV, hT, by simp only; omega, hf⟩ h0 hz (fun _ => hfit) (Int.le_refl _) (by simp only; omega)
 rw [eF]
 generalize infOf s.V x = i at *
 generalize inB s.V x = ib at *
 generalize (l.any fun u => !z55 u) = an at *
 obtain ⟨ilv, ibd, iv⟩ := i
 simp only at hterm ⊢
 generalize z0r x ilv l f.toNat ⟨s, f, 0⟩ t 0 = w at *
 obtain ⟨w1, ws, wf, we⟩ := w
 simp only at hterm ⊢
 generalize z02 t = vt at *
 have bad : (!ib || ibd || !vt || an) = true → (TV.Le (.tup [(true, [.a (.fz (.int .i64 0)), .a (.fz (.str [])), .a (.fz (.int .i64 0)), .a (.fz .nils)]), (false, [.a (.fz (.int .i64 0))]), (false, [.a (.fz (.int .i64 1))])]) (aHd (if (!ib || ibd || !vt || an) = true then ((noT, 0, 1), s) else if we ≠ 0 then ((noT, 0, we), ws) else ((z4v l.length w1, wf, 0), ws)).1) ∧ oS' s = oS' (if (!ib || ibd || !vt || an) = true then ((noT, 0, 1), s) else if we ≠ 0 then ((noT, 0, we), ws) else ((z4v l.length w1, wf, 0), ws)).2) := fun h => by
  rw [if_pos h]; exact ⟨leHd (l := []) z0c, rfl⟩
 obtain ⟨tk, ts, tn, tl⟩ := t
 refine AC.vc hP sh lv18 (by simp) (by simp [isLive]) (by simp [isLive]) (Eq.mpr (v18 x (FTs l) tk ts tn (FTs tl) f ..) ?_)
 refine ⟨(ilv, ibd, iv, ib), hI, z01 (fun h => bad ?_) (fun h => z01 (fun h2 => bad ?_) (fun h2 => ⟨_, ho, z01 (fun h3 => bad ?_) (fun h3 => ⟨_, ha, z01 (fun h4 => bad ?_) (fun h4 => ?_)⟩)⟩))⟩
 · have h : (!ib) = true := h
   rw [h]; rfl
 · have h2 : ibd = true := h2
   rw [h2, Bool.or_true]; rfl
 · rw [h3, Bool.or_true]; rfl
 · have h4 : an = true := h4
   rw [h4, Bool.or_true]
 · have h : (!ib) = false := h
   have h2 : ibd = false := h2
   have h4 : an = false := h4
   rw [h, h2, h3, h4, if_neg (by simp)]
   refine ⟨(w1, ws, x, ilv, l, wf, we), hterm h4, z01 (fun he => ?_) (fun he => ⟨rfl, ?_⟩)⟩
   · have he : we ≠ 0 := by have he : (we != 0) = true := he; simpa using he
     rw [if_pos he]; exact ⟨leHd (l := []) z0c, rfl⟩
   · have he : we = 0 := by have he : (we != 0) = false := he; simpa using he
     rw [if_neg (by simp [he]), z00]
     exact ⟨_, zds l.length w1 (by omega), .refl _, rfl⟩
end Go.AM

set_option maxRecDepth 100000
open Go Go.Proofs
namespace Go.AM
structure SD where
 t : Tm
 h : Tm
 a : List Tm
abbrev cSD (x : SD) : List WV := [.a (.fz (.int .i64 x.t.k)), .a (.fz (.str x.t.s)), .a (.fz (.int .i64 x.t.n)), .a (.fz (.sl false 4 (FTs x.t.l))), .a (.fz (.int .i64 x.h.k)), .a (.fz (.str x.h.s)), .a (.fz (.int .i64 x.h.n)), .a (.fz (.sl false 4 (FTs x.h.l))), .a (.fz (.sl false 4 (FTs x.a)))]
abbrev aSD (x : SD) : TV := .agg (cSD x)
abbrev aSE (z : SD × Int) : TV := .tup [(true, cSD z.1), (false, [.a (.fz (.int .i64 z.2))])]
abbrev aLvE (z : List Tm × Int) : TV := .tup [(false, [.a (.fz (.sl false 4 (FTs z.1)))]), (false, [.a (.fz (.int .i64 z.2))])]
abbrev noSD : SD := ⟨noT, noT, []⟩
theorem leSE {k n k2 n2 e : Int} {s s2 : List UInt8} {x x2 x3 : FV} {l l2 l3 : List Tm} (h : FV.Le x (.sl false 4 (FTs l))) (h2 : FV.Le x2 (.sl false 4 (FTs l2))) (h3 : FV.Le x3 (.sl false 4 (FTs l3))) :
  TV.Le (.tup [(true, [.a (.fz (.int .i64 k)), .a (.fz (.str s)), .a (.fz (.int .i64 n)), .a (.fz x), .a (.fz (.int .i64 k2)), .a (.fz (.str s2)), .a (.fz (.int .i64 n2)), .a (.fz x2), .a (.fz x3)]), (false, [.a (.fz (.int .i64 e))])]) (aSE (⟨.mk k s n l, .mk k2 s2 n2 l2, l3⟩, e)) :=
 zmr ⟨⟨rfl, .refl _, .refl _, .refl _, .a _ _ (.fz _ _ h), .refl _, .refl _, .refl _, .a _ _ (.fz _ _ h2), .a _ _ (.fz _ _ h3), trivial⟩, lwR _, trivial⟩
def zjj (t : Tm) : SD := ⟨t, (z04 t).1, (z04 t).2⟩
def z0q (s : Sto) (f : Int) (t : Tm) : (SD × Int) × Int :=
 if (z0x s f t).2.2 ≠ 0 then ((noSD, (z0x s f t).2.2), f) else ((zjj (z0x s f t).1, 0), (z0x s f t).2.1)
def z03 (s : Sto) (f : Int) (x : SD) : (List Tm × Int) × Int :=
 (((z1e s x.h.n x.a f).1, (z1e s x.h.n x.a f).2.2), if (z1e s x.h.n x.a f).2.2 = 0 then (z1e s x.h.n x.a f).2.1 else f)
abbrev aWk : TV := .c (.a (.ep 0 3 0 0))
theorem zoh (s : Sto) (hs : OKS s) (n : Nat) (R : List (List FV)) (f : Int) (x : SD) (hl0 : x.a.length ≤ 1000000000) (h0 : 0 - 9223372036854775808 ≤ f) (hb : ∀ t ∈ x.a, t.sz ≤ B ∧ (z02 t = true → Fit f.toNat t)) :
  AC Tryz.prog 153 [aWk, aSD x] (oWk s n R f) (aLvE (z03 s f x).1) (oWk s n R (z03 s f x).2) := by
 have hA := zpi s hs x.h.n f x.a hl0 h0 hb
 have e : z03 s f x = (((z1e s x.h.n x.a f).1, (z1e s x.h.n x.a f).2.2), if (z1e s x.h.n x.a f).2.2 = 0 then (z1e s x.h.n x.a f).2.1 else f) := rfl
 rw [e]
 generalize z1e s x.h.n x.a f = z at *
 obtain ⟨ls, g, er⟩ := z
 obtain ⟨⟨tk, ts, tn, tl⟩, ⟨hk, hs', hn, hl⟩, a⟩ := x
 refine AC.vc hP sh lv153 (Nat.le_refl _) (by simp [isLive]) (by simp) (Eq.mpr (v153 tk ts tn (FTs tl) hk hs' hn (FTs hl) (FTs a) ..) ?_)
 refine ⟨(ls, g, er), hA, z01 (fun h => ?_) (fun h => ?_)⟩
 · have h : er = 0 := by have h : (er == 0) = true := h; simpa using h
   subst h
   exact ⟨.refl _, rfl⟩
 · have h : er ≠ 0 := by have h : (er == 0) = false := h; simpa using h
   exact ⟨.refl _, by show _ = oWk s n R (if er = 0 then g else f); rw [if_neg h]⟩
theorem c_ulook (s : Sto) (hs : OKS s) (n : Nat) (R : List (List FV)) (f : Int) (t : Tm) (h0 : 0 - 9223372036854775808 ≤ f) (hz : t.sz ≤ B) (hf : z02 t = true → Fit f.toNat t) (hu : (z0x s f t).1.sz ≤ B) :
  AC Tryz.prog 133 [aWk, aT t] (oWk s n R f) (aSE (z0q s f t).1) (oWk s n R (z0q s f t).2) := by
 have hH := zsb s hs f t h0 hz hf
 have e : z0q s f t = if (z0x s f t).2.2 ≠ 0 then ((noSD, (z0x s f t).2.2), f) else ((zjj (z0x s f t).1, 0), (z0x s f t).2.1) := rfl
 rw [e]
 generalize z0x s f t = z at *
 obtain ⟨u, g, er⟩ := z
 obtain ⟨tk, ts, tn, tl⟩ := t
 refine AC.vc hP sh lv133 (Nat.le_refl _) (by simp [isLive]) (by simp) (Eq.mpr (v133 tk ts tn (FTs tl) ..) ?_)
 refine ⟨(u, g, er), hH, z01 (fun h => ?_) (fun h => ?_)⟩
 · have h : er ≠ 0 := by have h : (er != 0) = true := h; simpa using h
   rw [if_pos h]
   exact ⟨leSE (l := []) (l2 := []) (l3 := []) z0c z0c z0c, rfl⟩
 · have h : er = 0 := by have h : (er != 0) = false := h; simpa using h
   subst h
   rw [if_neg (by simp)]
   by_cases hc : u.k = 6 ∧ z02 u = true
   · refine .inr ⟨(hd u.l, u.l.drop 1), zhr u hu hc.1 hc.2, ⟨rfl, by rw [z00]; omega⟩, ?_⟩
     have es : zjj u = ⟨u, hd u.l, u.l.drop 1⟩ := by unfold zjj z04; rw [if_pos hc]
     rw [es, List.drop_zero, List.take_of_length_le (by rw [z00]; exact Nat.le_refl _)]
     exact ⟨.refl _, rfl⟩
   · refine .inl ⟨u, zgk u hu hc, ?_⟩
     have es : zjj u = ⟨u, u, []⟩ := by unfold zjj z04; rw [if_neg hc]
     rw [es]
     obtain ⟨uk, us, un, ul⟩ := u
     exact ⟨leSE (.refl _) (.refl _) (l3 := []) z0c, rfl⟩
def z4s (s : Sto) (f : Int) (x : Int) (l : List Tm) (t : Tm) : Int × Sto × Int :=
 if (z05 s x l t f).1.2.2 ≠ 0 then ((z05 s x l t f).1.2.2, (z05 s x l t f).2, f)
 else (zfk (z05 s x l t f).2 x (z05 s x l t f).1.1, bindS (z05 s x l t f).2 x (z05 s x l t f).1.1, (z05 s x l t f).1.2.1)
theorem c_ubind (s : Sto) (n : Nat) (R : List (List FV)) (f : Int) (x : SD) (l : List Tm) (t : Tm)
  (hI : AC Tryz.prog 18 [aS 0, ci x.h.n, aL l, aT t, ci f] (oS s) (aHd (z05 s x.h.n l t f).1) (oS' (z05 s x.h.n l t f).2))
  (hB : (z05 s x.h.n l t f).1.2.2 = 0 → AC Tryz.prog 47 [aS 0, ci x.h.n, aT (z05 s x.h.n l t f).1.1] (oS (z05 s x.h.n l t f).2) (ci (zfk (z05 s x.h.n l t f).2 x.h.n (z05 s x.h.n l t f).1.1)) (oS' (bindS (z05 s x.h.n l t f).2 x.h.n (z05 s x.h.n l t f).1.1))) :
  AC Tryz.prog 156 [aWk, aSD x, aL l, aT t] (oWk s n R f) (ci (z4s s f x.h.n l t).1) (oWk' (z4s s f x.h.n l t).2.1 n R (z4s s f x.h.n l t).2.2) := by
 have e : z4s s f x.h.n l t = if (z05 s x.h.n l t f).1.2.2 ≠ 0 then ((z05 s x.h.n l t f).1.2.2, (z05 s x.h.n l t f).2, f)
  else (zfk (z05 s x.h.n l t f).2 x.h.n (z05 s x.h.n l t f).1.1, bindS (z05 s x.h.n l t f).2 x.h.n (z05 s x.h.n l t f).1.1, (z05 s x.h.n l t f).1.2.1) := rfl
 rw [e]
 clear e
 generalize z05 s x.h.n l t f = z at *
 obtain ⟨⟨u, g, er⟩, S⟩ := z
 obtain ⟨⟨xk, xs, xn, xl⟩, ⟨hk, hs', hn, hl⟩, a⟩ := x
 simp only [Tm.n] at hI hB ⊢
 obtain ⟨tk, ts, tn, tl⟩ := t
 refine AC.vc hP sh lv156 (by simp) (by simp [isLive]) (by simp [isLive]) (Eq.mpr (v156 xk xs xn (FTs xl) hk hs' hn (FTs hl) (FTs a) (FTs l) tk ts tn (FTs tl) ..) ?_)
 refine ⟨((u, g, er), S), hI, z01 (fun h => ?_) (fun h => ?_)⟩
 · have h : er ≠ 0 := by have h : (er != 0) = true := h; simpa using h
   rw [if_pos h]
   exact ⟨.refl _, rfl⟩
 · have h : er = 0 := by have h : (er != 0) = false := h; simpa using h
   rw [if_neg (by simp [h])]
   exact ⟨(zfk S hn u, bindS S hn u), hB h, .refl _, rfl⟩
def z0v (s : Sto) (f : Int) (x : SD) (t : Tm) : Int × Sto × Int :=
 if (z03 s f x).1.2 ≠ 0 then ((z03 s f x).1.2, s, (z03 s f x).2) else z4s s (z03 s f x).2 x.h.n (z03 s f x).1.1 t
theorem c_uflex (s : Sto) (n : Nat) (R : List (List FV)) (f : Int) (x y : SD)
  (hL : AC Tryz.prog 153 [aWk, aSD x] (oWk s n R f) (aLvE (z03 s f x).1) (oWk s n R (z03 s f x).2))
  (hB : (z03 s f x).1.2 = 0 → AC Tryz.prog 156 [aWk, aSD x, aL (z03 s f x).1.1, aT y.t] (oWk s n R (z03 s f x).2) (ci (z4s s (z03 s f x).2 x.h.n (z03 s f x).1.1 y.t).1) (oWk' (z4s s (z03 s f x).2 x.h.n (z03 s f x).1.1 y.t).2.1 n R (z4s s (z03 s f x).2 x.h.n (z03 s f x).1.1 y.t).2.2)) :
  AC Tryz.prog 138 [aWk, aSD x, aSD y] (oWk s n R f) (ci (z0v s f x y.t).1) (oWk' (z0v s f x y.t).2.1 n R (z0v s f x y.t).2.2) := by
 have e : z0v s f x y.t = if (z03 s f x).1.2 ≠ 0 then ((z03 s f x).1.2, s, (z03 s f x).2) else z4s s (z03 s f x).2 x.h.n (z03 s f x).1.1 y.t := rfl
 rw [e]
 clear e
 generalize z03 s f x = z at *
 obtain ⟨⟨l, er⟩, g⟩ := z
 replace hB : er = 0 → AC Tryz.prog 156 [aWk, aSD x, aL l, aT y.t] (oWk s n R g) (ci (z4s s g x.h.n l y.t).1) (oWk' (z4s s g x.h.n l y.t).2.1 n R (z4s s g x.h.n l y.t).2.2) := hB
 show AC Tryz.prog 138 [aWk, aSD x, aSD y] (oWk s n R f) (ci (if er ≠ 0 then (er, s, g) else z4s s g x.h.n l y.t).1) (oWk' (if er ≠ 0 then (er, s, g) else z4s s g x.h.n l y.t).2.1 n R (if er ≠ 0 then (er, s, g) else z4s s g x.h.n l y.t).2.2)
 generalize z4s s g x.h.n l y.t = w at *
 obtain ⟨we, ws, wf⟩ := w
 obtain ⟨⟨xk, xs, xn, xl⟩, ⟨hk, hs', hn, hl⟩, a⟩ := x
 obtain ⟨⟨yk, ys, yn, yl⟩, ⟨gk, gs', gn, gl⟩, b⟩ := y
 refine AC.vc hP sh lv138 (by simp) (by simp [isLive]) (by simp [isLive]) (Eq.mpr (v138 xk xs xn (FTs xl) hk hs' hn (FTs hl) (FTs a) yk ys yn (FTs yl) gk gs' gn (FTs gl) (FTs b) ..) ?_)
 refine ⟨(l, er, n, g), hL, z01 (fun h => ?_) (fun h => ?_)⟩
 · have h : er ≠ 0 := by have h : (er != 0) = true := h; simpa using h
   rw [if_pos h]
   exact ⟨.refl _, rfl⟩
 · have h : er = 0 := by have h : (er != 0) = false := h; simpa using h
   rw [if_neg (by simp [h])]
   exact ⟨(we, ws, n, R, wf), hB h, .refl _, rfl⟩
end Go.AM

set_option maxRecDepth 100000
open Go Go.Proofs
namespace Go.AM
def ixB (v : Bool) : List Bool → Nat → Int
 | [], _ => -1
 | t :: l, i => if (v == t) = true then (i : Int) else ixB v l (i + 1)
theorem zpd (v : Bool) : ∀ (l : List Bool) (i : Nat), decide (ixB v l i ≥ 0) = l.any fun t => v == t
 | [], _ => rfl
 | t :: l, i => by
  rw [ixB, List.any_cons]
  split
  · rename_i h; rw [h]; simp
  · rename_i h; rw [zpd v l, show (v == t) = false by simpa using h, Bool.false_or]
theorem BR_mid (a : List Bool) (t : Bool) (b : List Bool) : List.getD (BR (a ++ t :: b)) (Int.toNat (a.length : Int)) [] = [.bool t] := by
 rw [Int.toNat_natCast]; simp [BR, List.getD]
theorem l_indexb (v : Bool) (b : List Bool) : ∀ a : List Bool, (a ++ b).length ≤ B → RPt Tryz.prog 168 0 (ci (ixB v b a.length)) [] 1 ⟨[(0, .c (.a (.fz (.sl false 1 (BR (a ++ b)))))), (1, cb v), (7, ci ((a ++ b).length : Int)), (8, ci (a.length : Int))], [], 0⟩ := by
 induction b with
 | nil =>
  intro a hs
  refine RPt.vc hP sh zt9 (Eq.mpr (zr ..) ?_)
  exact z01 (fun h => absurd (of_decide_eq_true h) (by simp)) (fun _ => z3h rfl)
 | cons t b ihb =>
  intro a hs
  have h2 := ihb (a ++ [t]) (by simpa using hs)
  have hl : (a ++ t :: b).length = a.length + (b.length + 1) := by simp
  rw [List.append_assoc, List.singleton_append, show (a ++ [t]).length = a.length + 1 by simp] at h2
  simp only [B] at hs
  refine RPt.vc hP sh zt9 (Eq.mpr (zr ..) ?_)
  rw [BR_mid, z1t]
  refine z01 (fun _ => ⟨⟨rfl, by omega, by omega, rfl⟩, z01 (fun h => z3h ?_) (fun h => ?_)⟩) (fun h => absurd (of_decide_eq_false h) (by omega))
  · have h : (v == t) = true := h
    rw [ixB, if_pos h]
  · have h : ¬ (v == t) = true := by have h : (v == t) = false := h; simp [h]
    rw [ixB, if_neg h, w64 (x := (a.length : Int) + 1) (by omega) (by omega)]
    exact h2
theorem zjo (v : Bool) (l : List Bool) (hl : l.length ≤ B) : AC Tryz.prog 154 [.c (.a (.fz (.sl false 1 (BR l)))), cb v] [] (cb (l.any fun t => v == t)) [] := by
 have hi : AC Tryz.prog 168 [.c (.a (.fz (.sl false 1 (BR l)))), cb v] [] (ci (ixB v l 0)) [] := by
  refine AC.vc hP sh zt9 (Nat.le_refl _) (by simp) (by simp) (Eq.mpr (v168 ..) ?_)
  rw [z1t]
  exact ⟨rfl, l_indexb v l [] hl⟩
 refine AC.vc hP sh lv154 (Nat.le_refl _) (by simp) (by simp) (Eq.mpr (v154 ..) ?_)
 exact ⟨_, hi, z06 (zpd v l 0)⟩
abbrev fsR (m : Nat) : List (List FV) := List.replicate m [.bool false]
abbrev prS (s : Sto) (n : Nat) (R : List (List FV)) (f : Int) (x : SD) (a b : List Tm) (ks : List Bool) (m : Nat) : St :=
 ⟨[(0, aWk), (4, .c (.a (.ep 8 9 0 0))), (7, aL a), (9, aL b), (10, .c (.a (.osl 9 1 0 a.length))), (41, ci (a.length : Int)), (42, ci (ks.length : Int))],
  [(0, .arr 3 [[.a (.ep 1 2 0 0), .a (.osl 7 8 0 n), .a (.fz (.int .i64 f))]]), (1, sto2 5 6 s), (2, .gone), (3, .gone), (4, .gone), (5, .arz 6 (SR s.V)), (6, .arz 1 (IR s.T)), (7, .arz 8 R), (8, .arr 9 [cSD x]), (9, .arz 1 (BR ks ++ fsR m))], 10⟩
theorem BR_snoc (ks : List Bool) (t : Bool) (m : Nat) : List.set (BR ks ++ fsR (m + 1)) (0 + Int.toNat (ks.length : Int)) [.bool t] = BR (ks ++ [t]) ++ fsR m := by
 rw [Int.toNat_natCast, Nat.zero_add, List.set_append_right (h := by rw [z1t]; exact Nat.le_refl _), z1t, Nat.sub_self]
 simp [BR, List.replicate_succ]
theorem zmq (s : Sto) (n : Nat) (R : List (List FV)) (f : Int) (x : SD) (a b : List Tm) (ha : a.length ≤ 1000000000) (hz : ∀ t ∈ a, t.sz ≤ B) (z : Int × Sto) (K : List Bool)
  (h0 : (K.any fun t => false == t) = false → z = (0, s))
  (h1 : (K.any fun t => false == t) = true → AC Tryz.prog 155 [aS 0, ci x.h.n, .c (.a (.fz (.sl false 1 (BR K))))] (oS s) (ci z.1) (oS' z.2)) :
  ∀ (ra rb pa pb : List Tm), a = pa ++ ra → b = pb ++ rb → pa.length = pb.length → ra.length = rb.length → List.zipWith z1n a b = K →
  RPt Tryz.prog 137 5 (ci z.1) (oWk' z.2 n R f) 3 (prS s n R f x a b (List.zipWith z1n pa pb) ra.length)
 | [], rb, pa, pb, ea, eb, hp, hr, hK => by
  have : rb = [] := List.eq_nil_of_length_eq_zero hr.symm
  subst this
  rw [List.append_nil] at ea eb
  subst ea; subst eb
  have hk : K.length = a.length := by rw [← hK]; simp [hp]
  have hc := zjo false K (by simp only [B]; omega)
  rw [hK]
  have ed : List.take a.length (List.drop 0 (BR K ++ fsR 0)) = BR K := by
   rw [List.drop_zero, show fsR 0 = [] from rfl, List.append_nil, List.take_of_length_le (by rw [z1t]; omega)]
  have hl9 : 0 + a.length ≤ (BR K ++ fsR 0).length := by rw [show fsR 0 = [] from rfl, List.append_nil, z1t]; omega
  obtain ⟨ze, zs⟩ := z
  obtain ⟨⟨xk, xs, xn, xl⟩, ⟨hk', hs', hn, hl⟩, xa⟩ := x
  show RPt Tryz.prog 137 5 (ci ze) (oWk' zs n R f) 3 (prS s n R f ⟨.mk xk xs xn xl, .mk hk' hs' hn hl, xa⟩ a b K 0)
  refine RPt.vc hP sh zq7 (Eq.mpr (zrq ..) ?_)
  refine z01 (fun h => absurd (of_decide_eq_true h) (by omega)) (fun _ => ⟨⟨rfl, hl9⟩, _, by rw [ed]; exact hc, rfl, z01 (fun h => ?_) (fun h => ⟨⟨rfl, hl9⟩, (ze, zs), ?_, .refl _, rfl⟩)⟩)
  · have h : (K.any fun t => false == t) = false := by have h : (!(K.any fun t => false == t)) = true := h; simpa using h
    have e := h0 h
    cases e
    exact ⟨.refl _, rfl⟩
  · have h : (K.any fun t => false == t) = true := by have h : (!(K.any fun t => false == t)) = false := h; simpa using h
    rw [ed]
    exact h1 h
 | t :: ra, [], pa, pb, ea, eb, hp, hr, hK => by cases hr
 | t :: ra, u :: rb, pa, pb, ea, eb, hp, hr, hK => by
  have next := zmq s n R f x a b ha hz z K h0 h1 ra rb (pa ++ [t]) (pb ++ [u]) (by rw [ea]; simp) (by rw [eb]; simp) (by simp [hp]) (by simpa using hr) hK
  have hs := c_same t (hz t (by rw [ea]; simp)) u
  have ezip : List.zipWith z1n (pa ++ [t]) (pb ++ [u]) = List.zipWith z1n pa pb ++ [z1n t u] := by rw [List.zipWith_append hp]; rfl
  have hkl : (List.zipWith z1n pa pb).length = pa.length := by simp [hp]
  have hal : a.length = pa.length + (ra.length + 1) := by rw [ea]; simp
  have hbl : b.length = pb.length + (rb.length + 1) := by rw [eb]; simp
  have hra : ra.length = rb.length := by simpa using hr
  have ema : List.getD (FTs a) (Int.toNat (pa.length : Int)) [] = FT t := by rw [ea]; exact midI pa t ra
  have emb : List.getD (FTs b) (Int.toNat (pa.length : Int)) [] = FT u := by rw [eb, hp]; exact midI pb u rb
  have eaa : aE (List.getD (FTs a) (Int.toNat (pa.length : Int)) []) = aT t := by rw [ea]; exact z39 pa t ra
  have eab : aE (List.getD (FTs b) (Int.toNat (pa.length : Int)) []) = aT u := by rw [eb, hp]; exact z39 pb u rb
  rw [ezip] at next
  unfold prS at next ⊢
  rw [show (List.zipWith z1n pa pb ++ [z1n t u]).length = pa.length + 1 by simp [hp]] at next
  rw [hkl]
  have eset := BR_snoc (List.zipWith z1n pa pb) (z1n t u) ra.length
  rw [hkl] at eset
  obtain ⟨⟨xk, xs, xn, xl⟩, ⟨hk', hs', hn, hl⟩, xa⟩ := x
  refine RPt.vc hP sh zq7 (Eq.mpr (zrq ..) ?_)
  rw [eaa, eab, ema, emb, z00, z00]
  refine z01 (fun _ => ⟨⟨rfl, by omega, by omega, zb7 t⟩, ⟨rfl, by omega, by omega, zb7 u⟩, _, hs, ⟨by omega, by omega⟩, ⟨?_, ?_⟩, ?_⟩) (fun h => absurd (of_decide_eq_false h) (by omega))
  · rw [List.length_append, z1t, hkl]; simp
  · rw [Int.toNat_natCast, Nat.zero_add]; simp [List.getD, BR, hp, List.replicate_succ]
  · rw [w64 (x := (pa.length : Int) + 1) (by omega) (by omega)]
    rw [show (t :: ra).length = ra.length + 1 from rfl, eset]
    exact next
def z1l (s : Sto) (f : Int) (x y : SD) : Int × Sto × Int :=
 if (z03 s f x).1.2 ≠ 0 then ((z03 s f x).1.2, s, (z03 s f x).2)
 else if (z03 s (z03 s f x).2 y).1.2 ≠ 0 then ((z03 s (z03 s f x).2 y).1.2, s, (z03 s (z03 s f x).2 y).2)
 else if (z03 s f x).1.1.length ≠ (z03 s (z03 s f x).2 y).1.1.length then (171, s, (z03 s (z03 s f x).2 y).2)
 else if ((List.zipWith z1n (z03 s f x).1.1 (z03 s (z03 s f x).2 y).1.1).any fun t => false == t) = false then (0, s, (z03 s (z03 s f x).2 y).2)
 else (z7d s x.h.n, z38 s x.h.n (List.zipWith z1n (z03 s f x).1.1 (z03 s (z03 s f x).2 y).1.1), (z03 s (z03 s f x).2 y).2)
theorem c_uprune (s : Sto) (n : Nat) (R : List (List FV)) (f : Int) (x y : SD)
  (hA : AC Tryz.prog 153 [aWk, aSD x] (oWk s n R f) (aLvE (z03 s f x).1) (oWk s n R (z03 s f x).2))
  (hB : (z03 s f x).1.2 = 0 → AC Tryz.prog 153 [aWk, aSD y] (oWk s n R (z03 s f x).2) (aLvE (z03 s (z03 s f x).2 y).1) (oWk s n R (z03 s (z03 s f x).2 y).2))
  (ha : (z03 s f x).1.1.length ≤ 1000000000) (hz : ∀ t ∈ (z03 s f x).1.1, t.sz ≤ B)
  (h1 : ∀ K : List Bool, K.length = (z03 s f x).1.1.length → AC Tryz.prog 155 [aS 0, ci x.h.n, .c (.a (.fz (.sl false 1 (BR K))))] (oS s) (ci (z7d s x.h.n)) (oS' (z38 s x.h.n K))) :
  AC Tryz.prog 137 [aWk, aSD x, aSD y] (oWk s n R f) (ci (z1l s f x y).1) (oWk' (z1l s f x y).2.1 n R (z1l s f x y).2.2) := by
 unfold z1l
 generalize z03 s f x = z at *
 obtain ⟨⟨a, er⟩, g⟩ := z
 replace hB : er = 0 → AC Tryz.prog 153 [aWk, aSD y] (oWk s n R g) (aLvE (z03 s g y).1) (oWk s n R (z03 s g y).2) := hB
 replace ha : a.length ≤ 1000000000 := ha
 replace hz : ∀ t ∈ a, t.sz ≤ B := hz
 replace h1 : ∀ K : List Bool, K.length = a.length → AC Tryz.prog 155 [aS 0, ci x.h.n, .c (.a (.fz (.sl false 1 (BR K))))] (oS s) (ci (z7d s x.h.n)) (oS' (z38 s x.h.n K)) := h1
 dsimp only
 generalize z03 s g y = w at *
 obtain ⟨⟨b, er2⟩, g2⟩ := w
 replace hB : er = 0 → AC Tryz.prog 153 [aWk, aSD y] (oWk s n R g) (aLvE (b, er2)) (oWk s n R g2) := hB
 dsimp only
 have main : a.length = b.length → ∀ z : Int × Sto, (((List.zipWith z1n a b).any fun t => false == t) = false → z = (0, s)) → (((List.zipWith z1n a b).any fun t => false == t) = true → z = (z7d s x.h.n, z38 s x.h.n (List.zipWith z1n a b))) →
   RPt Tryz.prog 137 5 (ci z.1) (oWk' z.2 n R g2) 3 (prS s n R g2 x a b [] a.length) := fun hab z z0 z1 => by
  refine zmq s n R g2 x a b ha hz z _ z0 (fun h => ?_) a b [] [] rfl rfl rfl hab rfl
  rw [z1 h]
  exact h1 _ (by simp [hab])
 obtain ⟨⟨xk, xs, xn, xl⟩, ⟨hk, hs', hn, hl⟩, xa⟩ := x
 obtain ⟨⟨yk, ys, yn, yl⟩, ⟨gk, gs', gn, gl⟩, ya⟩ := y
 refine AC.vc hP sh zq7 (by simp) (by simp [isLive]) (by simp [isLive]) (Eq.mpr (v137 xk xs xn (FTs xl) hk hs' hn (FTs hl) (FTs xa) yk ys yn (FTs yl) gk gs' gn (FTs gl) (FTs ya) ..) ?_)
 refine ⟨(a, er, n, g), hA, z01 (fun h => ?_) (fun h => ?_)⟩
 · have h : er ≠ 0 := by have h : (er != 0) = true := h; simpa using h
   rw [if_pos h]
   exact ⟨.refl _, rfl⟩
 have h : er = 0 := by have h : (er != 0) = false := h; simpa using h
 rw [if_neg (by simp [h])]
 refine ⟨(b, er2, n, g2), hB h, z01 (fun h2 => ?_) (fun h2 => ⟨rfl, rfl, ?_⟩)⟩
 · have h2 : er2 ≠ 0 := by have h2 : (er2 != 0) = true := h2; simpa using h2
   rw [if_pos h2]
   exact ⟨.refl _, rfl⟩
 have h2 : er2 = 0 := by have h2 : (er2 != 0) = false := h2; simpa using h2
 rw [if_neg (by simp [h2]), z00, z00]
 refine z01 (fun h3 => ?_) (fun h3 => ⟨rfl, ⟨rfl, by omega, rfl, by omega, by omega, ?_⟩, rfl, ?_⟩)
 · have h3 : a.length ≠ b.length := by have h3 : ((a.length : Int) != (b.length : Int)) = true := h3; intro q; rw [q] at h3; simp at h3
   rw [if_pos h3]
   exact ⟨.refl _, rfl⟩
 · unfold z0k; rw [Int.toNat_natCast]; dsimp only; omega
 · have h3 : a.length = b.length := by
    have h3 : ((a.length : Int) != (b.length : Int)) = false := h3
    have : (a.length : Int) = (b.length : Int) := by simpa using h3
    omega
   rw [if_neg (by simp [h3]), Int.toNat_natCast]
   split
   · rename_i h4
     exact main h3 (0, s) (fun _ => rfl) (fun q => by rw [q] at h4; cases h4)
   · rename_i h4
     exact main h3 (z7d s hn, z38 s hn (List.zipWith z1n a b)) (fun q => absurd q h4) (fun _ => rfl)
end Go.AM

set_option maxRecDepth 100000
open Go Go.Proofs
namespace Go.AM
def z4m (t : Tm) : Tm := if z02 t = true then (if t.k = 5 then hd t.l else z07 (shT 0 1 t 0) [.mk 3 [] 0 []]) else t
theorem c_ubody (t : Tm) (hz : t.sz ≤ B) (hb : bd M61 t) (hl : (shT 0 1 t 0).l.length + 1 < 2199023255552) : AC Tryz.prog 135 [aT t] [] (aT (z4m t)) [] := by
 have hv := z2w t hz
 have hs := zk0 t 0 1 hz hb (Int.le_refl _) (by simp only [M61]; omega) (by omega) (by simp only [M61]; omega)
 have ha := z3d (shT 0 1 t 0) [.mk 3 [] 0 []] hl
 have ok5 : z02 t = true → t.k = 5 → ∃ u, t.l = [u] := fun h h5 => by
  obtain ⟨k, s, n, l⟩ := t
  obtain ⟨u, hu, _⟩ := okB5 (z08 _ h) h5
  exact ⟨u, hu⟩
 unfold z4m
 generalize z02 t = v at *
 generalize z07 (shT 0 1 t 0) [.mk 3 [] 0 []] = r at *
 generalize shT 0 1 t 0 = w at *
 obtain ⟨k, s, n, l⟩ := t
 refine AC.vc hP sh lv135 (Nat.le_refl _) (by simp) (by simp) (Eq.mpr (v135 k s n (FTs l) ..) ?_)
 refine ⟨_, hv, z01 (fun h => ?_) (fun h => z01 (fun h5 => ?_) (fun h5 => ?_))⟩
 · have h : v = false := by simpa using h
   rw [h, if_neg (by simp)]
   exact ⟨.refl _, rfl⟩
 · have h : v = true := by simpa using h
   have h5 : k = 5 := eq_of_beq h5
   obtain ⟨u, hu⟩ := ok5 h h5
   have hu : l = [u] := hu
   subst hu
   rw [if_pos h, if_pos (show (Tm.mk k s n [u]).k = 5 from h5)]
   refine ⟨el0 u [], ?_, rfl⟩
   rw [show aE (List.getD (FTs [u]) 0 []) = aT u from z39 [] u []]
   exact .refl _
 · have h : v = true := by simpa using h
   have h5 : ¬ k = 5 := by have h5 : (k == 5) = false := h5; simpa using h5
   rw [if_pos h, if_neg (show ¬ (Tm.mk k s n l).k = 5 from h5)]
   exact ⟨w, hs, ⟨rfl, by omega⟩, r, ha.args ⟨.refl _, zi2 (leFT z0c), trivial⟩, .refl _, rfl⟩
theorem zll (x : SD) : AC Tryz.prog 136 [aSD x] [] (cb (x.h.k == 4)) [] := by
 obtain ⟨⟨xk, xs, xn, xl⟩, ⟨hk, hs', hn, hl⟩, a⟩ := x
 refine AC.vc hP sh lv136 (Nat.le_refl _) (by simp) (by simp) (Eq.mpr (v136 xk xs xn (FTs xl) hk hs' hn (FTs hl) (FTs a) ..) ?_)
 exact ⟨.refl _, rfl⟩
end Go.AM

set_option maxRecDepth 100000
open Go Go.Proofs
namespace Go.AM
def z75 (s : Sto) (g : Int) (x y : SD) : (Int × Sto × Int) × List (Tm × Tm) :=
 if x.t.k = 5 ∨ y.t.k = 5 then ((0, s, g), [(z4m x.t, z4m y.t)])
 else if x.h.k = 4 ∧ y.h.k = 4 ∧ x.h.n = y.h.n then (z1l s g x y, [])
 else if x.h.k = 4 then (z0v s g x y.t, [])
 else if y.h.k = 4 then (z0v s g y x.t, [])
 else if z1n x.h y.h = false ∨ x.a.length ≠ y.a.length then ((170, s, g), [])
 else ((0, s, g), x.a.zip y.a)
def z0l (s : Sto) (f : Int) (p : Tm × Tm) : (Int × Sto × Int) × List (Tm × Tm) :=
 if (z0q s f p.1).1.2 ≠ 0 then (((z0q s f p.1).1.2, s, (z0q s f p.1).2), [])
 else if (z0q s (z0q s f p.1).2 p.2).1.2 ≠ 0 then (((z0q s (z0q s f p.1).2 p.2).1.2, s, (z0q s (z0q s f p.1).2 p.2).2), [])
 else z75 s (z0q s (z0q s f p.1).2 p.2).2 (z0q s f p.1).1.1 (z0q s (z0q s f p.1).2 p.2).1.1
abbrev oPa (n : Nat) (R : List (List FV)) (z : (Int × Sto × Int) × List (Tm × Tm)) : List AObj := oWk' z.1.2.1 (n + z.2.length) (stk R n z.2.reverse) z.1.2.2
theorem c_upair (s : Sto) (n : Nat) (R : List (List FV)) (f : Int) (p : Tm × Tm) (hn : n ≤ R.length) (hn2 : n ≤ 500000000000)
  (hX : AC Tryz.prog 133 [aWk, aT p.1] (oWk s n R f) (aSE (z0q s f p.1).1) (oWk s n R (z0q s f p.1).2))
  (hY : (z0q s f p.1).1.2 = 0 → AC Tryz.prog 133 [aWk, aT p.2] (oWk s n R (z0q s f p.1).2) (aSE (z0q s (z0q s f p.1).2 p.2).1) (oWk s n R (z0q s (z0q s f p.1).2 p.2).2))
  (hG : ∀ x y g, (z0q s f p.1).1 = (x, 0) → z0q s (z0q s f p.1).2 p.2 = ((y, 0), g) →
   AC Tryz.prog 135 [aT x.t] [] (aT (z4m x.t)) [] ∧ AC Tryz.prog 135 [aT y.t] [] (aT (z4m y.t)) [] ∧ x.h.sz ≤ B ∧ x.a.length ≤ 1000000000 ∧
   (y.h.k = 4 → AC Tryz.prog 137 [aWk, aSD x, aSD y] (oWk s n R g) (ci (z1l s g x y).1) (oWk' (z1l s g x y).2.1 n R (z1l s g x y).2.2)) ∧
   (x.h.k = 4 → AC Tryz.prog 138 [aWk, aSD x, aSD y] (oWk s n R g) (ci (z0v s g x y.t).1) (oWk' (z0v s g x y.t).2.1 n R (z0v s g x y.t).2.2)) ∧
   (y.h.k = 4 → AC Tryz.prog 138 [aWk, aSD y, aSD x] (oWk s n R g) (ci (z0v s g y x.t).1) (oWk' (z0v s g y x.t).2.1 n R (z0v s g y x.t).2.2))) :
  AC Tryz.prog 109 [aWk, .agg [.a (.fz (.int .i64 p.1.k)), .a (.fz (.str p.1.s)), .a (.fz (.int .i64 p.1.n)), .a (.fz (.sl false 4 (FTs p.1.l))), .a (.fz (.int .i64 p.2.k)), .a (.fz (.str p.2.s)), .a (.fz (.int .i64 p.2.n)), .a (.fz (.sl false 4 (FTs p.2.l)))]] (oWk s n R f) (ci (z0l s f p).1.1) (oPa n R (z0l s f p)) := by
 unfold z0l
 generalize z0q s f p.1 = zx at *
 obtain ⟨⟨x, e1⟩, g1⟩ := zx
 dsimp only at hX hY hG ⊢
 generalize z0q s g1 p.2 = zy at *
 obtain ⟨⟨y, e2⟩, g⟩ := zy
 dsimp only at hX hY hG ⊢
 obtain ⟨⟨ak, a2, an, al⟩, ⟨bk, bs, bn, bl⟩⟩ := p
 refine AC.vc hP sh lv109 (by simp) (by simp [isLive]) (by simp [isLive]) (Eq.mpr (v109 ak a2 an (FTs al) bk bs bn (FTs bl) ..) ?_)
 refine ⟨(x.t, x.h, x.a, e1, n, g1), hX, z01 (fun h => ?_) (fun h => ?_)⟩
 · have h : e1 ≠ 0 := by have h : (e1 != 0) = true := h; simpa using h
   rw [if_pos h]
   exact ⟨.refl _, rfl⟩
 have h : e1 = 0 := by have h : (e1 != 0) = false := h; simpa using h
 subst h
 rw [if_neg (by simp)]
 refine ⟨(y.t, y.h, y.a, e2, n, g), hY rfl, z01 (fun h => ?_) (fun h => ?_)⟩
 · have h : e2 ≠ 0 := by have h : (e2 != 0) = true := h; simpa using h
   rw [if_pos h]
   exact ⟨.refl _, rfl⟩
 have h : e2 = 0 := by have h : (e2 != 0) = false := h; simpa using h
 subst h
 rw [if_neg (by simp)]
 obtain ⟨bx, by_, hxz, hxl, pr, fx, fy⟩ := hG x y g rfl rfl
 clear hX hY hG
 have hs := c_same x.h hxz y.h
 have ux := zll x
 have uy := zll y
 have push1 := zot s n R g [z4m x.t] [z4m y.t] rfl hn (by simp only [List.length_cons, List.length_nil]; omega)
 have q4 : ∀ t : Tm, aL [t] = .c (.a (.fz (.sl false 4 [FT4 t]))) := fun t => by rw [z5w]; rfl
 rw [q4, q4] at push1
 have body : z75 s g x y = ((0, s, g), [(z4m x.t, z4m y.t)]) → TV.Le (.c (.a (.fz (.int .i64 0)))) (ci (z75 s g x y).1.1) ∧ oWk' s (n + [z4m x.t].length) (stk R n ([z4m x.t].zip [z4m y.t]).reverse) g = oPa n R (z75 s g x y) := fun e => by
  rw [e]; exact ⟨.refl _, rfl⟩
 refine z01 (fun h5 => ?_) (fun h5 => z01 (fun h6 => ?_) (fun h6 => ?_))
 · have h5 : x.t.k = 5 := eq_of_beq h5
   exact ⟨_, bx, _, by_, ⟨rfl, Nat.le_refl _⟩, ⟨rfl, Nat.le_refl _⟩, (s, n + 1, stk R n [(z4m x.t, z4m y.t)], g), push1, body (by unfold z75; rw [if_pos (.inl h5)])⟩
 · have h6 : y.t.k = 5 := eq_of_beq h6
   exact ⟨_, bx, _, by_, ⟨rfl, Nat.le_refl _⟩, ⟨rfl, Nat.le_refl _⟩, (s, n + 1, stk R n [(z4m x.t, z4m y.t)], g), push1, body (by unfold z75; rw [if_pos (.inr h6)])⟩
 have h5 : ¬ x.t.k = 5 := by have h5 : (x.t.k == 5) = false := h5; simpa using h5
 have h6 : ¬ y.t.k = 5 := by have h6 : (y.t.k == 5) = false := h6; simpa using h6
 have e0 : z75 s g x y = if x.h.k = 4 ∧ y.h.k = 4 ∧ x.h.n = y.h.n then (z1l s g x y, [])
   else if x.h.k = 4 then (z0v s g x y.t, [])
   else if y.h.k = 4 then (z0v s g y x.t, [])
   else if z1n x.h y.h = false ∨ x.a.length ≠ y.a.length then ((170, s, g), [])
   else ((0, s, g), x.a.zip y.a) := by unfold z75; rw [if_neg (by simp [h5, h6])]
 clear body push1
 have one : ∀ z : Int × Sto × Int, z75 s g x y = (z, []) → TV.Le (ci z.1) (ci (z75 s g x y).1.1) ∧ oWk' z.2.1 n R z.2.2 = oPa n R (z75 s g x y) := fun z e => by
  rw [e]; exact ⟨.refl _, rfl⟩
 refine ⟨_, ux, z01 (fun hx => ?_) (fun hx => ?_)⟩
 · have hx4 : x.h.k = 4 := eq_of_beq hx
   have flex : ¬ (y.h.k = 4 ∧ x.h.n = y.h.n) → z75 s g x y = (z0v s g x y.t, []) := fun q => by
    rw [e0, if_neg (fun r => q r.2), if_pos hx4]
   refine ⟨_, uy, z01 (fun hy => z01 (fun hN => ?_) (fun hN => ?_)) (fun hy => ?_)⟩
   · have hy4 : y.h.k = 4 := eq_of_beq hy
     have hN : x.h.n = y.h.n := eq_of_beq hN
     exact ⟨((z1l s g x y).1, (z1l s g x y).2.1, n, R, (z1l s g x y).2.2), pr hy4, one (z1l s g x y) (by rw [e0, if_pos ⟨hx4, hy4, hN⟩])⟩
   · have hN : ¬ x.h.n = y.h.n := by have hN : (x.h.n == y.h.n) = false := hN; simpa using hN
     exact ⟨_, ux, z01 (fun _ => ⟨((z0v s g x y.t).1, (z0v s g x y.t).2.1, n, R, (z0v s g x y.t).2.2), fx hx4, one (z0v s g x y.t) (flex (fun q => hN q.2))⟩) (fun q => absurd (hx.symm.trans q) (by simp))⟩
   · have hy4 : ¬ y.h.k = 4 := by have hy : (y.h.k == 4) = false := hy; simpa using hy
     exact ⟨_, ux, z01 (fun _ => ⟨((z0v s g x y.t).1, (z0v s g x y.t).2.1, n, R, (z0v s g x y.t).2.2), fx hx4, one (z0v s g x y.t) (flex (fun q => hy4 q.1))⟩) (fun q => absurd (hx.symm.trans q) (by simp))⟩
 · have hx4 : ¬ x.h.k = 4 := by have hx : (x.h.k == 4) = false := hx; simpa using hx
   refine ⟨_, ux, z01 (fun q => absurd (hx.symm.trans q) (by simp)) (fun _ => ⟨_, uy, z01 (fun hy => ?_) (fun hy => ⟨_, hs, z01 (fun hq => ?_) (fun hq => ⟨rfl, rfl, ?_⟩)⟩)⟩)⟩
   · have hy4 : y.h.k = 4 := eq_of_beq hy
     exact ⟨((z0v s g y x.t).1, (z0v s g y x.t).2.1, n, R, (z0v s g y x.t).2.2), fy hy4, one (z0v s g y x.t) (by rw [e0, if_neg (fun q => hx4 q.1), if_neg hx4, if_pos hy4])⟩
   · have hy4 : ¬ y.h.k = 4 := by have hy : (y.h.k == 4) = false := hy; simpa using hy
     have hq : z1n x.h y.h = false := by have hq : (!z1n x.h y.h) = true := hq; simpa using hq
     exact one (170, s, g) (by rw [e0, if_neg (fun q => hx4 q.1), if_neg hx4, if_neg hy4, if_pos (.inl hq)])
   · have hy4 : ¬ y.h.k = 4 := by have hy : (y.h.k == 4) = false := hy; simpa using hy
     have hq : z1n x.h y.h = true := by have hq : (!z1n x.h y.h) = false := hq; simpa using hq
     rw [z00, z00]
     refine z01 (fun hl => ?_) (fun hl => ?_)
     · have hl : x.a.length ≠ y.a.length := by have hl : ((x.a.length : Int) != (y.a.length : Int)) = true := hl; intro q; rw [q] at hl; simp at hl
       exact one (170, s, g) (by rw [e0, if_neg (fun q => hx4 q.1), if_neg hx4, if_neg hy4, if_pos (.inr hl)])
     · have hl : x.a.length = y.a.length := by
        have hl : ((x.a.length : Int) != (y.a.length : Int)) = false := hl
        have : (x.a.length : Int) = (y.a.length : Int) := by simpa using hl
        omega
       have e1 : z75 s g x y = ((0, s, g), x.a.zip y.a) := by rw [e0, if_neg (fun q => hx4 q.1), if_neg hx4, if_neg hy4, if_neg (by simp [hq, hl])]
       refine ⟨(s, n + x.a.length, stk R n (x.a.zip y.a).reverse, g), zot s n R g x.a y.a hl hn (by omega), ?_⟩
       rw [e1]
       refine ⟨.refl _, ?_⟩
       show _ = oWk' s (n + (x.a.zip y.a).length) (stk R n (x.a.zip y.a).reverse) g
       rw [show (x.a.zip y.a).length = x.a.length by simp [hl]]
end Go.AM

set_option maxRecDepth 100000
open Go Go.Proofs
namespace Go.AM
def runW : Nat → Sto → Int → List (Tm × Tm) → Int × Sto × Int
 | _, s, f, [] => (0, s, f)
 | 0, s, f, _ :: _ => (80, s, f)
 | F + 1, s, f, p :: st =>
  if f ≤ 0 then (80, s, f)
  else if (z0l s (f - 1) p).1.1 ≠ 0 then (z0l s (f - 1) p).1
  else runW F (z0l s (f - 1) p).1.2.1 (z0l s (f - 1) p).1.2.2 ((z0l s (f - 1) p).2 ++ st)
abbrev ruS (s : Sto) (n : Nat) (R : List (List FV)) (f : Int) : St :=
 ⟨[(0, aWk)], [(0, .arr 3 [[.a (.ep 1 2 0 0), .a (.osl 7 8 0 n), .a (.fz (.int .i64 f))]]), (1, sto2 5 6 s), (2, .gone), (3, .gone), (4, .gone), (5, .arz 6 (SR s.V)), (6, .arz 1 (IR s.T)), (7, .arz 8 R)], 8⟩
theorem take_top {R A : List (List FV)} {x : List FV} {m : Nat} (hA : A.length = m) (h : R.take (m + 1) = A ++ [x]) : List.getD R m [] = x ∧ R.take m = A ∧ m < R.length := by
 have hl : (R.take (m + 1)).length = m + 1 := by rw [h]; simp [hA]
 have hm : m < R.length := by rw [List.length_take] at hl; omega
 refine ⟨?_, ?_, hm⟩
 · have : (R.take (m + 1))[m]? = some x := by rw [h, ← hA]; simp
   rw [List.getElem?_take_of_lt (by omega)] at this
   simp [List.getD, this]
 · have : (R.take (m + 1)).take m = A := by rw [h, ← hA]; simp
   rw [List.take_take, Nat.min_eq_left (by omega)] at this
   exact this
abbrev aPr (p : Tm × Tm) : TV := .agg [.a (.fz (.int .i64 p.1.k)), .a (.fz (.str p.1.s)), .a (.fz (.int .i64 p.1.n)), .a (.fz (.sl false 4 (FTs p.1.l))), .a (.fz (.int .i64 p.2.k)), .a (.fz (.str p.2.s)), .a (.fz (.int .i64 p.2.n)), .a (.fz (.sl false 4 (FTs p.2.l)))]
theorem l_urun {I : Sto → Int → List (Tm × Tm) → Prop} (hsm : ∀ s f st, I s f st → st.length ≤ 500000000000 ∧ f ≤ 1000000000)
  (hpair : ∀ s f p st n R, I s f (p :: st) → 0 < f → n ≤ R.length → n = st.length → AC Tryz.prog 109 [aWk, aPr p] (oWk s n R (f - 1)) (ci (z0l s (f - 1) p).1.1) (oPa n R (z0l s (f - 1) p)))
  (hnext : ∀ s f p st, I s f (p :: st) → 0 < f → (z0l s (f - 1) p).1.1 = 0 → I (z0l s (f - 1) p).1.2.1 (z0l s (f - 1) p).1.2.2 ((z0l s (f - 1) p).2 ++ st) ∧ (z0l s (f - 1) p).1.2.2 ≤ f - 1) :
  ∀ (F : Nat) (s : Sto) (f : Int) (st : List (Tm × Tm)) (R : List (List FV)), f.toNat ≤ F → I s f st → R.take st.length = PTs st.reverse →
  ∃ n' R', RPt Tryz.prog 76 5 (ci (runW F s f st).1) (oWk' (runW F s f st).2.1 n' R' (runW F s f st).2.2) 1 (ruS s st.length R f)
 | F, s, f, [], R, hF, hI, hR => by
  refine ⟨0, R, ?_⟩
  have e : runW F s f [] = (0, s, f) := by cases F <;> rfl
  rw [e]
  refine RPt.vc hP sh z7r (Eq.mpr (z88 ..) ?_)
  exact z01 (fun h => absurd (of_decide_eq_true h) (by simp)) (fun _ => ⟨.refl _, rfl⟩)
 | F, s, f, p :: st, R, hF, hI, hR => by
  have hs := hsm s f _ hI
  simp only [List.length_cons] at hs
  rw [List.reverse_cons, z6r] at hR
  obtain ⟨t1, t2, t3⟩ := take_top (m := st.length) (A := PTs st.reverse) (x := FPr p) (by simp [z5k]) hR
  have ew : IntKind.wrap .i64 ((((p :: st).length : Nat) : Int) - 1) = (st.length : Int) := by
   rw [List.length_cons, w64 (by omega) (by omega)]; omega
  have ep : List.getD R (0 + (st.length : Int).toNat) [] = FPr p := by rw [Int.toNat_natCast, Nat.zero_add]; exact t1
  by_cases hf : f ≤ 0
  · have e : runW F s f (p :: st) = (80, s, f) := by
     cases F with
     | zero => rfl
     | succ F => rw [runW, if_pos hf]
    refine ⟨st.length, R, ?_⟩
    rw [e]
    obtain ⟨⟨ak, a2, an, al⟩, ⟨bk, bs, bn, bl⟩⟩ := p
    refine RPt.vc hP sh z7r (Eq.mpr (z88 ..) ?_)
    rw [ew, ep]
    refine z01 (fun _ => ⟨⟨by omega, by simp only [List.length_cons]; omega⟩, ⟨by rw [Int.toNat_natCast]; omega, rfl, rfl⟩, ⟨Int.le_refl _, by omega, by simp only [List.length_cons]; omega⟩, z01 (fun _ => ⟨.refl _, by rw [Int.toNat_natCast]⟩) (fun h => absurd (of_decide_eq_false h) (by omega))⟩) (fun h => absurd (of_decide_eq_false h) (by simp only [List.length_cons]; omega))
  · cases F with
    | zero => omega
    | succ F =>
     have hp := hpair s f p st st.length R hI (by omega) (by omega) rfl
     have hn := hnext s f p st hI (by omega)
     have e : runW (F + 1) s f (p :: st) = if (z0l s (f - 1) p).1.1 ≠ 0 then (z0l s (f - 1) p).1 else runW F (z0l s (f - 1) p).1.2.1 (z0l s (f - 1) p).1.2.2 ((z0l s (f - 1) p).2 ++ st) := by rw [runW, if_neg hf]
     have next : (z0l s (f - 1) p).1.1 = 0 → ∃ n' R', RPt Tryz.prog 76 5 (ci (runW F (z0l s (f - 1) p).1.2.1 (z0l s (f - 1) p).1.2.2 ((z0l s (f - 1) p).2 ++ st)).1) (oWk' (runW F (z0l s (f - 1) p).1.2.1 (z0l s (f - 1) p).1.2.2 ((z0l s (f - 1) p).2 ++ st)).2.1 n' R' (runW F (z0l s (f - 1) p).1.2.1 (z0l s (f - 1) p).1.2.2 ((z0l s (f - 1) p).2 ++ st)).2.2) 1
       (ruS (z0l s (f - 1) p).1.2.1 (st.length + (z0l s (f - 1) p).2.length) (stk R st.length (z0l s (f - 1) p).2.reverse) (z0l s (f - 1) p).1.2.2) := fun h0 => by
      have hn := hn h0
      have hd := zkj (n := st.length) (R := R) (by omega) (z0l s (f - 1) p).2.reverse
      rw [List.length_reverse, t2] at hd
      have := l_urun hsm hpair hnext F (z0l s (f - 1) p).1.2.1 (z0l s (f - 1) p).1.2.2 ((z0l s (f - 1) p).2 ++ st) (stk R st.length (z0l s (f - 1) p).2.reverse) (by omega) hn.1 (by rw [List.length_append, Nat.add_comm, hd.2, List.reverse_append, z6r])
      rw [List.length_append, Nat.add_comm] at this
      exact this
     rw [e]
     clear e hn
     generalize z0l s (f - 1) p = q at *
     obtain ⟨⟨qe, qs, qf⟩, qp⟩ := q
     dsimp only at next ⊢
     by_cases h0 : qe = 0
     · rw [if_neg (by simp [h0])]
       obtain ⟨n', R', hr⟩ := next h0
       refine ⟨n', R', ?_⟩
       obtain ⟨⟨ak, a2, an, al⟩, ⟨bk, bs, bn, bl⟩⟩ := p
       refine RPt.vc hP sh z7r (Eq.mpr (z88 ..) ?_)
       rw [ew, ep, w64 (x := f - 1) (by omega) (by omega), Int.toNat_natCast]
       refine z01 (fun _ => ⟨⟨by omega, by simp only [List.length_cons]; omega⟩, ⟨by omega, rfl, rfl⟩, ⟨Int.le_refl _, by omega, by simp only [List.length_cons]; omega⟩, z01 (fun h => absurd (of_decide_eq_true h) (by omega)) (fun _ => ⟨(qe, qs, st.length + qp.length, stk R st.length qp.reverse, qf), hp, z01 (fun h => absurd h0 (by have h : (qe != 0) = true := h; simpa using h)) (fun _ => hr)⟩)⟩) (fun h => absurd (of_decide_eq_false h) (by simp only [List.length_cons]; omega))
     · rw [if_pos h0]
       refine ⟨st.length + qp.length, stk R st.length qp.reverse, ?_⟩
       obtain ⟨⟨ak, a2, an, al⟩, ⟨bk, bs, bn, bl⟩⟩ := p
       refine RPt.vc hP sh z7r (Eq.mpr (z88 ..) ?_)
       rw [ew, ep, w64 (x := f - 1) (by omega) (by omega), Int.toNat_natCast]
       refine z01 (fun _ => ⟨⟨by omega, by simp only [List.length_cons]; omega⟩, ⟨by omega, rfl, rfl⟩, ⟨Int.le_refl _, by omega, by simp only [List.length_cons]; omega⟩, z01 (fun h => absurd (of_decide_eq_true h) (by omega)) (fun _ => ⟨(qe, qs, st.length + qp.length, stk R st.length qp.reverse, qf), hp, z01 (fun _ => ⟨.refl _, rfl⟩) (fun h => absurd (by have h : (qe != 0) = false := h; simpa using h) h0)⟩)⟩) (fun h => absurd (of_decide_eq_false h) (by simp only [List.length_cons]; omega))
end Go.AM

set_option maxRecDepth 100000
open Go Go.Proofs
namespace Go.AM
def badP (p : Tm × Tm) : Bool := !z02 p.1 || !z02 p.2
theorem c_uall1 (p : Tm × Tm) (h1 : p.1.sz ≤ B) (h2 : p.2.sz ≤ B) : AC Tryz.prog 74 [aPr p] [] (cb (badP p)) [] := by
 have v1 := z2w p.1 h1
 have v2 := z2w p.2 h2
 unfold badP
 obtain ⟨a, b⟩ := p
 dsimp only at v1 v2 ⊢
 generalize z02 a = x at *
 generalize z02 b = y at *
 obtain ⟨ak, a2, an, al⟩ := a
 obtain ⟨bk, bs, bn, bl⟩ := b
 refine AC.vc hP sh lv74 (Nat.le_refl _) (by simp) (by simp) (Eq.mpr (v74 ak a2 an (FTs al) bk bs bn (FTs bl) ..) ?_)
 refine ⟨_, v1, z01 (fun h => ?_) (fun h => ⟨_, v2, ?_⟩)⟩
 · have h : (!x) = true := h
   rw [h]; exact z06 rfl
 · have h : (!x) = false := h
   rw [h, Bool.false_or]; exact z06 rfl
def ixP (q : Tm × Tm → Bool) : List (Tm × Tm) → Nat → Int
 | [], _ => -1
 | t :: l, i => if q t = true then (i : Int) else ixP q l (i + 1)
theorem zoy (q : Tm × Tm → Bool) : ∀ (l : List (Tm × Tm)) (i : Nat), decide (ixP q l i ≥ 0) = l.any q
 | [], _ => rfl
 | t :: l, i => by
  rw [ixP, List.any_cons]
  split
  · rename_i h; rw [h]; simp
  · rename_i h; rw [zoy q l, show q t = false by simpa using h, Bool.false_or]
theorem PTs_mid (a : List (Tm × Tm)) (t : Tm × Tm) (b : List (Tm × Tm)) : List.getD (PTs (a ++ t :: b)) (Int.toNat (a.length : Int)) [] = FPr t := by
 rw [Int.toNat_natCast]; simp [PTs, List.getD]
theorem l_idxp (b : List (Tm × Tm)) : ∀ a : List (Tm × Tm), (a ++ b).length ≤ B → (∀ p ∈ b, p.1.sz ≤ B ∧ p.2.sz ≤ B) → RPt Tryz.prog 107 0 (ci (ixP badP b a.length)) [] 1 ⟨[(0, .c (.a (.fz (.sl false 8 (PTs (a ++ b)))))), (1, .c (.fn (.func 74) [] [])), (7, ci ((a ++ b).length : Int)), (8, ci (a.length : Int))], [], 0⟩ := by
 induction b with
 | nil =>
  intro a hs _
  refine RPt.vc hP sh zrg (Eq.mpr (zbv ..) ?_)
  exact z01 (fun h => absurd (of_decide_eq_true h) (by simp)) (fun _ => z3h rfl)
 | cons t b ihb =>
  intro a hs hz
  have h2 := ihb (a ++ [t]) (by simpa using hs) (fun p hp => hz p (List.mem_cons_of_mem _ hp))
  have hl : (a ++ t :: b).length = a.length + (b.length + 1) := by simp
  rw [List.append_assoc, List.singleton_append, show (a ++ [t]).length = a.length + 1 by simp] at h2
  simp only [B] at hs
  have h1 := c_uall1 t (hz t List.mem_cons_self).1 (hz t List.mem_cons_self).2
  have hm := PTs_mid a t b
  have ei : ixP badP (t :: b) a.length = if badP t = true then (a.length : Int) else ixP badP b (a.length + 1) := rfl
  rw [ei]
  generalize badP t = bp at *
  obtain ⟨⟨ak, a2, an, al⟩, ⟨bk, bs, bn, bl⟩⟩ := t
  refine RPt.vc hP sh zrg (Eq.mpr (zbv ..) ?_)
  rw [hm, z5k, w64 (x := (a.length : Int) + 1) (by omega) (by omega)]
  refine z01 (fun _ => ⟨⟨rfl, by omega, by omega, rfl⟩, bp, h1, z01 (fun h => ?_) (fun h => ?_)⟩) (fun h => absurd (of_decide_eq_false h) (by omega))
  · rw [if_pos h]; exact z3h rfl
  · rw [if_neg (by rw [h]; simp)]; exact h2
theorem c_anyp (l : List (Tm × Tm)) (hl : l.length ≤ B) (hz : ∀ p ∈ l, p.1.sz ≤ B ∧ p.2.sz ≤ B) : AC Tryz.prog 73 [.c (.a (.fz (.sl false 8 (PTs l)))), .c (.fn (.func 74) [] [])] [] (cb (l.any badP)) [] := by
 have hi : AC Tryz.prog 107 [.c (.a (.fz (.sl false 8 (PTs l)))), .c (.fn (.func 74) [] [])] [] (ci (ixP badP l 0)) [] := by
  have := l_idxp l [] hl hz
  refine AC.vc hP sh zrg (Nat.le_refl _) (by simp) (by simp) (Eq.mpr (v107_F74 ..) ?_)
  rw [z5k]
  exact ⟨rfl, this⟩
 refine AC.vc hP sh lv73 (Nat.le_refl _) (by simp) (by simp) (Eq.mpr (v73_F74 ..) ?_)
 exact ⟨_, hi, z06 (zoy badP l 0)⟩
theorem c_urun0 (s : Sto) (f : Int) : AC Tryz.prog 76 [aWk] [.arr 3 [[.a (.ep 1 2 0 0), .a (.fz .nils), .a (.fz (.int .i64 f))]], sto2 2 3 s, .arz 6 (SR s.V), .arz 1 (IR s.T)] (ci 0) [.arr 3 [[.a (.ep 1 2 0 0), .a (.fz .nils), .a (.fz (.int .i64 f))]], sto2 4 5 s, .gone, .gone, .arz 6 (SR s.V), .arz 1 (IR s.T)] := by
 refine AC.vc hP sh lv76 (by simp) (by simp [isLive]) (by simp [isLive]) (Eq.mpr (v76 ..) ?_)
 refine RPt.vc hP sh lv76 (Eq.mpr (v76_1a ..) ?_)
 exact ⟨rfl, .refl _, rfl⟩
end Go.AM

set_option maxRecDepth 100000
open Go Go.Proofs
namespace Go.AM
abbrev aE2 (z : Int × Int) : TV := .tup [(false, [.a (.fz (.int .i64 z.1))]), (false, [.a (.fz (.int .i64 z.2))])]
def allF (s : Sto) (l : List (Tm × Tm)) (f : Int) : (Int × Int) × Sto :=
 if l.any badP = true then ((0, 1), s)
 else if (runW f.toNat s f l).1 ≠ 0 then ((0, (runW f.toNat s f l).1), z9s (runW f.toNat s f l).2.1 s.T.length s.V.length)
 else (((runW f.toNat s f l).2.2, 0), (runW f.toNat s f l).2.1)
abbrev alH (s : Sto) (f : Int) (l : List (Tm × Tm)) (i : Nat) : AHeap :=
 if i = l.length then [(0, sto2 9 10 s), (1, .gone), (2, .gone), (3, .gone), (4, .gone), (5, .arr 2 [[.a (.fz (.int .i64 (s.T.length : Int))), .a (.fz (.int .i64 (s.V.length : Int)))]]), (6, .arr 1 [[.a (.ep 7 3 0 0)]]), (7, .arr 3 [[.a (.ep 0 2 0 0), .a (.fz .nils), .a (.fz (.int .i64 f))]]), (8, .arr 1 [[.a (.fz (.sl false 8 (PTs l)))]]), (9, .arz 6 (SR s.V)), (10, .arz 1 (IR s.T))]
 else [(0, sto2 9 10 s), (1, .gone), (2, .gone), (3, .gone), (4, .gone), (5, .arr 2 [[.a (.fz (.int .i64 (s.T.length : Int))), .a (.fz (.int .i64 (s.V.length : Int)))]]), (6, .arr 1 [[.a (.ep 7 3 0 0)]]), (7, .arr 3 [[.a (.ep 0 2 0 0), .a (.osl 11 8 0 (l.length - i)), .a (.fz (.int .i64 f))]]), (8, .arr 1 [[.a (.fz (.sl false 8 (PTs l)))]]), (9, .arz 6 (SR s.V)), (10, .arz 1 (IR s.T)), (11, .arz 8 (PTs (l.drop i).reverse))]
theorem c_uall (s : Sto) (l : List (Tm × Tm)) (f : Int) (hl : l.length ≤ 1000000000) (hz : ∀ p ∈ l, p.1.sz ≤ B ∧ p.2.sz ≤ B)
  (hrun : l.any badP = false → l ≠ [] → ∃ n' R', AC Tryz.prog 76 [aWk] (oWk s l.length (PTs l.reverse) f) (ci (runW f.toNat s f l).1) (oWk' (runW f.toNat s f l).2.1 n' R' (runW f.toNat s f l).2.2))
  (hundo : l.any badP = false → (runW f.toNat s f l).1 ≠ 0 → AC Tryz.prog 72 [aS 0, .agg [.a (.fz (.int .i64 (s.T.length : Int))), .a (.fz (.int .i64 (s.V.length : Int)))]] (oS (runW f.toNat s f l).2.1) (.tup []) (oS' (z9s (runW f.toNat s f l).2.1 s.T.length s.V.length))) :
  AC Tryz.prog 36 [aS 0, .c (.a (.fz (.sl false 8 (PTs l)))), ci f] (oS s) (aE2 (allF s l f).1) (oS' (allF s l f).2) := by
 have hany := c_anyp l (by simp only [B]; omega) hz
 have hm := zke s
 refine AC.vc hP sh lv36 (by simp) (by simp [isLive]) (by simp [isLive]) (Eq.mpr (v36 (PTs l) f ..) ?_)
 refine ⟨_, hany, z01 (fun h => ?_) (fun h => ?_)⟩
 · have e : allF s l f = ((0, 1), s) := by unfold allF; rw [if_pos h]
   rw [e]; exact ⟨.refl _, rfl⟩
 have ea : allF s l f = if (runW f.toNat s f l).1 ≠ 0 then ((0, (runW f.toNat s f l).1), z9s (runW f.toNat s f l).2.1 s.T.length s.V.length)
   else (((runW f.toNat s f l).2.2, 0), (runW f.toNat s f l).2.1) := by unfold allF; rw [if_neg (by rw [h]; simp)]
 have hrun := hrun h
 have hundo := hundo h
 refine ⟨(s.T.length : Int), (s.V.length : Int), hm, PTs l, c_backP (PTs l), ?_⟩
 refine RPt.backF (sh := sh) (lv := lv36) (α := Nat) (Inv := fun i => i ≤ l.length) (idx := fun i => i) (nx := fun i => if i = l.length then 11 else 12) (m0 := 9) (U := [3, 4]) (live := [0, 8, 9, 22]) (oc := 8) (n := 8) (es := PTs l) (x0 := l.length) (g := .tmp 22) (env := [(0, aS 0), (8, .c (.a (.ep 5 2 0 0))), (9, .c (.a (.ep 6 1 0 0))), (22, fnB 108 8)])
  (H := fun i => alH s f l i) hP (by kernel_rfl) isBkP bTyP ?_ (by kernel_rfl) (by kernel_rfl) (by kernel_rfl) (by kernel_rfl) (fun _ _ => by split <;> omega) (fun i _ => by unfold alH; split <;> rfl) (fun e he => ?_) (by rw [z5k]; omega) (fun i hi => by rw [z5k]; exact hi) (fun i k hi hik hk => ?_) (Nat.le_refl _) (by rw [z5k]) (fun i hi h0 => ?_)
 · refine Eq.mpr (v36_1an ..) ?_
   unfold alH
   rw [if_pos rfl, if_pos rfl]
 · obtain ⟨t, _, rfl⟩ := List.mem_map.1 he
   exact FPr_len t
 · have hik : i = k + 1 := hik
   have hi : i ≤ l.length := hi
   subst hik
   have hkl : k < l.length := by omega
   have ef : List.getD (PTs l) k [] = FPr l[k] := by simp [PTs, List.getD, hkl]
   have edz : l.drop k = l[k] :: l.drop (k + 1) := List.drop_eq_getElem_cons hkl
   have estk : PTs (l.drop k).reverse = PTs (l.drop (k + 1)).reverse ++ [FPr l[k]] := by rw [edz, List.reverse_cons, z6r]; rfl
   have hlen : (PTs (l.drop (k + 1)).reverse).length = l.length - (k + 1) := by simp [z5k]
   rw [ef]
   generalize l[k] = p at *
   obtain ⟨⟨ak, a2, an, al⟩, ⟨bk, bs, bn, bl⟩⟩ := p
   by_cases hc : k + 1 = l.length
   · have e1 : alH s f l (k + 1) = [(0, sto2 9 10 s), (1, .gone), (2, .gone), (3, .gone), (4, .gone), (5, .arr 2 [[.a (.fz (.int .i64 (s.T.length : Int))), .a (.fz (.int .i64 (s.V.length : Int)))]]), (6, .arr 1 [[.a (.ep 7 3 0 0)]]), (7, .arr 3 [[.a (.ep 0 2 0 0), .a (.fz .nils), .a (.fz (.int .i64 f))]]), (8, .arr 1 [[.a (.fz (.sl false 8 (PTs l)))]]), (9, .arz 6 (SR s.V)), (10, .arz 1 (IR s.T))] := by unfold alH; rw [if_pos hc]
     rw [e1, if_pos hc]
     refine Eq.mpr (v36_1ara ..) ?_
     refine ⟨Nat.le_refl _, by unfold z0k; omega, k, ⟨(by omega : k ≤ l.length), rfl⟩, ?_, by rw [if_neg (by omega)]⟩
     unfold alH
     rw [if_neg (by omega), estk, show l.length - k = 1 by omega, show l.drop (k + 1) = [] from List.drop_eq_nil_of_le (by omega)]
     rfl
   · have e1 : alH s f l (k + 1) = [(0, sto2 9 10 s), (1, .gone), (2, .gone), (3, .gone), (4, .gone), (5, .arr 2 [[.a (.fz (.int .i64 (s.T.length : Int))), .a (.fz (.int .i64 (s.V.length : Int)))]]), (6, .arr 1 [[.a (.ep 7 3 0 0)]]), (7, .arr 3 [[.a (.ep 0 2 0 0), .a (.osl 11 8 0 (l.length - (k + 1))), .a (.fz (.int .i64 f))]]), (8, .arr 1 [[.a (.fz (.sl false 8 (PTs l)))]]), (9, .arz 6 (SR s.V)), (10, .arz 1 (IR s.T)), (11, .arz 8 (PTs (l.drop (k + 1)).reverse))] := by unfold alH; rw [if_neg hc]
     rw [e1, if_neg hc]
     refine Eq.mpr (v36_1arb ..) ?_
     refine ⟨Nat.le_refl _, ⟨by omega, by unfold z0k; omega⟩, k, ⟨(by omega : k ≤ l.length), rfl⟩, ?_, by rw [if_neg (by omega)]⟩
     unfold alH
     rw [if_neg (by omega), estk, show l.length - k = l.length - (k + 1) + 1 by omega, List.take_of_length_le (by omega)]
     rfl
 · have h0 : i = 0 := h0
   subst h0
   rw [ea]
   clear ea hany hm
   by_cases hn : l = []
   · subst hn
     have e0 : runW f.toNat s f [] = (0, s, f) := by cases f.toNat <;> rfl
     rw [e0]
     have hr := c_urun0 s f
     unfold alH
     rw [if_pos (show 0 = ([] : List (Tm × Tm)).length from rfl), if_pos (show 0 = ([] : List (Tm × Tm)).length from rfl)]
     refine Eq.mpr (v36_1aza ..) ?_
     exact ⟨(0, s, 0, [], f), hr, z01 (fun q => by cases q) (fun _ => ⟨.refl _, rfl⟩)⟩
   · obtain ⟨n', R', hr⟩ := hrun hn
     have hne : ¬ 0 = l.length := fun q => hn (List.eq_nil_of_length_eq_zero q.symm)
     unfold alH
     rw [if_neg hne, if_neg hne, Nat.sub_zero, List.drop_zero]
     generalize runW f.toNat s f l = w at *
     obtain ⟨we, ws, wf⟩ := w
     dsimp only at hundo hr ⊢
     refine Eq.mpr (v36_1azb ..) ?_
     refine ⟨(we, ws, n', R', wf), hr, z01 (fun q => ?_) (fun q => ?_)⟩
     · have q : we ≠ 0 := by have q : (we != 0) = true := q; simpa using q
       rw [if_pos q]
       exact ⟨_, hundo q, .refl _, rfl⟩
     · have q : we = 0 := by have q : (we != 0) = false := q; simpa using q
       rw [if_neg (by simp [q])]
       exact ⟨.refl _, rfl⟩
end Go.AM

set_option maxRecDepth 100000
open Go Go.Proofs
namespace Go.AM
mutual
theorem loose_ge : ∀ (t : Tm) (k acc : Int), acc ≤ z2x t k acc
 | .mk kd _ n l, k, acc => by
  rw [z2x]
  split
  · exact z8p l (k + 1) acc
  · split
    · exact z8p l k acc
    · split
      · unfold maxI; split <;> omega
      · exact Int.le_refl _
theorem z8p : ∀ (l : List Tm) (k acc : Int), acc ≤ z64 l k acc
 | [], _, _ => Int.le_refl _
 | t :: l, k, acc => by
  rw [z64]
  have h1 := loose_ge t k acc
  have h2 := z8p l k (z2x t k acc)
  omega
end
mutual
theorem zli (M : Int) : ∀ (t : Tm) (k acc : Int), z02 t = true → 0 ≤ k → k + (t.sz : Int) ≤ M → z2x t k acc ≤ 0 → bd M t
 | .mk kd s n l, k, acc, hv, hk, hM, h => by
  have hok := z08 _ hv
  simp only [Tm.sz] at hM
  by_cases h5 : kd = 5
  · have hkid := z1v hv (.inl h5)
    subst h5
    rw [z2x, if_pos (by decide)] at h
    exact ⟨fun q => by omega, z9a M l (k + 1) acc hkid (by omega) (by omega) h⟩
  · by_cases h6 : kd = 6
    · have hkid := z1v hv (.inr h6)
      subst h6
      rw [z2x, if_neg (by decide), if_pos (by decide)] at h
      exact ⟨fun q => by omega, z9a M l k acc hkid hk (by omega) h⟩
    · have hl := okB0 hok h5 h6
      subst hl
      refine ⟨fun q => ?_, trivial⟩
      subst q
      rw [z2x, if_neg (by decide), if_neg (by decide), if_pos (by decide)] at h
      have hn : 0 ≤ n := by
       rw [z02, if_neg (by decide), if_neg (by decide), if_neg (by decide), if_pos (by decide)] at hv
       simp only [Bool.and_eq_true, decide_eq_true_eq] at hv
       exact hv.1.1.1.1
      have : n - k + 1 ≤ 0 := by unfold maxI at h; split at h <;> omega
      omega
theorem z9a (M : Int) : ∀ (l : List Tm) (k acc : Int), (∀ u ∈ l, z02 u = true) → 0 ≤ k → k + (Tm.szs l : Int) ≤ M → z64 l k acc ≤ 0 → bds M l
 | [], _, _, _, _, _, _ => trivial
 | t :: l, k, acc, hv, hk, hM, h => by
  rw [z64] at h
  have h1 := z8p l k (z2x t k acc)
  simp only [Tm.szs] at hM
  exact ⟨zli M t k acc (hv t List.mem_cons_self) hk (by omega) (by omega), z9a M l k _ (fun u hu => hv u (List.mem_cons_of_mem _ hu)) hk (by omega) h⟩
end
theorem OKS.bindL {s : Sto} {x : Int} {t : Tm} (h : OKS s) (hz : t.sz ≤ 40000) : OKS (bindS s x t) := by
 by_cases q : z3v s x t = true
 · have q' := q
   simp only [z3v, Bool.and_eq_true, decide_eq_true_eq] at q'
   have hb : bd 2199023255552 t := zli _ t 0 0 q'.2.2.1 (Int.le_refl _) (by omega) q'.2.2.2
   exact OKS.bindA h hz hb
 · rw [(z32 (by simpa using q)).1]; exact h
end Go.AM

set_option maxRecDepth 100000
open Go Go.Proofs
namespace Go.AM
theorem z6u (q : IS) {e : Int} (h : e ≠ 0) : (z2i q e).e ≠ 0 := by
 unfold z2i
 split
 · exact h
 · rename_i h; exact h
theorem zkl {lv : Int} {L : List Tm} {t : Tm} {k : Int} (h : t.sz = 1) : (imgT lv L t k).1.sz = 1 := by
 unfold imgT
 split
 · exact h
 · split
   · rfl
   · exact h
theorem zmu (lv : Int) (L : List Tm) (k : Int) (m : Nat) : ∀ (l : List Tm) (i : Nat) (a : List Tm × List Tm), (∀ t ∈ l, t.sz = 1) → (∀ t ∈ a.2, t.sz = 1) → ∀ t ∈ (imgs lv L k m l i a).2, t.sz = 1
 | [], _, _, _, h => h
 | t :: l, i, a, hl, h => by
  rw [imgs]
  refine zmu lv L k m l (i + 1) _ (fun u hu => hl u (List.mem_cons_of_mem _ hu)) ?_
  split
  · intro u hu
    rcases List.mem_append.1 hu with hu | hu
    · exact h u hu
    · rw [List.mem_singleton.1 hu]; exact zkl (hl t List.mem_cons_self)
  · exact h
theorem zi8 (c : Bool) (lvy k : Int) (n : Nat) : ∀ (l : List Tm) (i : Nat) (a : List Tm × List Tm), (∀ t ∈ a.2, t.sz = 1) → ∀ t ∈ (z53 c lvy k n l i a).2, t.sz = 1
 | [], _, _, h => h
 | t :: l, i, a, h => by
  rw [z53]
  refine zi8 c lvy k n l (i + 1) _ ?_
  split
  · intro u hu
    rcases List.mem_append.1 hu with hu | hu
    · exact h u hu
    · rw [List.mem_singleton.1 hu]; rfl
  · exact h
theorem flexG_sz {lv : Int} {L : List Tm} {q : IS} {y k : Int} {ls : List Tm} {f : Int} (h : ∀ t ∈ ls, t.sz = 1) : (z72 lv L q y k ls f).1.sz ≤ 2 + ls.length + L.length := by
 have i1 := zmu lv L k ls.length ls 0 ([], []) h (fun t h => nomatch h)
 have i2 := z8q lv L k ls.length ls 0 ([], []) rfl
 have m1 := zi8 (decide ((infOf q.s.V y).lv > lv)) (infOf q.s.V y).lv k L.length L 0 _ i1
 have m2 := z67 (decide ((infOf q.s.V y).lv > lv)) (infOf q.s.V y).lv k L.length L 0 (imgs lv L k ls.length ls 0 ([], [])) i2.1
 simp only [List.length_nil, Nat.zero_add] at i2
 unfold z72
 split
 · have a := z2m (.mk 4 [] y []) (imgs lv L k ls.length ls 0 ([], [])).2
   have b := zeo i1
   have c : (Tm.mk 4 [] y []).sz = 1 := rfl
   simp only
   omega
 · have a := z2m (.mk 4 [] (q.s.V.length : Int) []) (onF lv (infOf q.s.V y).lv L k ls).2
   have b := zeo m1
   have c : (Tm.mk 4 [] (q.s.V.length : Int) []).sz = 1 := rfl
   simp only
   unfold onF at a ⊢
   omega
section
variable {C : Nat} (hC : C ≤ 1073741824) {L : List Tm} (hL : LP L) (hL1 : L.length ≤ 157) (x lv : Int)
include hC hL hL1
omit hC hL hL1 in
theorem zqr {tm : IS → Tm → Tm × IS} {f0 : Int} (hgi : ∀ q t, GI C q → 0 ≤ q.f → q.f ≤ f0 → (q.e = 0 → z02 t = true → Fit q.f.toNat t) → GI C (tm q t).2 ∧ (tm q t).2.f ≤ q.f ∧ 0 ≤ (tm q t).2.f)
  (htm : ∀ q t, GI C q → 0 ≤ q.f → q.f ≤ f0 → (q.e = 0 → z02 t = true → Fit q.f.toNat t) → (tm q t).2.e = 0 → q.e = 0 ∧ ((tm q t).1.sz : Int) + 160 * (tm q t).2.f ≤ 160 * q.f) :
  ∀ (l : List Tm) (q : IS), GI C q → 0 ≤ q.f → q.f ≤ f0 → (∀ t ∈ l, z02 t = true → Fit q.f.toNat t) → (z2a tm l q).2.e = 0 → q.e = 0 ∧ (Tm.szs (z2a tm l q).1 : Int) + 160 * (z2a tm l q).2.f ≤ 160 * q.f
 | [], q, h, h0, _, _, he => ⟨he, by simp only [z2a, Tm.szs]; omega⟩
 | t :: l, q, h, h0, h1, hl, he => by
  have a := hgi q t h h0 h1 (fun _ => hl t List.mem_cons_self)
  have b := zqr hgi htm l (tm q t).2 a.1 a.2.2 (by omega) (fun u hu hv => (hl u (List.mem_cons_of_mem _ hu) hv).mono (by omega)) he
  have c := htm q t h h0 h1 (fun _ => hl t List.mem_cons_self) b.1
  refine ⟨c.1, ?_⟩
  simp only [z2a, Tm.szs]
  have := b.2
  have := c.2
  omega
theorem zre : ∀ (D : Nat) (q : IS) (t : Tm) (k : Int), GI C q → 0 ≤ q.f → (q.e = 0 → z02 t = true → Fit q.f.toNat t) → (z0r x lv L D q t k).2.e = 0 → q.e = 0 ∧ ((z0r x lv L D q t k).1.sz : Int) + 160 * (z0r x lv L D q t k).2.f ≤ 160 * q.f
 | 0, q, t, k, h, h0, _, he => by
  rw [z0r] at he
  split at he
  · rename_i q1; exact absurd he q1
  · exact absurd he (z6u _ (by decide))
 | D + 1, q, t, k, h, h0, hf, he => by
  rw [z0r] at he ⊢
  split at he
  · rename_i q1; exact absurd he q1
  rename_i q1
  rw [if_neg q1]
  have e0 : q.e = 0 := by simpa using q1
  refine ⟨e0, ?_⟩
  split at he
  · exact absurd he (z6u _ (by decide))
  rename_i hf0
  rw [if_neg hf0]
  have hV := h.V
  have hT := h.T
  have hfit : z02 t = true → Fit (q.f - 1).toNat t := fun hv => (hf e0 hv).mono (by omega)
  unfold zkb at he ⊢
  split at he
  · rename_i hz; exact absurd he (z6u _ hz)
  rename_i hz
  rw [if_neg hz]
  have ok := z70 h.ok (by omega) hfit (by simpa using hz)
  generalize z0x q.s (q.f - 1) t = z at *
  obtain ⟨z1, z2, z3⟩ := z
  simp only at ok he ⊢
  obtain ⟨hv, hfz, hz0, hz1⟩ := ok
  have sp := zay hv hfz
  have g : GI C ⟨q.s, z2, q.e⟩ := h.less hz0 (by omega)
  have ih := fun q' t' k' => zre D q' t' k'
  have gi := fun q' t' k' => z9l hC hL x lv D q' t' k'
  unfold z5x at he ⊢
  split at he
  · rename_i h5
    rw [if_pos h5]
    have hne : (z04 z1).1.l ≠ [] := fun e => by
     have o := z08 _ sp.1.1
     generalize (z04 z1).1 = w at *
     obtain ⟨wk, ws, wn, wl⟩ := w
     obtain ⟨u, hu, _⟩ := okB5 o h5
     rw [hu] at e; cases e
    have hm : hd (z04 z1).1.l ∈ (z04 z1).1.l := by
     cases hl : (z04 z1).1.l with
     | nil => exact absurd hl hne
     | cons a b => exact List.mem_cons_self
    have := ih ⟨q.s, z2, q.e⟩ (hd (z04 z1).1.l) (k + 1) g hz0 (fun _ hv => (sp.2.2.2 _ hm).2 hv) he
    simp only at this ⊢
    rw [zan]
    have := this.2
    omega
  rename_i h5
  rw [if_neg h5]
  split at he
  · rename_i h4
    rw [if_pos h4]
    split at he
    · exact absurd he (z6u _ (by decide))
    rename_i hx
    rw [if_neg hx]
    have ha := z6q g.ok (z04 z1).1.n (z04 z1).2 z2 (fun t ht => (sp.2.1 t ht).2)
    unfold z33 at he ⊢
    split at he
    · rename_i hr; exact absurd he (z6u _ hr)
    rename_i hr
    rw [if_neg hr]
    have ha2 := ha.2.1 hz0 (by simpa using hr)
    have := flexG_sz (lv := lv) (L := L) (q := ⟨q.s, z2, q.e⟩) (y := (z04 z1).1.n) (k := k) (f := (z1e q.s (z04 z1).1.n (z04 z1).2 z2).2.1) (fun t ht => (ha.1 t ht).1)
    rw [ziv]
    simp only at this ha2 ⊢
    omega
  rename_i h4
  rw [if_neg h4]
  unfold zgr at he ⊢
  split at he
  · exact absurd he (z6u _ (by decide))
  rename_i hi
  rw [if_neg hi]
  have h6 : (z04 z1).1.k ≠ 6 := by
   unfold z04
   split
   · rename_i h6
     obtain ⟨zk, zs, zn, zl⟩ := z1
     obtain ⟨a, b, r, rfl, ha6, _⟩ := okB6 (z08 _ hv) h6.1
     exact ha6
   · rename_i h6
     exact fun q => h6 ⟨q, hv⟩
  have hone : (z04 z1).1.sz = 1 := by
   have o := z08 _ sp.1.1
   generalize (z04 z1).1 = w at *
   obtain ⟨wk, ws, wn, wl⟩ := w
   have := okB0 o h5 h6
   subst this
   rfl
  have kk := zqr (tm := fun q t => z0r x lv L D q t k) (f0 := z2) (fun q' t' a b _ d => gi q' t' k a b d) (fun q' t' a b _ d e => ih q' t' k a b d e) (z04 z1).2 ⟨q.s, z2, q.e⟩ g hz0 (Int.le_refl _) (fun t ht => (sp.2.1 t ht).2) he
  have hh : (if (z04 z1).1.k = 3 ∨ (z04 z1).1.k = 1 then (imgT lv L (z04 z1).1 k).1 else (z04 z1).1).sz = 1 := by
   split
   · exact zkl hone
   · exact hone
  have ap := z2m (if (z04 z1).1.k = 3 ∨ (z04 z1).1.k = 1 then (imgT lv L (z04 z1).1 k).1 else (z04 z1).1) (z2a (fun q t => z0r x lv L D q t k) (z04 z1).2 ⟨q.s, z2, q.e⟩).1
  have k2 := kk.2
  simp only at k2 ap ⊢
  omega
end
end Go.AM

set_option maxRecDepth 100000
open Go Go.Proofs
namespace Go.AM
mutual
def vP (p : Int → Bool) : Tm → Bool
 | .mk k _ n l => (k != 4 || p n) && vPL p l
def vPL (p : Int → Bool) : List Tm → Bool
 | [] => true
 | t :: l => vP p t && vPL p l
end
section
variable {p : Int → Bool}
theorem z9p : ∀ {l : List Tm}, vPL p l = true ↔ ∀ t ∈ l, vP p t = true
 | [] => ⟨fun _ t h => (by cases h), fun _ => rfl⟩
 | t :: l => by
  rw [vPL, Bool.and_eq_true, z9p (l := l)]
  exact ⟨fun h u hu => (List.mem_cons.1 hu).elim (fun e => e ▸ h.1) (h.2 u), fun h => ⟨h t List.mem_cons_self, fun u hu => h u (List.mem_cons_of_mem _ hu)⟩⟩
theorem vP_kid {t u : Tm} (h : vP p t = true) (hu : u ∈ t.l) : vP p u = true := by
 obtain ⟨k, s, n, l⟩ := t
 rw [vP, Bool.and_eq_true] at h
 exact z9p.1 h.2 u hu
theorem vP_var {t : Tm} (h : vP p t = true) (hk : t.k = 4) : p t.n = true := by
 obtain ⟨k, s, n, l⟩ := t
 have hk : k = 4 := hk
 subst hk
 rw [vP, Bool.and_eq_true] at h
 show p n = true
 simpa using h.1
theorem zfv {k n : Int} {s : List UInt8} {l : List Tm} (hk : k ≠ 4) (h : ∀ t ∈ l, vP p t = true) : vP p (.mk k s n l) = true := by
 rw [vP, z9p.2 h]; simp [hk]
theorem zqm {f : Tm} {l : List Tm} (hf : vP p f = true) (hl : ∀ t ∈ l, vP p t = true) : vP p (z07 f l) = true := by
 cases l with
 | nil => exact hf
 | cons x a =>
  by_cases h : (f.k == 6) = true ∧ f.l ≠ []
  · rw [show z07 f (x :: a) = .mk 6 [] 0 (f.l ++ (x :: a)) from if_pos h]
    exact zfv (by omega) fun t ht => (List.mem_append.1 ht).elim (vP_kid hf) (hl t)
  · rw [show z07 f (x :: a) = .mk 6 [] 0 (f :: (x :: a)) from if_neg h]
    exact zfv (by omega) fun t ht => (List.mem_cons.1 ht).elim (fun e => e ▸ hf) (hl t)
theorem hd_mem {l : List Tm} (h : l ≠ []) : hd l ∈ l := by
 cases l with
 | nil => exact absurd rfl h
 | cons a b => exact List.mem_cons_self
def SV (p : Int → Bool) (s : Sto) : Prop := ∀ i ∈ s.V, i.bd = true → vP p i.v = true
theorem SV.val {s : Sto} (h : SV p s) {t : Tm} (hb : valB s t = true) : vP p (valS s t) = true := by
 simp only [valB, Bool.and_eq_true] at hb
 by_cases q : 0 ≤ t.n ∧ t.n < (s.V.length : Int)
 · obtain ⟨hl, e⟩ := z2c q.1 q.2
   rw [valS, e]
   rw [e] at hb
   exact h _ (List.getElem_mem hl) hb.2
 · rw [z2o q] at hb; simp [noI] at hb
end
end Go.AM

set_option maxRecDepth 100000
open Go Go.Proofs
namespace Go.AM
theorem z5g {s : Sto} {lv i : Int} (h0 : 0 ≤ i) (h1 : i < (s.V.length : Int)) : infOf (freshS s lv).V i = infOf s.V i := by
 obtain ⟨hl, e⟩ := z2c h0 h1
 obtain ⟨hl', e'⟩ := z2c (V := (freshS s lv).V) h0 (by simp [freshS]; omega)
 rw [e, e']
 exact List.getElem_append_left hl
theorem z50 {s : Sto} {y i : Int} {t : Tm} (h0 : 0 ≤ i) (h1 : i < (s.V.length : Int)) : infOf (bindS s y t).V i = infOf s.V i ∨ (i = y ∧ infOf (bindS s y t).V i = ⟨(infOf s.V y).lv, true, t⟩) := by
 by_cases q : z3v s y t = true
 · have hy := z5p q
   obtain ⟨hl, e⟩ := z2c h0 h1
   obtain ⟨hl', e'⟩ := z2c (V := (bindS s y t).V) h0 (by rw [z0p]; exact h1)
   by_cases hiy : i = y
   · right
     refine ⟨hiy, ?_⟩
     subst hiy
     rw [e']
     simp only [(z1p q).1, List.getElem_set_self]
   · left
     rw [e, e']
     simp only [(z1p q).1]
     rw [List.getElem_set_ne (by omega)]
 · left; rw [(z32 (by simpa using q)).1]
theorem zsf {p : Int → Bool} : ∀ (n : Nat) {t : Tm}, vP p t = true → vP p (z4v n t) = true
 | 0, _, h => h
 | n + 1, t, h => by
  rw [z4v]
  exact zsf n (zfv (k := 5) (by decide) fun u hu => by simp at hu; subst hu; exact h)
structure OI (p : Int → Bool) (x : Int) (m : Nat) (lv0 : Int → Int) (s : Sto) : Prop where
 len : m ≤ s.V.length
 lvl : ∀ i : Int, 0 ≤ i → i < (m : Int) → (infOf s.V i).lv = lv0 i
 bnd : ∀ i : Int, 0 ≤ i → i < (m : Int) → (infOf s.V i).bd = true → p i = true ∧ i ≠ x
 sv : SV p s
section
variable {p : Int → Bool} {x : Int} {m : Nat} {lv0 : Int → Int} (hp : ∀ i : Int, (m : Int) ≤ i → p i = true)
include hp
theorem OI.hang {s : Sto} (h : OI p x m lv0 s) {y : Int} (hy : p y = true) (hx : y ≠ x) (lv : Int) (k : Nat) {on : List Tm} (ho : ∀ t ∈ on, vP p t = true) : OI p x m lv0 (z2s s y lv k on) := by
 have hl := h.len
 have ht : vP p (z5z s k on) = true := zsf _ (zqm (by
  rw [vP, vPL, hp _ (by omega)]; rfl) ho)
 have key : ∀ i : Int, 0 ≤ i → i < (m : Int) → infOf (z2s s y lv k on).V i = infOf s.V i ∨ (i = y ∧ infOf (z2s s y lv k on).V i = ⟨(infOf s.V y).lv, true, z5z s k on⟩) := fun i h0 h1 => by
  have hf : infOf (freshS s lv).V i = infOf s.V i := z5g h0 (by omega)
  have := z50 (s := freshS s lv) (y := y) (t := z5z s k on) h0 (by simp [freshS]; omega)
  rw [hf] at this
  rcases this with h2 | ⟨h2, h3⟩
  · exact .inl h2
  · subst h2; rw [hf] at h3; exact .inr ⟨rfl, h3⟩
 refine ⟨by rw [z2s, z0p, (z7i s lv).1]; omega, fun i h0 h1 => ?_, fun i h0 h1 hb => ?_, fun i hi hb => ?_⟩
 · rcases key i h0 h1 with h2 | ⟨h2, h3⟩
   · rw [h2]; exact h.lvl i h0 h1
   · rw [h3, ← h2]; exact h.lvl i h0 h1
 · rcases key i h0 h1 with h2 | ⟨h2, h3⟩
   · rw [h2] at hb; exact h.bnd i h0 h1 hb
   · rw [h2]; exact ⟨hy, hx⟩
 · have sv : SV p (freshS s lv) := fun i hi hb => by
    rcases List.mem_append.1 hi with hi | hi
    · exact h.sv i hi hb
    · simp at hi; subst hi; cases hb
   by_cases q : z3v (freshS s lv) y (z5z s k on) = true
   · rw [z2s, (z1p q).1] at hi
     rcases List.mem_or_eq_of_mem_set hi with hi | rfl
     · exact sv i hi hb
     · exact ht
   · rw [z2s, (z32 (by simpa using q)).1] at hi
     exact sv i hi hb
variable {L : List Tm} (hL : ∀ t ∈ L, vP p t = true) (lv : Int)
include hL
end
end Go.AM

set_option maxRecDepth 100000
open Go Go.Proofs
namespace Go.AM
inductive Chg (s0 : Sto) : Sto → Prop
 | refl : Chg s0 s0
 | fresh {s : Sto} (lv : Int) : Chg s0 s → Chg s0 (freshS s lv)
 | bind {s : Sto} (x : Int) (t : Tm) : Chg s0 s → Chg s0 (bindS s x t)
theorem Chg.hang {s0 s : Sto} (h : Chg s0 s) (y lv : Int) (m : Nat) (on : List Tm) : Chg s0 (z2s s y lv m on) := (h.fresh lv).bind _ _
theorem Chg.fail {s0 : Sto} {q : IS} (h : Chg s0 q.s) (e : Int) : Chg s0 (z2i q e).s := by unfold z2i; split <;> exact h
theorem zp4 {s0 : Sto} (lv : Int) (L : List Tm) {q : IS} (h : Chg s0 q.s) (y : Int) (l : List Tm) (k : Int) : Chg s0 (z33 lv L q y l k).2.s := by
 unfold z33
 split
 · exact h.fail _
 · unfold z72
   split
   · exact h
   · exact h.hang _ _ _ _
theorem zlf {s0 : Sto} {tm : IS → Tm → Tm × IS} (htm : ∀ q t, Chg s0 q.s → Chg s0 (tm q t).2.s) : ∀ (l : List Tm) (q : IS), Chg s0 q.s → Chg s0 (z2a tm l q).2.s
 | [], _, h => h
 | t :: l, q, h => zlf htm l (tm q t).2 (htm q t h)
theorem zaz {s0 : Sto} (x lv : Int) (L : List Tm) : ∀ (D : Nat) (q : IS) (t : Tm) (k : Int), Chg s0 q.s → Chg s0 (z0r x lv L D q t k).2.s
 | 0, q, t, k, h => by
  rw [z0r]
  split
  · exact h
  · exact h.fail _
 | D + 1, q, t, k, h => by
  rw [z0r]
  split
  · exact h
  · split
    · exact h.fail _
    · unfold zkb
      split
      · exact h.fail _
      · generalize z0x q.s (q.f - 1) t = z
        obtain ⟨z1, z2, z3⟩ := z
        dsimp only
        unfold z5x
        split
        · exact zaz x lv L D ⟨q.s, z2, q.e⟩ _ _ h
        · split
          · split
            · exact Chg.fail (q := ⟨q.s, z2, q.e⟩) h _
            · exact zp4 lv L (q := ⟨q.s, z2, q.e⟩) h _ _ _
          · unfold zgr
            split
            · exact Chg.fail (q := ⟨q.s, z2, q.e⟩) h _
            · exact zlf (fun q' t' a => zaz x lv L D q' t' k a) _ ⟨q.s, z2, q.e⟩ h
theorem z9f {s0 s : Sto} (h : Chg s0 s) (x : Int) (l : List Tm) (t : Tm) (f : Int) : Chg s0 (z05 s x l t f).2 := by
 unfold z05
 split
 · exact h
 · split <;> exact zaz _ _ _ _ _ _ _ h
theorem zqn {s0 s : Sto} (h : Chg s0 s) (x : Int) (K : List Bool) : Chg s0 (z38 s x K) := by
 unfold z38
 split
 · exact h.hang _ _ _ _
 · exact h
theorem zou {s0 s : Sto} (h : Chg s0 s) (f x : Int) (l : List Tm) (t : Tm) : Chg s0 (z4s s f x l t).2.1 := by
 unfold z4s
 split
 · exact z9f h _ _ _ _
 · exact (z9f h _ _ _ _).bind _ _
theorem zgu {s0 s : Sto} (h : Chg s0 s) (f : Int) (x : SD) (t : Tm) : Chg s0 (z0v s f x t).2.1 := by
 unfold z0v
 split
 · exact h
 · exact zou h _ _ _ _
theorem znm {s0 s : Sto} (h : Chg s0 s) (f : Int) (x y : SD) : Chg s0 (z1l s f x y).2.1 := by
 unfold z1l
 split
 · exact h
 · split
   · exact h
   · split
     · exact h
     · split
       · exact h
       · exact zqn h _ _
theorem zeq {s0 s : Sto} (h : Chg s0 s) (f : Int) (p : Tm × Tm) : Chg s0 (z0l s f p).1.2.1 := by
 unfold z0l
 split
 · exact h
 · split
   · exact h
   · unfold z75
     split
     · exact h
     · split
       · exact znm h _ _ _
       · split
         · exact zgu h _ _ _
         · split
           · exact zgu h _ _ _
           · split <;> exact h
theorem zbz {s0 : Sto} : ∀ (F : Nat) (s : Sto) (f : Int) (st : List (Tm × Tm)), Chg s0 s → Chg s0 (runW F s f st).2.1
 | _, s, f, [], h => by rw [runW]; exact h
 | 0, s, f, _ :: _, h => by rw [runW]; exact h
 | F + 1, s, f, p :: st, h => by
  rw [runW]
  split
  · exact h
  · split
    · exact zeq h _ _
    · exact zbz F _ _ _ (zeq h _ _)
def WF (s : Sto) : Prop := ∀ i ∈ s.V, i.bd = false → i.v = noT
theorem WF.fresh {s : Sto} (h : WF s) (lv : Int) : WF (freshS s lv) := fun i hi hb => by
 rcases List.mem_append.1 hi with hi | hi
 · exact h i hi hb
 · simp at hi; subst hi; rfl
theorem WF.bind {s : Sto} (h : WF s) (x : Int) (t : Tm) : WF (bindS s x t) := fun i hi hb => by
 by_cases q : z3v s x t = true
 · rw [(z1p q).1] at hi
   rcases List.mem_or_eq_of_mem_set hi with hi | rfl
   · exact h i hi hb
   · cases hb
 · rw [(z32 (by simpa using q)).1] at hi
   exact h i hi hb
theorem OKT.fresh {s : Sto} (h : OKT s) (lv : Int) : OKT (freshS s lv) := fun x hx => by
 have := h x hx
 rw [(z7i s lv).1]; omega
theorem OKT.bind {s : Sto} (h : OKT s) (x : Int) (t : Tm) : OKT (bindS s x t) := fun y hy => by
 rw [z0p]
 by_cases q : z3v s x t = true
 · rw [(z1p q).1] at hy
   rcases List.mem_append.1 hy with hy | hy
   · exact h y hy
   · simp at hy; subst hy; exact z5p q
 · rw [(z32 (by simpa using q)).1] at hy; exact h y hy
theorem Chg.all {s0 s : Sto} (h : Chg s0 s) (w : WF s0) (t : OKT s0) : WF s ∧ OKT s ∧ Ext s0 s := by
 induction h with
 | refl => exact ⟨w, t, .refl _⟩
 | fresh lv _ ih => exact ⟨ih.1.fresh lv, ih.2.1.fresh lv, ih.2.2.fresh lv⟩
 | bind x u _ ih => exact ⟨ih.1.bind x u, ih.2.1.bind x u, ih.2.2.bind ih.1 x u⟩
theorem Chg.len {s0 s : Sto} (h : Chg s0 s) : s0.V.length ≤ s.V.length := by
 induction h with
 | refl => exact Nat.le_refl _
 | fresh lv _ ih => rw [(z7i _ lv).1]; omega
 | bind x u _ ih => rw [z0p]; exact ih
theorem zhb {s : Sto} (hs : OKS s) (E : Nat) : ∀ {F : Nat} {t : Tm}, z02 t = true → Fit (F + E) t → (runH s F t).2.1 = 0 → z02 (runH s F t).1 = true ∧ Fit (F - (runH s F t).2.2 + E) (runH s F t).1 ∧ (runH s F t).2.2 ≤ F
 | 0, t, hv, hf, h0 => by
  rw [runH] at h0 ⊢
  split
  · exact ⟨hv, by simpa using hf, Nat.le_refl _⟩
  · rename_i q; rw [if_neg q] at h0; cases h0
 | F + 1, t, hv, hf, h0 => by
  rw [runH] at h0 ⊢
  split
  · exact ⟨hv, hf, Nat.zero_le _⟩
  · rename_i q
    rw [if_neg q] at h0
    split
    · rename_i q2; rw [if_pos q2] at h0; cases h0
    · rename_i q2
      rw [if_neg q2] at h0
      have h1 : (z0g s t).2 = 1 := by rcases zek s t with r | r | r; · exact absurd r q
                                      · exact r
                                      · exact absurd r q2
      obtain ⟨v, f⟩ := z8u (F := F + E) hs hv (by rw [show F + E + 1 = F + 1 + E by omega]; exact hf) h1
      have := zhb hs E v f h0
      refine ⟨this.1, ?_, by have := this.2.2; simp only; omega⟩
      have h2 := this.2.1
      simp only
      rw [show F + 1 - ((runH s F (z0g s t).1).2.2 + 1) + E = F - (runH s F (z0g s t).1).2.2 + E by omega]; exact h2
theorem zs1 {s : Sto} (hs : OKS s) (E : Nat) {f : Int} {t : Tm} (h0 : 0 ≤ f) (hf : z02 t = true → Fit (f.toNat + E) t) (he : (z0x s f t).2.2 = 0) : z02 (z0x s f t).1 = true ∧ Fit ((z0x s f t).2.1.toNat + E) (z0x s f t).1 ∧ 0 ≤ (z0x s f t).2.1 ∧ (z0x s f t).2.1 ≤ f := by
 unfold z0x at he ⊢
 split at he
 · rename_i hv
   rw [if_pos hv]
   split at he
   · rename_i h1
     rw [if_pos h1]
     have hq := zhb hs E hv (hf hv) h1
     refine ⟨hq.1, ?_, by simp only; omega, by simp only; omega⟩
     have : (f - ((runH s f.toNat t).2.2 : Int)).toNat = f.toNat - (runH s f.toNat t).2.2 := by omega
     simp only [this]; exact hq.2.1
   · rename_i h1; exact absurd he h1
 · cases he
def okP (F : Nat) (t : Tm) : Prop := z02 t = true ∧ Fit F t
theorem okP.mono {F G : Nat} {t : Tm} (h : okP F t) (hg : G ≤ F) : okP G t := ⟨h.1, h.2.mono hg⟩
theorem z3s {F : Nat} {z : Tm} (h : okP F z) : okP F (z04 z).1 ∧ (∀ t ∈ (z04 z).2, okP F t) ∧ (z04 z).2.length ≤ SZ := by
 have sp := zay h.1 h.2
 refine ⟨sp.1, fun t ht => ?_, sp.2.2.1⟩
 unfold z04 at ht
 split at ht
 · rename_i h6
   obtain ⟨k, s, n, l⟩ := z
   have hm : t ∈ l := List.mem_of_mem_drop ht
   have hv := z1v h.1 (.inr h6.1) t hm
   exact ⟨hv, h.2.kid hm⟩
 · cases ht
theorem zkz {F : Nat} {t : Tm} (h : okP (F + 1) t) : okP F (z4m t) := by
 have hv := h.1
 unfold z4m
 rw [if_pos hv]
 split
 · rename_i h5
   obtain ⟨k, s, n, l⟩ := t
   have h5 : k = 5 := h5
   obtain ⟨u, hu, _⟩ := okB5 (z08 _ hv) h5
   subst hu
   have hk := z1v hv (.inl h5) u List.mem_cons_self
   exact ⟨hk, (h.2.kid (show u ∈ Tm.l (.mk k s n [u]) from List.mem_cons_self)).mono (by omega)⟩
 · have ok := zt5 (fr := 0) (by_ := 1) 0 (z08 _ hv)
   have hb := h.2.2.2.1
   have hF := h.2.2.2.2
   have lv := shT_lv (by_ := 1) (M := M61 - SZ - SZ * ((F + 1 : Nat) : Int)) (D := 0) (by omega) (by simp only [M61, SZ]; omega) t 0 0 hb (z43 hv) (Int.le_refl _)
   have bb := shT_bd (fr := 0) (by_ := 1) (by omega) t 0 hb (Int.le_refl _)
   have sz := zd9 0 1 t 0
   have az := z2m (shT 0 1 t 0) [.mk 3 [] 0 []]
   have oa := z4y (args := [.mk 3 [] 0 []]) ok (by decide)
   have la := z58 (args := [.mk 3 [] 0 []]) lv (by decide)
   have h2 := h.2.2.1
   have e1 : Tm.szs [.mk 3 [] 0 []] = 1 := rfl
   refine ⟨by rw [z30, oa, la]; rfl, oa, by omega, z2j (z6a (by simp only [SZ]; omega) _ bb) ⟨⟨fun _ => ⟨?_, ?_⟩, trivial⟩, trivial⟩, by omega⟩
   · simp only [M61, SZ]; omega
   · simp only [M61, SZ]; omega
theorem z7u {s : Sto} (hs : OKS s) {f : Int} (h0 : 0 ≤ f) {t : Tm} (h : okP (f.toNat + 1) t) {x : SD} {g : Int} (e : z0q s f t = ((x, 0), g)) : 0 ≤ g ∧ g ≤ f ∧ okP (g.toNat + 1) x.t ∧ x = zjj x.t ∧ z0x s f t = (x.t, g, 0) := by
 unfold z0q at e
 split at e
 · rename_i q
   injection e with e1 e2; injection e1 with e1 e3; exact absurd e3 q
 · rename_i q
   have q : (z0x s f t).2.2 = 0 := by simpa using q
   have hh := zs1 hs 1 h0 (fun _ => h.2) q
   injection e with e1 e2; injection e1 with e1 e3
   subst e1
   refine ⟨by rw [← e2]; exact hh.2.2.1, by rw [← e2]; exact hh.2.2.2, ?_, rfl, ?_⟩
   · rw [← e2]; exact ⟨hh.1, hh.2.1⟩
   · rw [← e2, ← q]; rfl
end Go.AM

set_option maxRecDepth 100000
open Go Go.Proofs
namespace Go.AM
theorem bV3_bd {n : Int} (h0 : -1000000 ≤ n) (h1 : n ≤ 1000000) : bd M61 (bV3 n) := ⟨fun _ => ⟨by simp only [M61]; omega, by simp only [M61]; omega⟩, trivial⟩
theorem zc8 : bd M61 noT := ⟨fun q => (by cases q), trivial⟩
theorem zpe {lv : Int} {L : List Tm} {t : Tm} {k : Int} (h : bd M61 t) (hL : L.length ≤ 900) (hk0 : 0 ≤ k) (hk1 : k ≤ 6000) : bd M61 (imgT lv L t k).1 := by
 have hlt := zrt (fun u => lfB u (outT t k)) L 0
 unfold imgT
 split
 · exact h
 · split
   · exact bV3_bd (by omega) (by omega)
   · exact h
theorem zpg (lv : Int) (L : List Tm) (k : Int) (m : Nat) (hL : L.length ≤ 900) (hk0 : 0 ≤ k) (hk1 : k ≤ 6000) : ∀ (l : List Tm) (i : Nat) (a : List Tm × List Tm), (∀ t ∈ l, bd M61 t) → (∀ t ∈ a.2, bd M61 t) → ∀ t ∈ (imgs lv L k m l i a).2, bd M61 t
 | [], _, _, _, h => h
 | t :: l, i, a, hl, h => by
  rw [imgs]
  refine zpg lv L k m hL hk0 hk1 l (i + 1) _ (fun u hu => hl u (List.mem_cons_of_mem _ hu)) ?_
  split
  · intro u hu
    rcases List.mem_append.1 hu with hu | hu
    · exact h u hu
    · rw [List.mem_singleton.1 hu]; exact zpe (hl t List.mem_cons_self) hL hk0 hk1
  · exact h
theorem zly (c : Bool) (lvy k : Int) (n : Nat) (hn : n ≤ 900) (hk0 : 0 ≤ k) (hk1 : k ≤ 6000) : ∀ (l : List Tm) (i : Nat) (a : List Tm × List Tm), i + l.length ≤ n → (∀ t ∈ a.2, bd M61 t) → ∀ t ∈ (z53 c lvy k n l i a).2, bd M61 t
 | [], _, _, _, h => h
 | t :: l, i, a, hi, h => by
  rw [z53]
  simp only [List.length_cons] at hi
  refine zly c lvy k n hn hk0 hk1 l (i + 1) _ (by omega) ?_
  split
  · intro u hu
    rcases List.mem_append.1 hu with hu | hu
    · exact h u hu
    · rw [List.mem_singleton.1 hu]; exact bV3_bd (by omega) (by omega)
  · exact h
theorem zmh {M : Int} (n : Nat) {t : Tm} (h : bd M t) : bd M (z4v n t) := zew n h
section
variable {C : Nat} (hC : C ≤ 1073741824) {L : List Tm} (hL : LP L) (x lv : Int)
include hL
theorem flexG_bd {q : IS} {y k : Int} {ls : List Tm} {f : Int} (h : ∀ t ∈ ls, bd M61 t) (hk0 : 0 ≤ k) (hk1 : k ≤ 6000) : bd M61 (z72 lv L q y k ls f).1 := by
 have i2 := zpg lv L k ls.length hL.1 hk0 hk1 ls 0 ([], []) h (fun t h => nomatch h)
 have m2 := zly (decide ((infOf q.s.V y).lv > lv)) (infOf q.s.V y).lv k L.length hL.1 hk0 hk1 L 0 _ (by omega) i2
 unfold z72
 split
 · exact z2j ⟨fun q => (by cases q), trivial⟩ (z7f i2)
 · exact z2j ⟨fun q => (by cases q), trivial⟩ (z7f m2)
include hC
omit hC hL in
theorem zt3 {tm : IS → Tm → Tm × IS} {f0 : Int} (hgi : ∀ q t, GI C q → 0 ≤ q.f → q.f ≤ f0 → (q.e = 0 → z02 t = true → Fit q.f.toNat t) → GI C (tm q t).2 ∧ (tm q t).2.f ≤ q.f ∧ 0 ≤ (tm q t).2.f)
  (htm : ∀ q t, GI C q → 0 ≤ q.f → q.f ≤ f0 → (q.e = 0 → z02 t = true → Fit q.f.toNat t) → bd M61 (tm q t).1) :
  ∀ (l : List Tm) (q : IS), GI C q → 0 ≤ q.f → q.f ≤ f0 → (∀ t ∈ l, z02 t = true → Fit q.f.toNat t) → bds M61 (z2a tm l q).1
 | [], q, h, h0, _, _ => trivial
 | t :: l, q, h, h0, h1, hl => by
  have a := hgi q t h h0 h1 (fun _ => hl t List.mem_cons_self)
  exact ⟨htm q t h h0 h1 (fun _ => hl t List.mem_cons_self), zt3 hgi htm l (tm q t).2 a.1 a.2.2 (by omega) (fun u hu hv => (hl u (List.mem_cons_of_mem _ hu) hv).mono (by omega))⟩
theorem zt8 : ∀ (D : Nat) (q : IS) (t : Tm) (k : Int), GI C q → 0 ≤ q.f → (q.e = 0 → z02 t = true → Fit q.f.toNat t) → 0 ≤ k → k + (D : Int) ≤ 6000 → bd M61 (z0r x lv L D q t k).1
 | 0, q, t, k, h, h0, _, _, _ => by
  rw [z0r]
  split <;> exact zc8
 | D + 1, q, t, k, h, h0, hf, hk0, hk1 => by
  rw [z0r]
  split
  · exact zc8
  rename_i q1
  have e0 : q.e = 0 := by simpa using q1
  split
  · exact zc8
  rename_i hf0
  have hfit : z02 t = true → Fit (q.f - 1).toNat t := fun hv => (hf e0 hv).mono (by omega)
  unfold zkb
  split
  · exact zc8
  rename_i hz
  have ok := z70 h.ok (by omega) hfit (by simpa using hz)
  generalize z0x q.s (q.f - 1) t = z at *
  obtain ⟨z1, z2, z3⟩ := z
  dsimp only at ok ⊢
  obtain ⟨hv, hfz, hz0, hz1⟩ := ok
  have sp := z3s ⟨hv, hfz⟩
  have g : GI C ⟨q.s, z2, q.e⟩ := h.less hz0 (by omega)
  have ih := fun q' t' k' => zt8 D q' t' k'
  have gi := fun q' t' k' => z9l hC hL x lv D q' t' k'
  unfold z5x
  split
  · rename_i h5
    have hne : (z04 z1).1.l ≠ [] := fun e => by
     have o := z08 _ sp.1.1
     generalize (z04 z1).1 = w at *
     obtain ⟨wk, ws, wn, wl⟩ := w
     obtain ⟨u, hu, _⟩ := okB5 o h5
     rw [hu] at e; cases e
    have hm : hd (z04 z1).1.l ∈ (z04 z1).1.l := hd_mem hne
    exact zmh 1 (ih ⟨q.s, z2, q.e⟩ _ (k + 1) g hz0 (fun _ _ => sp.1.2.kid hm) (by omega) (by omega))
  split
  · split
    · exact zc8
    have ha := z6q g.ok (z04 z1).1.n (z04 z1).2 z2 (fun t ht _ => (sp.2.1 t ht).2)
    unfold z33
    split
    · exact zc8
    exact flexG_bd hL lv (fun t ht => (ha.1 t ht).2.2.2.1) hk0 (by omega)
  · unfold zgr
    split
    · exact zc8
    have kk := zt3 (C := C) (tm := fun q t => z0r x lv L D q t k) (f0 := z2) (fun q' t' a b _ d => gi q' t' k a b d) (fun q' t' a b _ d => ih q' t' k a b d hk0 (by omega)) (z04 z1).2 ⟨q.s, z2, q.e⟩ g hz0 (Int.le_refl _) (fun t ht _ => (sp.2.1 t ht).2)
    refine z2j ?_ kk
    split
    · exact zpe sp.1.2.bd hL.1 hk0 (by omega)
    · exact sp.1.2.bd
end
theorem zh3 {C : Nat} (hC : C ≤ 1073741824) {s : Sto} (hs : OKS s) (x : Int) {l : List Tm} {t : Tm} {f : Int} (h0 : 0 ≤ f) (hf : f ≤ 157) (hV : s.V.length + f.toNat ≤ C) (hT : s.T.length + f.toNat ≤ C) (hl : l.length ≤ 157) (hfit : z02 t = true → Fit f.toNat t) :
  OKS (z05 s x l t f).2 ∧ (z05 s x l t f).2.V.length ≤ C ∧ (z05 s x l t f).2.T.length ≤ C ∧ ((z05 s x l t f).1.2.2 = 0 → 0 ≤ (z05 s x l t f).1.2.1 ∧ (z05 s x l t f).1.2.1 ≤ f ∧
   (z05 s x l t f).2.V.length + (z05 s x l t f).1.2.1.toNat ≤ C ∧ (z05 s x l t f).2.T.length + (z05 s x l t f).1.2.1.toNat ≤ C ∧ (z05 s x l t f).1.1.sz ≤ 40000 ∧ bd M61 (z05 s x l t f).1.1) := by
 unfold z05
 split
 · exact ⟨hs, by simp only; omega, by simp only; omega, fun h => by cases h⟩
 · rename_i hc
   simp only [Bool.or_eq_true, not_or] at hc
   have hL : LP l := ⟨by omega, fun u hu => (z9e (t := u) (by have := List.any_eq_false.1 (by simpa using hc.2 : (l.any fun u => !z55 u) = false) u hu; simpa using this)).1⟩
   have gg : GI C ⟨s, f, 0⟩ := ⟨hs, hV, hT, by simp only; omega, by simp only; omega⟩
   have g := z9l hC hL x (infOf s.V x).lv f.toNat ⟨s, f, 0⟩ t 0 gg h0 (fun _ => hfit)
   have z := zre hC hL hl x (infOf s.V x).lv f.toNat ⟨s, f, 0⟩ t 0 gg h0 (fun _ => hfit)
   have b := zt8 hC hL x (infOf s.V x).lv f.toNat ⟨s, f, 0⟩ t 0 gg h0 (fun _ => hfit) (Int.le_refl _) (by omega)
   generalize z0r x (infOf s.V x).lv l f.toNat ⟨s, f, 0⟩ t 0 = w at *
   obtain ⟨w1, ws, wf, we⟩ := w
   have gV := g.1.V
   have gT := g.1.T
   dsimp only at *
   split
   · rename_i he; exact ⟨g.1.ok, by dsimp only; omega, by dsimp only; omega, fun h => absurd h he⟩
   · rename_i he
     have he : we = 0 := by simpa using he
     have z := (z he).2
     refine ⟨g.1.ok, by dsimp only; omega, by dsimp only; omega, fun _ => ⟨g.2.2, g.2.1, gV, gT, ?_, zmh _ b⟩⟩
     dsimp only
     rw [zan]
     omega
end Go.AM

set_option maxRecDepth 100000
open Go Go.Proofs
namespace Go.AM
theorem onK_P (m : Int) (hm : m ≤ 1000) : ∀ (bs : List Bool) (i : Int), 0 ≤ i → i + (bs.length : Int) ≤ m → (onK m bs i).length ≤ bs.length ∧ ∀ t ∈ onK m bs i, t.sz = 1 ∧ bd 2199023255552 t
 | [], i, _, _ => ⟨Nat.le_refl _, fun t h => by rw [onK] at h; cases h⟩
 | b :: bs, i, h0, h1 => by
  simp only [List.length_cons] at h1
  have ih := onK_P m hm bs (i + 1) (by omega) (by omega)
  rw [onK]
  split
  · refine ⟨by simp only [List.length_cons]; omega, fun t ht => ?_⟩
    rcases List.mem_cons.1 ht with rfl | ht
    · exact bnd_P (n := m - 1 - i) (by omega) (by omega)
    · exact ih.2 t ht
  · exact ⟨by simp only [List.length_cons]; omega, ih.2⟩
theorem zm4 {s : Sto} (hV : s.V.length ≤ 1073741824) {K : List Bool} (hK : K.length ≤ 900) : (z5z s K.length (onK (K.length : Int) K 0)).sz ≤ 40000 ∧ bd 2199023255552 (z5z s K.length (onK (K.length : Int) K 0)) := by
 have o := onK_P (K.length : Int) (by omega) K 0 (Int.le_refl _) (by omega)
 exact zj3 hV hK (by omega) o.2
theorem c_kprune {s : Sto} (hV : s.V.length ≤ 1073741824) (hT : s.T.length ≤ 1073741824) (x : Int) {K : List Bool} (hK : K.length ≤ 900) : AC Tryz.prog 155 [aS 0, ci x, .c (.a (.fz (.sl false 1 (BR K))))] (oS s) (ci (z7d s x)) (oS' (z38 s x K)) := by
 have o := onK_P (K.length : Int) (by omega) K 0 (Int.le_refl _) (by omega)
 have hp := zm4 hV hK
 exact c_iprune s x K (by omega) (c_hang s x _ _ _ (by omega) (by omega) (by omega) (by omega) (by have := hp.1; simp only [B]; omega) (z6a (by simp only [M61]; omega) _ hp.2))
theorem zsl {s : Sto} (hs : OKS s) (hV : s.V.length ≤ 1073741824) (x : Int) {K : List Bool} (hK : K.length ≤ 900) : OKS (z38 s x K) ∧ (z38 s x K).V.length ≤ s.V.length + 1 ∧ (z38 s x K).T.length ≤ s.T.length + 1 := by
 have hp := zm4 hV hK
 unfold z38
 split
 · have e1 := z7i s (infOf s.V x).lv
   have e2 := z6p (freshS s (infOf s.V x).lv) x (z5z s K.length (onK (K.length : Int) K 0))
   rw [e1.2] at e2
   exact ⟨hs.hang x _ hp, by rw [z2s, z0p, e1.1]; omega, by rw [z2s]; omega⟩
 · exact ⟨hs, by omega, by omega⟩
def zjv (C : Nat) (g : Int) (z : Int × Sto × Int) : Prop :=
 OKS z.2.1 ∧ z.2.1.V.length ≤ C ∧ z.2.1.T.length ≤ C ∧ (z.1 = 0 → 0 ≤ z.2.2 ∧ z.2.2 ≤ g ∧ z.2.1.V.length + z.2.2.toNat ≤ C ∧ z.2.1.T.length + z.2.2.toNat ≤ C)
theorem z4z {s : Sto} (hs : OKS s) {g : Int} (h0 : 0 ≤ g) {x : SD} (hx : ∀ t ∈ x.a, okP (g.toNat + 1) t) :
  (∀ t ∈ (z03 s g x).1.1, lfP t) ∧ ((z03 s g x).1.1.length : Int) ≤ g ∧ 0 ≤ (z03 s g x).2 ∧ (z03 s g x).2 ≤ g := by
 have ha := z6q hs x.h.n x.a g (fun t ht _ => (hx t ht).2.mono (by omega))
 unfold z03
 by_cases q : (z1e s x.h.n x.a g).2.2 = 0
 · have a2 := ha.2.1 h0 q
   rw [if_pos q]
   exact ⟨ha.1, by dsimp only; omega, by dsimp only; omega, by dsimp only; omega⟩
 · rw [if_neg q]
   have e := ha.2.2 q
   exact ⟨ha.1, by dsimp only; rw [e]; simpa using h0, h0, Int.le_refl _⟩
theorem zf7 {s : Sto} (hs : OKS s) (n : Nat) (R : List (List FV)) {g : Int} (h0 : 0 ≤ g) {x : SD} (hx : ∀ t ∈ x.a, okP (g.toNat + 1) t) (hl : x.a.length ≤ SZ) :
  AC Tryz.prog 153 [aWk, aSD x] (oWk s n R g) (aLvE (z03 s g x).1) (oWk s n R (z03 s g x).2) := by
 refine zoh s hs n R g x (by simp only [SZ] at hl; omega) (by omega) fun t ht => ⟨?_, fun _ => (hx t ht).2.mono (by omega)⟩
 have := (hx t ht).2.sz
 simp only [SZ, B] at *; omega
theorem okP.B {F : Nat} {t : Tm} (h : okP F t) : t.sz ≤ B := by have := h.2.sz; simp only [SZ, Go.AM.B] at *; omega
section
variable {C : Nat} (hC : C ≤ 1073741824) {s : Sto} (hs : OKS s) {g : Int} (h0 : 0 ≤ g) (h1 : g ≤ 156) (hV : s.V.length + g.toNat + 1 ≤ C) (hT : s.T.length + g.toNat + 1 ≤ C)
include hC hs h0 h1 hV hT
theorem zsa (x : SD) (hx : ∀ t ∈ x.a, okP (g.toNat + 1) t) {t : Tm} (ht : okP (g.toNat + 1) t) : zjv C g (z0v s g x t) := by
 have ll := z4z hs h0 hx
 unfold z0v
 split
 · rename_i q
   exact ⟨hs, by dsimp only; omega, by dsimp only; omega, fun e => absurd e q⟩
 · have iv := zh3 (C := C - 1) (by omega) hs x.h.n (l := (z03 s g x).1.1) (t := t) (f := (z03 s g x).2) ll.2.2.1 (by omega) (by omega) (by omega) (by omega) (fun _ => ht.2.mono (by omega))
   unfold z4s
   split
   · rename_i q
     exact ⟨iv.1, by dsimp only; omega, by dsimp only; omega, fun e => absurd e q⟩
   · rename_i q
     have q : (z05 s x.h.n (z03 s g x).1.1 t (z03 s g x).2).1.2.2 = 0 := by simpa using q
     have i4 := iv.2.2.2 q
     have bT := z6p (z05 s x.h.n (z03 s g x).1.1 t (z03 s g x).2).2 x.h.n (z05 s x.h.n (z03 s g x).1.1 t (z03 s g x).2).1.1
     have bV := z0p (z05 s x.h.n (z03 s g x).1.1 t (z03 s g x).2).2 x.h.n (z05 s x.h.n (z03 s g x).1.1 t (z03 s g x).2).1.1
     exact ⟨iv.1.bindL i4.2.2.2.2.1, by dsimp only; omega, by dsimp only; omega, fun _ => ⟨i4.1, by dsimp only; omega, by dsimp only; omega, by dsimp only; omega⟩⟩
theorem c_flex (n : Nat) (R : List (List FV)) (x y : SD) (hx : ∀ t ∈ x.a, okP (g.toNat + 1) t) (hl : x.a.length ≤ SZ) (hy : okP (g.toNat + 1) y.t) :
  AC Tryz.prog 138 [aWk, aSD x, aSD y] (oWk s n R g) (ci (z0v s g x y.t).1) (oWk' (z0v s g x y.t).2.1 n R (z0v s g x y.t).2.2) := by
 have ll := z4z hs h0 hx
 have iv := zh3 (C := C - 1) (by omega) hs x.h.n (l := (z03 s g x).1.1) (t := y.t) (f := (z03 s g x).2) ll.2.2.1 (by omega) (by omega) (by omega) (by omega) (fun _ => hy.2.mono (by omega))
 refine c_uflex s n R g x y (zf7 hs n R h0 hx hl) (fun _ => ?_)
 refine c_ubind s n R (z03 s g x).2 x (z03 s g x).1.1 y.t ?_ (fun q => ?_)
 · exact zrf (C := C - 1) (by omega) s x.h.n _ y.t _ ll.2.2.1 (by omega) hs (by omega) (by omega) (by omega) (fun u hu => by have := (ll.1 u hu).1; simp only [B]; omega) hy.B (fun _ => hy.2.mono (by omega))
 · have i4 := iv.2.2.2 q
   exact zpr _ _ _ (by omega) (by have := i4.2.2.2.2.1; simp only [B]; omega) i4.2.2.2.2.2
theorem prune_ok (x y : SD) (hx : ∀ t ∈ x.a, okP (g.toNat + 1) t) (hy : ∀ t ∈ y.a, okP (g.toNat + 1) t) : zjv C g (z1l s g x y) := by
 have ll := z4z hs h0 hx
 have lm := z4z hs ll.2.2.1 (x := y) (fun t ht => (hy t ht).mono (by omega))
 unfold z1l
 split
 · rename_i q; exact ⟨hs, by dsimp only; omega, by dsimp only; omega, fun e => absurd e q⟩
 · split
   · rename_i q; exact ⟨hs, by dsimp only; omega, by dsimp only; omega, fun e => absurd e q⟩
   · split
     · exact ⟨hs, by dsimp only; omega, by dsimp only; omega, fun e => by cases e⟩
     · split
       · exact ⟨hs, by dsimp only; omega, by dsimp only; omega, fun _ => ⟨lm.2.2.1, by dsimp only; omega, by dsimp only; omega, by dsimp only; omega⟩⟩
       · rename_i hlen _
         have kk := zsl hs (by omega) x.h.n (K := List.zipWith z1n (z03 s g x).1.1 (z03 s (z03 s g x).2 y).1.1) (by simp only [List.length_zipWith]; omega)
         exact ⟨kk.1, by dsimp only; omega, by dsimp only; omega, fun _ => ⟨lm.2.2.1, by dsimp only; omega, by dsimp only; omega, by dsimp only; omega⟩⟩
theorem c_prune' (n : Nat) (R : List (List FV)) (x y : SD) (hx : ∀ t ∈ x.a, okP (g.toNat + 1) t) (hxl : x.a.length ≤ SZ) (hy : ∀ t ∈ y.a, okP (g.toNat + 1) t) (hyl : y.a.length ≤ SZ) :
  AC Tryz.prog 137 [aWk, aSD x, aSD y] (oWk s n R g) (ci (z1l s g x y).1) (oWk' (z1l s g x y).2.1 n R (z1l s g x y).2.2) := by
 have ll := z4z hs h0 hx
 exact c_uprune s n R g x y (zf7 hs n R h0 hx hxl) (fun _ => zf7 hs n R ll.2.2.1 (fun t ht => (hy t ht).mono (by omega)) hyl) (by omega) (fun t ht => by have := (ll.1 t ht).1; simp only [B]; omega) (fun K hK => c_kprune (by omega) (by omega) x.h.n (by omega))
end
structure UI (C : Nat) (s : Sto) (f : Int) (st : List (Tm × Tm)) : Prop where
 ok : OKS s
 V : s.V.length + f.toNat ≤ C
 T : s.T.length + f.toNat ≤ C
 f1 : f ≤ 157
 fit : ∀ p ∈ st, okP f.toNat p.1 ∧ okP f.toNat p.2
 len : st.length + 200000000 * f.toNat ≤ 400000000000
theorem headV_B {s : Sto} (hs : OKS s) {f : Int} {t : Tm} (h0 : 0 ≤ f) (hf : z02 t = true → Fit f.toNat t) : (z0x s f t).1.sz ≤ B := by
 by_cases q : (z0x s f t).2.2 = 0
 · have := (z70 hs h0 hf q).2.1.sz
   simp only [SZ, B] at *; omega
 · have e : (z0x s f t).1 = noT := by
    unfold z0x at q ⊢
    split
    · rename_i hv
      rw [if_pos hv] at q
      split
      · rename_i h1; rw [if_pos h1] at q; exact absurd rfl q
      · rfl
    · rfl
   rw [e]; simp only [B]; decide
theorem c_look {s : Sto} (hs : OKS s) (n : Nat) (R : List (List FV)) {f : Int} (h0 : 0 ≤ f) {t : Tm} (h : okP f.toNat t) : AC Tryz.prog 133 [aWk, aT t] (oWk s n R f) (aSE (z0q s f t).1) (oWk s n R (z0q s f t).2) :=
 c_ulook s hs n R f t (by omega) h.B (fun _ => h.2) (headV_B hs h0 (fun _ => h.2))
theorem c_body {F : Nat} {t : Tm} (h : okP F t) : AC Tryz.prog 135 [aT t] [] (aT (z4m t)) [] := by
 refine c_ubody t h.B h.2.bd ?_
 have h1 := zd9 0 1 t 0
 have h2 := (shT 0 1 t 0).sz_eq
 have h3 := Tm.szs_length (shT 0 1 t 0).l
 have h4 := h.2.sz
 simp only [SZ] at h4; omega
section
variable {C : Nat} (hC : C ≤ 1073741824) {s : Sto} {f : Int} {p : Tm × Tm} {st : List (Tm × Tm)} (h : UI C s f (p :: st)) (hf : 0 < f)
include hC h hf
theorem zpz : zjv C (f - 1) (z0l s (f - 1) p).1 ∧ ((z0l s (f - 1) p).1.1 = 0 → (∀ q ∈ (z0l s (f - 1) p).2, okP (z0l s (f - 1) p).1.2.2.toNat q.1 ∧ okP (z0l s (f - 1) p).1.2.2.toNat q.2) ∧ (z0l s (f - 1) p).2.length ≤ 200000000) := by
 have hV := h.V
 have hT := h.T
 have hf1 := h.f1
 have hp := h.fit p List.mem_cons_self
 rw [show f.toNat = (f - 1).toNat + 1 by omega] at hp
 have bad : ∀ (e g : Int), e ≠ 0 → zjv C (f - 1) (e, s, g) := fun e g he => ⟨h.ok, by dsimp only; omega, by dsimp only; omega, fun q => absurd q he⟩
 unfold z0l
 split
 · rename_i q; exact ⟨bad _ _ q, fun e => absurd e q⟩
 rename_i q1
 have q1 : (z0q s (f - 1) p.1).1.2 = 0 := by simpa using q1
 have k1 := z7u h.ok (f := f - 1) (by omega) (t := p.1) hp.1 (x := (z0q s (f - 1) p.1).1.1) (g := (z0q s (f - 1) p.1).2) (by rw [← q1])
 generalize z0q s (f - 1) p.1 = z1 at *
 obtain ⟨⟨x, e1⟩, g1⟩ := z1
 dsimp only at *
 split
 · rename_i q; exact ⟨bad _ _ q, fun e => absurd e q⟩
 rename_i q2
 have q2 : (z0q s g1 p.2).1.2 = 0 := by simpa using q2
 have k2 := z7u h.ok (f := g1) k1.1 (t := p.2) (hp.2.mono (by omega)) (x := (z0q s g1 p.2).1.1) (g := (z0q s g1 p.2).2) (by rw [← q2])
 generalize z0q s g1 p.2 = z2 at *
 obtain ⟨⟨y, e2⟩, g⟩ := z2
 dsimp only at *
 have ox : okP (g.toNat + 1) x.t := k1.2.2.1.mono (by omega)
 have oy : okP (g.toNat + 1) y.t := k2.2.2.1
 have sx := z3s ox
 have sy := z3s oy
 have ex : x.a = (z04 x.t).2 := by rw [k1.2.2.2.1]; rfl
 have ey : y.a = (z04 y.t).2 := by rw [k2.2.2.2.1]; rfl
 rw [← ex] at sx
 rw [← ey] at sy
 have L1 : ∀ z, zjv C g z → zjv C (f - 1) z := fun z hz => ⟨hz.1, hz.2.1, hz.2.2.1, fun e => by have := hz.2.2.2 e; exact ⟨this.1, by omega, this.2.2.1, this.2.2.2⟩⟩
 have good : zjv C (f - 1) (0, s, g) := ⟨h.ok, by dsimp only; omega, by dsimp only; omega, fun _ => ⟨k2.1, by dsimp only; omega, by dsimp only; omega, by dsimp only; omega⟩⟩
 unfold z75
 split
 · refine ⟨good, fun _ => ⟨fun q hq => ?_, by simp⟩⟩
   rw [List.mem_singleton.1 hq]
   exact ⟨zkz ox, zkz oy⟩
 split
 · exact ⟨L1 _ (prune_ok hC h.ok k2.1 (by omega) (by omega) (by omega) x y sx.2.1 sy.2.1), fun _ => ⟨fun q hq => (nomatch hq), by simp⟩⟩
 split
 · exact ⟨L1 _ (zsa hC h.ok k2.1 (by omega) (by omega) (by omega) x sx.2.1 oy), fun _ => ⟨fun q hq => (nomatch hq), by simp⟩⟩
 split
 · exact ⟨L1 _ (zsa hC h.ok k2.1 (by omega) (by omega) (by omega) y sy.2.1 ox), fun _ => ⟨fun q hq => (nomatch hq), by simp⟩⟩
 split
 · exact ⟨bad _ _ (by decide), fun e => absurd (show (170 : Int) = 0 from e) (by decide)⟩
 · refine ⟨good, fun _ => ⟨fun q hq => ?_, ?_⟩⟩
   · have hm := List.of_mem_zip (a := q.1) (b := q.2) hq
     exact ⟨(sx.2.1 _ hm.1).mono (by dsimp only; omega), (sy.2.1 _ hm.2).mono (by dsimp only; omega)⟩
   · have := sx.2.2
     simp only [List.length_zip, SZ] at *; omega
theorem zb9 (e : (z0l s (f - 1) p).1.1 = 0) : UI C (z0l s (f - 1) p).1.2.1 (z0l s (f - 1) p).1.2.2 ((z0l s (f - 1) p).2 ++ st) ∧ (z0l s (f - 1) p).1.2.2 ≤ f - 1 := by
 have k := zpz hC h hf
 have k1 := k.1.2.2.2 e
 have k2 := k.2 e
 have hf1 := h.f1
 have hl := h.len
 simp only [List.length_cons] at hl
 refine ⟨⟨k.1.1, k1.2.2.1, k1.2.2.2, by omega, fun q hq => ?_, ?_⟩, k1.2.1⟩
 · rcases List.mem_append.1 hq with hq | hq
   · exact k2.1 q hq
   · have := h.fit q (List.mem_cons_of_mem _ hq)
     exact ⟨this.1.mono (by omega), this.2.mono (by omega)⟩
 · rw [List.length_append]; omega
theorem c_pair {n : Nat} {R : List (List FV)} (hn : n ≤ R.length) (hn2 : n ≤ 500000000000) : AC Tryz.prog 109 [aWk, aPr p] (oWk s n R (f - 1)) (ci (z0l s (f - 1) p).1.1) (oPa n R (z0l s (f - 1) p)) := by
 have hV := h.V
 have hT := h.T
 have hf1 := h.f1
 have hp := h.fit p List.mem_cons_self
 rw [show f.toNat = (f - 1).toNat + 1 by omega] at hp
 have g0 : (z0q s (f - 1) p.1).1.2 = 0 → 0 ≤ (z0q s (f - 1) p.1).2 ∧ (z0q s (f - 1) p.1).2 ≤ f - 1 := fun q1 => by
  have k1 := z7u h.ok (f := f - 1) (by omega) (t := p.1) hp.1 (x := (z0q s (f - 1) p.1).1.1) (g := (z0q s (f - 1) p.1).2) (by rw [← q1])
  exact ⟨k1.1, k1.2.1⟩
 refine c_upair s n R (f - 1) p hn hn2 (c_look h.ok n R (by omega) (hp.1.mono (by omega))) (fun q => c_look h.ok n R (g0 q).1 (hp.2.mono (by have := g0 q; omega))) (fun x y g e1 e2 => ?_)
 have g0 := g0 (by rw [e1])
 have k1 := z7u h.ok (f := f - 1) (by omega) (t := p.1) hp.1 (x := x) (g := (z0q s (f - 1) p.1).2) (by rw [← e1])
 have k2 := z7u h.ok (f := (z0q s (f - 1) p.1).2) g0.1 (t := p.2) (hp.2.mono (by omega)) (x := y) (g := g) e2
 have ox : okP (g.toNat + 1) x.t := k1.2.2.1.mono (by omega)
 have oy : okP (g.toNat + 1) y.t := k2.2.2.1
 have sx := z3s ox
 have sy := z3s oy
 have ex : x.a = (z04 x.t).2 := by rw [k1.2.2.2.1]; rfl
 have ey : y.a = (z04 y.t).2 := by rw [k2.2.2.2.1]; rfl
 have eh : x.h = (z04 x.t).1 := by rw [k1.2.2.2.1]; rfl
 rw [← ex, ← eh] at sx
 rw [← ey] at sy
 exact ⟨c_body ox, c_body oy, sx.1.B, by have := sx.2.2; simp only [SZ] at this; omega, fun _ => c_prune' hC h.ok k2.1 (by omega) (by omega) (by omega) n R x y sx.2.1 sx.2.2 sy.2.1 sy.2.2,
  fun _ => c_flex hC h.ok k2.1 (by omega) (by omega) (by omega) n R x y sx.2.1 sx.2.2 oy, fun _ => c_flex hC h.ok k2.1 (by omega) (by omega) (by omega) n R y x sy.2.1 sy.2.2 ox⟩
end
theorem zq1 {C : Nat} (hC : C ≤ 1073741824) : ∀ (F : Nat) (s : Sto) (f : Int) (st : List (Tm × Tm)), UI C s f st → OKS (runW F s f st).2.1 ∧ (runW F s f st).2.1.V.length ≤ C ∧ (runW F s f st).2.1.T.length ≤ C ∧ (0 ≤ f → (runW F s f st).1 = 0 → 0 ≤ (runW F s f st).2.2 ∧ (runW F s f st).2.2 ≤ f ∧ (runW F s f st).2.1.V.length + (runW F s f st).2.2.toNat ≤ C ∧ (runW F s f st).2.1.T.length + (runW F s f st).2.2.toNat ≤ C)
 | F, s, f, [], h => by
  have e : runW F s f [] = (0, s, f) := by cases F <;> rfl
  have hV := h.V
  have hT := h.T
  rw [e]; exact ⟨h.ok, by dsimp only; omega, by dsimp only; omega, fun q _ => ⟨q, Int.le_refl _, hV, hT⟩⟩
 | 0, s, f, p :: st, h => by
  have hV := h.V
  have hT := h.T
  rw [runW]; exact ⟨h.ok, by dsimp only; omega, by dsimp only; omega, fun _ q => by cases q⟩
 | F + 1, s, f, p :: st, h => by
  have hV := h.V
  have hT := h.T
  rw [runW]
  split
  · exact ⟨h.ok, by dsimp only; omega, by dsimp only; omega, fun _ q => by cases q⟩
  rename_i hf
  have k := zpz hC h (by omega)
  split
  · rename_i q; exact ⟨k.1.1, k.1.2.1, k.1.2.2.1, fun _ e => absurd e q⟩
  rename_i q
  have q : (z0l s (f - 1) p).1.1 = 0 := by simpa using q
  have nx := zb9 hC h (by omega) q
  have r := zq1 hC F _ _ _ nx.1
  have k1 := k.1.2.2.2 q
  exact ⟨r.1, r.2.1, r.2.2.1, fun _ e => by have := r.2.2.2 k1.1 e; exact ⟨this.1, by omega, this.2.2⟩⟩
theorem c_urunU {C : Nat} (hC : C ≤ 1073741824) {s : Sto} {f : Int} {l : List (Tm × Tm)} (h0 : -9223372036854775808 ≤ f) (h : UI C s f l) :
  ∃ n' R', AC Tryz.prog 76 [aWk] (oWk s l.length (PTs l.reverse) f) (ci (runW f.toNat s f l).1) (oWk' (runW f.toNat s f l).2.1 n' R' (runW f.toNat s f l).2.2) := by
 have a1 : ∀ s f st, UI C s f st → st.length ≤ 500000000000 ∧ f ≤ 1000000000 := fun s f st h => ⟨by have := h.len; omega, by have := h.f1; omega⟩
 have a2 : ∀ s f p st n R, UI C s f (p :: st) → 0 < f → n ≤ R.length → n = st.length → AC Tryz.prog 109 [aWk, aPr p] (oWk s n R (f - 1)) (ci (z0l s (f - 1) p).1.1) (oPa n R (z0l s (f - 1) p)) := fun s f p st n R hI hf hn hl => by
  have := hI.len
  simp only [List.length_cons] at this
  exact c_pair hC hI hf hn (by omega)
 have a4 : List.take l.length (PTs l.reverse) = PTs l.reverse := List.take_of_length_le (by rw [z5k, List.length_reverse]; exact Nat.le_refl _)
 obtain ⟨n', R', hr⟩ := l_urun (I := UI C) a1 a2 (fun s f p st hI hf e => zb9 hC hI hf e) f.toNat s f l (PTs l.reverse) (Nat.le_refl _) h a4
 refine ⟨n', R', AC.vc hP sh z7r (by simp) (by simp [isLive]) (by simp [isLive]) (Eq.mpr (v76_i1 ..) ?_)⟩
 exact hr
theorem c_uallU {C : Nat} (hC : C ≤ 1073741824) {s : Sto} {f : Int} {l : List (Tm × Tm)} (h0 : -9223372036854775808 ≤ f) (hl : l.length ≤ 1000000) (hw : WF s) (ht : OKT s) (hz : ∀ p ∈ l, p.1.sz ≤ B ∧ p.2.sz ≤ B) (h : l.any badP = false → UI C s f l) :
  AC Tryz.prog 36 [aS 0, .c (.a (.fz (.sl false 8 (PTs l)))), ci f] (oS s) (aE2 (allF s l f).1) (oS' (allF s l f).2) := by
 refine c_uall s l f (by omega) hz (fun q _ => c_urunU hC h0 (h q)) (fun q _ => ?_)
 have r := zq1 hC f.toNat s f l (h q)
 have c := (zbz f.toNat s f l .refl).all hw ht
 have cut := c.2.2.cut ht
 exact zqo _ _ _ cut.1 (by omega) cut.2.1 c.2.1 cut.2.2
theorem z6t {s : Sto} {f : Int} {l : List (Tm × Tm)} (hw : WF s) (ht : OKT s) (h : (allF s l f).1.2 ≠ 0) : (allF s l f).2 = s ∧ (allF s l f).1.1 = 0 := by
 unfold allF at h ⊢
 split
 · exact ⟨rfl, rfl⟩
 · rename_i q
   rw [if_neg q] at h
   split
   · exact ⟨((zbz f.toNat s f l .refl).all hw ht).2.2.undo, rfl⟩
   · rename_i q2; rw [if_neg q2] at h; exact absurd rfl h
end Go.AM

set_option maxRecDepth 100000
open Go Go.Proofs
namespace Go.AM
section
variable {p : Int → Bool}
variable {m : Nat} (hp : ∀ i : Int, (m : Int) ≤ i → p i = true)
include hp
variable {C : Nat} (hC : C ≤ 1073741824) {L : List Tm} (hL : LP L) (hLv : ∀ t ∈ L, vP p t = true) (x lv : Int) {lv0 : Int → Int}
include hC hL hLv
end
section
variable {p : Int → Bool} {m : Nat} {lv0 : Int → Int} (hp : ∀ i : Int, (m : Int) ≤ i → p i = true)
include hp
omit hp in
theorem OI.bind {s : Sto} (h : OI p (-1) m lv0 s) {x : Int} (hx : p x = true) {t : Tm} (ht : vP p t = true) : OI p (-1) m lv0 (bindS s x t) := by
 have hl := h.len
 refine ⟨by rw [z0p]; exact hl, fun i h0 h1 => ?_, fun i h0 h1 hb => ?_, fun i hi hb => ?_⟩
 · rcases z50 (s := s) (y := x) (t := t) h0 (by omega) with h2 | ⟨h2, h3⟩
   · rw [h2]; exact h.lvl i h0 h1
   · rw [h3, ← h2]; exact h.lvl i h0 h1
 · rcases z50 (s := s) (y := x) (t := t) h0 (by omega) with h2 | ⟨h2, h3⟩
   · rw [h2] at hb; exact h.bnd i h0 h1 hb
   · rw [h2]; exact ⟨hx, by omega⟩
 · by_cases q : z3v s x t = true
   · rw [(z1p q).1] at hi
     rcases List.mem_or_eq_of_mem_set hi with hi | rfl
     · exact h.sv i hi hb
     · exact ht
   · rw [(z32 (by simpa using q)).1] at hi
     exact h.sv i hi hb
variable {C : Nat} (hC : C ≤ 1073741824) {s : Sto} {f : Int} {q : Tm × Tm} {st : List (Tm × Tm)} (h : UI C s f (q :: st)) (hf : 0 < f)
include hC h hf
end
end Go.AM

set_option maxRecDepth 100000
open Go Go.Proofs
namespace Go.AM
theorem valid_n {t : Tm} (hv : z02 t = true) (h4 : t.k = 4) : 0 ≤ t.n := by
 obtain ⟨k, s, n, l⟩ := t
 have h4 : k = 4 := h4
 show 0 ≤ n
 subst h4
 rw [z02] at hv
 simp at hv
 omega
end Go.AM

set_option maxRecDepth 100000
open Go Go.Proofs
namespace Go.AM
theorem c_unify (s : Sto) (a b : Tm) (f : Int) (h : AC Tryz.prog 36 [aS 0, .c (.a (.fz (.sl false 8 (PTs [(a, b)])))), ci f] (oS s) (aE2 (allF s [(a, b)] f).1) (oS' (allF s [(a, b)] f).2)) :
  AC Tryz.prog 32 [aS 0, aT a, aT b, ci f] (oS s) (aE2 (allF s [(a, b)] f).1) (oS' (allF s [(a, b)] f).2) := by
 generalize allF s [(a, b)] f = z at *
 obtain ⟨ak, a2, an, al⟩ := a
 obtain ⟨bk, bs, bn, bl⟩ := b
 refine AC.vc hP sh lv32 (by simp) (by simp [isLive]) (by simp [isLive]) (Eq.mpr (v32 ak a2 an (FTs al) bk bs bn (FTs bl) ..) ?_)
 exact ⟨⟨rfl, Nat.le_refl _⟩, z, h, .refl _, rfl⟩
theorem zc3 {t : Tm} {F : Nat} (hv : z02 t = true) (hz : t.sz ≤ 24) (hb : bd 1000 t) (hF : F ≤ 2000) : okP F t :=
 ⟨hv, z08 _ hv, by simp only [SZ]; omega, z6a (by simp only [M61, SZ]; omega) _ hb, by omega⟩
theorem zfy {s : Sto} (hs : OKS s) {C : Nat} {f : Int} (hV : s.V.length + f.toNat ≤ C) (hT : s.T.length + f.toNat ≤ C) (hf : f ≤ 157) {l : List (Tm × Tm)} (hl : l.length ≤ 1000) (hz : ∀ p ∈ l, (p.1.sz ≤ 24 ∧ bd 1000 p.1) ∧ p.2.sz ≤ 24 ∧ bd 1000 p.2) (h : l.any badP = false) : UI C s f l :=
 ⟨hs, hV, hT, hf, fun p hp => by
  have := List.any_eq_false.1 h p hp
  simp only [badP, Bool.or_eq_true, Bool.not_eq_true', not_or, Bool.not_eq_false] at this
  have hz := hz p hp
  exact ⟨zc3 this.1 hz.1.1 hz.1.2 (by omega), zc3 this.2 hz.2.1 hz.2.2 (by omega)⟩, by omega⟩
theorem zb2 {C : Nat} (hC : C ≤ 1073741824) {s : Sto} (hs : OKS s) (hw : WF s) (ht : OKT s) {f : Int} (h0 : -9223372036854775808 ≤ f) (hV : s.V.length + f.toNat ≤ C) (hT : s.T.length + f.toNat ≤ C) (hf : f ≤ 157) {a b : Tm} (ha : a.sz ≤ 24 ∧ bd 1000 a) (hb : b.sz ≤ 24 ∧ bd 1000 b) :
  AC Tryz.prog 32 [aS 0, aT a, aT b, ci f] (oS s) (aE2 (allF s [(a, b)] f).1) (oS' (allF s [(a, b)] f).2) := by
 have hz : ∀ p ∈ [(a, b)], (p.1.sz ≤ 24 ∧ bd 1000 p.1) ∧ p.2.sz ≤ 24 ∧ bd 1000 p.2 := fun p hp => by rw [List.mem_singleton.1 hp]; exact ⟨ha, hb⟩
 exact c_unify s a b f (c_uallU hC h0 (by simp) hw ht (fun p hp => by have := hz p hp; simp only [B]; omega) (fun h => zfy hs hV hT hf (by simp) hz h))
theorem zom {C : Nat} (hC : C ≤ 1073741824) {s : Sto} {f : Int} {l : List (Tm × Tm)} (hs : OKS s) (hw : WF s) (ht : OKT s) (h : l.any badP = false → UI C s f l) (hV : s.V.length ≤ C) (hT : s.T.length ≤ C) :
  OKS (allF s l f).2 ∧ WF (allF s l f).2 ∧ OKT (allF s l f).2 ∧ Ext s (allF s l f).2 ∧ (allF s l f).2.V.length ≤ C ∧ (allF s l f).2.T.length ≤ C := by
 by_cases e : (allF s l f).1.2 = 0
 · unfold allF at e ⊢
   split
   · exact ⟨hs, hw, ht, .refl _, hV, hT⟩
   · rename_i q
     rw [if_neg q] at e
     split
     · rename_i q2; rw [if_pos q2] at e; exact absurd e q2
     · have r := zq1 hC f.toNat s f l (h (by simpa using q))
       have c := (zbz f.toNat s f l .refl).all hw ht
       exact ⟨r.1, c.1, c.2.1, c.2.2, r.2.1, r.2.2.1⟩
 · rw [(z6t hw ht e).1]; exact ⟨hs, hw, ht, .refl _, hV, hT⟩
abbrev w17S : Sto := freshS sNil 0
abbrev w17f (t : Tm) : Tm := .mk 6 [] 0 [.mk 0 [102] 0 [], t]
abbrev w17a : Tm := .mk 0 [97] 0 []
def w17Z : (Int × Int) × Sto := allF w17S [(w17f (vx1 0), w17f (w17f w17a))] 20
theorem same_of {x y : Tm} (hx : x.sz ≤ B) (e : z1n x y = true) : AC Tryz.prog 25 [aT x, aT y] [] (cb true) [] := by
 have := c_rsame x hx y
 rw [e] at this; exact this
theorem zqt : AC Tryz.prog 27 [] [] (cb true) [] := by
 have ok : OKS w17S := fun i hi hb => by simp [freshS, sNil] at hi; subst hi; cases hb
 have wf : WF w17S := fun i hi hb => by simp [freshS, sNil] at hi; subst hi; rfl
 have ot : OKT w17S := fun i hi => by simp [freshS, sNil] at hi
 have sm : ∀ t : Tm, t.sz ≤ 24 → near 1000 t = true → t.sz ≤ 24 ∧ bd 1000 t := fun t h1 h2 => ⟨h1, zb6 _ h2⟩
 have u1 : AC Tryz.prog 32 [aS 0, aT (w17f (vx1 0)), aT (w17f (w17f w17a)), ci 20] (oS w17S) (aE2 w17Z.1) (oS' w17Z.2) := zb2 (C := 100) (by omega) ok wf ot (f := 20) (by omega) (by decide) (by decide) (by omega) (sm (w17f (vx1 0)) (by decide) (by decide)) (sm (w17f (w17f w17a)) (by decide) (by decide))
 have u2 := zb2 (C := 100) (by omega) ok wf ot (f := 20) (by omega) (by decide) (by decide) (by omega) (sm (.mk 5 [] 0 [vx1 0]) (by decide) (by decide)) (sm (.mk 5 [] 0 [w17f (.mk 3 [] 0 [])]) (by decide) (by decide))
 have u3 := zb2 (C := 100) (by omega) ok wf ot (f := 20) (by omega) (by decide) (by decide) (by omega) (sm (.mk 6 [] 0 [vx1 0, w17a]) (by decide) (by decide)) (sm (w17f w17a) (by decide) (by decide))
 have k : OKS w17Z.2 ∧ WF w17Z.2 ∧ OKT w17Z.2 ∧ Ext w17S w17Z.2 ∧ w17Z.2.V.length ≤ 100 ∧ w17Z.2.T.length ≤ 100 := zom (C := 100) (by omega) (s := w17S) (f := 20) (l := [(w17f (vx1 0), w17f (w17f w17a))]) ok wf ot (fun h => zfy ok (by decide) (by decide) (by omega) (by decide) (fun p hp => by rw [List.mem_singleton.1 hp]; exact ⟨sm (w17f (vx1 0)) (by decide) (by decide), sm (w17f (w17f w17a)) (by decide) (by decide)⟩) h) (by decide) (by decide)
 have hF := zfn w17Z.2 k.1 9 (vx1 0) (by omega) (by decide) (fun _ => fit_of (by decide +kernel))
 obtain ⟨c1, c2, c3⟩ := k.2.2.2.1.cut ot
 have hU := zqo w17Z.2 w17S.T.length w17S.V.length c1 (by have := k.2.2.2.2.2; omega) c2 k.2.2.1 c3
 rw [k.2.2.2.1.undo] at hU
 have e1 : w17Z.1.2 = 0 := by decide +kernel
 have e2 : (allF w17S [(.mk 5 [] 0 [vx1 0], .mk 5 [] 0 [w17f (.mk 3 [] 0 [])])] 20).1.2 = 170 := by decide +kernel
 have e3 : (allF w17S [(.mk 6 [] 0 [vx1 0, w17a], w17f w17a)] 20).1.2 = 171 := by decide +kernel
 have s2 : (allF w17S [(.mk 5 [] 0 [vx1 0], .mk 5 [] 0 [w17f (.mk 3 [] 0 [])])] 20).2 = w17S := (z6t wf ot (by rw [e2]; decide)).1
 have s3 : (allF w17S [(.mk 6 [] 0 [vx1 0, w17a], w17f w17a)] 20).2 = w17S := (z6t wf ot (by rw [e3]; decide)).1
 have eS : z1n (z1m w17Z.2 9 (vx1 0)).1 (w17f w17a) = true := by decide +kernel
 have zS : (z1m w17Z.2 9 (vx1 0)).1.sz ≤ B := by
  rw [(zhw _ _).1 eS]; simp only [B]; decide
 have hS := same_of zS eS
 rw [s2] at u2
 rw [s3] at u3
 generalize z1m w17Z.2 9 (vx1 0) = zF at *
 generalize w17Z = Z1 at *
 generalize (allF w17S [(.mk 5 [] 0 [vx1 0], .mk 5 [] 0 [w17f (.mk 3 [] 0 [])])] 20).1 = Z2 at *
 generalize (allF w17S [(.mk 6 [] 0 [vx1 0, w17a], w17f w17a)] 20).1 = Z3 at *
 obtain ⟨Z21, Z22⟩ := Z2
 obtain ⟨Z31, Z32⟩ := Z3
 obtain ⟨⟨Z11, Z12⟩, Z13⟩ := Z1
 dsimp only at e1 e2 e3
 subst e1; subst e2; subst e3
 have ap := fun (f a : Tm) (h : f.l.length + [a].length < 2199023255552) => z3d f [a] h
 refine AC.vc hP sh lv27 (Nat.le_refl _) (by simp) (by simp) (Eq.mpr (v27 ..) ?_)
 refine ⟨(), c_snew, (0, w17S), zff sNil 0 (by decide), _, _, zke w17S, ⟨rfl, Nat.le_refl _⟩,
  w17f (vx1 0), (ap (.mk 0 [102] 0 []) (vx1 0) (by decide)).args ⟨leT (l := []) z0c, zi2 (leFT (l := []) z0c), trivial⟩, ⟨rfl, Nat.le_refl _⟩,
  w17f w17a, (ap (.mk 0 [102] 0 []) w17a (by decide)).args ⟨leT (l := []) z0c, zi2 (leFT (l := []) z0c), trivial⟩, ⟨rfl, Nat.le_refl _⟩,
  w17f (w17f w17a), (ap (.mk 0 [102] 0 []) (w17f w17a) (by decide)).args ⟨leT (l := []) z0c, zi2 (LeR.refl _), trivial⟩,
  ((Z11, 0), Z13), u1, zF, hF.args ⟨.refl _, leT (l := []) z0c, .refl _, trivial⟩, ⟨rfl, Nat.le_refl _⟩,
  w17f w17a, (ap (.mk 0 [102] 0 []) w17a (by decide)).args ⟨leT (l := []) z0c, zi2 (leFT (l := []) z0c), trivial⟩, true, hS, w17S, hU,
  .mk 5 [] 0 [vx1 0], (zds 1 (vx1 0) (by omega)).args ⟨.refl _, leT (l := []) z0c, trivial⟩, ⟨rfl, Nat.le_refl _⟩,
  w17f (.mk 3 [] 0 []), (ap (.mk 0 [102] 0 []) (.mk 3 [] 0 []) (by decide)).args ⟨leT (l := []) z0c, zi2 (leFT (l := []) z0c), trivial⟩,
  .mk 5 [] 0 [w17f (.mk 3 [] 0 [])], zds 1 (w17f (.mk 3 [] 0 [])) (by omega), ((Z21, 170), w17S), u2, ⟨rfl, Nat.le_refl _⟩,
  .mk 6 [] 0 [vx1 0, w17a], (ap (vx1 0) w17a (by decide)).args ⟨leT (l := []) z0c, zi2 (leFT (l := []) z0c), trivial⟩, ⟨rfl, Nat.le_refl _⟩,
  w17f w17a, (ap (.mk 0 [102] 0 []) w17a (by decide)).args ⟨leT (l := []) z0c, zi2 (leFT (l := []) z0c), trivial⟩, ((Z31, 171), w17S), u3, ?_⟩
 exact z01 (fun _ => z01 (fun _ => z01 (fun _ => z01 (fun _ => ⟨_, _, zke w17S, z06 (by decide)⟩) (fun h => by simp at h)) (fun h => by simp at h)) (fun h => by simp at h)) (fun h => by simp at h)
end Go.AM

set_option maxRecDepth 100000
open Go Go.Proofs
namespace Go.AM
mutual
theorem zlv {q : Int → Bool} : ∀ (t : Tm) (acc : List Int), vP q t = true → (∀ v ∈ acc, q v = true) → ∀ v ∈ z1o t acc, q v = true
 | .mk k s n l, acc, h, ha => by
  have hl := h
  rw [vP, Bool.and_eq_true] at hl
  rw [z1o]
  split
  · exact zg4 l acc hl.2 ha
  · unfold z0t
    split
    · rename_i hk
      intro v hv
      rcases List.mem_append.1 hv with hv | hv
      · exact ha v hv
      · simp at hv
        rw [Bool.and_eq_true] at hk
        have h4 : k = 4 := by have : (k == 4) = true := hk.1; simpa using this
        subst hv
        exact vP_var h h4
    · exact ha
theorem zg4 {q : Int → Bool} : ∀ (l : List Tm) (acc : List Int), vPL q l = true → (∀ v ∈ acc, q v = true) → ∀ v ∈ z4b l acc, q v = true
 | [], _, _, ha => ha
 | t :: l, acc, h, ha => by
  rw [vPL, Bool.and_eq_true] at h
  rw [z4b]
  exact zg4 l _ h.2 (zlv t acc h.1 ha)
end
theorem hasI_mm {n : Int} {l : List Int} (h : hasI n l = true) : n ∈ l := by
 simp only [hasI, List.any_eq_true, beq_iff_eq] at h
 obtain ⟨y, hy, rfl⟩ := h
 exact hy
mutual
theorem zpy (W : List Int) : ∀ (t : Tm) (acc : List Int), okB t = true → (∀ v ∈ z1o t acc, v ∈ W) → vP (fun n => decide (n ∈ W)) t = true
 | .mk k s n l, acc, ho, h => by
  have hol := zbj ho
  rw [z1o] at h
  split at h
  · rename_i hk
    have h56 : k = 5 ∨ k = 6 := by simpa using hk
    have := zmk W l acc hol h
    rw [vP, this]
    simp; omega
  · rename_i hk
    have h5 : k ≠ 5 ∧ k ≠ 6 := by simpa using hk
    have hl : l = [] := okB0 ho h5.1 h5.2
    subst hl
    by_cases h4 : k = 4
    · subst h4
      have : n ∈ W := by
       unfold z0t at h
       split at h
       · exact h n (List.mem_append.2 (.inr (by simp [Tm.n])))
       · rename_i hc
         have hh : hasI n acc = true := by
          simp only [Tm.k, Tm.n] at hc
          simpa using hc
         exact h n (hasI_mm hh)
      rw [vP, vPL]; simp [this]
    · exact zfv h4 (fun t h => nomatch h)
theorem zmk (W : List Int) : ∀ (l : List Tm) (acc : List Int), okL l = true → (∀ v ∈ z4b l acc, v ∈ W) → vPL (fun n => decide (n ∈ W)) l = true
 | [], _, _, _ => rfl
 | t :: l, acc, ho, h => by
  simp only [okL, Bool.and_eq_true] at ho
  rw [z4b] at h
  have h2 := zmk W l _ ho.2 h
  have h1 := zpy W t acc ho.1 (fun v hv => h v (by
   obtain ⟨e, he⟩ := zbt l (z1o t acc)
   rw [he]; exact List.mem_append_left _ hv))
  rw [vPL, h1, h2]; rfl
end
theorem vP_imp {p q : Int → Bool} (hpq : ∀ n, p n = true → q n = true) : ∀ t : Tm, vP p t = true → vP q t = true := by
 refine Tm.ind fun t ih h => ?_
 obtain ⟨k, s, n, l⟩ := t
 rw [vP, Bool.and_eq_true] at h ⊢
 refine ⟨?_, z9p.2 fun u hu => ih u hu (z9p.1 h.2 u hu)⟩
 have := h.1
 simp only [Bool.or_eq_true] at this ⊢
 exact this.imp id (hpq n)
theorem valid_vP : ∀ t : Tm, z02 t = true → vP (fun n => decide (0 ≤ n)) t = true := by
 refine Tm.ind fun t ih h => ?_
 have hn := fun q => valid_n h q
 obtain ⟨k, s, n, l⟩ := t
 rw [vP, Bool.and_eq_true]
 refine ⟨?_, z9p.2 fun u hu => ?_⟩
 · by_cases h4 : k = 4
   · have := hn h4
     simp only [Bool.or_eq_true, decide_eq_true_eq]; exact .inr this
   · simp [h4]
 · by_cases h56 : k = 5 ∨ k = 6
   · exact ih u hu (z1v h h56 u hu)
   · rw [not_or] at h56
     have : l = [] := okB0 (z08 _ h) h56.1 h56.2
     subst this; cases hu
end Go.AM

set_option maxRecDepth 100000
open Go Go.Proofs
namespace Go.AM
theorem IR_mid (a : List Int) (v : Int) (b : List Int) : List.getD (IR (a ++ v :: b)) (Int.toNat (a.length : Int)) [] = [.int .i64 v] := by simp [IR, List.getD]
theorem IR_len (l : List Int) : (IR l).length = l.length := by simp [IR]
theorem varsV (t : Tm) (hv : z02 t = true) (hz : t.sz ≤ 24) : (∀ v ∈ z1o t [], 0 ≤ v) ∧ (z1o t []).length ≤ 24 ∧ vP (fun n => decide (n ∈ z1o t [])) t = true := by
 refine ⟨fun v h => of_decide_eq_true (zlv t [] (valid_vP t hv) (fun v h => nomatch h) v h), ?_, zpy _ t [] (z08 _ hv) fun v h => h⟩
 have := z59 t []
 simp only [List.length_nil] at this; omega
section
variable (ls : List Int) (la lb : List Tm) (h8 : ls.length ≤ 8)
include h8
variable (hab : la.length = lb.length) (ha8 : la.length ≤ 8) (hza : ∀ t ∈ la, t.sz ≤ 24 ∧ bd 1000 t) (hzb : ∀ t ∈ lb, t.sz ≤ 24 ∧ bd 1000 t)
include hab ha8 hza hzb
end
end Go.AM

set_option maxRecDepth 100000
open Go Go.Proofs
namespace Go.AM
def gB (p : Int → Int → Bool) (k n d : Int) : Bool := if k = 3 then decide (n < d) else (decide (k ≠ 4) && decide (k ≠ 1)) || p k n
mutual
def wG (p : Int → Int → Bool) : Tm → Int → Bool
 | .mk k _ n l, d => gB p k n d && (if (k == 5 || k == 6) = true then wGL p l (d + if (k == 5) = true then 1 else 0) else true)
def wGL (p : Int → Int → Bool) : List Tm → Int → Bool
 | [], _ => true
 | t :: l, d => wG p t d && wGL p l d
end
section
variable {p : Int → Int → Bool}
theorem zrh : ∀ {l : List Tm} {d : Int}, wGL p l d = true ↔ ∀ t ∈ l, wG p t d = true
 | [], _ => ⟨fun _ t h => (by cases h), fun _ => rfl⟩
 | t :: l, d => by
  rw [wGL, Bool.and_eq_true, zrh (l := l)]
  exact ⟨fun h u hu => (List.mem_cons.1 hu).elim (fun e => e ▸ h.1) (h.2 u), fun h => ⟨h t List.mem_cons_self, fun u hu => h u (List.mem_cons_of_mem _ hu)⟩⟩
theorem z57 {k n d : Int} {s : List UInt8} {l : List Tm} : wG p (.mk k s n l) d = true ↔ gB p k n d = true ∧ (k = 5 ∨ k = 6 → ∀ t ∈ l, wG p t (d + if (k == 5) = true then 1 else 0) = true) := by
 rw [wG, Bool.and_eq_true]
 by_cases h : k = 5 ∨ k = 6
 · rw [if_pos (by simpa using h), zrh]
   exact ⟨fun x => ⟨x.1, fun _ => x.2⟩, fun x => ⟨x.1, x.2 h⟩⟩
 · rw [if_neg (by simpa using h)]
   exact ⟨fun x => ⟨x.1, fun q => absurd q h⟩, fun x => ⟨x.1, rfl⟩⟩
theorem zlr {k n d : Int} (h3 : k ≠ 3) (h4 : k ≠ 4) (h1 : k ≠ 1) : gB p k n d = true := by simp [gB, h3, h4, h1]
theorem gB_mono {k n d e : Int} (h : gB p k n d = true) (hd : d ≤ e) : gB p k n e = true := by
 unfold gB at h ⊢
 split
 · rename_i h3; rw [if_pos h3] at h; have := of_decide_eq_true h; exact decide_eq_true (by omega)
 · rename_i h3; rw [if_neg h3] at h; exact h
theorem gB_imp {q : Int → Int → Bool} (hpq : ∀ k n, p k n = true → q k n = true) {k n d : Int} (h : gB p k n d = true) : gB q k n d = true := by
 unfold gB at h ⊢
 split
 · rename_i h3; rw [if_pos h3] at h; exact h
 · rename_i h3
   rw [if_neg h3, Bool.or_eq_true] at h
   rw [Bool.or_eq_true]
   exact h.imp id (hpq k n)
theorem z7c {q : Int → Int → Bool} (hpq : ∀ k n, p k n = true → q k n = true) : ∀ (t : Tm) {d e : Int}, d ≤ e → wG p t d = true → wG q t e = true := by
 refine Tm.ind fun t ih => ?_
 intro d e hd h
 obtain ⟨k, s, n, l⟩ := t
 rw [z57] at h ⊢
 exact ⟨gB_imp hpq (gB_mono h.1 hd), fun hk u hu => ih u hu (by omega) (h.2 hk u hu)⟩
theorem zj8 {t : Tm} {d e : Int} (h : wG p t d = true) (hd : d ≤ e) : wG p t e = true := z7c (fun _ _ h => h) t hd h
theorem zea {t u : Tm} {d : Int} (h : wG p t d = true) (h5 : t.k = 5) (hu : u ∈ t.l) : wG p u (d + 1) = true := by
 obtain ⟨k, s, n, l⟩ := t
 have h5 : k = 5 := h5
 subst h5
 exact (z57.1 h).2 (.inl rfl) u hu
theorem z4t {t u : Tm} {d : Int} (h : wG p t d = true) (h6 : t.k = 6) (hu : u ∈ t.l) : wG p u d = true := by
 obtain ⟨k, s, n, l⟩ := t
 have h6 : k = 6 := h6
 subst h6
 have := (z57.1 h).2 (.inr rfl) u hu
 rwa [if_neg (by decide), Int.add_zero] at this
theorem zjt {t : Tm} {d : Int} (h : wG p t d = true) (hk : t.k = 4 ∨ t.k = 1) : p t.k t.n = true := by
 obtain ⟨k, s, n, l⟩ := t
 have hk : k = 4 ∨ k = 1 := hk
 have := (z57.1 h).1
 unfold gB at this
 rw [if_neg (by omega)] at this
 show p k n = true
 rcases hk with rfl | rfl <;> simpa using this
theorem wG_six {s : List UInt8} {n d : Int} {l : List Tm} (h : ∀ t ∈ l, wG p t d = true) : wG p (.mk 6 s n l) d = true := by
 rw [z57]
 exact ⟨zlr (by decide) (by decide) (by decide), fun _ t ht => by rw [if_neg (by decide), Int.add_zero]; exact h t ht⟩
theorem zqb {s : List UInt8} {n d : Int} {t : Tm} (h : wG p t (d + 1) = true) : wG p (.mk 5 s n [t]) d = true := by
 rw [z57]
 exact ⟨zlr (by decide) (by decide) (by decide), fun _ u hu => by rw [List.mem_singleton.1 hu]; exact h⟩
theorem z4j {d : Int} : wG p noT d = true := rfl
theorem wG_dflt {d : Int} : wG p default d = true := rfl
theorem zqi {n d : Int} (h : n < d) : wG p (bV3 n) d = true := by
 show wG p (.mk 3 [] n []) d = true
 rw [z57]; exact ⟨by unfold gB; rw [if_pos rfl]; exact decide_eq_true h, fun _ t ht => nomatch ht⟩
theorem zhj {n d : Int} (h : p 4 n = true) : wG p (.mk 4 [] n []) d = true := by
 rw [z57]; exact ⟨by unfold gB; rw [if_neg (by decide), h, Bool.or_true], fun _ t ht => nomatch ht⟩
theorem z22 {f : Tm} {l : List Tm} {d : Int} (hf : wG p f d = true) (hl : ∀ t ∈ l, wG p t d = true) : wG p (z07 f l) d = true := by
 cases l with
 | nil => exact hf
 | cons x a =>
  by_cases h : (f.k == 6) = true ∧ f.l ≠ []
  · rw [show z07 f (x :: a) = .mk 6 [] 0 (f.l ++ (x :: a)) from if_pos h]
    have h6 : f.k = 6 := by simpa using h.1
    exact wG_six fun t ht => (List.mem_append.1 ht).elim (z4t hf h6) (hl t)
  · rw [show z07 f (x :: a) = .mk 6 [] 0 (f :: (x :: a)) from if_neg h]
    exact wG_six fun t ht => (List.mem_cons.1 ht).elim (fun e => e ▸ hf) (hl t)
theorem zd1 {l : List Tm} {d : Int} (h : ∀ t ∈ l, wG p t d = true) : wG p (hd l) d = true := by
 cases l with
 | nil => exact wG_dflt
 | cons a b => exact h _ List.mem_cons_self
theorem zm {t : Tm} {out : List Tm} {d : Int} (hk : t.k = 5 ∨ t.k = 6) (h : ∀ u ∈ out, wG p u (d + if (t.k == 5) = true then 1 else 0) = true) : wG p (z2z t out) d = true := by
 unfold z2z
 split
 · rename_i q
   have h6 : t.k = 6 := by simpa using q.1
   rw [h6, if_neg (by decide), Int.add_zero] at h
   exact z22 (show wG p (hd out) d = true from zd1 h) fun u hu => h u (List.mem_of_mem_tail hu)
 · rw [z57]
   exact ⟨zlr (by omega) (by omega) (by omega), fun _ => h⟩
theorem z8x {k n m d e : Int} {s s' : List UInt8} {l : List Tm} (h : wG p (.mk k s n l) d = true) (hk : ¬ (k = 5 ∨ k = 6)) (h3 : k = 3 → n < d → m < e) (hn : k ≠ 3 → m = n) : wG p (.mk k s' m l) e = true := by
 rw [z57] at h ⊢
 refine ⟨?_, fun q => absurd q hk⟩
 have h := h.1
 unfold gB at h ⊢
 split
 · rename_i q; rw [if_pos q] at h; exact decide_eq_true (h3 q (of_decide_eq_true h))
 · rename_i q; rw [if_neg q] at h; rw [hn q]; exact h
mutual
theorem sh_wG (by_ : Int) {d : Int} (hb : 0 ≤ d + by_) : ∀ (t : Tm) (e : Int), 0 ≤ e → wG p t (d + e) = true → wG p (shT 0 by_ t e) (d + by_ + e) = true
 | .mk k s n l, e, he, h => by
  unfold shT
  rw [z0m]
  split
  · rename_i hk
    have hk : k = 5 ∨ k = 6 := by simpa using hk
    rw [z57] at h
    exact zm hk (sh_wGs by_ hb l e _ (by split <;> simp) he (h.2 hk))
  · rename_i hk
    have hk : ¬ (k = 5 ∨ k = 6) := by simpa using hk
    unfold z3a
    split
    · rename_i q
      have q2 : e + 0 ≤ n := q.2
      exact z8x h hk (fun _ g => by show n + by_ < _; omega) (fun q3 => absurd (by simpa using q.1) q3)
    · rename_i q
      refine z8x h hk (fun q1 g => ?_) (fun _ => rfl)
      have : ¬ (e + 0 ≤ n) := fun q2 => q ⟨beq_iff_eq.2 (show k = 3 from q1), q2⟩
      omega
theorem sh_wGs (by_ : Int) {d : Int} (hb : 0 ≤ d + by_) : ∀ (l : List Tm) (e x : Int), (x = 0 ∨ x = 1) → 0 ≤ e → (∀ t ∈ l, wG p t (d + e + x) = true) → ∀ t ∈ z0b (z3a 0 by_) l (e + x), wG p t (d + by_ + e + x) = true
 | [], _, _, _, _, _ => fun t ht => by rw [z0b] at ht; cases ht
 | t :: l, e, x, hx, he, h => by
  rw [z0b]
  intro u hu
  rcases List.mem_cons.1 hu with rfl | hu
  · have := sh_wG by_ hb t (e + x) (by omega) (by rw [← Int.add_assoc]; exact h t List.mem_cons_self)
    rw [← Int.add_assoc] at this
    exact this
  · exact sh_wGs by_ hb l e x hx he (fun u hu => h u (List.mem_cons_of_mem _ hu)) u hu
end
mutual
theorem su_wG {c : Tm} {d : Int} (hd : 0 ≤ d) (hc : wG p c d = true) : ∀ (t : Tm) (e : Int), 0 ≤ e → wG p t (d + e + 1) = true → wG p (suT 0 c t e) (d + e) = true
 | .mk k s n l, e, he, h => by
  unfold suT
  rw [z0m]
  split
  · rename_i hk
    have hk : k = 5 ∨ k = 6 := by simpa using hk
    rw [z57] at h
    refine zm hk (su_wGs hd hc l e _ (by split <;> simp) he fun t ht => ?_)
    have := h.2 hk t ht
    rw [Int.add_right_comm] at this
    exact this
  · rename_i hk
    have hk : ¬ (k = 5 ∨ k = 6) := by simpa using hk
    unfold z2g
    split
    · rename_i q3
      have q3 : k = 3 := beq_iff_eq.1 q3
      split
      · rename_i q
        have q : n < e + 0 := q
        exact z8x h hk (fun _ g => by omega) (fun _ => rfl)
      · rename_i q
        have q : ¬ n < e + 0 := q
        split
        · have := sh_wG (p := p) e (d := d) (by omega) c 0 (Int.le_refl _) (by rw [Int.add_zero]; exact hc)
          rw [Int.add_zero] at this
          exact this
        · rename_i q2
          have q2 : ¬ n = e + 0 := fun e => q2 (beq_iff_eq.2 e)
          exact z8x h hk (fun _ g => by show n - 1 < _; omega) (fun g => absurd q3 g)
    · rename_i q3
      have q3 : k ≠ 3 := fun e => q3 (beq_iff_eq.2 e)
      exact z8x h hk (fun g => absurd g q3) (fun _ => rfl)
theorem su_wGs {c : Tm} {d : Int} (hd : 0 ≤ d) (hc : wG p c d = true) : ∀ (l : List Tm) (e x : Int), (x = 0 ∨ x = 1) → 0 ≤ e → (∀ t ∈ l, wG p t (d + e + x + 1) = true) → ∀ t ∈ z0b (z2g 0 c) l (e + x), wG p t (d + e + x) = true
 | [], _, _, _, _, _ => fun t ht => by rw [z0b] at ht; cases ht
 | t :: l, e, x, hx, he, h => by
  rw [z0b]
  intro u hu
  rcases List.mem_cons.1 hu with rfl | hu
  · have := su_wG hd hc t (e + x) (by omega) (by rw [← Int.add_assoc]; exact h t List.mem_cons_self)
    rw [← Int.add_assoc] at this
    exact this
  · exact su_wGs hd hc l e x hx he (fun u hu => h u (List.mem_cons_of_mem _ hu)) u hu
end
theorem con_wG {b a : Tm} {d : Int} (hd : 0 ≤ d) (hb : wG p b (d + 1) = true) (ha : wG p a d = true) : wG p (conF b a) d = true := by
 unfold conF
 split
 · have := su_wG hd ha b 0 (Int.le_refl _) (by rw [Int.add_zero]; exact hb)
   rw [Int.add_zero] at this
   exact this
 · exact z4j
def SG (p : Int → Int → Bool) (s : Sto) : Prop := ∀ x : Int, p 4 x = true → (infOf s.V x).bd = true → wG p (infOf s.V x).v 0 = true
theorem SG.val {s : Sto} (h : SG p s) {t : Tm} {d : Int} (ht : wG p t d = true) (hb : valB s t = true) : wG p (valS s t) 0 = true := by
 simp only [valB, Bool.and_eq_true, beq_iff_eq] at hb
 have := zjt ht (.inl hb.1)
 rw [hb.1] at this
 exact h t.n this hb.2
theorem step_wG {s : Sto} (h : SG p s) {t : Tm} {d : Int} (h0 : 0 ≤ d) (ht : wG p t d = true) : wG p (z0g s t).1 d = true := by
 unfold z0g
 split
 · rename_i q; exact zj8 (h.val ht q) h0
 · split
   · exact ht
   · rename_i q6
     have q6 : t.k = 6 := by simpa using q6
     have hh : wG p (hd t.l) d = true := zd1 fun u hu => z4t ht q6 hu
     split
     · rename_i q
       exact z22 (zj8 (h.val hh q) h0) fun u hu => z4t ht q6 (List.mem_of_mem_drop hu)
     · split
       · exact ht
       · rename_i q5
         have q5 : (hd t.l).k = 5 := by simpa using q5
         exact z22 (con_wG h0 (zd1 fun u hu => zea hh q5 hu) (zd1 fun u hu => z4t ht q6 (List.mem_of_mem_drop hu))) fun u hu => z4t ht q6 (List.mem_of_mem_drop hu)
theorem zjr {s : Sto} (h : SG p s) {d : Int} (hd : 0 ≤ d) : ∀ (F : Nat) (t : Tm), wG p t d = true → wG p (runH s F t).1 d = true
 | 0, t, ht => by
  rw [runH]
  split
  · exact ht
  · exact z4j
 | F + 1, t, ht => by
  rw [runH]
  split
  · exact ht
  · split
    · exact z4j
    · exact zjr h hd F _ (step_wG h hd ht)
theorem zef {s : Sto} (h : SG p s) {f : Int} {t : Tm} {d : Int} (hd : 0 ≤ d) (ht : wG p t d = true) : wG p (z0x s f t).1 d = true := by
 unfold z0x
 split
 · split
   · exact zjr h hd _ t ht
   · exact z4j
 · exact z4j
theorem zf2 {t : Tm} {d : Int} (ht : wG p t d = true) : wG p (z04 t).1 d = true ∧ ∀ u ∈ (z04 t).2, wG p u d = true := by
 unfold z04
 split
 · rename_i q
   exact ⟨zd1 fun u hu => z4t ht q.1 hu, fun u hu => z4t ht q.1 (List.mem_of_mem_drop hu)⟩
 · exact ⟨ht, fun u hu => nomatch hu⟩
theorem zey {fu : Int → Tm → Tm × Int × Int} {d : Int} (hfu : ∀ g t, wG p t d = true → wG p (fu g t).1 d = true) : ∀ (l : List Tm) (sk : Bool) (g : Int), (∀ t ∈ l, wG p t d = true) → ∀ t ∈ (z1h fu sk l g).1, wG p t d = true
 | [], _, _, _ => fun t ht => by rw [z1h] at ht; cases ht
 | t :: l, true, g, h => by
  rw [z1h]
  intro u hu
  rcases List.mem_cons.1 hu with rfl | hu
  · exact h _ List.mem_cons_self
  · exact zey hfu l false g (fun u hu => h u (List.mem_cons_of_mem _ hu)) u hu
 | t :: l, false, g, h => by
  rw [z1h]
  split
  · intro u hu; cases hu
  · intro u hu
    rcases List.mem_cons.1 hu with rfl | hu
    · exact hfu _ _ (h _ List.mem_cons_self)
    · exact zey hfu l false _ (fun u hu => h u (List.mem_cons_of_mem _ hu)) u hu
theorem zlh {s : Sto} (h : SG p s) : ∀ (D : Nat) (f : Int) (t : Tm) {d : Int}, 0 ≤ d → wG p t d = true → wG p (z0h s D f t).1 d = true
 | 0, f, t, d, hd, ht => z4j
 | D + 1, f, t, d, hd, ht => by
  rw [z0h]
  split
  · exact z4j
  · have hh : wG p (z73 s (f - 1) t).1 d = true := zjr h hd _ t ht
    generalize z73 s (f - 1) t = q at *
    obtain ⟨⟨k, str, n, l⟩, e, g⟩ := q
    dsimp only at hh
    unfold zid
    split
    · exact z4j
    · unfold z9x
      split
      · exact z4j
      · rw [z57] at hh
        show wG p (.mk k str n _) d = true
        rw [z57]
        exact ⟨hh.1, fun hk => zey (fun g u hu => zlh h D g u (by split <;> omega) hu) l _ _ (hh.2 hk)⟩
theorem rest_wG {b : Tm} (h6 : b.k = 6) {d : Int} (h : wG p b d = true) : wG p (zci b) d = true :=
 z22 (zd1 fun u hu => z4t h h6 hu) fun u hu => z4t h h6 (List.mem_of_mem_tail ((List.dropLast_sublist _).subset hu))
mutual
theorem zmj : ∀ (t : Tm) {d : Int}, 0 ≤ d → wG p t d = true → wG p (z09 t) d = true
 | .mk k s n l, d, hd, h => by
  rw [z57] at h
  rw [z09]
  split
  · rename_i h5
    have h5 : k = 5 := by simpa using h5
    subst h5
    have hl : ∀ u ∈ z0y l, wG p u (d + 1) = true := zce l (by omega) (h.2 (.inl rfl))
    split
    · rename_i q
      unfold z89
      rw [if_pos q]
      have h6 : (Go.AM.hd (z0y l)).k = 6 := by
       simp only [z40, Bool.and_eq_true, beq_iff_eq] at q
       exact q.1.1.1
      have := sh_wG (p := p) (-1) (d := d + 1) (by omega) (zci (Go.AM.hd (z0y l))) 0 (Int.le_refl _) (by rw [Int.add_zero]; exact rest_wG h6 (zd1 hl))
      rw [show d + 1 + -1 + 0 = d by omega] at this
      exact this
    · exact zqb (zd1 hl)
  · split
    · rename_i h6
      have h6 : k = 6 := by simpa using h6
      subst h6
      have hl : ∀ u ∈ z0y l, wG p u d = true := zce l hd (fun u hu => by
       have := h.2 (.inr rfl) u hu
       rwa [if_neg (by decide), Int.add_zero] at this)
      exact z22 (zd1 hl) fun u hu => hl u (List.mem_of_mem_tail hu)
    · rw [z57]; exact h
theorem zce : ∀ (l : List Tm) {d : Int}, 0 ≤ d → (∀ t ∈ l, wG p t d = true) → ∀ t ∈ z0y l, wG p t d = true
 | [], _, _, _ => fun t ht => by rw [z0y] at ht; cases ht
 | t :: l, d, hd, h => by
  rw [z0y]
  intro u hu
  rcases List.mem_cons.1 hu with rfl | hu
  · exact zmj t hd (h _ List.mem_cons_self)
  · exact zce l hd (fun u hu => h u (List.mem_cons_of_mem _ hu)) u hu
end
theorem FullV_wG {s : Sto} (h : SG p s) {f : Int} {t : Tm} {d : Int} (hd : 0 ≤ d) (ht : wG p t d = true) : wG p (z1m s f t).1 d = true := by
 unfold z1m
 split
 · split
   · exact zmj _ hd (zlh h _ _ _ hd ht)
   · exact z4j
 · exact z4j
mutual
theorem zmg : ∀ (t : Tm) (d acc : Int), wG p t d = true → 0 ≤ acc → z2x t d acc = acc
 | .mk k s n l, d, acc, h, ha => by
  rw [z57] at h
  rw [z2x]
  split
  · rename_i h5
    have h5 : k = 5 := by simpa using h5
    subst h5
    exact zbb l (d + 1) acc (h.2 (.inl rfl)) ha
  · split
    · rename_i h6
      have h6 : k = 6 := by simpa using h6
      subst h6
      exact zbb l d acc (fun u hu => by
       have := h.2 (.inr rfl) u hu
       rwa [if_neg (by decide), Int.add_zero] at this) ha
    · split
      · rename_i h3
        have h3 : k = 3 := by simpa using h3
        have := h.1
        unfold gB at this
        rw [if_pos h3] at this
        have := of_decide_eq_true this
        unfold maxI
        split <;> omega
      · rfl
theorem zbb : ∀ (l : List Tm) (d acc : Int), (∀ t ∈ l, wG p t d = true) → 0 ≤ acc → z64 l d acc = acc
 | [], _, _, _, _ => rfl
 | t :: l, d, acc, h, ha => by
  rw [z64, zmg t d acc (h _ List.mem_cons_self) ha]
  exact zbb l d acc (fun u hu => h u (List.mem_cons_of_mem _ hu)) ha
end
end
end Go.AM

set_option maxRecDepth 100000
open Go Go.Proofs
namespace Go.AM
def inP (s : Sto) (k n : Int) : Bool := decide (k ≠ 4) || inB s.V n
def lvP (s : Sto) (L : Int) (k n : Int) : Bool := if k = 4 then inB s.V n && decide ((infOf s.V n).lv ≤ L) else decide (n ≤ L)
structure LvS (s : Sto) : Prop where
 val : ∀ x : Int, (infOf s.V x).bd = true → wG (lvP s (infOf s.V x).lv) (infOf s.V x).v 0 = true
 nn : LV0 s
theorem lvP_in {s : Sto} {L : Int} (k n : Int) (h : k = 4 → lvP s L k n = true) : inP s k n = true := by
 unfold inP
 by_cases q : k = 4
 · have := h q
   unfold lvP at this
   rw [if_pos q, Bool.and_eq_true] at this
   rw [this.1, Bool.or_true]
 · simp [q]
theorem wG_in {s : Sto} {L : Int} {t : Tm} {d e : Int} (hd : d ≤ e) (h : wG (lvP s L) t d = true) : wG (inP s) t e = true := z7c (fun k n h => lvP_in k n fun _ => h) t hd h
theorem lvP_le {s : Sto} {L M : Int} (h : L ≤ M) (k n : Int) (hk : lvP s L k n = true) : lvP s M k n = true := by
 unfold lvP at hk ⊢
 split
 · rename_i q
   rw [if_pos q, Bool.and_eq_true] at hk
   rw [hk.1, Bool.true_and]
   have := of_decide_eq_true hk.2
   exact decide_eq_true (by omega)
 · rename_i q
   rw [if_neg q] at hk
   have := of_decide_eq_true hk
   exact decide_eq_true (by omega)
theorem LvS.sgL {s : Sto} (h : LvS s) (L : Int) : SG (lvP s L) s := fun x hx hb => by
 unfold lvP at hx
 rw [if_pos rfl, Bool.and_eq_true] at hx
 have := of_decide_eq_true hx.2
 exact z7c (lvP_le this) _ (Int.le_refl _) (h.val x hb)
theorem LvS.sgI {s : Sto} (h : LvS s) : SG (inP s) s := fun x _ hb => wG_in (Int.le_refl _) (h.val x hb)
theorem z3x {V : List Inf} {x : Int} : inB V x = true ↔ 0 ≤ x ∧ x < (V.length : Int) := by simp [inB]
def Keeps (s s' : Sto) : Prop := ∀ x : Int, inB s.V x = true → inB s'.V x = true ∧ (infOf s'.V x).lv = (infOf s.V x).lv
theorem Keeps.refl (s : Sto) : Keeps s s := fun _ h => ⟨h, rfl⟩
theorem Keeps.trans {a b c : Sto} (h1 : Keeps a b) (h2 : Keeps b c) : Keeps a c := fun x h => by
 have a1 := h1 x h
 have a2 := h2 x a1.1
 exact ⟨a2.1, a2.2.trans a1.2⟩
theorem Keeps.fresh (s : Sto) (lv : Int) : Keeps s (freshS s lv) := fun x h => by
 have h0 := z3x.1 h
 exact ⟨z3x.2 ⟨h0.1, by rw [(z7i s lv).1]; omega⟩, by rw [z5g h0.1 h0.2]⟩
theorem Keeps.bind (s : Sto) (x : Int) (t : Tm) : Keeps s (bindS s x t) := fun y h => by
 have h0 := z3x.1 h
 refine ⟨z3x.2 ⟨h0.1, by rw [z0p]; exact h0.2⟩, ?_⟩
 rcases z50 (s := s) (y := x) (t := t) h0.1 h0.2 with h2 | ⟨h2, h3⟩
 · rw [h2]
 · rw [h3, h2]
theorem Chg.keeps {s s' : Sto} (h : Chg s s') : Keeps s s' := by
 induction h with
 | refl => exact .refl _
 | fresh lv _ ih => exact ih.trans (.fresh _ _)
 | bind x t _ ih => exact ih.trans (.bind _ _ _)
theorem Keeps.lvP {s s' : Sto} (h : Keeps s s') (L k n : Int) (hk : lvP s L k n = true) : lvP s' L k n = true := by
 unfold Go.AM.lvP at hk ⊢
 split
 · rename_i q
   rw [if_pos q, Bool.and_eq_true] at hk
   have := h n hk.1
   rw [this.1, this.2, hk.2]; rfl
 · rename_i q; rw [if_neg q] at hk; exact hk
theorem Keeps.inP {s s' : Sto} (h : Keeps s s') (k n : Int) (hk : inP s k n = true) : inP s' k n = true := by
 unfold Go.AM.inP at hk ⊢
 rw [Bool.or_eq_true] at hk ⊢
 exact hk.imp id fun q => (h n q).1
theorem LvS.fresh {s : Sto} (h : LvS s) (lv : Int) : LvS (freshS s lv) := by
 refine ⟨fun x hb => ?_, h.nn.fresh lv⟩
 by_cases hx : inB s.V x = true
 · have h0 := z3x.1 hx
   rw [z5g h0.1 h0.2] at hb ⊢
   exact z7c ((Keeps.fresh s lv).lvP _) _ (Int.le_refl _) (h.val x hb)
 · exfalso
   by_cases q : 0 ≤ x ∧ x < ((freshS s lv).V.length : Int)
   · obtain ⟨hl, e⟩ := z2c q.1 q.2
     have hq : x = (s.V.length : Int) := by
      have h1 := (z7i s lv).1
      have : ¬ (0 ≤ x ∧ x < (s.V.length : Int)) := fun w => hx (z3x.2 w)
      omega
     have : (infOf (freshS s lv).V x) = ⟨z0f [lv, 0], false, noT⟩ := by
      rw [e]
      simp only [freshS] at hl ⊢
      have e2 : x.toNat = s.V.length := by omega
      simp [e2]
     rw [this] at hb; cases hb
   · rw [z2o q] at hb; cases hb
theorem LvS.bind {s : Sto} (h : LvS s) (x : Int) (t : Tm) (ht : z3v s x t = true → wG (lvP s (infOf s.V x).lv) t 0 = true) : LvS (bindS s x t) := by
 refine ⟨fun y hb => ?_, h.nn.bind x t⟩
 by_cases hy : inB s.V y = true
 · have h0 := z3x.1 hy
   by_cases q : z3v s x t = true
   · rcases z50 (s := s) (y := x) (t := t) h0.1 h0.2 with h2 | ⟨h2, h3⟩
     · rw [h2] at hb ⊢
       exact z7c ((Keeps.bind s x t).lvP _) _ (Int.le_refl _) (h.val y hb)
     · rw [h3]
       exact z7c ((Keeps.bind s x t).lvP _) _ (Int.le_refl _) (ht q)
   · rw [(z32 (by simpa using q)).1] at hb ⊢; exact h.val y hb
 · exfalso
   rw [z2o (by rw [z0p]; exact fun w => hy (z3x.2 w))] at hb; cases hb
theorem zbf {p : Int → Int → Bool} : ∀ (n : Nat) {t : Tm} {d : Int}, wG p t (d + (n : Int)) = true → wG p (z4v n t) d = true
 | 0, t, d, h => by rw [z4v]; rw [show d + ((0 : Nat) : Int) = d by omega] at h; exact h
 | n + 1, t, d, h => by
  rw [z4v]
  refine zbf n (zqb ?_)
  rw [show d + (n : Int) + 1 = d + ((n + 1 : Nat) : Int) by omega]; exact h
theorem zhi (s : Sto) (lv : Int) : infOf (freshS s lv).V (s.V.length : Int) = ⟨z0f [lv, 0], false, noT⟩ ∧ inB (freshS s lv).V (s.V.length : Int) = true := by
 have h1 := (z7i s lv).1
 obtain ⟨hl, e⟩ := z2c (V := (freshS s lv).V) (x := (s.V.length : Int)) (by omega) (by omega)
 refine ⟨?_, z3x.2 ⟨by omega, by omega⟩⟩
 rw [e]
 simp [freshS]
theorem LvS.hang {s : Sto} (h : LvS s) (y lv : Int) (m : Nat) {on : List Tm} (hl : z0f [lv, 0] ≤ (infOf s.V y).lv) (ho : ∀ t ∈ on, ∀ s' : Sto, wG (lvP s' (infOf s.V y).lv) t (m : Int) = true) : LvS (z2s s y lv m on) := by
 refine (h.fresh lv).bind y _ fun q => ?_
 have hy := z5p q
 have fi := zhi s lv
 by_cases hn : y < (s.V.length : Int)
 · rw [z5g hy.1 hn]
   refine zbf m ?_
   rw [Int.zero_add]
   refine z22 (zhj ?_) fun t ht => ho t ht _
   unfold lvP
   rw [if_pos rfl, fi.1, fi.2, Bool.true_and]
   exact decide_eq_true hl
 · have : y = (s.V.length : Int) := by rw [(z7i s lv).1] at hy; omega
   subst this
   rw [fi.1]
   have hb : (infOf s.V (s.V.length : Int)) = noI := z2o (by omega)
   refine zbf m ?_
   rw [Int.zero_add]
   refine z22 (zhj ?_) fun t ht => ?_
   · unfold lvP
     rw [if_pos rfl, fi.1, fi.2, Bool.true_and]
     exact decide_eq_true (Int.le_refl _)
   · have := ho t ht (freshS s lv)
     rw [hb] at this
     exact z7c (lvP_le (by simp only [z0f, List.foldl]; omega)) _ (Int.le_refl _) this
theorem zo9 (a b : Int) : z0j [a, b] ≤ a ∧ z0j [a, b] ≤ b := by
 simp only [z0j, List.foldl, min, minOfLe]; split <;> omega
theorem zkg {p : Int → Int → Bool} {t : Tm} {d : Int} (hl : t.k = 3 ∨ t.k = 1) (h3 : t.k = 3 → t.n < d) (h1 : t.k = 1 → p 1 t.n = true) : wG p t d = true := by
 obtain ⟨k, s, n, l⟩ := t
 have hl : k = 3 ∨ k = 1 := hl
 rw [z57]
 refine ⟨?_, fun q => by omega⟩
 unfold gB
 split
 · rename_i q; exact decide_eq_true (h3 q)
 · rename_i q
   have : k = 1 := by omega
   subst this
   rw [show p 1 n = true from h1 rfl, Bool.or_true]
theorem zqj {p : Int → Int → Bool} {lv : Int} {L : List Tm} {t : Tm} {k : Int} (hl : t.k = 3 ∨ t.k = 1) (hk : 0 ≤ k) (hp : ∀ n : Int, n ≤ lv → p 1 n = true) (h : (imgT lv L t k).2 = true) : wG p (imgT lv L t k).1 (k + (L.length : Int)) = true := by
 unfold imgT at h ⊢
 split
 · rename_i q
   exact zkg hl (fun _ => by show t.n < _; omega) (fun e => absurd (q.1.symm.trans e) (by decide))
 · rename_i q
   rw [if_neg q] at h
   split
   · rename_i q2; exact zqi (by omega)
   · rename_i q2
     rw [if_neg q2] at h
     simp only [Bool.and_eq_true, beq_iff_eq, decide_eq_true_eq] at h
     exact zkg hl (fun e => absurd (e.symm.trans h.1) (by decide)) (fun _ => hp _ h.2)
theorem zje {p : Int → Int → Bool} (lv : Int) (L : List Tm) (k : Int) (m : Nat) (hk : 0 ≤ k) (hp : ∀ n : Int, n ≤ lv → p 1 n = true) : ∀ (l : List Tm) (i : Nat) (a : List Tm × List Tm), (∀ t ∈ l, t.k = 3 ∨ t.k = 1) → (∀ t ∈ a.2, wG p t (k + (L.length : Int)) = true) → ∀ t ∈ (imgs lv L k m l i a).2, wG p t (k + (L.length : Int)) = true
 | [], _, _, _, h => h
 | t :: l, i, a, hl, h => by
  rw [imgs]
  refine zje lv L k m hk hp l (i + 1) _ (fun u hu => hl u (List.mem_cons_of_mem _ hu)) ?_
  split
  · rename_i q
    intro u hu
    rcases List.mem_append.1 hu with hu | hu
    · exact h u hu
    · rw [List.mem_singleton.1 hu]; exact zqj (hl t List.mem_cons_self) hk hp q
  · exact h
theorem zm1 {p : Int → Int → Bool} (lv : Int) (L : List Tm) (k : Int) (m : Nat) : ∀ (l : List Tm) (i : Nat) (a : List Tm × List Tm), i + l.length ≤ m → (∀ t ∈ a.1, wG p t (m : Int) = true) → ∀ t ∈ (imgs lv L k m l i a).1, wG p t (m : Int) = true
 | [], _, _, _, h => h
 | t :: l, i, a, hi, h => by
  rw [imgs]
  simp only [List.length_cons] at hi
  refine zm1 lv L k m l (i + 1) _ (by omega) ?_
  split
  · intro u hu
    rcases List.mem_append.1 hu with hu | hu
    · exact h u hu
    · rw [List.mem_singleton.1 hu]; exact zqi (by omega)
  · exact h
theorem zma {p : Int → Int → Bool} (c : Bool) (lvy k : Int) (n : Nat) {d : Int} (hd : k + (n : Int) ≤ d) : ∀ (l : List Tm) (i : Nat) (a : List Tm × List Tm), (∀ t ∈ a.2, wG p t d = true) → ∀ t ∈ (z53 c lvy k n l i a).2, wG p t d = true
 | [], _, _, h => h
 | t :: l, i, a, h => by
  rw [z53]
  refine zma c lvy k n hd l (i + 1) _ ?_
  split
  · intro u hu
    rcases List.mem_append.1 hu with hu | hu
    · exact h u hu
    · rw [List.mem_singleton.1 hu]; exact zqi (by omega)
  · exact h
theorem zkw {p : Int → Int → Bool} (c : Bool) (lvy k : Int) (n : Nat) {d : Int} (hp : ∀ n : Int, n ≤ lvy → p 1 n = true) : ∀ (l : List Tm) (i : Nat) (a : List Tm × List Tm), (∀ t ∈ a.1, wG p t d = true) → ∀ t ∈ (z53 c lvy k n l i a).1, wG p t d = true
 | [], _, _, h => h
 | t :: l, i, a, h => by
  rw [z53]
  refine zkw c lvy k n hp l (i + 1) _ ?_
  split
  · rename_i q
    simp only [Bool.and_eq_true, beq_iff_eq, decide_eq_true_eq] at q
    intro u hu
    rcases List.mem_append.1 hu with hu | hu
    · exact h u hu
    · rw [List.mem_singleton.1 hu]; exact zkg (.inr q.2.1) (fun e => absurd (e.symm.trans q.2.1) (by decide)) (fun _ => hp _ q.2.2)
  · exact h
theorem zle {s : Sto} {L : Int} (n : Int) (h : n ≤ L) : lvP s L 1 n = true := by unfold lvP; rw [if_neg (by decide)]; exact decide_eq_true h
section
variable {C : Nat} (hC : C ≤ 1073741824) {L : List Tm} (hL : LP L) (x : Int) {lv : Int} (hlv : 0 ≤ lv)
include hlv
theorem lv_flexG {q : IS} (h : LvS q.s) {y k : Int} (hk : 0 ≤ k) (hy : inB q.s.V y = true) {ls : List Tm} (hls : ∀ t ∈ ls, t.k = 3 ∨ t.k = 1) (f : Int) : LvS (z72 lv L q y k ls f).2.s ∧ wG (lvP (z72 lv L q y k ls f).2.s lv) (z72 lv L q y k ls f).1 (k + (L.length : Int)) = true := by
 unfold z72
 split
 · rename_i q1
   refine ⟨h, z22 (zhj ?_) (zje lv L k ls.length hk (fun n hn => zle n hn) ls 0 ([], []) hls (fun t h => nomatch h))⟩
   unfold lvP
   rw [if_pos rfl, hy, Bool.true_and]
   exact decide_eq_true q1.2
 · have hmin := zo9 lv (infOf q.s.V y).lv
   have hy0 := h.nn.of y
   have hle : ∀ L : Int, z0j [lv, (infOf q.s.V y).lv] ≤ L → 0 ≤ L → z0f [z0j [lv, (infOf q.s.V y).lv], 0] ≤ L := fun L h1 h2 => by
    simp only [z0f, List.foldl, max, maxOfLe]; split <;> omega
   refine ⟨h.hang y _ ls.length (hle _ hmin.2 hy0) (fun t ht s' => ?_), ?_⟩
   · exact zkw _ _ _ _ (fun n hn => zle n hn) L 0 _ (zm1 lv L k ls.length ls 0 ([], []) (by omega) (fun t h => nomatch h)) t ht
   · have fi := zhi q.s (z0j [lv, (infOf q.s.V y).lv])
     have kb := Keeps.bind (freshS q.s (z0j [lv, (infOf q.s.V y).lv])) y (z5z q.s ls.length (onF lv (infOf q.s.V y).lv L k ls).1) (q.s.V.length : Int) fi.2
     refine z22 (zhj ?_) (zma _ _ _ _ (Int.le_refl _) L 0 _ (zje lv L k ls.length hk (fun n hn => zle n hn) ls 0 ([], []) hls (fun t h => nomatch h)))
     unfold lvP
     rw [if_pos rfl]
     show (inB (z2s q.s y _ ls.length _).V _ && _) = true
     rw [z2s, kb.1, kb.2, fi.1, Bool.true_and]
     exact decide_eq_true (hle lv hmin.1 hlv)
include hC hL
omit hC hL hlv in
theorem zqe {tm : IS → Tm → Tm × IS} {f0 d : Int} (hgi : ∀ q t, GI C q → 0 ≤ q.f → q.f ≤ f0 → (q.e = 0 → z02 t = true → Fit q.f.toNat t) → GI C (tm q t).2 ∧ (tm q t).2.f ≤ q.f ∧ 0 ≤ (tm q t).2.f)
  (hch : ∀ q t, Keeps q.s (tm q t).2.s)
  (htm : ∀ q t, GI C q → 0 ≤ q.f → q.f ≤ f0 → (q.e = 0 → z02 t = true → Fit q.f.toNat t) → LvS q.s → (∃ e, 0 ≤ e ∧ wG (inP q.s) t e = true) → LvS (tm q t).2.s ∧ wG (lvP (tm q t).2.s lv) (tm q t).1 d = true) :
  ∀ (l : List Tm) (q : IS), GI C q → 0 ≤ q.f → q.f ≤ f0 → (∀ t ∈ l, z02 t = true → Fit q.f.toNat t) → LvS q.s → (∀ t ∈ l, ∃ e, 0 ≤ e ∧ wG (inP q.s) t e = true) →
   LvS (z2a tm l q).2.s ∧ Keeps q.s (z2a tm l q).2.s ∧ ∀ t ∈ (z2a tm l q).1, wG (lvP (z2a tm l q).2.s lv) t d = true
 | [], q, _, _, _, _, h, _ => ⟨h, .refl _, fun t ht => nomatch ht⟩
 | t :: l, q, h, h0, h1, hl, ho, hv => by
  have a := hgi q t h h0 h1 (fun _ => hl t List.mem_cons_self)
  have b := htm q t h h0 h1 (fun _ => hl t List.mem_cons_self) ho (hv t List.mem_cons_self)
  have c := hch q t
  have r := zqe hgi hch htm l (tm q t).2 a.1 a.2.2 (by omega) (fun u hu hv => (hl u (List.mem_cons_of_mem _ hu) hv).mono (by omega)) b.1 (fun u hu => by
   obtain ⟨e, he, hw⟩ := hv u (List.mem_cons_of_mem _ hu)
   exact ⟨e, he, z7c c.inP _ (Int.le_refl _) hw⟩)
  refine ⟨r.1, c.trans r.2.1, fun u hu => ?_⟩
  rcases List.mem_cons.1 hu with rfl | hu
  · exact z7c (r.2.1.lvP lv) _ (Int.le_refl _) b.2
  · exact r.2.2 u hu
theorem zpc : ∀ (D : Nat) (q : IS) (t : Tm) (k : Int), GI C q → 0 ≤ q.f → (q.e = 0 → z02 t = true → Fit q.f.toNat t) → LvS q.s → (∃ e, 0 ≤ e ∧ wG (inP q.s) t e = true) → 0 ≤ k →
  LvS (z0r x lv L D q t k).2.s ∧ wG (lvP (z0r x lv L D q t k).2.s lv) (z0r x lv L D q t k).1 (k + (L.length : Int)) = true
 | 0, q, t, k, h, h0, _, ho, _, _ => by
  rw [z0r]
  split
  · exact ⟨ho, z4j⟩
  · unfold z2i; split <;> exact ⟨ho, z4j⟩
 | D + 1, q, t, k, h, h0, hf, ho, ht, hk => by
  have bad : ∀ q : IS, LvS q.s → ∀ e : Int, LvS (z2i q e).s ∧ wG (lvP (z2i q e).s lv) noT (k + (L.length : Int)) = true := fun q hq e => by
   unfold z2i; split <;> exact ⟨hq, z4j⟩
  rw [z0r]
  split
  · exact ⟨ho, z4j⟩
  rename_i q1
  have e0 : q.e = 0 := by simpa using q1
  split
  · exact bad q ho _
  rename_i hf0
  have hfit : z02 t = true → Fit (q.f - 1).toNat t := fun hv => (hf e0 hv).mono (by omega)
  unfold zkb
  split
  · exact bad q ho _
  rename_i hz
  obtain ⟨e, he, hw⟩ := ht
  have ok := z70 h.ok (by omega) hfit (by simpa using hz)
  have hv := zf2 (zef ho.sgI (f := q.f - 1) he hw)
  generalize z0x q.s (q.f - 1) t = z at *
  obtain ⟨z1, z2, z3⟩ := z
  dsimp only at ok hv ⊢
  obtain ⟨hval, hfz, hz0, hz1⟩ := ok
  have sp := z3s ⟨hval, hfz⟩
  have g : GI C ⟨q.s, z2, q.e⟩ := h.less hz0 (by omega)
  have ih := fun q' t' k' => zpc D q' t' k'
  have gi := fun q' t' k' => z9l hC hL x lv D q' t' k'
  unfold z5x
  split
  · rename_i h5
    have hne : (z04 z1).1.l ≠ [] := fun e => by
     have o := z08 _ sp.1.1
     generalize (z04 z1).1 = w at *
     obtain ⟨wk, ws, wn, wl⟩ := w
     obtain ⟨u, hu, _⟩ := okB5 o h5
     rw [hu] at e; cases e
    have hm : hd (z04 z1).1.l ∈ (z04 z1).1.l := hd_mem hne
    have r := ih ⟨q.s, z2, q.e⟩ (hd (z04 z1).1.l) (k + 1) g hz0 (fun _ _ => sp.1.2.kid hm) ho ⟨e + 1, by omega, zea hv.1 h5 hm⟩ (by omega)
    exact ⟨r.1, zbf 1 (by rw [show k + (L.length : Int) + ((1 : Nat) : Int) = k + 1 + (L.length : Int) by omega]; exact r.2)⟩
  split
  · rename_i h4
    split
    · exact bad ⟨q.s, z2, q.e⟩ ho _
    have ha := z6q g.ok (z04 z1).1.n (z04 z1).2 z2 (fun t ht _ => (sp.2.1 t ht).2)
    unfold z33
    split
    · exact bad ⟨q.s, z2, q.e⟩ ho _
    rename_i hr
    have hr : (z1e q.s (z04 z1).1.n (z04 z1).2 z2).2.2 = 0 := by simpa using hr
    exact lv_flexG hlv (q := ⟨q.s, z2, q.e⟩) ho hk (ha.2.1 hz0 hr).2.2 (fun t ht => (ha.1 t ht).2.1) _
  · rename_i h4
    unfold zgr
    split
    · exact bad ⟨q.s, z2, q.e⟩ ho _
    rename_i hi
    have kk := zqe (C := C) (lv := lv) (d := k + (L.length : Int)) (tm := fun q t => z0r x lv L D q t k) (f0 := z2) (fun q' t' a b _ d => gi q' t' k a b d) (fun q' t' => (zaz x lv L D q' t' k .refl).keeps) (fun q' t' a b _ d e f => ih q' t' k a b d e f hk) (z04 z1).2 ⟨q.s, z2, q.e⟩ g hz0 (Int.le_refl _) (fun t ht _ => (sp.2.1 t ht).2) ho (fun t ht => ⟨e, he, hv.2 t ht⟩)
    refine ⟨kk.1, z22 ?_ kk.2.2⟩
    split
    · rename_i h31
      refine zqj h31 hk (fun n hn => zle n hn) ?_
      by_cases c : (imgT lv L (z04 z1).1 k).2 = true
      · exact c
      · exact absurd ⟨h31, by simpa using c⟩ hi
    · rename_i h5 h31
      have h6 : (z04 z1).1.k ≠ 6 := by
       unfold z04
       split
       · rename_i h6
         obtain ⟨zk, zs, zn, zl⟩ := z1
         obtain ⟨a, b, r, rfl, ha6, _⟩ := okB6 (z08 _ hval) h6.1
         exact ha6
       · rename_i h6
         exact fun q => h6 ⟨q, hval⟩
      generalize (z04 z1).1 = w at *
      obtain ⟨wk, ws, wn, wl⟩ := w
      have h5 : ¬ wk = 5 := h5
      have h4 : ¬ wk = 4 := h4
      have h6 : ¬ wk = 6 := h6
      have h31 : ¬ (wk = 3 ∨ wk = 1) := h31
      rw [z57]
      exact ⟨zlr (by omega) h4 (by omega), fun q => by omega⟩
end
end Go.AM

set_option maxRecDepth 100000
open Go Go.Proofs
namespace Go.AM
def PV (s : Sto) (t : Tm) : Prop := ∃ e : Int, 0 ≤ e ∧ wG (inP s) t e = true
theorem PV.keeps {s s' : Sto} {t : Tm} (h : PV s t) (k : Keeps s s') : PV s' t := by
 obtain ⟨e, he, hw⟩ := h
 exact ⟨e, he, z7c k.inP _ (Int.le_refl _) hw⟩
theorem zqa {p : Int → Int → Bool} (M : Int) : ∀ (bs : List Bool) (i : Int), 0 ≤ i → ∀ t ∈ onK M bs i, wG p t M = true
 | [], i, _, t, h => by rw [onK] at h; cases h
 | b :: bs, i, h0, t, h => by
  rw [onK] at h
  split at h
  · rcases List.mem_cons.1 h with rfl | h
    · exact zqi (n := M - 1 - i) (by omega)
    · exact zqa M bs (i + 1) (by omega) t h
  · exact zqa M bs (i + 1) (by omega) t h
theorem lv_prune {s : Sto} (h : LvS s) (x : Int) (K : List Bool) : LvS (z38 s x K) := by
 unfold z38
 split
 · have := h.nn.of x
   exact h.hang x _ _ (by simp only [z0f, List.foldl, max, maxOfLe]; split <;> omega) fun t ht s' => zqa _ K 0 (Int.le_refl _) t ht
 · exact h
theorem lv_bindF {C : Nat} (hC : C ≤ 1073741824) {s : Sto} (hs : OKS s) {f : Int} (h0 : 0 ≤ f) (hf : f ≤ 157) (hV : s.V.length + f.toNat ≤ C) (hT : s.T.length + f.toNat ≤ C) (h : LvS s) (x : Int) {l : List Tm} (hl : l.length ≤ 157) {t : Tm} (hfit : z02 t = true → Fit f.toNat t) (ht : PV s t) : LvS (z4s s f x l t).2.1 := by
 have key : LvS (z05 s x l t f).2 ∧ ((z05 s x l t f).1.2.2 = 0 → wG (lvP (z05 s x l t f).2 (infOf (z05 s x l t f).2.V x).lv) (z05 s x l t f).1.1 0 = true) := by
  have kp := (z9f (Chg.refl (s0 := s)) x l t f).keeps
  unfold z05 at kp ⊢
  split
  · exact ⟨h, fun e => by cases e⟩
  · rename_i hc
    simp only [Bool.or_eq_true, not_or] at hc
    have hx : inB s.V x = true := by have := hc.1.1.1; simpa using this
    have hlf : ∀ u ∈ l, z55 u = true := fun u hu => by have := List.any_eq_false.1 (by simpa using hc.2 : (l.any fun u => !z55 u) = false) u hu; simpa using this
    have hL : LP l := ⟨by omega, fun u hu => (z9e (hlf u hu)).1⟩
    have r := zpc hC hL x (lv := (infOf s.V x).lv) (h.nn.of x) f.toNat ⟨s, f, 0⟩ t 0 ⟨hs, hV, hT, by simp only; omega, by simp only; omega⟩ h0 (fun _ => hfit) h ht (Int.le_refl _)
    rw [if_neg (by simp only [Bool.or_eq_true, not_or]; exact hc)] at kp
    split
    · exact ⟨r.1, fun e => absurd e (by assumption)⟩
    · rename_i q
      rw [if_neg q] at kp
      refine ⟨r.1, fun _ => zbf _ ?_⟩
      rw [(kp x hx).2]
      exact r.2
 unfold z4s
 split
 · exact key.1
 · rename_i q
   exact key.1.bind x _ fun _ => key.2 (by simpa using q)
theorem zte {s : Sto} {t : Tm} (h : PV s t) : PV s (z4m t) := by
 obtain ⟨e, he, hw⟩ := h
 refine ⟨e + 1, by omega, ?_⟩
 unfold z4m
 split
 · split
   · rename_i h5
     exact zd1 fun u hu => zea hw h5 hu
   · have := sh_wG (p := inP s) 1 (d := e) (by omega) t 0 (Int.le_refl _) (by rw [Int.add_zero]; exact hw)
     rw [Int.add_zero] at this
     exact z22 this fun u hu => by rw [List.mem_singleton.1 hu]; exact zqi (n := 0) (by omega)
 · exact zj8 hw (by omega)
section
variable {C : Nat} (hC : C ≤ 1073741824) {s : Sto} {f : Int} {q : Tm × Tm} {st : List (Tm × Tm)} (h : UI C s f (q :: st)) (hf : 0 < f)
include hC h hf
theorem lv_pair (ho : LvS s) (h1 : PV s q.1) (h2 : PV s q.2) : LvS (z0l s (f - 1) q).1.2.1 ∧ ∀ r ∈ (z0l s (f - 1) q).2, PV (z0l s (f - 1) q).1.2.1 r.1 ∧ PV (z0l s (f - 1) q).1.2.1 r.2 := by
 have hV := h.V
 have hT := h.T
 have hf1 := h.f1
 have hq := h.fit q List.mem_cons_self
 rw [show f.toNat = (f - 1).toNat + 1 by omega] at hq
 have non : LvS s ∧ ∀ r ∈ ([] : List (Tm × Tm)), PV s r.1 ∧ PV s r.2 := ⟨ho, fun r hr => nomatch hr⟩
 have non' : ∀ {s' : Sto}, LvS s' → LvS s' ∧ ∀ r ∈ ([] : List (Tm × Tm)), PV s' r.1 ∧ PV s' r.2 := fun h => ⟨h, fun r hr => nomatch hr⟩
 unfold z0l
 split
 · exact non
 rename_i q1
 have q1 : (z0q s (f - 1) q.1).1.2 = 0 := by simpa using q1
 have k1 := z7u h.ok (f := f - 1) (by omega) (t := q.1) hq.1 (x := (z0q s (f - 1) q.1).1.1) (g := (z0q s (f - 1) q.1).2) (by rw [← q1])
 obtain ⟨d1, hd1, w1⟩ := h1
 have v1 := zef ho.sgI (f := f - 1) hd1 w1
 rw [k1.2.2.2.2] at v1
 generalize z0q s (f - 1) q.1 = z1 at *
 obtain ⟨⟨x, e1⟩, g1⟩ := z1
 dsimp only at *
 split
 · exact non
 rename_i q2
 have q2 : (z0q s g1 q.2).1.2 = 0 := by simpa using q2
 have k2 := z7u h.ok (f := g1) k1.1 (t := q.2) (hq.2.mono (by omega)) (x := (z0q s g1 q.2).1.1) (g := (z0q s g1 q.2).2) (by rw [← q2])
 obtain ⟨d2, hd2, w2⟩ := h2
 have v2 := zef ho.sgI (f := g1) hd2 w2
 rw [k2.2.2.2.2] at v2
 generalize z0q s g1 q.2 = z2 at *
 obtain ⟨⟨y, e2⟩, g⟩ := z2
 dsimp only at *
 have ox : okP (g.toNat + 1) x.t := k1.2.2.1.mono (by omega)
 have oy : okP (g.toNat + 1) y.t := k2.2.2.1
 have sx := z3s ox
 have sy := z3s oy
 have wx := zf2 v1
 have wy := zf2 v2
 have ex : x.a = (z04 x.t).2 := by rw [k1.2.2.2.1]; rfl
 have ey : y.a = (z04 y.t).2 := by rw [k2.2.2.2.1]; rfl
 rw [← ex] at sx wx
 rw [← ey] at sy wy
 have flex : ∀ {u : SD} {t : Tm}, (∀ t ∈ u.a, okP (g.toNat + 1) t) → okP (g.toNat + 1) t → PV s t → LvS (z0v s g u t).2.1 := fun {u t} a d e => by
  have ll := z4z h.ok k2.1 a
  unfold z0v
  split
  · exact ho
  · exact lv_bindF (C := C) hC h.ok ll.2.2.1 (by omega) (by omega) (by omega) ho _ (by omega) (fun _ => d.2.mono (by omega)) e
 unfold z75
 split
 · refine ⟨ho, fun r hr => ?_⟩
   rw [List.mem_singleton.1 hr]
   exact ⟨zte ⟨d1, hd1, v1⟩, zte ⟨d2, hd2, v2⟩⟩
 split
 · refine non' ?_
   unfold z1l
   split
   · exact ho
   · split
     · exact ho
     · split
       · exact ho
       · split
         · exact ho
         · exact lv_prune ho _ _
 split
 · exact non' (flex sx.2.1 oy ⟨d2, hd2, v2⟩)
 split
 · exact non' (flex sy.2.1 ox ⟨d1, hd1, v1⟩)
 split
 · exact non
 · refine ⟨ho, fun r hr => ?_⟩
   have hm := List.of_mem_zip (a := r.1) (b := r.2) hr
   exact ⟨⟨d1, hd1, wx.2 _ hm.1⟩, d2, hd2, wy.2 _ hm.2⟩
omit h hf in
theorem lv_run : ∀ (F : Nat) (s : Sto) (f : Int) (st : List (Tm × Tm)), UI C s f st → LvS s → (∀ r ∈ st, PV s r.1 ∧ PV s r.2) → LvS (runW F s f st).2.1
 | F, s, f, [], h, ho, _ => by
  have e : runW F s f [] = (0, s, f) := by cases F <;> rfl
  rw [e]; exact ho
 | 0, s, f, r :: st, h, ho, _ => by rw [runW]; exact ho
 | F + 1, s, f, r :: st, h, ho, hv => by
  rw [runW]
  split
  · exact ho
  rename_i hf
  have k := lv_pair hC h (by omega) ho (hv r List.mem_cons_self).1 (hv r List.mem_cons_self).2
  split
  · exact k.1
  rename_i e
  have e : (z0l s (f - 1) r).1.1 = 0 := by simpa using e
  have nx := zb9 hC h (by omega) e
  have kp := (zeq (Chg.refl (s0 := s)) (f - 1) r).keeps
  refine lv_run F _ _ _ nx.1 k.1 fun r' hr' => ?_
  rcases List.mem_append.1 hr' with hr' | hr'
  · exact k.2 r' hr'
  · have := hv r' (List.mem_cons_of_mem _ hr')
    exact ⟨this.1.keeps kp, this.2.keeps kp⟩
end
theorem lv_all {C : Nat} (hC : C ≤ 1073741824) {s : Sto} {f : Int} {l : List (Tm × Tm)} (hw : WF s) (ht : OKT s) (h : l.any badP = false → UI C s f l) (ho : LvS s) (hv : l.any badP = false → ∀ r ∈ l, PV s r.1 ∧ PV s r.2) : LvS (allF s l f).2 ∧ Keeps s (allF s l f).2 := by
 by_cases e : (allF s l f).1.2 = 0
 · unfold allF at e ⊢
   split
   · exact ⟨ho, .refl _⟩
   · rename_i q
     rw [if_neg q] at e
     split
     · rename_i q2; rw [if_pos q2] at e; exact absurd e q2
     · exact ⟨lv_run hC f.toNat s f l (h (by simpa using q)) ho (hv (by simpa using q)), (zbz f.toNat s f l .refl).keeps⟩
 · rw [(z6t hw ht e).1]; exact ⟨ho, .refl _⟩
end Go.AM
