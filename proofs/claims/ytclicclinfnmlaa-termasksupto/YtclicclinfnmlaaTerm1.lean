/- Contracts: near, left, large, long, over, row, the same. No conditions. -/
import Derived.Test.YtclicclinfnmlaaLex
set_option maxRecDepth 100000
open Go Go.Proofs
namespace Go.AM
/-! ### What is looked at -/
mutual
def near (most : Int) : Tm → Bool
  | .mk k _ n l => !(k != 2 && (decide (n > most) || decide (n < 0 - most))) && nears most l
def nears (most : Int) : List Tm → Bool
  | [] => true
  | t :: l => near most t && nears most l
end
theorem l_near (most : Int) (k : Int) (s : List UInt8) (n : Int) : ∀ (b a : List Tm), (∀ u ∈ b, AC Try.prog 55 [aT u, ci most] [] (cb (near most u)) []) → (a ++ b).length ≤ B →
    RPt Try.prog 55 0 (cb (nears most b)) [] 1 ⟨[(1, ci most), (2, (.c (.a (.ep 0 4 0 0)))), (5, ci a.length)], [(0, (.arr 4 [fzs (FT (.mk k s n (a ++ b)))]))], 1⟩
  | [], a, _, hl => by
    refine RPt.vc hP sh lv55 (Eq.mpr (v55_1a ..) ?_)
    exact ⟨rfl, br_of (fun h => absurd (of_decide_eq_true h) (geI' a)) (fun _ => ret_b rfl)⟩
  | t :: b, a, ih, hl => by
    refine RPt.vc hP sh lv55 (Eq.mpr (v55_1a ..) ?_)
    have hl' := hl
    simp only [List.length_append, List.length_cons, B] at hl'
    refine ⟨rfl, br_of (fun _ => ?_) (fun h => absurd (ltI' a t b) (of_decide_eq_false h))⟩
    have h1 := ih t List.mem_cons_self
    have h2 := l_near most k s n b (a ++ [t]) (fun u hu => ih u (List.mem_cons_of_mem _ hu)) (by rw [ap]; exact hl)
    have h3 := ltI' a t b
    rw [ap, nx] at h2
    rw [midI, w64 (by omega) (by omega)]
    obtain ⟨k', s', n', l'⟩ := t
    refine ⟨⟨rfl, by omega, h3, rfl⟩, _, h1, br_of (fun h => ret_b ?_) (fun h => ?_)⟩
    · simp_all [nears]
    · simp only [nears, show near most (.mk k' s' n' l') = true by simpa using h, Bool.true_and]; exact h2
theorem c_near (most : Int) (h0 : 0 ≤ most) (h1 : most ≤ 4611686018427387904) : ∀ t : Tm, t.sz ≤ B → AC Try.prog 55 [aT t, ci most] [] (cb (near most t)) [] := by
  refine Tm.ind fun t ih hs => ?_
  obtain ⟨k, s, n, l⟩ := t
  have hl := Tm.szs_length l
  simp only [Tm.sz, B] at hs
  refine AC.vc hP sh lv55 (Nat.le_refl _) (by simp) (by simp) (Eq.mpr (v55 k s n (FTs l) most _ _) ?_)
  have key := l_near most k s n l [] (fun u hu => ih u hu (by have := Tm.szs_mem hu; simp only [B]; omega)) (by simp only [List.nil_append, B]; omega)
  rw [w64 (by omega) (by omega)]
  rw [near]
  refine br_of (fun h => br_of (fun h2 => ret_b ?_) (fun h2 => br_of (fun h3 => ret_b ?_) (fun h3 => ?_))) (fun h => ?_)
  · simp only [h, h2, Bool.true_or, Bool.and_true, Bool.not_true, Bool.false_and]
  · simp only [h, h3, Bool.or_true, Bool.and_true, Bool.not_true, Bool.false_and]
  · simp only [h2, h3, Bool.or_false, Bool.and_false, Bool.not_false, Bool.true_and]; exact key
  · simp only [h, Bool.false_and, Bool.not_false, Bool.true_and]; exact key

mutual
def leftF : Tm → Int → Int
  | .mk _ _ _ l, most => leftL l (most - 1)
def leftL : List Tm → Int → Int
  | [], n => n
  | t :: l, n => if n ≥ 0 then leftL l (leftF t n) else n
end
mutual
theorem leftF_le : ∀ (t : Tm) (n : Int), leftF t n ≤ n - 1 ∧ (0 ≤ n → -1 ≤ leftF t n)
  | .mk _ _ _ l, n => by
    have h := leftL_le l (n - 1)
    simp only [leftF]
    exact ⟨h.1, fun hn => h.2 (by omega)⟩
theorem leftL_le : ∀ (l : List Tm) (n : Int), leftL l n ≤ n ∧ (-1 ≤ n → -1 ≤ leftL l n)
  | [], n => by simp [leftL]
  | t :: l, n => by
    have h1 := leftF_le t n
    have h2 := leftL_le l (leftF t n)
    simp only [leftL]
    split
    · rename_i h; exact ⟨by omega, fun _ => h2.2 (h1.2 h)⟩
    · exact ⟨Int.le_refl _, fun h => h⟩
end
theorem l_left (k : Int) (s : List UInt8) (n : Int) : ∀ (b a : List Tm) (m : Int), (∀ u ∈ b, ∀ m : Int, 0 ≤ m → m ≤ 4611686018427387904 → AC Try.prog 94 [aT u, ci m] [] (ci (leftF u m)) []) → (a ++ b).length ≤ B → m ≤ 4611686018427387904 →
    RPt Try.prog 94 0 (ci (leftL b m)) [] 1 ⟨[(2, (.c (.a (.ep 0 4 0 0)))), (5, ci m), (6, ci a.length)], [(0, (.arr 4 [fzs (FT (.mk k s n (a ++ b)))]))], 1⟩
  | [], a, m, _, hl, hm => by
    refine RPt.vc hP sh lv94 (Eq.mpr (v94_1a ..) ?_)
    exact ⟨rfl, br_of (fun h => absurd (of_decide_eq_true h) (geI' a)) (fun _ => ret_i rfl)⟩
  | t :: b, a, m, ih, hl, hm => by
    refine RPt.vc hP sh lv94 (Eq.mpr (v94_1a ..) ?_)
    have hl' := hl
    simp only [List.length_append, List.length_cons, B] at hl'
    refine ⟨rfl, br_of (fun _ => br_of (fun hm0 => ?_) (fun hm0 => ret_i ?_)) (fun h => absurd (ltI' a t b) (of_decide_eq_false h))⟩
    · have hm0 := of_decide_eq_true hm0
      have h1 := ih t List.mem_cons_self m hm0 hm
      have hle := leftF_le t m
      have h2 := l_left k s n b (a ++ [t]) (leftF t m) (fun u hu => ih u (List.mem_cons_of_mem _ hu)) (by rw [ap]; exact hl) (by omega)
      have h3 := ltI' a t b
      rw [ap, nx] at h2
      rw [midI, w64 (by omega) (by omega)]
      simp only [leftL, hm0, if_true]
      obtain ⟨k', s', n', l'⟩ := t
      exact ⟨⟨rfl, by omega, h3, rfl⟩, _, h1, h2⟩
    · have hm0 := of_decide_eq_false hm0
      simp only [leftL, hm0, if_false]
theorem c_left : ∀ t : Tm, t.sz ≤ B → ∀ m : Int, 0 ≤ m → m ≤ 4611686018427387904 → AC Try.prog 94 [aT t, ci m] [] (ci (leftF t m)) [] := by
  refine Tm.ind fun t ih hs m h0 h1 => ?_
  obtain ⟨k, s, n, l⟩ := t
  have hl := Tm.szs_length l
  simp only [Tm.sz, B] at hs
  refine AC.vc hP sh lv94 (Nat.le_refl _) (by simp) (by simp) (Eq.mpr (v94 k s n (FTs l) m _ _) ?_)
  rw [w64 (by omega) (by omega)]
  exact l_left k s n l [] (m - 1) (fun u hu => ih u hu (by have := Tm.szs_mem hu; simp only [B]; omega)) (by simp only [List.nil_append, B]; omega) (by omega)
def large (t : Tm) (most : Int) : Bool := decide (leftF t most < 0)
theorem c_large (t : Tm) (hs : t.sz ≤ B) (m : Int) (h0 : 0 ≤ m) (h1 : m ≤ 4611686018427387904) : AC Try.prog 56 [aT t, ci m] [] (cb (large t m)) [] := by
  have h := c_left t hs m h0 h1
  obtain ⟨k, s, n, l⟩ := t
  refine AC.vc hP sh lv56 (Nat.le_refl _) (by simp) (by simp) (Eq.mpr (v56 k s n (FTs l) m _ _) ?_)
  exact ⟨_, h, ret_b rfl⟩

mutual
def longB : Tm → Bool
  | .mk _ s _ l => decide (60 < (s.length : Int)) || longL l
def longL : List Tm → Bool
  | [] => false
  | t :: l => longB t || longL l
end
theorem l_long (k : Int) (s : List UInt8) (n : Int) : ∀ (b a : List Tm), (∀ u ∈ b, AC Try.prog 57 [aT u] [] (cb (longB u)) []) → (a ++ b).length ≤ B →
    RPt Try.prog 57 0 (cb (longL b)) [] 1 ⟨[(1, (.c (.a (.ep 0 4 0 0)))), (3, ci a.length)], [(0, (.arr 4 [fzs (FT (.mk k s n (a ++ b)))]))], 1⟩
  | [], a, _, hl => by
    refine RPt.vc hP sh lv57 (Eq.mpr (v57_1a ..) ?_)
    exact ⟨rfl, br_of (fun h => absurd (of_decide_eq_true h) (geI' a)) (fun _ => ret_b rfl)⟩
  | t :: b, a, ih, hl => by
    refine RPt.vc hP sh lv57 (Eq.mpr (v57_1a ..) ?_)
    have hl' := hl
    simp only [List.length_append, List.length_cons, B] at hl'
    refine ⟨rfl, br_of (fun _ => ?_) (fun h => absurd (ltI' a t b) (of_decide_eq_false h))⟩
    have h1 := ih t List.mem_cons_self
    have h2 := l_long k s n b (a ++ [t]) (fun u hu => ih u (List.mem_cons_of_mem _ hu)) (by rw [ap]; exact hl)
    have h3 := ltI' a t b
    rw [ap, nx] at h2
    rw [midI, w64 (by omega) (by omega)]
    obtain ⟨k', s', n', l'⟩ := t
    refine ⟨⟨rfl, by omega, h3, rfl⟩, _, h1, br_of (fun h => ret_b ?_) (fun h => ?_)⟩
    · simp only [longL, h, Bool.true_or]
    · simp only [longL, h, Bool.false_or]; exact h2
theorem c_long : ∀ t : Tm, t.sz ≤ B → AC Try.prog 57 [aT t] [] (cb (longB t)) [] := by
  refine Tm.ind fun t ih hs => ?_
  obtain ⟨k, s, n, l⟩ := t
  have hl := Tm.szs_length l
  simp only [Tm.sz, B] at hs
  refine AC.vc hP sh lv57 (Nat.le_refl _) (by simp) (by simp) (Eq.mpr (v57 k s n (FTs l) _ _) ?_)
  have key := l_long k s n l [] (fun u hu => ih u hu (by have := Tm.szs_mem hu; simp only [B]; omega)) (by simp only [List.nil_append, B]; omega)
  refine br_of (fun h => ret_b ?_) (fun h => ?_)
  · have h : decide (60 < (s.length : Int)) = true := h
    simp only [longB, h, Bool.true_or]
  · have h : decide (60 < (s.length : Int)) = false := h
    simp only [longB, h, Bool.false_or]; exact key
def overB (t : Tm) : Bool := large t 80 || longB t || !near 1099511627776 t
theorem c_over (t : Tm) (hs : t.sz ≤ B) : AC Try.prog 14 [aT t] [] (cb (overB t)) [] := by
  have h1 := c_near 1099511627776 (by omega) (by omega) t hs
  have h2 := c_large t hs 80 (by omega) (by omega)
  have h3 := c_long t hs
  obtain ⟨k, s, n, l⟩ := t
  refine AC.vc hP sh lv14 (Nat.le_refl _) (by simp) (by simp) (Eq.mpr (v14 k s n (FTs l) _ _) ?_)
  refine ⟨_, h1, _, h2, br_of (fun h => ret_b ?_) (fun h => ⟨_, h3, br_of (fun h4 => ret_b ?_) (fun h4 => ret_b ?_)⟩)⟩
  · simp only [overB, h, Bool.true_or]
  · simp only [overB, h4, Bool.true_or, Bool.or_true]
  · simp only [overB, h, h4, Bool.false_or]
def rowL (l : List Tm) : Bool := decide ((l.length : Int) > 8) || l.any overB
theorem l_row : ∀ (b a : List Tm), Tm.szs (a ++ b) ≤ B → RPt Try.prog 20 0 (cb (b.any overB)) [] 1 ⟨[(0, .c (.a (.fz (.sl false 4 (FTs (a ++ b)))))), (3, ci a.length)], [], 0⟩
  | [], a, hl => by
    refine RPt.vc hP sh lv20 (Eq.mpr (v20_1a ..) ?_)
    exact ⟨rfl, br_of (fun h => absurd (of_decide_eq_true h) (geI' a)) (fun _ => ret_b rfl)⟩
  | t :: b, a, hl => by
    refine RPt.vc hP sh lv20 (Eq.mpr (v20_1a ..) ?_)
    have hl' := len_szs a (t :: b)
    have hs := Tm.szs_mid a t b
    simp only [List.length_cons, B] at hl hl'
    refine ⟨rfl, br_of (fun _ => ?_) (fun h => absurd (ltI' a t b) (of_decide_eq_false h))⟩
    have h1 := c_over t (by simp only [B]; omega)
    have h2 := l_row b (a ++ [t]) (by rw [ap]; simp only [B]; omega)
    have h3 := ltI' a t b
    rw [ap, nx] at h2
    rw [midI, w64 (by omega) (by omega)]
    obtain ⟨k', s', n', l'⟩ := t
    refine ⟨⟨rfl, by omega, h3, rfl⟩, _, h1, br_of (fun h => ret_b ?_) (fun h => ?_)⟩
    · simp only [List.any_cons, h, Bool.true_or]
    · simp only [List.any_cons, h, Bool.false_or]; exact h2
theorem c_row (l : List Tm) (hs : Tm.szs l ≤ B) : AC Try.prog 20 [.c (.a (.fz (.sl false 4 (FTs l))))] [] (cb (rowL l)) [] := by
  refine AC.vc hP sh lv20 (Nat.le_refl _) (by simp) (by simp) (Eq.mpr (v20 ..) ?_)
  have key := l_row l [] (by simpa using hs)
  have e : (((FTs l).length : Nat) : Int) = (l.length : Int) := by rw [FTs_length]
  show FV.isSl 4 (.sl false 4 (FTs l)) = true ∧ br (decide ((((FTs l).length : Nat) : Int) > 8)) _ _
  rw [e]
  refine ⟨rfl, br_of (fun h => ret_b ?_) (fun h => ?_)⟩
  · simp only [rowL, h, Bool.true_or]
  · simp only [rowL, h, Bool.false_or]; exact key

/-! ### The same -/
mutual
def sameB : Tm → Tm → Bool
  | .mk k s n l, .mk k' s' n' l' => k == k' && (s == s' && (n == n' && sameL l l'))
def sameL : List Tm → List Tm → Bool
  | [], [] => true
  | t :: l, u :: m => sameB t u && sameL l m
  | _, _ => false
end
mutual
theorem sameB_iff : ∀ a b : Tm, sameB a b = true ↔ a = b
  | .mk k s n l, .mk k' s' n' l' => by simp only [sameB, Bool.and_eq_true, beq_iff_eq, Tm.mk.injEq, sameL_iff l l']
theorem sameL_iff : ∀ a b : List Tm, sameL a b = true ↔ a = b
  | [], [] => by simp [sameL]
  | t :: l, u :: m => by simp only [sameL, Bool.and_eq_true, List.cons.injEq, sameB_iff t u, sameL_iff l m]
  | [], _ :: _ => by simp [sameL]
  | _ :: _, [] => by simp [sameL]
end
theorem sameL_len : ∀ {a b : List Tm}, a.length ≠ b.length → sameL a b = false
  | [], [], h => absurd rfl h
  | t :: l, u :: m, h => by simp only [sameL, sameL_len (a := l) (b := m) (fun e => h (by simp [e])), Bool.and_false]
  | [], _ :: _, _ => rfl
  | _ :: _, [], _ => rfl
theorem l_same (k : Int) (s : List UInt8) (n : Int) (k' : Int) (s' : List UInt8) (n' : Int) : ∀ (b a b' a' : List Tm), (∀ u ∈ b, ∀ v ∈ b', AC Try.prog 16 [aT u, aT v] [] (cb (sameB u v)) []) → (a ++ b).length ≤ B → a.length = a'.length → b.length = b'.length →
    RPt Try.prog 16 0 (cb (sameL b b')) [] 1 ⟨[(2, (.c (.a (.ep 0 4 0 0)))), (3, (.c (.a (.ep 1 4 0 0)))), (5, ci a.length)], [(0, (.arr 4 [fzs (FT (.mk k s n (a ++ b)))])), (1, (.arr 4 [fzs (FT (.mk k' s' n' (a' ++ b')))]))], 2⟩
  | [], a, [], a', _, hl, _, _ => by
    refine RPt.vc hP sh lv16 (Eq.mpr (v16_1a ..) ?_)
    exact ⟨rfl, br_of (fun h => absurd (of_decide_eq_true h) (geI' a)) (fun _ => ret_b rfl)⟩
  | t :: b, a, u :: b', a', ih, hl, ha, hb => by
    refine RPt.vc hP sh lv16 (Eq.mpr (v16_1a ..) ?_)
    have hl' := hl
    simp only [List.length_append, List.length_cons, B] at hl'
    refine ⟨rfl, br_of (fun _ => ?_) (fun h => absurd (ltI' a t b) (of_decide_eq_false h))⟩
    have h1 := ih t List.mem_cons_self u List.mem_cons_self
    have h2 := l_same k s n k' s' n' b (a ++ [t]) b' (a' ++ [u]) (fun x hx y hy => ih x (List.mem_cons_of_mem _ hx) y (List.mem_cons_of_mem _ hy)) (by rw [ap]; exact hl) (by simp [ha]) (by simpa using hb)
    have h3 := ltI' a t b
    have h4 := ltI' a' u b'
    rw [← ha] at h4
    rw [ap, ap, nx] at h2
    rw [midI, midI' a a' ha, w64 (by omega) (by omega)]
    obtain ⟨k1, s1, n1, l1⟩ := t
    obtain ⟨k2, s2, n2, l2⟩ := u
    refine ⟨⟨rfl, by omega, h3, rfl⟩, ⟨rfl, by omega, h4, rfl⟩, _, h1, br_of (fun h => ret_b ?_) (fun h => ?_)⟩
    · rw [sameL, show sameB (.mk k1 s1 n1 l1) (.mk k2 s2 n2 l2) = false by simpa using h, Bool.false_and]
    · rw [sameL, show sameB (.mk k1 s1 n1 l1) (.mk k2 s2 n2 l2) = true by simpa using h, Bool.true_and]; exact h2
theorem c_rsame : ∀ a : Tm, a.sz ≤ B → ∀ b : Tm, AC Try.prog 16 [aT a, aT b] [] (cb (sameB a b)) [] := by
  refine Tm.ind fun a ih hs b => ?_
  obtain ⟨k, s, n, l⟩ := a
  obtain ⟨k', s', n', l'⟩ := b
  have hl := Tm.szs_length l
  simp only [Tm.sz, B] at hs
  refine AC.vc hP sh lv16 (Nat.le_refl _) (by simp) (by simp) (Eq.mpr (v16 k s n (FTs l) k' s' n' (FTs l') _ _) ?_)
  have key := fun he => l_same k s n k' s' n' l [] l' [] (fun u hu v _ => ih u hu (by have := Tm.szs_mem hu; simp only [B]; omega) v) (by simp only [List.nil_append, B]; omega) rfl he
  rw [lenI, lenI]
  refine br_of (fun h => ret_b ?_) (fun h => br_of (fun h2 => ret_b ?_) (fun h2 => br_of (fun h3 => ret_b ?_) (fun h3 => ⟨rfl, rfl, br_of (fun h4 => ret_b ?_) (fun h4 => ?_)⟩)))
  · simp only [sameB, show (k == k') = false by simpa using h, Bool.false_and]
  · simp only [sameB, show (s == s') = false by simpa using h2, Bool.false_and, Bool.and_false]
  · simp only [sameB, show (n == n') = false by simpa using h3, Bool.false_and, Bool.and_false]
  · rw [sameB, sameL_len (by intro e; simp [e] at h4)]; simp
  · simp only [sameB, show (k == k') = true by simpa using h, show (s == s') = true by simpa using h2, show (n == n') = true by simpa using h3, Bool.true_and]
    exact key (by have : (l.length : Int) = l'.length := by simpa using h4
                  omega)

/-! ### What is within; how large -/
def Tm.inner (t : Tm) : Bool := t.k == 5 || t.k == 6
def Tm.kids (t : Tm) : List Tm := if t.inner = true then t.l else []
def Tm.by (t : Tm) : Int := if t.k == 5 then 1 else 0
end Go.AM
