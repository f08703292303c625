/- A calculus of plain values for the model's code, what the code of each function asks (computed by the kernel), contracts of the functions, and plain laws (part 4). No conditions. -/
import Derived.Test.YtclicclinfnmlaaPart3
import Derived.Test.YtclicclinfnmlaaShelf
set_option maxRecDepth 100000
open Go Go.Proofs
namespace Go.AM
/-! ### Package lex -/
def smallB (c : Int) : Bool := decide (97 ≤ c) && decide (c ≤ 122)
def greatB (c : Int) : Bool := decide (65 ≤ c) && decide (c ≤ 90) || c == 95
def digitB (c : Int) : Bool := decide (48 ≤ c) && decide (c ≤ 57)
def insideB (c : Int) : Bool := smallB c || greatB c || digitB c || c == 39
def signs : List UInt8 := [43, 45, 42, 47, 60, 62, 61, 38, 124, 94, 126, 64, 35, 36, 63, 58]
def signB (c : Int) : Bool := decide (Lib.indexByte signs c.toNat.toUInt8 ≥ 0)

theorem c_small (c : Int) : AC Try.prog 96 [c8 c] [] (cb (smallB c)) [] := by
  refine AC.vc hP sh lv96 (Nat.le_refl _) (by simp) (by simp) (Eq.mpr (v96 ..) ?_)
  refine br_of (fun h => ret_b ?_) (fun h => ret_b ?_) <;> simp_all [smallB] <;> omega
theorem c_great (c : Int) : AC Try.prog 116 [c8 c] [] (cb (greatB c)) [] := by
  refine AC.vc hP sh lv116 (Nat.le_refl _) (by simp) (by simp) (Eq.mpr (v116 ..) ?_)
  refine br_of (fun h => br_of (fun h => ret_b ?_) (fun h => ret_b ?_)) (fun h => ret_b ?_) <;> simp_all [greatB] <;> omega
theorem c_digit (c : Int) : AC Try.prog 117 [c8 c] [] (cb (digitB c)) [] := by
  refine AC.vc hP sh lv117 (Nat.le_refl _) (by simp) (by simp) (Eq.mpr (v117 ..) ?_)
  refine br_of (fun h => ret_b ?_) (fun h => ret_b ?_) <;> simp_all [digitB] <;> omega
theorem c_inside (c : Int) : AC Try.prog 98 [c8 c] [] (cb (insideB c)) [] := by
  refine AC.vc hP sh lv98 (Nat.le_refl _) (by simp) (by simp) (Eq.mpr (v98 ..) ?_)
  refine ⟨_, c_small c, br_of (fun h => ret_b ?_) (fun h => ⟨_, c_great c, br_of (fun h => ret_b ?_) (fun h => ⟨_, c_digit c, br_of (fun h => ret_b ?_) (fun h => ret_b ?_)⟩)⟩)⟩ <;> simp_all [insideB]
theorem c_lindexbyte (s : List UInt8) (c : Int) : AC Try.prog 121 [cs s, c8 c] [] (ci (Lib.indexByte s c.toNat.toUInt8)) [] :=
  AC.str_u8 (by kernel_rfl) fun w => Try.stringslite_IndexByte ⟨s.toArray⟩ c w
theorem c_indexbyte (s : List UInt8) (c : Int) : AC Try.prog 118 [cs s, c8 c] [] (ci (Lib.indexByte s c.toNat.toUInt8)) [] :=
  AC.str_u8 (by kernel_rfl) fun w => Try.strings_IndexByte ⟨s.toArray⟩ c w
theorem c_sign (c : Int) : AC Try.prog 99 [c8 c] [] (cb (signB c)) [] := by
  refine AC.vc hP sh lv99 (Nat.le_refl _) (by simp) (by simp) (Eq.mpr (v99 ..) ?_)
  exact ⟨_, c_indexbyte _ c, ret_b rfl⟩

/-- How many bytes a text begins with that are such. -/
def runN (p : Int → Bool) : List UInt8 → Nat
  | [] => 0
  | c :: s => if p (c.toNat : Int) then runN p s + 1 else 0
theorem runN_le (p : Int → Bool) : ∀ s : List UInt8, runN p s ≤ s.length
  | [] => Nat.le_refl _
  | c :: s => by have := runN_le p s; simp only [runN, List.length_cons]; split <;> omega
theorem gD_mid8 (a : List UInt8) (c : UInt8) (b : List UInt8) : List.getD (a ++ c :: b) (Int.toNat (a.length : Int)) 0 = c := by simp [List.getD]
theorem l_run_inside : ∀ (b a : List UInt8), (a ++ b).length ≤ B → RPt Try.prog 97 0 (ci ((a.length : Int) + runN insideB b)) [] 1 ⟨[(0, cs (a ++ b)), (1, .c (.fn (.func 98) [] [])), (7, ci (((a ++ b).length : Nat) : Int)), (8, ci a.length)], [], 0⟩
  | [], a, hl => by
    refine RPt.vc hP sh lv97 (Eq.mpr (v97_1a ..) ?_)
    exact br_of (fun h => absurd h (by simp)) (fun _ => ret_i (by simp [runN]))
  | c :: b, a, hl => by
    refine RPt.vc hP sh lv97 (Eq.mpr (v97_1a ..) ?_)
    have hl' := hl
    simp only [List.length_append, List.length_cons, B] at hl'
    refine br_of (fun _ => ⟨⟨by omega, by simp; omega⟩, insideB (c.toNat : Int), ?_, br_of (fun h => ret_i ?_) (fun h => ?_)⟩) (fun h => absurd h (by simp; omega))
    · rw [gD_mid8]; exact c_inside _
    · simp_all [runN]
    · have := l_run_inside b (a ++ [c]) (by simpa using hl)
      rw [w64 (by omega) (by omega)]
      simp only [List.append_assoc, List.cons_append, List.nil_append, List.length_append, List.length_cons, List.length_nil, Int.natCast_add, Int.natCast_one, Int.natCast_zero, Int.zero_add] at this
      simp only [Bool.not_eq_false'] at h
      simp only [runN, h, if_true, List.length_append, List.length_cons, Int.natCast_add, Int.natCast_one]
      rw [show (a.length : Int) + ((runN insideB b : Nat) + 1 : Int) = (a.length : Int) + 1 + (runN insideB b : Nat) by omega]
      exact this
theorem c_run_inside (s : List UInt8) (h : s.length ≤ B) : AC Try.prog 97 [cs s, .c (.fn (.func 98) [] [])] [] (ci (runN insideB s)) [] := by
  refine AC.vc hP sh lv97 (Nat.le_refl _) (by simp) (by simp) (Eq.mpr (v97 ..) ?_)
  have := l_run_inside s [] (by simpa using h)
  simpa using this
theorem l_run_sign : ∀ (b a : List UInt8), (a ++ b).length ≤ B → RPt Try.prog 97 0 (ci ((a.length : Int) + runN signB b)) [] 1 ⟨[(0, cs (a ++ b)), (1, .c (.fn (.func 99) [] [])), (7, ci (((a ++ b).length : Nat) : Int)), (8, ci a.length)], [], 0⟩
  | [], a, hl => by
    refine RPt.vc hP sh lv97 (Eq.mpr (v97_i1_1a ..) ?_)
    exact br_of (fun h => absurd h (by simp)) (fun _ => ret_i (by simp [runN]))
  | c :: b, a, hl => by
    refine RPt.vc hP sh lv97 (Eq.mpr (v97_i1_1a ..) ?_)
    have hl' := hl
    simp only [List.length_append, List.length_cons, B] at hl'
    refine br_of (fun _ => ⟨⟨by omega, by simp; omega⟩, signB (c.toNat : Int), ?_, br_of (fun h => ret_i ?_) (fun h => ?_)⟩) (fun h => absurd h (by simp; omega))
    · rw [gD_mid8]; exact c_sign _
    · simp_all [runN]
    · have := l_run_sign b (a ++ [c]) (by simpa using hl)
      rw [w64 (by omega) (by omega)]
      simp only [List.append_assoc, List.cons_append, List.nil_append, List.length_append, List.length_cons, List.length_nil, Int.natCast_add, Int.natCast_one, Int.natCast_zero, Int.zero_add] at this
      simp only [Bool.not_eq_false'] at h
      simp only [runN, h, if_true, List.length_append, List.length_cons, Int.natCast_add, Int.natCast_one]
      rw [show (a.length : Int) + ((runN signB b : Nat) + 1 : Int) = (a.length : Int) + 1 + (runN signB b : Nat) by omega]
      exact this
theorem c_run_sign (s : List UInt8) (h : s.length ≤ B) : AC Try.prog 97 [cs s, .c (.fn (.func 99) [] [])] [] (ci (runN signB s)) [] := by
  refine AC.vc hP sh lv97 (Nat.le_refl _) (by simp) (by simp) (Eq.mpr (v97_i1 ..) ?_)
  have := l_run_sign s [] (by simpa using h)
  simpa using this

theorem runN_all (p : Int → Bool) : ∀ s : List UInt8, (((runN p s : Nat) : Int) == ((s.length : Nat) : Int)) = s.all fun c => p (c.toNat : Int)
  | [] => rfl
  | c :: s => by
    have ih := runN_all p s
    have := runN_le p s
    simp only [runN, List.all_cons, List.length_cons]
    cases h : p (c.toNat : Int) with
    | true => rw [← ih]; simp only [if_true, Bool.true_and]; rw [Bool.eq_iff_iff]; simp <;> omega
    | false => simp; omega
def fitsB (s : List UInt8) : Bool := !(s == []) && decide ((s.length : Int) ≤ 32)
theorem c_fits (s : List UInt8) : AC Try.prog 95 [cs s] [] (cb (fitsB s)) [] := by
  refine AC.vc hP sh lv95 (Nat.le_refl _) (by simp) (by simp) (Eq.mpr (v95 ..) ?_)
  refine br_of (fun h => ret_b ?_) (fun h => ret_b ?_) <;> simp_all [fitsB]
/-- A name. -/
def isName (s : List UInt8) : Bool := fitsB s && smallB ((s.getD 0 0).toNat : Int) && s.all fun c => insideB (c.toNat : Int)
theorem fits_le {s : List UInt8} (h : fitsB s = true) : 0 < s.length ∧ s.length ≤ 32 := by
  simp only [fitsB, Bool.and_eq_true, Bool.not_eq_true', decide_eq_true_eq] at h
  refine ⟨?_, by omega⟩
  cases s with
  | nil => simp at h
  | cons c s => simp
theorem c_isname (s : List UInt8) : AC Try.prog 58 [cs s] [] (cb (isName s)) [] := by
  refine AC.vc hP sh lv58 (Nat.le_refl _) (by simp) (by simp) (Eq.mpr (v58 ..) ?_)
  refine ⟨_, c_fits s, br_of (fun h => ⟨⟨by omega, by have := fits_le h; omega⟩, _, c_small _, br_of (fun h2 => ⟨_, c_run_inside s (by have := fits_le h; simp only [B]; omega), ret_b ?_⟩) (fun h2 => ret_b ?_)⟩) (fun h => ret_b ?_)⟩
  · rw [runN_all]; simp only [isName, h, h2, Bool.true_and]
  · simp only [isName, h, h2, Bool.and_false, Bool.false_and]
  · simp only [isName, h, Bool.false_and]
def singles : List UInt8 := [44, 59, 33]
theorem c_contains1 (s : List UInt8) (c : UInt8) (hs : s.length ≤ B) : AC Try.prog 100 [cs s, cs [c]] [] (cb (decide (Lib.indexByte s c ≥ 0))) [] := by
  have hb : (c.toNat : Int).toNat.toUInt8 = c := by simp
  have h1 : AC Try.prog 122 [cs s, cs [c]] [] (ci (if [c] == s then 0 else Lib.indexByte s c)) [] := by
    refine AC.vc hP sh lv122 (Nat.le_refl _) (by simp) (by simp) (Eq.mpr (v122 ..) ?_)
    refine br_of (fun h => absurd h (by simp)) (fun _ => br_of (fun h => ret_i (by simp [h])) (fun h => br_of (fun _ => ⟨⟨by omega, by simp⟩, _, c_lindexbyte s _, ret_i ?_⟩) (fun h2 => absurd h2 (by simp))))
    rw [h]
    simp
  have h2 : AC Try.prog 119 [cs s, cs [c]] [] (ci (if [c] == s then 0 else Lib.indexByte s c)) [] := by
    refine AC.vc hP sh lv119 (Nat.le_refl _) (by simp) (by simp) (Eq.mpr (v119 ..) ?_)
    exact ⟨_, h1, ret_i rfl⟩
  refine AC.vc hP sh lv100 (Nat.le_refl _) (by simp) (by simp) (Eq.mpr (v100 ..) ?_)
  refine ⟨_, h2, ret_b ?_⟩
  by_cases e : [c] = s
  · subst e
    simp [Lib.indexByte]
  · have : ([c] == s) = false := by simpa using e
    rw [this]; simp
def isSym (s : List UInt8) : Bool := fitsB s && ((s.all fun c => signB (c.toNat : Int)) || ((s.length : Int) == 1 && decide (Lib.indexByte singles (s.getD 0 0) ≥ 0)))
theorem c_issym (s : List UInt8) : AC Try.prog 59 [cs s] [] (cb (isSym s)) [] := by
  refine AC.vc hP sh lv59 (Nat.le_refl _) (by simp) (by simp) (Eq.mpr (v59 ..) ?_)
  refine ⟨_, c_fits s, br_of (fun h => ⟨_, c_run_sign s (by have := fits_le h; simp only [B]; omega), br_of (fun h2 => ret_b ?_) (fun h2 => br_of (fun h3 => ?_) (fun h3 => ret_b ?_))⟩) (fun h => ret_b ?_)⟩
  · rw [runN_all] at h2; simp only [isSym, h, h2, Bool.true_and, Bool.true_or]
  · rw [runN_all] at h2
    match s, h3 with
    | [c], h3 =>
      refine ⟨_, c_contains1 singles c (by simp [singles, B]), ret_b ?_⟩
      simp only [isSym, h, h2, h3, Bool.true_and, Bool.false_or, List.getD_cons_zero]
    | [], h3 => simp at h3
    | _ :: _ :: _, h3 => simp at h3; omega
  · rw [runN_all] at h2; simp only [isSym, h, h2, h3, Bool.false_and, Bool.false_or, Bool.and_false]
  · simp only [isSym, h, Bool.false_and]
end Go.AM

set_option maxRecDepth 100000
open Go Go.Proofs
namespace Go.AM
/-! ### What is looked at -/
mutual
def near (most : Int) : Tm → Bool
  | .mk k _ n l => !(k != 2 && (decide (n > most) || decide (n < 0 - most))) && nears most l
def nears (most : Int) : List Tm → Bool
  | [] => true
  | t :: l => near most t && nears most l
end
theorem l_near (most : Int) (k : Int) (s : List UInt8) (n : Int) : ∀ (b a : List Tm), (∀ u ∈ b, AC Try.prog 55 [aT u, ci most] [] (cb (near most u)) []) → (a ++ b).length ≤ B →
    RPt Try.prog 55 0 (cb (nears most b)) [] 1 ⟨[(1, ci most), (2, (.c (.a (.ep 0 4 0 0)))), (5, ci a.length)], [(0, (.arr 4 [fzs (FT (.mk k s n (a ++ b)))]))], 1⟩
  | [], a, _, hl => by
    refine RPt.vc hP sh lv55 (Eq.mpr (v55_1a ..) ?_)
    exact ⟨rfl, br_of (fun h => absurd (of_decide_eq_true h) (geI' a)) (fun _ => ret_b rfl)⟩
  | t :: b, a, ih, hl => by
    refine RPt.vc hP sh lv55 (Eq.mpr (v55_1a ..) ?_)
    have hl' := hl
    simp only [List.length_append, List.length_cons, B] at hl'
    refine ⟨rfl, br_of (fun _ => ?_) (fun h => absurd (ltI' a t b) (of_decide_eq_false h))⟩
    have h1 := ih t List.mem_cons_self
    have h2 := l_near most k s n b (a ++ [t]) (fun u hu => ih u (List.mem_cons_of_mem _ hu)) (by rw [ap]; exact hl)
    have h3 := ltI' a t b
    rw [ap, nx] at h2
    rw [midI, w64 (by omega) (by omega)]
    obtain ⟨k', s', n', l'⟩ := t
    refine ⟨⟨rfl, by omega, h3, rfl⟩, _, h1, br_of (fun h => ret_b ?_) (fun h => ?_)⟩
    · simp_all [nears]
    · simp only [nears, show near most (.mk k' s' n' l') = true by simpa using h, Bool.true_and]; exact h2
theorem c_near (most : Int) (h0 : 0 ≤ most) (h1 : most ≤ 4611686018427387904) : ∀ t : Tm, t.sz ≤ B → AC Try.prog 55 [aT t, ci most] [] (cb (near most t)) [] := by
  refine Tm.ind fun t ih hs => ?_
  obtain ⟨k, s, n, l⟩ := t
  have hl := Tm.szs_length l
  simp only [Tm.sz, B] at hs
  refine AC.vc hP sh lv55 (Nat.le_refl _) (by simp) (by simp) (Eq.mpr (v55 k s n (FTs l) most _ _) ?_)
  have key := l_near most k s n l [] (fun u hu => ih u hu (by have := Tm.szs_mem hu; simp only [B]; omega)) (by simp only [List.nil_append, B]; omega)
  rw [w64 (by omega) (by omega)]
  rw [near]
  refine br_of (fun h => br_of (fun h2 => ret_b ?_) (fun h2 => br_of (fun h3 => ret_b ?_) (fun h3 => ?_))) (fun h => ?_)
  · simp only [h, h2, Bool.true_or, Bool.and_true, Bool.not_true, Bool.false_and]
  · simp only [h, h3, Bool.or_true, Bool.and_true, Bool.not_true, Bool.false_and]
  · simp only [h2, h3, Bool.or_false, Bool.and_false, Bool.not_false, Bool.true_and]; exact key
  · simp only [h, Bool.false_and, Bool.not_false, Bool.true_and]; exact key

mutual
def leftF : Tm → Int → Int
  | .mk _ _ _ l, most => leftL l (most - 1)
def leftL : List Tm → Int → Int
  | [], n => n
  | t :: l, n => if n ≥ 0 then leftL l (leftF t n) else n
end
mutual
theorem leftF_le : ∀ (t : Tm) (n : Int), leftF t n ≤ n - 1 ∧ (0 ≤ n → -1 ≤ leftF t n)
  | .mk _ _ _ l, n => by
    have h := leftL_le l (n - 1)
    simp only [leftF]
    exact ⟨h.1, fun hn => h.2 (by omega)⟩
theorem leftL_le : ∀ (l : List Tm) (n : Int), leftL l n ≤ n ∧ (-1 ≤ n → -1 ≤ leftL l n)
  | [], n => by simp [leftL]
  | t :: l, n => by
    have h1 := leftF_le t n
    have h2 := leftL_le l (leftF t n)
    simp only [leftL]
    split
    · rename_i h; exact ⟨by omega, fun _ => h2.2 (h1.2 h)⟩
    · exact ⟨Int.le_refl _, fun h => h⟩
end
theorem l_left (k : Int) (s : List UInt8) (n : Int) : ∀ (b a : List Tm) (m : Int), (∀ u ∈ b, ∀ m : Int, 0 ≤ m → m ≤ 4611686018427387904 → AC Try.prog 94 [aT u, ci m] [] (ci (leftF u m)) []) → (a ++ b).length ≤ B → m ≤ 4611686018427387904 →
    RPt Try.prog 94 0 (ci (leftL b m)) [] 1 ⟨[(2, (.c (.a (.ep 0 4 0 0)))), (5, ci m), (6, ci a.length)], [(0, (.arr 4 [fzs (FT (.mk k s n (a ++ b)))]))], 1⟩
  | [], a, m, _, hl, hm => by
    refine RPt.vc hP sh lv94 (Eq.mpr (v94_1a ..) ?_)
    exact ⟨rfl, br_of (fun h => absurd (of_decide_eq_true h) (geI' a)) (fun _ => ret_i rfl)⟩
  | t :: b, a, m, ih, hl, hm => by
    refine RPt.vc hP sh lv94 (Eq.mpr (v94_1a ..) ?_)
    have hl' := hl
    simp only [List.length_append, List.length_cons, B] at hl'
    refine ⟨rfl, br_of (fun _ => br_of (fun hm0 => ?_) (fun hm0 => ret_i ?_)) (fun h => absurd (ltI' a t b) (of_decide_eq_false h))⟩
    · have hm0 := of_decide_eq_true hm0
      have h1 := ih t List.mem_cons_self m hm0 hm
      have hle := leftF_le t m
      have h2 := l_left k s n b (a ++ [t]) (leftF t m) (fun u hu => ih u (List.mem_cons_of_mem _ hu)) (by rw [ap]; exact hl) (by omega)
      have h3 := ltI' a t b
      rw [ap, nx] at h2
      rw [midI, w64 (by omega) (by omega)]
      simp only [leftL, hm0, if_true]
      obtain ⟨k', s', n', l'⟩ := t
      exact ⟨⟨rfl, by omega, h3, rfl⟩, _, h1, h2⟩
    · have hm0 := of_decide_eq_false hm0
      simp only [leftL, hm0, if_false]
theorem c_left : ∀ t : Tm, t.sz ≤ B → ∀ m : Int, 0 ≤ m → m ≤ 4611686018427387904 → AC Try.prog 94 [aT t, ci m] [] (ci (leftF t m)) [] := by
  refine Tm.ind fun t ih hs m h0 h1 => ?_
  obtain ⟨k, s, n, l⟩ := t
  have hl := Tm.szs_length l
  simp only [Tm.sz, B] at hs
  refine AC.vc hP sh lv94 (Nat.le_refl _) (by simp) (by simp) (Eq.mpr (v94 k s n (FTs l) m _ _) ?_)
  rw [w64 (by omega) (by omega)]
  exact l_left k s n l [] (m - 1) (fun u hu => ih u hu (by have := Tm.szs_mem hu; simp only [B]; omega)) (by simp only [List.nil_append, B]; omega) (by omega)
def large (t : Tm) (most : Int) : Bool := decide (leftF t most < 0)
theorem c_large (t : Tm) (hs : t.sz ≤ B) (m : Int) (h0 : 0 ≤ m) (h1 : m ≤ 4611686018427387904) : AC Try.prog 56 [aT t, ci m] [] (cb (large t m)) [] := by
  have h := c_left t hs m h0 h1
  obtain ⟨k, s, n, l⟩ := t
  refine AC.vc hP sh lv56 (Nat.le_refl _) (by simp) (by simp) (Eq.mpr (v56 k s n (FTs l) m _ _) ?_)
  exact ⟨_, h, ret_b rfl⟩

mutual
def longB : Tm → Bool
  | .mk _ s _ l => decide (60 < (s.length : Int)) || longL l
def longL : List Tm → Bool
  | [] => false
  | t :: l => longB t || longL l
end
theorem l_long (k : Int) (s : List UInt8) (n : Int) : ∀ (b a : List Tm), (∀ u ∈ b, AC Try.prog 57 [aT u] [] (cb (longB u)) []) → (a ++ b).length ≤ B →
    RPt Try.prog 57 0 (cb (longL b)) [] 1 ⟨[(1, (.c (.a (.ep 0 4 0 0)))), (3, ci a.length)], [(0, (.arr 4 [fzs (FT (.mk k s n (a ++ b)))]))], 1⟩
  | [], a, _, hl => by
    refine RPt.vc hP sh lv57 (Eq.mpr (v57_1a ..) ?_)
    exact ⟨rfl, br_of (fun h => absurd (of_decide_eq_true h) (geI' a)) (fun _ => ret_b rfl)⟩
  | t :: b, a, ih, hl => by
    refine RPt.vc hP sh lv57 (Eq.mpr (v57_1a ..) ?_)
    have hl' := hl
    simp only [List.length_append, List.length_cons, B] at hl'
    refine ⟨rfl, br_of (fun _ => ?_) (fun h => absurd (ltI' a t b) (of_decide_eq_false h))⟩
    have h1 := ih t List.mem_cons_self
    have h2 := l_long k s n b (a ++ [t]) (fun u hu => ih u (List.mem_cons_of_mem _ hu)) (by rw [ap]; exact hl)
    have h3 := ltI' a t b
    rw [ap, nx] at h2
    rw [midI, w64 (by omega) (by omega)]
    obtain ⟨k', s', n', l'⟩ := t
    refine ⟨⟨rfl, by omega, h3, rfl⟩, _, h1, br_of (fun h => ret_b ?_) (fun h => ?_)⟩
    · simp only [longL, h, Bool.true_or]
    · simp only [longL, h, Bool.false_or]; exact h2
theorem c_long : ∀ t : Tm, t.sz ≤ B → AC Try.prog 57 [aT t] [] (cb (longB t)) [] := by
  refine Tm.ind fun t ih hs => ?_
  obtain ⟨k, s, n, l⟩ := t
  have hl := Tm.szs_length l
  simp only [Tm.sz, B] at hs
  refine AC.vc hP sh lv57 (Nat.le_refl _) (by simp) (by simp) (Eq.mpr (v57 k s n (FTs l) _ _) ?_)
  have key := l_long k s n l [] (fun u hu => ih u hu (by have := Tm.szs_mem hu; simp only [B]; omega)) (by simp only [List.nil_append, B]; omega)
  refine br_of (fun h => ret_b ?_) (fun h => ?_)
  · have h : decide (60 < (s.length : Int)) = true := h
    simp only [longB, h, Bool.true_or]
  · have h : decide (60 < (s.length : Int)) = false := h
    simp only [longB, h, Bool.false_or]; exact key
def overB (t : Tm) : Bool := large t 80 || longB t || !near 1099511627776 t
theorem c_over (t : Tm) (hs : t.sz ≤ B) : AC Try.prog 14 [aT t] [] (cb (overB t)) [] := by
  have h1 := c_near 1099511627776 (by omega) (by omega) t hs
  have h2 := c_large t hs 80 (by omega) (by omega)
  have h3 := c_long t hs
  obtain ⟨k, s, n, l⟩ := t
  refine AC.vc hP sh lv14 (Nat.le_refl _) (by simp) (by simp) (Eq.mpr (v14 k s n (FTs l) _ _) ?_)
  refine ⟨_, h1, _, h2, br_of (fun h => ret_b ?_) (fun h => ⟨_, h3, br_of (fun h4 => ret_b ?_) (fun h4 => ret_b ?_)⟩)⟩
  · simp only [overB, h, Bool.true_or]
  · simp only [overB, h4, Bool.true_or, Bool.or_true]
  · simp only [overB, h, h4, Bool.false_or]
def rowL (l : List Tm) : Bool := decide ((l.length : Int) > 8) || l.any overB
theorem l_row : ∀ (b a : List Tm), Tm.szs (a ++ b) ≤ B → RPt Try.prog 20 0 (cb (b.any overB)) [] 1 ⟨[(0, .c (.a (.fz (.sl false 4 (FTs (a ++ b)))))), (3, ci a.length)], [], 0⟩
  | [], a, hl => by
    refine RPt.vc hP sh lv20 (Eq.mpr (v20_1a ..) ?_)
    exact ⟨rfl, br_of (fun h => absurd (of_decide_eq_true h) (geI' a)) (fun _ => ret_b rfl)⟩
  | t :: b, a, hl => by
    refine RPt.vc hP sh lv20 (Eq.mpr (v20_1a ..) ?_)
    have hl' := len_szs a (t :: b)
    have hs := Tm.szs_mid a t b
    simp only [List.length_cons, B] at hl hl'
    refine ⟨rfl, br_of (fun _ => ?_) (fun h => absurd (ltI' a t b) (of_decide_eq_false h))⟩
    have h1 := c_over t (by simp only [B]; omega)
    have h2 := l_row b (a ++ [t]) (by rw [ap]; simp only [B]; omega)
    have h3 := ltI' a t b
    rw [ap, nx] at h2
    rw [midI, w64 (by omega) (by omega)]
    obtain ⟨k', s', n', l'⟩ := t
    refine ⟨⟨rfl, by omega, h3, rfl⟩, _, h1, br_of (fun h => ret_b ?_) (fun h => ?_)⟩
    · simp only [List.any_cons, h, Bool.true_or]
    · simp only [List.any_cons, h, Bool.false_or]; exact h2
theorem c_row (l : List Tm) (hs : Tm.szs l ≤ B) : AC Try.prog 20 [.c (.a (.fz (.sl false 4 (FTs l))))] [] (cb (rowL l)) [] := by
  refine AC.vc hP sh lv20 (Nat.le_refl _) (by simp) (by simp) (Eq.mpr (v20 ..) ?_)
  have key := l_row l [] (by simpa using hs)
  have e : (((FTs l).length : Nat) : Int) = (l.length : Int) := by rw [FTs_length]
  show FV.isSl 4 (.sl false 4 (FTs l)) = true ∧ br (decide ((((FTs l).length : Nat) : Int) > 8)) _ _
  rw [e]
  refine ⟨rfl, br_of (fun h => ret_b ?_) (fun h => ?_)⟩
  · simp only [rowL, h, Bool.true_or]
  · simp only [rowL, h, Bool.false_or]; exact key

/-! ### The same -/
mutual
def sameB : Tm → Tm → Bool
  | .mk k s n l, .mk k' s' n' l' => k == k' && (s == s' && (n == n' && sameL l l'))
def sameL : List Tm → List Tm → Bool
  | [], [] => true
  | t :: l, u :: m => sameB t u && sameL l m
  | _, _ => false
end
mutual
theorem sameB_iff : ∀ a b : Tm, sameB a b = true ↔ a = b
  | .mk k s n l, .mk k' s' n' l' => by simp only [sameB, Bool.and_eq_true, beq_iff_eq, Tm.mk.injEq, sameL_iff l l']
theorem sameL_iff : ∀ a b : List Tm, sameL a b = true ↔ a = b
  | [], [] => by simp [sameL]
  | t :: l, u :: m => by simp only [sameL, Bool.and_eq_true, List.cons.injEq, sameB_iff t u, sameL_iff l m]
  | [], _ :: _ => by simp [sameL]
  | _ :: _, [] => by simp [sameL]
end
theorem sameL_len : ∀ {a b : List Tm}, a.length ≠ b.length → sameL a b = false
  | [], [], h => absurd rfl h
  | t :: l, u :: m, h => by simp only [sameL, sameL_len (a := l) (b := m) (fun e => h (by simp [e])), Bool.and_false]
  | [], _ :: _, _ => rfl
  | _ :: _, [], _ => rfl
theorem l_same (k : Int) (s : List UInt8) (n : Int) (k' : Int) (s' : List UInt8) (n' : Int) : ∀ (b a b' a' : List Tm), (∀ u ∈ b, ∀ v ∈ b', AC Try.prog 16 [aT u, aT v] [] (cb (sameB u v)) []) → (a ++ b).length ≤ B → a.length = a'.length → b.length = b'.length →
    RPt Try.prog 16 0 (cb (sameL b b')) [] 1 ⟨[(2, (.c (.a (.ep 0 4 0 0)))), (3, (.c (.a (.ep 1 4 0 0)))), (5, ci a.length)], [(0, (.arr 4 [fzs (FT (.mk k s n (a ++ b)))])), (1, (.arr 4 [fzs (FT (.mk k' s' n' (a' ++ b')))]))], 2⟩
  | [], a, [], a', _, hl, _, _ => by
    refine RPt.vc hP sh lv16 (Eq.mpr (v16_1a ..) ?_)
    exact ⟨rfl, br_of (fun h => absurd (of_decide_eq_true h) (geI' a)) (fun _ => ret_b rfl)⟩
  | t :: b, a, u :: b', a', ih, hl, ha, hb => by
    refine RPt.vc hP sh lv16 (Eq.mpr (v16_1a ..) ?_)
    have hl' := hl
    simp only [List.length_append, List.length_cons, B] at hl'
    refine ⟨rfl, br_of (fun _ => ?_) (fun h => absurd (ltI' a t b) (of_decide_eq_false h))⟩
    have h1 := ih t List.mem_cons_self u List.mem_cons_self
    have h2 := l_same k s n k' s' n' b (a ++ [t]) b' (a' ++ [u]) (fun x hx y hy => ih x (List.mem_cons_of_mem _ hx) y (List.mem_cons_of_mem _ hy)) (by rw [ap]; exact hl) (by simp [ha]) (by simpa using hb)
    have h3 := ltI' a t b
    have h4 := ltI' a' u b'
    rw [← ha] at h4
    rw [ap, ap, nx] at h2
    rw [midI, midI' a a' ha, w64 (by omega) (by omega)]
    obtain ⟨k1, s1, n1, l1⟩ := t
    obtain ⟨k2, s2, n2, l2⟩ := u
    refine ⟨⟨rfl, by omega, h3, rfl⟩, ⟨rfl, by omega, h4, rfl⟩, _, h1, br_of (fun h => ret_b ?_) (fun h => ?_)⟩
    · rw [sameL, show sameB (.mk k1 s1 n1 l1) (.mk k2 s2 n2 l2) = false by simpa using h, Bool.false_and]
    · rw [sameL, show sameB (.mk k1 s1 n1 l1) (.mk k2 s2 n2 l2) = true by simpa using h, Bool.true_and]; exact h2
theorem c_rsame : ∀ a : Tm, a.sz ≤ B → ∀ b : Tm, AC Try.prog 16 [aT a, aT b] [] (cb (sameB a b)) [] := by
  refine Tm.ind fun a ih hs b => ?_
  obtain ⟨k, s, n, l⟩ := a
  obtain ⟨k', s', n', l'⟩ := b
  have hl := Tm.szs_length l
  simp only [Tm.sz, B] at hs
  refine AC.vc hP sh lv16 (Nat.le_refl _) (by simp) (by simp) (Eq.mpr (v16 k s n (FTs l) k' s' n' (FTs l') _ _) ?_)
  have key := fun he => l_same k s n k' s' n' l [] l' [] (fun u hu v _ => ih u hu (by have := Tm.szs_mem hu; simp only [B]; omega) v) (by simp only [List.nil_append, B]; omega) rfl he
  rw [lenI, lenI]
  refine br_of (fun h => ret_b ?_) (fun h => br_of (fun h2 => ret_b ?_) (fun h2 => br_of (fun h3 => ret_b ?_) (fun h3 => ⟨rfl, rfl, br_of (fun h4 => ret_b ?_) (fun h4 => ?_)⟩)))
  · simp only [sameB, show (k == k') = false by simpa using h, Bool.false_and]
  · simp only [sameB, show (s == s') = false by simpa using h2, Bool.false_and, Bool.and_false]
  · simp only [sameB, show (n == n') = false by simpa using h3, Bool.false_and, Bool.and_false]
  · rw [sameB, sameL_len (by intro e; simp [e] at h4)]; simp
  · simp only [sameB, show (k == k') = true by simpa using h, show (s == s') = true by simpa using h2, show (n == n') = true by simpa using h3, Bool.true_and]
    exact key (by have : (l.length : Int) = l'.length := by simpa using h4
                  omega)

/-! ### What is within; how large -/
def Tm.inner (t : Tm) : Bool := t.k == 5 || t.k == 6
def Tm.kids (t : Tm) : List Tm := if t.inner = true then t.l else []
def Tm.by (t : Tm) : Int := if t.k == 5 then 1 else 0
end Go.AM

set_option maxRecDepth 100000
open Go Go.Proofs
namespace Go.AM
/-! ### What is within -/
def kidsV (t : Tm) : FV := if t.inner = true then .sl false 4 (FTs t.l) else .nils
theorem kidsV_ses (t : Tm) : (kidsV t).ses = FTs t.kids ∧ (kidsV t).isSl 4 = true := by
  unfold kidsV Tm.kids
  split <;> exact ⟨rfl, rfl⟩
theorem c_within (t : Tm) : AC Try.prog 69 [aT t] [] (.tup [(false, [.a (.fz (kidsV t))]), (false, [.a (.fz (.int .i64 t.by))])]) [] := by
  obtain ⟨k, s, n, l⟩ := t
  refine AC.vc hP sh lv69 (Nat.le_refl _) (by simp) (by simp) (Eq.mpr (v69 k s n (FTs l) _ _) ?_)
  refine br_of (fun h => ⟨?_, rfl⟩) (fun h => br_of (fun h2 => ⟨?_, rfl⟩) (fun h2 => ⟨?_, rfl⟩))
  · have e1 : kidsV (.mk k s n l) = .sl false 4 (FTs l) := by unfold kidsV Tm.inner; simp only [Tm.k, h, Bool.true_or, if_true, Tm.l]
    have e2 : Tm.by (.mk k s n l) = 1 := by unfold Tm.by; simp only [Tm.k, h, if_true]
    rw [e1, e2]; exact .refl _
  · have e1 : kidsV (.mk k s n l) = .sl false 4 (FTs l) := by unfold kidsV Tm.inner; simp only [Tm.k, h2, Bool.or_true, if_true, Tm.l]
    have e2 : Tm.by (.mk k s n l) = 0 := by unfold Tm.by; simp only [Tm.k, h, Bool.false_eq_true, if_false]
    rw [e1, e2]; exact .refl _
  · have e1 : kidsV (.mk k s n l) = .nils := by unfold kidsV Tm.inner; simp only [Tm.k, h, h2, Bool.or_self, Bool.false_eq_true, if_false]
    have e2 : Tm.by (.mk k s n l) = 0 := by unfold Tm.by; simp only [Tm.k, h, Bool.false_eq_true, if_false]
    rw [e1, e2]; exact .refl _
mutual
def sizeF : Tm → Nat
  | .mk k _ _ l => 1 + if (k == 5 || k == 6) = true then sizeL l else 0
def sizeL : List Tm → Nat
  | [] => 0
  | t :: l => sizeF t + sizeL l
end
theorem sizeF_eq (t : Tm) : sizeF t = 1 + sizeL t.kids := by
  obtain ⟨k, s, n, l⟩ := t
  by_cases h : (k == 5 || k == 6) = true
  · rw [show Tm.kids (.mk k s n l) = l from if_pos h, sizeF, if_pos h]
  · rw [show Tm.kids (.mk k s n l) = [] from if_neg h, sizeF, if_neg h]; rfl
mutual
theorem sizeF_le : ∀ t : Tm, sizeF t ≤ t.sz
  | .mk k s n l => by have := sizeL_le l; simp only [sizeF, Tm.sz]; split <;> omega
theorem sizeL_le : ∀ l : List Tm, sizeL l ≤ Tm.szs l
  | [] => Nat.le_refl _
  | t :: l => by have := sizeF_le t; have := sizeL_le l; simp only [sizeL, Tm.szs]; omega
end
theorem l_size : ∀ (b a : List Tm) (v : FV) (acc : Nat), v.ses = FTs (a ++ b) → v.isSl 4 = true → (∀ u ∈ b, AC Try.prog 23 [aT u] [] (ci (sizeF u)) []) → (a ++ b).length ≤ B → acc + sizeL b ≤ 2 * B →
    RPt Try.prog 23 0 (ci ((acc + sizeL b : Nat) : Int)) [] 1 ⟨[(3, ci acc), (13, .c (.a (.fz v))), (14, ci (a ++ b).length), (15, ci a.length)], [], 0⟩
  | [], a, v, acc, hv, hs, _, hl, ha => by
    refine RPt.vc hP sh lv23 (Eq.mpr (v23_1a ..) ?_)
    exact br_of (fun h => absurd (of_decide_eq_true h) (by simp)) (fun _ => ret_i (by simp [sizeL]))
  | t :: b, a, v, acc, hv, hs, ih, hl, ha => by
    refine RPt.vc hP sh lv23 (Eq.mpr (v23_1a ..) ?_)
    have hl' := hl
    simp only [List.length_append, List.length_cons, B] at hl'
    simp only [sizeL, B] at ha
    have h1 := ih t List.mem_cons_self
    have h2 := l_size b (a ++ [t]) v (acc + sizeF t) (by rw [ap]; exact hv) hs (fun u hu => ih u (List.mem_cons_of_mem _ hu)) (by rw [ap]; exact hl) (by simp only [B]; omega)
    have h3 := ltI' a t b
    rw [ap, nx] at h2
    rw [hv, midI, w64 (x := (a.length : Int) + 1) (by omega) (by omega)]
    refine br_of (fun _ => ?_) (fun h => absurd (ltI a t b) (of_decide_eq_false h))
    rw [show acc + sizeL (t :: b) = acc + sizeF t + sizeL b by simp only [sizeL]; omega]
    obtain ⟨k', s', n', l'⟩ := t
    refine ⟨⟨hs, by omega, h3, rfl⟩, _, h1, ?_⟩
    rw [w64 (by omega) (by omega), show (acc : Int) + ((sizeF (.mk k' s' n' l') : Nat) : Int) = ((acc + sizeF (.mk k' s' n' l') : Nat) : Int) by omega]
    exact h2
theorem c_size : ∀ t : Tm, t.sz ≤ B → AC Try.prog 23 [aT t] [] (ci (sizeF t)) [] := by
  refine Tm.ind fun t ih hs => ?_
  have hw := c_within t
  have hk := kidsV_ses t
  have hsz := sizeF_eq t
  have hle := sizeF_le t
  have hkl : t.kids.length ≤ B ∧ (∀ u ∈ t.kids, u ∈ t.l) := by
    have := Tm.szs_length t.l
    rw [Tm.sz_eq] at hs
    unfold Tm.kids
    split
    · exact ⟨by simp only [B] at *; omega, fun u hu => hu⟩
    · exact ⟨by simp [B], fun u hu => by simp at hu⟩
  have key := l_size t.kids [] (kidsV t) 1 (by simpa using hk.1) hk.2 (fun u hu => ih u (hkl.2 u hu) (by have := Tm.szs_mem (hkl.2 u hu); rw [Tm.sz_eq] at hs; simp only [B] at *; omega)) (by simpa using hkl.1) (by simp only [B] at *; omega)
  refine AC.vc hP sh lv23 (Nat.le_refl _) (by simp) (by simp) (Eq.mpr (v23 ..) ?_)
  refine ⟨_, _, hw, hk.2, ?_⟩
  rw [hk.1, hsz, lenI]
  simpa using key

/-! ### How loose -/
mutual
/-- Numbers of what is bound, up to M. -/
def bd (M : Int) : Tm → Prop
  | .mk k _ n l => (k = 3 → 0 - M ≤ n ∧ n ≤ M) ∧ bds M l
def bds (M : Int) : List Tm → Prop
  | [] => True
  | t :: l => bd M t ∧ bds M l
end
theorem bds_mem {M : Int} : ∀ {l : List Tm} {t : Tm}, bds M l → t ∈ l → bd M t
  | x :: l, t, h, ht => by
    rcases List.mem_cons.1 ht with rfl | ht
    · exact h.1
    · exact bds_mem h.2 ht
theorem bd_l {M : Int} {t : Tm} (h : bd M t) : bds M t.l := by cases t; exact h.2
def maxI (a b : Int) : Int := if a ≤ b then b else a
theorem foldMax2 (a b : Int) : foldMax [a, b] = maxI a b := by
  simp only [foldMax, List.foldl, maxI, max, maxOfLe]
mutual
def looseF : Tm → Int → Int → Int
  | .mk kd _ n l, k, acc => if (kd == 5) = true then looseL l (k + 1) acc else if (kd == 6) = true then looseL l k acc else if (kd == 3) = true then maxI acc (n - k + 1) else acc
def looseL : List Tm → Int → Int → Int
  | [], _, acc => acc
  | t :: l, k, acc => looseL l k (looseF t k acc)
end
abbrev obj1 (n : Int) : AObj := .arr 1 [[.a (.fz (.int .i64 n))]]
theorem c_loose1 (u : Tm) (k acc : Int) (hb : u.k = 3 → 0 - 2305843009213693952 ≤ u.n ∧ u.n ≤ 2305843009213693952) (h0 : 0 ≤ k) (h1 : k ≤ 2305843009213693952) :
    AC Try.prog 67 [aT u, ci k, .c (.a (.ep 0 1 0 0))] [obj1 acc] (.tup []) [obj1 (if (u.k == 3) = true then maxI acc (u.n - k + 1) else acc)] := by
  obtain ⟨kd, s, n, l⟩ := u
  simp only [Tm.k, Tm.n] at hb
  refine AC.vc hP sh lv67 (Nat.le_refl _) (by simp [isLive]) (by simp) (Eq.mpr (v67 kd s n (FTs l) k acc _ _) ?_)
  refine br_of (fun h => ⟨.refl _, ?_⟩) (fun h => ⟨.refl _, ?_⟩)
  · have hk : kd = 3 := by simpa using h
    have := hb hk
    rw [w64 (x := n - k) (by omega) (by omega), w64 (x := n - k + 1) (by omega) (by omega), foldMax2]
    simp only [Tm.k, Tm.n, h, if_true]
  · simp only [Tm.k, h, Bool.false_eq_true, if_false]
abbrev tellL : TV := .c (.fn (.func 67) [] [(false, [.ep 0 1 0 0])])
theorem l_each (k by_ : Int) (h0 : 0 ≤ k) (hby : 0 ≤ by_) (hby1 : by_ ≤ 1) : ∀ (b a : List Tm) (v : FV) (acc : Int), v.ses = FTs (a ++ b) → v.isSl 4 = true →
    (∀ u ∈ b, ∀ acc, AC Try.prog 66 [aT u, ci (k + by_), tellL] [obj1 acc] (.tup []) [obj1 (looseF u (k + by_) acc)]) → (a ++ b).length ≤ B → k ≤ 2305843009213693952 →
    RPt Try.prog 66 1 (.tup []) [obj1 (looseL b (k + by_) acc)] 1 ⟨[(1, ci k), (2, tellL), (7, ci by_), (27, .c (.a (.fz v))), (28, ci (a ++ b).length), (29, ci a.length)], [(0, obj1 acc)], 1⟩
  | [], a, v, acc, hv, hs, _, hl, hk => by
    refine RPt.vc hP sh lv66 (Eq.mpr (v66_1a ..) ?_)
    exact br_of (fun h => absurd (of_decide_eq_true h) (by simp)) (fun _ => ⟨.refl _, rfl⟩)
  | t :: b, a, v, acc, hv, hs, ih, hl, hk => by
    refine RPt.vc hP sh lv66 (Eq.mpr (v66_1a ..) ?_)
    have hl' := hl
    simp only [List.length_append, List.length_cons, B] at hl'
    have h1 := ih t List.mem_cons_self acc
    have h2 := l_each k by_ h0 hby hby1 b (a ++ [t]) v (looseF t (k + by_) acc) (by rw [ap]; exact hv) hs (fun u hu => ih u (List.mem_cons_of_mem _ hu)) (by rw [ap]; exact hl) hk
    have h3 := ltI' a t b
    rw [ap, nx] at h2
    rw [hv, midI, w64 (x := (a.length : Int) + 1) (by omega) (by omega), w64 (x := k + by_) (by omega) (by omega)]
    refine br_of (fun _ => ?_) (fun h => absurd (ltI a t b) (of_decide_eq_false h))
    obtain ⟨k', s', n', l'⟩ := t
    exact ⟨⟨hs, by omega, h3, rfl⟩, .inl ⟨_, h1, h2⟩⟩
theorem c_each : ∀ t : Tm, t.sz ≤ B → bd 2305843009213693952 t → ∀ k acc : Int, 0 ≤ k → k + t.sz ≤ 2305843009213693952 → AC Try.prog 66 [aT t, ci k, tellL] [obj1 acc] (.tup []) [obj1 (looseF t k acc)] := by
  refine Tm.ind fun t ih hs hb k acc h0 h1 => ?_
  have hw := c_within t
  have hk := kidsV_ses t
  have hlen := Tm.szs_length t.l
  obtain ⟨kd, s, n, l⟩ := t
  simp only [Tm.sz, B, Tm.l] at hs hlen
  simp only [Tm.sz] at h1
  have key : ∀ by_ : Int, 0 ≤ by_ → by_ ≤ 1 → Tm.kids (.mk kd s n l) = l → RPt Try.prog 66 1 (.tup []) [obj1 (looseL l (k + by_) acc)] 1 ⟨[(1, ci k), (2, tellL), (7, ci by_), (27, .c (.a (.fz (kidsV (.mk kd s n l))))), (28, ci l.length), (29, ci 0)], [(0, obj1 acc)], 1⟩ := by
    intro by_ hb0 hb1 hkids
    have := l_each k by_ h0 hb0 hb1 l [] (kidsV (.mk kd s n l)) acc (by rw [hk.1, hkids]; rfl) hk.2 (fun u hu acc => ih u hu (by have := Tm.szs_mem hu; simp only [B]; omega) (bds_mem hb.2 hu) (k + by_) acc (by omega) (by have := Tm.szs_mem hu; omega)) (by simp only [List.nil_append, B]; omega) (by omega)
    simpa using this
  refine AC.vc hP sh lv66 (Nat.le_refl _) (by simp [isLive]) (by simp) (Eq.mpr (v66 kd s n (FTs l) k acc _ _) ?_)
  refine br_of (fun h => br_of (fun h2 => ⟨_, c_loose1 (.mk kd s n l) k acc hb.1 h0 (by omega), .refl _, ?_⟩) (fun h2 => ⟨_, _, hw, hk.2, ?_⟩)) (fun h => ⟨_, _, hw, hk.2, ?_⟩)
  · have e1 : (kd == 5) = false := by simpa using h
    have e2 : (kd == 6) = false := by simpa using h2
    simp only [looseF, Tm.k, Tm.n, e1, e2, Bool.false_eq_true, if_false]
    rfl
  · have e1 : (kd == 5) = false := by simpa using h
    have e2 : (kd == 6) = true := by simpa using h2
    have ek : Tm.kids (.mk kd s n l) = l := by unfold Tm.kids Tm.inner; simp only [Tm.k, e2, Bool.or_true, if_true, Tm.l]
    have := key 0 (by omega) (by omega) ek
    rw [hk.1, ek, lenI, show Tm.by (.mk kd s n l) = 0 by unfold Tm.by; simp only [Tm.k, e1, Bool.false_eq_true, if_false]]
    simp only [looseF, e1, e2, Bool.false_eq_true, if_false, if_true]
    simpa using this
  · have e1 : (kd == 5) = true := by simpa using h
    have ek : Tm.kids (.mk kd s n l) = l := by unfold Tm.kids Tm.inner; simp only [Tm.k, e1, Bool.true_or, if_true, Tm.l]
    have := key 1 (by omega) (by omega) ek
    rw [hk.1, ek, lenI, show Tm.by (.mk kd s n l) = 1 by unfold Tm.by; simp only [Tm.k, e1, if_true]]
    simp only [looseF, e1, if_true]
    exact this
theorem c_loose (t : Tm) (hs : t.sz ≤ B) (hb : bd 2305843009213693952 t) : AC Try.prog 19 [aT t] [] (ci (looseF t 0 0)) [] := by
  have h := c_each t hs hb 0 0 (Int.le_refl _) (by simp only [B] at hs; omega)
  refine AC.vc hP sh lv19 (Nat.le_refl _) (by simp) (by simp) (Eq.mpr (v19 ..) ?_)
  exact .inl ⟨_, h, ret_i rfl⟩
end Go.AM

set_option maxRecDepth 100000
open Go Go.Proofs
namespace Go.AM
/-! ### Rows put together -/
theorem c_grow (n : Int) (h0 : 0 ≤ n) (h1 : n ≤ 2199023255552) : (n = 0 → AC Try.prog 102 [.c (.a (.fz .nils)), ci n] [] (.c (.a (.fz .nils))) []) ∧
    (n ≠ 0 → AC Try.prog 102 [.c (.a (.fz .nils)), ci n] [] (.c (.a (.osl 0 4 0 0))) [.arz 4 []]) := by
  constructor
  · intro hn
    refine AC.vc hP sh lv102 (Nat.le_refl _) (by simp) (by simp) (Eq.mpr (v102 ..) ?_)
    refine br_of (fun h => absurd (of_decide_eq_true h) (by omega)) (fun _ => ⟨rfl, br_of (fun h => ?_) (fun _ => ret_r (.refl _))⟩)
    rw [w64 (by omega) (by omega)] at h
    exact absurd (of_decide_eq_true h) (by omega)
  · intro hn
    refine AC.vc hP sh lv102 (by simp) (by simp) (by simp [isLive]) (Eq.mpr (v102 ..) ?_)
    rw [w64 (by omega) (by omega)]
    refine br_of (fun h => absurd (of_decide_eq_true h) (by omega)) (fun _ => ⟨rfl, br_of (fun h => ⟨rfl, ⟨by omega, by omega, by omega⟩, ⟨by omega, by unfold roomB; omega⟩, rfl, ⟨by omega, by omega, by omega⟩, .refl _, rfl⟩) (fun h => absurd (of_decide_eq_false h) (by omega))⟩)
/-- Rows of rows. -/
def FLs (ls : List (List Tm)) : List (List FV) := ls.map fun l => [.sl false 4 (FTs l)]
def total (ls : List (List Tm)) : Nat := (ls.map List.length).foldr (· + ·) 0
theorem FLs_length (ls : List (List Tm)) : (FLs ls).length = ls.length := by simp [FLs]
theorem midL (a : List (List Tm)) (l : List Tm) (b : List (List Tm)) : List.getD (FLs (a ++ l :: b)) (Int.toNat (a.length : Int)) [] = [.sl false 4 (FTs l)] := by
  rw [show Int.toNat (a.length : Int) = a.length by omega]
  simp [List.getD, FLs]
theorem ltL (a : List (List Tm)) (t : List Tm) (b : List (List Tm)) : (a.length : Int) < (((FLs (a ++ t :: b)).length : Nat) : Int) := by rw [FLs_length]; exact ltI a t b
theorem total_mid (a : List (List Tm)) (l : List Tm) (b : List (List Tm)) : total (a ++ l :: b) = total a + l.length + total b := by
  induction a with
  | nil => simp [total]
  | cons x a ih => simp only [total, List.cons_append, List.map_cons, List.foldr_cons] at ih ⊢; omega
theorem total_snoc (a : List (List Tm)) (l : List Tm) : total (a ++ [l]) = total a + l.length := by rw [total_mid]; simp [total]
abbrev aLs (ls : List (List Tm)) : TV := .c (.a (.fz (.sl false 1 (FLs ls))))
theorem roomI {n : Nat} (h : n ≤ 2199023255552) : roomB n 56 := by unfold roomB; omega
theorem l_cat3 : ∀ (b a : List (List Tm)) (acc : List Tm), acc.length + total b ≤ 2199023255552 → (a ++ b).length ≤ B →
    RPt Try.prog 68 0 (aL (acc ++ b.flatten)) [] 5 ⟨[(6, (.c (.a (.osl 0 4 0 acc.length)))), (25, aLs (a ++ b)), (26, ci (a ++ b).length), (27, ci a.length)], [(0, (.arz 4 (FTs acc)))], 1⟩
  | [], a, acc, ht, hl => by
    refine RPt.vc hP sh lv68 (Eq.mpr (v68_5b ..) ?_)
    refine br_of (fun h => absurd (of_decide_eq_true h) (by simp)) (fun _ => ⟨⟨rfl, by rw [FTs_length]; omega⟩, ret_r ?_⟩)
    rw [List.drop_zero, List.take_of_length_le (by rw [FTs_length]; omega), List.flatten_nil, List.append_nil]
    exact le_c leSl
  | l :: b, a, acc, ht, hl => by
    refine RPt.vc hP sh lv68 (Eq.mpr (v68_5b ..) ?_)
    have hl' := hl
    have h3 := ltL a l b
    simp only [List.length_append, List.length_cons, B] at hl'
    have ht' : acc.length + (l.length + total b) ≤ 2199023255552 := by simpa [total] using ht
    have h2 := l_cat3 b (a ++ [l]) (acc ++ l) (by rw [List.length_append]; omega) (by rw [ap]; exact hl)
    rw [ap, nx] at h2
    rw [midL, w64 (by omega) (by omega)]
    refine br_of (fun _ => ⟨⟨rfl, by omega, h3, rfl⟩, rfl, ⟨by rw [FTs_length]; omega, ?_⟩, ?_⟩) (fun h => absurd (ltI a l b) (of_decide_eq_false h))
    · show roomB (acc.length + (FTs l).length) 56
      rw [FTs_length]; exact roomI (by omega)
    · show RPt _ _ _ _ _ _ ⟨[(6, (.c (.a (.osl 0 4 0 (acc.length + (FTs l).length))))), _, _, _], [(0, .arz 4 (List.take acc.length (FTs acc) ++ FTs l))], 1⟩
      rw [List.take_of_length_le (by rw [FTs_length]; omega), ← FTs_append, FTs_length, ← List.length_append]
      rw [show acc ++ (l :: b).flatten = acc ++ l ++ b.flatten by simp]
      exact h2
theorem l_cat2 : ∀ (b a : List (List Tm)), total b ≤ 2199023255552 → (a ++ b).length ≤ B →
    RPt Try.prog 68 0 (aL b.flatten) [] 5 ⟨[(6, (.c (.a (.fz .nils)))), (25, aLs (a ++ b)), (26, ci (a ++ b).length), (27, ci a.length)], [], 0⟩
  | [], a, ht, hl => by
    refine RPt.vc hP sh lv68 (Eq.mpr (v68_5a ..) ?_)
    refine br_of (fun h => absurd (of_decide_eq_true h) (by simp)) (fun _ => ret_r (le_c leNil))
  | l :: b, a, ht, hl => by
    refine RPt.vc hP sh lv68 (Eq.mpr (v68_5a ..) ?_)
    have hl' := hl
    have h3 := ltL a l b
    simp only [List.length_append, List.length_cons, B] at hl'
    have ht' : l.length + total b ≤ 2199023255552 := by simpa [total] using ht
    rw [midL, w64 (by omega) (by omega)]
    refine br_of (fun _ => ⟨⟨rfl, by omega, h3, rfl⟩, rfl, ?_⟩) (fun h => absurd (ltI a l b) (of_decide_eq_false h))
    show br (List.isEmpty (FTs l)) _ _
    refine br_of (fun he => ?_) (fun he => ⟨?_, ?_⟩)
    · have h2 := l_cat2 b (a ++ [l]) (by omega) (by rw [ap]; exact hl)
      rw [ap, nx] at h2
      have hnil : l = [] := by cases l with
        | nil => rfl
        | cons x l => simp [FTs] at he
      rw [show (l :: b).flatten = b.flatten by rw [hnil]; simp]
      exact h2
    · show roomB (FTs l).length 56
      rw [FTs_length]; exact roomI (by omega)
    · have h2 := l_cat3 b (a ++ [l]) l (by omega) (by rw [ap]; exact hl)
      rw [ap, nx] at h2
      show RPt _ _ _ _ _ _ ⟨[(6, (.c (.a (.osl 0 4 0 (FTs l).length)))), _, _, _], [(0, .arz 4 (FTs l))], 1⟩
      rw [FTs_length, List.flatten_cons]
      exact h2
theorem l_cat1 : ∀ (b a : List (List Tm)), total (a ++ b) ≤ 2199023255552 → (a ++ b).length ≤ B →
    RPt Try.prog 68 0 (aL (a ++ b).flatten) [] 1 ⟨[(0, aLs (a ++ b)), (3, ci (total a)), (9, aLs (a ++ b)), (10, ci (a ++ b).length), (11, ci a.length)], [], 0⟩
  | [], a, ht, hl => by
    refine RPt.vc hP sh lv68 (Eq.mpr (v68_1a ..) ?_)
    have hg := c_grow (total a : Int) (by omega) (by simp only [List.append_nil] at ht; omega)
    refine br_of (fun h => absurd (of_decide_eq_true h) (by simp)) (fun _ => ?_)
    have e : (((FLs (a ++ [])).length : Nat) : Int) = (((a ++ []).length : Nat) : Int) := by rw [FLs_length]
    rw [e]
    by_cases hz : total a = 0
    · have h2 := l_cat2 (a ++ []) [] (by simpa using ht) (by simpa using hl)
      exact .inl ⟨(), hg.1 (by omega), rfl, by simpa using h2⟩
    · have h2 := l_cat3 (a ++ []) [] [] (by simpa using ht) (by simpa using hl)
      exact .inr ⟨(), hg.2 (by omega), rfl, by simpa [FTs] using h2⟩
  | l :: b, a, ht, hl => by
    refine RPt.vc hP sh lv68 (Eq.mpr (v68_1a ..) ?_)
    have hl' := hl
    have ht' := ht
    have h3 := ltL a l b
    rw [total_mid] at ht'
    simp only [List.length_append, List.length_cons, B] at hl'
    have h2 := l_cat1 b (a ++ [l]) (by rw [ap]; exact ht) (by rw [ap]; exact hl)
    rw [ap, nx, total_snoc] at h2
    rw [midL, w64 (x := (a.length : Int) + 1) (by omega) (by omega)]
    refine br_of (fun _ => ⟨⟨rfl, by omega, h3, rfl⟩, rfl, ?_⟩) (fun h => absurd (ltI a l b) (of_decide_eq_false h))
    show br (decide (IntKind.wrap .i64 ((total a : Int) + (((FTs l).length : Nat) : Int)) < 0)) _ (RPt _ _ _ _ _ _ ⟨[_, (3, ci (IntKind.wrap .i64 ((total a : Int) + (((FTs l).length : Nat) : Int)))), _, _, _], _, _⟩)
    rw [FTs_length, w64 (by omega) (by omega)]
    refine br_of (fun h => absurd (of_decide_eq_true h) (by omega)) (fun _ => ?_)
    simpa using h2
theorem c_concat (ls : List (List Tm)) (ht : total ls ≤ 2199023255552) (hl : ls.length ≤ B) : AC Try.prog 68 [aLs ls] [] (aL ls.flatten) [] := by
  refine AC.vc hP sh lv68 (Nat.le_refl _) (by simp) (by simp) (Eq.mpr (v68 ..) ?_)
  have := l_cat1 ls [] (by simpa using ht) (by simpa using hl)
  have e : (((FLs ls).length : Nat) : Int) = ((ls.length : Nat) : Int) := by rw [FLs_length]
  rw [e]
  exact ⟨rfl, by simpa [total] using this⟩
/-- Two rows, each as it may come. -/
theorem c_concat2 {x y : FV} {l m : List Tm} (hx : FV.Le x (.sl false 4 (FTs l))) (hy : FV.Le y (.sl false 4 (FTs m))) (ht : l.length + m.length ≤ 2199023255552) : AC Try.prog 68 [.c (.a (.fz (.sl true 1 [[x], [y]])))] [] (aL (l ++ m)) [] := by
  have h := c_concat [l, m] (by simpa [total] using ht) (by simp [B])
  rw [show [l, m].flatten = l ++ m by simp] at h
  refine h.args ⟨le_c (.trans _ _ _ (.rows true 1 _ (FLs [l, m]) rfl (fun i e e' he he' => ?_) (fun i j e e' f f' he he' hf hf' => ?_)) (.nn _ _ _)), trivial⟩
  · match i, he, he' with
    | 0, he, he' => simp [FLs] at he he'; subst he; subst he'; rfl
    | 1, he, he' => simp [FLs] at he he'; subst he; subst he'; rfl
    | i + 2, he, he' => simp at he
  · match i, he, he' with
    | 0, he, he' =>
      simp [FLs] at he he'; subst he; subst he'
      match j, hf, hf' with
      | 0, hf, hf' => simp at hf hf'; subst hf; subst hf'; exact hx
      | j + 1, hf, hf' => simp at hf
    | 1, he, he' =>
      simp [FLs] at he he'; subst he; subst he'
      match j, hf, hf' with
      | 0, hf, hf' => simp at hf hf'; subst hf; subst hf'; exact hy
      | j + 1, hf, hf' => simp at hf
    | i + 2, he, he' => simp at he
/-- Applied. -/
def applyF (f : Tm) (args : List Tm) : Tm :=
  match args with
  | [] => f
  | _ => if (f.k == 6) = true ∧ f.l ≠ [] then .mk 6 [] 0 (f.l ++ args) else .mk 6 [] 0 (f :: args)
theorem c_apply (f : Tm) (args : List Tm) (h : f.l.length + args.length < 2199023255552) : AC Try.prog 21 [aT f, aL args] [] (aT (applyF f args)) [] := by
  obtain ⟨k, s, n, l⟩ := f
  simp only [Tm.l] at h
  refine AC.vc hP sh lv21 (Nat.le_refl _) (by simp) (by simp) (Eq.mpr (v21 k s n (FTs l) (FTs args) _ _) ?_)
  refine ⟨rfl, br_of (fun h1 => ?_) (fun h1 => ?_)⟩
  · have : args = [] := by cases args with
      | nil => rfl
      | cons x l => simp [FTs] at h1; omega
    subst this
    exact ret_r (.refl _)
  · match args, h1, h with
    | [], h1, _ => simp [FTs] at h1
    | a :: r, h1, h =>
      have one : FV.Le (.sl true 4 [[.int .i64 k, .str s, .int .i64 n, .sl false 4 (FTs l)]]) (.sl false 4 (FTs [.mk k s n l])) := .nn _ _ _
      have same : ∀ l : List Tm, FV.Le (.sl false 4 (FTs l)) (.sl false 4 (FTs l)) := fun _ => .refl _
      refine br_of (fun h2 => ⟨rfl, br_of (fun h3 => ⟨⟨rfl, by omega⟩, _, c_concat2 (same l) (same (a :: r)) (by omega), ret_r ?_⟩) (fun h3 => ⟨⟨rfl, by omega⟩, ⟨rfl, by omega⟩, _, c_concat2 one (same (a :: r)) (by simp only [List.length_cons, List.length_nil] at h ⊢; omega), ret_r ?_⟩)⟩)
        (fun h2 => ⟨⟨rfl, by omega⟩, ⟨rfl, by omega⟩, _, c_concat2 one (same (a :: r)) (by simp only [List.length_cons, List.length_nil] at h ⊢; omega), ret_r ?_⟩)
      · have hl : l ≠ [] := by intro e; subst e; simp [FTs] at h3
        rw [show applyF (.mk k s n l) (a :: r) = .mk 6 [] 0 (l ++ a :: r) from if_pos ⟨h2, hl⟩]
        exact .refl _
      · have hl : l = [] := by cases l with
          | nil => rfl
          | cons x l => simp [FTs] at h3
        rw [show applyF (.mk k s n l) (a :: r) = .mk 6 [] 0 (.mk k s n l :: a :: r) from if_neg (fun e => e.2 hl)]
        exact .refl _
      · rw [show applyF (.mk k s n l) (a :: r) = .mk 6 [] 0 (.mk k s n l :: a :: r) from if_neg (fun e => by have := e.1; simp only [Tm.k, h2] at this; cases this)]
        exact .refl _
end Go.AM

set_option maxRecDepth 100000
open Go Go.Proofs
namespace Go.AM

/-! ### Through a term -/
def withF (t : Tm) (out : List Tm) : Tm :=
  if (t.k == 6) = true ∧ 1 < out.length ∧ ((out.headD default).k == 6) = true ∧ ((t.l.headD default).k != 6) = true then applyF (out.headD default) out.tail else .mk t.k t.s t.n out
mutual
def walkF (lf : Tm → Int → Tm) : Tm → Int → Tm
  | .mk k s n l, d => if (k == 5 || k == 6) = true then withF (.mk k s n l) (walkL lf l (d + if (k == 5) = true then 1 else 0)) else lf (.mk k s n l) d
def walkL (lf : Tm → Int → Tm) : List Tm → Int → List Tm
  | [], _ => []
  | t :: l, d => walkF lf t d :: walkL lf l d
end


/-! walk.term for Sh -/
abbrev cloSh : TV := .agg [.fn (.func 62) [] [(false, [.ep 0 1 0 0]), (false, [.ep 1 1 0 0])]]
abbrev stSh (fr by1 : Int) (k by_ : Int) (kd : Int) (s : List UInt8) (n : Int) (l : List Tm) (w : AV) (i : Nat) (h : AHeap) (nx : Nat) : St :=
  ⟨[(2, ci k), (3, .c (.a (.ep 2 1 0 0))), (4, .c (.a (.ep 3 4 0 0))), (6, .c (.a (.ep 4 4 0 0))), (7, aL l), (8, ci by_), (9, .c (.a w)), (30, aL l), (31, ci l.length), (32, ci i)],
   [(0, (obj1 fr)), (1, (obj1 by1)), (2, .arr 1 [[.fn (.func 62) [] [(false, [.ep 0 1 0 0]), (false, [.ep 1 1 0 0])]]]), (3, .arr 4 [fzs (FT (.mk kd s n l))]), (4, .arr 4 [[.a (.fz (.int .i64 0)), .a (.fz (.str [])), .a (.fz (.int .i64 0)), .a (.fz .nils)]])] ++ h, nx⟩
theorem l_w2Sh (fr by1 : Int) (lf : Tm → Int → Tm) (k by_ : Int) (h0 : 0 ≤ k) (hk : k ≤ 2305843009213693952) (hb0 : 0 ≤ by_) (hb1 : by_ ≤ 1) (kd : Int) (s : List UInt8) (n : Int) (hin : (kd == 5 || kd == 6) = true) :
    ∀ (b a acc : List Tm), acc ≠ [] → acc.length = a.length → (a ++ b).length ≤ B → (∀ u ∈ acc ++ walkL lf b (k + by_), u.l.length ≤ 2 * B) →
    (∀ u ∈ b, AC Try.prog 64 [cloSh, aT u, ci (k + by_)] [(obj1 fr), (obj1 by1)] (aT (walkF lf u (k + by_))) [(obj1 fr), (obj1 by1)]) →
    RPt Try.prog 64 2 (aT (withF (.mk kd s n (a ++ b)) (acc ++ walkL lf b (k + by_)))) [(obj1 fr), (obj1 by1)] 1 (stSh fr by1 k by_ kd s n (a ++ b) (.osl 5 4 0 acc.length) a.length [(5, .arz 4 (FTs acc))] 6)
  | [], a, acc, hne, hlen, hl, hw, _ => by
    refine RPt.vc hP sh lv64 (Eq.mpr (v64_1b ..) ?_)
    match acc, a, hne, hlen with
    | o :: r, u :: a', _, hlen =>
    have e1 : List.take (o :: r).length (List.drop 0 (FTs (o :: r))) = FTs (o :: r) := by rw [List.drop_zero, List.take_of_length_le (by rw [FTs_length]; omega)]
    have e2 : (0 : Nat) + (o :: r).length ≤ (FTs (o :: r)).length := by rw [FTs_length]; omega
    have hrest : ∀ (k' : Int) (s' : List UInt8) (n' : Int), TV.Le (.agg [.a (.fz (.int .i64 k')), .a (.fz (.str s')), .a (.fz (.int .i64 n')), .a (.fz (.sl true 4 (List.take (o :: r).length (List.drop 0 (FTs (o :: r))))))]) (aT (.mk k' s' n' (o :: r))) := fun k' s' n' => by rw [e1]; exact leT leSl
    refine br_of (fun h => absurd (of_decide_eq_true h) (by simp)) (fun _ => br_of (fun h6 => br_of (fun h1 => ⟨⟨by omega, by simp⟩, ⟨by rw [FTs_length]; simp, by cases o; rfl, rfl⟩, br_of (fun ho => ⟨⟨rfl, by omega, by rw [List.append_nil]; show (0 : Int) < (((FTs (u :: a')).length : Nat) : Int); rw [FTs_length]; simp, by cases u; rfl⟩, br_of (fun hu => ?_) (fun hu => ⟨⟨rfl, e2⟩, ?_, rfl⟩)⟩) (fun ho => ⟨⟨rfl, e2⟩, ?_, rfl⟩)⟩) (fun h1 => ⟨⟨rfl, e2⟩, ?_, rfl⟩)) (fun h6 => ⟨⟨rfl, e2⟩, ?_, rfl⟩))
    · -- flat
      have hap := c_apply o r (by
        have := hw o (by simp)
        simp only [List.length_cons, List.length_append, List.length_nil, B] at hl hlen this ⊢; omega)
      have e3 : withF (.mk kd s n (u :: a' ++ [])) (o :: r ++ walkL lf [] (k + by_)) = applyF o r := by
        have c1 : 1 < (o :: r ++ walkL lf [] (k + by_)).length := by have := of_decide_eq_true h1; simp only [walkL, List.append_nil]; omega
        have c2 : (o.k == 6) = true := by cases o; exact ho
        have c3 : (u.k != 6) = true := by cases u; exact hu
        unfold withF
        rw [if_pos ⟨h6, c1, c2, c3⟩]
        simp [walkL]
      have e4 : List.take (Int.toNat ((o :: r).length : Int) - 1) (List.drop 1 (FTs (o :: r))) = FTs r := by
        rw [show Int.toNat ((o :: r).length : Int) - 1 = r.length by simp only [List.length_cons]; omega]
        show List.take r.length (FTs r) = FTs r
        rw [List.take_of_length_le (by rw [FTs_length]; omega)]
      have e5 : (1 : Nat) + (Int.toNat ((o :: r).length : Int) - 1) ≤ (FTs (o :: r)).length := by rw [FTs_length]; simp only [List.length_cons]; omega
      rw [e3]
      refine ⟨⟨by omega, by simp⟩, ⟨by rw [FTs_length]; simp, by cases o; rfl, rfl⟩, ⟨by omega, by simp; omega, by omega⟩, ⟨rfl, e5⟩, ?_⟩
      rw [e4]
      obtain ⟨k1, s1, n1, l1⟩ := o
      exact ⟨_, hap.args ⟨.refl _, le_c leSl, trivial⟩, .refl _, rfl⟩
    · have e3 : withF (.mk kd s n (u :: a' ++ [])) (o :: r ++ walkL lf [] (k + by_)) = .mk kd s n (o :: r) := by
        simp only [walkL, List.append_nil]
        exact if_neg fun e => by
          have hu' : (u.k != 6) = false := by cases u; exact hu
          have : (u.k != 6) = true := e.2.2.2
          rw [hu'] at this; cases this
      rw [e3]; exact hrest _ _ _
    · have e3 : withF (.mk kd s n (u :: a' ++ [])) (o :: r ++ walkL lf [] (k + by_)) = .mk kd s n (o :: r) := by
        simp only [walkL, List.append_nil]
        exact if_neg fun e => by
          have ho' : (o.k == 6) = false := by cases o; exact ho
          have : (o.k == 6) = true := e.2.2.1
          rw [ho'] at this; cases this
      rw [e3]; exact hrest _ _ _
    · have e3 : withF (.mk kd s n (u :: a' ++ [])) (o :: r ++ walkL lf [] (k + by_)) = .mk kd s n (o :: r) := by
        simp only [walkL, List.append_nil]
        exact if_neg fun e => by have := e.2.1; have := of_decide_eq_false h1; omega
      rw [e3]; exact hrest _ _ _
    · have e3 : withF (.mk kd s n (u :: a' ++ [])) (o :: r ++ walkL lf [] (k + by_)) = .mk kd s n (o :: r) := by
        simp only [walkL, List.append_nil]
        exact if_neg fun e => by
          have h6' : (kd == 6) = false := h6
          have : (kd == 6) = true := e.1
          rw [h6'] at this; cases this
      rw [e3]; exact hrest _ _ _
  | t :: b, a, acc, hne, hlen, hl, hw, ih => by
    refine RPt.vc hP sh lv64 (Eq.mpr (v64_1b ..) ?_)
    have hl' := hl
    simp only [List.length_append, List.length_cons, B] at hl'
    have h1 := ih t List.mem_cons_self
    have h2 := l_w2Sh fr by1 lf k by_ h0 hk hb0 hb1 kd s n hin b (a ++ [t]) (acc ++ [walkF lf t (k + by_)]) (by simp) (by simp [hlen]) (by rw [ap]; exact hl)
      (by rw [List.append_assoc]; simpa [walkL] using hw) (fun u hu => ih u (List.mem_cons_of_mem _ hu))
    have h3 := ltI' a t b
    unfold stSh at h2
    rw [ap, show (((a ++ [t]).length : Nat) : Int) = (a.length : Int) + 1 from nx a t] at h2
    show br (decide ((a.length : Int) < (((a ++ t :: b).length : Nat) : Int))) ((FV.isSl 4 (.sl false 4 (FTs (a ++ t :: b))) = true ∧ _ ∧ _ ∧ _) ∧ _) _
    refine br_of (fun _ => ?_) (fun h => absurd (ltI a t b) (of_decide_eq_false h))
    have hm := midI a t b
    rw [show FV.ses (.sl false 4 (FTs (a ++ t :: b))) = FTs (a ++ t :: b) from rfl, hm, w64 (x := (a.length : Int) + 1) (by omega) (by omega), w64 (x := k + by_) (by omega) (by omega)]
    obtain ⟨k', s', n', l'⟩ := t
    refine ⟨⟨rfl, by omega, h3, rfl⟩, _, h1, Nat.le_refl _, ⟨by rw [FTs_length]; omega, roomI (by omega)⟩, ?_⟩
    have e5 : List.take acc.length (FTs acc) ++ FTs [walkF lf (.mk k' s' n' l') (k + by_)] = FTs (acc ++ [walkF lf (.mk k' s' n' l') (k + by_)]) := by rw [List.take_of_length_le (by rw [FTs_length]; omega), ← FTs_append]
    have e6 : FTs [walkF lf (.mk k' s' n' l') (k + by_)] = [[.int .i64 (walkF lf (.mk k' s' n' l') (k + by_)).k, .str (walkF lf (.mk k' s' n' l') (k + by_)).s, .int .i64 (walkF lf (.mk k' s' n' l') (k + by_)).n, .sl false 4 (FTs (walkF lf (.mk k' s' n' l') (k + by_)).l)]] := by
      rw [FTs, FTs, FT_eta]
    rw [e6] at e5
    rw [e5]
    rw [show acc ++ walkL lf (.mk k' s' n' l' :: b) (k + by_) = acc ++ walkF lf (.mk k' s' n' l') (k + by_) :: walkL lf b (k + by_) by simp [walkL]]
    rw [show (acc ++ [walkF lf (.mk k' s' n' l') (k + by_)]).length = acc.length + 1 by simp, List.append_assoc] at h2
    exact h2
theorem l_w1Sh (fr by1 : Int) (lf : Tm → Int → Tm) (k by_ : Int) (h0 : 0 ≤ k) (hk : k ≤ 2305843009213693952) (hb0 : 0 ≤ by_) (hb1 : by_ ≤ 1) (kd : Int) (s : List UInt8) (n : Int) (hin : (kd == 5 || kd == 6) = true) :
    ∀ (b : List Tm), b.length ≤ B → (∀ u ∈ walkL lf b (k + by_), u.l.length ≤ 2 * B) →
    (∀ u ∈ b, AC Try.prog 64 [cloSh, aT u, ci (k + by_)] [(obj1 fr), (obj1 by1)] (aT (walkF lf u (k + by_))) [(obj1 fr), (obj1 by1)]) →
    RPt Try.prog 64 2 (aT (withF (.mk kd s n b) (walkL lf b (k + by_)))) [(obj1 fr), (obj1 by1)] 1 (stSh fr by1 k by_ kd s n b (.fz .nils) 0 [] 5)
  | [], hl, hw, _ => by
    refine RPt.vc hP sh lv64 (Eq.mpr (v64_1a ..) ?_)
    have e : withF (.mk kd s n []) (walkL lf [] (k + by_)) = .mk kd s n [] := if_neg fun e => by have := e.2.1; simp [walkL] at this
    rw [e]
    exact br_of (fun h => absurd (of_decide_eq_true h) (by simp)) (fun _ => br_of (fun _ => ⟨rfl, leT leNil, rfl⟩) (fun _ => ⟨leT leNil, rfl⟩))
  | t :: b, hl, hw, ih => by
    refine RPt.vc hP sh lv64 (Eq.mpr (v64_1a ..) ?_)
    have hl' := hl
    simp only [List.length_cons, B] at hl'
    have h1 := ih t List.mem_cons_self
    have h2 := l_w2Sh fr by1 lf k by_ h0 hk hb0 hb1 kd s n hin b [t] [walkF lf t (k + by_)] (by simp) rfl (by simpa using hl) (by simpa [walkL] using hw) (fun u hu => ih u (List.mem_cons_of_mem _ hu))
    show br (decide ((0 : Int) < (((t :: b).length : Nat) : Int))) ((FV.isSl 4 (.sl false 4 (FTs (t :: b))) = true ∧ _ ∧ _ ∧ _) ∧ _) _
    refine br_of (fun _ => ?_) (fun h => absurd (of_decide_eq_false h) (by simp))
    rw [show FV.ses (.sl false 4 (FTs (t :: b))) = FTs (t :: b) from rfl, show List.getD (FTs (t :: b)) (Int.toNat ((0 : Nat) : Int)) [] = FT t from rfl, w64 (x := k + by_) (by omega) (by omega), w64 (x := ((0 : Nat) : Int) + 1) (by omega) (by omega)]
    obtain ⟨k', s', n', l'⟩ := t
    have h3 : (0 : Int) < (((FTs (.mk k' s' n' l' :: b)).length : Nat) : Int) := by rw [FTs_length]; simp
    refine ⟨⟨rfl, by omega, h3, rfl⟩, _, h1, Nat.le_refl _, roomI (by omega), ?_⟩
    have e6 : FTs [walkF lf (.mk k' s' n' l') (k + by_)] = [[.int .i64 (walkF lf (.mk k' s' n' l') (k + by_)).k, .str (walkF lf (.mk k' s' n' l') (k + by_)).s, .int .i64 (walkF lf (.mk k' s' n' l') (k + by_)).n, .sl false 4 (FTs (walkF lf (.mk k' s' n' l') (k + by_)).l)]] := by
      rw [FTs, FTs, FT_eta]
    unfold stSh at h2
    rw [e6] at h2
    exact h2
/-- THE CONTRACT: from the leaf function's. -/
theorem c_wSh (fr by1 : Int) (lf : Tm → Int → Tm) (Q : Tm → Int → Prop)
    (hq : ∀ (kd : Int) (s : List UInt8) (n : Int) (l : List Tm) (d : Int), Q (.mk kd s n l) d → (kd == 5 || kd == 6) = true → ∀ u ∈ l, Q u (d + if (kd == 5) = true then 1 else 0))
    (hleaf : ∀ (u : Tm) (d : Int), (u.k == 5 || u.k == 6) = false → Q u d → 0 ≤ d → d ≤ 2305843009213693952 → AC Try.prog 62 [aT u, ci d, .c (.a (.ep 0 1 0 0)), .c (.a (.ep 1 1 0 0))] [(obj1 fr), (obj1 by1)] (aT (lf u d)) [(obj1 fr), (obj1 by1)])
    (hwid : ∀ (u : Tm) (d : Int), Q u d → (walkF lf u d).l.length ≤ 2 * B) :
    ∀ t : Tm, t.sz ≤ B → ∀ k : Int, Q t k → 0 ≤ k → k + t.sz ≤ 2305843009213693952 → AC Try.prog 64 [cloSh, aT t, ci k] [(obj1 fr), (obj1 by1)] (aT (walkF lf t k)) [(obj1 fr), (obj1 by1)] := by
  refine Tm.ind fun t ih hs k hQ h0 h1 => ?_
  have hlen := Tm.szs_length t.l
  obtain ⟨kd, s, n, l⟩ := t
  simp only [Tm.sz, B, Tm.l] at hs hlen
  simp only [Tm.sz] at h1
  have key : ∀ by_ : Int, 0 ≤ by_ → by_ ≤ 1 → (by_ = if (kd == 5) = true then 1 else 0) → (hin : (kd == 5 || kd == 6) = true) → RPt Try.prog 64 2 (aT (walkF lf (.mk kd s n l) k)) [(obj1 fr), (obj1 by1)] 1 (stSh fr by1 k by_ kd s n l (.fz .nils) 0 [] 5) := by
    intro by_ hb0 hb1 hby hin
    have hQ' := hq kd s n l k hQ hin
    rw [← hby] at hQ'
    have := l_w1Sh fr by1 lf k by_ h0 (by omega) hb0 hb1 kd s n hin l (by simp only [B]; omega) (fun u hu => by
      have : ∀ {m : List Tm}, (∀ v ∈ m, Q v (k + by_)) → ∀ u ∈ walkL lf m (k + by_), u.l.length ≤ 2 * B := by
        intro m
        induction m with
        | nil => intro _ u hu; simp [walkL] at hu
        | cons v m ihm =>
          intro hm u hu
          simp only [walkL, List.mem_cons] at hu
          rcases hu with rfl | hu
          · exact hwid v _ (hm v List.mem_cons_self)
          · exact ihm (fun x hx => hm x (List.mem_cons_of_mem _ hx)) u hu
      exact this hQ' u hu) (fun u hu => ih u hu (by have := Tm.szs_mem hu; simp only [B]; omega) (k + by_) (hQ' u hu) (by omega) (by have := Tm.szs_mem hu; omega))
    rw [walkF, if_pos hin, ← hby]
    exact this
  refine AC.vc hP sh lv64 (Nat.le_refl _) (by simp [isLive]) (by simp) (Eq.mpr (v64 kd s n (FTs l) k fr by1 _ _) ?_)
  have wi : (kd == 5 || kd == 6) = true → AC Try.prog 69 [aT (.mk kd s n l)] [] (.tup [(false, [.a (.fz (.sl false 4 (FTs l)))]), (false, [.a (.fz (.int .i64 (if (kd == 5) = true then 1 else 0)))])]) [] := fun hin => by
    have hw := c_within (.mk kd s n l)
    rw [show kidsV (.mk kd s n l) = .sl false 4 (FTs l) from if_pos hin] at hw
    exact hw
  refine br_of (fun h => br_of (fun h2 => ?_) (fun h2 => ?_)) (fun h => ?_)
  · have e1 : (kd == 5) = false := by simpa using h
    have e2 : (kd == 6) = false := by simpa using h2
    have e : (kd == 5 || kd == 6) = false := by rw [e1, e2]; rfl
    have hl := hleaf (.mk kd s n l) k e hQ h0 (by omega)
    rw [show walkF lf (.mk kd s n l) k = lf (.mk kd s n l) k by rw [walkF, if_neg (by rw [e]; simp)]]
    exact ⟨_, hl, .refl _, rfl⟩
  · have e1 : (kd == 5) = false := by simpa using h
    have e2 : (kd == 6) = true := by simpa using h2
    have hin : (kd == 5 || kd == 6) = true := by rw [e1, e2]; rfl
    have hk := key 0 (by omega) (by omega) (by rw [e1]; rfl) hin
    have hw := wi hin
    rw [e1] at hw
    refine ⟨_, _, hw, rfl, ?_⟩
    show RPt _ _ _ _ _ _ ⟨[_, _, _, _, _, _, _, _, (31, ci (((FTs l).length : Nat) : Int)), _], _, _⟩
    rw [FTs_length]
    exact hk
  · have e1 : (kd == 5) = true := by simpa using h
    have hin : (kd == 5 || kd == 6) = true := by rw [e1]; rfl
    have hk := key 1 (by omega) (by omega) (by rw [e1]; rfl) hin
    have hw := wi hin
    rw [e1] at hw
    refine ⟨_, _, hw, rfl, ?_⟩
    show RPt _ _ _ _ _ _ ⟨[_, _, _, _, _, _, _, _, (31, ci (((FTs l).length : Nat) : Int)), _], _, _⟩
    rw [FTs_length]
    exact hk


/-! walk.term for Su -/
abbrev cloSu : TV := .agg [.fn (.func 65) [] [(false, [.ep 0 1 0 0]), (false, [.ep 1 4 0 0])]]
abbrev stSu (ix : Int) (sk : Int) (ss : List UInt8) (sn : Int) (sl : List Tm) (k by_ : Int) (kd : Int) (s : List UInt8) (n : Int) (l : List Tm) (w : AV) (i : Nat) (h : AHeap) (nx : Nat) : St :=
  ⟨[(2, ci k), (3, .c (.a (.ep 2 1 0 0))), (4, .c (.a (.ep 3 4 0 0))), (6, .c (.a (.ep 4 4 0 0))), (7, aL l), (8, ci by_), (9, .c (.a w)), (30, aL l), (31, ci l.length), (32, ci i)],
   [(0, (obj1 ix)), (1, (.arr 4 [fzs (FT (.mk sk ss sn sl))])), (2, .arr 1 [[.fn (.func 65) [] [(false, [.ep 0 1 0 0]), (false, [.ep 1 4 0 0])]]]), (3, .arr 4 [fzs (FT (.mk kd s n l))]), (4, .arr 4 [[.a (.fz (.int .i64 0)), .a (.fz (.str [])), .a (.fz (.int .i64 0)), .a (.fz .nils)]])] ++ h, nx⟩
theorem l_w2Su (ix : Int) (sk : Int) (ss : List UInt8) (sn : Int) (sl : List Tm) (lf : Tm → Int → Tm) (k by_ : Int) (h0 : 0 ≤ k) (hk : k ≤ 2305843009213693952) (hb0 : 0 ≤ by_) (hb1 : by_ ≤ 1) (kd : Int) (s : List UInt8) (n : Int) (hin : (kd == 5 || kd == 6) = true) :
    ∀ (b a acc : List Tm), acc ≠ [] → acc.length = a.length → (a ++ b).length ≤ B → (∀ u ∈ acc ++ walkL lf b (k + by_), u.l.length ≤ 2 * B) →
    (∀ u ∈ b, AC Try.prog 64 [cloSu, aT u, ci (k + by_)] [(obj1 ix), (.arr 4 [fzs (FT (.mk sk ss sn sl))])] (aT (walkF lf u (k + by_))) [(obj1 ix), (.arr 4 [fzs (FT (.mk sk ss sn sl))])]) →
    RPt Try.prog 64 2 (aT (withF (.mk kd s n (a ++ b)) (acc ++ walkL lf b (k + by_)))) [(obj1 ix), (.arr 4 [fzs (FT (.mk sk ss sn sl))])] 1 (stSu ix sk ss sn sl k by_ kd s n (a ++ b) (.osl 5 4 0 acc.length) a.length [(5, .arz 4 (FTs acc))] 6)
  | [], a, acc, hne, hlen, hl, hw, _ => by
    refine RPt.vc hP sh lv64 (Eq.mpr (v64_i1_1b ..) ?_)
    match acc, a, hne, hlen with
    | o :: r, u :: a', _, hlen =>
    have e1 : List.take (o :: r).length (List.drop 0 (FTs (o :: r))) = FTs (o :: r) := by rw [List.drop_zero, List.take_of_length_le (by rw [FTs_length]; omega)]
    have e2 : (0 : Nat) + (o :: r).length ≤ (FTs (o :: r)).length := by rw [FTs_length]; omega
    have hrest : ∀ (k' : Int) (s' : List UInt8) (n' : Int), TV.Le (.agg [.a (.fz (.int .i64 k')), .a (.fz (.str s')), .a (.fz (.int .i64 n')), .a (.fz (.sl true 4 (List.take (o :: r).length (List.drop 0 (FTs (o :: r))))))]) (aT (.mk k' s' n' (o :: r))) := fun k' s' n' => by rw [e1]; exact leT leSl
    refine br_of (fun h => absurd (of_decide_eq_true h) (by simp)) (fun _ => br_of (fun h6 => br_of (fun h1 => ⟨⟨by omega, by simp⟩, ⟨by rw [FTs_length]; simp, by cases o; rfl, rfl⟩, br_of (fun ho => ⟨⟨rfl, by omega, by rw [List.append_nil]; show (0 : Int) < (((FTs (u :: a')).length : Nat) : Int); rw [FTs_length]; simp, by cases u; rfl⟩, br_of (fun hu => ?_) (fun hu => ⟨⟨rfl, e2⟩, ?_, rfl⟩)⟩) (fun ho => ⟨⟨rfl, e2⟩, ?_, rfl⟩)⟩) (fun h1 => ⟨⟨rfl, e2⟩, ?_, rfl⟩)) (fun h6 => ⟨⟨rfl, e2⟩, ?_, rfl⟩))
    · -- flat
      have hap := c_apply o r (by
        have := hw o (by simp)
        simp only [List.length_cons, List.length_append, List.length_nil, B] at hl hlen this ⊢; omega)
      have e3 : withF (.mk kd s n (u :: a' ++ [])) (o :: r ++ walkL lf [] (k + by_)) = applyF o r := by
        have c1 : 1 < (o :: r ++ walkL lf [] (k + by_)).length := by have := of_decide_eq_true h1; simp only [walkL, List.append_nil]; omega
        have c2 : (o.k == 6) = true := by cases o; exact ho
        have c3 : (u.k != 6) = true := by cases u; exact hu
        unfold withF
        rw [if_pos ⟨h6, c1, c2, c3⟩]
        simp [walkL]
      have e4 : List.take (Int.toNat ((o :: r).length : Int) - 1) (List.drop 1 (FTs (o :: r))) = FTs r := by
        rw [show Int.toNat ((o :: r).length : Int) - 1 = r.length by simp only [List.length_cons]; omega]
        show List.take r.length (FTs r) = FTs r
        rw [List.take_of_length_le (by rw [FTs_length]; omega)]
      have e5 : (1 : Nat) + (Int.toNat ((o :: r).length : Int) - 1) ≤ (FTs (o :: r)).length := by rw [FTs_length]; simp only [List.length_cons]; omega
      rw [e3]
      refine ⟨⟨by omega, by simp⟩, ⟨by rw [FTs_length]; simp, by cases o; rfl, rfl⟩, ⟨by omega, by simp; omega, by omega⟩, ⟨rfl, e5⟩, ?_⟩
      rw [e4]
      obtain ⟨k1, s1, n1, l1⟩ := o
      exact ⟨_, hap.args ⟨.refl _, le_c leSl, trivial⟩, .refl _, rfl⟩
    · have e3 : withF (.mk kd s n (u :: a' ++ [])) (o :: r ++ walkL lf [] (k + by_)) = .mk kd s n (o :: r) := by
        simp only [walkL, List.append_nil]
        exact if_neg fun e => by
          have hu' : (u.k != 6) = false := by cases u; exact hu
          have : (u.k != 6) = true := e.2.2.2
          rw [hu'] at this; cases this
      rw [e3]; exact hrest _ _ _
    · have e3 : withF (.mk kd s n (u :: a' ++ [])) (o :: r ++ walkL lf [] (k + by_)) = .mk kd s n (o :: r) := by
        simp only [walkL, List.append_nil]
        exact if_neg fun e => by
          have ho' : (o.k == 6) = false := by cases o; exact ho
          have : (o.k == 6) = true := e.2.2.1
          rw [ho'] at this; cases this
      rw [e3]; exact hrest _ _ _
    · have e3 : withF (.mk kd s n (u :: a' ++ [])) (o :: r ++ walkL lf [] (k + by_)) = .mk kd s n (o :: r) := by
        simp only [walkL, List.append_nil]
        exact if_neg fun e => by have := e.2.1; have := of_decide_eq_false h1; omega
      rw [e3]; exact hrest _ _ _
    · have e3 : withF (.mk kd s n (u :: a' ++ [])) (o :: r ++ walkL lf [] (k + by_)) = .mk kd s n (o :: r) := by
        simp only [walkL, List.append_nil]
        exact if_neg fun e => by
          have h6' : (kd == 6) = false := h6
          have : (kd == 6) = true := e.1
          rw [h6'] at this; cases this
      rw [e3]; exact hrest _ _ _
  | t :: b, a, acc, hne, hlen, hl, hw, ih => by
    refine RPt.vc hP sh lv64 (Eq.mpr (v64_i1_1b ..) ?_)
    have hl' := hl
    simp only [List.length_append, List.length_cons, B] at hl'
    have h1 := ih t List.mem_cons_self
    have h2 := l_w2Su ix sk ss sn sl lf k by_ h0 hk hb0 hb1 kd s n hin b (a ++ [t]) (acc ++ [walkF lf t (k + by_)]) (by simp) (by simp [hlen]) (by rw [ap]; exact hl)
      (by rw [List.append_assoc]; simpa [walkL] using hw) (fun u hu => ih u (List.mem_cons_of_mem _ hu))
    have h3 := ltI' a t b
    unfold stSu at h2
    rw [ap, show (((a ++ [t]).length : Nat) : Int) = (a.length : Int) + 1 from nx a t] at h2
    show br (decide ((a.length : Int) < (((a ++ t :: b).length : Nat) : Int))) ((FV.isSl 4 (.sl false 4 (FTs (a ++ t :: b))) = true ∧ _ ∧ _ ∧ _) ∧ _) _
    refine br_of (fun _ => ?_) (fun h => absurd (ltI a t b) (of_decide_eq_false h))
    have hm := midI a t b
    rw [show FV.ses (.sl false 4 (FTs (a ++ t :: b))) = FTs (a ++ t :: b) from rfl, hm, w64 (x := (a.length : Int) + 1) (by omega) (by omega), w64 (x := k + by_) (by omega) (by omega)]
    obtain ⟨k', s', n', l'⟩ := t
    refine ⟨⟨rfl, by omega, h3, rfl⟩, _, h1, Nat.le_refl _, ⟨by rw [FTs_length]; omega, roomI (by omega)⟩, ?_⟩
    have e5 : List.take acc.length (FTs acc) ++ FTs [walkF lf (.mk k' s' n' l') (k + by_)] = FTs (acc ++ [walkF lf (.mk k' s' n' l') (k + by_)]) := by rw [List.take_of_length_le (by rw [FTs_length]; omega), ← FTs_append]
    have e6 : FTs [walkF lf (.mk k' s' n' l') (k + by_)] = [[.int .i64 (walkF lf (.mk k' s' n' l') (k + by_)).k, .str (walkF lf (.mk k' s' n' l') (k + by_)).s, .int .i64 (walkF lf (.mk k' s' n' l') (k + by_)).n, .sl false 4 (FTs (walkF lf (.mk k' s' n' l') (k + by_)).l)]] := by
      rw [FTs, FTs, FT_eta]
    rw [e6] at e5
    rw [e5]
    rw [show acc ++ walkL lf (.mk k' s' n' l' :: b) (k + by_) = acc ++ walkF lf (.mk k' s' n' l') (k + by_) :: walkL lf b (k + by_) by simp [walkL]]
    rw [show (acc ++ [walkF lf (.mk k' s' n' l') (k + by_)]).length = acc.length + 1 by simp, List.append_assoc] at h2
    exact h2
theorem l_w1Su (ix : Int) (sk : Int) (ss : List UInt8) (sn : Int) (sl : List Tm) (lf : Tm → Int → Tm) (k by_ : Int) (h0 : 0 ≤ k) (hk : k ≤ 2305843009213693952) (hb0 : 0 ≤ by_) (hb1 : by_ ≤ 1) (kd : Int) (s : List UInt8) (n : Int) (hin : (kd == 5 || kd == 6) = true) :
    ∀ (b : List Tm), b.length ≤ B → (∀ u ∈ walkL lf b (k + by_), u.l.length ≤ 2 * B) →
    (∀ u ∈ b, AC Try.prog 64 [cloSu, aT u, ci (k + by_)] [(obj1 ix), (.arr 4 [fzs (FT (.mk sk ss sn sl))])] (aT (walkF lf u (k + by_))) [(obj1 ix), (.arr 4 [fzs (FT (.mk sk ss sn sl))])]) →
    RPt Try.prog 64 2 (aT (withF (.mk kd s n b) (walkL lf b (k + by_)))) [(obj1 ix), (.arr 4 [fzs (FT (.mk sk ss sn sl))])] 1 (stSu ix sk ss sn sl k by_ kd s n b (.fz .nils) 0 [] 5)
  | [], hl, hw, _ => by
    refine RPt.vc hP sh lv64 (Eq.mpr (v64_i1_1a ..) ?_)
    have e : withF (.mk kd s n []) (walkL lf [] (k + by_)) = .mk kd s n [] := if_neg fun e => by have := e.2.1; simp [walkL] at this
    rw [e]
    exact br_of (fun h => absurd (of_decide_eq_true h) (by simp)) (fun _ => br_of (fun _ => ⟨rfl, leT leNil, rfl⟩) (fun _ => ⟨leT leNil, rfl⟩))
  | t :: b, hl, hw, ih => by
    refine RPt.vc hP sh lv64 (Eq.mpr (v64_i1_1a ..) ?_)
    have hl' := hl
    simp only [List.length_cons, B] at hl'
    have h1 := ih t List.mem_cons_self
    have h2 := l_w2Su ix sk ss sn sl lf k by_ h0 hk hb0 hb1 kd s n hin b [t] [walkF lf t (k + by_)] (by simp) rfl (by simpa using hl) (by simpa [walkL] using hw) (fun u hu => ih u (List.mem_cons_of_mem _ hu))
    show br (decide ((0 : Int) < (((t :: b).length : Nat) : Int))) ((FV.isSl 4 (.sl false 4 (FTs (t :: b))) = true ∧ _ ∧ _ ∧ _) ∧ _) _
    refine br_of (fun _ => ?_) (fun h => absurd (of_decide_eq_false h) (by simp))
    rw [show FV.ses (.sl false 4 (FTs (t :: b))) = FTs (t :: b) from rfl, show List.getD (FTs (t :: b)) (Int.toNat ((0 : Nat) : Int)) [] = FT t from rfl, w64 (x := k + by_) (by omega) (by omega), w64 (x := ((0 : Nat) : Int) + 1) (by omega) (by omega)]
    obtain ⟨k', s', n', l'⟩ := t
    have h3 : (0 : Int) < (((FTs (.mk k' s' n' l' :: b)).length : Nat) : Int) := by rw [FTs_length]; simp
    refine ⟨⟨rfl, by omega, h3, rfl⟩, _, h1, Nat.le_refl _, roomI (by omega), ?_⟩
    have e6 : FTs [walkF lf (.mk k' s' n' l') (k + by_)] = [[.int .i64 (walkF lf (.mk k' s' n' l') (k + by_)).k, .str (walkF lf (.mk k' s' n' l') (k + by_)).s, .int .i64 (walkF lf (.mk k' s' n' l') (k + by_)).n, .sl false 4 (FTs (walkF lf (.mk k' s' n' l') (k + by_)).l)]] := by
      rw [FTs, FTs, FT_eta]
    unfold stSu at h2
    rw [e6] at h2
    exact h2
/-- THE CONTRACT: from the leaf function's. -/
theorem c_wSu (ix : Int) (sk : Int) (ss : List UInt8) (sn : Int) (sl : List Tm) (lf : Tm → Int → Tm) (Q : Tm → Int → Prop)
    (hq : ∀ (kd : Int) (s : List UInt8) (n : Int) (l : List Tm) (d : Int), Q (.mk kd s n l) d → (kd == 5 || kd == 6) = true → ∀ u ∈ l, Q u (d + if (kd == 5) = true then 1 else 0))
    (hleaf : ∀ (u : Tm) (d : Int), (u.k == 5 || u.k == 6) = false → Q u d → 0 ≤ d → d ≤ 2305843009213693952 → AC Try.prog 65 [aT u, ci d, .c (.a (.ep 0 1 0 0)), .c (.a (.ep 1 4 0 0))] [(obj1 ix), (.arr 4 [fzs (FT (.mk sk ss sn sl))])] (aT (lf u d)) [(obj1 ix), (.arr 4 [fzs (FT (.mk sk ss sn sl))])])
    (hwid : ∀ (u : Tm) (d : Int), Q u d → (walkF lf u d).l.length ≤ 2 * B) :
    ∀ t : Tm, t.sz ≤ B → ∀ k : Int, Q t k → 0 ≤ k → k + t.sz ≤ 2305843009213693952 → AC Try.prog 64 [cloSu, aT t, ci k] [(obj1 ix), (.arr 4 [fzs (FT (.mk sk ss sn sl))])] (aT (walkF lf t k)) [(obj1 ix), (.arr 4 [fzs (FT (.mk sk ss sn sl))])] := by
  refine Tm.ind fun t ih hs k hQ h0 h1 => ?_
  have hlen := Tm.szs_length t.l
  obtain ⟨kd, s, n, l⟩ := t
  simp only [Tm.sz, B, Tm.l] at hs hlen
  simp only [Tm.sz] at h1
  have key : ∀ by_ : Int, 0 ≤ by_ → by_ ≤ 1 → (by_ = if (kd == 5) = true then 1 else 0) → (hin : (kd == 5 || kd == 6) = true) → RPt Try.prog 64 2 (aT (walkF lf (.mk kd s n l) k)) [(obj1 ix), (.arr 4 [fzs (FT (.mk sk ss sn sl))])] 1 (stSu ix sk ss sn sl k by_ kd s n l (.fz .nils) 0 [] 5) := by
    intro by_ hb0 hb1 hby hin
    have hQ' := hq kd s n l k hQ hin
    rw [← hby] at hQ'
    have := l_w1Su ix sk ss sn sl lf k by_ h0 (by omega) hb0 hb1 kd s n hin l (by simp only [B]; omega) (fun u hu => by
      have : ∀ {m : List Tm}, (∀ v ∈ m, Q v (k + by_)) → ∀ u ∈ walkL lf m (k + by_), u.l.length ≤ 2 * B := by
        intro m
        induction m with
        | nil => intro _ u hu; simp [walkL] at hu
        | cons v m ihm =>
          intro hm u hu
          simp only [walkL, List.mem_cons] at hu
          rcases hu with rfl | hu
          · exact hwid v _ (hm v List.mem_cons_self)
          · exact ihm (fun x hx => hm x (List.mem_cons_of_mem _ hx)) u hu
      exact this hQ' u hu) (fun u hu => ih u hu (by have := Tm.szs_mem hu; simp only [B]; omega) (k + by_) (hQ' u hu) (by omega) (by have := Tm.szs_mem hu; omega))
    rw [walkF, if_pos hin, ← hby]
    exact this
  refine AC.vc hP sh lv64 (Nat.le_refl _) (by simp [isLive]) (by simp) (Eq.mpr (v64_i1 kd s n (FTs l) k ix sk ss sn (FTs sl) _ _) ?_)
  have wi : (kd == 5 || kd == 6) = true → AC Try.prog 69 [aT (.mk kd s n l)] [] (.tup [(false, [.a (.fz (.sl false 4 (FTs l)))]), (false, [.a (.fz (.int .i64 (if (kd == 5) = true then 1 else 0)))])]) [] := fun hin => by
    have hw := c_within (.mk kd s n l)
    rw [show kidsV (.mk kd s n l) = .sl false 4 (FTs l) from if_pos hin] at hw
    exact hw
  refine br_of (fun h => br_of (fun h2 => ?_) (fun h2 => ?_)) (fun h => ?_)
  · have e1 : (kd == 5) = false := by simpa using h
    have e2 : (kd == 6) = false := by simpa using h2
    have e : (kd == 5 || kd == 6) = false := by rw [e1, e2]; rfl
    have hl := hleaf (.mk kd s n l) k e hQ h0 (by omega)
    rw [show walkF lf (.mk kd s n l) k = lf (.mk kd s n l) k by rw [walkF, if_neg (by rw [e]; simp)]]
    exact ⟨_, hl, .refl _, rfl⟩
  · have e1 : (kd == 5) = false := by simpa using h
    have e2 : (kd == 6) = true := by simpa using h2
    have hin : (kd == 5 || kd == 6) = true := by rw [e1, e2]; rfl
    have hk := key 0 (by omega) (by omega) (by rw [e1]; rfl) hin
    have hw := wi hin
    rw [e1] at hw
    refine ⟨_, _, hw, rfl, ?_⟩
    show RPt _ _ _ _ _ _ ⟨[_, _, _, _, _, _, _, _, (31, ci (((FTs l).length : Nat) : Int)), _], _, _⟩
    rw [FTs_length]
    exact hk
  · have e1 : (kd == 5) = true := by simpa using h
    have hin : (kd == 5 || kd == 6) = true := by rw [e1]; rfl
    have hk := key 1 (by omega) (by omega) (by rw [e1]; rfl) hin
    have hw := wi hin
    rw [e1] at hw
    refine ⟨_, _, hw, rfl, ?_⟩
    show RPt _ _ _ _ _ _ ⟨[_, _, _, _, _, _, _, _, (31, ci (((FTs l).length : Nat) : Int)), _], _, _⟩
    rw [FTs_length]
    exact hk

end Go.AM

set_option maxRecDepth 100000
open Go Go.Proofs
namespace Go.AM
/-! ### What walk makes: size, numbers, kinds -/
theorem applyF_sz (f : Tm) (l : List Tm) : (applyF f l).sz ≤ 1 + f.sz + Tm.szs l := by
  unfold applyF
  split
  · simp only [Tm.szs]; omega
  · split
    · have := f.sz_eq; simp only [Tm.sz, Tm.szs_append, List.length_nil]; omega
    · simp only [Tm.sz, Tm.szs, List.length_nil]; omega
theorem withF_sz (t : Tm) (o : List Tm) : (withF t o).sz ≤ 1 + Tm.szs o := by
  unfold withF
  split
  · rename_i h
    match o, h with
    | [], h => simp at h
    | x :: r, h =>
      simp only [List.headD_cons, List.tail_cons, Tm.szs] at h ⊢
      have hx : (x.k == 6) = true := h.2.2.1
      have hr : r ≠ [] := by intro e; rw [e] at h; simp at h
      unfold applyF
      split
      · exact absurd rfl hr
      · have := x.sz_eq
        by_cases hl : x.l = []
        · rw [if_neg (fun e => e.2 hl)]
          simp only [Tm.sz, Tm.szs, List.length_nil]; omega
        · rw [if_pos ⟨hx, hl⟩]
          simp only [Tm.sz, Tm.szs_append, List.length_nil]; omega
  · simp only [Tm.sz]; omega
mutual
/-- How many. -/
def nd : Tm → Nat
  | .mk _ _ _ l => 1 + nds l
def nds : List Tm → Nat
  | [] => 0
  | t :: l => nd t + nds l
end
theorem nd_eq (t : Tm) : nd t = 1 + nds t.l := by cases t; rfl
theorem nd_pos (t : Tm) : 1 ≤ nd t := by rw [nd_eq]; omega
theorem nds_append : ∀ (a b : List Tm), nds (a ++ b) = nds a + nds b
  | [], b => by simp [nds]
  | t :: a, b => by simp only [List.cons_append, nds, nds_append a b]; omega
theorem nds_mem : ∀ {l : List Tm} {t : Tm}, t ∈ l → nd t ≤ nds l
  | x :: l, t, h => by
    rcases List.mem_cons.1 h with rfl | h
    · simp only [nds]; omega
    · have := nds_mem h; simp only [nds]; omega
theorem withF_nd (t : Tm) (o : List Tm) : nd (withF t o) ≤ 1 + nds o := by
  unfold withF
  split
  · rename_i h
    match o, h with
    | [], h => simp at h
    | x :: r, h =>
      simp only [List.headD_cons, List.tail_cons, nds] at h ⊢
      have hx : (x.k == 6) = true := h.2.2.1
      have hr : r ≠ [] := by intro e; rw [e] at h; simp at h
      unfold applyF
      split
      · exact absurd rfl hr
      · have := nd_eq x
        by_cases hl : x.l = []
        · rw [if_neg (fun e => e.2 hl)]
          simp only [nd, nds]; omega
        · rw [if_pos ⟨hx, hl⟩]
          simp only [nd, nds_append]; omega
  · simp only [nd]; omega
mutual
theorem walkF_sz (lf : Tm → Int → Tm) (S : Nat) (h : ∀ u d, (lf u d).sz ≤ u.sz + S) : ∀ (t : Tm) (d : Int), (walkF lf t d).sz ≤ t.sz + nd t * S
  | .mk k s n l, d => by
    rw [walkF]
    split
    · refine Nat.le_trans (withF_sz ..) ?_
      have := walkL_sz lf S h l (d + if (k == 5) = true then 1 else 0)
      simp only [Tm.sz, Tm.s, nd, Nat.add_mul, Nat.one_mul]
      omega
    · refine Nat.le_trans (h _ _) ?_
      simp only [nd, Nat.add_mul, Nat.one_mul]; omega
theorem walkL_sz (lf : Tm → Int → Tm) (S : Nat) (h : ∀ u d, (lf u d).sz ≤ u.sz + S) : ∀ (l : List Tm) (d : Int), Tm.szs (walkL lf l d) ≤ Tm.szs l + nds l * S
  | [], _ => by simp [walkL, Tm.szs]
  | t :: l, d => by
    have := walkF_sz lf S h t d
    have := walkL_sz lf S h l d
    simp only [walkL, Tm.szs, nds, Nat.add_mul]; omega
end
mutual
theorem walkF_nd (lf : Tm → Int → Tm) (N : Nat) (hN : 1 ≤ N) (h : ∀ u d, nd (lf u d) ≤ nd u * N) : ∀ (t : Tm) (d : Int), nd (walkF lf t d) ≤ nd t * N
  | .mk k s n l, d => by
    rw [walkF]
    split
    · refine Nat.le_trans (withF_nd ..) ?_
      have := walkL_nd lf N hN h l (d + if (k == 5) = true then 1 else 0)
      simp only [nd, Nat.add_mul, Nat.one_mul]
      omega
    · exact h _ _
theorem walkL_nd (lf : Tm → Int → Tm) (N : Nat) (hN : 1 ≤ N) (h : ∀ u d, nd (lf u d) ≤ nd u * N) : ∀ (l : List Tm) (d : Int), nds (walkL lf l d) ≤ nds l * N
  | [], _ => by simp [walkL, nds]
  | t :: l, d => by
    have := walkF_nd lf N hN h t d
    have := walkL_nd lf N hN h l d
    simp only [walkL, nds, Nat.add_mul]; omega
end
theorem bds_append {M : Int} : ∀ {a b : List Tm}, bds M a → bds M b → bds M (a ++ b)
  | [], _, _, h => h
  | _ :: _, _, h, h' => ⟨h.1, bds_append h.2 h'⟩
theorem bds_of {M : Int} : ∀ {l : List Tm}, (∀ t ∈ l, bd M t) → bds M l
  | [], _ => trivial
  | t :: _, h => ⟨h t List.mem_cons_self, bds_of fun u hu => h u (List.mem_cons_of_mem _ hu)⟩
theorem bd6 {M : Int} {s : List UInt8} {n : Int} {l : List Tm} (h : bds M l) : bd M (.mk 6 s n l) := ⟨fun e => absurd e (by omega), h⟩
theorem applyF_bd {M : Int} {f : Tm} {l : List Tm} (hf : bd M f) (hl : bds M l) : bd M (applyF f l) := by
  unfold applyF
  split
  · exact hf
  · split
    · exact bd6 (bds_append (bd_l hf) hl)
    · exact bd6 ⟨hf, hl⟩
theorem withF_bd {M : Int} {t : Tm} {o : List Tm} (hk : t.k ≠ 3) (ho : bds M o) : bd M (withF t o) := by
  unfold withF
  split
  · rename_i h
    match o, h, ho with
    | [], h, _ => simp at h
    | x :: r, h, ho => exact applyF_bd ho.1 ho.2
  · exact ⟨fun e => absurd e hk, ho⟩
mutual
theorem walkF_bd (lf : Tm → Int → Tm) (M M' D : Int) (h : ∀ u d, bd M u → 0 ≤ d → d ≤ D → bd M' (lf u d)) : ∀ (t : Tm) (d : Int), bd M t → 0 ≤ d → d + t.sz ≤ D → bd M' (walkF lf t d)
  | .mk k s n l, d, hb, h0, h1 => by
    rw [walkF]
    simp only [Tm.sz] at h1
    split
    · rename_i hk
      refine withF_bd (fun e => ?_) (walkL_bd lf M M' D h l _ hb.2 (by split <;> omega) (by split <;> omega))
      have e : k = 3 := e
      rw [e] at hk; exact absurd hk (by decide)
    · exact h _ _ hb h0 (by omega)
theorem walkL_bd (lf : Tm → Int → Tm) (M M' D : Int) (h : ∀ u d, bd M u → 0 ≤ d → d ≤ D → bd M' (lf u d)) : ∀ (l : List Tm) (d : Int), bds M l → 0 ≤ d → d + Tm.szs l ≤ D → bds M' (walkL lf l d)
  | [], _, _, _, _ => trivial
  | t :: l, d, hb, h0, h1 => by
    simp only [Tm.szs] at h1
    exact ⟨walkF_bd lf M M' D h t d hb.1 h0 (by omega), walkL_bd lf M M' D h l d hb.2 h0 (by omega)⟩
end
theorem applyF_k {f : Tm} (l : List Tm) (h : (f.k == 6) = true) : (applyF f l).k = 6 := by
  unfold applyF
  split
  · simpa using h
  · split <;> rfl
theorem withF_k (t : Tm) (o : List Tm) : (withF t o).k = t.k := by
  unfold withF
  split
  · rename_i h6
    have e : t.k = 6 := by simpa using h6.1
    rw [applyF_k _ h6.2.2.1]; exact e.symm
  · rfl
theorem walkF_k (lf : Tm → Int → Tm) (h : ∀ u d, (lf u d).k = u.k) (t : Tm) (d : Int) : (walkF lf t d).k = t.k := by
  obtain ⟨k, s, n, l⟩ := t
  rw [walkF]
  split
  · exact withF_k _ _
  · exact h _ _
/-- Where leaves keep their kinds, nothing is made flat. -/
theorem walkF_keep (lf : Tm → Int → Tm) (h : ∀ u d, (lf u d).k = u.k) (k : Int) (s : List UInt8) (n : Int) (l : List Tm) (d : Int) (hk : (k == 5 || k == 6) = true) :
    walkF lf (.mk k s n l) d = .mk k s n (walkL lf l (d + if (k == 5) = true then 1 else 0)) := by
  rw [walkF, if_pos hk, withF, if_neg fun e => ?_]; rfl
  match l, e with
  | [], e => have := e.2.1; simp [walkL] at this
  | t :: l, e =>
    have e1 := e.2.2.1
    have e2 := e.2.2.2
    rw [walkL, List.headD_cons, walkF_k lf h] at e1
    have e2 : (t.k != 6) = true := e2
    rw [bne, e1] at e2; cases e2
theorem walkF_leaf (lf : Tm → Int → Tm) (k : Int) (s : List UInt8) (n : Int) (l : List Tm) (d : Int) (hk : (k == 5 || k == 6) = false) :
    walkF lf (.mk k s n l) d = lf (.mk k s n l) d := by rw [walkF, if_neg (by rw [hk]; simp)]
theorem walkL_length (lf : Tm → Int → Tm) : ∀ (l : List Tm) (d : Int), (walkL lf l d).length = l.length
  | [], _ => rfl
  | _ :: l, d => by simp only [walkL, List.length_cons, walkL_length lf l d]

/-! ### Shift -/
abbrev M61 : Int := 2305843009213693952
def shLeaf (fr by_ : Int) (u : Tm) (d : Int) : Tm := if (u.k == 3) = true ∧ d + fr ≤ u.n then .mk u.k u.s (u.n + by_) u.l else u
def shT (fr by_ : Int) (t : Tm) (d : Int) : Tm := walkF (shLeaf fr by_) t d
theorem shLeaf_k (fr by_ : Int) (u : Tm) (d : Int) : (shLeaf fr by_ u d).k = u.k := by unfold shLeaf; split <;> rfl
theorem shLeaf_sz (fr by_ : Int) (u : Tm) (d : Int) : (shLeaf fr by_ u d).sz = u.sz := by
  unfold shLeaf; split
  · cases u; rfl
  · rfl
theorem shT_sz (fr by_ : Int) (t : Tm) (d : Int) : (shT fr by_ t d).sz ≤ t.sz := by
  have := walkF_sz (shLeaf fr by_) 0 (fun u d => by rw [shLeaf_sz]; omega) t d
  rw [Nat.mul_zero] at this; exact this
theorem shLeaf_nd (fr by_ : Int) (u : Tm) (d : Int) : nd (shLeaf fr by_ u d) = nd u := by
  unfold shLeaf; split
  · cases u; rfl
  · rfl
theorem shT_nd (fr by_ : Int) (t : Tm) (d : Int) : nd (shT fr by_ t d) ≤ nd t := by
  have := walkF_nd (shLeaf fr by_) 1 (Nat.le_refl _) (fun u d => by rw [shLeaf_nd]; omega) t d
  rw [Nat.mul_one] at this; exact this
theorem bd_le {M M' : Int} (h : M ≤ M') : ∀ t : Tm, bd M t → bd M' t := by
  refine Tm.ind fun t ih hb => ?_
  obtain ⟨k, s, n, l⟩ := t
  exact ⟨fun e => by have := hb.1 e; omega, bds_of fun u hu => ih u hu (bds_mem hb.2 hu)⟩
theorem shLeaf_bd {fr by_ M : Int} (h0 : 0 ≤ by_) (u : Tm) (d : Int) (hb : bd M u) : bd (M + by_) (shLeaf fr by_ u d) := by
  unfold shLeaf
  split
  · obtain ⟨k, s, n, l⟩ := u
    exact ⟨fun e => by have := hb.1 e; simp only [Tm.n]; omega, bds_of fun u hu => bd_le (by omega) u (bds_mem hb.2 hu)⟩
  · exact bd_le (by omega) u hb
theorem shT_bd {fr by_ M : Int} (h0 : 0 ≤ by_) (t : Tm) (d : Int) (hb : bd M t) (hd : 0 ≤ d) : bd (M + by_) (shT fr by_ t d) :=
  walkF_bd (shLeaf fr by_) M (M + by_) (d + t.sz) (fun u d' hu _ _ => shLeaf_bd h0 u d' hu) t d hb hd (Int.le_refl _)
theorem c_moved (t : Tm) (by_ : Int) (h1 : -9223372036854775808 ≤ t.n + by_) (h2 : t.n + by_ ≤ 9223372036854775807) : AC Try.prog 63 [aT t, ci by_] [] (aT (.mk t.k t.s (t.n + by_) t.l)) [] := by
  obtain ⟨k, s, n, l⟩ := t
  refine AC.vc hP sh lv63 (Nat.le_refl _) (by simp) (by simp) (Eq.mpr (v63 k s n (FTs l) by_ _ _) ?_)
  rw [w64 (x := n + by_) h1 h2]
  exact ⟨.refl _, rfl⟩
theorem c_shift1 (fr by_ d : Int) (u : Tm) (hb : u.k = 3 → 0 - M61 ≤ u.n ∧ u.n ≤ M61) (hd0 : 0 ≤ d) (hd1 : d ≤ M61) (hf0 : 0 ≤ fr) (hf1 : fr ≤ M61) (hb0 : 0 - 1 ≤ by_) (hb1 : by_ ≤ M61) :
    AC Try.prog 62 [aT u, ci d, .c (.a (.ep 0 1 0 0)), .c (.a (.ep 1 1 0 0))] [obj1 fr, obj1 by_] (aT (shLeaf fr by_ u d)) [obj1 fr, obj1 by_] := by
  obtain ⟨k, s, n, l⟩ := u
  simp only [M61, Tm.k, Tm.n] at *
  refine AC.vc hP sh lv62 (Nat.le_refl _) (by simp [isLive]) (by simp) (Eq.mpr (v62 k s n (FTs l) d fr by_ _ _) ?_)
  rw [w64 (by omega) (by omega)]
  refine br_of (fun h => br_of (fun h2 => ?_) (fun h2 => ?_)) (fun h => ?_)
  · have hk : k = 3 := by simpa using h
    have h3 : d + fr ≤ n := of_decide_eq_true h2
    have := hb hk
    have e : shLeaf fr by_ (.mk k s n l) d = .mk k s (n + by_) l := if_pos ⟨h, h3⟩
    rw [e]
    exact ⟨_, c_moved (.mk k s n l) by_ (by simp only [Tm.n]; omega) (by simp only [Tm.n]; omega), .refl _, rfl⟩
  · have h3 : ¬ d + fr ≤ n := of_decide_eq_false h2
    have e : shLeaf fr by_ (.mk k s n l) d = .mk k s n l := if_neg fun e => h3 e.2
    rw [e]; exact ⟨.refl _, rfl⟩
  · have e : shLeaf fr by_ (.mk k s n l) d = .mk k s n l := if_neg fun e => by have := e.1; rw [show Tm.k (.mk k s n l) = k from rfl, h] at this; cases this
    rw [e]; exact ⟨.refl _, rfl⟩
theorem c_shift (t : Tm) (fr by_ : Int) (hs : t.sz ≤ B) (hb : bd M61 t) (hf0 : 0 ≤ fr) (hf1 : fr ≤ M61) (hb0 : 0 - 1 ≤ by_) (hb1 : by_ ≤ M61) :
    AC Try.prog 17 [aT t, ci fr, ci by_] [] (aT (shT fr by_ t 0)) [] := by
  have h := c_wSh fr by_ (shLeaf fr by_) (fun u _ => bd M61 u ∧ u.sz ≤ B) (fun kd s n l d hq hk u hu => ⟨bds_mem hq.1.2 hu, by have := Tm.szs_mem hu; have := hq.2; simp only [Tm.sz] at this; omega⟩)
    (fun u d hk hq h0 h1 => c_shift1 fr by_ d u (by obtain ⟨k, s, n, l⟩ := u; exact hq.1.1) h0 h1 hf0 hf1 hb0 hb1)
    (fun u d hq => by have := shT_sz fr by_ u d; have h1 := (shT fr by_ u d).sz_eq; have := Tm.szs_length (shT fr by_ u d).l; have := hq.2; show (shT fr by_ u d).l.length ≤ _; omega)
    t hs 0 ⟨hb, hs⟩ (Int.le_refl _) (by simp only [B] at hs; omega)
  obtain ⟨k, s, n, l⟩ := t
  refine AC.vc hP sh lv17 (Nat.le_refl _) (by simp) (by simp) (Eq.mpr (v17 k s n (FTs l) fr by_ _ _) ?_)
  exact ⟨_, h, .refl _, rfl⟩

/-! ### Subst -/
def suLeaf (i : Int) (s : Tm) (u : Tm) (d : Int) : Tm :=
  if (u.k == 3) = true then (if u.n < d + i then u else if (u.n == d + i) = true then shT 0 d s 0 else .mk u.k u.s (u.n - 1) u.l) else u
def suT (i : Int) (s t : Tm) (d : Int) : Tm := walkF (suLeaf i s) t d
theorem suLeaf_sz (i : Int) (s u : Tm) (d : Int) : (suLeaf i s u d).sz ≤ u.sz + s.sz := by
  have h3 := shT_sz 0 d s 0
  unfold suLeaf
  split
  · split
    · omega
    · split
      · omega
      · cases u; simp only [Tm.sz, Tm.s, Tm.l]; omega
  · omega
theorem suT_sz (i : Int) (s t : Tm) (d : Int) : (suT i s t d).sz ≤ t.sz + nd t * s.sz := walkF_sz _ _ (suLeaf_sz i s) t d
theorem suLeaf_nd (i : Int) (s u : Tm) (d : Int) : nd (suLeaf i s u d) ≤ nd u * nd s := by
  have h1 : nd u ≤ nd u * nd s := Nat.le_mul_of_pos_right _ (nd_pos s)
  have h2 : nd s ≤ nd u * nd s := Nat.le_mul_of_pos_left _ (nd_pos u)
  have h3 := shT_nd 0 d s 0
  unfold suLeaf
  split
  · split
    · exact h1
    · split
      · omega
      · cases u; exact h1
  · exact h1
theorem suT_nd (i : Int) (s t : Tm) (d : Int) : nd (suT i s t d) ≤ nd t * nd s := walkF_nd _ _ (nd_pos s) (suLeaf_nd i s) t d
theorem suT_bd {i M M' D : Int} (s t : Tm) (d : Int) (hb : bd M t) (hs : bd M' s) (hM : M' + D ≤ M) (hd : 0 ≤ d) (hD : d + t.sz ≤ D) (hi : 0 ≤ i) (hM' : 0 ≤ M): bd M (suT i s t d) := by
  refine walkF_bd (suLeaf i s) M M D (fun u d' hu h0 h1 => ?_) t d hb hd hD
  unfold suLeaf
  split
  · split
    · exact hu
    · split
      · exact bd_le (by omega) _ (shT_bd h0 s 0 hs (Int.le_refl _))
      · rename_i h2 h3
        obtain ⟨k, s', n, l⟩ := u
        have h3' : n ≠ d' + i := fun e => h3 (by rw [show Tm.n (.mk k s' n l) = n from rfl, e]; simp)
        have h2' : ¬ n < d' + i := h2
        exact ⟨fun e => by have := hu.1 e; simp only [Tm.n]; omega, hu.2⟩
  · exact hu
theorem c_subst1 (i d : Int) (s u : Tm) (hs : s.sz ≤ B) (hbs : bd M61 s) (hb : u.k = 3 → 0 - M61 ≤ u.n ∧ u.n ≤ M61) (hd0 : 0 ≤ d) (hd1 : d ≤ M61) (hi0 : 0 ≤ i) (hi1 : i ≤ M61) :
    AC Try.prog 65 [aT u, ci d, .c (.a (.ep 0 1 0 0)), .c (.a (.ep 1 4 0 0))] [obj1 i, .arr 4 [fzs (FT s)]] (aT (suLeaf i s u d)) [obj1 i, .arr 4 [fzs (FT s)]] := by
  obtain ⟨k, t, n, l⟩ := u
  have hsh := c_shift s 0 d hs hbs (Int.le_refl _) (by simp only [M61]; omega) (by omega) hd1
  rw [FT_eta]
  simp only [M61, Tm.k, Tm.n] at *
  refine AC.vc hP sh lv65 (Nat.le_refl _) (by simp [isLive]) (by simp) (Eq.mpr (v65 k t n (FTs l) d i s.k s.s s.n (FTs s.l) _ _) ?_)
  rw [w64 (by omega) (by omega)]
  refine br_of (fun h => ?_) (fun h => br_of (fun h2 => ?_) (fun h2 => br_of (fun h3 => ?_) (fun h3 => ?_)))
  · have e : suLeaf i s (.mk k t n l) d = .mk k t n l := if_neg fun e => by rw [show Tm.k (.mk k t n l) = k from rfl] at e; rw [bne, e] at h; cases h
    rw [e]; exact ⟨.refl _, rfl⟩
  · have hk : (k == 3) = true := by simpa [bne] using h
    have e : suLeaf i s (.mk k t n l) d = .mk k t n l := by rw [suLeaf, if_pos (show (Tm.k (.mk k t n l) == 3) = true from hk), if_pos (show Tm.n (.mk k t n l) < d + i from of_decide_eq_true h2)]
    rw [e]; exact ⟨.refl _, rfl⟩
  · have hk : (k == 3) = true := by simpa [bne] using h
    have e : suLeaf i s (.mk k t n l) d = shT 0 d s 0 := by rw [suLeaf, if_pos (show (Tm.k (.mk k t n l) == 3) = true from hk), if_neg (show ¬ Tm.n (.mk k t n l) < d + i from of_decide_eq_false h2), if_pos (show (Tm.n (.mk k t n l) == d + i) = true from h3)]
    rw [e]; exact ⟨_, hsh, .refl _, rfl⟩
  · have hk : (k == 3) = true := by simpa [bne] using h
    have e : suLeaf i s (.mk k t n l) d = .mk k t (n - 1) l := by rw [suLeaf, if_pos (show (Tm.k (.mk k t n l) == 3) = true from hk), if_neg (show ¬ Tm.n (.mk k t n l) < d + i from of_decide_eq_false h2), if_neg (by rw [show Tm.n (.mk k t n l) = n from rfl, h3]; simp)]; rfl
    have := hb (by simpa using hk)
    rw [e]; exact ⟨_, c_moved (.mk k t n l) (-1) (by simp only [Tm.n]; omega) (by simp only [Tm.n]; omega), .refl _, rfl⟩
theorem c_subst (t s : Tm) (i : Int) (hs : s.sz ≤ B) (ht : t.sz + nd t * s.sz ≤ B) (hb : bd M61 t) (hbs : bd M61 s) (hi0 : 0 ≤ i) (hi1 : i ≤ M61) :
    AC Try.prog 18 [aT t, ci i, aT s] [] (aT (suT i s t 0)) [] := by
  have ht' : t.sz ≤ B := by omega
  have hFT := FT_eta s
  obtain ⟨sk, ss, sn, sl⟩ := s
  have h := c_wSu i sk ss sn sl (suLeaf i (.mk sk ss sn sl)) (fun u _ => bd M61 u ∧ u.sz + nd u * (Tm.mk sk ss sn sl).sz ≤ B) (fun kd s n l d hq hk u hu => ⟨bds_mem hq.1.2 hu, by have h2 := hq.2; have := Nat.mul_le_mul_right (Tm.mk sk ss sn sl).sz (nds_mem hu); have := Tm.szs_mem hu; rw [Tm.sz_eq (.mk kd s n l), nd_eq (.mk kd s n l), Nat.add_mul] at h2; simp only [Tm.l, Tm.s] at h2; omega⟩)
    (fun u d hk hq h0 h1 => c_subst1 i d (.mk sk ss sn sl) u hs hbs (by obtain ⟨k, s, n, l⟩ := u; exact hq.1.1) h0 h1 hi0 hi1)
    (fun u d hq => by have := suT_sz i (.mk sk ss sn sl) u d; have h1 := (suT i (.mk sk ss sn sl) u d).sz_eq; have := Tm.szs_length (suT i (.mk sk ss sn sl) u d).l; have := hq.2; show (suT i (.mk sk ss sn sl) u d).l.length ≤ _; omega)
    t ht' 0 ⟨hb, ht⟩ (Int.le_refl _) (by simp only [B] at ht'; omega)
  obtain ⟨k, s, n, l⟩ := t
  refine AC.vc hP sh lv18 (Nat.le_refl _) (by simp) (by simp) (Eq.mpr (v18 k s n (FTs l) i sk ss sn (FTs sl) _ _) ?_)
  exact ⟨_, h, .refl _, rfl⟩
end Go.AM

set_option maxRecDepth 100000
open Go Go.Proofs
namespace Go.AM
/-! ### Below abstractions -/
def lamsF : Nat → Tm → Tm
  | 0, t => t
  | n + 1, t => lamsF n (.mk 5 [] 0 [t])
theorem l_lamsb (N : Int) (hN : N ≤ 4294967296) : ∀ (m : Nat) (i k : Int) (s : List UInt8) (n : Int) (rows : List (List FV)) (l : List Tm), 0 ≤ i → i + m = N → FV.Le (.sl true 4 rows) (.sl false 4 (FTs l)) →
    RPt Try.prog 22 0 (aT (lamsF m (.mk k s n l))) [] 1 ⟨[(3, .c (.a (.ep 0 4 0 0))), (4, .c (.a (.ep 1 4 0 0))), (6, ci N), (7, ci i)], [(0, .arr 4 [[.a (.fz (.int .i64 k)), .a (.fz (.str s)), .a (.fz (.int .i64 n)), .a (.fz (.sl true 4 rows))]]), (1, .arr 4 [[.a (.fz (.int .i64 0)), .a (.fz (.str [])), .a (.fz (.int .i64 0)), .a (.fz .nils)]])], 2⟩
  | 0, i, k, s, n, rows, l, h0, hi, hle => by
    refine RPt.vc hP sh lv22 (Eq.mpr (v22_1b ..) ?_)
    refine br_of (fun h => absurd (of_decide_eq_true h) (by omega)) (fun _ => ⟨leT hle, rfl⟩)
  | m + 1, i, k, s, n, rows, l, h0, hi, hle => by
    refine RPt.vc hP sh lv22 (Eq.mpr (v22_1b ..) ?_)
    have h2 := l_lamsb N hN m (i + 1) 5 [] 0 [[.int .i64 k, .str s, .int .i64 n, .sl true 4 rows]] [.mk k s n l] (by omega) (by omega) (leRows rfl fun j r t hr ht => by
      match j, hr, ht with
      | 0, hr, ht =>
        simp only [List.getElem?_cons_zero, Option.some.injEq] at hr ht
        subst hr; subst ht
        exact leFT hle
      | j + 1, hr, _ => simp at hr)
    rw [w64 (x := i + 1) (by omega) (by omega)]
    refine br_of (fun _ => ⟨⟨rfl, by omega⟩, ?_⟩) (fun h => absurd (of_decide_eq_false h) (by omega))
    exact h2
theorem foldMax0 {n : Int} (h : 0 ≤ n) : foldMax [n, 0] = n := by
  rw [foldMax2]; unfold maxI; split <;> omega
theorem c_lams (m : Nat) (t : Tm) (hm : m ≤ 4294967296) : AC Try.prog 22 [ci m, aT t] [] (aT (lamsF m t)) [] := by
  obtain ⟨k, s, n, l⟩ := t
  refine AC.vc hP sh lv22 (Nat.le_refl _) (by simp) (by simp) (Eq.mpr (v22 m k s n (FTs l) _ _) ?_)
  rw [foldMax0 (by omega)]
  refine RPt.vc hP sh lv22 (Eq.mpr (v22_1a ..) ?_)
  match m, hm with
  | 0, _ => exact br_of (fun h => absurd (of_decide_eq_true h) (by omega)) (fun _ => ⟨.refl _, rfl⟩)
  | m + 1, hm =>
    refine br_of (fun _ => ⟨⟨rfl, by omega⟩, ?_⟩) (fun h => absurd (of_decide_eq_false h) (by omega))
    exact l_lamsb ((m + 1 : Nat) : Int) (by omega) m 1 5 [] 0 [[.int .i64 k, .str s, .int .i64 n, .sl false 4 (FTs l)]] [.mk k s n l] (by omega) (by omega) (leRows rfl fun j r t hr ht => by
      match j, hr, ht with
      | 0, hr, ht =>
        simp only [List.getElem?_cons_zero, Option.some.injEq] at hr ht
        subst hr; subst ht
        exact leFT (.refl _)
      | j + 1, hr, _ => simp at hr)

/-! ### What may be -/
mutual
def validB : Tm → Bool
  | .mk k s n l =>
    if (k == 0) = true then (isName s || isSym s) && n == 0 && (((FTs l).length : Nat) : Int) == 0
    else if (k == 1) = true then decide (n ≥ 1) && s == [] && (((FTs l).length : Nat) : Int) == 0 && validL l
    else if (k == 2) = true then s == [] && (((FTs l).length : Nat) : Int) == 0 && validL l
    else if (k == 3) = true then decide (n ≥ 0) && decide (n ≤ 4611686018427387904) && s == [] && (((FTs l).length : Nat) : Int) == 0 && validL l
    else if (k == 4) = true then decide (n ≥ 0) && decide (n ≤ 4611686018427387904) && s == [] && (((FTs l).length : Nat) : Int) == 0 && validL l
    else if (k == 5) = true then n == 0 && s == [] && (((FTs l).length : Nat) : Int) == 1 && validL l
    else if (k == 6) = true then n == 0 && decide ((((FTs l).length : Nat) : Int) ≥ 2) && ((l.headD default).k != 6) && s == [] && validL l
    else false
def validL : List Tm → Bool
  | [] => true
  | t :: l => validB t && validL l
end
def badAt : List Tm → Int → Int
  | [], _ => -1
  | t :: l, i => if validB t = true then badAt l (i + 1) else i
theorem badAt_ge : ∀ (l : List Tm) (i : Int), 0 ≤ i → decide (badAt l i ≥ 0) = !validL l
  | [], _, _ => rfl
  | t :: l, i, h => by
    rw [badAt, validL]
    split
    · rename_i e; rw [badAt_ge l (i + 1) (by omega), e, Bool.true_and]
    · rename_i e; rw [show validB t = false by simpa using e]; simp; omega
theorem l_index : ∀ (b a : List Tm), (∀ u ∈ b, AC Try.prog 61 [aT u] [] (cb (!validB u)) []) → (a ++ b).length ≤ B →
    RPt Try.prog 101 0 (ci (badAt b a.length)) [] 1 ⟨[(0, aL (a ++ b)), (1, .c (.fn (.func 61) [] [])), (7, ci (((FTs (a ++ b)).length : Nat) : Int)), (8, ci a.length)], [], 0⟩
  | [], a, _, _ => by
    refine RPt.vc hP sh lv101 (Eq.mpr (v101_1a ..) ?_)
    exact br_of (fun h => absurd (of_decide_eq_true h) (geI' a)) (fun _ => ret_i rfl)
  | t :: b, a, ih, hl => by
    refine RPt.vc hP sh lv101 (Eq.mpr (v101_1a ..) ?_)
    have hl' := hl
    simp only [List.length_append, List.length_cons, B] at hl'
    have h1 := ih t List.mem_cons_self
    have h2 := l_index b (a ++ [t]) (fun u hu => ih u (List.mem_cons_of_mem _ hu)) (by rw [ap]; exact hl)
    have h3 := ltI' a t b
    rw [ap, nx] at h2
    rw [midI, w64 (x := (a.length : Int) + 1) (by omega) (by omega)]
    refine br_of (fun _ => ?_) (fun h => absurd h3 (of_decide_eq_false h))
    obtain ⟨k', s', n', l'⟩ := t
    refine ⟨⟨rfl, by omega, h3, rfl⟩, _, h1, br_of (fun h => ?_) (fun h => ?_)⟩
    · rw [badAt, if_neg (by simpa using h)]; exact ret_i rfl
    · rw [badAt, if_pos (by simpa using h)]; exact h2
theorem c_contf (l : List Tm) (hl : l.length ≤ B) (ih : ∀ u ∈ l, AC Try.prog 15 [aT u] [] (cb (validB u)) []) : AC Try.prog 60 [aL l, .c (.fn (.func 61) [] [])] [] (cb (!validL l)) [] := by
  have h1 : ∀ u ∈ l, AC Try.prog 61 [aT u] [] (cb (!validB u)) [] := fun u hu => by
    have h := ih u hu
    obtain ⟨k, s, n, l⟩ := u
    refine AC.vc hP sh lv61 (Nat.le_refl _) (by simp) (by simp) (Eq.mpr (v61 k s n (FTs l) _ _) ?_)
    exact ⟨_, h, ret_b rfl⟩
  have h2 : AC Try.prog 101 [aL l, .c (.fn (.func 61) [] [])] [] (ci (badAt l 0)) [] := by
    refine AC.vc hP sh lv101 (Nat.le_refl _) (by simp) (by simp) (Eq.mpr (v101 ..) ?_)
    exact ⟨rfl, l_index l [] h1 hl⟩
  refine AC.vc hP sh lv60 (Nat.le_refl _) (by simp) (by simp) (Eq.mpr (v60 ..) ?_)
  exact ⟨_, h2, ret_b (badAt_ge l 0 (Int.le_refl _))⟩
theorem head0 : ∀ {l : List Tm}, 2 ≤ (((FTs l).length : Nat) : Int) → List.getD (FTs l) 0 [] = FT (l.headD default)
  | [], h => by simp [FTs] at h
  | t :: l, _ => rfl
theorem c_valid : ∀ t : Tm, t.sz ≤ B → AC Try.prog 15 [aT t] [] (cb (validB t)) [] := by
  refine Tm.ind fun t ih hs => ?_
  have hlen := Tm.szs_length t.l
  obtain ⟨k, s, n, l⟩ := t
  simp only [Tm.sz, Tm.l] at hs hlen
  have hc := c_contf l (by omega) fun u hu => ih u hu (by have := Tm.szs_mem hu; omega)
  refine AC.vc hP sh lv15 (Nat.le_refl _) (by simp) (by simp) (Eq.mpr (v15 k s n (FTs l) _ _) ?_)
  refine br_of (fun h0 => ⟨_, c_isname s, br_of (fun h1 => br_of (fun h2 => ⟨rfl, ret_b ?_⟩) (fun h2 => ret_b ?_)) (fun h1 => ⟨_, c_issym s, br_of (fun h1' => br_of (fun h2 => ⟨rfl, ret_b ?_⟩) (fun h2 => ret_b ?_)) (fun h1' => ret_b ?_)⟩)⟩)
    (fun h0 => br_of (fun h1 => br_of (fun h2 => br_of (fun h3 => ⟨rfl, br_of (fun h4 => ⟨_, hc, ret_b ?_⟩) (fun h4 => ret_b ?_)⟩) (fun h3 => ret_b ?_)) (fun h2 => ret_b ?_))
    (fun h1 => br_of (fun h2 => br_of (fun h3 => ⟨rfl, br_of (fun h4 => ⟨_, hc, ret_b ?_⟩) (fun h4 => ret_b ?_)⟩) (fun h3 => ret_b ?_))
    (fun h2 => br_of (fun h3 => br_of (fun h4 => br_of (fun h5 => br_of (fun h6 => ⟨rfl, br_of (fun h7 => ⟨_, hc, ret_b ?_⟩) (fun h7 => ret_b ?_)⟩) (fun h6 => ret_b ?_)) (fun h5 => ret_b ?_)) (fun h4 => ret_b ?_))
    (fun h3 => br_of (fun h3' => br_of (fun h4 => br_of (fun h5 => br_of (fun h6 => ⟨rfl, br_of (fun h7 => ⟨_, hc, ret_b ?_⟩) (fun h7 => ret_b ?_)⟩) (fun h6 => ret_b ?_)) (fun h5 => ret_b ?_)) (fun h4 => ret_b ?_))
    (fun h3' => br_of (fun h5 => br_of (fun h6 => br_of (fun h7 => ⟨rfl, br_of (fun h8 => ⟨_, hc, ret_b ?_⟩) (fun h8 => ret_b ?_)⟩) (fun h7 => ret_b ?_)) (fun h6 => ret_b ?_))
    (fun h5 => br_of (fun h6 => br_of (fun h7 => ⟨rfl, br_of (fun h8 => ?app) (fun h8 => ⟨rfl, ret_b ?_⟩)⟩) (fun h7 => ⟨rfl, ret_b ?_⟩)) (fun h6 => ret_b ?_)))))))
  case app =>
    have h8' := of_decide_eq_true h8
    rw [head0 h8', FT_eta]
    refine ⟨⟨rfl, by omega, by omega, rfl⟩, rfl, br_of (fun h9 => br_of (fun h10 => ⟨rfl, br_of (fun h11 => ⟨_, hc, ret_b ?_⟩) (fun h11 => ret_b ?_)⟩) (fun h10 => ret_b ?_)) (fun h9 => ret_b ?_)⟩
    all_goals (have h9' : ((l.headD default).k != 6) = _ := h9; simp_all [validB])
  all_goals first
    | (simp_all [validB]; done)
    | (simp_all [validB]; intros; omega)
end Go.AM

set_option maxRecDepth 100000
open Go Go.Proofs
namespace Go.AM
/-! ### What is not more than is looked at -/
mutual
theorem left_sz : ∀ (t : Tm) (m : Int), 0 ≤ leftF t m → longB t = false → (nd t : Int) ≤ m - leftF t m ∧ t.sz ≤ 61 * nd t
  | .mk _ s _ l, m, h, hl => by
    simp only [longB, Bool.or_eq_false_iff] at hl
    simp only [leftF] at h ⊢
    have := left_szs l (m - 1) h hl.2
    have := of_decide_eq_false hl.1
    simp only [nd, Tm.sz]; omega
theorem left_szs : ∀ (l : List Tm) (m : Int), 0 ≤ leftL l m → longL l = false → (nds l : Int) ≤ m - leftL l m ∧ Tm.szs l ≤ 61 * nds l
  | [], m, h, _ => by simp [nds, leftL, Tm.szs]
  | t :: l, m, h, hl => by
    simp only [longL, Bool.or_eq_false_iff] at hl
    simp only [leftL] at h ⊢
    split at h
    · rename_i h0
      rw [if_pos h0]
      have h1 := left_szs l _ h hl.2
      have h3 := (leftL_le l (leftF t m)).1
      have h2 := left_sz t m (by omega) hl.1
      simp only [nds, Tm.szs]; omega
    · rename_i h0; exact absurd h h0
end
mutual
theorem near_bd {M : Int} : ∀ t : Tm, near M t = true → bd M t
  | .mk k s n l, h => by
    simp only [near, Bool.and_eq_true] at h
    refine ⟨fun e => ?_, nears_bd l h.2⟩
    have := h.1
    rw [e] at this
    simp at this; omega
theorem nears_bd {M : Int} : ∀ l : List Tm, nears M l = true → bds M l
  | [], _ => trivial
  | t :: l, h => by
    simp only [nears, Bool.and_eq_true] at h
    exact ⟨near_bd t h.1, nears_bd l h.2⟩
end
/-- What is looked at. -/
structure Okay (t : Tm) : Prop where
  nodes : nd t ≤ 80
  size : t.sz ≤ 4880
  nums : bd 1099511627776 t
theorem okay {t : Tm} (h : overB t = false) : Okay t := by
  simp only [overB, Bool.or_eq_false_iff, large] at h
  have h1 := of_decide_eq_false h.1.1
  have h2 := left_sz t 80 (by omega) h.1.2
  exact ⟨by omega, by omega, near_bd t (by simpa using h.2)⟩

/-! ### The document's example -/
abbrev exF : Tm := .mk 0 [102] 0 []
abbrev exA : Tm := .mk 0 [97] 0 []
abbrev exB : Tm := applyF exF [.mk 3 [] 0 [], lamsF 1 (.mk 3 [] 1 [])]
theorem c_works : AC Try.prog 13 [] [] (cb true) [] := by
  have e0 : ∀ {k n : Int} {s : List UInt8}, TV.Le (.agg [.a (.fz (.int .i64 k)), .a (.fz (.str s)), .a (.fz (.int .i64 n)), .a (.fz .nils)]) (aT (.mk k s n [])) := leT leNil
  have args : ∀ {a b : List FV} {x y : Tm}, LeR a (FT x) → LeR b (FT y) → TV.Le (.c (.a (.fz (.sl true 4 [a, b])))) (aL [x, y]) := fun ha hb => le_c (leRows rfl fun i r t hr ht => by
    match i, hr, ht with
    | 0, hr, ht => simp only [List.getElem?_cons_zero, Option.some.injEq] at hr ht; subst hr; subst ht; exact ha
    | 1, hr, ht => simp only [List.getElem?_cons_zero, List.getElem?_cons_succ, Option.some.injEq] at hr ht; subst hr; subst ht; exact hb
    | i + 2, hr, _ => simp at hr)
  refine AC.vc hP sh lv13 (Nat.le_refl _) (by simp) (by simp) (Eq.mpr (v13 ..) ?_)
  refine ⟨_, (c_lams 1 (.mk 3 [] 1 []) (by omega)).args ⟨.refl _, e0, trivial⟩, ⟨rfl, by omega⟩,
    _, (c_apply exF [.mk 3 [] 0 [], lamsF 1 (.mk 3 [] 1 [])] (by decide)).args ⟨e0, args (leFT leNil) (LeR.refl _), trivial⟩,
    _, (c_subst exB exA 0 (by decide) (by decide) ?_ ?_ (by omega) (by decide)).args ⟨.refl _, .refl _, e0, trivial⟩,
    _, (c_lams 1 exA (by omega)).args ⟨.refl _, e0, trivial⟩, ⟨rfl, by omega⟩,
    _, (c_apply exF [exA, lamsF 1 exA] (by decide)).args ⟨e0, args (leFT leNil) (LeR.refl _), trivial⟩,
    _, c_valid exB (by decide), _, c_rsame (suT 0 exA exB 0) (by decide) (applyF exF [exA, lamsF 1 exA]), rfl, ?_⟩
  · simp [bd, bds, exB, applyF, lamsF, exF, Tm.k, M61]
  · simp [bd, bds, exA, M61]
  have v1 : validB exB = true := by decide
  have v2 : sameB (suT 0 exA exB 0) (applyF exF [exA, lamsF 1 exA]) = true := by decide
  refine br_of (fun _ => ⟨rfl, br_of (fun _ => ?_) (fun h => by cases h)⟩) (fun h => by cases h)
  rw [v1, v2]
  exact ⟨_, c_size exB (by decide), _, c_loose exB (by decide) (by simp [bd, bds, exB, applyF, lamsF, exF, Tm.k, M61]), ret_b (by decide)⟩
end Go.AM

set_option maxRecDepth 100000
open Go Go.Proofs
namespace Go.AM
/-! ### Plain laws: shifts -/
theorem by_ite (k : Int) : (0 : Int) ≤ if (k == 5) = true then 1 else 0 := by split <;> omega
theorem shT_in (fr by_ : Int) (k : Int) (s : List UInt8) (n : Int) (l : List Tm) (d : Int) (hk : (k == 5 || k == 6) = true) : shT fr by_ (.mk k s n l) d = .mk k s n (walkL (shLeaf fr by_) l (d + if (k == 5) = true then 1 else 0)) := walkF_keep _ (shLeaf_k fr by_) k s n l d hk
theorem shT_leaf (fr by_ : Int) (k : Int) (s : List UInt8) (n : Int) (l : List Tm) (d : Int) (hk : (k == 5 || k == 6) = false) : shT fr by_ (.mk k s n l) d = shLeaf fr by_ (.mk k s n l) d := walkF_leaf _ k s n l d hk
mutual
theorem sh_both (i a b : Int) (ha : 0 ≤ a) : ∀ (t : Tm) (d : Int), shT i b (shT i a t d) d = shT i (a + b) t d
  | .mk k s n l, d => by
    cases hk : (k == 5 || k == 6) with
    | true => rw [shT_in _ _ _ _ _ _ _ hk, shT_in _ _ _ _ _ _ _ hk, shT_in _ _ _ _ _ _ _ hk, sh_boths i a b ha l]
    | false =>
      rw [shT_leaf _ _ _ _ _ _ _ hk, shT_leaf _ _ _ _ _ _ _ hk]
      unfold shLeaf
      by_cases h : (k == 3) = true ∧ d + i ≤ n
      · have h' : ((Tm.mk k s n l).k == 3) = true ∧ d + i ≤ (Tm.mk k s n l).n := h
        rw [if_pos h', if_pos h']
        show shT i b (.mk k s (n + a) l) d = .mk k s (n + (a + b)) l
        rw [shT_leaf _ _ _ _ _ _ _ hk, shLeaf, if_pos ⟨h.1, show d + i ≤ n + a by omega⟩]
        show Tm.mk k s (n + a + b) l = _
        rw [Int.add_assoc]
      · have h' : ¬ (((Tm.mk k s n l).k == 3) = true ∧ d + i ≤ (Tm.mk k s n l).n) := h
        rw [if_neg h', if_neg h', shT_leaf _ _ _ _ _ _ _ hk, shLeaf, if_neg h']
theorem sh_boths (i a b : Int) (ha : 0 ≤ a) : ∀ (l : List Tm) (d : Int), walkL (shLeaf i b) (walkL (shLeaf i a) l d) d = walkL (shLeaf i (a + b)) l d
  | [], _ => rfl
  | t :: l, d => by
    have h1 := sh_both i a b ha t d
    simp only [shT] at h1
    simp only [walkL, h1, sh_boths i a b ha l d]
end
theorem suLeaf_lt {i : Int} {s' : Tm} {k : Int} {s : List UInt8} {n : Int} {l : List Tm} {d : Int} (h3 : (k == 3) = true) (h : n < d + i) : suLeaf i s' (.mk k s n l) d = .mk k s n l := by
  unfold suLeaf
  rw [if_pos (show (Tm.k (.mk k s n l) == 3) = true from h3), if_pos (show Tm.n (.mk k s n l) < d + i from h)]
theorem suLeaf_eq {i : Int} {s' : Tm} {k : Int} {s : List UInt8} {n : Int} {l : List Tm} {d : Int} (h3 : (k == 3) = true) (h : n = d + i) : suLeaf i s' (.mk k s n l) d = shT 0 d s' 0 := by
  unfold suLeaf
  rw [if_pos (show (Tm.k (.mk k s n l) == 3) = true from h3), if_neg (show ¬ Tm.n (.mk k s n l) < d + i from fun e => by have e : n < d + i := e; omega), if_pos (show (Tm.n (.mk k s n l) == d + i) = true from by rw [← h]; simp [Tm.n])]
theorem suLeaf_gt {i : Int} {s' : Tm} {k : Int} {s : List UInt8} {n : Int} {l : List Tm} {d : Int} (h3 : (k == 3) = true) (h : d + i < n) : suLeaf i s' (.mk k s n l) d = .mk k s (n - 1) l := by
  unfold suLeaf
  rw [if_pos (show (Tm.k (.mk k s n l) == 3) = true from h3), if_neg (show ¬ Tm.n (.mk k s n l) < d + i from fun e => by have e : n < d + i := e; omega), if_neg (show ¬ (Tm.n (.mk k s n l) == d + i) = true from fun e => absurd (show n = d + i by simpa [Tm.n] using e) (by omega))]
  rfl
theorem suLeaf_ne {i : Int} {s' : Tm} {k : Int} {s : List UInt8} {n : Int} {l : List Tm} {d : Int} (h3 : ¬ (k == 3) = true) : suLeaf i s' (.mk k s n l) d = .mk k s n l := by
  unfold suLeaf
  rw [if_neg (show ¬ (Tm.k (.mk k s n l) == 3) = true from h3)]
theorem withF_id (k : Int) (s : List UInt8) (n : Int) (m l : List Tm) (h : (m.headD default).k = (l.headD default).k) : withF (.mk k s n m) l = .mk k s n l := by
  unfold withF
  refine if_neg fun e => ?_
  have e1 : ((l.headD default).k == 6) = true := e.2.2.1
  have e2 : ((m.headD default).k != 6) = true := e.2.2.2
  rw [h, bne, e1] at e2; cases e2
/-- Where no leaf changes, nothing does. -/
theorem walk_id (lf : Tm → Int → Tm) (Q : Tm → Int → Prop) (hq : ∀ k s n l d, Q (.mk k s n l) d → (k == 5 || k == 6) = true → ∀ u ∈ l, Q u (d + if (k == 5) = true then 1 else 0))
    (h : ∀ k s n l d, (k == 5 || k == 6) = false → Q (.mk k s n l) d → lf (.mk k s n l) d = .mk k s n l) : ∀ t d, Q t d → walkF lf t d = t := by
  refine Tm.ind fun t ih d hQ => ?_
  obtain ⟨k, s, n, l⟩ := t
  cases hk : (k == 5 || k == 6) with
  | false => rw [walkF_leaf _ _ _ _ _ _ hk]; exact h _ _ _ _ _ hk hQ
  | true =>
    have key : ∀ (m : List Tm) (e : Int), (∀ u ∈ m, walkF lf u e = u) → walkL lf m e = m := by
      intro m e
      induction m with
      | nil => intro _; rfl
      | cons x m im => intro hm; simp only [walkL, hm x List.mem_cons_self, im fun u hu => hm u (List.mem_cons_of_mem _ hu)]
    have hm := key l (d + if (k == 5) = true then 1 else 0) fun u hu => ih u hu _ (hq k s n l d hQ hk u hu)
    rw [walkF, if_pos hk, hm, withF_id _ _ _ _ _ rfl]
theorem sh_none (i : Int) (t : Tm) : shT i 0 t 0 = t := walk_id _ (fun _ _ => True) (fun _ _ _ _ _ _ _ _ _ => trivial) (fun k s n l d _ _ => by
  unfold shLeaf; split
  · simp [Tm.k, Tm.s, Tm.n, Tm.l]
  · rfl) t 0 trivial
mutual
theorem su_back (i : Int) (s' : Tm) : ∀ (t : Tm) (d : Int), suT i s' (shT i 1 t d) d = t
  | .mk k s n l, d => by
    cases hk : (k == 5 || k == 6) with
    | true =>
      rw [shT_in _ _ _ _ _ _ _ hk, suT, walkF, if_pos hk, su_backs i s' l, withF_id]
      cases l with
      | nil => rfl
      | cons x l => exact walkF_k _ (shLeaf_k i 1) x _
    | false =>
      rw [shT_leaf _ _ _ _ _ _ _ hk]
      unfold shLeaf
      by_cases h : (k == 3) = true ∧ d + i ≤ n
      · have h' : ((Tm.mk k s n l).k == 3) = true ∧ d + i ≤ (Tm.mk k s n l).n := h
        rw [if_pos h']
        show walkF _ (.mk k s (n + 1) l) d = _
        rw [walkF_leaf _ _ _ _ _ _ hk, suLeaf_gt h.1 (by omega)]
        rw [show n + 1 - 1 = n by omega]
      · have h' : ¬ (((Tm.mk k s n l).k == 3) = true ∧ d + i ≤ (Tm.mk k s n l).n) := h
        rw [if_neg h', suT, walkF_leaf _ _ _ _ _ _ hk]
        by_cases h3 : (k == 3) = true
        · exact suLeaf_lt h3 (Int.not_le.mp fun e => h ⟨h3, e⟩)
        · exact suLeaf_ne h3
theorem su_backs (i : Int) (s' : Tm) : ∀ (l : List Tm) (d : Int), walkL (suLeaf i s') (walkL (shLeaf i 1) l d) d = l
  | [], _ => rfl
  | t :: l, d => by
    have h1 := su_back i s' t d
    simp only [shT, suT] at h1
    simp only [walkL, h1, su_backs i s' l d]
end
mutual
theorem loose_ge : ∀ (t : Tm) (d acc : Int), acc ≤ looseF t d acc
  | .mk k s n l, d, acc => by
    simp only [looseF]
    split
    · exact loose_ges l _ _
    · split
      · exact loose_ges l _ _
      · split
        · unfold maxI; split <;> omega
        · omega
theorem loose_ges : ∀ (l : List Tm) (d acc : Int), acc ≤ looseL l d acc
  | [], _, _ => Int.le_refl _
  | t :: l, d, acc => Int.le_trans (loose_ge t d acc) (loose_ges l d _)
end
theorem loose_mem (d : Int) : ∀ {l : List Tm} {acc : Int} {t : Tm}, t ∈ l → ∃ acc', looseF t d acc' ≤ looseL l d acc
  | x :: l, acc, t, h => by
    rcases List.mem_cons.1 h with rfl | h
    · exact ⟨acc, loose_ges l d _⟩
    · exact loose_mem d (l := l) (acc := looseF x d acc) h
theorem su_closed (i : Int) (s' t : Tm) (h : looseF t 0 0 ≤ i) : suT i s' t 0 = t := by
  refine walk_id _ (fun t d => ∃ acc, looseF t d acc ≤ i) (fun k s n l d ⟨acc, hq⟩ hk u hu => ?_) (fun k s n l d hk ⟨acc, hq⟩ => ?_) t 0 ⟨0, h⟩
  · simp only [looseF] at hq
    by_cases h5 : (k == 5) = true
    · rw [if_pos h5] at hq ⊢
      obtain ⟨acc', h'⟩ := loose_mem (d + 1) (acc := acc) hu
      exact ⟨acc', by omega⟩
    · have h6 : (k == 6) = true := by rw [show (k == 5) = false by simpa using h5] at hk; simpa using hk
      rw [if_neg h5, if_pos h6] at hq
      rw [if_neg h5, Int.add_zero]
      obtain ⟨acc', h'⟩ := loose_mem d (acc := acc) hu
      exact ⟨acc', by omega⟩
  · simp only [Bool.or_eq_false_iff] at hk
    by_cases h3 : (k == 3) = true
    · simp only [looseF, hk.1, hk.2, h3, Bool.false_eq_true, if_false, if_true] at hq
      exact suLeaf_lt h3 (by unfold maxI at hq; split at hq <;> omega)
    · exact suLeaf_ne h3

/-! ### THE LAW: shifts -/
theorem ret1 {b : Bool} (h : b = true) : TV.Le (cb b) (cb true) ∧ ([] : List AObj) = [] := ret_b h
theorem same_ok {x y : Tm} (hx : x.sz ≤ B) (e : x = y) : AC Try.prog 16 [aT x, aT y] [] (cb true) [] := by
  have := c_rsame x hx y
  rw [(sameB_iff x y).2 e] at this; exact this
theorem Okay.shift {t : Tm} (kt : Okay t) (i a : Int) (h1 : 0 ≤ i) (h2 : i ≤ 2000) (h3 : 0 ≤ a) (h4 : a ≤ 2000) : AC Try.prog 17 [aT t, ci i, ci a] [] (aT (shT i a t 0)) [] ∧ (shT i a t 0).sz ≤ 4880 ∧ nd (shT i a t 0) ≤ 80 ∧ bd 1099511629776 (shT i a t 0) := by
  have := kt.size
  have := shT_sz i a t 0
  have := shT_nd i a t 0
  have := kt.nodes
  refine ⟨c_shift t i a (by simp only [B]; omega) (bd_le (by simp only [M61]; omega) t kt.nums) h1 (by simp only [M61]; omega) (by omega) (by simp only [M61]; omega), by omega, by omega, bd_le (by omega) _ (shT_bd h3 t 0 kt.nums (Int.le_refl _))⟩
theorem mul80 {a b : Nat} (h : a ≤ 80) (hb : b ≤ 4880) : a * b ≤ 390400 := Nat.mul_le_mul h hb
theorem shifts_calls (t s : Tm) (kt : Okay t) (ks : Okay s) (i a b : Int) (i0 : 0 ≤ i) (i1 : i ≤ 1000) (a0 : 0 ≤ a) (a1 : a ≤ 1000) (b0 : 0 ≤ b) (b1 : b ≤ 1000) :
    AC Try.prog 17 [aT t, ci i, ci a] [] (aT (shT i a t 0)) [] ∧ AC Try.prog 17 [aT (shT i a t 0), ci i, ci b] [] (aT (shT i b (shT i a t 0) 0)) [] ∧ AC Try.prog 17 [aT t, ci i, ci (a + b)] [] (aT (shT i (a + b) t 0)) [] ∧
    AC Try.prog 16 [aT (shT i b (shT i a t 0) 0), aT (shT i (a + b) t 0)] [] (cb true) [] ∧ AC Try.prog 17 [aT t, ci i, ci 1] [] (aT (shT i 1 t 0)) [] ∧ AC Try.prog 18 [aT (shT i 1 t 0), ci i, aT s] [] (aT (suT i s (shT i 1 t 0) 0)) [] ∧
    AC Try.prog 16 [aT (suT i s (shT i 1 t 0) 0), aT t] [] (cb true) [] ∧ AC Try.prog 17 [aT t, ci i, ci 0] [] (aT (shT i 0 t 0)) [] ∧ AC Try.prog 16 [aT (shT i 0 t 0), aT t] [] (cb true) [] ∧ AC Try.prog 19 [aT t] [] (ci (looseF t 0 0)) [] ∧
    AC Try.prog 18 [aT t, ci i, aT s] [] (aT (suT i s t 0)) [] ∧ (looseF t 0 0 ≤ i → AC Try.prog 16 [aT (suT i s t 0), aT t] [] (cb true) []) := by
  have ht := kt.size
  have hs := ks.size
  have g1 := kt.shift i a i0 (by omega) a0 (by omega)
  have g3 := kt.shift i (a + b) i0 (by omega) (by omega) (by omega)
  have g4 := kt.shift i 1 i0 (by omega) (by omega) (by omega)
  have g5 := kt.shift i 0 i0 (by omega) (by omega) (by omega)
  have m1 := mul80 g4.2.2.1 hs
  have m2 := mul80 kt.nodes hs
  have z1 := shT_sz i b (shT i a t 0) 0
  have z2 := suT_sz i s (shT i 1 t 0) 0
  have z3 := suT_sz i s t 0
  have bs : bd M61 s := bd_le (by simp only [M61]; omega) s ks.nums
  have bt : bd M61 t := bd_le (by simp only [M61]; omega) t kt.nums
  refine ⟨g1.1, c_shift _ i b (by simp only [B]; omega) (bd_le (by simp only [M61]; omega) _ g1.2.2.2) i0 (by simp only [M61]; omega) (by omega) (by simp only [M61]; omega), g3.1, same_ok (by simp only [B]; omega) (sh_both i a b a0 t 0), g4.1,
    c_subst _ s i (by simp only [B]; omega) (by simp only [B]; omega) (bd_le (by simp only [M61]; omega) _ g4.2.2.2) bs i0 (by simp only [M61]; omega), same_ok (by simp only [B]; omega) (su_back i s t 0), g5.1, same_ok (by simp only [B]; omega) (sh_none i t),
    c_loose t (by simp only [B]; omega) bt, c_subst t s i (by simp only [B]; omega) (by simp only [B]; omega) bt bs i0 (by simp only [M61]; omega), fun h => same_ok (by simp only [B]; omega) (su_closed i s t h)⟩
theorem c_shifts (t s : Tm) (i a b : Int) (ht : t.sz ≤ B) (hs : s.sz ≤ B) : AC Try.prog 3 [aT t, aT s, ci i, ci a, ci b] [] (cb true) [] := by
  have ot := c_over t ht
  have os := c_over s hs
  have vt := c_valid t ht
  have vs := c_valid s hs
  obtain ⟨tk, ts, tn, tl⟩ := t
  obtain ⟨sk, ss, sn, sl⟩ := s
  refine AC.vc hP sh lv3 (Nat.le_refl _) (by simp) (by simp) (Eq.mpr (v3 tk ts tn (FTs tl) sk ss sn (FTs sl) i a b _ _) ?_)
  refine ⟨_, c_works, br_of (fun h => by cases h) (fun _ => ⟨_, ot, _, os, _, vt, _, vs, br_of (fun _ => ret1 rfl) (fun h1 => br_of (fun _ => ret1 rfl) (fun h2 => br_of (fun _ => ret1 rfl) (fun h3 => br_of (fun _ => ret1 rfl) (fun h4 =>
    br_of (fun _ => ret1 rfl) (fun h5 => br_of (fun _ => ret1 rfl) (fun h6 => br_of (fun _ => ret1 rfl) (fun h7 => br_of (fun _ => ret1 rfl) (fun h8 => br_of (fun _ => ret1 rfl) (fun h9 => br_of (fun _ => ret1 rfl) (fun h10 => ?_))))))))))⟩)⟩
  have kt := okay h1
  have ks := okay h2
  have h5 := of_decide_eq_false h5
  have h6 := of_decide_eq_false h6
  have h7 := of_decide_eq_false h7
  have h8 := of_decide_eq_false h8
  have h9 := of_decide_eq_false h9
  have h10 := of_decide_eq_false h10
  obtain ⟨c1, c2, c3, c4, c5, c6, c7, c8, c9, c10, c11, c12⟩ := shifts_calls _ _ kt ks i a b (by omega) (by omega) (by omega) (by omega) (by omega) (by omega)
  rw [w64 (x := a + b) (by omega) (by omega)]
  refine ⟨_, c1, _, c2, _, c3, _, c4, _, c5, _, c6, _, c7, _, c8, _, c9, _, c10, br_of (fun _ => ?_) (fun h => ?_)⟩
  · exact br_of (fun _ => br_of (fun _ => br_of (fun _ => br_of (fun _ => ret1 rfl) (fun h => by cases h)) (fun h => by cases h)) (fun h => by cases h)) (fun h => by cases h)
  · have hl := of_decide_eq_false h
    exact ⟨_, c11, _, c12 (by omega), br_of (fun _ => br_of (fun _ => br_of (fun _ => br_of (fun _ => ret1 rfl) (fun h => by cases h)) (fun h => by cases h)) (fun h => by cases h)) (fun h => by cases h)⟩
end Go.AM

set_option maxRecDepth 100000
open Go Go.Proofs
namespace Go.AM
/-! ### Plain laws: apply, lams -/
theorem applyF_nil (f : Tm) : applyF f [] = f := rfl
theorem applyF6 (l : List Tm) (y : Tm) (b : List Tm) (h : l ≠ []) : applyF (.mk 6 [] 0 l) (y :: b) = .mk 6 [] 0 (l ++ y :: b) := if_pos ⟨rfl, h⟩
theorem applyF_both (f : Tm) : ∀ a b : List Tm, applyF (applyF f a) b = applyF f (a ++ b)
  | [], b => rfl
  | x :: a, [] => by rw [List.append_nil]; rfl
  | x :: a, y :: b => by
    by_cases h : (f.k == 6) = true ∧ f.l ≠ []
    · rw [show applyF f (x :: a) = .mk 6 [] 0 (f.l ++ (x :: a)) from if_pos h, show applyF f (x :: a ++ y :: b) = .mk 6 [] 0 (f.l ++ (x :: a ++ y :: b)) from if_pos h]
      rw [applyF6 _ _ _ (by simp)]
      simp
    · rw [show applyF f (x :: a) = .mk 6 [] 0 (f :: (x :: a)) from if_neg h, show applyF f (x :: a ++ y :: b) = .mk 6 [] 0 (f :: (x :: a ++ y :: b)) from if_neg h]
      rw [applyF6 _ _ _ (by simp)]
      simp
theorem applyF_len (f : Tm) : ∀ a : List Tm, (applyF f a).l.length ≤ 1 + f.l.length + a.length
  | [] => by rw [applyF_nil]; omega
  | x :: a => by
    by_cases h : (f.k == 6) = true ∧ f.l ≠ []
    · rw [show applyF f (x :: a) = .mk 6 [] 0 (f.l ++ (x :: a)) from if_pos h]
      simp only [Tm.l, List.length_append]; omega
    · rw [show applyF f (x :: a) = .mk 6 [] 0 (f :: (x :: a)) from if_neg h]
      simp only [Tm.l, List.length_cons]; omega
theorem lamsF_both (n : Nat) : ∀ (m : Nat) (f : Tm), lamsF n (lamsF m f) = lamsF (n + m) f
  | 0, _ => rfl
  | m + 1, f => by rw [lamsF, lamsF_both n m]; rfl
theorem lamsF_size : ∀ (n : Nat) (f : Tm), sizeF (lamsF n f) = n + sizeF f
  | 0, f => by rw [lamsF]; omega
  | n + 1, f => by
    rw [lamsF, lamsF_size n]
    have : sizeF (.mk 5 [] 0 [f]) = 1 + sizeF f := by simp [sizeF, sizeL]
    omega
theorem lamsF_sz : ∀ (n : Nat) (f : Tm), (lamsF n f).sz = n + f.sz
  | 0, f => by rw [lamsF]; omega
  | n + 1, f => by
    rw [lamsF, lamsF_sz n]
    simp only [Tm.sz, Tm.szs, List.length_nil]; omega

/-! ### THE LAW: applies -/
theorem applies_calls (f : Tm) (kf : Okay f) (n m : Nat) (hn : n ≤ 20) (hm : m ≤ 20) :
    AC Try.prog 22 [ci m, aT f] [] (aT (lamsF m f)) [] ∧ AC Try.prog 22 [ci n, aT (lamsF m f)] [] (aT (lamsF n (lamsF m f))) [] ∧ AC Try.prog 22 [ci ((n + m : Nat) : Int), aT f] [] (aT (lamsF (n + m) f)) [] ∧
    AC Try.prog 16 [aT (lamsF n (lamsF m f)), aT (lamsF (n + m) f)] [] (cb true) [] ∧ AC Try.prog 22 [ci n, aT f] [] (aT (lamsF n f)) [] ∧ AC Try.prog 23 [aT (lamsF n f)] [] (ci (sizeF (lamsF n f))) [] ∧ AC Try.prog 23 [aT f] [] (ci (sizeF f)) [] ∧
    ((sizeF (lamsF n f) : Int) == IntKind.wrap .i64 ((n : Int) + (sizeF f : Int))) = true := by
  have := kf.size
  have := sizeF_le f
  have h1 := lamsF_sz m f
  have h2 := lamsF_sz n (lamsF m f)
  have h3 := lamsF_sz n f
  have h4 := lamsF_size n f
  refine ⟨c_lams m f (by omega), c_lams n _ (by omega), c_lams (n + m) f (by omega), same_ok (by simp only [B]; omega) (lamsF_both n m f), c_lams n f (by omega), c_size _ (by simp only [B]; omega), c_size _ (by simp only [B]; omega), ?_⟩
  rw [w64 (by omega) (by omega), h4]
  simp
theorem applies_app (f : Tm) (a b : List Tm) (kf : Okay f) (ha : a.length ≤ 8) (hb : b.length ≤ 8) (hza : Tm.szs a ≤ 1048576) (hzb : Tm.szs b ≤ 1048576) :
    AC Try.prog 21 [aT f, aL a] [] (aT (applyF f a)) [] ∧ AC Try.prog 21 [aT (applyF f a), aL b] [] (aT (applyF (applyF f a) b)) [] ∧ AC Try.prog 21 [aT f, aL (a ++ b)] [] (aT (applyF f (a ++ b))) [] ∧
    AC Try.prog 16 [aT (applyF (applyF f a) b), aT (applyF f (a ++ b))] [] (cb true) [] ∧ AC Try.prog 21 [aT f, .c (.a (.fz .nils))] [] (aT f) [] ∧ AC Try.prog 16 [aT f, aT f] [] (cb true) [] := by
  have h0 := kf.size
  have h1 := Tm.szs_length f.l
  have h2 := f.sz_eq
  have h3 := applyF_sz f a
  have h4 := applyF_len f a
  have h5 : (applyF (applyF f a) b).sz ≤ 1 + (1 + f.sz + Tm.szs a) + Tm.szs b := Nat.le_trans (applyF_sz _ _) (by omega)
  have hs : AC Try.prog 16 [aT (applyF (applyF f a) b), aT (applyF f (a ++ b))] [] (cb true) [] := same_ok (by simp only [B] at *; omega) (applyF_both f a b)
  exact ⟨c_apply f a (by omega), c_apply _ b (by omega), c_apply f (a ++ b) (by rw [List.length_append]; omega), hs, (c_apply f [] (by simp only [List.length_nil]; omega)).args ⟨.refl _, le_c leNil, trivial⟩, same_ok (by simp only [B]; omega) rfl⟩
theorem row_len {l : List Tm} (h : rowL l = false) : l.length ≤ 8 := by
  simp only [rowL, Bool.or_eq_false_iff] at h
  have := of_decide_eq_false h.1
  omega
theorem c_applies (f : Tm) (a b : List Tm) (n m : Int) (hf : f.sz ≤ B) (ha : Tm.szs a ≤ 1048576) (hb : Tm.szs b ≤ 1048576) : AC Try.prog 5 [aT f, aL a, aL b, ci n, ci m] [] (cb true) [] := by
  have of := c_over f hf
  have oa := c_row a (by simp only [B]; omega)
  have ob := c_row b (by simp only [B]; omega)
  have vf := c_valid f hf
  obtain ⟨fk, fs, fn, fl⟩ := f
  refine AC.vc hP sh lv5 (Nat.le_refl _) (by simp) (by simp) (Eq.mpr (v5 fk fs fn (FTs fl) (FTs a) (FTs b) n m _ _) ?_)
  refine ⟨_, c_works, br_of (fun h => by cases h) (fun _ => ⟨_, of, _, oa, _, ob, _, vf, br_of (fun _ => ret1 rfl) (fun h1 => br_of (fun _ => ret1 rfl) (fun h2 => br_of (fun _ => ret1 rfl) (fun h3 => br_of (fun _ => ret1 rfl) (fun _ =>
    br_of (fun _ => ret1 rfl) (fun h5 => br_of (fun _ => ret1 rfl) (fun h6 => br_of (fun _ => ret1 rfl) (fun h7 => br_of (fun _ => ret1 rfl) (fun h8 => ⟨rfl, ?_⟩))))))))⟩)⟩
  have kf := okay h1
  have la := row_len h2
  have lb := row_len h3
  have h5 := of_decide_eq_false h5
  have h6 := of_decide_eq_false h6
  have h7 := of_decide_eq_false h7
  have h8 := of_decide_eq_false h8
  obtain ⟨n, rfl⟩ := Int.eq_ofNat_of_zero_le (a := n) (by omega)
  obtain ⟨m, rfl⟩ := Int.eq_ofNat_of_zero_le (a := m) (by omega)
  obtain ⟨l1, l2, l3, l4, l5, l6, l7, l8⟩ := applies_calls _ kf n m (by omega) (by omega)
  obtain ⟨p1, p2, p3, p4, p5, p6⟩ := applies_app _ a b kf la lb ha hb
  rw [w64 (x := (n : Int) + (m : Int)) (by omega) (by omega), show (n : Int) + (m : Int) = ((n + m : Nat) : Int) by omega]
  have ea : List.take (FTs b).length (List.drop 0 (FTs b)) = FTs b := by rw [List.drop_zero, List.take_length]
  have eb : List.take ((FTs a).length + (FTs b).length) (List.drop 0 (List.take (FTs a).length (FTs a) ++ FTs b)) = FTs (a ++ b) := by
    rw [List.drop_zero, List.take_length, ← List.length_append, List.take_length, FTs_append]
  have ra : roomB (FTs a).length 56 := by rw [FTs_length]; exact roomI (by omega)
  have rb : roomB (FTs b).length 56 := by rw [FTs_length]; exact roomI (by omega)
  have rab : roomB ((FTs a).length + (FTs b).length) 56 := by rw [FTs_length, FTs_length]; exact roomI (by omega)
  refine br_of (fun ha0 => ⟨rfl, br_of (fun hb0 => ?_) (fun _ => ⟨rb, ?_⟩)⟩) (fun _ => ⟨ra, rfl, ⟨Nat.le_refl _, rab⟩, ?_⟩)
  · have e1 : a = [] := by cases a with
      | nil => rfl
      | cons x a => simp [FTs] at ha0
    have e2 : b = [] := by cases b with
      | nil => rfl
      | cons x a => simp [FTs] at hb0
    subst e1; subst e2
    exact ⟨_, p1, _, p2, _, p5, _, p4, _, p5, _, p6, _, l1, _, l2, _, l3, _, l4,
      br_of (fun _ => br_of (fun _ => br_of (fun _ => br_of (fun _ => ⟨_, l5, _, l6, _, l7, ret1 l8⟩) (fun h => by cases h)) (fun h => by cases h)) (fun h => by cases h)) (fun h => by cases h)⟩
  · have e1 : a = [] := by cases a with
      | nil => rfl
      | cons x a => simp [FTs] at ha0
    subst e1
    rw [ea]
    exact ⟨_, p1, _, p2, ⟨rfl, by omega⟩, _, p3.args ⟨.refl _, le_c leSl, trivial⟩, _, p4, _, p5, _, p6, _, l1, _, l2, _, l3, _, l4,
      br_of (fun _ => br_of (fun _ => br_of (fun _ => br_of (fun _ => ⟨_, l5, _, l6, _, l7, ret1 l8⟩) (fun h => by cases h)) (fun h => by cases h)) (fun h => by cases h)) (fun h => by cases h)⟩
  · have el : (FTs a).length + (FTs b).length ≤ (List.take (FTs a).length (FTs a) ++ FTs b).length := by rw [List.take_length, List.length_append]; omega
    rw [eb]
    exact ⟨_, p1, _, p2, ⟨rfl, by omega⟩, _, p3.args ⟨.refl _, le_c leSl, trivial⟩, _, p4, _, p5, _, p6, _, l1, _, l2, _, l3, _, l4,
      br_of (fun _ => br_of (fun _ => br_of (fun _ => br_of (fun _ => ⟨_, l5, _, l6, _, l7, ret1 l8⟩) (fun h => by cases h)) (fun h => by cases h)) (fun h => by cases h)) (fun h => by cases h)⟩
end Go.AM

set_option maxRecDepth 100000
open Go Go.Proofs
namespace Go.AM
/-! ### Plain laws: two substitutions -/
abbrev byI (k : Int) : Int := if (k == 5) = true then 1 else 0
theorem suT_in (i : Int) (s' : Tm) (k : Int) (s : List UInt8) (n : Int) (l : List Tm) (d : Int) (hk : (k == 5 || k == 6) = true) : suT i s' (.mk k s n l) d = withF (.mk k s n l) (walkL (suLeaf i s') l (d + byI k)) := by
  rw [suT, walkF, if_pos hk]
theorem suT_leaf (i : Int) (s' : Tm) (k : Int) (s : List UInt8) (n : Int) (l : List Tm) (d : Int) (hk : (k == 5 || k == 6) = false) : suT i s' (.mk k s n l) d = suLeaf i s' (.mk k s n l) d := walkF_leaf _ k s n l d hk
theorem shLeaf_ge {fr by_ : Int} {k : Int} {s : List UInt8} {n : Int} {l : List Tm} {d : Int} (h3 : (k == 3) = true) (h : d + fr ≤ n) : shLeaf fr by_ (.mk k s n l) d = .mk k s (n + by_) l := by
  unfold shLeaf
  rw [if_pos (show (Tm.k (.mk k s n l) == 3) = true ∧ d + fr ≤ Tm.n (.mk k s n l) from ⟨h3, h⟩)]; rfl
theorem shLeaf_no {fr by_ : Int} {k : Int} {s : List UInt8} {n : Int} {l : List Tm} {d : Int} (h : ¬ ((k == 3) = true ∧ d + fr ≤ n)) : shLeaf fr by_ (.mk k s n l) d = .mk k s n l := by
  unfold shLeaf
  rw [if_neg (show ¬ ((Tm.k (.mk k s n l) == 3) = true ∧ d + fr ≤ Tm.n (.mk k s n l)) from h)]
theorem walkL_append (lf : Tm → Int → Tm) : ∀ (a b : List Tm) (d : Int), walkL lf (a ++ b) d = walkL lf a d ++ walkL lf b d
  | [], _, _ => rfl
  | t :: a, b, d => by simp only [List.cons_append, walkL, walkL_append lf a b d]
/-! Shifts of shifts. -/
mutual
theorem sh_sh (d e : Int) (he : 0 ≤ e) : ∀ (u : Tm) (f : Int), shT 0 d (shT 0 e u f) (e + f) = shT 0 (d + e) u f
  | .mk k s n l, f => by
    cases hk : (k == 5 || k == 6) with
    | true => rw [shT_in _ _ _ _ _ _ _ hk, shT_in _ _ _ _ _ _ _ hk, shT_in _ _ _ _ _ _ _ hk, Int.add_assoc, sh_shs d e he l]
    | false =>
      rw [shT_leaf _ _ _ _ _ _ _ hk, shT_leaf _ _ _ _ _ _ _ hk]
      by_cases h : (k == 3) = true ∧ f + 0 ≤ n
      · rw [shLeaf_ge h.1 h.2, shLeaf_ge h.1 h.2, shT_leaf _ _ _ _ _ _ _ hk, shLeaf_ge h.1 (by omega), show n + e + d = n + (d + e) by omega]
      · rw [shLeaf_no h, shLeaf_no h, shT_leaf _ _ _ _ _ _ _ hk, shLeaf_no fun e' => h ⟨e'.1, by omega⟩]
theorem sh_shs (d e : Int) (he : 0 ≤ e) : ∀ (l : List Tm) (f : Int), walkL (shLeaf 0 d) (walkL (shLeaf 0 e) l f) (e + f) = walkL (shLeaf 0 (d + e)) l f
  | [], _ => rfl
  | t :: l, f => by
    have h1 := sh_sh d e he t f
    simp only [shT] at h1
    simp only [walkL, h1, sh_shs d e he l f]
end
/-! A shift of what is made flat. -/
theorem headD_walk (lf : Tm → Int → Tm) (h : ∀ u d, (lf u d).k = u.k) (l : List Tm) (d : Int) : ((walkL lf l d).headD default).k = (l.headD default).k := by
  cases l with
  | nil => rfl
  | cons x l => exact walkF_k _ h x _
theorem withF_pos {k : Int} {s : List UInt8} {n : Int} {l : List Tm} {x : Tm} {r : List Tm} (h6 : (k == 6) = true) (hr : r ≠ []) (hx : (x.k == 6) = true) (hl : ((l.headD default).k == 6) = false) : withF (.mk k s n l) (x :: r) = applyF x r := by
  unfold withF
  exact if_pos ⟨h6, by cases r with
    | nil => exact absurd rfl hr
    | cons y r => simp, hx, show ((l.headD default).k != 6) = true by rw [bne, hl]; rfl⟩
theorem withF_neg {k : Int} {s : List UInt8} {n : Int} {l o : List Tm} (h : ¬ ((k == 6) = true ∧ 1 < o.length ∧ ((o.headD default).k == 6) = true ∧ ((l.headD default).k == 6) = false)) : withF (.mk k s n l) o = .mk k s n o := by
  unfold withF
  refine if_neg fun e => h ⟨e.1, e.2.1, e.2.2.1, ?_⟩
  have : ((l.headD default).k != 6) = true := e.2.2.2
  simpa [bne] using this
theorem applyF_in {k : Int} {s : List UInt8} {n : Int} {m : List Tm} (y : Tm) (b : List Tm) (h6 : (k == 6) = true) (hm : m ≠ []) : applyF (.mk k s n m) (y :: b) = .mk 6 [] 0 (m ++ y :: b) := if_pos ⟨h6, hm⟩
theorem applyF_out {k : Int} {s : List UInt8} {n : Int} (y : Tm) (b : List Tm) : applyF (.mk k s n []) (y :: b) = .mk 6 [] 0 (.mk k s n [] :: y :: b) := if_neg (fun e => e.2 rfl)
theorem sh_apply (fr by_ : Int) (x : Tm) (r : List Tm) (d : Int) (hx : (x.k == 6) = true) : shT fr by_ (applyF x r) d = applyF (shT fr by_ x d) (walkL (shLeaf fr by_) r d) := by
  match r with
  | [] => rfl
  | y :: r =>
    obtain ⟨k, s, n, m⟩ := x
    have h6 : (k == 6) = true := hx
    have h5 : (k == 5) = false := by have : k = 6 := by simpa using h6
                                     subst this; rfl
    have hk : (k == 5 || k == 6) = true := by rw [h6]; simp
    have e6 : ∀ (q : List Tm), shT fr by_ (.mk 6 [] 0 q) d = .mk 6 [] 0 (walkL (shLeaf fr by_) q d) := fun q => by
      rw [shT_in _ _ _ _ _ _ _ rfl]; simp
    have ex : shT fr by_ (.mk k s n m) d = .mk k s n (walkL (shLeaf fr by_) m d) := by rw [shT_in _ _ _ _ _ _ _ hk, h5]; simp
    match m with
    | [] =>
      have ex : shT fr by_ (.mk k s n []) d = .mk k s n [] := ex
      rw [applyF_out, e6, ex]
      show Tm.mk 6 [] 0 (shT fr by_ (.mk k s n []) d :: walkL _ (y :: r) d) = _
      rw [ex, walkL, applyF_out]
    | z :: m =>
      rw [applyF_in y r h6 (by simp), e6, ex, walkL_append]
      rw [show walkL (shLeaf fr by_) (y :: r) d = walkF (shLeaf fr by_) y d :: walkL (shLeaf fr by_) r d from rfl, applyF_in _ _ h6 (by simp [walkL])]
theorem sh_with (fr by_ : Int) (k : Int) (s : List UInt8) (n : Int) (l o : List Tm) (d : Int) (hk : (k == 5 || k == 6) = true) :
    shT fr by_ (withF (.mk k s n l) o) d = withF (.mk k s n (walkL (shLeaf fr by_) l (d + byI k))) (walkL (shLeaf fr by_) o (d + byI k)) := by
  by_cases h : (k == 6) = true ∧ 1 < o.length ∧ ((o.headD default).k == 6) = true ∧ ((l.headD default).k == 6) = false
  · obtain ⟨h6, hlen, ho, hl⟩ := h
    match o, hlen, ho with
    | x :: r, hlen, ho =>
      have hr : r ≠ [] := by intro e; rw [e] at hlen; simp at hlen
      have h5 : (k == 5) = false := by have : k = 6 := by simpa using h6
                                       subst this; rfl
      have ho : (x.k == 6) = true := ho
      rw [withF_pos h6 hr ho hl, sh_apply _ _ _ _ _ ho, show byI k = 0 by unfold byI; rw [h5]; rfl, Int.add_zero, walkL]
      rw [withF_pos h6 (by cases r with
        | nil => exact absurd rfl hr
        | cons y r => simp [walkL]) (by rw [walkF_k _ (shLeaf_k fr by_)]; exact ho) (by rw [headD_walk _ (shLeaf_k fr by_)]; exact hl)]
      rfl
  · rw [withF_neg h, shT_in _ _ _ _ _ _ _ hk, withF_neg]
    intro e
    refine h ⟨e.1, by have := e.2.1; rw [walkL_length] at this; exact this, ?_, ?_⟩
    · have := e.2.2.1; rw [headD_walk _ (shLeaf_k fr by_)] at this; exact this
    · have := e.2.2.2; rw [headD_walk _ (shLeaf_k fr by_)] at this; exact this
/-! A substitution in what is shifted. -/
mutual
theorem su_sh (d j : Int) (hd : 0 ≤ d) (hj : 0 ≤ j) (u : Tm) : ∀ (t : Tm) (e : Int), 0 ≤ e → suT j u (shT 0 d t e) (d + e) = shT 0 d (suT j u t e) e
  | .mk k s n l, e, he => by
    cases hk : (k == 5 || k == 6) with
    | true =>
      rw [shT_in _ _ _ _ _ _ _ hk, suT_in _ _ _ _ _ _ _ hk, suT_in _ _ _ _ _ _ _ hk, sh_with _ _ _ _ _ _ _ _ hk, Int.add_assoc, su_shs d j hd hj u l _ (by have := by_ite k; omega)]
    | false =>
      rw [shT_leaf _ _ _ _ _ _ _ hk, suT_leaf _ _ _ _ _ _ _ hk]
      by_cases h3 : (k == 3) = true
      · by_cases h : e ≤ n
        · rw [shLeaf_ge h3 (by omega), suT_leaf _ _ _ _ _ _ _ hk]
          rcases Int.lt_trichotomy n (e + j) with h' | h' | h'
          · rw [suLeaf_lt h3 (by omega), suLeaf_lt h3 h', shT_leaf _ _ _ _ _ _ _ hk, shLeaf_ge h3 (by omega)]
          · rw [suLeaf_eq h3 (by omega), suLeaf_eq h3 h']
            have := sh_sh d e he u 0
            rw [Int.add_zero] at this; exact this.symm
          · rw [suLeaf_gt h3 (by omega), suLeaf_gt h3 h', shT_leaf _ _ _ _ _ _ _ hk, shLeaf_ge h3 (by omega), show n + d - 1 = n - 1 + d by omega]
        · have hn : ¬ ((k == 3) = true ∧ e + 0 ≤ n) := fun e' => h (by omega)
          rw [shLeaf_no hn, suT_leaf _ _ _ _ _ _ _ hk, suLeaf_lt h3 (by omega), suLeaf_lt h3 (by omega), shT_leaf _ _ _ _ _ _ _ hk, shLeaf_no hn]
      · have hn : ¬ ((k == 3) = true ∧ e + 0 ≤ n) := fun e' => h3 e'.1
        rw [shLeaf_no hn, suT_leaf _ _ _ _ _ _ _ hk, suLeaf_ne h3, suLeaf_ne h3, shT_leaf _ _ _ _ _ _ _ hk, shLeaf_no hn]
theorem su_shs (d j : Int) (hd : 0 ≤ d) (hj : 0 ≤ j) (u : Tm) : ∀ (l : List Tm) (e : Int), 0 ≤ e → walkL (suLeaf j u) (walkL (shLeaf 0 d) l e) (d + e) = walkL (shLeaf 0 d) (walkL (suLeaf j u) l e) e
  | [], _, _ => rfl
  | t :: l, e, he => by
    have h1 := su_sh d j hd hj u t e he
    simp only [shT, suT] at h1
    simp only [walkL, h1, su_shs d j hd hj u l e he]
end
/-! What is flat. -/
/-- An application's first one is none; there are two at least. -/
def topF (t : Tm) : Prop := (t.k == 6) = true → 2 ≤ t.l.length ∧ ((t.l.headD default).k == 6) = false
mutual
def flatF : Tm → Prop
  | .mk k s n l => topF (.mk k s n l) ∧ ((k == 5 || k == 6) = true → flatL l)
def flatL : List Tm → Prop
  | [] => True
  | t :: l => flatF t ∧ flatL l
end
mutual
theorem valid_flat : ∀ t : Tm, validB t = true → flatF t
  | .mk k s n l, h => by
    refine ⟨fun h6 => ?_, fun hk => valid_flats l ?_⟩
    · have e : k = 6 := by simpa [Tm.k] using h6
      subst e
      simp [validB] at h
      simp only [Tm.l]
      rw [FTs_length] at h
      refine ⟨by omega, ?_⟩
      simp [h]
    · rcases Bool.or_eq_true_iff.1 hk with h5 | h6
      · have e : k = 5 := by simpa using h5
        subst e
        simp [validB] at h
        exact h.2
      · have e : k = 6 := by simpa using h6
        subst e
        simp [validB] at h
        exact h.2
theorem valid_flats : ∀ l : List Tm, validL l = true → flatL l
  | [], _ => trivial
  | t :: l, h => by
    simp only [validL, Bool.and_eq_true] at h
    exact ⟨valid_flat t h.1, valid_flats l h.2⟩
end
theorem sh_top {fr by_ : Int} {t : Tm} {d : Int} (h : topF t) : topF (shT fr by_ t d) := by
  intro h6
  unfold shT at h6 ⊢
  rw [walkF_k _ (shLeaf_k fr by_)] at h6
  have h' := h h6
  obtain ⟨k, s, n, l⟩ := t
  have hk : (k == 5 || k == 6) = true := by rw [show (k == 6) = true from h6]; simp
  rw [walkF_keep _ (shLeaf_k fr by_) _ _ _ _ _ hk]
  simp only [Tm.l] at h' ⊢
  rw [walkL_length, headD_walk _ (shLeaf_k fr by_)]
  exact h'
/-- What a list of an application comes to. -/
def flatX (s : List UInt8) (n : Int) (X : List Tm) : Tm := if ((X.headD default).k == 6) = true then applyF (X.headD default) X.tail else .mk 6 s n X
theorem applyF_assoc (h : Tm) (p q : List Tm) (h6 : (h.k == 6) = true) (hp : p ≠ []) : applyF (applyF h p) q = applyF h (p ++ q) := applyF_both h p q
theorem su_flat (i : Int) (s' : Tm) (s : List UInt8) (n : Int) (l : List Tm) (x : Tm) (r : List Tm) (d : Int) (hr : r ≠ []) (hl : ((l.headD default).k == 6) = false) (hx : topF x) :
    suT i s' (withF (.mk 6 s n l) (x :: r)) d = flatX s n (walkL (suLeaf i s') (x :: r) d) := by
  have hr' : walkL (suLeaf i s') r d ≠ [] := by cases r with
    | nil => exact absurd rfl hr
    | cons y r => simp [walkL]
  have in6 : ∀ (s : List UInt8) (n : Int) (q : List Tm), suT i s' (.mk 6 s n q) d = withF (.mk 6 s n q) (walkL (suLeaf i s') q d) := fun s n q => by
    rw [suT_in _ _ _ _ _ _ _ rfl]; simp [byI]
  by_cases hx6 : (x.k == 6) = true
  · rw [withF_pos rfl hr hx6 hl]
    obtain ⟨k, t, m, q⟩ := x
    have e : k = 6 := by simpa [Tm.k] using hx6
    subst e
    obtain ⟨h2, h3⟩ := hx hx6
    simp only [Tm.l] at h2 h3
    match q, h2, h3 with
    | y :: q, h2, h3 =>
      have hq : q ≠ [] := by intro e; rw [e] at h2; simp at h2
      have h3 : (y.k == 6) = false := h3
      match r, hr with
      | z :: r, hr =>
      rw [applyF_in z r rfl (by simp), in6, walkL_append]
      have eh : walkF (suLeaf i s') (.mk 6 t m (y :: q)) d = withF (.mk 6 t m (y :: q)) (walkL (suLeaf i s') (y :: q) d) := in6 t m (y :: q)
      have hq' : walkL (suLeaf i s') q d ≠ [] := by cases q with
        | nil => exact absurd rfl hq
        | cons y q => simp [walkL]
      have ew : walkL (suLeaf i s') (.mk 6 t m (y :: q) :: z :: r) d = walkF (suLeaf i s') (.mk 6 t m (y :: q)) d :: walkL (suLeaf i s') (z :: r) d := rfl
      have ey : walkL (suLeaf i s') (y :: q) d = walkF (suLeaf i s') y d :: walkL (suLeaf i s') q d := rfl
      rw [flatX, ew, List.headD_cons, List.tail_cons, eh, ey]
      generalize hR : walkL (suLeaf i s') (z :: r) d = R at hr' ⊢
      generalize hY : walkF (suLeaf i s') y d = Y
      generalize hQ : walkL (suLeaf i s') q d = Q at hq' ⊢
      have hQR : Q ++ R ≠ [] := by simp [hq']
      by_cases hY6 : (Y.k == 6) = true
      · have g1 : withF (.mk 6 [] 0 (y :: q ++ z :: r)) (Y :: (Q ++ R)) = applyF Y (Q ++ R) := withF_pos rfl hQR hY6 h3
        have g2 : withF (.mk 6 t m (y :: q)) (Y :: Q) = applyF Y Q := withF_pos rfl hq' hY6 h3
        refine Eq.trans (show _ = withF (.mk 6 [] 0 (y :: q ++ z :: r)) (Y :: (Q ++ R)) from rfl) ?_
        rw [g1, g2, if_pos (by rw [applyF_k _ hY6]; rfl), applyF_both]
      · have g1 : withF (.mk 6 [] 0 (y :: q ++ z :: r)) (Y :: (Q ++ R)) = .mk 6 [] 0 (Y :: (Q ++ R)) := withF_neg (fun e => hY6 e.2.2.1)
        have g2 : withF (.mk 6 t m (y :: q)) (Y :: Q) = .mk 6 t m (Y :: Q) := withF_neg (fun e => hY6 e.2.2.1)
        refine Eq.trans (show _ = withF (.mk 6 [] 0 (y :: q ++ z :: r)) (Y :: (Q ++ R)) from rfl) ?_
        rw [g1, g2, if_pos (show ((Tm.mk 6 t m (Y :: Q)).k == 6) = true from rfl)]
        match R, hr' with
        | w :: R, _ => rw [applyF_in w R rfl (by simp)]; rfl
  · rw [withF_neg (o := x :: r) (fun e => hx6 e.2.2.1), in6, flatX, walkL, List.headD_cons, List.tail_cons]
    by_cases hX : ((walkF (suLeaf i s') x d).k == 6) = true
    · rw [if_pos hX, withF_pos rfl hr' hX (by simpa using hx6)]
    · rw [if_neg hX, withF_neg (o := walkF (suLeaf i s') x d :: walkL (suLeaf i s') r d) (fun e => hX e.2.2.1)]
theorem su_top {i : Int} {s' t : Tm} {d : Int} (hs : topF s') (ht : (t.k == 6) = false) : topF (suT i s' t d) := by
  obtain ⟨k, s, n, l⟩ := t
  have ht : (k == 6) = false := ht
  cases hk : (k == 5 || k == 6) with
  | true =>
    rw [suT_in _ _ _ _ _ _ _ hk]
    intro h6
    rw [withF_k] at h6
    have h6 : (k == 6) = true := h6
    rw [ht] at h6; cases h6
  | false =>
    rw [suT_leaf _ _ _ _ _ _ _ hk]
    by_cases h3 : (k == 3) = true
    · rcases Int.lt_trichotomy n (d + i) with h | h | h
      · rw [suLeaf_lt h3 h]; intro h6; have h6 : (k == 6) = true := h6; rw [ht] at h6; cases h6
      · rw [suLeaf_eq h3 h]; exact sh_top hs
      · rw [suLeaf_gt h3 h]; intro h6; have h6 : (k == 6) = true := h6; rw [ht] at h6; cases h6
    · rw [suLeaf_ne h3]; intro h6; have h6 : (k == 6) = true := h6; rw [ht] at h6; cases h6
mutual
theorem su_swap (i j : Int) (s u : Tm) (hi : 0 ≤ i) (hj : i ≤ j) (hs : topF s) (hu : topF u) : ∀ (t : Tm) (d : Int), 0 ≤ d → flatF t → suT j u (suT i s t d) d = suT i (suT j u s 0) (suT (j + 1) (shT i 1 u 0) t d) d
  | .mk k c n l, d, hd, hf => by
    cases hk : (k == 5 || k == 6) with
    | true =>
      have hX := su_swaps i j s u hi hj hs hu l (d + byI k) (by have := by_ite k; unfold byI; omega) (hf.2 hk)
      rw [suT_in _ _ _ _ _ _ _ hk, suT_in _ _ _ _ _ _ _ hk]
      by_cases h6 : (k == 6) = true
      · have e : k = 6 := by simpa using h6
        subst e
        obtain ⟨h2, h3⟩ := hf.1 rfl
        simp only [Tm.l] at h2 h3
        rw [show byI 6 = 0 from rfl, Int.add_zero] at hX ⊢
        match l, h2, h3, hX with
        | x :: y :: l, _, h3, hX =>
          have h3' : (x.k == 6) = false := h3
          have g1 := su_flat j u c n (x :: y :: l) (walkF (suLeaf i s) x d) (walkL (suLeaf i s) (y :: l) d) d (by simp [walkL]) h3 (su_top hs h3')
          have g2 := su_flat i (suT j u s 0) c n (x :: y :: l) (walkF (suLeaf (j + 1) (shT i 1 u 0)) x d) (walkL (suLeaf (j + 1) (shT i 1 u 0)) (y :: l) d) d (by simp [walkL]) h3 (su_top (sh_top hu) h3')
          exact Eq.trans g1 (Eq.trans (congrArg _ hX) g2.symm)
      · rw [withF_neg (fun e => h6 e.1), withF_neg (fun e => h6 e.1), suT_in _ _ _ _ _ _ _ hk, suT_in _ _ _ _ _ _ _ hk, withF_neg (fun e => h6 e.1), withF_neg (fun e => h6 e.1), hX]
    | false =>
      rw [suT_leaf _ _ _ _ _ _ _ hk, suT_leaf _ _ _ _ _ _ _ hk]
      by_cases h3 : (k == 3) = true
      · rcases Int.lt_trichotomy n (d + i) with h | h | h
        · rw [suLeaf_lt h3 h, suLeaf_lt h3 (by omega), suT_leaf _ _ _ _ _ _ _ hk, suT_leaf _ _ _ _ _ _ _ hk, suLeaf_lt h3 (by omega), suLeaf_lt h3 h]
        · rw [suLeaf_eq h3 h, suLeaf_lt h3 (by omega), suT_leaf _ _ _ _ _ _ _ hk, suLeaf_eq h3 h]
          have := su_sh d j hd (by omega) u s 0 (Int.le_refl _)
          rw [Int.add_zero] at this; exact this
        · rw [suLeaf_gt h3 h, suT_leaf _ _ _ _ _ _ _ hk]
          rcases Int.lt_trichotomy (n - 1) (d + j) with h' | h' | h'
          · rw [suLeaf_lt h3 h', suLeaf_lt h3 (by omega), suT_leaf _ _ _ _ _ _ _ hk, suLeaf_gt h3 h]
          · rw [suLeaf_eq h3 h', suLeaf_eq h3 (by omega)]
            have := su_sh d i hd hi (suT j u s 0) (shT i 1 u 0) 0 (Int.le_refl _)
            rw [Int.add_zero] at this
            rw [this, su_back]
          · rw [suLeaf_gt h3 h', suLeaf_gt h3 (by omega), suT_leaf _ _ _ _ _ _ _ hk, suLeaf_gt h3 (by omega)]
      · rw [suLeaf_ne h3, suLeaf_ne h3, suT_leaf _ _ _ _ _ _ _ hk, suT_leaf _ _ _ _ _ _ _ hk, suLeaf_ne h3, suLeaf_ne h3]
theorem su_swaps (i j : Int) (s u : Tm) (hi : 0 ≤ i) (hj : i ≤ j) (hs : topF s) (hu : topF u) : ∀ (l : List Tm) (d : Int), 0 ≤ d → flatL l → walkL (suLeaf j u) (walkL (suLeaf i s) l d) d = walkL (suLeaf i (suT j u s 0)) (walkL (suLeaf (j + 1) (shT i 1 u 0)) l d) d
  | [], _, _, _ => rfl
  | t :: l, d, hd, hf => by
    have h1 := su_swap i j s u hi hj hs hu t d hd hf.1
    simp only [suT] at h1 ⊢
    simp only [walkL, h1]
    have h2 := su_swaps i j s u hi hj hs hu l d hd hf.2
    simp only [suT] at h2
    rw [h2]
end

/-! ### THE LAW: swaps -/
theorem swaps_calls (t s u : Tm) (kt : Okay t) (ks : Okay s) (ku : Okay u) (vt : validB t = true) (vs : validB s = true) (vu : validB u = true) (i j : Int) (i0 : 0 ≤ i) (ij : i ≤ j) (j1 : j ≤ 1000) :
    AC Try.prog 18 [aT t, ci i, aT s] [] (aT (suT i s t 0)) [] ∧ AC Try.prog 18 [aT (suT i s t 0), ci j, aT u] [] (aT (suT j u (suT i s t 0) 0)) [] ∧ AC Try.prog 17 [aT u, ci i, ci 1] [] (aT (shT i 1 u 0)) [] ∧
    AC Try.prog 18 [aT t, ci (j + 1), aT (shT i 1 u 0)] [] (aT (suT (j + 1) (shT i 1 u 0) t 0)) [] ∧ AC Try.prog 18 [aT s, ci j, aT u] [] (aT (suT j u s 0)) [] ∧
    AC Try.prog 18 [aT (suT (j + 1) (shT i 1 u 0) t 0), ci i, aT (suT j u s 0)] [] (aT (suT i (suT j u s 0) (suT (j + 1) (shT i 1 u 0) t 0) 0)) [] ∧
    AC Try.prog 16 [aT (suT j u (suT i s t 0) 0), aT (suT i (suT j u s 0) (suT (j + 1) (shT i 1 u 0) t 0) 0)] [] (cb true) [] := by
  have bt := kt.size
  have bs := ks.size
  have bu := ku.size
  have g := ku.shift i 1 i0 (by omega) (by omega) (by omega)
  have ft : flatF t := valid_flat t vt
  have fs : topF s := by have := valid_flat s vs; cases s; exact this.1
  have fu : topF u := by have := valid_flat u vu; cases u; exact this.1
  -- sizes
  have z1 := suT_sz i s t 0
  have m1 := mul80 kt.nodes bs
  have n1 := suT_nd i s t 0
  have k1 : nd t * nd s ≤ 6400 := Nat.mul_le_mul kt.nodes ks.nodes
  have z2 := suT_sz j u (suT i s t 0) 0
  have m2 : nd (suT i s t 0) * u.sz ≤ 6400 * 4880 := Nat.mul_le_mul (by omega) bu
  have z3 := suT_sz (j + 1) (shT i 1 u 0) t 0
  have m3 := mul80 kt.nodes g.2.1
  have n3 := suT_nd (j + 1) (shT i 1 u 0) t 0
  have k3 : nd t * nd (shT i 1 u 0) ≤ 6400 := Nat.mul_le_mul kt.nodes g.2.2.1
  have z4 := suT_sz j u s 0
  have m4 := mul80 ks.nodes bu
  have m5 : nd (suT (j + 1) (shT i 1 u 0) t 0) * (suT j u s 0).sz ≤ 6400 * 395280 := Nat.mul_le_mul (by omega) (by omega)
  -- numbers
  have up : ∀ {x : Tm}, bd 2199023255552 x → bd M61 x := fun h => bd_le (by simp only [M61]; omega) _ h
  have b0 : ∀ {x : Tm}, bd 1099511627776 x → bd 2199023255552 x := fun h => bd_le (by omega) _ h
  have dt := b0 kt.nums
  have c1 : bd 2199023255552 (suT i s t 0) := suT_bd (M' := 1099511627776) (D := 4880) s t 0 dt ks.nums (by omega) (by omega) (by omega) i0 (by omega)
  have c3 : bd 2199023255552 (suT (j + 1) (shT i 1 u 0) t 0) := suT_bd (M' := 1099511629776) (D := 4880) _ t 0 dt g.2.2.2 (by omega) (by omega) (by omega) (by omega) (by omega)
  have c4 : bd 2199023255552 (suT j u s 0) := suT_bd (M' := 1099511627776) (D := 4880) u s 0 (b0 ks.nums) ku.nums (by omega) (by omega) (by omega) (by omega) (by omega)
  have cu := up (b0 ku.nums)
  refine ⟨c_subst t s i (by simp only [B]; omega) (by simp only [B]; omega) (up dt) (up (b0 ks.nums)) i0 (by simp only [M61]; omega),
    c_subst _ u j (by simp only [B]; omega) (by simp only [B]; omega) (up c1) cu (by omega) (by simp only [M61]; omega), g.1,
    c_subst t _ (j + 1) (by simp only [B]; omega) (by simp only [B]; omega) (up dt) (bd_le (by simp only [M61]; omega) _ g.2.2.2) (by omega) (by simp only [M61]; omega),
    c_subst s u j (by simp only [B]; omega) (by simp only [B]; omega) (up (b0 ks.nums)) cu (by omega) (by simp only [M61]; omega),
    c_subst _ _ i (by simp only [B]; omega) (by simp only [B]; omega) (up c3) (up c4) i0 (by simp only [M61]; omega),
    same_ok (by simp only [B]; omega) (su_swap i j s u i0 ij fs fu t 0 (Int.le_refl _) ft)⟩
theorem c_swaps (t s u : Tm) (i j : Int) (ht : t.sz ≤ B) (hs : s.sz ≤ B) (hu : u.sz ≤ B) : AC Try.prog 4 [aT t, aT s, aT u, ci i, ci j] [] (cb true) [] := by
  have ot := c_over t ht
  have os := c_over s hs
  have ou := c_over u hu
  have vt := c_valid t ht
  have vs := c_valid s hs
  have vu := c_valid u hu
  have calls := swaps_calls t s u
  obtain ⟨tk, ts, tn, tl⟩ := t
  obtain ⟨sk, ss, sn, sl⟩ := s
  obtain ⟨uk, us, un, ul⟩ := u
  refine AC.vc hP sh lv4 (Nat.le_refl _) (by simp) (by simp) (Eq.mpr (v4 tk ts tn (FTs tl) sk ss sn (FTs sl) uk us un (FTs ul) i j _ _) ?_)
  refine ⟨_, c_works, br_of (fun h => by cases h) (fun _ => ⟨_, ot, _, os, _, ou, _, vt, _, vs, _, vu, br_of (fun _ => ret1 rfl) (fun h1 => br_of (fun _ => ret1 rfl) (fun h2 => br_of (fun _ => ret1 rfl) (fun h3 => br_of (fun _ => ret1 rfl) (fun h4 =>
    br_of (fun _ => ret1 rfl) (fun h5 => br_of (fun _ => ret1 rfl) (fun h6 => br_of (fun _ => ret1 rfl) (fun h7 => br_of (fun _ => ret1 rfl) (fun h8 => br_of (fun _ => ret1 rfl) (fun h9 => ?_)))))))))⟩)⟩
  have h7 := of_decide_eq_false h7
  have h8 := of_decide_eq_false h8
  have h9 := of_decide_eq_false h9
  obtain ⟨c1, c2, c3, c4, c5, c6, c7⟩ := calls (okay h1) (okay h2) (okay h3) (by simpa using h4) (by simpa using h5) (by simpa using h6) i j (by omega) (by omega) (by omega)
  rw [w64 (x := j + 1) (by omega) (by omega)]
  exact ⟨_, c1, _, c2, _, c3, _, c4, _, c5, _, c6, _, c7, br_of (fun _ => ret1 rfl) (fun h => by cases h)⟩
end Go.AM

set_option maxRecDepth 100000
open Go Go.Proofs
namespace Go.AM
/-! ### Rows of numbers -/
abbrev aI (l : List Int) : TV := .c (.a (.fz (.sl false 1 (IR l))))
theorem IR_length (l : List Int) : (IR l).length = l.length := by simp [IR]
theorem IR_append (a b : List Int) : IR (a ++ b) = IR a ++ IR b := by simp [IR]
theorem midN (a : List Int) (x : Int) (b : List Int) : List.getD (IR (a ++ x :: b)) (Int.toNat (a.length : Int)) [] = [.int .i64 x] := by
  rw [show Int.toNat (a.length : Int) = a.length by omega]
  simp [List.getD, IR]
theorem ltN (a : List Int) (t : Int) (b : List Int) : (a.length : Int) < (((IR (a ++ t :: b)).length : Nat) : Int) := by rw [IR_length]; exact ltI a t b
def hasI (v : Int) (l : List Int) : Bool := l.any fun x => v == x
def idxI (v : Int) : List Int → Int → Int
  | [], _ => -1
  | x :: l, i => if (v == x) = true then i else idxI v l (i + 1)
theorem idxI_ge (v : Int) : ∀ (l : List Int) (i : Int), 0 ≤ i → decide (idxI v l i ≥ 0) = hasI v l
  | [], _, _ => rfl
  | x :: l, i, h => by
    rw [idxI]
    split
    · rename_i e; simp [hasI, e, h]
    · rename_i e; rw [idxI_ge v l (i + 1) (by omega)]; simp [hasI, show (v == x) = false by simpa using e]
theorem l_iindex (v : Int) : ∀ (b a : List Int), (a ++ b).length ≤ B → RPt Try.prog 103 0 (ci (idxI v b a.length)) [] 1 ⟨[(0, aI (a ++ b)), (1, ci v), (7, ci (((IR (a ++ b)).length : Nat) : Int)), (8, ci a.length)], [], 0⟩
  | [], a, hl => by
    refine RPt.vc hP sh lv103 (Eq.mpr (v103_1a ..) ?_)
    exact br_of (fun h => absurd (of_decide_eq_true h) (by rw [IR_length]; simp)) (fun _ => ret_i rfl)
  | x :: b, a, hl => by
    refine RPt.vc hP sh lv103 (Eq.mpr (v103_1a ..) ?_)
    have hl' := hl
    simp only [List.length_append, List.length_cons, B] at hl'
    have h2 := l_iindex v b (a ++ [x]) (by rw [ap]; exact hl)
    rw [ap, nx] at h2
    rw [midN, w64 (x := (a.length : Int) + 1) (by omega) (by omega)]
    refine br_of (fun _ => ⟨⟨rfl, by omega, ltN a x b, rfl⟩, br_of (fun h => ?_) (fun h => ?_)⟩) (fun h => absurd (ltN a x b) (of_decide_eq_false h))
    · rw [idxI, if_pos (show (v == x) = true from h)]; exact ret_i rfl
    · rw [idxI, if_neg (by rw [show (v == x) = false from h]; simp)]; exact h2
theorem c_icontains (l : List Int) (v : Int) (hl : l.length ≤ B) : AC Try.prog 71 [aI l, ci v] [] (cb (hasI v l)) [] := by
  have h1 : AC Try.prog 103 [aI l, ci v] [] (ci (idxI v l 0)) [] := by
    refine AC.vc hP sh lv103 (Nat.le_refl _) (by simp) (by simp) (Eq.mpr (v103 ..) ?_)
    exact ⟨rfl, l_iindex v l [] hl⟩
  refine AC.vc hP sh lv71 (Nat.le_refl _) (by simp) (by simp) (Eq.mpr (v71 ..) ?_)
  exact ⟨_, h1, ret_b (idxI_ge v l 0 (Int.le_refl _))⟩
/-! ### Variables -/
def varsLeaf (u : Tm) (l : List Int) : List Int := if (u.k == 4 && !hasI u.n l) = true then l ++ [u.n] else l
mutual
def varsF : Tm → List Int → List Int
  | .mk k s n l, acc => if (k == 5 || k == 6) = true then varsL l acc else varsLeaf (.mk k s n l) acc
def varsL : List Tm → List Int → List Int
  | [], acc => acc
  | t :: l, acc => varsL l (varsF t acc)
end
mutual
theorem varsF_ext : ∀ (t : Tm) (acc : List Int), ∃ e, varsF t acc = acc ++ e
  | .mk k s n l, acc => by
    rw [varsF]
    split
    · exact varsL_ext l acc
    · unfold varsLeaf
      split
      · exact ⟨_, rfl⟩
      · exact ⟨[], by simp⟩
theorem varsL_ext : ∀ (l : List Tm) (acc : List Int), ∃ e, varsL l acc = acc ++ e
  | [], acc => ⟨[], by simp [varsL]⟩
  | t :: l, acc => by
    obtain ⟨e, h⟩ := varsF_ext t acc
    obtain ⟨e', h'⟩ := varsL_ext l (varsF t acc)
    exact ⟨e ++ e', by rw [varsL, h', h, List.append_assoc]⟩
end
mutual
theorem varsF_len : ∀ (t : Tm) (acc : List Int), (varsF t acc).length ≤ acc.length + t.sz
  | .mk k s n l, acc => by
    rw [varsF]
    split
    · have := varsL_len l acc; simp only [Tm.sz]; omega
    · unfold varsLeaf
      split
      · simp only [List.length_append, List.length_cons, List.length_nil, Tm.sz]; omega
      · omega
theorem varsL_len : ∀ (l : List Tm) (acc : List Int), (varsL l acc).length ≤ acc.length + Tm.szs l
  | [], acc => by simp [varsL]
  | t :: l, acc => by
    have h1 := varsF_len t acc
    have h2 := varsL_len l (varsF t acc)
    simp only [varsL, Tm.szs]; omega
end
/-- The variable that holds the row: nil, or what it points to. -/
def HsV : List Int → List AObj
  | [] => [.arr 1 [[.a (.fz .nils)]]]
  | x :: l => [.arr 1 [[.a (.osl 1 1 0 (x :: l).length)]], .arz 1 (IR (x :: l))]
/-- ... behind a call that came with l and leaves l'. -/
def HsW (l l' : List Int) : List AObj := if l' = l then HsV l else if l = [] then HsV l' else [.arr 1 [[.a (.osl 2 1 0 l'.length)]], .gone, .arz 1 (IR l')]
theorem HsV_ne {l : List Int} (h : l ≠ []) : HsV l = [.arr 1 [[.a (.osl 1 1 0 l.length)]], .arz 1 (IR l)] := by
  match l, h with
  | x :: l, _ => rfl
theorem HsV_len (l : List Int) : 1 ≤ (HsV l).length := by cases l <;> simp [HsV]
theorem HsV_live : ∀ (l : List Int) (x : AObj), x ∈ HsV l → isLive x
  | [], x, h => by simp [HsV] at h; subst h; trivial
  | y :: l, x, h => by
    simp only [HsV, List.mem_cons, List.not_mem_nil, or_false] at h
    rcases h with rfl | rfl <;> trivial
theorem HsW_nil (l' : List Int) : HsW [] l' = HsV l' := by unfold HsW; split <;> simp_all
theorem HsW_same (l : List Int) : HsW l l = HsV l := if_pos rfl
theorem HsW_more {l l' : List Int} (h : l ≠ []) (h' : l' ≠ l) : HsW l l' = [.arr 1 [[.a (.osl 2 1 0 l'.length)]], .gone, .arz 1 (IR l')] := by rw [HsW, if_neg h', if_neg h]
theorem takeIR (l : List Int) : List.take l.length (List.drop 0 (IR l)) = IR l := by rw [List.drop_zero, List.take_of_length_le (by rw [IR_length]; exact Nat.le_refl _)]
theorem roomN {n : Nat} (h : n ≤ 2199023255552) : roomB n 8 := by unfold roomB; omega
theorem c_vars1 (u : Tm) (k : Int) (l : List Int) (hl : l.length ≤ 2 * B) (hl' : l.length ≤ B) : AC Try.prog 70 [aT u, ci k, .c (.a (.ep 0 1 0 0))] (HsV l) (.tup []) (HsW l (varsLeaf u l)) := by
  have hc := c_icontains l u.n hl'
  obtain ⟨kd, s, n, kl⟩ := u
  simp only [B] at hl hl'
  by_cases hne : l = []
  · subst hne
    rw [HsW_nil]
    refine AC.vc hP sh lv70 (HsV_len _) (HsV_live []) (fun x hx => HsV_live _ x (List.mem_of_mem_drop hx)) (Eq.mpr (v70 kd s n (FTs kl) k _ _) ?_)
    refine br_of (fun h => ⟨_, hc.args ⟨le_c (.nils 1), .refl _, trivial⟩, br_of (fun h1 => ⟨by omega, roomN (by omega), ?_⟩) (fun h1 => ?_)⟩) (fun h => ?_)
    · rw [show varsLeaf (.mk kd s n kl) [] = [n] from if_pos (by simp [Tm.k, Tm.n, hasI] at h ⊢; exact h)]
      exact ⟨.refl _, rfl⟩
    · exact absurd h1 (by simp [hasI])
    · rw [show varsLeaf (.mk kd s n kl) [] = [] from if_neg (by intro e; rw [Bool.and_eq_true] at e; rw [show (Tm.k (.mk kd s n kl) == 4) = false from h] at e; cases e.1)]
      exact ⟨.refl _, rfl⟩
  · have hv := HsV_ne hne
    rw [hv]
    have hw : ∀ l', varsLeaf (.mk kd s n kl) l = l' → l' ≠ l → HsW l (varsLeaf (.mk kd s n kl) l) = [.arr 1 [[.a (.osl 2 1 0 l'.length)]], .gone, .arz 1 (IR l')] := fun l' h h' => by rw [h, HsW_more hne h']
    have hsame : varsLeaf (.mk kd s n kl) l = l → HsW l (varsLeaf (.mk kd s n kl) l) = [.arr 1 [[.a (.osl 1 1 0 l.length)]], .arz 1 (IR l)] := fun h => by rw [h, HsW_same, hv]
    have hdic : varsLeaf (.mk kd s n kl) l = l ∨ varsLeaf (.mk kd s n kl) l = l ++ [n] := by unfold varsLeaf; split <;> simp [Tm.n]
    have hlen : 2 ≤ (HsW l (varsLeaf (.mk kd s n kl) l)).length ∧ (1 : Nat) = 1 := by
      rcases hdic with h | h
      · rw [hsame h]; simp
      · rw [hw _ h (by simp)]; simp
    refine AC.vc hP sh lv70 hlen.1 (by simp [isLive]) (by
      rcases hdic with h | h
      · rw [hsame h]; simp
      · rw [hw _ h (by simp)]; simp [isLive]) (Eq.mpr (v70_i1 kd s n (FTs kl) k l.length (IR l) _ _) ?_)
    rw [takeIR]
    refine br_of (fun h => ⟨⟨rfl, by rw [IR_length]; omega⟩, _, hc.args ⟨le_c (.nn _ _ _), .refl _, trivial⟩, rfl, br_of (fun h1 => ⟨by omega, ⟨by rw [IR_length]; omega, roomN (by omega)⟩, ?_⟩) (fun h1 => ?_)⟩) (fun h => ?_)
    · have e : varsLeaf (.mk kd s n kl) l = l ++ [n] := if_pos (by rw [show (Tm.k (.mk kd s n kl) == 4) = true from h]; simpa [Tm.n] using h1)
      rw [hw _ e (by simp), IR_append, List.take_of_length_le (by rw [IR_length]; omega), List.length_append]
      exact ⟨.refl _, rfl⟩
    · rw [hsame (if_neg (by intro e; rw [Bool.and_eq_true] at e; rw [show (!hasI (Tm.n (.mk kd s n kl)) l) = false from h1] at e; cases e.2))]
      exact ⟨.refl _, rfl⟩
    · rw [hsame (if_neg (by intro e; rw [Bool.and_eq_true] at e; rw [show (Tm.k (.mk kd s n kl) == 4) = false from h] at e; cases e.1))]
      exact ⟨.refl _, rfl⟩
end Go.AM

set_option maxRecDepth 100000
open Go Go.Proofs
namespace Go.AM
abbrev tellV : TV := .c (.fn (.func 70) [] [(false, [.ep 0 1 0 0])])
abbrev eV (k by_ : Int) (v : FV) (n i : Int) : Env := [(1, ci k), (2, tellV), (7, ci by_), (27, .c (.a (.fz v))), (28, ci n), (29, ci i)]
/-- The state of the loop where the row was nil before the call. -/
def sV1 (k by_ : Int) (v : FV) (n i : Int) : List Int → St
  | [] => ⟨eV k by_ v n i, [(0, .arr 1 [[.a (.fz .nils)]])], 1⟩
  | x :: l => ⟨eV k by_ v n i, [(0, .arr 1 [[.a (.osl 1 1 0 (x :: l).length)]]), (1, .arz 1 (IR (x :: l)))], 2⟩
theorem l_eachV1 (k by_ : Int) (h0 : 0 ≤ k) (hby : 0 ≤ by_) (hby1 : by_ ≤ 1) (hk : k ≤ 2305843009213693952) : ∀ (b a : List Tm) (v : FV) (acc : List Int), v.ses = FTs (a ++ b) → v.isSl 4 = true →
    (∀ u ∈ b, ∀ acc : List Int, acc.length + u.sz ≤ B → AC Try.prog 66 [aT u, ci (k + by_), tellV] (HsV acc) (.tup []) (HsW acc (varsF u acc))) → (a ++ b).length ≤ B → acc.length + Tm.szs b ≤ B →
    RPt Try.prog 66 1 (.tup []) (HsV (varsL b acc)) 1 (sV1 k by_ v (a ++ b).length a.length acc)
  | [], a, v, acc, hv, hs, _, hl, ha => by
    match acc with
    | [] =>
      refine RPt.vc hP sh lv66 (Eq.mpr (v66_i1_1a ..) ?_)
      exact br_of (fun h => absurd (of_decide_eq_true h) (by simp)) (fun _ => ⟨.refl _, rfl⟩)
    | x :: l =>
      refine RPt.vc hP sh lv66 (Eq.mpr (v66_i1_1c ..) ?_)
      exact br_of (fun h => absurd (of_decide_eq_true h) (by simp)) (fun _ => ⟨.refl _, rfl⟩)
  | t :: b, a, v, acc, hv, hs, ih, hl, ha => by
    have hl' := hl
    simp only [List.length_append, List.length_cons, B] at hl'
    simp only [Tm.szs] at ha
    have h1 := ih t List.mem_cons_self acc (by omega)
    have hlen := varsF_len t acc
    have h2 := l_eachV1 k by_ h0 hby hby1 hk b (a ++ [t]) v (varsF t acc) (by rw [ap]; exact hv) hs (fun u hu => ih u (List.mem_cons_of_mem _ hu)) (by rw [ap]; exact hl) (by omega)
    have h3 := ltI' a t b
    rw [ap, nx] at h2
    rw [varsL]
    obtain ⟨k', s', n', l'⟩ := t
    match acc, h1, h2, hlen with
    | [], h1, h2, _ =>
      refine RPt.vc hP sh lv66 (Eq.mpr (v66_i1_1a ..) ?_)
      rw [hv, midI, w64 (x := (a.length : Int) + 1) (by omega) (by omega), w64 (x := k + by_) (by omega) (by omega)]
      refine br_of (fun _ => ⟨⟨hs, by omega, h3, rfl⟩, ?_⟩) (fun h => absurd (ltI a (Tm.mk k' s' n' l') b) (of_decide_eq_false h))
      rw [HsW_nil] at h1
      generalize varsF (.mk k' s' n' l') [] = acc' at h1 h2 ⊢
      match acc', h1, h2 with
      | [], h1, h2 => exact .inr (.inl ⟨(), h1, h2⟩)
      | y :: m, h1, h2 => exact .inr (.inr (.inl ⟨((y :: m).length, IR (y :: m)), h1, h2⟩))
    | x :: l, h1, h2, _ =>
      refine RPt.vc hP sh lv66 (Eq.mpr (v66_i1_1c ..) ?_)
      rw [hv, midI, w64 (x := (a.length : Int) + 1) (by omega) (by omega), w64 (x := k + by_) (by omega) (by omega)]
      refine br_of (fun _ => ⟨⟨hs, by omega, h3, rfl⟩, ?_⟩) (fun h => absurd (ltI a (Tm.mk k' s' n' l') b) (of_decide_eq_false h))
      obtain ⟨e, he⟩ := varsF_ext (.mk k' s' n' l') (x :: l)
      by_cases hsame : varsF (.mk k' s' n' l') (x :: l) = x :: l
      · rw [hsame, HsW_same] at h1
        rw [hsame] at h2 ⊢
        exact .inr (.inr (.inl ⟨((x :: l).length, IR (x :: l)), h1, h2⟩))
      · rw [HsW_more (by simp) hsame] at h1
        generalize varsF (.mk k' s' n' l') (x :: l) = acc' at h1 h2 he ⊢
        subst he
        exact .inr (.inr (.inr ⟨(((x :: l) ++ e).length, IR ((x :: l) ++ e)), h1, h2⟩))
/-- ... where there was one: it is still there, or another one took its place. -/
theorem l_eachV2b (k by_ : Int) (h0 : 0 ≤ k) (hby : 0 ≤ by_) (hby1 : by_ ≤ 1) (hk : k ≤ 2305843009213693952) (l0 : List Int) (hne : l0 ≠ []) : ∀ (b a : List Tm) (v : FV) (acc : List Int), v.ses = FTs (a ++ b) → v.isSl 4 = true →
    (∀ u ∈ b, ∀ acc : List Int, acc.length + u.sz ≤ B → AC Try.prog 66 [aT u, ci (k + by_), tellV] (HsV acc) (.tup []) (HsW acc (varsF u acc))) → (a ++ b).length ≤ B → acc.length + Tm.szs b ≤ B → l0.length < acc.length →
    RPt Try.prog 66 2 (.tup []) (HsW l0 (varsL b acc)) 1 ⟨eV k by_ v (a ++ b).length a.length, [(0, .arr 1 [[.a (.osl 2 1 0 acc.length)]]), (1, .gone), (2, .arz 1 (IR acc))], 3⟩
  | [], a, v, acc, hv, hs, _, hl, ha, hlt => by
    refine RPt.vc hP sh lv66 (Eq.mpr (v66_i2_1d ..) ?_)
    rw [varsL, HsW_more hne (fun e => by rw [e] at hlt; omega)]
    exact br_of (fun h => absurd (of_decide_eq_true h) (by simp)) (fun _ => ⟨.refl _, rfl⟩)
  | t :: b, a, v, acc, hv, hs, ih, hl, ha, hlt => by
    have hl' := hl
    simp only [List.length_append, List.length_cons, B] at hl'
    simp only [Tm.szs] at ha
    have h1 := ih t List.mem_cons_self acc (by omega)
    have hlen := varsF_len t acc
    obtain ⟨e, he⟩ := varsF_ext t acc
    have h2 := l_eachV2b k by_ h0 hby hby1 hk l0 hne b (a ++ [t]) v (varsF t acc) (by rw [ap]; exact hv) hs (fun u hu => ih u (List.mem_cons_of_mem _ hu)) (by rw [ap]; exact hl) (by omega) (by rw [he, List.length_append]; omega)
    have h3 := ltI' a t b
    have hacc : acc ≠ [] := by intro e; rw [e] at hlt; simp at hlt
    rw [ap, nx] at h2
    rw [varsL]
    obtain ⟨k', s', n', l'⟩ := t
    refine RPt.vc hP sh lv66 (Eq.mpr (v66_i2_1d ..) ?_)
    rw [hv, midI, w64 (x := (a.length : Int) + 1) (by omega) (by omega), w64 (x := k + by_) (by omega) (by omega)]
    refine br_of (fun _ => ⟨⟨hs, by omega, h3, rfl⟩, ?_⟩) (fun h => absurd (ltI a (Tm.mk k' s' n' l') b) (of_decide_eq_false h))
    rw [HsV_ne hacc] at h1
    by_cases hsame : varsF (.mk k' s' n' l') acc = acc
    · rw [hsame, HsW_same, HsV_ne hacc] at h1
      rw [hsame] at h2 ⊢
      exact .inr (.inr (.inl ⟨(acc.length, IR acc), h1, h2⟩))
    · rw [HsW_more hacc hsame] at h1
      exact .inr (.inr (.inr ⟨((varsF (.mk k' s' n' l') acc).length, IR (varsF (.mk k' s' n' l') acc)), h1, h2⟩))
theorem l_eachV2a (k by_ : Int) (h0 : 0 ≤ k) (hby : 0 ≤ by_) (hby1 : by_ ≤ 1) (hk : k ≤ 2305843009213693952) (l0 : List Int) (hne : l0 ≠ []) : ∀ (b a : List Tm) (v : FV), v.ses = FTs (a ++ b) → v.isSl 4 = true →
    (∀ u ∈ b, ∀ acc : List Int, acc.length + u.sz ≤ B → AC Try.prog 66 [aT u, ci (k + by_), tellV] (HsV acc) (.tup []) (HsW acc (varsF u acc))) → (a ++ b).length ≤ B → l0.length + Tm.szs b ≤ B →
    RPt Try.prog 66 2 (.tup []) (HsW l0 (varsL b l0)) 1 ⟨eV k by_ v (a ++ b).length a.length, [(0, .arr 1 [[.a (.osl 1 1 0 l0.length)]]), (1, .arz 1 (IR l0))], 2⟩
  | [], a, v, hv, hs, _, hl, ha => by
    refine RPt.vc hP sh lv66 (Eq.mpr (v66_i2_1a ..) ?_)
    rw [varsL, HsW_same, HsV_ne hne]
    exact br_of (fun h => absurd (of_decide_eq_true h) (by simp)) (fun _ => ⟨.refl _, rfl⟩)
  | t :: b, a, v, hv, hs, ih, hl, ha => by
    have hl' := hl
    simp only [List.length_append, List.length_cons, B] at hl'
    simp only [Tm.szs] at ha
    have h1 := ih t List.mem_cons_self l0 (by omega)
    have hlen := varsF_len t l0
    obtain ⟨e, he⟩ := varsF_ext t l0
    have h3 := ltI' a t b
    have ihb := fun u hu => ih u (List.mem_cons_of_mem t hu)
    have h2 := l_eachV2a k by_ h0 hby hby1 hk l0 hne b (a ++ [t]) v (by rw [ap]; exact hv) hs ihb (by rw [ap]; exact hl) (by omega)
    have h4 := l_eachV2b k by_ h0 hby hby1 hk l0 hne b (a ++ [t]) v (varsF t l0) (by rw [ap]; exact hv) hs ihb (by rw [ap]; exact hl) (by omega)
    rw [ap, nx] at h2 h4
    rw [varsL]
    obtain ⟨k', s', n', l'⟩ := t
    refine RPt.vc hP sh lv66 (Eq.mpr (v66_i2_1a ..) ?_)
    rw [hv, midI, w64 (x := (a.length : Int) + 1) (by omega) (by omega), w64 (x := k + by_) (by omega) (by omega)]
    refine br_of (fun _ => ⟨⟨hs, by omega, h3, rfl⟩, ?_⟩) (fun h => absurd (ltI a (Tm.mk k' s' n' l') b) (of_decide_eq_false h))
    rw [HsV_ne hne] at h1
    by_cases hsame : varsF (.mk k' s' n' l') l0 = l0
    · rw [hsame, HsW_same, HsV_ne hne] at h1
      rw [hsame]
      exact .inr (.inr (.inl ⟨(l0.length, IR l0), h1, h2⟩))
    · have h4 := h4 (by
        rw [he, List.length_append]
        cases e with
        | nil => exact absurd (by simpa using he) hsame
        | cons y e => simp)
      rw [HsW_more hne hsame] at h1
      exact .inr (.inr (.inr ⟨((varsF (.mk k' s' n' l') l0).length, IR (varsF (.mk k' s' n' l') l0)), h1, h4⟩))
theorem HsW_len (l l' : List Int) : (HsV l).length ≤ (HsW l l').length := by
  by_cases h : l = []
  · subst h; rw [HsW_nil]; exact HsV_len l'
  · by_cases h' : l' = l
    · rw [h', HsW_same]; exact Nat.le_refl _
    · rw [HsW_more h h', HsV_ne h]; simp
theorem HsW_live (l l' : List Int) : ∀ x ∈ (HsW l l').drop (HsV l).length, isLive x := by
  by_cases h : l = []
  · subst h; rw [HsW_nil]; exact fun x hx => HsV_live _ x (List.mem_of_mem_drop hx)
  · by_cases h' : l' = l
    · rw [h', HsW_same]; simp
    · rw [HsW_more h h', HsV_ne h]; simp [isLive]
theorem c_eachV : ∀ t : Tm, t.sz ≤ B → ∀ (k : Int) (acc : List Int), 0 ≤ k → k + t.sz ≤ 2305843009213693952 → acc.length + t.sz ≤ B → AC Try.prog 66 [aT t, ci k, tellV] (HsV acc) (.tup []) (HsW acc (varsF t acc)) := by
  refine Tm.ind fun t ih hs k acc h0 h1 ha => ?_
  have hw := c_within t
  have hk := kidsV_ses t
  have hlen := Tm.szs_length t.l
  have hv1 := c_vars1 t k acc (by omega) (by omega)
  obtain ⟨kd, s, n, l⟩ := t
  simp only [Tm.sz, B, Tm.l] at hs hlen ha
  simp only [Tm.sz] at h1
  have ihl : ∀ by_ : Int, 0 ≤ by_ → by_ ≤ 1 → ∀ u ∈ l, ∀ acc : List Int, acc.length + u.sz ≤ B → AC Try.prog 66 [aT u, ci (k + by_), tellV] (HsV acc) (.tup []) (HsW acc (varsF u acc)) := fun by_ hb0 hb1 u hu acc ha => ih u hu (by have := Tm.szs_mem hu; simp only [B]; omega) (k + by_) acc (by omega) (by have := Tm.szs_mem hu; omega) ha
  have leaf : (kd == 5) = false → (kd == 6) = false → varsF (.mk kd s n l) acc = varsLeaf (.mk kd s n l) acc := fun e1 e2 => by rw [varsF, if_neg (by rw [e1, e2]; simp)]
  have inn : (kd == 5 || kd == 6) = true → varsF (.mk kd s n l) acc = varsL l acc := fun e => by rw [varsF, if_pos e]
  have kids : (kd == 5 || kd == 6) = true → Tm.kids (.mk kd s n l) = l := fun e => if_pos e
  by_cases hne : acc = []
  · subst hne
    refine AC.vc hP sh lv66 (HsW_len _ _) (HsV_live _) (HsW_live _ _) (Eq.mpr (v66_i1 kd s n (FTs l) k _ _) ?_)
    have key : ∀ by_ : Int, 0 ≤ by_ → by_ ≤ 1 → Tm.kids (.mk kd s n l) = l → RPt Try.prog 66 1 (.tup []) (HsV (varsL l [])) 1 ⟨eV k by_ (kidsV (.mk kd s n l)) l.length 0, [(0, .arr 1 [[.a (.fz .nils)]])], 1⟩ := by
      intro by_ hb0 hb1 hkids
      exact l_eachV1 k by_ h0 hb0 hb1 (by omega) l [] (kidsV (.mk kd s n l)) [] (by rw [hk.1, hkids]; rfl) hk.2 (ihl by_ hb0 hb1) (by simp only [List.nil_append, B]; omega) (by simp only [B, List.length_nil]; omega)
    rw [HsW_nil]
    refine br_of (fun h => br_of (fun h2 => ?_) (fun h2 => ⟨_, _, hw, hk.2, ?_⟩)) (fun h => ⟨_, _, hw, hk.2, ?_⟩)
    · have e1 : (kd == 5) = false := by simpa using h
      have e2 : (kd == 6) = false := by simpa using h2
      rw [leaf e1 e2]
      rw [HsW_nil] at hv1
      generalize varsLeaf (.mk kd s n l) [] = acc' at hv1 ⊢
      match acc', hv1 with
      | [], hv1 => exact .inl ⟨(), hv1, .refl _, rfl⟩
      | y :: m, hv1 => exact .inr (.inl ⟨((y :: m).length, IR (y :: m)), hv1, .refl _, rfl⟩)
    · have e1 : (kd == 5) = false := by simpa using h
      have e2 : (kd == 6) = true := by simpa using h2
      have hin : (kd == 5 || kd == 6) = true := by rw [e2]; simp
      rw [inn hin, hk.1, kids hin, lenI, show Tm.by (.mk kd s n l) = 0 by unfold Tm.by; simp only [Tm.k, e1, Bool.false_eq_true, if_false]]
      exact key 0 (by omega) (by omega) (kids hin)
    · have e1 : (kd == 5) = true := by simpa using h
      have hin : (kd == 5 || kd == 6) = true := by rw [e1]; simp
      rw [inn hin, hk.1, kids hin, lenI, show Tm.by (.mk kd s n l) = 1 by unfold Tm.by; simp only [Tm.k, e1, if_true]]
      exact key 1 (by omega) (by omega) (kids hin)
  · have hvv := HsV_ne hne
    refine AC.vc hP sh lv66 (HsW_len _ _) (HsV_live _) (HsW_live _ _) ?_
    rw [hvv] at hv1 ⊢
    refine Eq.mpr (v66_i2 kd s n (FTs l) k acc.length (IR acc) _ _) ?_
    have key : ∀ by_ : Int, 0 ≤ by_ → by_ ≤ 1 → Tm.kids (.mk kd s n l) = l → RPt Try.prog 66 2 (.tup []) (HsW acc (varsL l acc)) 1 ⟨eV k by_ (kidsV (.mk kd s n l)) l.length 0, [(0, .arr 1 [[.a (.osl 1 1 0 acc.length)]]), (1, .arz 1 (IR acc))], 2⟩ := by
      intro by_ hb0 hb1 hkids
      exact l_eachV2a k by_ h0 hb0 hb1 (by omega) acc hne l [] (kidsV (.mk kd s n l)) (by rw [hk.1, hkids]; rfl) hk.2 (ihl by_ hb0 hb1) (by simp only [List.nil_append, B]; omega) (by simp only [B]; omega)
    refine br_of (fun h => br_of (fun h2 => ?_) (fun h2 => ⟨_, _, hw, hk.2, ?_⟩)) (fun h => ⟨_, _, hw, hk.2, ?_⟩)
    · have e1 : (kd == 5) = false := by simpa using h
      have e2 : (kd == 6) = false := by simpa using h2
      rw [leaf e1 e2]
      by_cases hsame : varsLeaf (.mk kd s n l) acc = acc
      · rw [hsame, HsW_same, hvv] at hv1 ⊢
        exact .inr (.inl ⟨(acc.length, IR acc), hv1, .refl _, rfl⟩)
      · rw [HsW_more hne hsame] at hv1 ⊢
        exact .inr (.inr ⟨((varsLeaf (.mk kd s n l) acc).length, IR (varsLeaf (.mk kd s n l) acc)), hv1, .refl _, rfl⟩)
    · have e1 : (kd == 5) = false := by simpa using h
      have e2 : (kd == 6) = true := by simpa using h2
      have hin : (kd == 5 || kd == 6) = true := by rw [e2]; simp
      rw [inn hin, hk.1, kids hin, lenI, show Tm.by (.mk kd s n l) = 0 by unfold Tm.by; simp only [Tm.k, e1, Bool.false_eq_true, if_false]]
      exact key 0 (by omega) (by omega) (kids hin)
    · have e1 : (kd == 5) = true := by simpa using h
      have hin : (kd == 5 || kd == 6) = true := by rw [e1]; simp
      rw [inn hin, hk.1, kids hin, lenI, show Tm.by (.mk kd s n l) = 1 by unfold Tm.by; simp only [Tm.k, e1, if_true]]
      exact key 1 (by omega) (by omega) (kids hin)
theorem c_vars (t : Tm) (hs : t.sz ≤ B) : AC Try.prog 24 [aT t] [] (aI (varsF t [])) [] := by
  have h := c_eachV t hs 0 [] (Int.le_refl _) (by simp only [B] at hs; omega) (by simpa using hs)
  rw [HsW_nil] at h
  obtain ⟨k, s, n, l⟩ := t
  refine AC.vc hP sh lv24 (Nat.le_refl _) (by simp) (by simp) (Eq.mpr (v24 k s n (FTs l) _ _) ?_)
  generalize varsF (.mk k s n l) [] = acc at h ⊢
  match acc, h with
  | [], h => exact .inr (.inl ⟨(), h, le_c (.nils 1), rfl⟩)
  | x :: m, h =>
    refine .inr (.inr (.inl ⟨((x :: m).length, IR (x :: m)), h, ⟨rfl, by rw [IR_length]; omega⟩, ?_, rfl⟩))
    rw [takeIR]
    exact le_c (.nn _ _ _)
end Go.AM

set_option maxRecDepth 100000
open Go Go.Proofs
namespace Go.AM
/-! ### The document's answers: letters -/
theorem c_rsmall (c : Int) : AC Try.prog 104 [c8 c] [] (cb (smallB c)) [] := by
  refine AC.vc hP sh lv104 (Nat.le_refl _) (by simp) (by simp) (Eq.mpr (v104 ..) ?_)
  refine br_of (fun h => ret_b ?_) (fun h => ret_b ?_) <;> simp_all [smallB] <;> omega
theorem c_rdigit (c : Int) : AC Try.prog 120 [c8 c] [] (cb (digitB c)) [] := by
  refine AC.vc hP sh lv120 (Nat.le_refl _) (by simp) (by simp) (Eq.mpr (v120 ..) ?_)
  refine br_of (fun h => ret_b ?_) (fun h => ret_b ?_) <;> simp_all [digitB] <;> omega
theorem c_rin (c : Int) : AC Try.prog 105 [c8 c] [] (cb (insideB c)) [] := by
  refine AC.vc hP sh lv105 (Nat.le_refl _) (by simp) (by simp) (Eq.mpr (v105 ..) ?_)
  have key : (decide (c ≥ 65) && decide (c ≤ 90)) = false → (c == 95) = false → smallB c = false → digitB c = false → (c == 39) = insideB c := fun h1 h2 h3 h4 => by
    have e : greatB c = false := by unfold greatB; rw [h2, show (decide (65 ≤ c) && decide (c ≤ 90)) = false from h1]; rfl
    simp only [insideB, h3, h4, e, Bool.false_or]
  have k1 : smallB c = true → true = insideB c := fun h => by simp only [insideB, h, Bool.true_or]
  have k2 : greatB c = true → true = insideB c := fun h => by simp only [insideB, h, Bool.true_or, Bool.or_true]
  have k3 : digitB c = true → true = insideB c := fun h => by simp only [insideB, h, Bool.true_or, Bool.or_true]
  have k4 : (c == 95) = true → greatB c = true := fun h => by unfold greatB; rw [h]; simp
  refine ⟨_, c_rsmall c, br_of (fun h => ret_b (k1 h)) (fun h => br_of (fun h1 => br_of (fun h2 => ret_b (k2 ?_)) (fun h2 => ⟨_, c_rdigit c, br_of (fun h3 => ret_b (k3 h3)) (fun h3 => br_of (fun h4 => ret_b (k2 (k4 h4))) (fun h4 => ret_b (key ?_ h4 h h3)))⟩)) (fun h1 => ⟨_, c_rdigit c, br_of (fun h3 => ret_b (k3 h3)) (fun h3 => br_of (fun h4 => ret_b (k2 (k4 h4))) (fun h4 => ret_b (key ?_ h4 h h3)))⟩))⟩
  · unfold greatB; rw [show decide (65 ≤ c) = true from h1, h2]; rfl
  · rw [h2]; simp
  · rw [h1]; simp
theorem sign_any (c : UInt8) : signB (c.toNat : Int) = signs.any fun x => ((x.toNat : Int) == (c.toNat : Int)) := by
  have key : ∀ n : Fin 256, signB (n.val : Int) = signs.any fun x => ((x.toNat : Int) == (n.val : Int)) := by decide +kernel
  exact key ⟨c.toNat, c.toNat_lt⟩
theorem l_rsign (c : Int) : ∀ (b a : List UInt8), a ++ b = signs → (a.any fun x => ((x.toNat : Int) == c)) = false →
    RPt Try.prog 106 0 (cb (signs.any fun x => ((x.toNat : Int) == c))) [] 1 ⟨[(0, c8 c), (3, ci a.length)], [], 0⟩
  | [], a, hab, ha => by
    rw [List.append_nil] at hab
    subst hab
    refine RPt.vc hP sh lv106 (Eq.mpr (v106_1a ..) ?_)
    exact br_of (fun h => absurd (of_decide_eq_true h) (by decide)) (fun _ => ret_b ha.symm)
  | x :: b, a, hab, ha => by
    have hl : a.length < 16 := by
      have : (a ++ x :: b).length = 16 := by rw [hab]; rfl
      simp at this; omega
    have hg : List.getD signs (Int.toNat (a.length : Int)) 0 = x := by rw [← hab]; exact gD_mid8 a x b
    refine RPt.vc hP sh lv106 (Eq.mpr (v106_1a ..) ?_)
    rw [w64 (x := (a.length : Int) + 1) (by omega) (by omega)]
    refine br_of (fun _ => ⟨⟨by omega, by omega⟩, br_of (fun h => ret_b ?_) (fun h => ?_)⟩) (fun h => absurd (of_decide_eq_false h) (by omega))
    · have h : (((List.getD signs (Int.toNat (a.length : Int)) 0).toNat : Int) == c) = true := h
      rw [hg] at h
      rw [← hab]; simp only [List.any_append, List.any_cons, h, Bool.true_or, Bool.or_true]
    · have h : (((List.getD signs (Int.toNat (a.length : Int)) 0).toNat : Int) == c) = false := h
      rw [hg] at h
      have := l_rsign c b (a ++ [x]) (by rw [ap]; exact hab) (by simp only [List.any_append, List.any_cons, List.any_nil, ha, h, Bool.or_self])
      rw [nx] at this; exact this
theorem c_rsign (c : UInt8) : AC Try.prog 106 [c8 (c.toNat : Int)] [] (cb (signB (c.toNat : Int))) [] := by
  rw [sign_any]
  refine AC.vc hP sh lv106 (Nat.le_refl _) (by simp) (by simp) (Eq.mpr (v106 ..) ?_)
  exact l_rsign _ signs [] rfl rfl
theorem l_risname : ∀ (b a : List UInt8), (a ++ b).length ≤ B → RPt Try.prog 74 0 (cb (b.all fun c => insideB (c.toNat : Int))) [] 1 ⟨[(0, cs (a ++ b)), (3, ci a.length)], [], 0⟩
  | [], a, _ => by
    refine RPt.vc hP sh lv74 (Eq.mpr (v74_1a ..) ?_)
    exact br_of (fun h => absurd (of_decide_eq_true h) (by simp)) (fun _ => ret_b rfl)
  | x :: b, a, hl => by
    have hl' := hl
    simp only [List.length_append, List.length_cons, B] at hl'
    have h2 := l_risname b (a ++ [x]) (by rw [ap]; exact hl)
    rw [ap, nx] at h2
    refine RPt.vc hP sh lv74 (Eq.mpr (v74_1a ..) ?_)
    rw [gD_mid8, w64 (x := (a.length : Int) + 1) (by omega) (by omega)]
    refine br_of (fun _ => ⟨⟨by omega, ltI a x b⟩, _, c_rin _, br_of (fun h => ret_b ?_) (fun h => ?_)⟩) (fun h => absurd (ltI a x b) (of_decide_eq_false h))
    · rw [List.all_cons, show insideB (x.toNat : Int) = false by simpa using h]; rfl
    · rw [List.all_cons, show insideB (x.toNat : Int) = true by simpa using h]; exact h2
theorem c_risname (s : List UInt8) : AC Try.prog 74 [cs s] [] (cb (isName s)) [] := by
  refine AC.vc hP sh lv74 (Nat.le_refl _) (by simp) (by simp) (Eq.mpr (v74 ..) ?_)
  refine br_of (fun h => ret_b ?_) (fun h => br_of (fun h1 => ret_b ?_) (fun h1 => ?_))
  · have h := of_decide_eq_true h
    cases s with
    | nil => rfl
    | cons c s => simp at h; omega
  · have h1 := of_decide_eq_true h1
    have : fitsB s = false := by simp only [fitsB]; rw [show decide ((s.length : Int) ≤ 32) = false by simp; omega]; simp
    simp only [isName, this, Bool.false_and]
  · have h := of_decide_eq_false h
    have h1 := of_decide_eq_false h1
    have hf : fitsB s = true := by
      simp only [fitsB]
      cases s with
      | nil => simp at h
      | cons c s => simp at h1 ⊢; omega
    refine ⟨⟨by omega, by omega⟩, _, c_rsmall _, br_of (fun h2 => ret_b ?_) (fun h2 => ?_)⟩
    · simp only [isName, show smallB ((s.getD 0 0).toNat : Int) = false by simpa using h2, Bool.and_false, Bool.false_and]
    · have := l_risname s [] (by simp only [List.nil_append, B]; omega)
      rw [show isName s = s.all fun c => insideB (c.toNat : Int) by simp only [isName, hf, show smallB ((s.getD 0 0).toNat : Int) = true by simpa using h2, Bool.true_and]]
      exact this
theorem l_rissym (s : List UInt8) : ∀ (b a : List UInt8), a ++ b = s → (s.length ≤ B) →
    RPt Try.prog 75 0 (cb ((b.all fun c => signB (c.toNat : Int)) && decide ((s.length : Int) ≥ 1) && decide ((s.length : Int) ≤ 32))) [] 1 ⟨[(0, cs s), (3, ci a.length)], [], 0⟩
  | [], a, hab, _ => by
    rw [List.append_nil] at hab
    subst hab
    refine RPt.vc hP sh lv75 (Eq.mpr (v75_1a ..) ?_)
    refine br_of (fun h => absurd (of_decide_eq_true h) (by omega)) (fun _ => br_of (fun h => ret_b ?_) (fun h => ret_b ?_))
    · rw [h]; simp
    · rw [h]; simp
  | x :: b, a, hab, hl => by
    have h3 := ltI a x b
    have hg := gD_mid8 a x b
    rw [hab] at h3 hg
    have h2 := l_rissym s b (a ++ [x]) (by rw [ap]; exact hab) hl
    rw [nx] at h2
    simp only [B] at hl
    refine RPt.vc hP sh lv75 (Eq.mpr (v75_1a ..) ?_)
    rw [hg, w64 (x := (a.length : Int) + 1) (by omega) (by omega)]
    refine br_of (fun _ => ⟨⟨by omega, h3⟩, _, c_rsign x, br_of (fun h => ret_b ?_) (fun h => ?_)⟩) (fun h => absurd h3 (of_decide_eq_false h))
    · rw [List.all_cons, show signB (x.toNat : Int) = false by simpa using h]; rfl
    · rw [List.all_cons, show signB (x.toNat : Int) = true by simpa using h]; exact h2
theorem sym_eq (s : List UInt8) : isSym s = (s == [44] || s == [59] || s == [33] || ((s.all fun c => signB (c.toNat : Int)) && decide ((s.length : Int) ≥ 1) && decide ((s.length : Int) ≤ 32))) := by
  match s with
  | [] => rfl
  | [c] =>
    have key : ∀ n : Fin 256, isSym [n.val.toUInt8] = ([n.val.toUInt8] == [44] || [n.val.toUInt8] == [59] || [n.val.toUInt8] == [33] || (([n.val.toUInt8].all fun c => signB (c.toNat : Int)) && decide ((([n.val.toUInt8].length : Nat) : Int) ≥ 1) && decide ((([n.val.toUInt8].length : Nat) : Int) ≤ 32))) := by decide +kernel
    have e : c.toNat.toUInt8 = c := by simp
    have := key ⟨c.toNat, c.toNat_lt⟩
    simp only [e] at this
    exact this
  | c :: d :: s =>
    have h2 : ∀ x : UInt8, ((c :: d :: s : List UInt8) == [x]) = false := fun x => by simp
    simp only [isSym, fitsB, h2, Bool.false_or]
    rw [show (((c :: d :: s).length : Int) == 1) = false by simp; omega, show decide (((c :: d :: s).length : Int) ≥ 1) = true by simp; omega]
    simp [Bool.and_comm]
theorem c_rissym (s : List UInt8) (hl : s.length ≤ B) : AC Try.prog 75 [cs s] [] (cb (isSym s)) [] := by
  rw [sym_eq]
  refine AC.vc hP sh lv75 (Nat.le_refl _) (by simp) (by simp) (Eq.mpr (v75 ..) ?_)
  refine br_of (fun h => ret_b ?_) (fun h => br_of (fun h1 => ret_b ?_) (fun h1 => br_of (fun h2 => ret_b ?_) (fun h2 => ?_)))
  · rw [h]; rfl
  · rw [h, h1]; rfl
  · rw [h, h1, h2]; rfl
  · rw [h, h1, h2, Bool.false_or, Bool.false_or, Bool.false_or]
    exact l_rissym s s [] rfl hl
end Go.AM

set_option maxRecDepth 100000
open Go Go.Proofs
namespace Go.AM
/-! ### The document's answers: terms -/
theorem c_rinner (t : Tm) : AC Try.prog 73 [aT t] [] (cb t.inner) [] := by
  obtain ⟨k, s, n, l⟩ := t
  refine AC.vc hP sh lv73 (Nat.le_refl _) (by simp) (by simp) (Eq.mpr (v73 k s n (FTs l) _ _) ?_)
  refine br_of (fun h => ret_b ?_) (fun h => ret_b ?_)
  · unfold Tm.inner; simp only [Tm.k, h, Bool.true_or]
  · unfold Tm.inner; simp only [Tm.k, h, Bool.false_or]
theorem c_runder (t : Tm) (k : Int) (h0 : 0 ≤ k) (h1 : k ≤ 4611686018427387904) : AC Try.prog 77 [aT t, ci k] [] (ci (k + t.by)) [] := by
  obtain ⟨kd, s, n, l⟩ := t
  refine AC.vc hP sh lv77 (Nat.le_refl _) (by simp) (by simp) (Eq.mpr (v77 kd s n (FTs l) k _ _) ?_)
  rw [w64 (x := k + 1) (by omega) (by omega)]
  refine br_of (fun h => ret_i ?_) (fun h => ret_i ?_)
  · unfold Tm.by; simp only [Tm.k, h, if_true]
  · unfold Tm.by; simp only [Tm.k, h, Bool.false_eq_true, if_false]; omega
/-! Valid. -/
theorem l_rvalid (kd : Int) (s : List UInt8) (n : Int) : ∀ (b a : List Tm) (ok : Bool), (∀ u ∈ b, AC Try.prog 27 [aT u] [] (cb (validB u)) []) → (a ++ b).length ≤ B →
    RPt Try.prog 27 0 (cb (ok && validL b)) [] 3 ⟨[(1, .c (.a (.ep 0 4 0 0))), (3, cb ok), (7, ci a.length)], [(0, .arr 4 [fzs (FT (.mk kd s n (a ++ b)))])], 1⟩
  | [], a, ok, _, _ => by
    refine RPt.vc hP sh lv27 (Eq.mpr (v27_3a ..) ?_)
    exact ⟨rfl, br_of (fun h => absurd (of_decide_eq_true h) (geI' a)) (fun _ => ret_b (by simp [validL]))⟩
  | t :: b, a, ok, ih, hl => by
    refine RPt.vc hP sh lv27 (Eq.mpr (v27_3a ..) ?_)
    have hl' := hl
    simp only [List.length_append, List.length_cons, B] at hl'
    have h1 := ih t List.mem_cons_self
    have h2 := l_rvalid kd s n b (a ++ [t]) (validB t) (fun u hu => ih u (List.mem_cons_of_mem _ hu)) (by rw [ap]; exact hl)
    have h3 := ltI' a t b
    rw [ap, nx] at h2
    rw [midI, w64 (x := (a.length : Int) + 1) (by omega) (by omega)]
    refine ⟨rfl, br_of (fun _ => br_of (fun hk => ?_) (fun hk => ret_b (by rw [hk]; rfl))) (fun h => absurd h3 (of_decide_eq_false h))⟩
    rw [hk, validL, Bool.true_and]
    obtain ⟨k', s', n', l'⟩ := t
    exact ⟨⟨rfl, by omega, h3, rfl⟩, _, h1, h2⟩
theorem c_rvalid : ∀ t : Tm, t.bk ≤ B → AC Try.prog 27 [aT t] [] (cb (validB t)) [] := by
  refine Tm.ind fun t ih hs => ?_
  have hlen := Nat.le_trans (Tm.szs_length t.l) (Tm.szs_bks t.l)
  obtain ⟨k, s, n, l⟩ := t
  simp only [Tm.bk, Tm.l] at hs hlen
  have loop : ∀ ok : Bool, (ok && validL l) = validB (.mk k s n l) → RPt Try.prog 27 0 (cb (validB (.mk k s n l))) [] 3 ⟨[(1, .c (.a (.ep 0 4 0 0))), (3, cb ok), (7, ci 0)], [(0, .arr 4 [fzs (FT (.mk k s n l))])], 1⟩ := fun ok h => by
    have := l_rvalid k s n l [] ok (fun u hu => ih u hu (by have := Tm.bks_mem hu; omega)) (by simp only [List.nil_append]; omega)
    rw [h] at this
    exact this
  refine AC.vc hP sh lv27 (Nat.le_refl _) (by simp) (by simp) (Eq.mpr (v27 k s n (FTs l) _ _) ?_)
  refine br_of (fun h0 => ⟨_, c_risname s, _, c_rissym s (by omega), br_of (fun h1 => br_of (fun h2 => ⟨rfl, ret_b ?_⟩) (fun h2 => ret_b ?_)) (fun h1 => br_of (fun h1' => br_of (fun h2 => ⟨rfl, ret_b ?_⟩) (fun h2 => ret_b ?_)) (fun h1' => ret_b ?_))⟩)
    (fun h0 => br_of (fun h1 => br_of (fun h2 => br_of (fun h3 => ⟨rfl, loop _ ?_⟩) (fun h3 => loop _ ?_)) (fun h2 => loop _ ?_))
    (fun h1 => br_of (fun h2 => br_of (fun h3 => ⟨rfl, loop _ ?_⟩) (fun h3 => loop _ ?_))
    (fun h2 => br_of (fun h3 => br_of (fun h4 => br_of (fun h5 => br_of (fun h6 => ⟨rfl, loop _ ?_⟩) (fun h6 => loop _ ?_)) (fun h5 => loop _ ?_)) (fun h4 => loop _ ?_))
    (fun h3 => br_of (fun h3' => br_of (fun h4 => br_of (fun h5 => br_of (fun h6 => ⟨rfl, loop _ ?_⟩) (fun h6 => loop _ ?_)) (fun h5 => loop _ ?_)) (fun h4 => loop _ ?_))
    (fun h3' => br_of (fun h5 => br_of (fun h6 => br_of (fun h7 => ⟨rfl, loop _ ?_⟩) (fun h7 => loop _ ?_)) (fun h6 => loop _ ?_))
    (fun h5 => br_of (fun h6 => br_of (fun h7 => ⟨rfl, br_of (fun h8 => ?app) (fun h8 => ⟨rfl, loop _ ?_⟩)⟩) (fun h7 => ⟨rfl, loop _ ?_⟩)) (fun h6 => loop _ ?_)))))))
  case app =>
    have h8' := of_decide_eq_true h8
    rw [head0 h8', FT_eta]
    refine ⟨⟨rfl, by omega, by omega, rfl⟩, rfl, br_of (fun h9 => br_of (fun h10 => ⟨rfl, loop _ ?_⟩) (fun h10 => loop _ ?_)) (fun h9 => loop _ ?_)⟩
    all_goals (have h9' : ((l.headD default).k != 6) = _ := h9; clear loop ih hs hlen h9; simp_all [validB])
  all_goals clear loop ih hs hlen
  all_goals first
    | (simp_all [validB]; done)
    | (simp_all [validB]; intros; omega)
/-! Same. -/
theorem l_equalf : ∀ (b a b' a' : List Tm), (∀ u ∈ b, ∀ v : Tm, AC Try.prog 28 [aT u, aT v] [] (cb (sameB u v)) []) → (a ++ b).length ≤ B → a.length = a'.length → b.length = b'.length →
    RPt Try.prog 76 0 (cb (sameL b b')) [] 1 ⟨[(1, aL (a' ++ b')), (2, .c (.fn (.func 28) [] [])), (15, aL (a ++ b)), (16, ci (((FTs (a ++ b)).length : Nat) : Int)), (17, ci a.length)], [], 0⟩
  | [], a, [], a', _, _, _, _ => by
    refine RPt.vc hP sh lv76 (Eq.mpr (v76_1a ..) ?_)
    exact br_of (fun h => absurd (of_decide_eq_true h) (geI' a)) (fun _ => ret_b rfl)
  | t :: b, a, t' :: b', a', ih, hl, ha, hb => by
    refine RPt.vc hP sh lv76 (Eq.mpr (v76_1a ..) ?_)
    have hl' := hl
    simp only [List.length_append, List.length_cons, B] at hl'
    simp only [List.length_cons] at hb
    have h1 := ih t List.mem_cons_self t'
    have h2 := l_equalf b (a ++ [t]) b' (a' ++ [t']) (fun u hu => ih u (List.mem_cons_of_mem _ hu)) (by rw [ap]; exact hl) (by simp [ha]) (by omega)
    have h3 := ltI' a t b
    have h4 := ltI' a' t' b'
    rw [← ha] at h4
    rw [ap, ap, nx] at h2
    rw [midI, midI' a a' ha, w64 (x := (a.length : Int) + 1) (by omega) (by omega)]
    refine br_of (fun _ => ?_) (fun h => absurd h3 (of_decide_eq_false h))
    obtain ⟨k1, s1, n1, l1⟩ := t
    obtain ⟨k2, s2, n2, l2⟩ := t'
    refine ⟨⟨rfl, by omega, h3, rfl⟩, ⟨rfl, by omega, h4, rfl⟩, _, h1, br_of (fun h => ret_b ?_) (fun h => ?_)⟩
    · rw [sameL, show sameB (.mk k1 s1 n1 l1) (.mk k2 s2 n2 l2) = false by simpa using h]; rfl
    · rw [sameL, show sameB (.mk k1 s1 n1 l1) (.mk k2 s2 n2 l2) = true by simpa using h]; exact h2
theorem c_same : ∀ a : Tm, a.sz ≤ B → ∀ b : Tm, AC Try.prog 28 [aT a, aT b] [] (cb (sameB a b)) [] := by
  refine Tm.ind fun a ih hs b => ?_
  have hlen := Tm.szs_length a.l
  obtain ⟨k1, s1, n1, l1⟩ := a
  obtain ⟨k2, s2, n2, l2⟩ := b
  simp only [Tm.sz, Tm.l] at hs hlen
  have he : AC Try.prog 76 [aL l1, aL l2, .c (.fn (.func 28) [] [])] [] (cb (sameL l1 l2)) [] := by
    refine AC.vc hP sh lv76 (Nat.le_refl _) (by simp) (by simp) (Eq.mpr (v76 ..) ?_)
    refine ⟨rfl, rfl, br_of (fun h => ret_b ?_) (fun h => ⟨rfl, ?_⟩)⟩
    · rw [FTs_length, FTs_length] at h
      exact (sameL_len (fun e => by rw [e] at h; simp at h)).symm
    · rw [FTs_length, FTs_length] at h
      exact l_equalf l1 [] l2 [] (fun u hu v => ih u hu (by have := Tm.szs_mem hu; omega) v) (by simp only [List.nil_append]; omega) rfl (by have : (l1.length : Int) = l2.length := by simpa using h
                                                                                                                                             omega)
  refine AC.vc hP sh lv28 (Nat.le_refl _) (by simp) (by simp) (Eq.mpr (v28 k1 s1 n1 (FTs l1) k2 s2 n2 (FTs l2) _ _) ?_)
  refine br_of (fun h => br_of (fun h1 => br_of (fun h2 => ⟨_, he, ret_b ?_⟩) (fun h2 => ret_b ?_)) (fun h1 => ret_b ?_)) (fun h => ret_b ?_)
  all_goals simp only [sameB]
  all_goals simp_all
end Go.AM

set_option maxRecDepth 100000
open Go Go.Proofs
namespace Go.AM
/-! Size, looseness, variables. -/
theorem l_rsize (kd : Int) (s : List UInt8) (n : Int) (is : Bool) : ∀ (b a : List Tm) (acc : Nat), (∀ u ∈ b, AC Try.prog 29 [aT u] [] (ci (sizeF u)) []) → (a ++ b).length ≤ B → acc + sizeL b ≤ 2 * B →
    RPt Try.prog 29 0 (ci ((acc + (if is = true then sizeL b else 0) : Nat) : Int)) [] 1 ⟨[(1, .c (.a (.ep 0 4 0 0))), (3, ci acc), (4, cb is), (5, ci a.length)], [(0, .arr 4 [fzs (FT (.mk kd s n (a ++ b)))])], 1⟩
  | [], a, acc, _, _, _ => by
    refine RPt.vc hP sh lv29 (Eq.mpr (v29_1a ..) ?_)
    exact ⟨rfl, br_of (fun h => absurd (of_decide_eq_true h) (geI' a)) (fun _ => ret_i (by cases is <;> simp [sizeL]))⟩
  | t :: b, a, acc, ih, hl, ha => by
    have hl' := hl
    simp only [List.length_append, List.length_cons, B] at hl'
    simp only [sizeL, B] at ha
    have h1 := ih t List.mem_cons_self
    have h2 := l_rsize kd s n is b (a ++ [t]) (acc + sizeF t) (fun u hu => ih u (List.mem_cons_of_mem _ hu)) (by rw [ap]; exact hl) (by simp only [B]; omega)
    have h3 := ltI' a t b
    rw [ap, nx] at h2
    refine RPt.vc hP sh lv29 (Eq.mpr (v29_1a ..) ?_)
    rw [midI, w64 (x := (a.length : Int) + 1) (by omega) (by omega)]
    refine ⟨rfl, br_of (fun _ => br_of (fun hk => ?_) (fun hk => ret_i (by rw [hk]; simp))) (fun h => absurd h3 (of_decide_eq_false h))⟩
    rw [hk] at h2 ⊢
    rw [if_pos rfl, sizeL, ← Nat.add_assoc]
    rw [if_pos rfl] at h2
    obtain ⟨k', s', n', l'⟩ := t
    refine ⟨⟨rfl, by omega, h3, rfl⟩, _, h1, ?_⟩
    rw [w64 (by omega) (by omega), show (acc : Int) + ((sizeF (.mk k' s' n' l') : Nat) : Int) = ((acc + sizeF (.mk k' s' n' l') : Nat) : Int) by omega]
    exact h2
theorem c_rsize : ∀ t : Tm, t.sz ≤ B → AC Try.prog 29 [aT t] [] (ci (sizeF t)) [] := by
  refine Tm.ind fun t ih hs => ?_
  have hlen := Tm.szs_length t.l
  have hi := c_rinner t
  obtain ⟨k, s, n, l⟩ := t
  simp only [Tm.sz, Tm.l] at hs hlen
  have hsz := sizeL_le l
  have h := l_rsize k s n (Tm.inner (.mk k s n l)) l [] 1 (fun u hu => ih u hu (by have := Tm.szs_mem hu; omega)) (by simp only [List.nil_append]; omega) (by simp only [B] at hs ⊢; omega)
  rw [show 1 + (if Tm.inner (.mk k s n l) = true then sizeL l else 0) = sizeF (.mk k s n l) from rfl] at h
  refine AC.vc hP sh lv29 (Nat.le_refl _) (by simp) (by simp) (Eq.mpr (v29 k s n (FTs l) _ _) ?_)
  exact ⟨_, hi, h⟩
mutual
def looseR : Tm → Int → Int
  | .mk kd _ n l, k => if (kd == 3) = true then maxI 0 (n - k + 1) else if (kd == 5 || kd == 6) = true then looseRL l (k + if (kd == 5) = true then 1 else 0) else 0
def looseRL : List Tm → Int → Int
  | [], _ => 0
  | t :: l, k => maxI (looseR t k) (looseRL l k)
end
theorem maxI_assoc (a b c : Int) : maxI (maxI a b) c = maxI a (maxI b c) := by
  unfold maxI; (repeat' split) <;> omega
theorem maxI0 {a : Int} (h : 0 ≤ a) : maxI a 0 = a := by unfold maxI; split <;> omega
theorem maxI_ge2 (a b : Int) : b ≤ maxI a b := by unfold maxI; split <;> omega
theorem looseRL_ge : ∀ (l : List Tm) (k : Int), 0 ≤ looseRL l k
  | [], _ => Int.le_refl _
  | t :: l, k => by rw [looseRL]; exact Int.le_trans (looseRL_ge l k) (maxI_ge2 _ _)
theorem maxI_ge (a b : Int) : a ≤ maxI a b := by unfold maxI; split <;> omega
mutual
theorem loose_acc : ∀ (t : Tm) (k acc : Int), 0 ≤ acc → looseF t k acc = maxI acc (looseR t k)
  | .mk kd _ n l, k, acc, h => by
    simp only [looseF, looseR]
    by_cases h5 : (kd == 5) = true
    · have e : kd = 5 := by simpa using h5
      subst e
      simp [loose_accs l _ acc h]
    · by_cases h6 : (kd == 6) = true
      · have e : kd = 6 := by simpa using h6
        subst e
        simp [loose_accs l _ acc h]
      · have e5 : (kd == 5) = false := by simpa using h5
        have e6 : (kd == 6) = false := by simpa using h6
        rw [if_neg h5, if_neg h6]
        by_cases h3 : (kd == 3) = true
        · rw [if_pos h3, if_pos h3, ← maxI_assoc, maxI0 h]
        · rw [if_neg h3, if_neg h3, if_neg (by rw [e5, e6]; simp), maxI0 h]
theorem loose_accs : ∀ (l : List Tm) (k acc : Int), 0 ≤ acc → looseL l k acc = maxI acc (looseRL l k)
  | [], _, acc, h => by rw [looseL, looseRL, maxI0 h]
  | t :: l, k, acc, h => by
    have h1 := loose_acc t k acc h
    rw [looseL, looseRL, h1, loose_accs l k _ (Int.le_trans h (maxI_ge _ _)), maxI_assoc]
end
theorem l_rloose (kd : Int) (s : List UInt8) (n : Int) (is : Bool) (k : Int) (h0 : 0 ≤ k) (hk : k ≤ 2305843009213693952) : ∀ (b a : List Tm) (acc : Int), (∀ u ∈ b, AC Try.prog 30 [aT u, ci (k + Tm.by (.mk kd s n []))] [] (ci (looseR u (k + Tm.by (.mk kd s n [])))) []) → (a ++ b).length ≤ B → 0 ≤ acc →
    RPt Try.prog 30 0 (ci (maxI acc (if is = true then looseRL b (k + Tm.by (.mk kd s n [])) else 0))) [] 1 ⟨[(1, ci k), (2, .c (.a (.ep 0 4 0 0))), (5, ci acc), (6, cb is), (7, ci a.length)], [(0, .arr 4 [fzs (FT (.mk kd s n (a ++ b)))])], 1⟩
  | [], a, acc, _, _, ha => by
    refine RPt.vc hP sh lv30 (Eq.mpr (v30_1a ..) ?_)
    exact ⟨rfl, br_of (fun h => absurd (of_decide_eq_true h) (geI' a)) (fun _ => ret_i (by cases is <;> simp [looseRL, maxI0 ha]))⟩
  | t :: b, a, acc, ih, hl, ha => by
    have hl' := hl
    simp only [List.length_append, List.length_cons, B] at hl'
    have h1 := ih t List.mem_cons_self
    have hu := c_runder (.mk kd s n (a ++ t :: b)) k h0 (by omega)
    have h2 := l_rloose kd s n is k h0 hk b (a ++ [t]) (maxI acc (looseR t (k + Tm.by (.mk kd s n [])))) (fun u hu => ih u (List.mem_cons_of_mem _ hu)) (by rw [ap]; exact hl) (Int.le_trans ha (maxI_ge _ _))
    have h3 := ltI' a t b
    rw [ap, nx] at h2
    refine RPt.vc hP sh lv30 (Eq.mpr (v30_1a ..) ?_)
    rw [midI, w64 (x := (a.length : Int) + 1) (by omega) (by omega)]
    refine ⟨rfl, br_of (fun _ => br_of (fun hk => ?_) (fun hk => ret_i (by rw [hk]; simp [maxI0 ha]))) (fun h => absurd h3 (of_decide_eq_false h))⟩
    rw [hk] at h2 ⊢
    rw [if_pos rfl] at h2
    rw [if_pos rfl, looseRL, ← maxI_assoc]
    obtain ⟨k', s', n', l'⟩ := t
    refine ⟨⟨rfl, by omega, h3, rfl⟩, _, hu, _, h1, ?_⟩
    rw [foldMax2]
    exact h2
theorem c_rloose : ∀ t : Tm, t.sz ≤ B → bd 2305843009213693952 t → ∀ k : Int, 0 ≤ k → k + t.sz ≤ 2305843009213693952 → AC Try.prog 30 [aT t, ci k] [] (ci (looseR t k)) [] := by
  refine Tm.ind fun t ih hs hb k h0 h1 => ?_
  have hlen := Tm.szs_length t.l
  have hi := c_rinner t
  obtain ⟨kd, s, n, l⟩ := t
  simp only [Tm.sz, Tm.l] at hs hlen h1
  refine AC.vc hP sh lv30 (Nat.le_refl _) (by simp) (by simp) (Eq.mpr (v30 kd s n (FTs l) k _ _) ?_)
  refine br_of (fun h => ret_i ?_) (fun h => ⟨_, hi, ?_⟩)
  · have := hb.1 (by simpa using h)
    rw [w64 (x := n - k) (by omega) (by omega), w64 (x := n - k + 1) (by omega) (by omega), foldMax2, looseR, if_pos h]
  · have hby : 0 ≤ Tm.by (.mk kd s n []) ∧ Tm.by (.mk kd s n []) ≤ 1 := by unfold Tm.by; split <;> omega
    have := l_rloose kd s n (Tm.inner (.mk kd s n l)) k h0 (by omega) l [] 0 (fun u hu => ih u hu (by have := Tm.szs_mem hu; omega) (bds_mem hb.2 hu) _ (by omega) (by have := Tm.szs_mem hu; omega)) (by simp only [List.nil_append]; omega) (Int.le_refl _)
    rw [show looseR (.mk kd s n l) k = maxI 0 (if Tm.inner (.mk kd s n l) = true then looseRL l (k + Tm.by (.mk kd s n [])) else 0) from ?_]
    · exact this
    · rw [looseR, if_neg (by rw [h]; simp)]
      have e : Tm.by (.mk kd s n []) = if (kd == 5) = true then 1 else 0 := rfl
      rw [e]
      show (if (kd == 5 || kd == 6) = true then _ else _) = maxI 0 (if (kd == 5 || kd == 6) = true then _ else _)
      split
      · have := looseRL_ge l (k + if (kd == 5) = true then 1 else 0)
        unfold maxI; rw [if_pos this]
      · unfold maxI; rfl
end Go.AM
