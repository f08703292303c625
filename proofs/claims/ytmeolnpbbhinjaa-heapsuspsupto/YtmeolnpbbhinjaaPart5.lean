/- A calculus of plain values for the model's code, what the code of each function asks (computed by the kernel), contracts of the functions, and plain laws (part 5). No conditions. -/
import Derived.Test.YtmeolnpbbhinjaaPart4
import Derived.Test.YtmeolnpbbhinjaaShelf
import Derived.Test.YtmeolnpbbhinjaaPart3
import Derived.ProofKit
import Derived.OpenShut
import Derived.JoinedCond
import Derived.WalkKit
import Derived.Test.YtmeolnpbbhinjaaRows
set_option maxRecDepth 100000
open Go Go.Proofs
namespace Go.AM

/-! ### Package lex -/
def smallB (c : Int) : Bool := decide (97 ≤ c) && decide (c ≤ 122)
def greatB (c : Int) : Bool := decide (65 ≤ c) && decide (c ≤ 90) || c == 95
def digitB (c : Int) : Bool := decide (48 ≤ c) && decide (c ≤ 57)
def insideB (c : Int) : Bool := smallB c || greatB c || digitB c || c == 39
def signs : List UInt8 := [43, 45, 42, 47, 60, 62, 61, 38, 124, 94, 126, 64, 35, 36, 63, 58]
def signB (c : Int) : Bool := decide (Lib.indexByte signs c.toNat.toUInt8 ≥ 0)

theorem c_small (c : Int) : AC Try.prog 61 [c8 c] [] (cb (smallB c)) [] := by
  refine AC.vc hP sh lv61 (Nat.le_refl _) (by simp) (by simp) (Eq.mpr (v61 ..) ?_)
  refine br_of (fun h => ret_b ?_) (fun h => ret_b ?_) <;> simp_all [smallB] <;> omega
theorem c_great (c : Int) : AC Try.prog 77 [c8 c] [] (cb (greatB c)) [] := by
  refine AC.vc hP sh lv77 (Nat.le_refl _) (by simp) (by simp) (Eq.mpr (v77 ..) ?_)
  refine br_of (fun h => br_of (fun h => ret_b ?_) (fun h => ret_b ?_)) (fun h => ret_b ?_) <;> simp_all [greatB] <;> omega
theorem c_digit (c : Int) : AC Try.prog 78 [c8 c] [] (cb (digitB c)) [] := by
  refine AC.vc hP sh lv78 (Nat.le_refl _) (by simp) (by simp) (Eq.mpr (v78 ..) ?_)
  refine br_of (fun h => ret_b ?_) (fun h => ret_b ?_) <;> simp_all [digitB] <;> omega
theorem c_inside (c : Int) : AC Try.prog 63 [c8 c] [] (cb (insideB c)) [] := by
  refine AC.vc hP sh lv63 (Nat.le_refl _) (by simp) (by simp) (Eq.mpr (v63 ..) ?_)
  refine ⟨_, c_small c, br_of (fun h => ret_b ?_) (fun h => ⟨_, c_great c, br_of (fun h => ret_b ?_) (fun h => ⟨_, c_digit c, br_of (fun h => ret_b ?_) (fun h => ret_b ?_)⟩)⟩)⟩ <;> simp_all [insideB]
theorem c_lindexbyte (s : List UInt8) (c : Int) : AC Try.prog 83 [cs s, c8 c] [] (ci (Lib.indexByte s c.toNat.toUInt8)) [] :=
  AC.str_u8 (by kernel_rfl) fun w => Try.stringslite_IndexByte ⟨s.toArray⟩ c w
theorem c_indexbyte (s : List UInt8) (c : Int) : AC Try.prog 79 [cs s, c8 c] [] (ci (Lib.indexByte s c.toNat.toUInt8)) [] :=
  AC.str_u8 (by kernel_rfl) fun w => Try.strings_IndexByte ⟨s.toArray⟩ c w
theorem c_sign (c : Int) : AC Try.prog 64 [c8 c] [] (cb (signB c)) [] := by
  refine AC.vc hP sh lv64 (Nat.le_refl _) (by simp) (by simp) (Eq.mpr (v64 ..) ?_)
  exact ⟨_, c_indexbyte _ c, ret_b rfl⟩

/-- How many bytes a text begins with that are such. -/
def runN (p : Int → Bool) : List UInt8 → Nat
  | [] => 0
  | c :: s => if p (c.toNat : Int) then runN p s + 1 else 0
theorem runN_le (p : Int → Bool) : ∀ s : List UInt8, runN p s ≤ s.length
  | [] => Nat.le_refl _
  | c :: s => by have := runN_le p s; simp only [runN, List.length_cons]; split <;> omega
theorem gD_mid8 (a : List UInt8) (c : UInt8) (b : List UInt8) : List.getD (a ++ c :: b) (Int.toNat (a.length : Int)) 0 = c := by simp [List.getD]
theorem l_run_inside : ∀ (b a : List UInt8), (a ++ b).length ≤ B → RPt Try.prog 62 0 (ci ((a.length : Int) + runN insideB b)) [] 1 ⟨[(0, cs (a ++ b)), (1, .c (.fn (.func 63) [] [])), (7, ci (((a ++ b).length : Nat) : Int)), (8, ci a.length)], [], 0⟩
  | [], a, hl => by
    refine RPt.vc hP sh lv62 (Eq.mpr (v62_F63_1a ..) ?_)
    exact br_of (fun h => absurd h (by simp)) (fun _ => ret_i (by simp [runN]))
  | c :: b, a, hl => by
    refine RPt.vc hP sh lv62 (Eq.mpr (v62_F63_1a ..) ?_)
    have hl' := hl
    simp only [List.length_append, List.length_cons, B] at hl'
    refine br_of (fun _ => ⟨⟨by omega, by simp; omega⟩, insideB (c.toNat : Int), ?_, br_of (fun h => ret_i ?_) (fun h => ?_)⟩) (fun h => absurd h (by simp; omega))
    · rw [gD_mid8]; exact c_inside _
    · simp_all [runN]
    · have := l_run_inside b (a ++ [c]) (by simpa using hl)
      rw [w64 (by omega) (by omega)]
      simp only [List.append_assoc, List.cons_append, List.nil_append, List.length_append, List.length_cons, List.length_nil, Int.natCast_add, Int.natCast_one, Int.natCast_zero, Int.zero_add] at this
      simp only [Bool.not_eq_false'] at h
      simp only [runN, h, if_true, List.length_append, List.length_cons, Int.natCast_add, Int.natCast_one]
      rw [show (a.length : Int) + ((runN insideB b : Nat) + 1 : Int) = (a.length : Int) + 1 + (runN insideB b : Nat) by omega]
      exact this
theorem c_run_inside (s : List UInt8) (h : s.length ≤ B) : AC Try.prog 62 [cs s, .c (.fn (.func 63) [] [])] [] (ci (runN insideB s)) [] := by
  refine AC.vc hP sh lv62 (Nat.le_refl _) (by simp) (by simp) (Eq.mpr (v62_F63 ..) ?_)
  have := l_run_inside s [] (by simpa using h)
  simpa using this
theorem l_run_sign : ∀ (b a : List UInt8), (a ++ b).length ≤ B → RPt Try.prog 62 0 (ci ((a.length : Int) + runN signB b)) [] 1 ⟨[(0, cs (a ++ b)), (1, .c (.fn (.func 64) [] [])), (7, ci (((a ++ b).length : Nat) : Int)), (8, ci a.length)], [], 0⟩
  | [], a, hl => by
    refine RPt.vc hP sh lv62 (Eq.mpr (v62_F64_1a ..) ?_)
    exact br_of (fun h => absurd h (by simp)) (fun _ => ret_i (by simp [runN]))
  | c :: b, a, hl => by
    refine RPt.vc hP sh lv62 (Eq.mpr (v62_F64_1a ..) ?_)
    have hl' := hl
    simp only [List.length_append, List.length_cons, B] at hl'
    refine br_of (fun _ => ⟨⟨by omega, by simp; omega⟩, signB (c.toNat : Int), ?_, br_of (fun h => ret_i ?_) (fun h => ?_)⟩) (fun h => absurd h (by simp; omega))
    · rw [gD_mid8]; exact c_sign _
    · simp_all [runN]
    · have := l_run_sign b (a ++ [c]) (by simpa using hl)
      rw [w64 (by omega) (by omega)]
      simp only [List.append_assoc, List.cons_append, List.nil_append, List.length_append, List.length_cons, List.length_nil, Int.natCast_add, Int.natCast_one, Int.natCast_zero, Int.zero_add] at this
      simp only [Bool.not_eq_false'] at h
      simp only [runN, h, if_true, List.length_append, List.length_cons, Int.natCast_add, Int.natCast_one]
      rw [show (a.length : Int) + ((runN signB b : Nat) + 1 : Int) = (a.length : Int) + 1 + (runN signB b : Nat) by omega]
      exact this
theorem c_run_sign (s : List UInt8) (h : s.length ≤ B) : AC Try.prog 62 [cs s, .c (.fn (.func 64) [] [])] [] (ci (runN signB s)) [] := by
  refine AC.vc hP sh lv62 (Nat.le_refl _) (by simp) (by simp) (Eq.mpr (v62_F64 ..) ?_)
  have := l_run_sign s [] (by simpa using h)
  simpa using this

theorem runN_all (p : Int → Bool) : ∀ s : List UInt8, (((runN p s : Nat) : Int) == ((s.length : Nat) : Int)) = s.all fun c => p (c.toNat : Int)
  | [] => rfl
  | c :: s => by
    have ih := runN_all p s
    have := runN_le p s
    simp only [runN, List.all_cons, List.length_cons]
    cases h : p (c.toNat : Int) with
    | true => rw [← ih]; simp only [if_true, Bool.true_and]; rw [Bool.eq_iff_iff]; simp <;> omega
    | false => simp; omega
def fitsB (s : List UInt8) : Bool := !(s == []) && decide ((s.length : Int) ≤ 32)
theorem c_fits (s : List UInt8) : AC Try.prog 60 [cs s] [] (cb (fitsB s)) [] := by
  refine AC.vc hP sh lv60 (Nat.le_refl _) (by simp) (by simp) (Eq.mpr (v60 ..) ?_)
  refine br_of (fun h => ret_b ?_) (fun h => ret_b ?_) <;> simp_all [fitsB]
/-- A name. -/
def isName (s : List UInt8) : Bool := fitsB s && smallB ((s.getD 0 0).toNat : Int) && s.all fun c => insideB (c.toNat : Int)
theorem fits_le {s : List UInt8} (h : fitsB s = true) : 0 < s.length ∧ s.length ≤ 32 := by
  simp only [fitsB, Bool.and_eq_true, Bool.not_eq_true', decide_eq_true_eq] at h
  refine ⟨?_, by omega⟩
  cases s with
  | nil => simp at h
  | cons c s => simp
theorem c_isname (s : List UInt8) : AC Try.prog 37 [cs s] [] (cb (isName s)) [] := by
  refine AC.vc hP sh lv37 (Nat.le_refl _) (by simp) (by simp) (Eq.mpr (v37 ..) ?_)
  refine ⟨_, c_fits s, br_of (fun h => ⟨⟨by omega, by have := fits_le h; omega⟩, _, c_small _, br_of (fun h2 => ⟨_, c_run_inside s (by have := fits_le h; simp only [B]; omega), ret_b ?_⟩) (fun h2 => ret_b ?_)⟩) (fun h => ret_b ?_)⟩
  · rw [runN_all]; simp only [isName, h, h2, Bool.true_and]
  · simp only [isName, h, h2, Bool.and_false, Bool.false_and]
  · simp only [isName, h, Bool.false_and]
def singles : List UInt8 := [44, 59, 33]
theorem c_contains1 (s : List UInt8) (c : UInt8) (hs : s.length ≤ B) : AC Try.prog 65 [cs s, cs [c]] [] (cb (decide (Lib.indexByte s c ≥ 0))) [] := by
  have hb : (c.toNat : Int).toNat.toUInt8 = c := by simp
  have h1 : AC Try.prog 84 [cs s, cs [c]] [] (ci (if [c] == s then 0 else Lib.indexByte s c)) [] := by
    refine AC.vc hP sh lv84 (Nat.le_refl _) (by simp) (by simp) (Eq.mpr (v84 ..) ?_)
    refine br_of (fun h => absurd h (by simp)) (fun _ => br_of (fun h => ret_i (by simp [h])) (fun h => br_of (fun _ => ⟨⟨by omega, by simp⟩, _, c_lindexbyte s _, ret_i ?_⟩) (fun h2 => absurd h2 (by simp))))
    rw [h]
    simp
  have h2 : AC Try.prog 80 [cs s, cs [c]] [] (ci (if [c] == s then 0 else Lib.indexByte s c)) [] := by
    refine AC.vc hP sh lv80 (Nat.le_refl _) (by simp) (by simp) (Eq.mpr (v80 ..) ?_)
    exact ⟨_, h1, ret_i rfl⟩
  refine AC.vc hP sh lv65 (Nat.le_refl _) (by simp) (by simp) (Eq.mpr (v65 ..) ?_)
  refine ⟨_, h2, ret_b ?_⟩
  by_cases e : [c] = s
  · subst e
    simp [Lib.indexByte]
  · have : ([c] == s) = false := by simpa using e
    rw [this]; simp
def isSym (s : List UInt8) : Bool := fitsB s && ((s.all fun c => signB (c.toNat : Int)) || ((s.length : Int) == 1 && decide (Lib.indexByte singles (s.getD 0 0) ≥ 0)))
theorem c_issym (s : List UInt8) : AC Try.prog 38 [cs s] [] (cb (isSym s)) [] := by
  refine AC.vc hP sh lv38 (Nat.le_refl _) (by simp) (by simp) (Eq.mpr (v38 ..) ?_)
  refine ⟨_, c_fits s, br_of (fun h => ⟨_, c_run_sign s (by have := fits_le h; simp only [B]; omega), br_of (fun h2 => ret_b ?_) (fun h2 => br_of (fun h3 => ?_) (fun h3 => ret_b ?_))⟩) (fun h => ret_b ?_)⟩
  · rw [runN_all] at h2; simp only [isSym, h, h2, Bool.true_and, Bool.true_or]
  · rw [runN_all] at h2
    match s, h3 with
    | [c], h3 =>
      refine ⟨_, c_contains1 singles c (by simp [singles, B]), ret_b ?_⟩
      simp only [isSym, h, h2, h3, Bool.true_and, Bool.false_or, List.getD_cons_zero]
    | [], h3 => simp at h3
    | _ :: _ :: _, h3 => simp at h3; omega
  · rw [runN_all] at h2; simp only [isSym, h, h2, h3, Bool.false_and, Bool.false_or, Bool.and_false]
  · simp only [isSym, h, Bool.false_and]

end Go.AM

set_option maxRecDepth 100000
open Go Go.Proofs
namespace Go.AM

/-! ### What is looked at -/
mutual
def near (most : Int) : Tm → Bool
  | .mk k _ n l => !(k != 2 && (decide (n > most) || decide (n < 0 - most))) && nears most l
def nears (most : Int) : List Tm → Bool
  | [] => true
  | t :: l => near most t && nears most l
end
theorem l_near (most : Int) (k : Int) (s : List UInt8) (n : Int) : ∀ (b a : List Tm), (∀ u ∈ b, AC Try.prog 9 [aT u, ci most] [] (cb (near most u)) []) → (a ++ b).length ≤ B →
    RPt Try.prog 9 0 (cb (nears most b)) [] 1 ⟨[(1, ci most), (2, (.c (.a (.ep 0 4 0 0)))), (5, ci a.length)], [(0, (.arr 4 [fzs (FT (.mk k s n (a ++ b)))]))], 1⟩
  | [], a, _, hl => by
    refine RPt.vc hP sh lv9 (Eq.mpr (v9_1a ..) ?_)
    exact ⟨rfl, br_of (fun h => absurd (of_decide_eq_true h) (geI' a)) (fun _ => ret_b rfl)⟩
  | t :: b, a, ih, hl => by
    refine RPt.vc hP sh lv9 (Eq.mpr (v9_1a ..) ?_)
    have hl' := hl
    simp only [List.length_append, List.length_cons, B] at hl'
    refine ⟨rfl, br_of (fun _ => ?_) (fun h => absurd (ltI' a t b) (of_decide_eq_false h))⟩
    have h1 := ih t List.mem_cons_self
    have h2 := l_near most k s n b (a ++ [t]) (fun u hu => ih u (List.mem_cons_of_mem _ hu)) (by rw [ap]; exact hl)
    have h3 := ltI' a t b
    rw [ap, nx] at h2
    rw [midI, w64 (by omega) (by omega)]
    obtain ⟨k', s', n', l'⟩ := t
    refine ⟨⟨rfl, by omega, h3, rfl⟩, _, h1, br_of (fun h => ret_b ?_) (fun h => ?_)⟩
    · simp_all [nears]
    · simp only [nears, show near most (.mk k' s' n' l') = true by simpa using h, Bool.true_and]; exact h2
theorem c_near (most : Int) (h0 : 0 ≤ most) (h1 : most ≤ 4611686018427387904) : ∀ t : Tm, t.sz ≤ B → AC Try.prog 9 [aT t, ci most] [] (cb (near most t)) [] := by
  refine Tm.ind fun t ih hs => ?_
  obtain ⟨k, s, n, l⟩ := t
  have hl := Tm.szs_length l
  simp only [Tm.sz, B] at hs
  refine AC.vc hP sh lv9 (Nat.le_refl _) (by simp) (by simp) (Eq.mpr (v9 k s n (FTs l) most _ _) ?_)
  have key := l_near most k s n l [] (fun u hu => ih u hu (by have := Tm.szs_mem hu; simp only [B]; omega)) (by simp only [List.nil_append, B]; omega)
  rw [w64 (by omega) (by omega)]
  rw [near]
  refine br_of (fun h => br_of (fun h2 => ret_b ?_) (fun h2 => br_of (fun h3 => ret_b ?_) (fun h3 => ?_))) (fun h => ?_)
  · simp only [h, h2, Bool.true_or, Bool.and_true, Bool.not_true, Bool.false_and]
  · simp only [h, h3, Bool.or_true, Bool.and_true, Bool.not_true, Bool.false_and]
  · simp only [h2, h3, Bool.or_false, Bool.and_false, Bool.not_false, Bool.true_and]; exact key
  · simp only [h, Bool.false_and, Bool.not_false, Bool.true_and]; exact key

mutual
def leftF : Tm → Int → Int
  | .mk _ _ _ l, most => leftL l (most - 1)
def leftL : List Tm → Int → Int
  | [], n => n
  | t :: l, n => if n ≥ 0 then leftL l (leftF t n) else n
end
mutual
theorem leftF_le : ∀ (t : Tm) (n : Int), leftF t n ≤ n - 1 ∧ (0 ≤ n → -1 ≤ leftF t n)
  | .mk _ _ _ l, n => by
    have h := leftL_le l (n - 1)
    simp only [leftF]
    exact ⟨h.1, fun hn => h.2 (by omega)⟩
theorem leftL_le : ∀ (l : List Tm) (n : Int), leftL l n ≤ n ∧ (-1 ≤ n → -1 ≤ leftL l n)
  | [], n => by simp [leftL]
  | t :: l, n => by
    have h1 := leftF_le t n
    have h2 := leftL_le l (leftF t n)
    simp only [leftL]
    split
    · rename_i h; exact ⟨by omega, fun _ => h2.2 (h1.2 h)⟩
    · exact ⟨Int.le_refl _, fun h => h⟩
end
theorem l_left (k : Int) (s : List UInt8) (n : Int) : ∀ (b a : List Tm) (m : Int), (∀ u ∈ b, ∀ m : Int, 0 ≤ m → m ≤ 4611686018427387904 → AC Try.prog 28 [aT u, ci m] [] (ci (leftF u m)) []) → (a ++ b).length ≤ B → m ≤ 4611686018427387904 →
    RPt Try.prog 28 0 (ci (leftL b m)) [] 1 ⟨[(2, (.c (.a (.ep 0 4 0 0)))), (5, ci m), (6, ci a.length)], [(0, (.arr 4 [fzs (FT (.mk k s n (a ++ b)))]))], 1⟩
  | [], a, m, _, hl, hm => by
    refine RPt.vc hP sh lv28 (Eq.mpr (v28_1a ..) ?_)
    exact ⟨rfl, br_of (fun h => absurd (of_decide_eq_true h) (geI' a)) (fun _ => ret_i rfl)⟩
  | t :: b, a, m, ih, hl, hm => by
    refine RPt.vc hP sh lv28 (Eq.mpr (v28_1a ..) ?_)
    have hl' := hl
    simp only [List.length_append, List.length_cons, B] at hl'
    refine ⟨rfl, br_of (fun _ => br_of (fun hm0 => ?_) (fun hm0 => ret_i ?_)) (fun h => absurd (ltI' a t b) (of_decide_eq_false h))⟩
    · have hm0 := of_decide_eq_true hm0
      have h1 := ih t List.mem_cons_self m hm0 hm
      have hle := leftF_le t m
      have h2 := l_left k s n b (a ++ [t]) (leftF t m) (fun u hu => ih u (List.mem_cons_of_mem _ hu)) (by rw [ap]; exact hl) (by omega)
      have h3 := ltI' a t b
      rw [ap, nx] at h2
      rw [midI, w64 (by omega) (by omega)]
      simp only [leftL, hm0, if_true]
      obtain ⟨k', s', n', l'⟩ := t
      exact ⟨⟨rfl, by omega, h3, rfl⟩, _, h1, h2⟩
    · have hm0 := of_decide_eq_false hm0
      simp only [leftL, hm0, if_false]
theorem c_left : ∀ t : Tm, t.sz ≤ B → ∀ m : Int, 0 ≤ m → m ≤ 4611686018427387904 → AC Try.prog 28 [aT t, ci m] [] (ci (leftF t m)) [] := by
  refine Tm.ind fun t ih hs m h0 h1 => ?_
  obtain ⟨k, s, n, l⟩ := t
  have hl := Tm.szs_length l
  simp only [Tm.sz, B] at hs
  refine AC.vc hP sh lv28 (Nat.le_refl _) (by simp) (by simp) (Eq.mpr (v28 k s n (FTs l) m _ _) ?_)
  rw [w64 (by omega) (by omega)]
  exact l_left k s n l [] (m - 1) (fun u hu => ih u hu (by have := Tm.szs_mem hu; simp only [B]; omega)) (by simp only [List.nil_append, B]; omega) (by omega)
def large (t : Tm) (most : Int) : Bool := decide (leftF t most < 0)
theorem c_large (t : Tm) (hs : t.sz ≤ B) (m : Int) (h0 : 0 ≤ m) (h1 : m ≤ 4611686018427387904) : AC Try.prog 8 [aT t, ci m] [] (cb (large t m)) [] := by
  have h := c_left t hs m h0 h1
  obtain ⟨k, s, n, l⟩ := t
  refine AC.vc hP sh lv8 (Nat.le_refl _) (by simp) (by simp) (Eq.mpr (v8 k s n (FTs l) m _ _) ?_)
  exact ⟨_, h, ret_b rfl⟩

mutual
def longB : Tm → Bool
  | .mk _ s _ l => decide (60 < (s.length : Int)) || longL l
def longL : List Tm → Bool
  | [] => false
  | t :: l => longB t || longL l
end
def overB (t : Tm) : Bool := large t 80 || longB t || !near 1099511627776 t
def rowL (l : List Tm) : Bool := decide ((l.length : Int) > 8) || l.any overB
/-! ### The same -/
mutual
def sameB : Tm → Tm → Bool
  | .mk k s n l, .mk k' s' n' l' => k == k' && (s == s' && (n == n' && sameL l l'))
def sameL : List Tm → List Tm → Bool
  | [], [] => true
  | t :: l, u :: m => sameB t u && sameL l m
  | _, _ => false
end
mutual
theorem sameB_iff : ∀ a b : Tm, sameB a b = true ↔ a = b
  | .mk k s n l, .mk k' s' n' l' => by simp only [sameB, Bool.and_eq_true, beq_iff_eq, Tm.mk.injEq, sameL_iff l l']
theorem sameL_iff : ∀ a b : List Tm, sameL a b = true ↔ a = b
  | [], [] => by simp [sameL]
  | t :: l, u :: m => by simp only [sameL, Bool.and_eq_true, List.cons.injEq, sameB_iff t u, sameL_iff l m]
  | [], _ :: _ => by simp [sameL]
  | _ :: _, [] => by simp [sameL]
end
theorem sameL_len : ∀ {a b : List Tm}, a.length ≠ b.length → sameL a b = false
  | [], [], h => absurd rfl h
  | t :: l, u :: m, h => by simp only [sameL, sameL_len (a := l) (b := m) (fun e => h (by simp [e])), Bool.and_false]
  | [], _ :: _, _ => rfl
  | _ :: _, [], _ => rfl
theorem l_same (k : Int) (s : List UInt8) (n : Int) (k' : Int) (s' : List UInt8) (n' : Int) : ∀ (b a b' a' : List Tm), (∀ u ∈ b, ∀ v ∈ b', AC Try.prog 16 [aT u, aT v] [] (cb (sameB u v)) []) → (a ++ b).length ≤ B → a.length = a'.length → b.length = b'.length →
    RPt Try.prog 16 0 (cb (sameL b b')) [] 1 ⟨[(2, (.c (.a (.ep 0 4 0 0)))), (3, (.c (.a (.ep 1 4 0 0)))), (5, ci a.length)], [(0, (.arr 4 [fzs (FT (.mk k s n (a ++ b)))])), (1, (.arr 4 [fzs (FT (.mk k' s' n' (a' ++ b')))]))], 2⟩
  | [], a, [], a', _, hl, _, _ => by
    refine RPt.vc hP sh lv16 (Eq.mpr (v16_1a ..) ?_)
    exact ⟨rfl, br_of (fun h => absurd (of_decide_eq_true h) (geI' a)) (fun _ => ret_b rfl)⟩
  | t :: b, a, u :: b', a', ih, hl, ha, hb => by
    refine RPt.vc hP sh lv16 (Eq.mpr (v16_1a ..) ?_)
    have hl' := hl
    simp only [List.length_append, List.length_cons, B] at hl'
    refine ⟨rfl, br_of (fun _ => ?_) (fun h => absurd (ltI' a t b) (of_decide_eq_false h))⟩
    have h1 := ih t List.mem_cons_self u List.mem_cons_self
    have h2 := l_same k s n k' s' n' b (a ++ [t]) b' (a' ++ [u]) (fun x hx y hy => ih x (List.mem_cons_of_mem _ hx) y (List.mem_cons_of_mem _ hy)) (by rw [ap]; exact hl) (by simp [ha]) (by simpa using hb)
    have h3 := ltI' a t b
    have h4 := ltI' a' u b'
    rw [← ha] at h4
    rw [ap, ap, nx] at h2
    rw [midI, midI' a a' ha, w64 (by omega) (by omega)]
    obtain ⟨k1, s1, n1, l1⟩ := t
    obtain ⟨k2, s2, n2, l2⟩ := u
    refine ⟨⟨rfl, by omega, h3, rfl⟩, ⟨rfl, by omega, h4, rfl⟩, _, h1, br_of (fun h => ret_b ?_) (fun h => ?_)⟩
    · rw [sameL, show sameB (.mk k1 s1 n1 l1) (.mk k2 s2 n2 l2) = false by simpa using h, Bool.false_and]
    · rw [sameL, show sameB (.mk k1 s1 n1 l1) (.mk k2 s2 n2 l2) = true by simpa using h, Bool.true_and]; exact h2
theorem c_rsame : ∀ a : Tm, a.sz ≤ B → ∀ b : Tm, AC Try.prog 16 [aT a, aT b] [] (cb (sameB a b)) [] := by
  refine Tm.ind fun a ih hs b => ?_
  obtain ⟨k, s, n, l⟩ := a
  obtain ⟨k', s', n', l'⟩ := b
  have hl := Tm.szs_length l
  simp only [Tm.sz, B] at hs
  refine AC.vc hP sh lv16 (Nat.le_refl _) (by simp) (by simp) (Eq.mpr (v16 k s n (FTs l) k' s' n' (FTs l') _ _) ?_)
  have key := fun he => l_same k s n k' s' n' l [] l' [] (fun u hu v _ => ih u hu (by have := Tm.szs_mem hu; simp only [B]; omega) v) (by simp only [List.nil_append, B]; omega) rfl he
  rw [lenI, lenI]
  refine br_of (fun h => ret_b ?_) (fun h => br_of (fun h2 => ret_b ?_) (fun h2 => br_of (fun h3 => ret_b ?_) (fun h3 => ⟨rfl, rfl, br_of (fun h4 => ret_b ?_) (fun h4 => ?_)⟩)))
  · simp only [sameB, show (k == k') = false by simpa using h, Bool.false_and]
  · simp only [sameB, show (s == s') = false by simpa using h2, Bool.false_and, Bool.and_false]
  · simp only [sameB, show (n == n') = false by simpa using h3, Bool.false_and, Bool.and_false]
  · rw [sameB, sameL_len (by intro e; simp [e] at h4)]; simp
  · simp only [sameB, show (k == k') = true by simpa using h, show (s == s') = true by simpa using h2, show (n == n') = true by simpa using h3, Bool.true_and]
    exact key (by have : (l.length : Int) = l'.length := by simpa using h4
                  omega)

/-! ### What is within; how large -/
def Tm.inner (t : Tm) : Bool := t.k == 5 || t.k == 6
def Tm.kids (t : Tm) : List Tm := if t.inner = true then t.l else []
def Tm.by (t : Tm) : Int := if t.k == 5 then 1 else 0

end Go.AM

set_option maxRecDepth 100000
open Go Go.Proofs
namespace Go.AM

/-! ### What is within -/
def kidsV (t : Tm) : FV := if t.inner = true then .sl false 4 (FTs t.l) else .nils
theorem kidsV_ses (t : Tm) : (kidsV t).ses = FTs t.kids ∧ (kidsV t).isSl 4 = true := by
  unfold kidsV Tm.kids
  split <;> exact ⟨rfl, rfl⟩
mutual
def sizeF : Tm → Nat
  | .mk k _ _ l => 1 + if (k == 5 || k == 6) = true then sizeL l else 0
def sizeL : List Tm → Nat
  | [] => 0
  | t :: l => sizeF t + sizeL l
end
theorem sizeF_eq (t : Tm) : sizeF t = 1 + sizeL t.kids := by
  obtain ⟨k, s, n, l⟩ := t
  by_cases h : (k == 5 || k == 6) = true
  · rw [show Tm.kids (.mk k s n l) = l from if_pos h, sizeF, if_pos h]
  · rw [show Tm.kids (.mk k s n l) = [] from if_neg h, sizeF, if_neg h]; rfl
mutual
theorem sizeF_le : ∀ t : Tm, sizeF t ≤ t.sz
  | .mk k s n l => by have := sizeL_le l; simp only [sizeF, Tm.sz]; split <;> omega
theorem sizeL_le : ∀ l : List Tm, sizeL l ≤ Tm.szs l
  | [] => Nat.le_refl _
  | t :: l => by have := sizeF_le t; have := sizeL_le l; simp only [sizeL, Tm.szs]; omega
end
/-! ### How loose -/
mutual
/-- Numbers of what is bound, up to M. -/
def bd (M : Int) : Tm → Prop
  | .mk k _ n l => (k = 3 → 0 - M ≤ n ∧ n ≤ M) ∧ bds M l
def bds (M : Int) : List Tm → Prop
  | [] => True
  | t :: l => bd M t ∧ bds M l
end
theorem bds_mem {M : Int} : ∀ {l : List Tm} {t : Tm}, bds M l → t ∈ l → bd M t
  | x :: l, t, h, ht => by
    rcases List.mem_cons.1 ht with rfl | ht
    · exact h.1
    · exact bds_mem h.2 ht
theorem bd_l {M : Int} {t : Tm} (h : bd M t) : bds M t.l := by cases t; exact h.2
def maxI (a b : Int) : Int := if a ≤ b then b else a
theorem foldMax2 (a b : Int) : foldMax [a, b] = maxI a b := by
  simp only [foldMax, List.foldl, maxI, max, maxOfLe]
mutual
def looseF : Tm → Int → Int → Int
  | .mk kd _ n l, k, acc => if (kd == 5) = true then looseL l (k + 1) acc else if (kd == 6) = true then looseL l k acc else if (kd == 3) = true then maxI acc (n - k + 1) else acc
def looseL : List Tm → Int → Int → Int
  | [], _, acc => acc
  | t :: l, k, acc => looseL l k (looseF t k acc)
end
abbrev obj1 (n : Int) : AObj := .arr 1 [[.a (.fz (.int .i64 n))]]
end Go.AM

set_option maxRecDepth 100000
open Go Go.Proofs
namespace Go.AM

/-! ### Rows put together -/
theorem c_grow (n : Int) (h0 : 0 ≤ n) (h1 : n ≤ 2199023255552) : (n = 0 → AC Try.prog 81 [.c (.a (.fz .nils)), ci n] [] (.c (.a (.fz .nils))) []) ∧
    (n ≠ 0 → AC Try.prog 81 [.c (.a (.fz .nils)), ci n] [] (.c (.a (.osl 0 4 0 0))) [.arz 4 []]) := by
  constructor
  · intro hn
    refine AC.vc hP sh lv81 (Nat.le_refl _) (by simp) (by simp) (Eq.mpr (v81 ..) ?_)
    refine br_of (fun h => absurd (of_decide_eq_true h) (by omega)) (fun _ => ⟨rfl, br_of (fun h => ?_) (fun _ => ret_r (.refl _))⟩)
    rw [w64 (by omega) (by omega)] at h
    exact absurd (of_decide_eq_true h) (by omega)
  · intro hn
    refine AC.vc hP sh lv81 (by simp) (by simp) (by simp [isLive]) (Eq.mpr (v81 ..) ?_)
    rw [w64 (by omega) (by omega)]
    refine br_of (fun h => absurd (of_decide_eq_true h) (by omega)) (fun _ => ⟨rfl, br_of (fun h => ⟨rfl, ⟨by omega, by omega, by omega⟩, ⟨by omega, by unfold roomB; omega⟩, rfl, ⟨by omega, by omega, by omega⟩, .refl _, rfl⟩) (fun h => absurd (of_decide_eq_false h) (by omega))⟩)
/-- Rows of rows. -/
def FLs (ls : List (List Tm)) : List (List FV) := ls.map fun l => [.sl false 4 (FTs l)]
def total (ls : List (List Tm)) : Nat := (ls.map List.length).foldr (· + ·) 0
theorem FLs_length (ls : List (List Tm)) : (FLs ls).length = ls.length := by simp [FLs]
theorem midL (a : List (List Tm)) (l : List Tm) (b : List (List Tm)) : List.getD (FLs (a ++ l :: b)) (Int.toNat (a.length : Int)) [] = [.sl false 4 (FTs l)] := by
  rw [show Int.toNat (a.length : Int) = a.length by omega]
  simp [List.getD, FLs]
theorem ltL (a : List (List Tm)) (t : List Tm) (b : List (List Tm)) : (a.length : Int) < (((FLs (a ++ t :: b)).length : Nat) : Int) := by rw [FLs_length]; exact ltI a t b
theorem total_mid (a : List (List Tm)) (l : List Tm) (b : List (List Tm)) : total (a ++ l :: b) = total a + l.length + total b := by
  induction a with
  | nil => simp [total]
  | cons x a ih => simp only [total, List.cons_append, List.map_cons, List.foldr_cons] at ih ⊢; omega
theorem total_snoc (a : List (List Tm)) (l : List Tm) : total (a ++ [l]) = total a + l.length := by rw [total_mid]; simp [total]
abbrev aLs (ls : List (List Tm)) : TV := .c (.a (.fz (.sl false 1 (FLs ls))))
theorem roomI {n : Nat} (h : n ≤ 2199023255552) : roomB n 56 := by unfold roomB; omega
theorem l_cat3 : ∀ (b a : List (List Tm)) (acc : List Tm), acc.length + total b ≤ 2199023255552 → (a ++ b).length ≤ B →
    RPt Try.prog 72 0 (aL (acc ++ b.flatten)) [] 5 ⟨[(6, (.c (.a (.osl 0 4 0 acc.length)))), (25, aLs (a ++ b)), (26, ci (a ++ b).length), (27, ci a.length)], [(0, (.arz 4 (FTs acc)))], 1⟩
  | [], a, acc, ht, hl => by
    refine RPt.vc hP sh lv72 (Eq.mpr (v72_5b ..) ?_)
    refine br_of (fun h => absurd (of_decide_eq_true h) (by simp)) (fun _ => ⟨⟨rfl, by rw [FTs_length]; omega⟩, ret_r ?_⟩)
    rw [List.drop_zero, List.take_of_length_le (by rw [FTs_length]; omega), List.flatten_nil, List.append_nil]
    exact le_c leSl
  | l :: b, a, acc, ht, hl => by
    refine RPt.vc hP sh lv72 (Eq.mpr (v72_5b ..) ?_)
    have hl' := hl
    have h3 := ltL a l b
    simp only [List.length_append, List.length_cons, B] at hl'
    have ht' : acc.length + (l.length + total b) ≤ 2199023255552 := by simpa [total] using ht
    have h2 := l_cat3 b (a ++ [l]) (acc ++ l) (by rw [List.length_append]; omega) (by rw [ap]; exact hl)
    rw [ap, nx] at h2
    rw [midL, w64 (by omega) (by omega)]
    refine br_of (fun _ => ⟨⟨rfl, by omega, h3, rfl⟩, rfl, ⟨by rw [FTs_length]; omega, ?_⟩, ?_⟩) (fun h => absurd (ltI a l b) (of_decide_eq_false h))
    · show roomB (acc.length + (FTs l).length) 56
      rw [FTs_length]; exact roomI (by omega)
    · show RPt _ _ _ _ _ _ ⟨[(6, (.c (.a (.osl 0 4 0 (acc.length + (FTs l).length))))), _, _, _], [(0, .arz 4 (List.take acc.length (FTs acc) ++ FTs l))], 1⟩
      rw [List.take_of_length_le (by rw [FTs_length]; omega), ← FTs_append, FTs_length, ← List.length_append]
      rw [show acc ++ (l :: b).flatten = acc ++ l ++ b.flatten by simp]
      exact h2
theorem l_cat2 : ∀ (b a : List (List Tm)), total b ≤ 2199023255552 → (a ++ b).length ≤ B →
    RPt Try.prog 72 0 (aL b.flatten) [] 5 ⟨[(6, (.c (.a (.fz .nils)))), (25, aLs (a ++ b)), (26, ci (a ++ b).length), (27, ci a.length)], [], 0⟩
  | [], a, ht, hl => by
    refine RPt.vc hP sh lv72 (Eq.mpr (v72_5a ..) ?_)
    refine br_of (fun h => absurd (of_decide_eq_true h) (by simp)) (fun _ => ret_r (le_c leNil))
  | l :: b, a, ht, hl => by
    refine RPt.vc hP sh lv72 (Eq.mpr (v72_5a ..) ?_)
    have hl' := hl
    have h3 := ltL a l b
    simp only [List.length_append, List.length_cons, B] at hl'
    have ht' : l.length + total b ≤ 2199023255552 := by simpa [total] using ht
    rw [midL, w64 (by omega) (by omega)]
    refine br_of (fun _ => ⟨⟨rfl, by omega, h3, rfl⟩, rfl, ?_⟩) (fun h => absurd (ltI a l b) (of_decide_eq_false h))
    show br (List.isEmpty (FTs l)) _ _
    refine br_of (fun he => ?_) (fun he => ⟨?_, ?_⟩)
    · have h2 := l_cat2 b (a ++ [l]) (by omega) (by rw [ap]; exact hl)
      rw [ap, nx] at h2
      have hnil : l = [] := by cases l with
        | nil => rfl
        | cons x l => simp [FTs] at he
      rw [show (l :: b).flatten = b.flatten by rw [hnil]; simp]
      exact h2
    · show roomB (FTs l).length 56
      rw [FTs_length]; exact roomI (by omega)
    · have h2 := l_cat3 b (a ++ [l]) l (by omega) (by rw [ap]; exact hl)
      rw [ap, nx] at h2
      show RPt _ _ _ _ _ _ ⟨[(6, (.c (.a (.osl 0 4 0 (FTs l).length)))), _, _, _], [(0, .arz 4 (FTs l))], 1⟩
      rw [FTs_length, List.flatten_cons]
      exact h2
theorem l_cat1 : ∀ (b a : List (List Tm)), total (a ++ b) ≤ 2199023255552 → (a ++ b).length ≤ B →
    RPt Try.prog 72 0 (aL (a ++ b).flatten) [] 1 ⟨[(0, aLs (a ++ b)), (3, ci (total a)), (9, aLs (a ++ b)), (10, ci (a ++ b).length), (11, ci a.length)], [], 0⟩
  | [], a, ht, hl => by
    refine RPt.vc hP sh lv72 (Eq.mpr (v72_1a ..) ?_)
    have hg := c_grow (total a : Int) (by omega) (by simp only [List.append_nil] at ht; omega)
    refine br_of (fun h => absurd (of_decide_eq_true h) (by simp)) (fun _ => ?_)
    have e : (((FLs (a ++ [])).length : Nat) : Int) = (((a ++ []).length : Nat) : Int) := by rw [FLs_length]
    rw [e]
    by_cases hz : total a = 0
    · have h2 := l_cat2 (a ++ []) [] (by simpa using ht) (by simpa using hl)
      exact .inl ⟨(), hg.1 (by omega), rfl, by simpa using h2⟩
    · have h2 := l_cat3 (a ++ []) [] [] (by simpa using ht) (by simpa using hl)
      exact .inr ⟨(), hg.2 (by omega), rfl, by simpa [FTs] using h2⟩
  | l :: b, a, ht, hl => by
    refine RPt.vc hP sh lv72 (Eq.mpr (v72_1a ..) ?_)
    have hl' := hl
    have ht' := ht
    have h3 := ltL a l b
    rw [total_mid] at ht'
    simp only [List.length_append, List.length_cons, B] at hl'
    have h2 := l_cat1 b (a ++ [l]) (by rw [ap]; exact ht) (by rw [ap]; exact hl)
    rw [ap, nx, total_snoc] at h2
    rw [midL, w64 (x := (a.length : Int) + 1) (by omega) (by omega)]
    refine br_of (fun _ => ⟨⟨rfl, by omega, h3, rfl⟩, rfl, ?_⟩) (fun h => absurd (ltI a l b) (of_decide_eq_false h))
    show br (decide (IntKind.wrap .i64 ((total a : Int) + (((FTs l).length : Nat) : Int)) < 0)) _ (RPt _ _ _ _ _ _ ⟨[_, (3, ci (IntKind.wrap .i64 ((total a : Int) + (((FTs l).length : Nat) : Int)))), _, _, _], _, _⟩)
    rw [FTs_length, w64 (by omega) (by omega)]
    refine br_of (fun h => absurd (of_decide_eq_true h) (by omega)) (fun _ => ?_)
    simpa using h2
theorem c_concat (ls : List (List Tm)) (ht : total ls ≤ 2199023255552) (hl : ls.length ≤ B) : AC Try.prog 72 [aLs ls] [] (aL ls.flatten) [] := by
  refine AC.vc hP sh lv72 (Nat.le_refl _) (by simp) (by simp) (Eq.mpr (v72 ..) ?_)
  have := l_cat1 ls [] (by simpa using ht) (by simpa using hl)
  have e : (((FLs ls).length : Nat) : Int) = ((ls.length : Nat) : Int) := by rw [FLs_length]
  rw [e]
  exact ⟨rfl, by simpa [total] using this⟩
/-- Two rows, each as it may come. -/
theorem c_concat2 {x y : FV} {l m : List Tm} (hx : FV.Le x (.sl false 4 (FTs l))) (hy : FV.Le y (.sl false 4 (FTs m))) (ht : l.length + m.length ≤ 2199023255552) : AC Try.prog 72 [.c (.a (.fz (.sl false 1 [[x], [y]])))] [] (aL (l ++ m)) [] := by
  have h := c_concat [l, m] (by simpa [total] using ht) (by simp [B])
  rw [show [l, m].flatten = l ++ m by simp] at h
  refine h.args ⟨le_c (.trans _ _ _ (.rows false 1 _ (FLs [l, m]) rfl (fun i e e' he he' => ?_) (fun i j e e' f f' he he' hf hf' => ?_)) (.nn _ _ _)), trivial⟩
  · match i, he, he' with
    | 0, he, he' => simp [FLs] at he he'; subst he; subst he'; rfl
    | 1, he, he' => simp [FLs] at he he'; subst he; subst he'; rfl
    | i + 2, he, he' => simp at he
  · match i, he, he' with
    | 0, he, he' =>
      simp [FLs] at he he'; subst he; subst he'
      match j, hf, hf' with
      | 0, hf, hf' => simp at hf hf'; subst hf; subst hf'; exact hx
      | j + 1, hf, hf' => simp at hf
    | 1, he, he' =>
      simp [FLs] at he he'; subst he; subst he'
      match j, hf, hf' with
      | 0, hf, hf' => simp at hf hf'; subst hf; subst hf'; exact hy
      | j + 1, hf, hf' => simp at hf
    | i + 2, he, he' => simp at he
/-- Applied. -/
def applyF (f : Tm) (args : List Tm) : Tm :=
  match args with
  | [] => f
  | _ => if (f.k == 6) = true ∧ f.l ≠ [] then .mk 6 [] 0 (f.l ++ args) else .mk 6 [] 0 (f :: args)
theorem c_apply (f : Tm) (args : List Tm) (h : f.l.length + args.length < 2199023255552) : AC Try.prog 52 [aT f, aL args] [] (aT (applyF f args)) [] := by
  obtain ⟨k, s, n, l⟩ := f
  simp only [Tm.l] at h
  refine AC.vc hP sh lv52 (Nat.le_refl _) (by simp) (by simp) (Eq.mpr (v52 k s n (FTs l) (FTs args) _ _) ?_)
  refine ⟨rfl, br_of (fun h1 => ?_) (fun h1 => ?_)⟩
  · have : args = [] := by cases args with
      | nil => rfl
      | cons x l => simp [FTs] at h1; omega
    subst this
    exact ret_r (.refl _)
  · match args, h1, h with
    | [], h1, _ => simp [FTs] at h1
    | a :: r, h1, h =>
      have one : FV.Le (.sl false 4 [[.int .i64 k, .str s, .int .i64 n, .sl false 4 (FTs l)]]) (.sl false 4 (FTs [.mk k s n l])) := .nn _ _ _
      have same : ∀ l : List Tm, FV.Le (.sl false 4 (FTs l)) (.sl false 4 (FTs l)) := fun _ => .refl _
      refine br_of (fun h2 => ⟨rfl, br_of (fun h3 => ⟨⟨rfl, by omega⟩, _, c_concat2 (same l) (same (a :: r)) (by omega), ret_r ?_⟩) (fun h3 => ⟨⟨rfl, by omega⟩, ⟨rfl, by omega⟩, _, c_concat2 one (same (a :: r)) (by simp only [List.length_cons, List.length_nil] at h ⊢; omega), ret_r ?_⟩)⟩)
        (fun h2 => ⟨⟨rfl, by omega⟩, ⟨rfl, by omega⟩, _, c_concat2 one (same (a :: r)) (by simp only [List.length_cons, List.length_nil] at h ⊢; omega), ret_r ?_⟩)
      · have hl : l ≠ [] := by intro e; subst e; simp [FTs] at h3
        rw [show applyF (.mk k s n l) (a :: r) = .mk 6 [] 0 (l ++ a :: r) from if_pos ⟨h2, hl⟩]
        exact .refl _
      · have hl : l = [] := by cases l with
          | nil => rfl
          | cons x l => simp [FTs] at h3
        rw [show applyF (.mk k s n l) (a :: r) = .mk 6 [] 0 (.mk k s n l :: a :: r) from if_neg (fun e => e.2 hl)]
        exact .refl _
      · rw [show applyF (.mk k s n l) (a :: r) = .mk 6 [] 0 (.mk k s n l :: a :: r) from if_neg (fun e => by have := e.1; simp only [Tm.k, h2] at this; cases this)]
        exact .refl _

end Go.AM

set_option maxRecDepth 100000
open Go Go.Proofs
namespace Go.AM


/-! ### Through a term -/
def withF (t : Tm) (out : List Tm) : Tm :=
  if (t.k == 6) = true ∧ 1 < out.length ∧ ((out.headD default).k == 6) = true ∧ ((t.l.headD default).k != 6) = true then applyF (out.headD default) out.tail else .mk t.k t.s t.n out
mutual
def walkF (lf : Tm → Int → Tm) : Tm → Int → Tm
  | .mk k s n l, d => if (k == 5 || k == 6) = true then withF (.mk k s n l) (walkL lf l (d + if (k == 5) = true then 1 else 0)) else lf (.mk k s n l) d
def walkL (lf : Tm → Int → Tm) : List Tm → Int → List Tm
  | [], _ => []
  | t :: l, d => walkF lf t d :: walkL lf l d
end


/-! walk.term for Sh -/
/-! walk.term for Su -/
end Go.AM

set_option maxRecDepth 100000
open Go Go.Proofs
namespace Go.AM

/-! ### What walk makes: size, numbers, kinds -/
theorem applyF_sz (f : Tm) (l : List Tm) : (applyF f l).sz ≤ 1 + f.sz + Tm.szs l := by
  unfold applyF
  split
  · simp only [Tm.szs]; omega
  · split
    · have := f.sz_eq; simp only [Tm.sz, Tm.szs_append, List.length_nil]; omega
    · simp only [Tm.sz, Tm.szs, List.length_nil]; omega
theorem withF_sz (t : Tm) (o : List Tm) : (withF t o).sz ≤ 1 + Tm.szs o := by
  unfold withF
  split
  · rename_i h
    match o, h with
    | [], h => simp at h
    | x :: r, h =>
      simp only [List.headD_cons, List.tail_cons, Tm.szs] at h ⊢
      have hx : (x.k == 6) = true := h.2.2.1
      have hr : r ≠ [] := by intro e; rw [e] at h; simp at h
      unfold applyF
      split
      · exact absurd rfl hr
      · have := x.sz_eq
        by_cases hl : x.l = []
        · rw [if_neg (fun e => e.2 hl)]
          simp only [Tm.sz, Tm.szs, List.length_nil]; omega
        · rw [if_pos ⟨hx, hl⟩]
          simp only [Tm.sz, Tm.szs_append, List.length_nil]; omega
  · simp only [Tm.sz]; omega
mutual
/-- How many. -/
def nd : Tm → Nat
  | .mk _ _ _ l => 1 + nds l
def nds : List Tm → Nat
  | [] => 0
  | t :: l => nd t + nds l
end
theorem nd_eq (t : Tm) : nd t = 1 + nds t.l := by cases t; rfl
theorem nd_pos (t : Tm) : 1 ≤ nd t := by rw [nd_eq]; omega
theorem nds_append : ∀ (a b : List Tm), nds (a ++ b) = nds a + nds b
  | [], b => by simp [nds]
  | t :: a, b => by simp only [List.cons_append, nds, nds_append a b]; omega
theorem nds_mem : ∀ {l : List Tm} {t : Tm}, t ∈ l → nd t ≤ nds l
  | x :: l, t, h => by
    rcases List.mem_cons.1 h with rfl | h
    · simp only [nds]; omega
    · have := nds_mem h; simp only [nds]; omega
theorem withF_nd (t : Tm) (o : List Tm) : nd (withF t o) ≤ 1 + nds o := by
  unfold withF
  split
  · rename_i h
    match o, h with
    | [], h => simp at h
    | x :: r, h =>
      simp only [List.headD_cons, List.tail_cons, nds] at h ⊢
      have hx : (x.k == 6) = true := h.2.2.1
      have hr : r ≠ [] := by intro e; rw [e] at h; simp at h
      unfold applyF
      split
      · exact absurd rfl hr
      · have := nd_eq x
        by_cases hl : x.l = []
        · rw [if_neg (fun e => e.2 hl)]
          simp only [nd, nds]; omega
        · rw [if_pos ⟨hx, hl⟩]
          simp only [nd, nds_append]; omega
  · simp only [nd]; omega
mutual
theorem walkF_sz (lf : Tm → Int → Tm) (S : Nat) (h : ∀ u d, (lf u d).sz ≤ u.sz + S) : ∀ (t : Tm) (d : Int), (walkF lf t d).sz ≤ t.sz + nd t * S
  | .mk k s n l, d => by
    rw [walkF]
    split
    · refine Nat.le_trans (withF_sz ..) ?_
      have := walkL_sz lf S h l (d + if (k == 5) = true then 1 else 0)
      simp only [Tm.sz, Tm.s, nd, Nat.add_mul, Nat.one_mul]
      omega
    · refine Nat.le_trans (h _ _) ?_
      simp only [nd, Nat.add_mul, Nat.one_mul]; omega
theorem walkL_sz (lf : Tm → Int → Tm) (S : Nat) (h : ∀ u d, (lf u d).sz ≤ u.sz + S) : ∀ (l : List Tm) (d : Int), Tm.szs (walkL lf l d) ≤ Tm.szs l + nds l * S
  | [], _ => by simp [walkL, Tm.szs]
  | t :: l, d => by
    have := walkF_sz lf S h t d
    have := walkL_sz lf S h l d
    simp only [walkL, Tm.szs, nds, Nat.add_mul]; omega
end
mutual
theorem walkF_nd (lf : Tm → Int → Tm) (N : Nat) (hN : 1 ≤ N) (h : ∀ u d, nd (lf u d) ≤ nd u * N) : ∀ (t : Tm) (d : Int), nd (walkF lf t d) ≤ nd t * N
  | .mk k s n l, d => by
    rw [walkF]
    split
    · refine Nat.le_trans (withF_nd ..) ?_
      have := walkL_nd lf N hN h l (d + if (k == 5) = true then 1 else 0)
      simp only [nd, Nat.add_mul, Nat.one_mul]
      omega
    · exact h _ _
theorem walkL_nd (lf : Tm → Int → Tm) (N : Nat) (hN : 1 ≤ N) (h : ∀ u d, nd (lf u d) ≤ nd u * N) : ∀ (l : List Tm) (d : Int), nds (walkL lf l d) ≤ nds l * N
  | [], _ => by simp [walkL, nds]
  | t :: l, d => by
    have := walkF_nd lf N hN h t d
    have := walkL_nd lf N hN h l d
    simp only [walkL, nds, Nat.add_mul]; omega
end
theorem bds_append {M : Int} : ∀ {a b : List Tm}, bds M a → bds M b → bds M (a ++ b)
  | [], _, _, h => h
  | _ :: _, _, h, h' => ⟨h.1, bds_append h.2 h'⟩
theorem bds_of {M : Int} : ∀ {l : List Tm}, (∀ t ∈ l, bd M t) → bds M l
  | [], _ => trivial
  | t :: _, h => ⟨h t List.mem_cons_self, bds_of fun u hu => h u (List.mem_cons_of_mem _ hu)⟩
theorem bd6 {M : Int} {s : List UInt8} {n : Int} {l : List Tm} (h : bds M l) : bd M (.mk 6 s n l) := ⟨fun e => absurd e (by omega), h⟩
theorem applyF_bd {M : Int} {f : Tm} {l : List Tm} (hf : bd M f) (hl : bds M l) : bd M (applyF f l) := by
  unfold applyF
  split
  · exact hf
  · split
    · exact bd6 (bds_append (bd_l hf) hl)
    · exact bd6 ⟨hf, hl⟩
theorem withF_bd {M : Int} {t : Tm} {o : List Tm} (hk : t.k ≠ 3) (ho : bds M o) : bd M (withF t o) := by
  unfold withF
  split
  · rename_i h
    match o, h, ho with
    | [], h, _ => simp at h
    | x :: r, h, ho => exact applyF_bd ho.1 ho.2
  · exact ⟨fun e => absurd e hk, ho⟩
mutual
theorem walkF_bd (lf : Tm → Int → Tm) (M M' D : Int) (h : ∀ u d, bd M u → 0 ≤ d → d ≤ D → bd M' (lf u d)) : ∀ (t : Tm) (d : Int), bd M t → 0 ≤ d → d + t.sz ≤ D → bd M' (walkF lf t d)
  | .mk k s n l, d, hb, h0, h1 => by
    rw [walkF]
    simp only [Tm.sz] at h1
    split
    · rename_i hk
      refine withF_bd (fun e => ?_) (walkL_bd lf M M' D h l _ hb.2 (by split <;> omega) (by split <;> omega))
      have e : k = 3 := e
      rw [e] at hk; exact absurd hk (by decide)
    · exact h _ _ hb h0 (by omega)
theorem walkL_bd (lf : Tm → Int → Tm) (M M' D : Int) (h : ∀ u d, bd M u → 0 ≤ d → d ≤ D → bd M' (lf u d)) : ∀ (l : List Tm) (d : Int), bds M l → 0 ≤ d → d + Tm.szs l ≤ D → bds M' (walkL lf l d)
  | [], _, _, _, _ => trivial
  | t :: l, d, hb, h0, h1 => by
    simp only [Tm.szs] at h1
    exact ⟨walkF_bd lf M M' D h t d hb.1 h0 (by omega), walkL_bd lf M M' D h l d hb.2 h0 (by omega)⟩
end
theorem applyF_k {f : Tm} (l : List Tm) (h : (f.k == 6) = true) : (applyF f l).k = 6 := by
  unfold applyF
  split
  · simpa using h
  · split <;> rfl
theorem withF_k (t : Tm) (o : List Tm) : (withF t o).k = t.k := by
  unfold withF
  split
  · rename_i h6
    have e : t.k = 6 := by simpa using h6.1
    rw [applyF_k _ h6.2.2.1]; exact e.symm
  · rfl
theorem walkF_k (lf : Tm → Int → Tm) (h : ∀ u d, (lf u d).k = u.k) (t : Tm) (d : Int) : (walkF lf t d).k = t.k := by
  obtain ⟨k, s, n, l⟩ := t
  rw [walkF]
  split
  · exact withF_k _ _
  · exact h _ _
/-- Where leaves keep their kinds, nothing is made flat. -/
theorem walkF_keep (lf : Tm → Int → Tm) (h : ∀ u d, (lf u d).k = u.k) (k : Int) (s : List UInt8) (n : Int) (l : List Tm) (d : Int) (hk : (k == 5 || k == 6) = true) :
    walkF lf (.mk k s n l) d = .mk k s n (walkL lf l (d + if (k == 5) = true then 1 else 0)) := by
  rw [walkF, if_pos hk, withF, if_neg fun e => ?_]; rfl
  match l, e with
  | [], e => have := e.2.1; simp [walkL] at this
  | t :: l, e =>
    have e1 := e.2.2.1
    have e2 := e.2.2.2
    rw [walkL, List.headD_cons, walkF_k lf h] at e1
    have e2 : (t.k != 6) = true := e2
    rw [bne, e1] at e2; cases e2
theorem walkF_leaf (lf : Tm → Int → Tm) (k : Int) (s : List UInt8) (n : Int) (l : List Tm) (d : Int) (hk : (k == 5 || k == 6) = false) :
    walkF lf (.mk k s n l) d = lf (.mk k s n l) d := by rw [walkF, if_neg (by rw [hk]; simp)]
theorem walkL_length (lf : Tm → Int → Tm) : ∀ (l : List Tm) (d : Int), (walkL lf l d).length = l.length
  | [], _ => rfl
  | _ :: l, d => by simp only [walkL, List.length_cons, walkL_length lf l d]

/-! ### Shift -/
abbrev M61 : Int := 2305843009213693952
def shLeaf (fr by_ : Int) (u : Tm) (d : Int) : Tm := if (u.k == 3) = true ∧ d + fr ≤ u.n then .mk u.k u.s (u.n + by_) u.l else u
def shT (fr by_ : Int) (t : Tm) (d : Int) : Tm := walkF (shLeaf fr by_) t d
theorem shLeaf_k (fr by_ : Int) (u : Tm) (d : Int) : (shLeaf fr by_ u d).k = u.k := by unfold shLeaf; split <;> rfl
theorem shLeaf_sz (fr by_ : Int) (u : Tm) (d : Int) : (shLeaf fr by_ u d).sz = u.sz := by
  unfold shLeaf; split
  · cases u; rfl
  · rfl
theorem shT_sz (fr by_ : Int) (t : Tm) (d : Int) : (shT fr by_ t d).sz ≤ t.sz := by
  have := walkF_sz (shLeaf fr by_) 0 (fun u d => by rw [shLeaf_sz]; omega) t d
  rw [Nat.mul_zero] at this; exact this
theorem shLeaf_nd (fr by_ : Int) (u : Tm) (d : Int) : nd (shLeaf fr by_ u d) = nd u := by
  unfold shLeaf; split
  · cases u; rfl
  · rfl
theorem shT_nd (fr by_ : Int) (t : Tm) (d : Int) : nd (shT fr by_ t d) ≤ nd t := by
  have := walkF_nd (shLeaf fr by_) 1 (Nat.le_refl _) (fun u d => by rw [shLeaf_nd]; omega) t d
  rw [Nat.mul_one] at this; exact this
theorem bd_le {M M' : Int} (h : M ≤ M') : ∀ t : Tm, bd M t → bd M' t := by
  refine Tm.ind fun t ih hb => ?_
  obtain ⟨k, s, n, l⟩ := t
  exact ⟨fun e => by have := hb.1 e; omega, bds_of fun u hu => ih u hu (bds_mem hb.2 hu)⟩
theorem shLeaf_bd {fr by_ M : Int} (h0 : 0 ≤ by_) (u : Tm) (d : Int) (hb : bd M u) : bd (M + by_) (shLeaf fr by_ u d) := by
  unfold shLeaf
  split
  · obtain ⟨k, s, n, l⟩ := u
    exact ⟨fun e => by have := hb.1 e; simp only [Tm.n]; omega, bds_of fun u hu => bd_le (by omega) u (bds_mem hb.2 hu)⟩
  · exact bd_le (by omega) u hb
theorem shT_bd {fr by_ M : Int} (h0 : 0 ≤ by_) (t : Tm) (d : Int) (hb : bd M t) (hd : 0 ≤ d) : bd (M + by_) (shT fr by_ t d) :=
  walkF_bd (shLeaf fr by_) M (M + by_) (d + t.sz) (fun u d' hu _ _ => shLeaf_bd h0 u d' hu) t d hb hd (Int.le_refl _)
/-! ### Subst -/
def suLeaf (i : Int) (s : Tm) (u : Tm) (d : Int) : Tm :=
  if (u.k == 3) = true then (if u.n < d + i then u else if (u.n == d + i) = true then shT 0 d s 0 else .mk u.k u.s (u.n - 1) u.l) else u
def suT (i : Int) (s t : Tm) (d : Int) : Tm := walkF (suLeaf i s) t d
theorem suLeaf_sz (i : Int) (s u : Tm) (d : Int) : (suLeaf i s u d).sz ≤ u.sz + s.sz := by
  have h3 := shT_sz 0 d s 0
  unfold suLeaf
  split
  · split
    · omega
    · split
      · omega
      · cases u; simp only [Tm.sz, Tm.s, Tm.l]; omega
  · omega
theorem suT_sz (i : Int) (s t : Tm) (d : Int) : (suT i s t d).sz ≤ t.sz + nd t * s.sz := walkF_sz _ _ (suLeaf_sz i s) t d
theorem suLeaf_nd (i : Int) (s u : Tm) (d : Int) : nd (suLeaf i s u d) ≤ nd u * nd s := by
  have h1 : nd u ≤ nd u * nd s := Nat.le_mul_of_pos_right _ (nd_pos s)
  have h2 : nd s ≤ nd u * nd s := Nat.le_mul_of_pos_left _ (nd_pos u)
  have h3 := shT_nd 0 d s 0
  unfold suLeaf
  split
  · split
    · exact h1
    · split
      · omega
      · cases u; exact h1
  · exact h1
theorem suT_nd (i : Int) (s t : Tm) (d : Int) : nd (suT i s t d) ≤ nd t * nd s := walkF_nd _ _ (nd_pos s) (suLeaf_nd i s) t d
theorem suT_bd {i M M' D : Int} (s t : Tm) (d : Int) (hb : bd M t) (hs : bd M' s) (hM : M' + D ≤ M) (hd : 0 ≤ d) (hD : d + t.sz ≤ D) (hi : 0 ≤ i) (hM' : 0 ≤ M): bd M (suT i s t d) := by
  refine walkF_bd (suLeaf i s) M M D (fun u d' hu h0 h1 => ?_) t d hb hd hD
  unfold suLeaf
  split
  · split
    · exact hu
    · split
      · exact bd_le (by omega) _ (shT_bd h0 s 0 hs (Int.le_refl _))
      · rename_i h2 h3
        obtain ⟨k, s', n, l⟩ := u
        have h3' : n ≠ d' + i := fun e => h3 (by rw [show Tm.n (.mk k s' n l) = n from rfl, e]; simp)
        have h2' : ¬ n < d' + i := h2
        exact ⟨fun e => by have := hu.1 e; simp only [Tm.n]; omega, hu.2⟩
  · exact hu
end Go.AM

set_option maxRecDepth 100000
open Go Go.Proofs
namespace Go.AM

/-! ### Below abstractions -/
def lamsF : Nat → Tm → Tm
  | 0, t => t
  | n + 1, t => lamsF n (.mk 5 [] 0 [t])
theorem l_lamsb (N : Int) (hN : N ≤ 4294967296) : ∀ (m : Nat) (i k : Int) (s : List UInt8) (n : Int) (rows : List (List FV)) (l : List Tm), 0 ≤ i → i + m = N → FV.Le (.sl false 4 rows) (.sl false 4 (FTs l)) →
    RPt Try.prog 51 0 (aT (lamsF m (.mk k s n l))) [] 1 ⟨[(3, .c (.a (.ep 0 4 0 0))), (4, .c (.a (.ep 1 4 0 0))), (6, ci N), (7, ci i)], [(0, .arr 4 [[.a (.fz (.int .i64 k)), .a (.fz (.str s)), .a (.fz (.int .i64 n)), .a (.fz (.sl false 4 rows))]]), (1, .arr 4 [[.a (.fz (.int .i64 0)), .a (.fz (.str [])), .a (.fz (.int .i64 0)), .a (.fz .nils)]])], 2⟩
  | 0, i, k, s, n, rows, l, h0, hi, hle => by
    refine RPt.vc hP sh lv51 (Eq.mpr (v51_1a ..) ?_)
    refine br_of (fun h => absurd (of_decide_eq_true h) (by omega)) (fun _ => ⟨leT hle, rfl⟩)
  | m + 1, i, k, s, n, rows, l, h0, hi, hle => by
    refine RPt.vc hP sh lv51 (Eq.mpr (v51_1a ..) ?_)
    have h2 := l_lamsb N hN m (i + 1) 5 [] 0 [[.int .i64 k, .str s, .int .i64 n, .sl false 4 rows]] [.mk k s n l] (by omega) (by omega) (leRows rfl fun j r t hr ht => by
      match j, hr, ht with
      | 0, hr, ht =>
        simp only [List.getElem?_cons_zero, Option.some.injEq] at hr ht
        subst hr; subst ht
        exact leFT hle
      | j + 1, hr, _ => simp at hr)
    rw [w64 (x := i + 1) (by omega) (by omega)]
    refine br_of (fun _ => ⟨⟨rfl, by omega⟩, ?_⟩) (fun h => absurd (of_decide_eq_false h) (by omega))
    exact h2
theorem foldMax0 {n : Int} (h : 0 ≤ n) : foldMax [n, 0] = n := by
  rw [foldMax2]; unfold maxI; split <;> omega
theorem c_lams (m : Nat) (t : Tm) (hm : m ≤ 4294967296) : AC Try.prog 51 [ci m, aT t] [] (aT (lamsF m t)) [] := by
  obtain ⟨k, s, n, l⟩ := t
  refine AC.vc hP sh lv51 (Nat.le_refl _) (by simp) (by simp) (Eq.mpr (v51 m k s n (FTs l) _ _) ?_)
  rw [foldMax0 (by omega)]
  refine RPt.vc hP sh lv51 (Eq.mpr (v51_1a ..) ?_)
  match m, hm with
  | 0, _ => exact br_of (fun h => absurd (of_decide_eq_true h) (by omega)) (fun _ => ⟨.refl _, rfl⟩)
  | m + 1, hm =>
    refine br_of (fun _ => ⟨⟨rfl, by omega⟩, ?_⟩) (fun h => absurd (of_decide_eq_false h) (by omega))
    exact l_lamsb ((m + 1 : Nat) : Int) (by omega) m 1 5 [] 0 [[.int .i64 k, .str s, .int .i64 n, .sl false 4 (FTs l)]] [.mk k s n l] (by omega) (by omega) (leRows rfl fun j r t hr ht => by
      match j, hr, ht with
      | 0, hr, ht =>
        simp only [List.getElem?_cons_zero, Option.some.injEq] at hr ht
        subst hr; subst ht
        exact leFT (.refl _)
      | j + 1, hr, _ => simp at hr)

/-! ### What may be -/
mutual
def validB : Tm → Bool
  | .mk k s n l =>
    if (k == 0) = true then (isName s || isSym s) && n == 0 && (((FTs l).length : Nat) : Int) == 0
    else if (k == 1) = true then decide (n ≥ 1) && s == [] && (((FTs l).length : Nat) : Int) == 0 && validL l
    else if (k == 2) = true then s == [] && (((FTs l).length : Nat) : Int) == 0 && validL l
    else if (k == 3) = true then decide (n ≥ 0) && decide (n ≤ 4611686018427387904) && s == [] && (((FTs l).length : Nat) : Int) == 0 && validL l
    else if (k == 4) = true then decide (n ≥ 0) && decide (n ≤ 4611686018427387904) && s == [] && (((FTs l).length : Nat) : Int) == 0 && validL l
    else if (k == 5) = true then n == 0 && s == [] && (((FTs l).length : Nat) : Int) == 1 && validL l
    else if (k == 6) = true then n == 0 && decide ((((FTs l).length : Nat) : Int) ≥ 2) && ((l.headD default).k != 6) && s == [] && validL l
    else false
def validL : List Tm → Bool
  | [] => true
  | t :: l => validB t && validL l
end
def badAt : List Tm → Int → Int
  | [], _ => -1
  | t :: l, i => if validB t = true then badAt l (i + 1) else i
theorem badAt_ge : ∀ (l : List Tm) (i : Int), 0 ≤ i → decide (badAt l i ≥ 0) = !validL l
  | [], _, _ => rfl
  | t :: l, i, h => by
    rw [badAt, validL]
    split
    · rename_i e; rw [badAt_ge l (i + 1) (by omega), e, Bool.true_and]
    · rename_i e; rw [show validB t = false by simpa using e]; simp; omega
theorem l_index : ∀ (b a : List Tm), (∀ u ∈ b, AC Try.prog 40 [aT u] [] (cb (!validB u)) []) → (a ++ b).length ≤ B →
    RPt Try.prog 66 0 (ci (badAt b a.length)) [] 1 ⟨[(0, aL (a ++ b)), (1, .c (.fn (.func 40) [] [])), (7, ci (((FTs (a ++ b)).length : Nat) : Int)), (8, ci a.length)], [], 0⟩
  | [], a, _, _ => by
    refine RPt.vc hP sh lv66 (Eq.mpr (v66_F40_1a ..) ?_)
    exact br_of (fun h => absurd (of_decide_eq_true h) (geI' a)) (fun _ => ret_i rfl)
  | t :: b, a, ih, hl => by
    refine RPt.vc hP sh lv66 (Eq.mpr (v66_F40_1a ..) ?_)
    have hl' := hl
    simp only [List.length_append, List.length_cons, B] at hl'
    have h1 := ih t List.mem_cons_self
    have h2 := l_index b (a ++ [t]) (fun u hu => ih u (List.mem_cons_of_mem _ hu)) (by rw [ap]; exact hl)
    have h3 := ltI' a t b
    rw [ap, nx] at h2
    rw [midI, w64 (x := (a.length : Int) + 1) (by omega) (by omega)]
    refine br_of (fun _ => ?_) (fun h => absurd h3 (of_decide_eq_false h))
    obtain ⟨k', s', n', l'⟩ := t
    refine ⟨⟨rfl, by omega, h3, rfl⟩, _, h1, br_of (fun h => ?_) (fun h => ?_)⟩
    · rw [badAt, if_neg (by simpa using h)]; exact ret_i rfl
    · rw [badAt, if_pos (by simpa using h)]; exact h2
theorem c_contf (l : List Tm) (hl : l.length ≤ B) (ih : ∀ u ∈ l, AC Try.prog 25 [aT u] [] (cb (validB u)) []) : AC Try.prog 39 [aL l, .c (.fn (.func 40) [] [])] [] (cb (!validL l)) [] := by
  have h1 : ∀ u ∈ l, AC Try.prog 40 [aT u] [] (cb (!validB u)) [] := fun u hu => by
    have h := ih u hu
    obtain ⟨k, s, n, l⟩ := u
    refine AC.vc hP sh lv40 (Nat.le_refl _) (by simp) (by simp) (Eq.mpr (v40 k s n (FTs l) _ _) ?_)
    exact ⟨_, h, ret_b rfl⟩
  have h2 : AC Try.prog 66 [aL l, .c (.fn (.func 40) [] [])] [] (ci (badAt l 0)) [] := by
    refine AC.vc hP sh lv66 (Nat.le_refl _) (by simp) (by simp) (Eq.mpr (v66_F40 ..) ?_)
    exact ⟨rfl, l_index l [] h1 hl⟩
  refine AC.vc hP sh lv39 (Nat.le_refl _) (by simp) (by simp) (Eq.mpr (v39_F40 ..) ?_)
  exact ⟨_, h2, ret_b (badAt_ge l 0 (Int.le_refl _))⟩
theorem head0 : ∀ {l : List Tm}, 2 ≤ (((FTs l).length : Nat) : Int) → List.getD (FTs l) 0 [] = FT (l.headD default)
  | [], h => by simp [FTs] at h
  | t :: l, _ => rfl
theorem c_valid : ∀ t : Tm, t.sz ≤ B → AC Try.prog 25 [aT t] [] (cb (validB t)) [] := by
  refine Tm.ind fun t ih hs => ?_
  have hlen := Tm.szs_length t.l
  obtain ⟨k, s, n, l⟩ := t
  simp only [Tm.sz, Tm.l] at hs hlen
  have hc := c_contf l (by omega) fun u hu => ih u hu (by have := Tm.szs_mem hu; omega)
  refine AC.vc hP sh lv25 (Nat.le_refl _) (by simp) (by simp) (Eq.mpr (v25 k s n (FTs l) _ _) ?_)
  refine br_of (fun h0 => ⟨_, c_isname s, br_of (fun h1 => br_of (fun h2 => ⟨rfl, ret_b ?_⟩) (fun h2 => ret_b ?_)) (fun h1 => ⟨_, c_issym s, br_of (fun h1' => br_of (fun h2 => ⟨rfl, ret_b ?_⟩) (fun h2 => ret_b ?_)) (fun h1' => ret_b ?_)⟩)⟩)
    (fun h0 => br_of (fun h1 => br_of (fun h2 => br_of (fun h3 => ⟨rfl, br_of (fun h4 => ⟨_, hc, ret_b ?_⟩) (fun h4 => ret_b ?_)⟩) (fun h3 => ret_b ?_)) (fun h2 => ret_b ?_))
    (fun h1 => br_of (fun h2 => br_of (fun h3 => ⟨rfl, br_of (fun h4 => ⟨_, hc, ret_b ?_⟩) (fun h4 => ret_b ?_)⟩) (fun h3 => ret_b ?_))
    (fun h2 => br_of (fun h3 => br_of (fun h4 => br_of (fun h5 => br_of (fun h6 => ⟨rfl, br_of (fun h7 => ⟨_, hc, ret_b ?_⟩) (fun h7 => ret_b ?_)⟩) (fun h6 => ret_b ?_)) (fun h5 => ret_b ?_)) (fun h4 => ret_b ?_))
    (fun h3 => br_of (fun h3' => br_of (fun h4 => br_of (fun h5 => br_of (fun h6 => ⟨rfl, br_of (fun h7 => ⟨_, hc, ret_b ?_⟩) (fun h7 => ret_b ?_)⟩) (fun h6 => ret_b ?_)) (fun h5 => ret_b ?_)) (fun h4 => ret_b ?_))
    (fun h3' => br_of (fun h5 => br_of (fun h6 => br_of (fun h7 => ⟨rfl, br_of (fun h8 => ⟨_, hc, ret_b ?_⟩) (fun h8 => ret_b ?_)⟩) (fun h7 => ret_b ?_)) (fun h6 => ret_b ?_))
    (fun h5 => br_of (fun h6 => br_of (fun h7 => ⟨rfl, br_of (fun h8 => ?app) (fun h8 => ⟨rfl, ret_b ?_⟩)⟩) (fun h7 => ⟨rfl, ret_b ?_⟩)) (fun h6 => ret_b ?_)))))))
  case app =>
    have h8' := of_decide_eq_true h8
    rw [head0 h8', FT_eta]
    refine ⟨⟨rfl, by omega, by omega, rfl⟩, rfl, br_of (fun h9 => br_of (fun h10 => ⟨rfl, br_of (fun h11 => ⟨_, hc, ret_b ?_⟩) (fun h11 => ret_b ?_)⟩) (fun h10 => ret_b ?_)) (fun h9 => ret_b ?_)⟩
    all_goals (have h9' : ((l.headD default).k != 6) = _ := h9; simp_all [validB])
  all_goals first
    | (simp_all [validB]; done)
    | (simp_all [validB]; intros; omega)

end Go.AM

set_option maxRecDepth 100000
open Go Go.Proofs
namespace Go.AM

/-! ### What is not more than is looked at -/
mutual
theorem left_sz : ∀ (t : Tm) (m : Int), 0 ≤ leftF t m → longB t = false → (nd t : Int) ≤ m - leftF t m ∧ t.sz ≤ 61 * nd t
  | .mk _ s _ l, m, h, hl => by
    simp only [longB, Bool.or_eq_false_iff] at hl
    simp only [leftF] at h ⊢
    have := left_szs l (m - 1) h hl.2
    have := of_decide_eq_false hl.1
    simp only [nd, Tm.sz]; omega
theorem left_szs : ∀ (l : List Tm) (m : Int), 0 ≤ leftL l m → longL l = false → (nds l : Int) ≤ m - leftL l m ∧ Tm.szs l ≤ 61 * nds l
  | [], m, h, _ => by simp [nds, leftL, Tm.szs]
  | t :: l, m, h, hl => by
    simp only [longL, Bool.or_eq_false_iff] at hl
    simp only [leftL] at h ⊢
    split at h
    · rename_i h0
      rw [if_pos h0]
      have h1 := left_szs l _ h hl.2
      have h3 := (leftL_le l (leftF t m)).1
      have h2 := left_sz t m (by omega) hl.1
      simp only [nds, Tm.szs]; omega
    · rename_i h0; exact absurd h h0
end
mutual
theorem near_bd {M : Int} : ∀ t : Tm, near M t = true → bd M t
  | .mk k s n l, h => by
    simp only [near, Bool.and_eq_true] at h
    refine ⟨fun e => ?_, nears_bd l h.2⟩
    have := h.1
    rw [e] at this
    simp at this; omega
theorem nears_bd {M : Int} : ∀ l : List Tm, nears M l = true → bds M l
  | [], _ => trivial
  | t :: l, h => by
    simp only [nears, Bool.and_eq_true] at h
    exact ⟨near_bd t h.1, nears_bd l h.2⟩
end
/-- What is looked at. -/
structure Okay (t : Tm) : Prop where
  nodes : nd t ≤ 80
  size : t.sz ≤ 4880
  nums : bd 1099511627776 t
theorem okay {t : Tm} (h : overB t = false) : Okay t := by
  simp only [overB, Bool.or_eq_false_iff, large] at h
  have h1 := of_decide_eq_false h.1.1
  have h2 := left_sz t 80 (by omega) h.1.2
  exact ⟨by omega, by omega, near_bd t (by simpa using h.2)⟩

/-! ### The document's example -/
abbrev exF : Tm := .mk 0 [102] 0 []
abbrev exA : Tm := .mk 0 [97] 0 []
abbrev exB : Tm := applyF exF [.mk 3 [] 0 [], lamsF 1 (.mk 3 [] 1 [])]
end Go.AM

set_option maxRecDepth 100000
open Go Go.Proofs
namespace Go.AM

/-! ### Rows of numbers -/
abbrev aI (l : List Int) : TV := .c (.a (.fz (.sl false 1 (IR l))))
theorem IR_length (l : List Int) : (IR l).length = l.length := by simp [IR]
theorem IR_append (a b : List Int) : IR (a ++ b) = IR a ++ IR b := by simp [IR]
theorem midN (a : List Int) (x : Int) (b : List Int) : List.getD (IR (a ++ x :: b)) (Int.toNat (a.length : Int)) [] = [.int .i64 x] := by
  rw [show Int.toNat (a.length : Int) = a.length by omega]
  simp [List.getD, IR]
theorem ltN (a : List Int) (t : Int) (b : List Int) : (a.length : Int) < (((IR (a ++ t :: b)).length : Nat) : Int) := by rw [IR_length]; exact ltI a t b
def hasI (v : Int) (l : List Int) : Bool := l.any fun x => v == x
def idxI (v : Int) : List Int → Int → Int
  | [], _ => -1
  | x :: l, i => if (v == x) = true then i else idxI v l (i + 1)
theorem idxI_ge (v : Int) : ∀ (l : List Int) (i : Int), 0 ≤ i → decide (idxI v l i ≥ 0) = hasI v l
  | [], _, _ => rfl
  | x :: l, i, h => by
    rw [idxI]
    split
    · rename_i e; simp [hasI, e, h]
    · rename_i e; rw [idxI_ge v l (i + 1) (by omega)]; simp [hasI, show (v == x) = false by simpa using e]
/-! ### Variables -/
def varsLeaf (u : Tm) (l : List Int) : List Int := if (u.k == 4 && !hasI u.n l) = true then l ++ [u.n] else l
mutual
def varsF : Tm → List Int → List Int
  | .mk k s n l, acc => if (k == 5 || k == 6) = true then varsL l acc else varsLeaf (.mk k s n l) acc
def varsL : List Tm → List Int → List Int
  | [], acc => acc
  | t :: l, acc => varsL l (varsF t acc)
end
mutual
theorem varsF_ext : ∀ (t : Tm) (acc : List Int), ∃ e, varsF t acc = acc ++ e
  | .mk k s n l, acc => by
    rw [varsF]
    split
    · exact varsL_ext l acc
    · unfold varsLeaf
      split
      · exact ⟨_, rfl⟩
      · exact ⟨[], by simp⟩
theorem varsL_ext : ∀ (l : List Tm) (acc : List Int), ∃ e, varsL l acc = acc ++ e
  | [], acc => ⟨[], by simp [varsL]⟩
  | t :: l, acc => by
    obtain ⟨e, h⟩ := varsF_ext t acc
    obtain ⟨e', h'⟩ := varsL_ext l (varsF t acc)
    exact ⟨e ++ e', by rw [varsL, h', h, List.append_assoc]⟩
end
mutual
theorem varsF_len : ∀ (t : Tm) (acc : List Int), (varsF t acc).length ≤ acc.length + t.sz
  | .mk k s n l, acc => by
    rw [varsF]
    split
    · have := varsL_len l acc; simp only [Tm.sz]; omega
    · unfold varsLeaf
      split
      · simp only [List.length_append, List.length_cons, List.length_nil, Tm.sz]; omega
      · omega
theorem varsL_len : ∀ (l : List Tm) (acc : List Int), (varsL l acc).length ≤ acc.length + Tm.szs l
  | [], acc => by simp [varsL]
  | t :: l, acc => by
    have h1 := varsF_len t acc
    have h2 := varsL_len l (varsF t acc)
    simp only [varsL, Tm.szs]; omega
end
/-- The variable that holds the row: nil, or what it points to. -/
def HsV : List Int → List AObj
  | [] => [.arr 1 [[.a (.fz .nils)]]]
  | x :: l => [.arr 1 [[.a (.osl 1 1 0 (x :: l).length)]], .arz 1 (IR (x :: l))]
/-- ... behind a call that came with l and leaves l'. -/
def HsW (l l' : List Int) : List AObj := if l' = l then HsV l else if l = [] then HsV l' else [.arr 1 [[.a (.osl 2 1 0 l'.length)]], .gone, .arz 1 (IR l')]
theorem HsV_ne {l : List Int} (h : l ≠ []) : HsV l = [.arr 1 [[.a (.osl 1 1 0 l.length)]], .arz 1 (IR l)] := by
  match l, h with
  | x :: l, _ => rfl
theorem HsV_len (l : List Int) : 1 ≤ (HsV l).length := by cases l <;> simp [HsV]
theorem HsV_live : ∀ (l : List Int) (x : AObj), x ∈ HsV l → isLive x
  | [], x, h => by simp [HsV] at h; subst h; trivial
  | y :: l, x, h => by
    simp only [HsV, List.mem_cons, List.not_mem_nil, or_false] at h
    rcases h with rfl | rfl <;> trivial
theorem HsW_nil (l' : List Int) : HsW [] l' = HsV l' := by unfold HsW; split <;> simp_all
theorem HsW_same (l : List Int) : HsW l l = HsV l := if_pos rfl
theorem HsW_more {l l' : List Int} (h : l ≠ []) (h' : l' ≠ l) : HsW l l' = [.arr 1 [[.a (.osl 2 1 0 l'.length)]], .gone, .arz 1 (IR l')] := by rw [HsW, if_neg h', if_neg h]
theorem takeIR (l : List Int) : List.take l.length (List.drop 0 (IR l)) = IR l := by rw [List.drop_zero, List.take_of_length_le (by rw [IR_length]; exact Nat.le_refl _)]
theorem roomN {n : Nat} (h : n ≤ 2199023255552) : roomB n 8 := by unfold roomB; omega
end Go.AM

set_option maxRecDepth 100000
open Go Go.Proofs
namespace Go.AM

theorem HsW_len (l l' : List Int) : (HsV l).length ≤ (HsW l l').length := by
  by_cases h : l = []
  · subst h; rw [HsW_nil]; exact HsV_len l'
  · by_cases h' : l' = l
    · rw [h', HsW_same]; exact Nat.le_refl _
    · rw [HsW_more h h', HsV_ne h]; simp
theorem HsW_live (l l' : List Int) : ∀ x ∈ (HsW l l').drop (HsV l).length, isLive x := by
  by_cases h : l = []
  · subst h; rw [HsW_nil]; exact fun x hx => HsV_live _ x (List.mem_of_mem_drop hx)
  · by_cases h' : l' = l
    · rw [h', HsW_same]; simp
    · rw [HsW_more h h', HsV_ne h]; simp [isLive]
end Go.AM

set_option maxRecDepth 100000
open Go Go.Proofs
namespace Go.AM

/-! ### The document's answers: letters -/
theorem sign_any (c : UInt8) : signB (c.toNat : Int) = signs.any fun x => ((x.toNat : Int) == (c.toNat : Int)) := by
  have key : ∀ n : Fin 256, signB (n.val : Int) = signs.any fun x => ((x.toNat : Int) == (n.val : Int)) := by decide +kernel
  exact key ⟨c.toNat, c.toNat_lt⟩
theorem sym_eq (s : List UInt8) : isSym s = (s == [44] || s == [59] || s == [33] || ((s.all fun c => signB (c.toNat : Int)) && decide ((s.length : Int) ≥ 1) && decide ((s.length : Int) ≤ 32))) := by
  match s with
  | [] => rfl
  | [c] =>
    have key : ∀ n : Fin 256, isSym [n.val.toUInt8] = ([n.val.toUInt8] == [44] || [n.val.toUInt8] == [59] || [n.val.toUInt8] == [33] || (([n.val.toUInt8].all fun c => signB (c.toNat : Int)) && decide ((([n.val.toUInt8].length : Nat) : Int) ≥ 1) && decide ((([n.val.toUInt8].length : Nat) : Int) ≤ 32))) := by decide +kernel
    have e : c.toNat.toUInt8 = c := by simp
    have := key ⟨c.toNat, c.toNat_lt⟩
    simp only [e] at this
    exact this
  | c :: d :: s =>
    have h2 : ∀ x : UInt8, ((c :: d :: s : List UInt8) == [x]) = false := fun x => by simp
    simp only [isSym, fitsB, h2, Bool.false_or]
    rw [show (((c :: d :: s).length : Int) == 1) = false by simp; omega, show decide (((c :: d :: s).length : Int) ≥ 1) = true by simp; omega]
    simp [Bool.and_comm]
end Go.AM

set_option maxRecDepth 100000
open Go Go.Proofs
namespace Go.AM

/-! ### The document's answers: terms -/
theorem c_rinner (t : Tm) : AC Try.prog 56 [aT t] [] (cb t.inner) [] := by
  obtain ⟨k, s, n, l⟩ := t
  refine AC.vc hP sh lv56 (Nat.le_refl _) (by simp) (by simp) (Eq.mpr (v56 k s n (FTs l) _ _) ?_)
  refine br_of (fun h => ret_b ?_) (fun h => ret_b ?_)
  · unfold Tm.inner; simp only [Tm.k, h, Bool.true_or]
  · unfold Tm.inner; simp only [Tm.k, h, Bool.false_or]
theorem c_runder (t : Tm) (k : Int) (h0 : 0 ≤ k) (h1 : k ≤ 4611686018427387904) : AC Try.prog 57 [aT t, ci k] [] (ci (k + t.by)) [] := by
  obtain ⟨kd, s, n, l⟩ := t
  refine AC.vc hP sh lv57 (Nat.le_refl _) (by simp) (by simp) (Eq.mpr (v57 kd s n (FTs l) k _ _) ?_)
  rw [w64 (x := k + 1) (by omega) (by omega)]
  refine br_of (fun h => ret_i ?_) (fun h => ret_i ?_)
  · unfold Tm.by; simp only [Tm.k, h, if_true]
  · unfold Tm.by; simp only [Tm.k, h, Bool.false_eq_true, if_false]; omega
/-! Valid. -/
/-! Same. -/
end Go.AM

set_option maxRecDepth 100000
open Go Go.Proofs
namespace Go.AM

/-! Size, looseness, variables. -/
mutual
def looseR : Tm → Int → Int
  | .mk kd _ n l, k => if (kd == 3) = true then maxI 0 (n - k + 1) else if (kd == 5 || kd == 6) = true then looseRL l (k + if (kd == 5) = true then 1 else 0) else 0
def looseRL : List Tm → Int → Int
  | [], _ => 0
  | t :: l, k => maxI (looseR t k) (looseRL l k)
end
theorem maxI_assoc (a b c : Int) : maxI (maxI a b) c = maxI a (maxI b c) := by
  unfold maxI; (repeat' split) <;> omega
theorem maxI0 {a : Int} (h : 0 ≤ a) : maxI a 0 = a := by unfold maxI; split <;> omega
theorem maxI_ge2 (a b : Int) : b ≤ maxI a b := by unfold maxI; split <;> omega
theorem looseRL_ge : ∀ (l : List Tm) (k : Int), 0 ≤ looseRL l k
  | [], _ => Int.le_refl _
  | t :: l, k => by rw [looseRL]; exact Int.le_trans (looseRL_ge l k) (maxI_ge2 _ _)
theorem maxI_ge (a b : Int) : a ≤ maxI a b := by unfold maxI; split <;> omega
mutual
theorem loose_acc : ∀ (t : Tm) (k acc : Int), 0 ≤ acc → looseF t k acc = maxI acc (looseR t k)
  | .mk kd _ n l, k, acc, h => by
    simp only [looseF, looseR]
    by_cases h5 : (kd == 5) = true
    · have e : kd = 5 := by simpa using h5
      subst e
      simp [loose_accs l _ acc h]
    · by_cases h6 : (kd == 6) = true
      · have e : kd = 6 := by simpa using h6
        subst e
        simp [loose_accs l _ acc h]
      · have e5 : (kd == 5) = false := by simpa using h5
        have e6 : (kd == 6) = false := by simpa using h6
        rw [if_neg h5, if_neg h6]
        by_cases h3 : (kd == 3) = true
        · rw [if_pos h3, if_pos h3, ← maxI_assoc, maxI0 h]
        · rw [if_neg h3, if_neg h3, if_neg (by rw [e5, e6]; simp), maxI0 h]
theorem loose_accs : ∀ (l : List Tm) (k acc : Int), 0 ≤ acc → looseL l k acc = maxI acc (looseRL l k)
  | [], _, acc, h => by rw [looseL, looseRL, maxI0 h]
  | t :: l, k, acc, h => by
    have h1 := loose_acc t k acc h
    rw [looseL, looseRL, h1, loose_accs l k _ (Int.le_trans h (maxI_ge _ _)), maxI_assoc]
end
end Go.AM

set_option maxRecDepth 100000
open Go Go.Proofs
namespace Go.AM

/-! ### How often something is bound -/
mutual
def occF : Tm → Int → Nat
  | .mk k _ n l, i => if (k == 3) = true ∧ (n == i) = true then 1 else occL l (i + if (k == 5) = true then 1 else 0)
def occL : List Tm → Int → Nat
  | [], _ => 0
  | t :: l, i => occF t i + occL l i
end
mutual
theorem occF_le : ∀ (t : Tm) (i : Int), occF t i ≤ t.sz
  | .mk k s n l, i => by
    rw [occF]
    have := occL_le l (i + if (k == 5) = true then 1 else 0)
    split <;> simp only [Tm.sz] <;> omega
theorem occL_le : ∀ (l : List Tm) (i : Int), occL l i ≤ Tm.szs l
  | [], _ => Nat.le_refl _
  | t :: l, i => by have := occF_le t i; have := occL_le l i; simp only [occL, Tm.szs]; omega
end
/-! Copies. -/
/-! The document's. -/
end Go.AM

set_option maxRecDepth 100000
open Go Go.Proofs
namespace Go.AM

/-! ### A body with an argument -/
/-- A term and an error's number. -/
abbrev aTE (t : Tm) (e : Int) : TV := .tup [(true, [.a (.fz (.int .i64 t.k)), .a (.fz (.str t.s)), .a (.fz (.int .i64 t.n)), .a (.fz (.sl false 4 (FTs t.l)))]), (false, [.a (.fz (.int .i64 e))])]
abbrev noT : Tm := .mk 0 [] 0 []
theorem leTE {k n e : Int} {s : List UInt8} {x : FV} {l : List Tm} (h : FV.Le x (.sl false 4 (FTs l))) : TV.Le (.tup [(true, [.a (.fz (.int .i64 k)), .a (.fz (.str s)), .a (.fz (.int .i64 n)), .a (.fz x)]), (false, [.a (.fz (.int .i64 e))])]) (aTE (.mk k s n l) e) := by
  refine .tup _ _ rfl fun i p q hp hq => ?_
  match i, hp, hq with
  | 0, hp, hq =>
    simp only [List.getElem?_cons_zero, Option.some.injEq] at hp hq
    subst hp; subst hq
    refine ⟨rfl, rfl, fun j x y hx hy => ?_⟩
    match j, hx, hy with
    | 0, hx, hy => simp at hx hy; subst hx; subst hy; exact .refl _
    | 1, hx, hy => simp at hx hy; subst hx; subst hy; exact .refl _
    | 2, hx, hy => simp at hx hy; subst hx; subst hy; exact .refl _
    | 3, hx, hy => simp at hx hy; subst hx; subst hy; exact .a _ _ (.fz _ _ h)
    | j + 4, hx, _ => simp at hx
  | 1, hp, hq =>
    simp only [List.getElem?_cons_zero, List.getElem?_cons_succ, Option.some.injEq] at hp hq
    subst hp; subst hq
    refine ⟨rfl, rfl, fun j x y hx hy => ?_⟩
    match j, hx, hy with
    | 0, hx, hy => simp at hx hy; subst hx; subst hy; exact .refl _
    | j + 1, hx, _ => simp at hx
  | i + 2, hp, _ => simp at hp
/-- Is there room? -/
def roomT (body arg : Tm) : Bool := !decide ((sizeF body : Int) + (occF body 0 : Int) * (sizeF arg : Int) > 4096)
def conF (body arg : Tm) : Tm := if roomT body arg = true then suT 0 arg body 0 else noT
def conE (body arg : Tm) : Int := if roomT body arg = true then 0 else 80

end Go.AM

set_option maxRecDepth 100000
open Go Go.Proofs
namespace Go.AM

/-! ### Redexes -/
def hd (l : List Tm) : Tm := l.headD default
def redexB (t : Tm) : Bool := t.k == 6 && (hd t.l).k == 5
mutual
/-- Its kinds have as many within as they must. -/
def okB : Tm → Bool
  | .mk k s n l => (if (k == 6) = true then decide (2 ≤ l.length) && (hd l).k != 6 && (s == [] && n == 0) else if (k == 5) = true then decide (l.length = 1) && (s == [] && n == 0) else decide (l.length = 0)) && okL l
def okL : List Tm → Bool
  | [] => true
  | t :: l => okB t && okL l
end
theorem okL_mem : ∀ {l : List Tm} {t : Tm}, okL l = true → t ∈ l → okB t = true
  | x :: l, t, h, hm => by
    simp only [okL, Bool.and_eq_true] at h
    rcases List.mem_cons.1 hm with rfl | hm
    · exact h.1
    · exact okL_mem h.2 hm
theorem okL_of : ∀ {l : List Tm}, (∀ t ∈ l, okB t = true) → okL l = true
  | [], _ => rfl
  | t :: l, h => by simp only [okL, h t List.mem_cons_self, okL_of (l := l) fun u hu => h u (List.mem_cons_of_mem _ hu), Bool.and_self]
theorem okB6 {k n : Int} {s : List UInt8} {l : List Tm} (h : okB (.mk k s n l) = true) (hk : k = 6) : ∃ x y r, l = x :: y :: r ∧ x.k ≠ 6 ∧ okL l = true := by
  subst hk
  simp only [okB, Bool.and_eq_true] at h
  match l, h with
  | [], h => simp at h
  | [x], h => simp at h
  | x :: y :: r, h => exact ⟨x, y, r, rfl, by have := h.1; simp [hd] at this; exact this.1, h.2⟩
theorem okB5 {k n : Int} {s : List UInt8} {l : List Tm} (h : okB (.mk k s n l) = true) (hk : k = 5) : ∃ x, l = [x] ∧ okB x = true := by
  subst hk
  simp only [okB, Bool.and_eq_true] at h
  match l, h with
  | [], h => simp at h
  | [x], h => exact ⟨x, rfl, by have := h.2; simpa [okL] using this⟩
  | x :: y :: r, h => simp at h
theorem okB0 {k n : Int} {s : List UInt8} {l : List Tm} (h : okB (.mk k s n l) = true) (h5 : k ≠ 5) (h6 : k ≠ 6) : l = [] := by
  simp only [okB, Bool.and_eq_true] at h
  have := h.1
  rw [if_neg (by simpa using h6), if_neg (by simpa using h5)] at this
  exact List.eq_nil_of_length_eq_zero (by simpa using this)
theorem okB_sn {k n : Int} {s : List UInt8} {l : List Tm} (h : okB (.mk k s n l) = true) (hk : k = 5 ∨ k = 6) : s = [] ∧ n = 0 := by
  simp only [okB, Bool.and_eq_true] at h
  have h := h.1
  rcases hk with rfl | rfl
  · simp at h; exact h.2
  · simp at h; exact h.2
theorem okB_l {t : Tm} (h : okB t = true) : okL t.l = true := by
  obtain ⟨k, s, n, l⟩ := t
  simp only [okB, Bool.and_eq_true] at h; exact h.2
mutual
theorem valid_ok : ∀ t : Tm, validB t = true → okB t = true
  | .mk k s n l, h => by
    rw [okB]
    have hl := valid_okL l
    rw [validB] at h
    split at h
    · rename_i e
      have e : k = 0 := by simpa using e
      subst e
      rw [lenI] at h
      have : l = [] := by simp at h; exact h.2
      subst this; rfl
    split at h
    · rename_i e
      have e : k = 1 := by simpa using e
      subst e
      rw [lenI] at h
      have : l = [] := by simp at h; exact h.1.2
      subst this; rfl
    split at h
    · rename_i e
      have e : k = 2 := by simpa using e
      subst e
      rw [lenI] at h
      have : l = [] := by simp at h; exact h.1.2
      subst this; rfl
    split at h
    · rename_i e
      have e : k = 3 := by simpa using e
      subst e
      rw [lenI] at h
      have : l = [] := by simp at h; exact h.1.2
      subst this; rfl
    split at h
    · rename_i e
      have e : k = 4 := by simpa using e
      subst e
      rw [lenI] at h
      have : l = [] := by simp at h; exact h.1.2
      subst this; rfl
    split at h
    · rename_i e
      have e : k = 5 := by simpa using e
      subst e
      rw [lenI] at h
      simp only [Bool.and_eq_true, beq_iff_eq] at h
      have h1 : l.length = 1 := by have := h.1.2; omega
      rw [hl h.2]
      simp [h1, h.1.1.1, h.1.1.2]
    split at h
    · rename_i e
      have e : k = 6 := by simpa using e
      subst e
      rw [lenI] at h
      simp only [Bool.and_eq_true, decide_eq_true_eq, beq_iff_eq] at h
      have h1 : 2 ≤ l.length := by have := h.1.1.1.2; omega
      have h2 : ((hd l).k != 6) = true := h.1.1.2
      rw [hl h.2, h2]
      simp [h1, h.1.1.1.1, h.1.2]
    · cases h
theorem valid_okL : ∀ l : List Tm, validL l = true → okL l = true
  | [], _ => rfl
  | t :: l, h => by
    simp only [validL, Bool.and_eq_true] at h
    simp only [okL, valid_ok t h.1, valid_okL l h.2, Bool.and_self]
end
theorem ok_ne {t : Tm} (h : okB t = true) : t.k = 6 → t.l ≠ [] := by
  obtain ⟨k, s, n, l⟩ := t
  intro hk
  obtain ⟨x, y, r, e, _⟩ := okB6 h hk
  show l ≠ []
  rw [e]; simp
/-! ### Normal -/
mutual
def normB : Tm → Bool
  | .mk k s n l => !redexB (.mk k s n l) && normL l
def normL : List Tm → Bool
  | [] => true
  | t :: l => normB t && normL l
end
def rednAt : List Tm → Int → Int
  | [], _ => -1
  | t :: l, i => if normB t = true then rednAt l (i + 1) else i
theorem rednAt_ge : ∀ (l : List Tm) (i : Int), 0 ≤ i → decide (rednAt l i ≥ 0) = !normL l
  | [], _, _ => rfl
  | t :: l, i, h => by
    rw [rednAt, normL]
    split
    · rename_i e; rw [rednAt_ge l (i + 1) (by omega), e, Bool.true_and]
    · rename_i e; rw [show normB t = false by simpa using e]; simp; omega
end Go.AM

set_option maxRecDepth 100000
open Go Go.Proofs
namespace Go.AM

/-! ### The document's: applied, with others within, shifted, put in -/
/-- No term's cells. -/
abbrev zT : List WV := [.a (.fz (.int .i64 0)), .a (.fz (.str [])), .a (.fz (.int .i64 0)), .a (.fz .nils)]
theorem apply_some (k : Int) (s : List UInt8) (n : Int) (l : List Tm) (a : Tm) (r : List Tm) : applyF (.mk k s n l) (a :: r) = if (k == 6) = true ∧ l ≠ [] then .mk 6 [] 0 (l ++ a :: r) else .mk 6 [] 0 (.mk k s n l :: a :: r) := rfl
theorem c_rapply (f : Tm) (args : List Tm) (h : f.l.length + args.length < 2199023255551) : AC Try.prog 76 [aT f, aL args] [] (aT (applyF f args)) [] := by
  obtain ⟨k, s, n, l⟩ := f
  simp only [Tm.l] at h
  refine AC.vc hP sh lv76 (Nat.le_refl _) (by simp) (by simp) (Eq.mpr (v76 k s n (FTs l) (FTs args) _ _) ?_)
  match args, h with
  | [], h => exact ⟨rfl, br_of (fun _ => ret_r (.refl _)) (fun h1 => absurd h1 (by simp [FTs]))⟩
  | a :: r, h =>
    have e0 : List.isEmpty (FTs (a :: r)) = false := rfl
    have one : ∀ (h2 : ¬ ((k == 6) = true ∧ l ≠ [])), (1 ≤ 1 ∧ roomB 1 56 ∧ (FV.isSl 4 (.sl false 4 (FTs (a :: r))) = true ∧ ((1 ≤ 1 ∧ roomB (1 + (FTs (a :: r)).length) 56) ∧ (((4 : Nat) = 4 ∧ (0 + (1 + (FTs (a :: r)).length)) ≤ (([[.int .i64 k, .str s, .int .i64 n, .sl false 4 (FTs l)]] : List (List FV)) ++ FTs (a :: r)).length) ∧
        (TV.Le (.agg [.a (.fz (.int .i64 6)), .a (.fz (.str [])), .a (.fz (.int .i64 0)), .a (.fz (.sl false 4 (List.take (1 + (FTs (a :: r)).length) (List.drop 0 ([[.int .i64 k, .str s, .int .i64 n, .sl false 4 (FTs l)]] ++ FTs (a :: r))))))]) (aT (applyF (.mk k s n l) (a :: r))) ∧ ([] : List AObj) = []))))) := fun h2 => by
      refine ⟨Nat.le_refl _, by unfold roomB; omega, rfl, ⟨Nat.le_refl _, ?_⟩, ⟨rfl, by simp; omega⟩, ?_, rfl⟩
      · rw [FTs_length]; exact roomI (by omega)
      · rw [take_cons, apply_some, if_neg h2]
        exact leT (leSl (l := .mk k s n l :: a :: r))
    refine ⟨rfl, br_of (fun h1 => absurd h1 (by simp [FTs]; omega)) (fun _ => br_of (fun h2 => ⟨rfl, br_of (fun h3 => ⟨rfl, br_of (fun h4 => ?_) (fun h4 => ?_)⟩) (fun h3 => one ?_)⟩) (fun h2 => one ?_))⟩
    · rw [lenI] at h3
      have h3 := of_decide_eq_true h3
      match l, h3, h4 with
      | [], h3, _ => simp at h3
      | x :: l, _, h4 => cases h4
    · have hl : l ≠ [] := by rintro rfl; cases h4
      refine ⟨?_, rfl, ⟨Nat.le_refl _, ?_⟩, ⟨rfl, ?_⟩, ?_, rfl⟩
      · rw [FTs_length]; exact roomI (by omega)
      · rw [FTs_length, FTs_length]; exact roomI (by omega)
      · rw [List.take_of_length_le (Nat.le_refl _), List.length_append]; omega
      · rw [take_app, ← FTs_append, apply_some, if_pos ⟨h2, hl⟩]
        exact leT leSl
    · rintro ⟨_, hl⟩
      rw [lenI] at h3
      have h3 := of_decide_eq_false h3
      exact hl (List.eq_nil_of_length_eq_zero (by omega))
    · rintro ⟨h2', _⟩
      have h2 : (k == 6) = false := h2
      have h2' : (k == 6) = true := h2'
      rw [h2] at h2'; cases h2'
theorem c_rwith (t : Tm) (o : List Tm) (ho : o.length ≤ B) (ht : o.length = t.l.length) (hl : (hd o).l.length ≤ B) : AC Try.prog 58 [aT t, aL o] [] (aT (withF t o)) [] := by
  obtain ⟨k, s, n, l⟩ := t
  simp only [Tm.l] at ht
  refine AC.vc hP sh lv58 (Nat.le_refl _) (by simp) (by simp) (Eq.mpr (v58 k s n (FTs l) (FTs o) _ _) ?_)
  have no : ¬ ((k == 6) = true ∧ 1 < o.length ∧ ((o.headD default).k == 6) = true ∧ ((l.headD default).k != 6) = true) → withF (.mk k s n l) o = .mk k s n o := fun h => if_neg h
  rw [lenI]
  refine br_of (fun h1 => ⟨rfl, br_of (fun h2 => ?_) (fun h2 => ?_)⟩) (fun h1 => ?_)
  · have h2' := of_decide_eq_true h2
    match o, l, ht, ho, hl, h2' with
    | x :: y :: r, [], ht, _, _, _ => simp at ht
    | x :: y :: r, u :: l, ht, ho, hl, _ =>
      have hx : aE (List.getD (FTs (x :: y :: r)) 0 []) = aT x := aE_FT x
      have hx0 : FV.asI (List.getD (List.getD (FTs (x :: y :: r)) 0 []) 0 FV.nils) = x.k := by cases x; rfl
      have hu0 : FV.asI (List.getD (List.getD (FTs (u :: l)) 0 []) 0 FV.nils) = u.k := by cases u; rfl
      have el : ∀ (z : Tm) (w : List Tm), FV.isSl 4 (.sl false 4 (FTs (z :: w))) = true ∧ ((0 : Int) ≤ 0 ∧ ((0 : Int) < (((z :: w).length : Nat) : Int) ∧ (rE (List.getD (FTs (z :: w)) 0 []) : List FV) = List.getD (FTs (z :: w)) 0 [])) := fun z w => ⟨rfl, Int.le_refl _, by simp only [List.length_cons]; omega, rE_FT z⟩
      rw [hx0, hu0, hx]
      simp only [List.length_cons, B, hd, List.headD_cons] at ho hl
      refine ⟨el x (y :: r), br_of (fun h3 => ⟨by rw [lenI]; exact el u l, br_of (fun h4 => ⟨el x (y :: r), rfl, ⟨by omega, by simp; omega, Int.le_refl _⟩, ?_⟩) (fun h4 => ret_t (no ?_).symm)⟩) (fun h3 => ret_t (no ?_).symm)⟩
      · have ha := c_rapply x (y :: r) (by simp only [List.length_cons]; omega)
        have e : List.drop 1 (List.take (Int.toNat ((x :: y :: r).length : Int)) (FTs (x :: y :: r))) = FTs (y :: r) := by
          rw [toNat_len, List.take_of_length_le (by rw [FTs_length]; exact Nat.le_refl _)]; rfl
        rw [e]
        refine ⟨_, ha, ret_t ?_⟩
        rw [withF, if_pos ⟨h1, by simp, h3, h4⟩]; rfl
      · rintro ⟨_, _, _, h⟩
        have h4 : (u.k != 6) = false := h4
        rw [show (List.headD (u :: l) default) = u from rfl, h4] at h; cases h
      · rintro ⟨_, _, h, _⟩
        have h3 : (x.k == 6) = false := h3
        rw [show (List.headD (x :: y :: r) default) = x from rfl, h3] at h; cases h
  · exact ret_t (no (fun h => absurd (of_decide_eq_false h2) (by have := h.2.1; omega))).symm
  · exact ret_t (no (fun h => by have h0 := h.1; have h1 : (k == 6) = false := h1; rw [h1] at h0; cases h0)).symm
theorem l_rshb (x1 x2 : Int) (k : Int) (kd : Int) (s : List UInt8) (n : Int) (hk0 : 0 ≤ k) (hk1 : k ≤ M61) (e : Int) (he : e = k + (if (kd == 5) = true then 1 else 0)) : ∀ (b a acc : List Tm), acc.length = a.length → (∀ u ∈ b, AC Try.prog 32 [aT u, ci x1, ci x2, ci e] [] (aT (walkF (shLeaf x1 x2) u e)) []) → (a ++ b).length ≤ B → (hd (acc ++ walkL (shLeaf x1 x2) b e)).l.length ≤ B →
    RPt Try.prog 32 0 (aT (withF (.mk kd s n (a ++ b)) (acc ++ walkL (shLeaf x1 x2) b e))) [] 1 ⟨[(1, ci x1), (2, ci x2), (3, ci k), (4, .c (.a (.ep 0 4 0 0))), (8, .c (.a (.ep 1 4 0 0))), (10, .c (.a (.osl 2 4 0 acc.length))), (11, ci a.length)], [(0, .arr 4 [fzs (FT (.mk kd s n (a ++ b)))]),  (1, .arr 4 [zT]), (2, .arz 4 (FTs acc))], 3⟩
  | [], a, acc, hlen, _, hl, hh => by
    simp only [walkL, List.append_nil] at hh hl ⊢
    have hw := c_rwith (.mk kd s n a) acc (by omega) hlen hh
    refine RPt.vc hP sh lv32 (Eq.mpr (v32_1b ..) ?_)
    refine ⟨rfl, br_of (fun h => absurd (of_decide_eq_true h) (by rw [FTs_length]; omega)) (fun _ => ⟨⟨rfl, by rw [FTs_length]; omega⟩, _, hw.args ⟨.refl _, ?_, trivial⟩, ret_r (.refl _)⟩)⟩
    rw [show List.take acc.length (List.drop 0 (FTs acc)) = FTs acc by rw [List.drop_zero, List.take_of_length_le (by rw [FTs_length]; omega)]]
    exact le_c leSl
  | t :: b, a, acc, hlen, ih, hl, hh => by
    have hl' := hl
    simp only [List.length_append, List.length_cons, B] at hl'
    have h1 := ih t List.mem_cons_self
    have h2 := l_rshb x1 x2 k kd s n hk0 hk1 e he b (a ++ [t]) (acc ++ [walkF (shLeaf x1 x2) t e]) (by simp [hlen]) (fun u hu => ih u (List.mem_cons_of_mem _ hu)) (by rw [ap]; exact hl) (by rw [ap]; exact hh)
    have h3 := ltI' a t b
    have hu := c_runder (.mk kd s n (a ++ t :: b)) k hk0 (by simp only [M61] at hk1; omega)
    rw [ap, ap, nx] at h2
    rw [walkL]
    refine RPt.vc hP sh lv32 (Eq.mpr (v32_1b ..) ?_)
    rw [aE_mid, w64 (x := (a.length : Int) + 1) (by omega) (by omega)]
    refine ⟨rfl, br_of (fun _ => ⟨⟨rfl, by omega, h3, rE_mid ..⟩, _, hu, walkF (shLeaf x1 x2) t e, ?_, Nat.le_refl _, ⟨by rw [FTs_length]; omega, roomI (by omega)⟩, ?_⟩) (fun h => absurd h3 (of_decide_eq_false h))⟩
    · rw [show k + Tm.by (.mk kd s n (a ++ t :: b)) = e from he.symm]; exact h1
    · have e5 : List.take acc.length (FTs acc) ++ [FT4 (walkF (shLeaf x1 x2) t e)] = FTs (acc ++ [walkF (shLeaf x1 x2) t e]) := by rw [List.take_of_length_le (by rw [FTs_length]; omega), FT4_eq, FTs_append]; rfl
      rw [e5]
      rw [List.length_append] at h2
      exact h2
theorem l_rsha (x1 x2 : Int) (k : Int) (kd : Int) (s : List UInt8) (n : Int) (hk0 : 0 ≤ k) (hk1 : k ≤ M61) (e : Int) (he : e = k + (if (kd == 5) = true then 1 else 0)) (b : List Tm) (ih : ∀ u ∈ b, AC Try.prog 32 [aT u, ci x1, ci x2, ci e] [] (aT (walkF (shLeaf x1 x2) u e)) []) (hl : b.length ≤ B) (hh : (hd (walkL (shLeaf x1 x2) b e)).l.length ≤ B) :
    RPt Try.prog 32 0 (aT (withF (.mk kd s n b) (walkL (shLeaf x1 x2) b e))) [] 1 ⟨[(1, ci x1), (2, ci x2), (3, ci k), (4, .c (.a (.ep 0 4 0 0))), (8, .c (.a (.ep 1 4 0 0))), (10, .c (.a (.fz .nils))), (11, ci 0)], [(0, .arr 4 [fzs (FT (.mk kd s n b))]),  (1, .arr 4 [zT])], 2⟩ := by
  refine RPt.vc hP sh lv32 (Eq.mpr (v32_1a ..) ?_)
  match b, ih, hl, hh with
  | [], ih, hl, hh =>
    have hw := c_rwith (.mk kd s n []) [] (by simp) rfl hh
    exact ⟨rfl, br_of (fun h => absurd (of_decide_eq_true h) (by rw [FTs_length]; simp)) (fun _ => ⟨_, hw.args ⟨.refl _, le_c leNil, trivial⟩, ret_r (.refl _)⟩)⟩
  | t :: b, ih, hl, hh =>
    have hl' := hl
    simp only [List.length_cons, B] at hl'
    have h1 := ih t List.mem_cons_self
    have h2 := l_rshb x1 x2 k kd s n hk0 hk1 e he b [t] [walkF (shLeaf x1 x2) t e] rfl (fun u hu => ih u (List.mem_cons_of_mem _ hu)) hl hh
    have h3 := ltI' [] t b
    have hu := c_runder (.mk kd s n (t :: b)) k hk0 (by simp only [M61] at hk1; omega)
    rw [show aE (List.getD (FTs (t :: b)) (Int.toNat 0) []) = aT t from aE_FT t, w64 (by omega) (by omega)]
    refine ⟨rfl, br_of (fun _ => ⟨⟨rfl, by omega, h3, rE_FT t⟩, _, hu, walkF (shLeaf x1 x2) t e, ?_, Nat.le_refl _, roomI (by omega), ?_⟩) (fun h => absurd h3 (of_decide_eq_false h))⟩
    · rw [show k + Tm.by (.mk kd s n (t :: b)) = e from he.symm]; exact h1
    · rw [FT4_eq]; exact h2
theorem l_rsub (x1 : Int) (st : Tm) (k : Int) (kd : Int) (s : List UInt8) (n : Int) (hk0 : 0 ≤ k) (hk1 : k ≤ M61) (e : Int) (he : e = k + (if (kd == 5) = true then 1 else 0)) : ∀ (b a acc : List Tm), acc.length = a.length → (∀ u ∈ b, AC Try.prog 33 [aT u, ci x1, aT st, ci e] [] (aT (walkF (suLeaf x1 st) u e)) []) → (a ++ b).length ≤ B → (hd (acc ++ walkL (suLeaf x1 st) b e)).l.length ≤ B →
    RPt Try.prog 33 0 (aT (withF (.mk kd s n (a ++ b)) (acc ++ walkL (suLeaf x1 st) b e))) [] 1 ⟨[(1, ci x1), (3, ci k), (4, .c (.a (.ep 0 4 0 0))), (6, .c (.a (.ep 1 4 0 0))), (8, .c (.a (.ep 2 4 0 0))), (10, .c (.a (.osl 3 4 0 acc.length))), (11, ci a.length)], [(0, .arr 4 [fzs (FT (.mk kd s n (a ++ b)))]), (1, .arr 4 [cT st]), (2, .arr 4 [zT]), (3, .arz 4 (FTs acc))], 4⟩
  | [], a, acc, hlen, _, hl, hh => by
    simp only [walkL, List.append_nil] at hh hl ⊢
    have hw := c_rwith (.mk kd s n a) acc (by omega) hlen hh
    refine RPt.vc hP sh lv33 (Eq.mpr (v33_1b ..) ?_)
    refine ⟨rfl, br_of (fun h => absurd (of_decide_eq_true h) (by rw [FTs_length]; omega)) (fun _ => ⟨⟨rfl, by rw [FTs_length]; omega⟩, _, hw.args ⟨.refl _, ?_, trivial⟩, ret_r (.refl _)⟩)⟩
    rw [show List.take acc.length (List.drop 0 (FTs acc)) = FTs acc by rw [List.drop_zero, List.take_of_length_le (by rw [FTs_length]; omega)]]
    exact le_c leSl
  | t :: b, a, acc, hlen, ih, hl, hh => by
    have hl' := hl
    simp only [List.length_append, List.length_cons, B] at hl'
    have h1 := ih t List.mem_cons_self
    have h2 := l_rsub x1 st k kd s n hk0 hk1 e he b (a ++ [t]) (acc ++ [walkF (suLeaf x1 st) t e]) (by simp [hlen]) (fun u hu => ih u (List.mem_cons_of_mem _ hu)) (by rw [ap]; exact hl) (by rw [ap]; exact hh)
    have h3 := ltI' a t b
    have hu := c_runder (.mk kd s n (a ++ t :: b)) k hk0 (by simp only [M61] at hk1; omega)
    rw [ap, ap, nx] at h2
    rw [walkL]
    refine RPt.vc hP sh lv33 (Eq.mpr (v33_1b ..) ?_)
    rw [aE_mid, w64 (x := (a.length : Int) + 1) (by omega) (by omega)]
    refine ⟨rfl, br_of (fun _ => ⟨⟨rfl, by omega, h3, rE_mid ..⟩, _, hu, walkF (suLeaf x1 st) t e, ?_, Nat.le_refl _, ⟨by rw [FTs_length]; omega, roomI (by omega)⟩, ?_⟩) (fun h => absurd h3 (of_decide_eq_false h))⟩
    · rw [show k + Tm.by (.mk kd s n (a ++ t :: b)) = e from he.symm]; exact h1
    · have e5 : List.take acc.length (FTs acc) ++ [FT4 (walkF (suLeaf x1 st) t e)] = FTs (acc ++ [walkF (suLeaf x1 st) t e]) := by rw [List.take_of_length_le (by rw [FTs_length]; omega), FT4_eq, FTs_append]; rfl
      rw [e5]
      rw [List.length_append] at h2
      exact h2
theorem l_rsua (x1 : Int) (st : Tm) (k : Int) (kd : Int) (s : List UInt8) (n : Int) (hk0 : 0 ≤ k) (hk1 : k ≤ M61) (e : Int) (he : e = k + (if (kd == 5) = true then 1 else 0)) (b : List Tm) (ih : ∀ u ∈ b, AC Try.prog 33 [aT u, ci x1, aT st, ci e] [] (aT (walkF (suLeaf x1 st) u e)) []) (hl : b.length ≤ B) (hh : (hd (walkL (suLeaf x1 st) b e)).l.length ≤ B) :
    RPt Try.prog 33 0 (aT (withF (.mk kd s n b) (walkL (suLeaf x1 st) b e))) [] 1 ⟨[(1, ci x1), (3, ci k), (4, .c (.a (.ep 0 4 0 0))), (6, .c (.a (.ep 1 4 0 0))), (8, .c (.a (.ep 2 4 0 0))), (10, .c (.a (.fz .nils))), (11, ci 0)], [(0, .arr 4 [fzs (FT (.mk kd s n b))]), (1, .arr 4 [cT st]), (2, .arr 4 [zT])], 3⟩ := by
  refine RPt.vc hP sh lv33 (Eq.mpr (v33_1a ..) ?_)
  match b, ih, hl, hh with
  | [], ih, hl, hh =>
    have hw := c_rwith (.mk kd s n []) [] (by simp) rfl hh
    exact ⟨rfl, br_of (fun h => absurd (of_decide_eq_true h) (by rw [FTs_length]; simp)) (fun _ => ⟨_, hw.args ⟨.refl _, le_c leNil, trivial⟩, ret_r (.refl _)⟩)⟩
  | t :: b, ih, hl, hh =>
    have hl' := hl
    simp only [List.length_cons, B] at hl'
    have h1 := ih t List.mem_cons_self
    have h2 := l_rsub x1 st k kd s n hk0 hk1 e he b [t] [walkF (suLeaf x1 st) t e] rfl (fun u hu => ih u (List.mem_cons_of_mem _ hu)) hl hh
    have h3 := ltI' [] t b
    have hu := c_runder (.mk kd s n (t :: b)) k hk0 (by simp only [M61] at hk1; omega)
    rw [show aE (List.getD (FTs (t :: b)) (Int.toNat 0) []) = aT t from aE_FT t, w64 (by omega) (by omega)]
    refine ⟨rfl, br_of (fun _ => ⟨⟨rfl, by omega, h3, rE_FT t⟩, _, hu, walkF (suLeaf x1 st) t e, ?_, Nat.le_refl _, roomI (by omega), ?_⟩) (fun h => absurd h3 (of_decide_eq_false h))⟩
    · rw [show k + Tm.by (.mk kd s n (t :: b)) = e from he.symm]; exact h1
    · rw [FT4_eq]; exact h2

theorem c_rshift (fr by_ : Int) (hf0 : 0 ≤ fr) (hf1 : fr ≤ M61) (hb0 : 0 - 1 ≤ by_) (hb1 : by_ ≤ M61) : ∀ (t : Tm) (k : Int), t.sz ≤ B → bd M61 t → 0 ≤ k → k + t.sz ≤ M61 → AC Try.prog 32 [aT t, ci fr, ci by_, ci k] [] (aT (shT fr by_ t k)) [] := by
  refine Tm.ind fun t ih k hs hb h0 h1 => ?_
  have hlen := Tm.szs_length t.l
  have hi := c_rinner t
  have hsz := shT_sz fr by_
  obtain ⟨kd, s, n, l⟩ := t
  simp only [Tm.sz, Tm.l, M61, B] at hs hlen h1 hf1 hb1
  have hin : Tm.inner (.mk kd s n l) = (kd == 5 || kd == 6) := rfl
  have leaf : (kd == 5 || kd == 6) = false → shT fr by_ (.mk kd s n l) k = shLeaf fr by_ (.mk kd s n l) k := fun h => walkF_leaf _ kd s n l k h
  refine AC.vc hP sh lv32 (Nat.le_refl _) (by simp) (by simp) (Eq.mpr (v32 kd s n (FTs l) fr by_ k _ _) ?_)
  rw [w64 (x := k + fr) (by omega) (by omega)]
  have go : kd ≠ 3 → (kd == 5 || kd == 6) = true → RPt Try.prog 32 0 (aT (shT fr by_ (.mk kd s n l) k)) [] 1 ⟨[(1, ci fr), (2, ci by_), (3, ci k), (4, .c (.a (.ep 0 4 0 0))), (8, .c (.a (.ep 1 4 0 0))), (10, .c (.a (.fz .nils))), (11, ci 0)], [(0, .arr 4 [fzs (FT (.mk kd s n l))]), (1, .arr 4 [zT])], 2⟩ := fun _ h => by
    rw [shT, walkF, if_pos h]
    have hk5 : (0 : Int) ≤ (if (kd == 5) = true then 1 else 0) ∧ (if (kd == 5) = true then (1 : Int) else 0) ≤ 1 := by split <;> omega
    refine l_rsha fr by_ k kd s n h0 (by simp only [M61]; omega) _ rfl l (fun u hu => ?_) (by simp only [B]; omega) ?_
    · have := Tm.szs_mem hu
      exact ih u hu _ (by simp only [B]; omega) (bds_mem hb.2 hu) (by omega) (by simp only [M61]; omega)
    · match l, hs with
      | [], _ => simp [walkL, hd]; exact Nat.zero_le _
      | u :: r, hs =>
        simp only [Tm.szs] at hs
        have h2 := hsz u (k + if (kd == 5) = true then 1 else 0)
        have h3 := Tm.szs_length (shT fr by_ u (k + if (kd == 5) = true then 1 else 0)).l
        have h4 := (shT fr by_ u (k + if (kd == 5) = true then 1 else 0)).sz_eq
        show (shT fr by_ u (k + if (kd == 5) = true then 1 else 0)).l.length ≤ B
        simp only [B]; omega
  refine br_of (fun e3 => br_of (fun h2 => ?_) (fun h2 => ⟨_, hi, br_of (fun h3 => ?_) (fun h3 => ?_)⟩)) (fun e3 => ⟨_, hi, br_of (fun h3 => ?_) (fun h3 => ?_)⟩)
  · have e : kd = 3 := by simpa using e3
    have := hb.1 e
    have h2 := of_decide_eq_true h2
    rw [w64 (by simp only [M61] at this; omega) (by simp only [M61] at this; omega)]
    rw [leaf (by subst e; rfl), shLeaf, if_pos ⟨e3, h2⟩]
    exact ret_r (.refl _)
  · rw [leaf (by rw [← hin]; simpa using h3), shLeaf, if_neg (fun q => absurd q.2 (of_decide_eq_false h2))]
    exact ret_r (.refl _)
  · rw [hin] at h3
    have e : kd = 3 := by simpa using e3
    subst e; cases h3
  · rw [leaf (by rw [← hin]; simpa using h3), shLeaf, if_neg (fun q => by have q1 := q.1; have e3 : (kd == 3) = false := e3; rw [show Tm.k (.mk kd s n l) = kd from rfl, e3] at q1; cases q1)]
    exact ret_r (.refl _)
  · exact go (fun e => by subst e; cases e3) (by rw [← hin]; simpa using h3)
theorem c_rShift (t : Tm) (fr by_ : Int) (hs : t.sz ≤ B) (hb : bd M61 t) (hf0 : 0 ≤ fr) (hf1 : fr ≤ M61) (hb0 : 0 - 1 ≤ by_) (hb1 : by_ ≤ M61) : AC Try.prog 14 [aT t, ci fr, ci by_] [] (aT (shT fr by_ t 0)) [] := by
  have h := c_rshift fr by_ hf0 hf1 hb0 hb1 t 0 hs hb (Int.le_refl _) (by simp only [M61, B] at *; omega)
  obtain ⟨k, s, n, l⟩ := t
  refine AC.vc hP sh lv14 (Nat.le_refl _) (by simp) (by simp) (Eq.mpr (v14 k s n (FTs l) fr by_ _ _) ?_)
  exact ⟨_, h, ret_r (.refl _)⟩
theorem c_rsubst (i : Int) (st : Tm) (hst : st.sz ≤ B) (hbs : bd M61 st) (hi0 : 0 ≤ i) (hi1 : i ≤ M61) : ∀ (t : Tm) (k : Int), t.sz + nd t * st.sz ≤ B → bd M61 t → 0 ≤ k → k + t.sz ≤ M61 → AC Try.prog 33 [aT t, ci i, aT st, ci k] [] (aT (suT i st t k)) [] := by
  refine Tm.ind fun t ih k hs hb h0 h1 => ?_
  have hlen := Tm.szs_length t.l
  have hi := c_rinner t
  have hsz := suT_sz i st
  have hsh := c_rShift st 0 k hst hbs (Int.le_refl _) (by simp only [M61]; omega) (by omega) (by omega)
  obtain ⟨kd, s, n, l⟩ := t
  rw [nd_eq] at hs
  simp only [Tm.sz, Tm.l, M61, B, Nat.add_mul, Nat.one_mul] at hs hlen h1 hi1
  have hin : Tm.inner (.mk kd s n l) = (kd == 5 || kd == 6) := rfl
  have leaf : (kd == 5 || kd == 6) = false → suT i st (.mk kd s n l) k = suLeaf i st (.mk kd s n l) k := fun h => walkF_leaf _ kd s n l k h
  have hgo : (kd == 5 || kd == 6) = true → RPt Try.prog 33 0 (aT (suT i st (.mk kd s n l) k)) [] 1 ⟨[(1, ci i), (3, ci k), (4, .c (.a (.ep 0 4 0 0))), (6, .c (.a (.ep 1 4 0 0))), (8, .c (.a (.ep 2 4 0 0))), (10, .c (.a (.fz .nils))), (11, ci 0)], [(0, .arr 4 [fzs (FT (.mk kd s n l))]), (1, .arr 4 [cT st]), (2, .arr 4 [zT])], 3⟩ := fun h => by
    rw [suT, walkF, if_pos h]
    have hk5 : (0 : Int) ≤ (if (kd == 5) = true then 1 else 0) ∧ (if (kd == 5) = true then (1 : Int) else 0) ≤ 1 := by split <;> omega
    refine l_rsua i st k kd s n h0 (by simp only [M61]; omega) _ rfl l (fun u hu => ?_) (by simp only [B]; omega) ?_
    · have := Tm.szs_mem hu
      have h7 := Nat.mul_le_mul_right st.sz (nds_mem hu)
      exact ih u hu _ (by simp only [B]; omega) (bds_mem hb.2 hu) (by omega) (by simp only [M61]; omega)
    · match l, hs with
      | [], _ => simp [walkL, hd]; exact Nat.zero_le _
      | u :: r, hs =>
        simp only [Tm.szs, nds, Nat.add_mul] at hs
        have h2 := hsz u (k + if (kd == 5) = true then 1 else 0)
        have h3 := Tm.szs_length (suT i st u (k + if (kd == 5) = true then 1 else 0)).l
        have h4 := (suT i st u (k + if (kd == 5) = true then 1 else 0)).sz_eq
        show (suT i st u (k + if (kd == 5) = true then 1 else 0)).l.length ≤ B
        simp only [B]; omega
  refine AC.vc hP sh lv33 (Nat.le_refl _) (by simp) (by simp) (Eq.mpr (v33 kd s n (FTs l) i st.k st.s st.n (FTs st.l) k _ _) ?_)
  rw [w64 (x := k + i) (by omega) (by omega)]
  refine br_of (fun e3 => br_of (fun h2 => ?_) (fun h2 => br_of (fun h3 => ?_) (fun h3 => ?_))) (fun e3 => ⟨_, hi, br_of (fun h3 => ?_) (fun h3 => ?_)⟩)
  · have e : kd = 3 := by simpa using e3
    have e2 : n = k + i := by simpa using h2
    rw [leaf (by subst e; rfl), suLeaf, if_pos (show (Tm.k (.mk kd s n l) == 3) = true from e3), if_neg (show ¬ Tm.n (.mk kd s n l) < k + i by show ¬ n < k + i; omega), if_pos (show (Tm.n (.mk kd s n l) == k + i) = true from h2)]
    exact ⟨_, hsh, ret_r (.refl _)⟩
  · have e : kd = 3 := by simpa using e3
    have := hb.1 e
    have h3 := of_decide_eq_true h3
    rw [w64 (by simp only [M61] at this; omega) (by simp only [M61] at this; omega)]
    rw [leaf (by subst e; rfl), suLeaf, if_pos (show (Tm.k (.mk kd s n l) == 3) = true from e3), if_neg (show ¬ Tm.n (.mk kd s n l) < k + i by show ¬ n < k + i; omega), if_neg (by rw [show (Tm.n (.mk kd s n l) == k + i) = false from h2]; simp)]
    exact ret_r (.refl _)
  · have e : kd = 3 := by simpa using e3
    have h3 := of_decide_eq_false h3
    have h2' : n ≠ k + i := by simpa using h2
    rw [leaf (by subst e; rfl), suLeaf, if_pos (show (Tm.k (.mk kd s n l) == 3) = true from e3), if_pos (show Tm.n (.mk kd s n l) < k + i by show n < k + i; omega)]
    exact ret_r (.refl _)
  · rw [leaf (by rw [← hin]; simpa using h3), suLeaf, if_neg (by rw [show (Tm.k (.mk kd s n l) == 3) = false from e3]; simp)]
    exact ret_r (.refl _)
  · exact hgo (by rw [← hin]; simpa using h3)
theorem c_rSubst (t st : Tm) (i : Int) (hst : st.sz ≤ B) (ht : t.sz + nd t * st.sz ≤ B) (hb : bd M61 t) (hbs : bd M61 st) (hi0 : 0 ≤ i) (hi1 : i ≤ M61) : AC Try.prog 15 [aT t, ci i, aT st] [] (aT (suT i st t 0)) [] := by
  have h := c_rsubst i st hst hbs hi0 hi1 t 0 ht hb (Int.le_refl _) (by simp only [M61, B] at *; omega)
  obtain ⟨k, s, n, l⟩ := t
  obtain ⟨k', s', n', l'⟩ := st
  refine AC.vc hP sh lv15 (Nat.le_refl _) (by simp) (by simp) (Eq.mpr (v15 k s n (FTs l) i k' s' n' (FTs l') _ _) ?_)
  exact ⟨_, h, ret_r (.refl _)⟩

end Go.AM

set_option maxRecDepth 100000
open Go Go.Proofs
namespace Go.AM

/-! ### Heaps -/
theorem CR_length (l : List Cel) : (CR l).length = l.length := by simp [CR]
theorem TR_length (l : List Trl) : (TR l).length = l.length := by simp [TR]
theorem NR_length (l : List (List UInt8)) : (NR l).length = l.length := by simp [NR]
theorem CR_get {l : List Cel} {i : Nat} (h : i < l.length) : List.getD (CR l) i [] = l[i].r := by simp [CR, List.getD, h]
theorem NR_get {l : List (List UInt8)} {i : Nat} (h : i < l.length) : List.getD (NR l) i [] = [.str l[i]] := by simp [NR, List.getD, h]
/-- A heap's pointer; the objects. -/
abbrev aH (o : Nat) : TV := .c (.a (.ep o 6 0 0))
abbrev hp6 (a b d m : Nat) (s : Hp) : AObj := .arr 6 [[.a (.osl a 5 0 s.C.length), .a (.osl b 7 0 s.T.length), .a (.fz (.int .i64 s.M)), .a (.fz (.int .i64 s.L)), .a (.osl d 1 0 s.N.length), .a (.mp m)]]
abbrev oH (s : Hp) : List AObj := [hp6 1 2 3 4 s, .arz 5 (CR s.C), .arz 7 (TR s.T), .arz 1 (NR s.N), .mapz (NM s.N 0)]
abbrev oH' (s : Hp) : List AObj := [hp6 5 6 7 4 s, .gone, .gone, .gone, .mapz (NM s.N 0), .arz 5 (CR s.C), .arz 7 (TR s.T), .arz 1 (NR s.N)]
abbrev aCe (c : Cel) : TV := .agg [.a (.fz (.int .i64 c.t)), .a (.fz (.int .i64 c.a)), .a (.fz (.int .i64 c.b)), .a (.fz (.int .i64 c.c)), .a (.fz (.int .i64 c.d))]
abbrev tCe (c : Cel) (b : Bool) : TV := .tup [(true, [.a (.fz (.int .i64 c.t)), .a (.fz (.int .i64 c.a)), .a (.fz (.int .i64 c.b)), .a (.fz (.int .i64 c.c)), .a (.fz (.int .i64 c.d))]), (false, [.a (.fz (.bool b))])]
abbrev t2 (x : Int × Int) : TV := .tup [(false, [.a (.fz (.int .i64 x.1))]), (false, [.a (.fz (.int .i64 x.2))])]
abbrev noC : Cel := ⟨0, 0, 0, 0, 0⟩
def rowB (c : Cel) : Bool := decide (9 ≤ c.t) && decide (c.t ≤ 11)
def cellOf (C : List Cel) (x : Int) : Cel := if 0 ≤ x ∧ x < (C.length : Int) then (C[x.toNat]?).getD noC else noC
def inC (C : List Cel) (x : Int) : Bool := decide (0 ≤ x) && decide (x < (C.length : Int))
theorem cellOf_in {C : List Cel} {x : Int} (h0 : 0 ≤ x) (h1 : x < (C.length : Int)) : ∃ h : x.toNat < C.length, cellOf C x = C[x.toNat] := by
  have h : x.toNat < C.length := by omega
  exact ⟨h, by rw [cellOf, if_pos ⟨h0, h1⟩, List.getElem?_eq_getElem h]; rfl⟩
theorem cellOf_out {C : List Cel} {x : Int} (h : ¬ (0 ≤ x ∧ x < (C.length : Int))) : cellOf C x = noC := if_neg h
theorem ret_bH {x y : Bool} {Hs : List AObj} (h : x = y) : TV.Le (cb x) (cb y) ∧ Hs = Hs := ⟨by rw [h]; exact .refl _, rfl⟩
theorem c_hnew (c t : Int) : AC Try.prog 10 [ci c, ci t] [] (aH 0) (oH ⟨[], [], foldMin [foldMax [c, 0], 1048576], foldMin [foldMax [t, 0], 1048576], []⟩) := by
  refine AC.vc hP sh lv10 (by simp) (by simp) (by simp [isLive]) (Eq.mpr (v10 ..) ?_)
  exact ⟨.refl _, rfl⟩
theorem c_hrow (c : Cel) : AC Try.prog 34 [aCe c] [] (cb (rowB c)) [] := by
  refine AC.vc hP sh lv34 (Nat.le_refl _) (by simp) (by simp) (Eq.mpr (v34 ..) ?_)
  refine br_of (fun h => ret_b ?_) (fun h => ret_b ?_) <;> simp_all [rowB] <;> omega
theorem c_hlen (s : Hp) : AC Try.prog 19 [aH 0] (oH s) (ci (s.C.length : Int)) (oH s) := by
  refine AC.vc hP sh lv19 (Nat.le_refl _) (by simp [isLive]) (by simp) (Eq.mpr (v19 ..) ?_)
  exact ⟨.refl _, rfl⟩
theorem c_hcell (s : Hp) (x : Int) : AC Try.prog 23 [aH 0, ci x] (oH s) (tCe (cellOf s.C x) (inC s.C x)) (oH s) := by
  refine AC.vc hP sh lv23 (Nat.le_refl _) (by simp [isLive]) (by simp) (Eq.mpr (v23 ..) ?_)
  refine br_of (fun h => ?_) (fun h => br_of (fun h' => ?_) (fun h' => ?_))
  · have h := of_decide_eq_true h
    rw [cellOf_out (by omega), show inC s.C x = false by simp [inC]; omega]
    exact ⟨.refl _, rfl⟩
  · have h' := of_decide_eq_true h'
    rw [cellOf_out (by omega), show inC s.C x = false by simp [inC]; omega]
    exact ⟨.refl _, rfl⟩
  · have h := of_decide_eq_false h
    have h' := of_decide_eq_false h'
    obtain ⟨hl, e⟩ := cellOf_in (C := s.C) (x := x) (by omega) (by omega)
    rw [e, show List.getD (CR s.C) (0 + Int.toNat x) [] = s.C[x.toNat].r by rw [Nat.zero_add, CR_get hl], show inC s.C x = true by simp [inC]; omega]
    refine ⟨⟨by omega, by omega⟩, ⟨by rw [CR_length]; omega, rfl, rfl⟩, .refl _, rfl⟩
def isT (C : List Cel) (x : Int) : Bool := inC C x && !rowB (cellOf C x)
def isR (C : List Cel) (x : Int) : Bool := inC C x && rowB (cellOf C x)
theorem c_hist (s : Hp) (x : Int) : AC Try.prog 47 [aH 0, ci x] (oH s) (cb (isT s.C x)) (oH s) := by
  refine AC.vc hP sh lv47 (Nat.le_refl _) (by simp [isLive]) (by simp) (Eq.mpr (v47 ..) ?_)
  refine ⟨_, _, _, _, _, _, c_hcell s x, br_of (fun h => ⟨_, c_hrow (cellOf s.C x), ret_bH ?_⟩) (fun h => ret_bH ?_)⟩ <;> simp [isT, h]
theorem c_hisr (s : Hp) (x : Int) : AC Try.prog 48 [aH 0, ci x] (oH s) (cb (isR s.C x)) (oH s) := by
  refine AC.vc hP sh lv48 (Nat.le_refl _) (by simp [isLive]) (by simp) (Eq.mpr (v48 ..) ?_)
  refine ⟨_, _, _, _, _, _, c_hcell s x, br_of (fun h => ⟨_, c_hrow (cellOf s.C x), ret_bH ?_⟩) (fun h => ret_bH ?_)⟩ <;> simp [isR, h]
/-- May a cell be put in? -/
def fitsH (s : Hp) (c : Cel) : Bool :=
  if c.t = 0 then decide (0 ≤ c.a) && decide (c.a < (s.N.length : Int))
  else if c.t = 1 then decide (c.a ≥ 1)
  else if c.t = 2 then true
  else if c.t = 9 then true
  else if c.t = 3 then decide (c.a ≥ 0)
  else if c.t = 4 then decide (c.a ≥ 0)
  else if c.t = 5 then isT s.C c.a
  else if c.t = 6 then isT s.C c.a
  else if c.t = 7 then isT s.C c.a && isT s.C c.b
  else if c.t = 8 then isT s.C c.a && isR s.C c.b && decide (c.c ≥ 0) && decide (c.d ≥ 0)
  else if c.t = 10 then isR s.C c.a && decide (c.b ≥ 0)
  else if c.t = 11 then isR s.C c.a && isT s.C c.b && decide (c.c ≥ 0)
  else false
theorem br_eq {x n : Int} {A B : Prop} (h1 : x = n → A) (h2 : x ≠ n → B) : br (x == n) A B := br_of (fun h => h1 (by simpa using h)) (fun h => h2 (by simpa using h))
theorem c_hfits (s : Hp) (c : Cel) : AC Try.prog 29 [aH 0, aCe c] (oH s) (cb (fitsH s c)) (oH s) := by
  have ta := c_hist s c.a
  have tb := c_hist s c.b
  have ra := c_hisr s c.a
  have rb := c_hisr s c.b
  refine AC.vc hP sh lv29 (Nat.le_refl _) (by simp [isLive]) (by simp) (Eq.mpr (v29 ..) ?_)
  refine br_eq (fun e0 => ?_) (fun n0 => br_eq (fun e1 => ?_) (fun n1 => br_eq (fun e2 => ?_) (fun n2 => br_eq (fun e9 => ?_) (fun n9 => br_eq (fun e3 => ?_) (fun n3 => br_eq (fun e4 => ?_) (fun n4 => br_eq (fun e5 => ?_) (fun n5 => br_eq (fun e6 => ?_) (fun n6 => br_eq (fun e7 => ?_) (fun n7 => br_eq (fun e8 => ?_) (fun n8 => br_eq (fun e10 => ?_) (fun n10 => br_eq (fun e11 => ?_) (fun n11 => ?_))))))))))))
  · refine br_of (fun h => ret_bH ?_) (fun h => ret_bH ?_) <;> simp [fitsH, e0] <;> simp at h <;> omega
  · exact ret_bH (by simp [fitsH, e1])
  · exact ret_bH (by simp [fitsH, e2])
  · exact ret_bH (by simp [fitsH, e9])
  · exact ret_bH (by simp [fitsH, e3])
  · exact ret_bH (by simp [fitsH, e4])
  · exact ⟨_, ta, ret_bH (by simp [fitsH, e5])⟩
  · exact ⟨_, ta, ret_bH (by simp [fitsH, e6])⟩
  · exact ⟨_, ta, br_of (fun h => ⟨_, tb, ret_bH (by simp [fitsH, e7, h])⟩) (fun h => ret_bH (by simp [fitsH, e7, h]))⟩
  · exact ⟨_, ta, br_of (fun h => ⟨_, rb, br_of (fun g => br_of (fun q => ret_bH (by simp [fitsH, e8, h, g]; simp at q; omega)) (fun q => ret_bH (by simp [fitsH, e8, h, g]; simp at q; omega))) (fun g => ret_bH (by simp [fitsH, e8, h, g]))⟩) (fun h => ret_bH (by simp [fitsH, e8, h]))⟩
  · exact ⟨_, ra, br_of (fun h => ret_bH (by simp [fitsH, e10, h])) (fun h => ret_bH (by simp [fitsH, e10, h]))⟩
  · exact ⟨_, ra, br_of (fun h => ⟨_, tb, br_of (fun g => ret_bH (by simp [fitsH, e11, h, g])) (fun g => ret_bH (by simp [fitsH, e11, h, g]))⟩) (fun h => ret_bH (by simp [fitsH, e11, h]))⟩
  · exact ret_bH (by simp [fitsH, n0, n1, n2, n9, n3, n4, n5, n6, n7, n8, n10, n11])
/-- Put. -/
def putS (s : Hp) (c : Cel) : (Int × Int) × Hp :=
  if fitsH s c = false then ((0, 1), s) else if s.M ≤ (s.C.length : Int) then ((0, 200), s) else (((s.C.length : Int), 0), { s with C := s.C ++ [c] })
theorem c_hput (s : Hp) (c : Cel) (hB : s.C.length ≤ 1073741824) : AC Try.prog 11 [aH 0, aCe c] (oH s) (t2 (putS s c).1) (oH' (putS s c).2) := by
  refine AC.vc hP sh lv11 (by simp) (by simp [isLive]) (by simp [isLive]) (Eq.mpr (v11 ..) ?_)
  refine ⟨_, c_hfits s c, br_of (fun h => ?_) (fun h => br_of (fun h2 => ?_) (fun h2 => ⟨Nat.le_refl _, ⟨by rw [CR_length]; omega, ?_⟩, ?_⟩))⟩
  · rw [putS, if_pos (by simpa using h)]; exact ⟨.refl _, rfl⟩
  · rw [putS, if_neg (by simpa using h), if_pos (of_decide_eq_true h2)]; exact ⟨.refl _, rfl⟩
  · simp only [roomB]; omega
  · have h2 : ¬ s.M ≤ (s.C.length : Int) := of_decide_eq_false h2
    rw [putS, if_neg (by simpa using h), if_neg h2]
    have e1 : (s.C ++ [c]).length = s.C.length + 1 := by simp
    have e2 : CR (s.C ++ [c]) = List.take s.C.length (CR s.C) ++ [c.r] := by rw [List.take_of_length_le (by rw [CR_length]; omega)]; simp [CR]
    have e3 : IntKind.wrap .i64 (((s.C.length + 1 : Nat) : Int) - 1) = (s.C.length : Int) := by rw [w64 (by omega) (by omega)]; omega
    simp only [oH', hp6, e1, e2, e3]
    exact ⟨.refl _, trivial⟩
/-! ### Names -/
def numOf (nm : List UInt8) : List (List UInt8) → Nat → Option Nat
  | [], _ => none
  | s :: l, i => if (((nm : List UInt8) == s) && true) = true then some i else numOf nm l (i + 1)
abbrev mN : (Bool × List EK) × (Bool × List WV) := ((false, [EK.str]), (false, [.a (.fz (.int .i64 0))]))
theorem findN (nm : List UInt8) : ∀ (l : List (List UInt8)) (i j : Nat), (numOf nm l i = none → findA mN.1 [.str nm] ((NM l i).map thaw) j = some none) ∧
    ∀ x, numOf nm l i = some x → ∃ q, x = i + q ∧ l[q]? = some nm ∧ findA mN.1 [.str nm] ((NM l i).map thaw) j = some (some (j + q)) ∧ (NM l i)[q]? = some ((false, [.str nm]), (false, [.int .i64 (x : Int)]))
  | [], i, j => ⟨fun _ => rfl, fun x h => by cases h⟩
  | s :: l, i, j => by
    have ih := findN nm l (i + 1) (j + 1)
    have hf : findA mN.1 [.str nm] ((NM (s :: l) i).map thaw) j = if (((nm : List UInt8) == s) && true) = true then some (some j) else findA mN.1 [.str nm] ((NM l (i + 1)).map thaw) (j + 1) := rfl
    rw [hf, numOf]
    by_cases q : (((nm : List UInt8) == s) && true) = true
    · rw [if_pos q, if_pos q]
      have e : nm = s := by simpa using q
      exact ⟨fun h => (by cases h), fun x h => ⟨0, by injection h with h; omega, by rw [e]; rfl, rfl, by injection h with h; rw [e, ← h]; rfl⟩⟩
    · rw [if_neg q, if_neg q]
      refine ⟨ih.1, fun x h => ?_⟩
      obtain ⟨k, h1, h2, h3, h4⟩ := ih.2 x h
      exact ⟨k + 1, by omega, by simpa using h2, by rw [h3, show j + 1 + k = j + (k + 1) by omega], by simpa [NM] using h4⟩
theorem NM_append (nm : List UInt8) : ∀ (l : List (List UInt8)) (i : Nat), NM (l ++ [nm]) i = NM l i ++ [((false, [.str nm]), (false, [.int .i64 ((i + l.length : Nat) : Int)]))]
  | [], i => by simp [NM]
  | s :: l, i => by rw [List.cons_append, NM, NM, NM_append nm l (i + 1), List.length_cons, show i + 1 + l.length = i + (l.length + 1) by omega]; rfl
/-- Symbol. -/
def symS (s : Hp) (nm : List UInt8) : Int × Hp := match numOf nm s.N 0 with | some i => ((i : Int), s) | none => ((s.N.length : Int), { s with N := s.N ++ [nm] })
theorem c_hsym (s : Hp) (nm : List UInt8) (hB : s.N.length ≤ 1073741824) : AC Try.prog 17 [aH 0, cs nm] (oH s) (ci (symS s nm).1) (oH' (symS s nm).2) := by
  refine AC.vc hP sh lv17 (by simp) (by simp [isLive]) (by simp [isLive]) (Eq.mpr (v17 ..) ?_)
  have hf := findN nm s.N 0 0
  match hn : numOf nm s.N 0 with
  | some i =>
    obtain ⟨q, h1, _, h3, h4⟩ := hf.2 i hn
    refine .inl ⟨(i : Int), ?_, ?_⟩
    · unfold findZ
      rw [h3]
      simp only [Nat.zero_add, h4, if_true]
    · simp only [symS, hn]
      exact ⟨.refl _, trivial⟩
  | none =>
    have h1 := hf.1 hn
    refine .inr ⟨by unfold findZ; rw [h1], _, (by unfold updZ; rw [h1]), Nat.le_refl _, ⟨by rw [NR_length]; omega, by simp only [roomB]; omega⟩, ?_⟩
    simp only [symS, hn]
    have e1 : (s.N ++ [nm]).length = s.N.length + 1 := by simp
    have e2 : NR (s.N ++ [nm]) = List.take s.N.length (NR s.N) ++ [[.str nm]] := by rw [List.take_of_length_le (by rw [NR_length]; omega)]; simp [NR]
    have e3 := NM_append nm s.N 0
    rw [Nat.zero_add] at e3
    simp only [oH', hp6, e1, e2, e3]
    exact ⟨.refl _, trivial⟩
def nameOf (N : List (List UInt8)) (i : Int) : List UInt8 := if 0 ≤ i ∧ i < (N.length : Int) then (N[i.toNat]?).getD [] else []
theorem nameOf_in {N : List (List UInt8)} {x : Int} (h0 : 0 ≤ x) (h1 : x < (N.length : Int)) : ∃ h : x.toNat < N.length, nameOf N x = N[x.toNat] := by
  have h : x.toNat < N.length := by omega
  exact ⟨h, by rw [nameOf, if_pos ⟨h0, h1⟩, List.getElem?_eq_getElem h]; rfl⟩
theorem ret_sH {x y : List UInt8} {Hs : List AObj} (h : x = y) : TV.Le (cs x) (cs y) ∧ Hs = Hs := ⟨by rw [h]; exact .refl _, rfl⟩
theorem c_hname (s : Hp) (i : Int) : AC Try.prog 18 [aH 0, ci i] (oH s) (cs (nameOf s.N i)) (oH s) := by
  refine AC.vc hP sh lv18 (Nat.le_refl _) (by simp [isLive]) (by simp) (Eq.mpr (v18 ..) ?_)
  refine br_of (fun h => ?_) (fun h => br_of (fun h' => ?_) (fun h' => ?_))
  · exact ret_sH (by simp at h; rw [nameOf, if_neg (by omega)])
  · exact ret_sH (by simp at h'; rw [nameOf, if_neg (by omega)])
  · have h := of_decide_eq_false h
    have h' := of_decide_eq_false h'
    obtain ⟨hl, e⟩ := nameOf_in (N := s.N) (x := i) (by omega) (by omega)
    rw [e, show List.getD (NR s.N) (0 + Int.toNat i) [] = [.str s.N[i.toNat]] by rw [Nat.zero_add, NR_get hl]]
    exact ⟨⟨by omega, by omega⟩, ⟨by rw [NR_length]; omega, rfl, rfl⟩, .refl _, rfl⟩

end Go.AM

set_option maxRecDepth 100000
open Go Go.Proofs
namespace Go.AM

/-! ### The document's example -/
abbrev wT (k : Int) (s : List UInt8) (n : Int) : Tm := .mk k s n []
/-- A constant's cell. -/
def encS (s : Hp) (nm : List UInt8) : (Int × Int) × Hp := putS (symS s nm).2 ⟨0, (symS s nm).1, 0, 0, 0⟩
theorem symS_C (s : Hp) (nm : List UInt8) : (symS s nm).2.C = s.C := by unfold symS; split <;> rfl
theorem c_henc (s : Hp) (nm : List UInt8) (n : Int) (f : List (List FV)) (hB : s.C.length ≤ 1073741824) (hN : s.N.length ≤ 1073741824) :
    AC Try.prog 30 [aH 0, .agg [.a (.fz (.int .i64 0)), .a (.fz (.str nm)), .a (.fz (.int .i64 n)), .a (.fz (.sl false 4 f))], .c (.a (.fz .nils))] (oH s) (t2 (encS s nm).1) (oH' (encS s nm).2) := by
  refine AC.vc hP sh lv30 (by simp) (by simp [isLive]) (by simp [isLive]) (Eq.mpr (v30 ..) ?_)
  refine br_of (fun _ => ⟨symS s nm, c_hsym s nm hN, putS (symS s nm).2 ⟨0, (symS s nm).1, 0, 0, 0⟩, c_hput _ _ (by rw [symS_C]; exact hB), .refl _, rfl⟩) (fun h => by cases h)
theorem c_hEnc (s : Hp) (nm : List UInt8) (hv : validB (wT 0 nm 0) = true) (hz : (wT 0 nm 0).sz ≤ B) (hB : s.C.length ≤ 1073741824) (hN : s.N.length ≤ 1073741824) (he : (encS s nm).1.2 = 0) :
    AC Try.prog 12 [aH 0, aT (wT 0 nm 0), .c (.a (.fz .nils))] (oH s) (t2 (encS s nm).1) (oH' (encS s nm).2) := by
  have h1 := c_valid (wT 0 nm 0) hz
  rw [hv] at h1
  refine AC.vc hP sh lv12 (by simp) (by simp [isLive]) (by simp [isLive]) (Eq.mpr (v12 0 nm 0 (FTs []) ..) ?_)
  refine ⟨_, h1, br_of (fun h => by cases h) (fun _ => ⟨encS s nm, c_henc s nm 0 _ hB hN, br_of (fun h => absurd he (by simpa using h)) (fun _ => ?_)⟩)⟩
  rw [show (encS s nm).1 = ((encS s nm).1.1, 0) by rw [← he]]
  exact ⟨.refl _, rfl⟩
abbrev aD : TV := .c (.a (.ep 0 3 0 0))
abbrev hs1 (s : Hp) : List AObj := [hp6 2 3 4 5 s, .arz 5 (CR s.C), .arz 7 (TR s.T), .arz 1 (NR s.N), .mapz (NM s.N 0)]
abbrev de3 (a : Nat) (f e : Int) : AObj := .arr 3 [[.a (.ep a 6 0 0), .a (.fz (.int .i64 f)), .a (.fz (.int .i64 e))]]
abbrev oD (s : Hp) (f e : Int) : List AObj := [de3 1 f e, hp6 2 3 4 5 s, .arz 5 (CR s.C), .arz 7 (TR s.T), .arz 1 (NR s.N), .mapz (NM s.N 0)]
/-- A cell that is there, and of its kind, with fuel. -/
theorem c_dlook (s : Hp) (x : Int) (b : Bool) (f : Int) (h1 : inC s.C x = true) (h2 : rowB (cellOf s.C x) = b) (hf : 0 < f) (hf2 : f ≤ 1000000) :
    AC Try.prog 50 [aD, ci x, cb b] (oD s f 0) (aCe (cellOf s.C x)) (oD s (f - 1) 0) := by
  have hc := c_hcell s x
  rw [h1] at hc
  refine AC.vc hP sh lv50 (by simp) (by simp [isLive]) (by simp [isLive]) (Eq.mpr (v50 ..) ?_)
  refine ⟨_, _, _, _, _, _, hc, br_of (fun h => by cases h) (fun _ => ⟨_, c_hrow (cellOf s.C x), br_of (fun h => ?_) (fun _ => br_of (fun h => ?_) (fun _ => br_of (fun h => by cases h) (fun _ => ?_)))⟩)⟩
  · rw [h2] at h; simp at h
  · have := of_decide_eq_true h; omega
  · rw [w64 (by omega) (by omega)]; exact ⟨.refl _, rfl⟩
theorem c_dtermB (s : Hp) (x f : Int) (h1 : inC s.C x = true) (h2 : (cellOf s.C x).t = 3) (hf : 0 < f) (hf2 : f ≤ 1000000) :
    AC Try.prog 31 [aD, ci x] (oD s f 0) (aT (wT 3 [] (cellOf s.C x).a)) (oD s (f - 1) 0) := by
  have hl := c_dlook s x false f h1 (by simp [rowB, h2]) hf hf2
  have e : cellOf s.C x = ⟨3, (cellOf s.C x).a, (cellOf s.C x).b, (cellOf s.C x).c, (cellOf s.C x).d⟩ := by rw [← h2]
  refine AC.vc hP sh lv31 (by simp) (by simp [isLive]) (by simp [isLive]) (Eq.mpr (v31 ..) ?_)
  refine ⟨((cellOf s.C x).t, (cellOf s.C x).a, (cellOf s.C x).b, (cellOf s.C x).c, (cellOf s.C x).d, f - 1, 0), hl, br_of (fun h => by cases h) (fun _ => br_eq (fun q => by simp only [h2] at q; omega) (fun _ => br_eq (fun q => by simp only [h2] at q; omega) (fun _ => br_eq (fun q => by simp only [h2] at q; omega) (fun _ => br_eq (fun _ => ?_) (fun q => absurd h2 q)))))⟩
  exact ⟨leT (l := []) leNil, rfl⟩
theorem c_dtermC (s : Hp) (x f : Int) (h1 : inC s.C x = true) (h2 : (cellOf s.C x).t = 0) (hf : 0 < f) (hf2 : f ≤ 1000000) :
    AC Try.prog 31 [aD, ci x] (oD s f 0) (aT (wT 0 (nameOf s.N (cellOf s.C x).a) 0)) (oD s (f - 1) 0) := by
  have hl := c_dlook s x false f h1 (by simp [rowB, h2]) hf hf2
  refine AC.vc hP sh lv31 (by simp) (by simp [isLive]) (by simp [isLive]) (Eq.mpr (v31 ..) ?_)
  refine ⟨((cellOf s.C x).t, (cellOf s.C x).a, (cellOf s.C x).b, (cellOf s.C x).c, (cellOf s.C x).d, f - 1, 0), hl, br_of (fun h => by cases h) (fun _ => br_eq (fun _ => ⟨_, c_hname s _, ?_⟩) (fun q => absurd h2 q))⟩
  exact ⟨leT (l := []) leNil, rfl⟩
/-- The example's cells. -/
abbrev hpW : Hp := ⟨[⟨3, 0, 0, 0, 0⟩, ⟨0, 0, 0, 0, 0⟩, ⟨9, 0, 0, 0, 0⟩, ⟨11, 2, 1, 0, 0⟩, ⟨8, 0, 3, 1, 0⟩], [], 20, 20, [[97]]⟩
theorem c_dentryW : AC Try.prog 73 [aD, aCe ⟨8, 0, 3, 1, 0⟩, ci 0] (oD hpW 18 0) (tCe ⟨11, 2, 1, 0, 0⟩ true) (oD hpW 17 0) := by
  have hl := c_dlook hpW 3 true 18 (by decide) (by decide) (by omega) (by omega)
  refine AC.vc hP sh lv73 (by simp) (by simp [isLive]) (by simp [isLive]) (Eq.mpr (v73 ..) ?_)
  refine br_of (fun h => by cases h) (fun _ => RPt.vc hP sh lv73 (Eq.mpr (v73_1a ..) ?_))
  refine br_of (fun _ => br_of (fun _ => ⟨(11, 2, 1, 0, 0, 17, 0), hl, br_of (fun h => by cases h) (fun _ => br_of (fun h => by cases h) (fun _ => RPt.vc hP sh lv73 (Eq.mpr (v73_1a ..) ?_)))⟩) (fun h => by cases h)) (fun h => by cases h)
  exact br_of (fun h => by cases h) (fun _ => ⟨.refl _, rfl⟩)
abbrev fnS : TV := .c (.fn (.func 82) [] [(false, [.ep 6 1 0 0]), (false, [.ep 7 1 0 0])])
abbrev fnL : TV := .c (.fn (.func 54) [] [(false, [.ep 6 1 0 0]), (false, [.ep 7 5 0 0])])
theorem c_dshiftC (s : Hp) (nm : List UInt8) (n f e : Int) : AC Try.prog 75 [aD, aT (wT 0 nm 0), ci n] (oD s f e) (aT (wT 0 nm 0)) (oD s f e) := by
  have hp : AC Try.prog 53 [aD, .agg [.a (.fz (.int .i64 0)), .a (.fz (.str nm)), .a (.fz (.int .i64 0)), .a (.fz (.sl false 4 (FTs [])))], ci 0, fnS] (oD s f e ++ [.arr 1 [[.a (.ep 0 3 0 0)]], .arr 1 [[.a (.fz (.int .i64 n))]]]) (aT (wT 0 nm 0)) (oD s f e ++ [.arr 1 [[.a (.ep 0 3 0 0)]], .arr 1 [[.a (.fz (.int .i64 n))]]]) := by
    refine AC.vc hP sh lv53 (by simp) (by simp [isLive]) (by simp [isLive]) (Eq.mpr (v53_F82 ..) ?_)
    exact br_of (fun h => by cases h) (fun _ => br_of (fun h => by cases h) (fun _ => br_of (fun h => by cases h) (fun _ => ⟨.refl _, rfl⟩)))
  refine AC.vc hP sh lv75 (by simp) (by simp [isLive]) (by simp [isLive]) (Eq.mpr (v75 0 nm 0 (FTs []) ..) ?_)
  exact ⟨(wT 0 nm 0, f, e), hp, .refl _, rfl⟩
theorem c_dlooseW : AC Try.prog 55 [aD, aCe ⟨8, 0, 3, 1, 0⟩, ci 0, ci 0] (oD hpW 18 0) (aT (wT 0 [97] 0)) (oD hpW 16 0) := by
  have ht := c_dtermC hpW 1 17 (by decide) (by decide) (by omega) (by omega)
  refine AC.vc hP sh lv55 (by simp) (by simp [isLive]) (by simp [isLive]) (Eq.mpr (v55 ..) ?_)
  refine ⟨(11, 2, 1, 0, 0, true, 17, 0), c_dentryW, br_of (fun h => by cases h) (fun _ => br_of (fun h => by cases h) (fun _ => ⟨(wT 0 [97] 0, 16, 0), ht, (wT 0 [97] 0, 16, 0), c_dshiftC hpW [97] _ 16 0, .refl _, rfl⟩))⟩
theorem c_dtermfW : AC Try.prog 54 [ci 0, ci 0, .c (.a (.ep 0 1 0 0)), .c (.a (.ep 7 5 0 0))] (.arr 1 [[.a (.ep 1 3 0 0)]] :: de3 2 18 0 :: hp6 3 4 5 6 hpW :: [.arz 5 (CR hpW.C), .arz 7 (TR hpW.T), .arz 1 (NR hpW.N), .mapz (NM hpW.N 0), .arr 5 [[.a (.fz (.int .i64 8)), .a (.fz (.int .i64 0)), .a (.fz (.int .i64 3)), .a (.fz (.int .i64 1)), .a (.fz (.int .i64 0))]]])
    (aT (wT 0 [97] 0)) (.arr 1 [[.a (.ep 1 3 0 0)]] :: de3 2 16 0 :: hp6 3 4 5 6 hpW :: [.arz 5 (CR hpW.C), .arz 7 (TR hpW.T), .arz 1 (NR hpW.N), .mapz (NM hpW.N 0), .arr 5 [[.a (.fz (.int .i64 8)), .a (.fz (.int .i64 0)), .a (.fz (.int .i64 3)), .a (.fz (.int .i64 1)), .a (.fz (.int .i64 0))]]]) := by
  refine AC.vc hP sh lv54 (by simp) (by simp [isLive]) (by simp [isLive]) (Eq.mpr (v54 ..) ?_)
  exact ⟨(wT 0 [97] 0, 16, 0), c_dlooseW, .refl _, rfl⟩
theorem c_dpartsW : AC Try.prog 53 [aD, .agg [.a (.fz (.int .i64 3)), .a (.fz (.str [])), .a (.fz (.int .i64 0)), .a (.fz (.sl false 4 (FTs [])))], ci 0, fnL] (oD hpW 18 0 ++ [.arr 1 [[.a (.ep 0 3 0 0)]], .arr 5 [[.a (.fz (.int .i64 8)), .a (.fz (.int .i64 0)), .a (.fz (.int .i64 3)), .a (.fz (.int .i64 1)), .a (.fz (.int .i64 0))]]])
    (aT (wT 0 [97] 0)) (oD hpW 16 0 ++ [.arr 1 [[.a (.ep 0 3 0 0)]], .arr 5 [[.a (.fz (.int .i64 8)), .a (.fz (.int .i64 0)), .a (.fz (.int .i64 3)), .a (.fz (.int .i64 1)), .a (.fz (.int .i64 0))]]]) := by
  refine AC.vc hP sh lv53 (by simp) (by simp [isLive]) (by simp [isLive]) (Eq.mpr (v53_F54 ..) ?_)
  exact br_of (fun _ => br_of (fun _ => ⟨(wT 0 [97] 0, 16, 0), c_dtermfW, .refl _, rfl⟩) (fun h => by cases h)) (fun h => by cases h)
theorem c_dtermW : AC Try.prog 31 [aD, ci 4] (oD hpW 20 0) (aT (wT 0 [97] 0)) (oD hpW 16 0) := by
  have hl := c_dlook hpW 4 false 20 (by decide) (by decide) (by omega) (by omega)
  have ht := c_dtermB hpW 0 19 (by decide) (by decide) (by omega) (by omega)
  refine AC.vc hP sh lv31 (by simp) (by simp [isLive]) (by simp [isLive]) (Eq.mpr (v31 ..) ?_)
  refine ⟨(8, 0, 3, 1, 0, 19, 0), hl, br_of (fun h => by cases h) (fun _ => br_of (fun h => by cases h) (fun _ => br_of (fun h => by cases h) (fun _ => br_of (fun h => by cases h) (fun _ => br_of (fun h => by cases h) (fun _ => br_of (fun h => by cases h) (fun _ => br_of (fun h => by cases h) (fun _ => br_of (fun h => by cases h) (fun _ => br_of (fun h => by cases h) (fun _ => ?_)))))))))⟩
  exact ⟨(wT 3 [] 0, 18, 0), ht, (wT 0 [97] 0, 16, 0), c_dpartsW, .refl _, rfl⟩
theorem c_hDecW : AC Try.prog 13 [aH 0, ci 4, ci 20] (oH hpW) (.tup [(true, cT (wT 0 [97] 0)), (false, [.a (.fz (.int .i64 16))]), (false, [.a (.fz (.int .i64 0))])]) (oH hpW) := by
  refine AC.vc hP sh lv13 (by simp) (by simp [isLive]) (by simp [isLive]) (Eq.mpr (v13 ..) ?_)
  exact ⟨(wT 0 [97] 0, 16, 0), c_dtermW, br_of (fun h => by cases h) (fun _ => ⟨.refl _, rfl⟩)⟩
abbrev hp0 : Hp := ⟨[], [], 20, 20, []⟩
abbrev hp1 : Hp := ⟨[⟨3, 0, 0, 0, 0⟩], [], 20, 20, []⟩
abbrev hp2 : Hp := ⟨[⟨3, 0, 0, 0, 0⟩, ⟨0, 0, 0, 0, 0⟩], [], 20, 20, [[97]]⟩
abbrev hp3 : Hp := ⟨[⟨3, 0, 0, 0, 0⟩, ⟨0, 0, 0, 0, 0⟩, ⟨9, 0, 0, 0, 0⟩], [], 20, 20, [[97]]⟩
abbrev hp4 : Hp := ⟨[⟨3, 0, 0, 0, 0⟩, ⟨0, 0, 0, 0, 0⟩, ⟨9, 0, 0, 0, 0⟩, ⟨11, 2, 1, 0, 0⟩], [], 20, 20, [[97]]⟩
theorem c_works20 : AC Try.prog 7 [] [] (cb true) [] := by
  have n0 := c_hnew 20 20
  have p1 := c_hput hp0 ⟨3, 0, 0, 0, 0⟩ (by simp)
  have e1 : putS hp0 ⟨3, 0, 0, 0, 0⟩ = ((0, 0), hp1) := rfl
  rw [e1] at p1
  have e2 : encS hp1 [97] = ((1, 0), hp2) := rfl
  have p2 := c_hEnc hp1 [97] (by decide) (by simp only [B]; decide) (by simp) (by simp) (by rw [e2])
  rw [e2] at p2
  have p3 := c_hput hp2 ⟨9, 0, 0, 0, 0⟩ (by simp)
  have e3 : putS hp2 ⟨9, 0, 0, 0, 0⟩ = ((2, 0), hp3) := rfl
  rw [e3] at p3
  have p4 := c_hput hp3 ⟨11, 2, 1, 0, 0⟩ (by simp)
  have e4 : putS hp3 ⟨11, 2, 1, 0, 0⟩ = ((3, 0), hp4) := rfl
  rw [e4] at p4
  have p5 := c_hput hp4 ⟨8, 0, 3, 1, 0⟩ (by simp)
  have e5 : putS hp4 ⟨8, 0, 3, 1, 0⟩ = ((4, 0), hpW) := rfl
  rw [e5] at p5
  have sm := c_rsame (wT 0 [97] 0) (by simp only [B]; decide) (wT 0 [97] 0)
  refine AC.vc hP sh lv7 (Nat.le_refl _) (by simp) (by simp) (Eq.mpr (v7 ..) ?_)
  refine ⟨hp0, n0, ((0, 0), hp1), p1, ((1, 0), hp2), p2.args ⟨.refl _, leT (l := []) leNil, .refl _, trivial⟩, ((2, 0), hp3), p3, ((3, 0), hp4), p4, ((4, 0), hpW), p5, (wT 0 [97] 0, 16, 0), c_hDecW, _, sm.args ⟨.refl _, leT (l := []) leNil, trivial⟩, ?_⟩
  exact br_of (fun _ => br_of (fun _ => br_of (fun _ => br_of (fun _ => br_of (fun _ => br_of (fun _ => br_of (fun _ => br_of (fun _ => ⟨_, c_hlen hpW, ret_b rfl⟩) (fun h => by cases h)) (fun h => by cases h)) (fun h => absurd h (by decide))) (fun h => by cases h)) (fun h => by cases h)) (fun h => by cases h)) (fun h => by cases h)) (fun h => by cases h)

end Go.AM

set_option maxRecDepth 100000
open Go Go.Proofs
namespace Go.AM

/-! ### What cells tell -/
inductive Rep (C : List Cel) (N : List (List UInt8)) : Int → Tm → Nat → Prop
  | con (a : Int) : inC C a = true → (cellOf C a).t = 0 → 0 ≤ (cellOf C a).a ∧ (cellOf C a).a < (N.length : Int) → Rep C N a (.mk 0 (nameOf N (cellOf C a).a) 0 []) 1
  | atom (a : Int) : inC C a = true → (cellOf C a).t = 1 ∨ (cellOf C a).t = 2 ∨ (cellOf C a).t = 3 ∧ 0 ≤ (cellOf C a).a ∧ (cellOf C a).a ≤ 1000 → Rep C N a (.mk (cellOf C a).t [] (cellOf C a).a []) 1
  | free (a : Int) : inC C a = true → (cellOf C a).t = 4 → Rep C N a (.mk 4 [] a []) 1
  | lam (a : Int) (u : Tm) (c : Nat) : inC C a = true → (cellOf C a).t = 6 → Rep C N (cellOf C a).a u c → Rep C N a (.mk 5 [] 0 [u]) (c + 1)
  | app (a : Int) (u w : Tm) (c d : Nat) : inC C a = true → (cellOf C a).t = 7 → Rep C N (cellOf C a).a u c → Rep C N (cellOf C a).b w d → Rep C N a (applyF u [w]) (c + d + 1)
/-- Terms as they are told. -/
inductive Cl : Tm → Prop
  | leaf (k : Int) (s : List UInt8) (n : Int) : k ≠ 5 → k ≠ 6 → (k = 3 → s = [] ∧ 0 ≤ n ∧ n ≤ 1000) → Cl (.mk k s n [])
  | lam (u : Tm) : Cl u → Cl (.mk 5 [] 0 [u])
  | app (h : Tm) (l : List Tm) : Cl h → h.k ≠ 6 → l ≠ [] → (∀ u ∈ l, Cl u) → Cl (.mk 6 [] 0 (h :: l))
theorem applyF1 (u w : Tm) : applyF u [w] = if (u.k == 6) = true ∧ u.l ≠ [] then .mk 6 [] 0 (u.l ++ [w]) else .mk 6 [] 0 [u, w] := rfl
theorem rep_cl {C : List Cel} {N : List (List UInt8)} {a : Int} {x : Tm} {c : Nat} (h : Rep C N a x c) : Cl x := by
  induction h with
  | con a h1 h2 h3 => exact .leaf _ _ _ (by omega) (by omega) (fun h => by omega)
  | atom a h1 h2 => exact .leaf _ _ _ (by omega) (by omega) (fun h => ⟨rfl, by omega, by omega⟩)
  | free a h1 h2 => exact .leaf _ _ _ (by omega) (by omega) (fun h => by omega)
  | lam a u c h1 h2 h3 ih => exact .lam u ih
  | app a u w c d h1 h2 h3 h4 ih1 ih2 =>
    rw [applyF1]
    cases ih1 with
    | leaf k s n g5 g6 g3 => rw [if_neg (fun e => e.2 rfl)]; exact .app _ _ (.leaf k s n g5 g6 g3) g6 (by simp) (fun v hv => by rw [List.mem_singleton.1 hv]; exact ih2)
    | lam u hu => rw [if_neg (fun e => by have := e.1; simp [Tm.k] at this)]; exact .app _ _ (.lam u hu) (by simp [Tm.k]) (by simp) (fun v hv => by rw [List.mem_singleton.1 hv]; exact ih2)
    | app h l hh hk hl hu =>
      rw [if_pos ⟨rfl, by simp [Tm.l]⟩]
      refine .app h (l ++ [w]) hh hk (by simp) fun v hv => ?_
      rcases List.mem_append.1 hv with hv | hv
      · exact hu v hv
      · rw [List.mem_singleton.1 hv]; exact ih2
theorem rep_sz {C : List Cel} {N : List (List UInt8)} {a : Int} {x : Tm} {c : Nat} (h : Rep C N a x c) : x.sz ≤ c := by
  induction h with
  | con a h1 h2 h3 => simp [Tm.sz, Tm.szs]
  | atom a h1 h2 => simp [Tm.sz, Tm.szs]
  | free a h1 h2 => simp [Tm.sz, Tm.szs]
  | lam a u c h1 h2 h3 ih => simp only [Tm.sz, Tm.szs]; omega
  | app a u w c d h1 h2 h3 h4 ih1 ih2 =>
    rw [applyF1]
    have := u.sz_eq
    split <;> simp only [Tm.sz, Tm.szs, Tm.szs_append] <;> omega
theorem cl_bd {x : Tm} (h : Cl x) : bd 1000 x := by
  induction h with
  | leaf k s n h5 h6 h3 => exact ⟨fun e => by have := h3 e; omega, trivial⟩
  | lam u hu ih => exact ⟨fun e => by omega, ih, trivial⟩
  | app h l hh hk hl hu ih1 ih2 =>
    refine ⟨fun e => by omega, ih1, ?_⟩
    clear hl hu
    induction l with
    | nil => trivial
    | cons v l ihl => exact ⟨ih2 v List.mem_cons_self, ihl fun u hu => ih2 u (List.mem_cons_of_mem _ hu)⟩
/-- Decoded. -/
theorem c_drep (s : Hp) {a : Int} {x : Tm} {c : Nat} (h : Rep s.C s.N a x c) : ∀ f : Int, (c : Int) ≤ f → f ≤ 1000000 → AC Try.prog 31 [aD, ci a] (oD s f 0) (aT x) (oD s (f - (c : Int)) 0) := by
  induction h with
  | con a h1 h2 h3 =>
    intro f hc hf
    exact c_dtermC s a f h1 h2 (by omega) hf
  | atom a h1 h2 =>
    intro f hc hf
    have hl := c_dlook s a false f h1 (by rcases h2 with h2 | h2 | h2 <;> simp [rowB, h2]) (by omega) hf
    refine AC.vc hP sh lv31 (by simp) (by simp [isLive]) (by simp [isLive]) (Eq.mpr (v31 ..) ?_)
    refine ⟨((cellOf s.C a).t, (cellOf s.C a).a, (cellOf s.C a).b, (cellOf s.C a).c, (cellOf s.C a).d, f - 1, 0), hl, br_of (fun h => by cases h) (fun _ => br_eq (fun q => ?_) (fun _ => br_eq (fun q => ?_) (fun n1 => br_eq (fun q => ?_) (fun n2 => br_eq (fun q => ?_) (fun n3 => ?_)))))⟩
    · simp only at q; omega
    · have q : (cellOf s.C a).t = 1 := q
      rw [q]; exact ⟨leT (l := []) leNil, rfl⟩
    · have q : (cellOf s.C a).t = 2 := q
      rw [q]; exact ⟨leT (l := []) leNil, rfl⟩
    · have q : (cellOf s.C a).t = 3 := q
      rw [q]; exact ⟨leT (l := []) leNil, rfl⟩
    · simp only at n1 n2 n3; omega
  | free a h1 h2 =>
    intro f hc hf
    have hl := c_dlook s a false f h1 (by simp [rowB, h2]) (by omega) hf
    refine AC.vc hP sh lv31 (by simp) (by simp [isLive]) (by simp [isLive]) (Eq.mpr (v31 ..) ?_)
    refine ⟨((cellOf s.C a).t, (cellOf s.C a).a, (cellOf s.C a).b, (cellOf s.C a).c, (cellOf s.C a).d, f - 1, 0), hl, br_of (fun h => by cases h) (fun _ => br_eq (fun q => by simp only [h2] at q; omega) (fun _ => br_eq (fun q => by simp only [h2] at q; omega) (fun _ => br_eq (fun q => by simp only [h2] at q; omega) (fun _ => br_eq (fun q => by simp only [h2] at q; omega) (fun _ => br_eq (fun _ => ?_) (fun q => absurd h2 q))))))⟩
    exact ⟨leT (l := []) leNil, rfl⟩
  | lam a u c h1 h2 h3 ih =>
    intro f hc hf
    have hl := c_dlook s a false f h1 (by simp [rowB, h2]) (by omega) hf
    have h4 := ih (f - 1) (by omega) (by omega)
    refine AC.vc hP sh lv31 (by simp) (by simp [isLive]) (by simp [isLive]) (Eq.mpr (v31 ..) ?_)
    refine ⟨((cellOf s.C a).t, (cellOf s.C a).a, (cellOf s.C a).b, (cellOf s.C a).c, (cellOf s.C a).d, f - 1, 0), hl, br_of (fun h => by cases h) (fun _ => br_eq (fun q => by simp only [h2] at q; omega) (fun _ => br_eq (fun q => by simp only [h2] at q; omega) (fun _ => br_eq (fun q => by simp only [h2] at q; omega) (fun _ => br_eq (fun q => by simp only [h2] at q; omega) (fun _ => br_eq (fun q => by simp only [h2] at q; omega) (fun _ => br_eq (fun q => by simp only [h2] at q; omega) (fun _ => br_eq (fun _ => ?_) (fun q => absurd h2 q))))))))⟩
    refine ⟨(u, f - 1 - (c : Int), 0), h4, lamsF 1 u, c_lams 1 u (by omega), .refl _, ?_⟩
    rw [show f - 1 - (c : Int) = f - ((c + 1 : Nat) : Int) by omega]
  | app a u w c d h1 h2 h3 h4 ih1 ih2 =>
    intro f hc hf
    have hl := c_dlook s a false f h1 (by simp [rowB, h2]) (by omega) hf
    have g1 := ih1 (f - 1) (by omega) (by omega)
    have g2 := ih2 (f - 1 - (c : Int)) (by omega) (by omega)
    have z1 := rep_sz h3
    have z2 := u.sz_eq
    have z3 := Tm.szs_length u.l
    refine AC.vc hP sh lv31 (by simp) (by simp [isLive]) (by simp [isLive]) (Eq.mpr (v31 ..) ?_)
    refine ⟨((cellOf s.C a).t, (cellOf s.C a).a, (cellOf s.C a).b, (cellOf s.C a).c, (cellOf s.C a).d, f - 1, 0), hl, br_of (fun h => by cases h) (fun _ => br_eq (fun q => by simp only [h2] at q; omega) (fun _ => br_eq (fun q => by simp only [h2] at q; omega) (fun _ => br_eq (fun q => by simp only [h2] at q; omega) (fun _ => br_eq (fun q => by simp only [h2] at q; omega) (fun _ => br_eq (fun q => by simp only [h2] at q; omega) (fun _ => br_eq (fun q => by simp only [h2] at q; omega) (fun _ => br_eq (fun q => by simp only [h2] at q; omega) (fun _ => br_eq (fun _ => ?_) (fun q => absurd h2 q)))))))))⟩
    have ha := c_apply u [w] (by simp only [List.length_singleton]; omega)
    refine ⟨(u, f - 1 - (c : Int), 0), g1, (w, f - 1 - (c : Int) - (d : Int), 0), g2, ⟨rfl, Nat.le_refl _⟩, applyF u [w], ?_, .refl _, ?_⟩
    · rw [FT4_eq]; exact ha
    · rw [show f - 1 - (c : Int) - (d : Int) = f - ((c + d + 1 : Nat) : Int) by omega]
/-! ### Parts -/
mutual
theorem nd_le_sz : ∀ t : Tm, nd t ≤ t.sz
  | .mk _ _ _ l => by have := nds_le_szs l; simp only [nd, Tm.sz]; omega
theorem nds_le_szs : ∀ l : List Tm, nds l ≤ Tm.szs l
  | [] => Nat.le_refl _
  | t :: l => by have := nd_le_sz t; have := nds_le_szs l; simp only [nds, Tm.szs]; omega
end
abbrev capL (c : Cel) : AObj := .arr 5 [[.a (.fz (.int .i64 c.t)), .a (.fz (.int .i64 c.a)), .a (.fz (.int .i64 c.b)), .a (.fz (.int .i64 c.c)), .a (.fz (.int .i64 c.d))]]
abbrev capS (n : Int) : AObj := .arr 1 [[.a (.fz (.int .i64 n))]]
abbrev oP (s : Hp) (f e : Int) (cap : AObj) : List AObj := oD s f e ++ [.arr 1 [[.a (.ep 0 3 0 0)]], cap]
abbrev oF (s : Hp) (f e : Int) (cap : AObj) : List AObj := .arr 1 [[.a (.ep 1 3 0 0)]] :: de3 2 f e :: hp6 3 4 5 6 s :: [.arz 5 (CR s.C), .arz 7 (TR s.T), .arz 1 (NR s.N), .mapz (NM s.N 0), cap]
def apl : List Tm → Tm
  | [] => noT
  | x :: r => applyF x r
theorem walk_lam (lf : Tm → Int → Tm) (u : Tm) (d : Int) : walkF lf (.mk 5 [] 0 [u]) d = .mk 5 [] 0 [walkF lf u (d + 1)] := by
  rw [walkF, if_pos (show ((5 : Int) == 5 || (5 : Int) == 6) = true from rfl)]; rfl
theorem walk_app (lf : Tm → Int → Tm) (h : Tm) (l : List Tm) (d : Int) (hl : l ≠ []) (hk : h.k ≠ 6) : walkF lf (.mk 6 [] 0 (h :: l)) d = apl (walkL lf (h :: l) d) := by
  rw [walkF, if_pos (show ((6 : Int) == 5 || (6 : Int) == 6) = true from rfl)]
  rw [show (d + if ((6 : Int) == 5) = true then 1 else 0) = d by simp]
  match l, hl with
  | v :: l, _ =>
    show withF (.mk 6 [] 0 (h :: v :: l)) (walkF lf h d :: walkF lf v d :: walkL lf l d) = applyF (walkF lf h d) (walkF lf v d :: walkL lf l d)
    generalize walkF lf h d = X
    generalize walkF lf v d = Y
    generalize walkL lf l d = R
    have hk' : (h.k != 6) = true := by simpa [bne] using hk
    by_cases q : (X.k == 6) = true
    · unfold withF; exact if_pos ⟨rfl, by simp, q, hk'⟩
    · have e1 : withF (.mk 6 [] 0 (h :: v :: l)) (X :: Y :: R) = .mk 6 [] 0 (X :: Y :: R) := by unfold withF; exact if_neg (fun e => q e.2.2.1)
      have e2 : applyF X (Y :: R) = .mk 6 [] 0 (X :: Y :: R) := if_neg (fun e => q e.1)
      rw [e1, e2]
theorem aE_hd (x : Tm) (l : List Tm) : aE (List.getD (FTs (x :: l)) 0 []) = aT x := aE_FT x
abbrev hsP (s : Hp) (f : Int) (cap : AObj) (rest : List (Nat × AObj)) : List (Nat × AObj) := (0, de3 1 f 0) :: (1, hp6 2 3 4 5 s) :: (2, .arz 5 (CR s.C)) :: (3, .arz 7 (TR s.T)) :: (4, .arz 1 (NR s.N)) :: (5, .mapz (NM s.N 0)) :: (6, .arr 1 [[.a (.ep 0 3 0 0)]]) :: (7, cap) :: (8, .arr 4 [[.a (.fz (.int .i64 0)), .a (.fz (.str [])), .a (.fz (.int .i64 0)), .a (.fz .nils)]]) :: rest
section
variable (s : Hp) (c : Cel) (lf : Tm → Int → Tm) (K : Nat) (D : Int) (hK : K ≤ 1000) (hD : D ≤ 1000000)
  (leaf : ∀ (n d f : Int), 0 ≤ d → d ≤ D → d ≤ n → n ≤ 1000 → (K : Int) ≤ f → f ≤ 1000000 → ∃ f' : Int, f - (K : Int) ≤ f' ∧ f' ≤ f ∧ AC Try.prog 54 [ci (n - d), ci d, .c (.a (.ep 0 1 0 0)), .c (.a (.ep 7 5 0 0))] (oF s f 0 (capL c)) (aT (lf (.mk 3 [] n []) d)) (oF s f' 0 (capL c)))
  (out : ∀ u d, ¬ (u.k = 3 ∧ d ≤ u.n) → lf u d = u) (hS : ∀ u d, (lf u d).sz ≤ u.sz + 1000000)
abbrev goalL (lf : Tm → Int → Tm) (K : Nat) (s : Hp) (c : Cel) (t : Tm) (d f f' : Int) : Prop := f - (t.sz : Int) * (K : Int) ≤ f' ∧ f' ≤ f ∧ AC Try.prog 53 [aD, aT t, ci d, fnL] (oP s f 0 (capL c)) (aT (walkF lf t d)) (oP s f' 0 (capL c))
abbrev stBL (s : Hp) (c : Cel) (d f : Int) (x : List Tm) (i : Nat) (o : List Tm) : St :=
  ⟨[(0, aD), (2, ci d), (3, fnL), (8, .c (.a (.ep 8 4 0 0))), (9, .c (.a (.osl 9 4 0 o.length))), (42, aL x), (43, ci (x.length : Int)), (44, ci (i : Int))], hsP s f (capL c) [(9, .arz 4 (FTs o))], 10⟩
include hS hK in
theorem l_partsL (d : Int) : ∀ (b a o : List Tm), o ≠ [] → a.length = o.length → (a ++ b).length ≤ 1000 → (∀ u ∈ b, ∀ f : Int, (u.sz : Int) * (K : Int) ≤ f → f ≤ 1000000 → ∃ f', goalL lf K s c u d f f') →
    (∀ u ∈ b, u.sz ≤ 1000) → (∀ v ∈ o, v.sz ≤ 2000000000) → ∀ f : Int, ((Tm.szs b : Nat) : Int) * (K : Int) ≤ f → f ≤ 1000000 →
    ∃ f' : Int, f - ((Tm.szs b : Nat) : Int) * (K : Int) ≤ f' ∧ f' ≤ f ∧ RPt Try.prog 53 8 (aT (apl (o ++ walkL lf b d))) (oP s f' 0 (capL c)) 3 (stBL s c d f (a ++ b) a.length o)
  | [], a, o, ho, hao, hl, _, _, hso, f, hf, hf2 => by
    refine ⟨f, by simp [Tm.szs], Int.le_refl _, RPt.vc hP sh lv53 (Eq.mpr (v53_F54_3b ..) ?_)⟩
    match o, ho with
    | x :: r, _ =>
    have hlen := FTs_length (x :: r)
    have z1 := hso x List.mem_cons_self
    have z2 := x.sz_eq
    have z3 := Tm.szs_length x.l
    have ha := c_apply x r (by simp only [List.length_append, List.length_cons, List.length_nil] at hao hl; omega)
    refine br_of (fun h => absurd (of_decide_eq_true h) (by simp only [List.append_nil]; omega)) (fun _ => ⟨⟨Int.le_refl _, by simp only [List.length_cons]; omega⟩, ⟨by rw [hlen]; simp, ?_, rfl⟩, ⟨by omega, by simp only [List.length_cons]; omega, by omega⟩, ⟨rfl, by simp only [List.length_cons] at hlen ⊢; omega⟩, applyF x r, ?_, ?_⟩)
    · show rE (FT x) = List.take 4 (FT x)
      rw [rE_FT, List.take_of_length_le (by rw [FT_length]; omega)]
    · rw [aE_hd, show List.take (Int.toNat (((x :: r).length : Nat) : Int) - 1) (List.drop 1 (FTs (x :: r))) = FTs r by
        rw [Int.toNat_natCast, List.length_cons, Nat.add_sub_cancel]
        exact List.take_of_length_le (by show (FTs r).length ≤ _; rw [FTs_length]; omega)]
      exact ha
    · rw [show (x :: r) ++ walkL lf [] d = x :: r from List.append_nil _]
      exact ⟨.refl _, rfl⟩
  | u :: b, a, o, ho, hao, hl, hu, hs, hso, f, hf, hf2 => by
    simp only [Tm.szs] at hf ⊢
    have hmul : ((u.sz + Tm.szs b : Nat) : Int) * (K : Int) = (u.sz : Int) * (K : Int) + ((Tm.szs b : Nat) : Int) * (K : Int) := by push_cast; rw [Int.add_mul]
    have hnn : 0 ≤ ((Tm.szs b : Nat) : Int) * (K : Int) := Int.mul_nonneg (by omega) (by omega)
    rw [hmul] at hf ⊢
    obtain ⟨f1, g1, g2, g3⟩ := hu u List.mem_cons_self f (by omega) hf2
    have hw := walkF_sz lf 1000000 hS u d
    have hnd := nd_le_sz u
    have hsu := hs u List.mem_cons_self
    have hm : nd u * 1000000 ≤ 1000 * 1000000 := Nat.mul_le_mul_right _ (by omega)
    obtain ⟨f', k1, k2, k3⟩ := l_partsL d b (a ++ [u]) (o ++ [walkF lf u d]) (by simp) (by simp [hao]) (by simpa using hl) (fun v hv => hu v (List.mem_cons_of_mem _ hv)) (fun v hv => hs v (List.mem_cons_of_mem _ hv))
      (fun v hv => by rcases List.mem_append.1 hv with hv | hv; · exact hso v hv
                      · rw [List.mem_singleton.1 hv]; omega) f1 (by omega) (by omega)
    refine ⟨f', by omega, by omega, RPt.vc hP sh lv53 (Eq.mpr (v53_F54_3b ..) ?_)⟩
    have hlen := FTs_length (a ++ u :: b)
    have hla : a.length < (a ++ u :: b).length := by simp
    rw [aE_mid, w64 (x := (a.length : Int) + 1) (by omega) (by omega)]
    refine br_of (fun _ => ⟨⟨rfl, by omega, by rw [hlen]; omega, rE_mid a u b⟩, (walkF lf u d, f1, 0), g3, Nat.le_refl _, ⟨by rw [FTs_length]; omega, by simp only [roomB]; omega⟩, ?_⟩) (fun h => absurd (of_decide_eq_false h) (by omega))
    rw [FT4_eq, show List.take o.length (FTs o) ++ [FT (walkF lf u d)] = FTs (o ++ [walkF lf u d]) by rw [List.take_of_length_le (by rw [FTs_length]; omega), FTs_append]; rfl]
    have e1 : (o ++ [walkF lf u d]) ++ walkL lf b d = o ++ walkL lf (u :: b) d := by rw [List.append_assoc]; rfl
    rw [e1, show (a ++ [u]) ++ b = a ++ u :: b by simp, show (a ++ [u]).length = a.length + 1 by simp] at k3
    simp only [stBL, show (o ++ [walkF lf u d]).length = o.length + 1 by simp] at k3
    exact k3
include hS hK leaf out hD in
theorem c_partsL : ∀ t : Tm, Cl t → t.sz ≤ 1000 → ∀ d f : Int, 0 ≤ d → d + (t.sz : Int) ≤ D → (t.sz : Int) * (K : Int) ≤ f → f ≤ 1000000 → ∃ f', goalL lf K s c t d f f' := by
  intro t h
  induction h with
  | leaf k str n h5 h6 h3 =>
    intro hz d f h0 hd hf hf2
    have hone : ((Tm.mk k str n []).sz : Int) * (K : Int) = (K : Int) := by simp [Tm.sz, Tm.szs]
    rw [hone] at hf
    have ew : walkF lf (.mk k str n []) d = lf (.mk k str n []) d := walkF_leaf _ _ _ _ _ _ (by simp [h5, h6])
    by_cases q : k = 3 ∧ d ≤ n
    · obtain ⟨rfl, g1, g2⟩ := h3 q.1
      obtain ⟨rfl, q2⟩ := q
      obtain ⟨f', k1, k2, k3⟩ := leaf n d f h0 (Int.le_trans (Int.le_add_of_nonneg_right (Int.natCast_nonneg _)) hd) q2 g2 hf hf2
      refine ⟨f', by rw [hone]; exact k1, k2, ?_⟩
      rw [ew]
      refine AC.vc hP sh lv53 (by simp) (by simp [isLive]) (by simp [isLive]) (Eq.mpr (v53_F54 3 [] n (FTs []) ..) ?_)
      refine br_of (fun _ => br_of (fun _ => ⟨(lf (.mk 3 [] n []) d, f', 0), ?_, .refl _, rfl⟩) (fun h => absurd (of_decide_eq_false h) (by omega))) (fun h => by cases h)
      rw [w64 (x := n - d) (by omega) (by omega)]
      exact k3
    · refine ⟨f, by rw [hone]; omega, Int.le_refl _, ?_⟩
      rw [ew, out _ _ (by simpa [Tm.k, Tm.n] using q)]
      refine AC.vc hP sh lv53 (by simp) (by simp [isLive]) (by simp [isLive]) (Eq.mpr (v53_F54 k str n (FTs []) ..) ?_)
      refine br_eq (fun e => br_of (fun h => absurd ⟨e, of_decide_eq_true h⟩ q) (fun _ => ⟨.refl _, rfl⟩)) (fun _ => br_eq (fun e => absurd e h5) (fun _ => br_eq (fun e => absurd e h6) (fun _ => ⟨.refl _, rfl⟩)))
  | lam u hu ih =>
    intro hz d f h0 hd hf hf2
    have es : (Tm.mk 5 [] 0 [u]).sz = u.sz + 1 := by simp only [Tm.sz, Tm.szs]; omega
    rw [es] at hz hd hf
    have hm : ((u.sz + 1 : Nat) : Int) * (K : Int) = (u.sz : Int) * (K : Int) + (K : Int) := by push_cast; rw [Int.add_mul, Int.one_mul]
    rw [hm] at hf
    obtain ⟨f', k1, k2, k3⟩ := ih (by omega) (d + 1) f (by omega) (by omega) (by omega) hf2
    refine ⟨f', by rw [es, hm]; omega, k2, ?_⟩
    rw [walk_lam]
    refine AC.vc hP sh lv53 (by simp) (by simp [isLive]) (by simp [isLive]) (Eq.mpr (v53_F54 5 [] 0 (FTs [u]) ..) ?_)
    refine br_of (fun h => by cases h) (fun _ => br_of (fun _ => ⟨⟨rfl, Int.le_refl _, by rw [FTs_length]; simp, rE_FT u⟩, (walkF lf u (d + 1), f', 0), ?_, lamsF 1 (walkF lf u (d + 1)), c_lams 1 _ (by omega), .refl _, rfl⟩) (fun h => by cases h))
    rw [aE_hd, w64 (x := d + 1) (by omega) (by omega)]
    exact k3
  | app h l hh hk hl hu ih1 ih2 =>
    intro hz d f h0 hd hf hf2
    have es : (Tm.mk 6 [] 0 (h :: l)).sz = h.sz + Tm.szs l + 1 := by simp only [Tm.sz, Tm.szs]; omega
    rw [es] at hz hd hf
    have hm : ((h.sz + Tm.szs l + 1 : Nat) : Int) * (K : Int) = (h.sz : Int) * (K : Int) + ((Tm.szs l : Nat) : Int) * (K : Int) + (K : Int) := by push_cast; rw [Int.add_mul, Int.add_mul, Int.one_mul]
    rw [hm] at hf
    have hn1 : 0 ≤ ((Tm.szs l : Nat) : Int) * (K : Int) := Int.mul_nonneg (by omega) (by omega)
    obtain ⟨f1, k1, k2, k3⟩ := ih1 (by omega) d f h0 (by omega) (by omega) hf2
    have hw := walkF_sz lf 1000000 hS h d
    have hnd := nd_le_sz h
    have hmm : nd h * 1000000 ≤ 1000 * 1000000 := Nat.mul_le_mul_right _ (by omega)
    have hsl := Tm.szs_length l
    have hle := fun v (hv : v ∈ l) => Tm.szs_mem hv
    obtain ⟨f', g1, g2, g3⟩ := l_partsL s c lf K hK hS d l [h] [walkF lf h d] (by simp) rfl (by simp; omega)
      (fun v hv f hvf hvf2 => ih2 v hv (by have := hle v hv; omega) d f h0 (by have := hle v hv; omega) hvf hvf2) (fun v hv => by have := hle v hv; omega) (fun v hv => by rw [List.mem_singleton.1 hv]; omega) f1 (by omega) (by omega)
    refine ⟨f', by rw [es, hm]; omega, by omega, ?_⟩
    rw [walk_app lf h l d hl hk]
    refine AC.vc hP sh lv53 (by simp) (by simp [isLive]) (by simp [isLive]) (Eq.mpr (v53_F54 6 [] 0 (FTs (h :: l)) ..) ?_)
    refine br_of (fun h => by cases h) (fun _ => br_of (fun h => by cases h) (fun _ => br_of (fun _ => ⟨rfl, RPt.vc hP sh lv53 (Eq.mpr (v53_F54_3a ..) ?_)⟩) (fun h => by cases h)))
    have hlen := FTs_length (h :: l)
    refine br_of (fun _ => ⟨⟨rfl, Int.le_refl _, by rw [hlen]; simp, rE_FT h⟩, (walkF lf h d, f1, 0), ?_, Nat.le_refl _, by simp only [roomB]; omega, ?_⟩) (fun h => absurd (of_decide_eq_false h) (by rw [hlen]; simp))
    · rw [show List.getD (FTs (h :: l)) (Int.toNat 0) [] = FT h from rfl, aE_FT]; exact k3
    · rw [hlen, FT4_eq]
      exact g3
end
section
variable (s : Hp) (c : Int) (lf : Tm → Int → Tm) (K : Nat) (D : Int) (hK : K ≤ 1000) (hD : D ≤ 1000000)
  (leaf : ∀ (n d f : Int), 0 ≤ d → d ≤ D → d ≤ n → n ≤ 1000 → (K : Int) ≤ f → f ≤ 1000000 → ∃ f' : Int, f - (K : Int) ≤ f' ∧ f' ≤ f ∧ AC Try.prog 82 [ci (n - d), ci d, .c (.a (.ep 0 1 0 0)), .c (.a (.ep 7 1 0 0))] (oF s f 0 (capS c)) (aT (lf (.mk 3 [] n []) d)) (oF s f' 0 (capS c)))
  (out : ∀ u d, ¬ (u.k = 3 ∧ d ≤ u.n) → lf u d = u) (hS : ∀ u d, (lf u d).sz ≤ u.sz + 1000000)
abbrev goalS (lf : Tm → Int → Tm) (K : Nat) (s : Hp) (c : Int) (t : Tm) (d f f' : Int) : Prop := f - (t.sz : Int) * (K : Int) ≤ f' ∧ f' ≤ f ∧ AC Try.prog 53 [aD, aT t, ci d, fnS] (oP s f 0 (capS c)) (aT (walkF lf t d)) (oP s f' 0 (capS c))
abbrev stBS (s : Hp) (c : Int) (d f : Int) (x : List Tm) (i : Nat) (o : List Tm) : St :=
  ⟨[(0, aD), (2, ci d), (3, fnS), (8, .c (.a (.ep 8 4 0 0))), (9, .c (.a (.osl 9 4 0 o.length))), (42, aL x), (43, ci (x.length : Int)), (44, ci (i : Int))], hsP s f (capS c) [(9, .arz 4 (FTs o))], 10⟩
include hS hK in
theorem l_partsS (d : Int) : ∀ (b a o : List Tm), o ≠ [] → a.length = o.length → (a ++ b).length ≤ 1000 → (∀ u ∈ b, ∀ f : Int, (u.sz : Int) * (K : Int) ≤ f → f ≤ 1000000 → ∃ f', goalS lf K s c u d f f') →
    (∀ u ∈ b, u.sz ≤ 1000) → (∀ v ∈ o, v.sz ≤ 2000000000) → ∀ f : Int, ((Tm.szs b : Nat) : Int) * (K : Int) ≤ f → f ≤ 1000000 →
    ∃ f' : Int, f - ((Tm.szs b : Nat) : Int) * (K : Int) ≤ f' ∧ f' ≤ f ∧ RPt Try.prog 53 8 (aT (apl (o ++ walkL lf b d))) (oP s f' 0 (capS c)) 3 (stBS s c d f (a ++ b) a.length o)
  | [], a, o, ho, hao, hl, _, _, hso, f, hf, hf2 => by
    refine ⟨f, by simp [Tm.szs], Int.le_refl _, RPt.vc hP sh lv53 (Eq.mpr (v53_F82_3b ..) ?_)⟩
    match o, ho with
    | x :: r, _ =>
    have hlen := FTs_length (x :: r)
    have z1 := hso x List.mem_cons_self
    have z2 := x.sz_eq
    have z3 := Tm.szs_length x.l
    have ha := c_apply x r (by simp only [List.length_append, List.length_cons, List.length_nil] at hao hl; omega)
    refine br_of (fun h => absurd (of_decide_eq_true h) (by simp only [List.append_nil]; omega)) (fun _ => ⟨⟨Int.le_refl _, by simp only [List.length_cons]; omega⟩, ⟨by rw [hlen]; simp, ?_, rfl⟩, ⟨by omega, by simp only [List.length_cons]; omega, by omega⟩, ⟨rfl, by simp only [List.length_cons] at hlen ⊢; omega⟩, applyF x r, ?_, ?_⟩)
    · show rE (FT x) = List.take 4 (FT x)
      rw [rE_FT, List.take_of_length_le (by rw [FT_length]; omega)]
    · rw [aE_hd, show List.take (Int.toNat (((x :: r).length : Nat) : Int) - 1) (List.drop 1 (FTs (x :: r))) = FTs r by
        rw [Int.toNat_natCast, List.length_cons, Nat.add_sub_cancel]
        exact List.take_of_length_le (by show (FTs r).length ≤ _; rw [FTs_length]; omega)]
      exact ha
    · rw [show (x :: r) ++ walkL lf [] d = x :: r from List.append_nil _]
      exact ⟨.refl _, rfl⟩
  | u :: b, a, o, ho, hao, hl, hu, hs, hso, f, hf, hf2 => by
    simp only [Tm.szs] at hf ⊢
    have hmul : ((u.sz + Tm.szs b : Nat) : Int) * (K : Int) = (u.sz : Int) * (K : Int) + ((Tm.szs b : Nat) : Int) * (K : Int) := by push_cast; rw [Int.add_mul]
    have hnn : 0 ≤ ((Tm.szs b : Nat) : Int) * (K : Int) := Int.mul_nonneg (by omega) (by omega)
    rw [hmul] at hf ⊢
    obtain ⟨f1, g1, g2, g3⟩ := hu u List.mem_cons_self f (by omega) hf2
    have hw := walkF_sz lf 1000000 hS u d
    have hnd := nd_le_sz u
    have hsu := hs u List.mem_cons_self
    have hm : nd u * 1000000 ≤ 1000 * 1000000 := Nat.mul_le_mul_right _ (by omega)
    obtain ⟨f', k1, k2, k3⟩ := l_partsS d b (a ++ [u]) (o ++ [walkF lf u d]) (by simp) (by simp [hao]) (by simpa using hl) (fun v hv => hu v (List.mem_cons_of_mem _ hv)) (fun v hv => hs v (List.mem_cons_of_mem _ hv))
      (fun v hv => by rcases List.mem_append.1 hv with hv | hv; · exact hso v hv
                      · rw [List.mem_singleton.1 hv]; omega) f1 (by omega) (by omega)
    refine ⟨f', by omega, by omega, RPt.vc hP sh lv53 (Eq.mpr (v53_F82_3b ..) ?_)⟩
    have hlen := FTs_length (a ++ u :: b)
    have hla : a.length < (a ++ u :: b).length := by simp
    rw [aE_mid, w64 (x := (a.length : Int) + 1) (by omega) (by omega)]
    refine br_of (fun _ => ⟨⟨rfl, by omega, by rw [hlen]; omega, rE_mid a u b⟩, (walkF lf u d, f1, 0), g3, Nat.le_refl _, ⟨by rw [FTs_length]; omega, by simp only [roomB]; omega⟩, ?_⟩) (fun h => absurd (of_decide_eq_false h) (by omega))
    rw [FT4_eq, show List.take o.length (FTs o) ++ [FT (walkF lf u d)] = FTs (o ++ [walkF lf u d]) by rw [List.take_of_length_le (by rw [FTs_length]; omega), FTs_append]; rfl]
    have e1 : (o ++ [walkF lf u d]) ++ walkL lf b d = o ++ walkL lf (u :: b) d := by rw [List.append_assoc]; rfl
    rw [e1, show (a ++ [u]) ++ b = a ++ u :: b by simp, show (a ++ [u]).length = a.length + 1 by simp] at k3
    simp only [stBS, show (o ++ [walkF lf u d]).length = o.length + 1 by simp] at k3
    exact k3
include hS hK leaf out hD in
theorem c_partsS : ∀ t : Tm, Cl t → t.sz ≤ 1000 → ∀ d f : Int, 0 ≤ d → d + (t.sz : Int) ≤ D → (t.sz : Int) * (K : Int) ≤ f → f ≤ 1000000 → ∃ f', goalS lf K s c t d f f' := by
  intro t h
  induction h with
  | leaf k str n h5 h6 h3 =>
    intro hz d f h0 hd hf hf2
    have hone : ((Tm.mk k str n []).sz : Int) * (K : Int) = (K : Int) := by simp [Tm.sz, Tm.szs]
    rw [hone] at hf
    have ew : walkF lf (.mk k str n []) d = lf (.mk k str n []) d := walkF_leaf _ _ _ _ _ _ (by simp [h5, h6])
    by_cases q : k = 3 ∧ d ≤ n
    · obtain ⟨rfl, g1, g2⟩ := h3 q.1
      obtain ⟨rfl, q2⟩ := q
      obtain ⟨f', k1, k2, k3⟩ := leaf n d f h0 (Int.le_trans (Int.le_add_of_nonneg_right (Int.natCast_nonneg _)) hd) q2 g2 hf hf2
      refine ⟨f', by rw [hone]; exact k1, k2, ?_⟩
      rw [ew]
      refine AC.vc hP sh lv53 (by simp) (by simp [isLive]) (by simp [isLive]) (Eq.mpr (v53_F82 3 [] n (FTs []) ..) ?_)
      refine br_of (fun _ => br_of (fun _ => ⟨(lf (.mk 3 [] n []) d, f', 0), ?_, .refl _, rfl⟩) (fun h => absurd (of_decide_eq_false h) (by omega))) (fun h => by cases h)
      rw [w64 (x := n - d) (by omega) (by omega)]
      exact k3
    · refine ⟨f, by rw [hone]; omega, Int.le_refl _, ?_⟩
      rw [ew, out _ _ (by simpa [Tm.k, Tm.n] using q)]
      refine AC.vc hP sh lv53 (by simp) (by simp [isLive]) (by simp [isLive]) (Eq.mpr (v53_F82 k str n (FTs []) ..) ?_)
      refine br_eq (fun e => br_of (fun h => absurd ⟨e, of_decide_eq_true h⟩ q) (fun _ => ⟨.refl _, rfl⟩)) (fun _ => br_eq (fun e => absurd e h5) (fun _ => br_eq (fun e => absurd e h6) (fun _ => ⟨.refl _, rfl⟩)))
  | lam u hu ih =>
    intro hz d f h0 hd hf hf2
    have es : (Tm.mk 5 [] 0 [u]).sz = u.sz + 1 := by simp only [Tm.sz, Tm.szs]; omega
    rw [es] at hz hd hf
    have hm : ((u.sz + 1 : Nat) : Int) * (K : Int) = (u.sz : Int) * (K : Int) + (K : Int) := by push_cast; rw [Int.add_mul, Int.one_mul]
    rw [hm] at hf
    obtain ⟨f', k1, k2, k3⟩ := ih (by omega) (d + 1) f (by omega) (by omega) (by omega) hf2
    refine ⟨f', by rw [es, hm]; omega, k2, ?_⟩
    rw [walk_lam]
    refine AC.vc hP sh lv53 (by simp) (by simp [isLive]) (by simp [isLive]) (Eq.mpr (v53_F82 5 [] 0 (FTs [u]) ..) ?_)
    refine br_of (fun h => by cases h) (fun _ => br_of (fun _ => ⟨⟨rfl, Int.le_refl _, by rw [FTs_length]; simp, rE_FT u⟩, (walkF lf u (d + 1), f', 0), ?_, lamsF 1 (walkF lf u (d + 1)), c_lams 1 _ (by omega), .refl _, rfl⟩) (fun h => by cases h))
    rw [aE_hd, w64 (x := d + 1) (by omega) (by omega)]
    exact k3
  | app h l hh hk hl hu ih1 ih2 =>
    intro hz d f h0 hd hf hf2
    have es : (Tm.mk 6 [] 0 (h :: l)).sz = h.sz + Tm.szs l + 1 := by simp only [Tm.sz, Tm.szs]; omega
    rw [es] at hz hd hf
    have hm : ((h.sz + Tm.szs l + 1 : Nat) : Int) * (K : Int) = (h.sz : Int) * (K : Int) + ((Tm.szs l : Nat) : Int) * (K : Int) + (K : Int) := by push_cast; rw [Int.add_mul, Int.add_mul, Int.one_mul]
    rw [hm] at hf
    have hn1 : 0 ≤ ((Tm.szs l : Nat) : Int) * (K : Int) := Int.mul_nonneg (by omega) (by omega)
    obtain ⟨f1, k1, k2, k3⟩ := ih1 (by omega) d f h0 (by omega) (by omega) hf2
    have hw := walkF_sz lf 1000000 hS h d
    have hnd := nd_le_sz h
    have hmm : nd h * 1000000 ≤ 1000 * 1000000 := Nat.mul_le_mul_right _ (by omega)
    have hsl := Tm.szs_length l
    have hle := fun v (hv : v ∈ l) => Tm.szs_mem hv
    obtain ⟨f', g1, g2, g3⟩ := l_partsS s c lf K hK hS d l [h] [walkF lf h d] (by simp) rfl (by simp; omega)
      (fun v hv f hvf hvf2 => ih2 v hv (by have := hle v hv; omega) d f h0 (by have := hle v hv; omega) hvf hvf2) (fun v hv => by have := hle v hv; omega) (fun v hv => by rw [List.mem_singleton.1 hv]; omega) f1 (by omega) (by omega)
    refine ⟨f', by rw [es, hm]; omega, by omega, ?_⟩
    rw [walk_app lf h l d hl hk]
    refine AC.vc hP sh lv53 (by simp) (by simp [isLive]) (by simp [isLive]) (Eq.mpr (v53_F82 6 [] 0 (FTs (h :: l)) ..) ?_)
    refine br_of (fun h => by cases h) (fun _ => br_of (fun h => by cases h) (fun _ => br_of (fun _ => ⟨rfl, RPt.vc hP sh lv53 (Eq.mpr (v53_F82_3a ..) ?_)⟩) (fun h => by cases h)))
    have hlen := FTs_length (h :: l)
    refine br_of (fun _ => ⟨⟨rfl, Int.le_refl _, by rw [hlen]; simp, rE_FT h⟩, (walkF lf h d, f1, 0), ?_, Nat.le_refl _, by simp only [roomB]; omega, ?_⟩) (fun h => absurd (of_decide_eq_false h) (by rw [hlen]; simp))
    · rw [show List.getD (FTs (h :: l)) (Int.toNat 0) [] = FT h from rfl, aE_FT]; exact k3
    · rw [hlen, FT4_eq]
      exact g3
end

end Go.AM

set_option maxRecDepth 100000
open Go Go.Proofs
namespace Go.AM

/-! ### What is left to be done -/
theorem c_dbound (s : Hp) (n f e : Int) (h : 0 ≤ n) : AC Try.prog 74 [aD, ci n] (oD s f e) (aT (.mk 3 [] n [])) (oD s f e) := by
  refine AC.vc hP sh lv74 (by simp) (by simp [isLive]) (by simp [isLive]) (Eq.mpr (v74 ..) ?_)
  exact br_of (fun q => absurd (of_decide_eq_true q) (by omega)) (fun _ => ⟨leT (l := []) leNil, rfl⟩)
/-- Leaves of a shift, of what is moved, of what is put in. -/
def lfM (by_ : Int) (u : Tm) (d : Int) : Tm := if u.k = 3 ∧ d ≤ u.n then .mk 3 [] (u.n + by_) [] else u
def lfP (y : Tm) (by_ : Int) (u : Tm) (d : Int) : Tm := if u.k = 3 ∧ d ≤ u.n then (if u.n = d then shT 0 (by_ + d) y 0 else .mk 3 [] (u.n - 1 + by_) []) else u
theorem lfM_sz (by_ : Int) (u : Tm) (d : Int) : (lfM by_ u d).sz ≤ u.sz + 1000000 := by
  unfold lfM; split
  · simp only [Tm.sz, Tm.szs]; omega
  · omega
theorem shT_same {by_ : Int} : ∀ {t : Tm}, Cl t → ∀ d : Int, shT 0 by_ t d = walkF (lfM by_) t d := by
  intro t h
  induction h with
  | leaf k s n h5 h6 h3 =>
    intro d
    rw [shT, walkF_leaf _ _ _ _ _ _ (by simp [h5, h6]), walkF_leaf _ _ _ _ _ _ (by simp [h5, h6])]
    unfold shLeaf lfM
    by_cases q : k = 3 ∧ d ≤ n
    · obtain ⟨rfl, g1, g2⟩ := h3 q.1
      rw [if_pos (show ((Tm.mk k [] n []).k == 3) = true ∧ d + 0 ≤ (Tm.mk k [] n []).n from ⟨by simp [Tm.k, q.1], by simp only [Tm.n]; omega⟩), if_pos (show (Tm.mk k [] n []).k = 3 ∧ d ≤ (Tm.mk k [] n []).n from q)]
      simp only [Tm.k, Tm.s, Tm.n, Tm.l, q.1]
    · rw [if_neg (show ¬ (((Tm.mk k s n []).k == 3) = true ∧ d + 0 ≤ (Tm.mk k s n []).n) from fun e => q ⟨by simpa [Tm.k] using e.1, by have := e.2; simp only [Tm.n] at this; omega⟩), if_neg (show ¬ ((Tm.mk k s n []).k = 3 ∧ d ≤ (Tm.mk k s n []).n) from q)]
  | lam u hu ih => intro d; have := ih (d + 1); rw [shT] at this ⊢; rw [walk_lam, walk_lam, this]
  | app h l hh hk hl hu ih1 ih2 =>
    intro d
    have e : ∀ m : List Tm, (∀ u ∈ m, u ∈ l) → walkL (shLeaf 0 by_) m d = walkL (lfM by_) m d := by
      intro m
      induction m with
      | nil => intro _; rfl
      | cons v m ihm =>
        intro hm
        have := ih2 v (hm v List.mem_cons_self) d
        rw [shT] at this
        rw [walkL, walkL, this, ihm fun u hu => hm u (List.mem_cons_of_mem _ hu)]
    have := ih1 d
    rw [shT] at this ⊢
    rw [walk_app _ _ _ _ hl hk, walk_app _ _ _ _ hl hk, walkL, walkL, this, e l fun u hu => hu]
theorem out_M (by_ : Int) (u : Tm) (d : Int) (h : ¬ (u.k = 3 ∧ d ≤ u.n)) : lfM by_ u d = u := if_neg h
theorem out_P (y : Tm) (by_ : Int) (u : Tm) (d : Int) (h : ¬ (u.k = 3 ∧ d ≤ u.n)) : lfP y by_ u d = u := if_neg h
theorem c_dshift (s : Hp) (y : Tm) (hy : Cl y) (hz : y.sz ≤ 1000) (m f : Int) (h0 : 0 ≤ m) (h1 : m ≤ 100000) (hf0 : 0 ≤ f) (hf : f ≤ 1000000) : AC Try.prog 75 [aD, aT y, ci m] (oD s f 0) (aT (shT 0 m y 0)) (oD s f 0) := by
  obtain ⟨f', k1, k2, k3⟩ := c_partsS s m (lfM m) 0 1000 (by omega) (by omega) (fun n d f hd0 hd1 hdn hn _ hf => ⟨f, by simp, Int.le_refl _, by
      refine AC.vc hP sh lv82 (by simp) (by simp [isLive]) (by simp [isLive]) (Eq.mpr (v82 ..) ?_)
      rw [w64 (x := n - d + m) (by omega) (by omega)]
      refine ⟨(.mk 3 [] (n - d + m) [], f, 0), c_dbound s _ f 0 (by omega), ?_⟩
      rw [show lfM m (.mk 3 [] n []) d = .mk 3 [] (n + m) [] from if_pos ⟨rfl, hdn⟩]
      rw [show IntKind.wrap .i64 ((Tm.mk 3 [] (n - d + m) []).n + d) = n + m by simp only [Tm.n]; rw [w64 (by omega) (by omega)]; omega]
      exact ⟨.refl _, rfl⟩⟩) (out_M m) (lfM_sz m) y hy hz 0 f (Int.le_refl _) (by omega) (by simpa using hf0) hf
  have ef : f' = f := by simp at k1; omega
  subst ef
  rw [← shT_same hy] at k3
  obtain ⟨k, str, n, l⟩ := y
  refine AC.vc hP sh lv75 (by simp) (by simp [isLive]) (by simp [isLive]) (Eq.mpr (v75 k str n (FTs l) ..) ?_)
  exact ⟨(shT 0 m (.mk k str n l) 0, f', 0), k3, .refl _, rfl⟩
/-- The row's cell. -/
theorem c_dentry1 (s : Hp) (c : Cel) (j f : Int) (hj : 0 ≤ j) (hC : c.c = 1) (h1 : inC s.C c.b = true) (h2 : (cellOf s.C c.b).t = 11) (hf : 1 ≤ f) (hf2 : f ≤ 1000000) :
    AC Try.prog 73 [aD, aCe c, ci j] (oD s f 0) (tCe (cellOf s.C c.b) (decide (j = 0))) (oD s (f - 1) 0) := by
  have hl := c_dlook s c.b true f h1 (by simp [rowB, h2]) (by omega) hf2
  refine AC.vc hP sh lv73 (by simp) (by simp [isLive]) (by simp [isLive]) (Eq.mpr (v73 ..) ?_)
  have key : ∀ jj : Int, jj = (if j = 0 then 0 else 1) → vcP Try.prog sh lv73 73 6 (fun r0 Hs0 => TV.Le r0 (tCe (cellOf s.C c.b) (decide (j = 0))) ∧ Hs0 = oD s (f - 1) 0) (RPt Try.prog 73 6 (tCe (cellOf s.C c.b) (decide (j = 0))) (oD s (f - 1) 0)) 1
      ⟨[(0, aD), (2, ci jj), (4, .c (.a (.ep 6 5 0 0))), (6, .c (.a (.ep 7 5 0 0))), (8, .c (.a (.ep 8 5 0 0))), (9, ci c.b), (10, ci 0)], [(0, de3 1 f 0), (1, hp6 2 3 4 5 s), (2, .arz 5 (CR s.C)), (3, .arz 7 (TR s.T)), (4, .arz 1 (NR s.N)), (5, .mapz (NM s.N 0)), (6, capL c), (7, capL noC), (8, capL noC)], 9⟩ := fun jj hjj => by
    refine Eq.mpr (v73_1a ..) ?_
    refine br_of (fun _ => br_of (fun _ => ⟨((cellOf s.C c.b).t, (cellOf s.C c.b).a, (cellOf s.C c.b).b, (cellOf s.C c.b).c, (cellOf s.C c.b).d, f - 1, 0), hl, br_of (fun h => by cases h) (fun _ => br_eq (fun q => by simp only [h2] at q; omega) (fun _ => RPt.vc hP sh lv73 (Eq.mpr (v73_1a ..) ?_)))⟩) (fun h => absurd (of_decide_eq_false h) (by omega))) (fun h => absurd (of_decide_eq_false h) (by split at hjj <;> omega))
    have ew : IntKind.wrap .i64 ((0 : Int) + 1) = 1 := by rw [w64 (by omega) (by omega)]; rfl
    rw [ew]
    by_cases q : j = 0
    · rw [if_pos q] at hjj; subst hjj
      refine br_of (fun h => absurd (of_decide_eq_true h) (by omega)) (fun _ => ⟨?_, rfl⟩)
      rw [show decide ((0 : Int) < c.c) = decide (j = 0) by rw [hC, q]; rfl]
      exact .refl _
    · rw [if_neg q] at hjj; subst hjj
      refine br_of (fun _ => br_of (fun h => absurd (of_decide_eq_true h) (by omega)) (fun _ => ⟨?_, rfl⟩)) (fun h => absurd (of_decide_eq_false h) (by omega))
      rw [show decide ((1 : Int) < c.c) = decide (j = 0) by rw [hC]; simp [q]]
      exact .refl _
  refine br_of (fun h => ?_) (fun h => ?_)
  · have h := of_decide_eq_true h
    exact RPt.vc hP sh lv73 (key c.c (by rw [hC, if_neg (by omega)]))
  · have h := of_decide_eq_false h
    exact RPt.vc hP sh lv73 (key j (by rw [if_pos (by omega)]; omega))
theorem c_dentry0 (s : Hp) (c : Cel) (j f : Int) (hj : 0 ≤ j) (hC : c.c = 0) :
    AC Try.prog 73 [aD, aCe c, ci j] (oD s f 0) (tCe noC false) (oD s f 0) := by
  refine AC.vc hP sh lv73 (by simp) (by simp [isLive]) (by simp [isLive]) (Eq.mpr (v73 ..) ?_)
  refine br_of (fun _ => RPt.vc hP sh lv73 (Eq.mpr (v73_1a ..) ?_)) (fun h => absurd (of_decide_eq_false h) (by omega))
  refine br_of (fun _ => br_of (fun h => absurd (of_decide_eq_true h) (by omega)) (fun _ => ⟨?_, rfl⟩)) (fun h => absurd (of_decide_eq_false h) (by omega))
  rw [show decide (c.c < c.c) = false by simp]
  exact .refl _
theorem c_dloose0 (s : Hp) (c : Cel) (j k f : Int) (hj : 0 ≤ j) (hC : c.c = 0) (hk0 : 0 ≤ k) (hk : k ≤ 100000) (hj1 : j ≤ 100000) (hd0 : 0 ≤ c.d) (hd1 : c.d ≤ 100000) :
    AC Try.prog 55 [aD, aCe c, ci j, ci k] (oD s f 0) (aT (.mk 3 [] (k + j + c.d) [])) (oD s f 0) := by
  have he := c_dentry0 s c j f hj hC
  have hb := c_dbound s (k + j + c.d) f 0 (by omega)
  refine AC.vc hP sh lv55 (by simp) (by simp [isLive]) (by simp [isLive]) (Eq.mpr (v55 ..) ?_)
  have ew : IntKind.wrap .i64 (IntKind.wrap .i64 (IntKind.wrap .i64 (k + j) - c.c) + c.d) = k + j + c.d := by
    rw [hC, w64 (x := k + j) (by omega) (by omega), Int.sub_zero, w64 (x := k + j) (by omega) (by omega), w64 (x := k + j + c.d) (by omega) (by omega)]
  rw [ew]
  exact ⟨(0, 0, 0, 0, 0, false, f, 0), he, br_of (fun _ => ⟨(.mk 3 [] (k + j + c.d) [], f, 0), hb, .refl _, rfl⟩) (fun h => by cases h)⟩
theorem c_dloose1 (s : Hp) (c : Cel) (j k f : Int) (hj : 1 ≤ j) (hC : c.c = 1) (h1 : inC s.C c.b = true) (h2 : (cellOf s.C c.b).t = 11) (hf : 1 ≤ f) (hf2 : f ≤ 1000000) (hk0 : 0 ≤ k) (hk : k ≤ 100000) (hj1 : j ≤ 100000) (hd0 : 0 ≤ c.d) (hd1 : c.d ≤ 100000) :
    AC Try.prog 55 [aD, aCe c, ci j, ci k] (oD s f 0) (aT (.mk 3 [] (k + j - 1 + c.d) [])) (oD s (f - 1) 0) := by
  have he := c_dentry1 s c j f (by omega) hC h1 h2 hf hf2
  rw [show decide (j = 0) = false by simp; omega] at he
  have hb := c_dbound s (k + j - 1 + c.d) (f - 1) 0 (by omega)
  refine AC.vc hP sh lv55 (by simp) (by simp [isLive]) (by simp [isLive]) (Eq.mpr (v55 ..) ?_)
  have ew : IntKind.wrap .i64 (IntKind.wrap .i64 (IntKind.wrap .i64 (k + j) - c.c) + c.d) = k + j - 1 + c.d := by
    rw [hC, w64 (x := k + j) (by omega) (by omega), w64 (x := k + j - 1) (by omega) (by omega), w64 (x := k + j - 1 + c.d) (by omega) (by omega)]
  rw [ew]
  exact ⟨((cellOf s.C c.b).t, (cellOf s.C c.b).a, (cellOf s.C c.b).b, (cellOf s.C c.b).c, (cellOf s.C c.b).d, false, f - 1, 0), he, br_of (fun _ => ⟨(.mk 3 [] (k + j - 1 + c.d) [], f - 1, 0), hb, .refl _, rfl⟩) (fun h => by cases h)⟩
theorem c_dlooseP (s : Hp) (c : Cel) (k f : Int) (hC : c.c = 1) (h1 : inC s.C c.b = true) (h2 : (cellOf s.C c.b).t = 11) (h3 : (cellOf s.C c.b).c = 0) {y : Tm} {cy : Nat} (hy : Rep s.C s.N (cellOf s.C c.b).b y cy) (hcy : cy ≤ 900)
    (hf : 1 + (cy : Int) ≤ f) (hf2 : f ≤ 1000000) (hk0 : 0 ≤ k) (hk : k ≤ 10000) (hd0 : 0 ≤ c.d) (hd1 : c.d ≤ 10000) :
    AC Try.prog 55 [aD, aCe c, ci 0, ci k] (oD s f 0) (aT (shT 0 (c.d + k) y 0)) (oD s (f - 1 - (cy : Int)) 0) := by
  have he := c_dentry1 s c 0 f (by omega) hC h1 h2 (by omega) hf2
  have ht := c_drep s hy (f - 1) (by omega) (by omega)
  have hsz := rep_sz hy
  have hs := c_dshift s y (rep_cl hy) (by omega) (c.d + k) (f - 1 - (cy : Int)) (by omega) (by omega) (by omega) (by omega)
  refine AC.vc hP sh lv55 (by simp) (by simp [isLive]) (by simp [isLive]) (Eq.mpr (v55 ..) ?_)
  refine ⟨((cellOf s.C c.b).t, (cellOf s.C c.b).a, (cellOf s.C c.b).b, (cellOf s.C c.b).c, (cellOf s.C c.b).d, true, f - 1, 0), he, br_of (fun h => by cases h) (fun _ => br_eq (fun q => by simp only [h2] at q; omega) (fun _ => ?_))⟩
  refine ⟨(y, f - 1 - (cy : Int), 0), ht, (shT 0 (c.d + k) y 0, f - 1 - (cy : Int), 0), ?_, .refl _, rfl⟩
  simp only [h3, Int.sub_zero]
  rw [w64 (x := c.d) (by omega) (by omega), w64 (x := c.d + k) (by omega) (by omega)]
  exact hs
/-- A cell that is left to be done. -/
theorem c_dsusp (s : Hp) (p : Int) (x : Tm) (cx : Nat) (K : Nat) (lf : Tm → Int → Tm) (h1 : inC s.C p = true) (h2 : (cellOf s.C p).t = 8) (hx : Rep s.C s.N (cellOf s.C p).a x cx) (hcx : cx ≤ 900) (hK : K ≤ 1000)
    (leaf : ∀ (n d f : Int), 0 ≤ d → d ≤ 1000 → d ≤ n → n ≤ 1000 → (K : Int) ≤ f → f ≤ 1000000 → ∃ f' : Int, f - (K : Int) ≤ f' ∧ f' ≤ f ∧ AC Try.prog 55 [aD, aCe (cellOf s.C p), ci (n - d), ci d] (oD s f 0) (aT (lf (.mk 3 [] n []) d)) (oD s f' 0))
    (out : ∀ u d, ¬ (u.k = 3 ∧ d ≤ u.n) → lf u d = u) (hS : ∀ u d, (lf u d).sz ≤ u.sz + 1000000) (f : Int) (hf : 1 + (cx : Int) + (x.sz : Int) * (K : Int) ≤ f) (hf2 : f ≤ 1000000) :
    ∃ f' : Int, 0 ≤ f' ∧ AC Try.prog 31 [aD, ci p] (oD s f 0) (aT (walkF lf x 0)) (oD s f' 0) := by
  have hl := c_dlook s p false f h1 (by simp [rowB, h2]) (by have := Int.mul_nonneg (show 0 ≤ (x.sz : Int) by omega) (show 0 ≤ (K : Int) by omega); omega) hf2
  have hnn := Int.mul_nonneg (show 0 ≤ (x.sz : Int) by omega) (show 0 ≤ (K : Int) by omega)
  have ht := c_drep s hx (f - 1) (by omega) (by omega)
  have hsz := rep_sz hx
  obtain ⟨f', k1, k2, k3⟩ := c_partsL s (cellOf s.C p) lf K 1000 hK (by omega) (fun n d f hd0 hd1 hdn hn hf hf2 => by
    obtain ⟨f', g1, g2, g3⟩ := leaf n d f hd0 hd1 hdn hn hf hf2
    refine ⟨f', g1, g2, ?_⟩
    refine AC.vc hP sh lv54 (by simp) (by simp [isLive]) (by simp [isLive]) (Eq.mpr (v54 ..) ?_)
    exact ⟨(lf (.mk 3 [] n []) d, f', 0), g3, .refl _, rfl⟩) out hS x (rep_cl hx) (by omega) 0 (f - 1 - (cx : Int)) (Int.le_refl _) (by omega) (by omega) (by omega)
  refine ⟨f', by omega, AC.vc hP sh lv31 (by simp) (by simp [isLive]) (by simp [isLive]) (Eq.mpr (v31 ..) ?_)⟩
  refine ⟨((cellOf s.C p).t, (cellOf s.C p).a, (cellOf s.C p).b, (cellOf s.C p).c, (cellOf s.C p).d, f - 1, 0), hl, br_of (fun h => by cases h) (fun _ => br_eq (fun q => by simp only [h2] at q; omega) (fun _ => br_eq (fun q => by simp only [h2] at q; omega) (fun _ => br_eq (fun q => by simp only [h2] at q; omega) (fun _ => br_eq (fun q => by simp only [h2] at q; omega) (fun _ => br_eq (fun q => by simp only [h2] at q; omega) (fun _ => br_eq (fun q => by simp only [h2] at q; omega) (fun _ => br_eq (fun q => by simp only [h2] at q; omega) (fun _ => br_eq (fun q => by simp only [h2] at q; omega) (fun _ => ?_)))))))))⟩
  exact ⟨(x, f - 1 - (cx : Int), 0), ht, (walkF lf x 0, f', 0), k3, .refl _, rfl⟩

end Go.AM

set_option maxRecDepth 100000
open Go Go.Proofs
namespace Go.AM

/-! ### What is larger -/
mutual
theorem left_nd : ∀ (t : Tm) (m : Int), 0 ≤ leftF t m → (t.sz : Int) ≤ m - leftF t m
  | .mk _ s _ l, m, h => by
    simp only [leftF] at h ⊢
    have := left_nds l (m - 1) h
    simp only [Tm.sz]; omega
theorem left_nds : ∀ (l : List Tm) (m : Int), 0 ≤ leftL l m → (Tm.szs l : Int) ≤ m - leftL l m
  | [], m, h => by simp [leftL, Tm.szs]
  | t :: l, m, h => by
    simp only [leftL] at h ⊢
    split at h
    · rename_i h0
      rw [if_pos h0]
      have h1 := left_nds l _ h
      have h3 := (leftL_le l (leftF t m)).1
      have h2 := left_nd t m (by omega)
      simp only [Tm.szs]; omega
    · rename_i h0; exact absurd h h0
end
theorem large_sz {t : Tm} {m : Int} (h : large t m = false) : (t.sz : Int) ≤ m := by
  have h := of_decide_eq_false h
  have := left_nd t m (by omega)
  omega
/-! ### More cells -/
structure Ext (h h' : Hp) (m : Nat) : Prop where
  C : ∃ D, h'.C = h.C ++ D ∧ D.length ≤ m
  N : ∃ D, h'.N = h.N ++ D ∧ D.length ≤ m
  M : h'.M = h.M
theorem Ext.refl (h : Hp) (m : Nat) : Ext h h m := ⟨⟨[], by simp, by simp⟩, ⟨[], by simp, by simp⟩, rfl⟩
theorem Ext.trans {a b c : Hp} {m n k : Nat} (h1 : Ext a b m) (h2 : Ext b c n) (hk : m + n ≤ k) : Ext a c k := by
  obtain ⟨⟨D, d1, d2⟩, ⟨E, e1, e2⟩, m1⟩ := h1
  obtain ⟨⟨D', d1', d2'⟩, ⟨E', e1', e2'⟩, m1'⟩ := h2
  exact ⟨⟨D ++ D', by rw [d1', d1, List.append_assoc], by simp; omega⟩, ⟨E ++ E', by rw [e1', e1, List.append_assoc], by simp; omega⟩, by rw [m1', m1]⟩
theorem Ext.mono {a b : Hp} {m n : Nat} (h : Ext a b m) (hk : m ≤ n) : Ext a b n := h.trans (Ext.refl b 0) (by omega)
theorem Ext.len {a b : Hp} {m : Nat} (h : Ext a b m) : a.C.length ≤ b.C.length ∧ b.C.length ≤ a.C.length + m ∧ b.N.length ≤ a.N.length + m := by
  obtain ⟨⟨D, d1, d2⟩, ⟨E, e1, e2⟩, _⟩ := h
  rw [d1, e1]; simp; omega
theorem inC_app {C D : List Cel} {a : Int} (h : inC C a = true) : inC (C ++ D) a = true ∧ cellOf (C ++ D) a = cellOf C a := by
  simp only [inC, Bool.and_eq_true, decide_eq_true_eq] at h
  obtain ⟨hl, e⟩ := cellOf_in h.1 h.2
  refine ⟨by simp only [inC, Bool.and_eq_true, decide_eq_true_eq, List.length_append]; omega, ?_⟩
  obtain ⟨hl2, e2⟩ := cellOf_in (C := C ++ D) h.1 (by rw [List.length_append]; omega)
  rw [e, e2, List.getElem_append_left hl]
theorem Ext.cell {a b : Hp} {m : Nat} (h : Ext a b m) {x : Int} (hx : inC a.C x = true) : inC b.C x = true ∧ cellOf b.C x = cellOf a.C x := by
  obtain ⟨⟨D, d1, _⟩, _, _⟩ := h
  rw [d1]; exact inC_app hx
theorem Rep.ext {a b : Hp} {m : Nat} (h : Ext a b m) {x : Int} {t : Tm} {c : Nat} (hr : Rep a.C a.N x t c) : Rep b.C b.N x t c := by
  induction hr with
  | con x h1 h2 h3 =>
    obtain ⟨g1, g2⟩ := h.cell h1
    obtain ⟨_, ⟨E, e1, _⟩, _⟩ := h
    have en : nameOf b.N (cellOf b.C x).a = nameOf a.N (cellOf a.C x).a := by
      rw [g2, e1, nameOf, nameOf, if_pos ⟨h3.1, by rw [List.length_append]; omega⟩, if_pos h3, List.getElem?_append_left (by omega)]
    rw [← en]
    exact .con x g1 (by rw [g2]; exact h2) (by rw [g2, e1, List.length_append]; omega)
  | atom x h1 h2 =>
    obtain ⟨g1, g2⟩ := h.cell h1
    rw [← g2] at h2 ⊢
    exact .atom x g1 h2
  | free x h1 h2 =>
    obtain ⟨g1, g2⟩ := h.cell h1
    exact .free x g1 (by rw [g2]; exact h2)
  | lam x u c h1 h2 h3 ih =>
    obtain ⟨g1, g2⟩ := h.cell h1
    exact .lam x u c g1 (by rw [g2]; exact h2) (by rw [g2]; exact ih)
  | app x u w c d h1 h2 h3 h4 ih1 ih2 =>
    obtain ⟨g1, g2⟩ := h.cell h1
    exact .app x u w c d g1 (by rw [g2]; exact h2) (by rw [g2]; exact ih1) (by rw [g2]; exact ih2)
theorem cell_new (C : List Cel) (c : Cel) : inC (C ++ [c]) (C.length : Int) = true ∧ cellOf (C ++ [c]) (C.length : Int) = c := by
  refine ⟨by simp [inC]; omega, ?_⟩
  rw [cellOf, if_pos ⟨by omega, by rw [List.length_append, List.length_singleton]; omega⟩, Int.toNat_natCast]; simp
theorem put_ext (s : Hp) (c : Cel) : Ext s (putS s c).2 1 := by
  rcases (show (putS s c).2 = s ∨ (putS s c).2 = { s with C := s.C ++ [c] } by
    unfold putS; split
    · exact .inl rfl
    · split
      · exact .inl rfl
      · exact .inr rfl) with e | e
  · rw [e]; exact Ext.refl s 1
  · rw [e]; exact ⟨⟨[c], rfl, by simp⟩, ⟨[], by simp, by simp⟩, rfl⟩
/-- A cell that was put in is there. -/
theorem put_ok {s : Hp} {c : Cel} (h : (putS s c).1.2 = 0) : fitsH s c = true ∧ inC (putS s c).2.C (putS s c).1.1 = true ∧ cellOf (putS s c).2.C (putS s c).1.1 = c := by
  unfold putS at h ⊢
  split at h
  · cases h
  · rename_i h1
    rw [if_neg h1]
    split at h
    · cases h
    · rename_i h2
      rw [if_neg h2]
      have := cell_new s.C c
      exact ⟨by simpa using h1, this.1, this.2⟩
theorem sym_ext (s : Hp) (nm : List UInt8) : Ext s (symS s nm).2 1 := by
  unfold symS; split
  · exact Ext.refl s 1
  · exact ⟨⟨[], by simp, by simp⟩, ⟨[nm], rfl, by simp⟩, rfl⟩
/-! ### A variable's place -/
abbrev vs8 : List Int := List.replicate 8 0
abbrev aVs : TV := .c (.a (.osl 5 1 0 8))
abbrev oHv (s : Hp) : List AObj := [hp6 1 2 3 4 s, .arz 5 (CR s.C), .arz 7 (TR s.T), .arz 1 (NR s.N), .mapz (NM s.N 0), .arz 1 (IR vs8)]
abbrev oHv' (s : Hp) : List AObj := [hp6 6 7 8 4 s, .gone, .gone, .gone, .mapz (NM s.N 0), .arz 1 (IR vs8), .arz 5 (CR s.C), .arz 7 (TR s.T), .arz 1 (NR s.N)]
theorem IR8 {i : Nat} (h : i < 8) : List.getD (IR vs8) (0 + i) [] = [.int .i64 0] := by
  rw [Nat.zero_add]
  match i, h with
  | 0, _ => rfl
  | 1, _ => rfl
  | 2, _ => rfl
  | 3, _ => rfl
  | 4, _ => rfl
  | 5, _ => rfl
  | 6, _ => rfl
  | 7, _ => rfl
def varS (s : Hp) (n : Int) : Int × Int := if 8 ≤ n then (0, 1) else if isT s.C 0 = true then (0, 0) else (0, 1)
theorem c_hvar (s : Hp) (n : Int) (h0 : 0 ≤ n) : AC Try.prog 49 [aH 0, ci n, aVs] (oHv s) (t2 (varS s n)) (oHv s) := by
  refine AC.vc hP sh lv49 (Nat.le_refl _) (by simp [isLive]) (by simp) (Eq.mpr (v49_i1 n 7 ..) ?_)
  refine br_of (fun h => ?_) (fun h => ?_)
  · have h : n ≥ ((8 : Nat) : Int) := of_decide_eq_true h
    rw [varS, if_pos (by omega)]; exact ⟨.refl _, rfl⟩
  · have h : ¬ n ≥ ((8 : Nat) : Int) := of_decide_eq_false h
    rw [IR8 (show n.toNat < 8 by omega)]
    refine ⟨⟨h0, by show n < ((8 : Nat) : Int); omega⟩, ⟨by show 0 + n.toNat < 8; omega, rfl, rfl⟩, _, c_hist s 0, br_of (fun h2 => ?_) (fun h2 => ?_)⟩
    · rw [varS, if_neg (by omega), if_neg (by simpa using h2)]; exact ⟨.refl _, rfl⟩
    · rw [varS, if_neg (by omega), if_pos (by simpa using h2)]; exact ⟨.refl _, rfl⟩
/-! ### Encoded -/
theorem validL_mem : ∀ {l : List Tm} {u : Tm}, validL l = true → u ∈ l → validB u = true
  | x :: l, u, h, hu => by
    rw [validL, Bool.and_eq_true] at h
    rcases List.mem_cons.1 hu with rfl | hu
    · exact h.1
    · exact validL_mem h.2 hu
theorem validL_of {k n : Int} {s : List UInt8} {l : List Tm} (h : validB (.mk k s n l) = true) (hk : k = 5 ∨ k = 6) : validL l = true := by
  rw [validB] at h
  rcases hk with rfl | rfl <;> simp at h <;> simp [h]
theorem nears_mem {M : Int} : ∀ {l : List Tm} {u : Tm}, nears M l = true → u ∈ l → near M u = true
  | x :: l, u, h, hu => by
    rw [nears, Bool.and_eq_true] at h
    rcases List.mem_cons.1 hu with rfl | hu
    · exact h.1
    · exact nears_mem h.2 hu
/-- The place of a variable that is free. -/
def H0 (h : Hp) : Prop := inC h.C 0 = true ∧ (cellOf h.C 0).t = 4
theorem H0.ext {a b : Hp} {m : Nat} (h : Ext a b m) (h0 : H0 a) : H0 b := by
  obtain ⟨g1, g2⟩ := h.cell h0.1
  exact ⟨g1, by rw [g2]; exact h0.2⟩
abbrev stE (f : Int) (x : List Tm) (n i : Int) (s : Hp) : St :=
  ⟨[(0, aH 0), (2, aVs), (8, ci f), (89, aL x), (90, ci n), (91, ci i)], [(0, hp6 6 7 8 4 s), (1, .gone), (2, .gone), (3, .gone), (4, .mapz (NM s.N 0)), (5, .arz 1 (IR vs8)), (6, .arz 5 (CR s.C)), (7, .arz 7 (TR s.T)), (8, .arz 1 (NR s.N))], 9⟩
def EncG (t : Tm) : Prop := ∀ h : Hp, H0 h → h.C.length + 2 * t.sz ≤ 10000 → h.N.length + 2 * t.sz ≤ 10000 → ∃ r h', AC Try.prog 30 [aH 0, aT t, aVs] (oHv h) (t2 r) (oHv' h') ∧ Ext h h' (2 * t.sz - 1) ∧ (r.2 = 0 → ∃ x c, Rep h'.C h'.N r.1 x c ∧ c + 1 ≤ 2 * t.sz)
theorem l_enc : ∀ (b a : List Tm), (∀ u ∈ b, EncG u) → (a ++ b).length ≤ 1000 → ∀ (h : Hp) (f : Int) (x : Tm) (c : Nat), H0 h → h.C.length + 2 * Tm.szs b ≤ 10000 → h.N.length + 2 * Tm.szs b ≤ 10000 → Rep h.C h.N f x c →
    ∃ r h', RPt Try.prog 30 6 (t2 r) (oHv' h') 5 (stE f (a ++ b) ((a ++ b).length : Int) (a.length : Int) h) ∧ Ext h h' (2 * Tm.szs b) ∧ (r.2 = 0 → ∃ x c', Rep h'.C h'.N r.1 x c' ∧ c' ≤ c + 2 * Tm.szs b)
  | [], a, _, _, h, f, x, c, _, _, _, hr => by
    refine ⟨(f, 0), h, RPt.vc hP sh lv30 (Eq.mpr (v30_i1_5a ..) ?_), Ext.refl h _, fun _ => ⟨x, c, hr, by omega⟩⟩
    exact br_of (fun q => absurd (of_decide_eq_true q) (by simp only [List.append_nil]; omega)) (fun _ => ⟨.refl _, rfl⟩)
  | u :: b, a, hu, hl, h, f, x, c, h0, hC, hN, hr => by
    have hs : Tm.szs (u :: b) = u.sz + Tm.szs b := rfl
    rw [hs] at hC hN ⊢
    obtain ⟨r1, h1, a1, a2, a3⟩ := hu u List.mem_cons_self h h0 (by omega) (by omega)
    have hlen := FTs_length (a ++ u :: b)
    have hla : a.length < (a ++ u :: b).length := by simp
    have l1 := a2.len
    have zu := u.sz_eq
    by_cases e1 : r1.2 = 0
    · obtain ⟨w, d, b1, b2⟩ := a3 e1
      have hp := c_hput h1 ⟨7, f, r1.1, 0, 0⟩ (by omega)
      have pe := put_ext h1 ⟨7, f, r1.1, 0, 0⟩
      by_cases e2 : (putS h1 ⟨7, f, r1.1, 0, 0⟩).1.2 = 0
      · obtain ⟨_, p1, p2⟩ := put_ok e2
        have hr2 : Rep (putS h1 ⟨7, f, r1.1, 0, 0⟩).2.C (putS h1 ⟨7, f, r1.1, 0, 0⟩).2.N (putS h1 ⟨7, f, r1.1, 0, 0⟩).1.1 (applyF x [w]) (c + d + 1) :=
          .app _ x w c d p1 (by rw [p2]) (by rw [p2]; exact (hr.ext a2).ext pe) (by rw [p2]; exact b1.ext pe)
        have l2 := pe.len
        obtain ⟨r, h', k1, k2, k3⟩ := l_enc b (a ++ [u]) (fun v hv => hu v (List.mem_cons_of_mem _ hv)) (by simpa using hl) _ _ _ _ ((h0.ext a2).ext pe) (by omega) (by omega) hr2
        refine ⟨r, h', RPt.vc hP sh lv30 (Eq.mpr (v30_i1_5a ..) ?_), (a2.trans pe (Nat.le_refl _)).trans k2 (by omega), fun e => by
          obtain ⟨x', c', q1, q2⟩ := k3 e
          exact ⟨x', c', q1, by omega⟩⟩
        rw [aE_mid, w64 (x := (a.length : Int) + 1) (by omega) (by omega)]
        refine br_of (fun _ => ⟨⟨rfl, by omega, by rw [hlen]; omega, rE_mid a u b⟩, (r1, h1), a1, br_of (fun q => absurd e1 (by simpa using q)) (fun _ => ⟨putS h1 ⟨7, f, r1.1, 0, 0⟩, hp, br_of (fun q => absurd e2 (by simpa using q)) (fun _ => ?_)⟩)⟩) (fun q => absurd (of_decide_eq_false q) (by omega))
        rw [show (a ++ [u]) ++ b = a ++ u :: b by simp, show (a ++ [u]).length = a.length + 1 by simp] at k1
        exact k1
      · refine ⟨(0, (putS h1 ⟨7, f, r1.1, 0, 0⟩).1.2), (putS h1 ⟨7, f, r1.1, 0, 0⟩).2, RPt.vc hP sh lv30 (Eq.mpr (v30_i1_5a ..) ?_), a2.trans pe (by omega), fun e => absurd e e2⟩
        rw [aE_mid, w64 (x := (a.length : Int) + 1) (by omega) (by omega)]
        exact br_of (fun _ => ⟨⟨rfl, by omega, by rw [hlen]; omega, rE_mid a u b⟩, (r1, h1), a1, br_of (fun q => absurd e1 (by simpa using q)) (fun _ => ⟨putS h1 ⟨7, f, r1.1, 0, 0⟩, hp, br_of (fun _ => ⟨.refl _, rfl⟩) (fun q => absurd (by simpa using q) e2)⟩)⟩) (fun q => absurd (of_decide_eq_false q) (by omega))
    · refine ⟨(0, r1.2), h1, RPt.vc hP sh lv30 (Eq.mpr (v30_i1_5a ..) ?_), a2.mono (by omega), fun e => absurd e e1⟩
      rw [aE_mid, w64 (x := (a.length : Int) + 1) (by omega) (by omega)]
      exact br_of (fun _ => ⟨⟨rfl, by omega, by rw [hlen]; omega, rE_mid a u b⟩, (r1, h1), a1, br_of (fun _ => ⟨.refl _, rfl⟩) (fun q => absurd (by simpa using q) e1)⟩) (fun q => absurd (of_decide_eq_false q) (by omega))

end Go.AM

set_option maxRecDepth 100000
open Go Go.Proofs
namespace Go.AM

/-! ### Encoded, as a whole -/
theorem put_N (s : Hp) (c : Cel) : (putS s c).2.N = s.N ∧ (putS s c).2.M = s.M ∧ ((putS s c).2.C = s.C ∨ (putS s c).2.C = s.C ++ [c]) := by
  unfold putS; split
  · exact ⟨rfl, rfl, .inl rfl⟩
  · split
    · exact ⟨rfl, rfl, .inl rfl⟩
    · exact ⟨rfl, rfl, .inr rfl⟩
theorem symS_M (s : Hp) (nm : List UInt8) : (symS s nm).2.M = s.M := by unfold symS; split <;> rfl
theorem enc_ext (s : Hp) (nm : List UInt8) : Ext s (encS s nm).2 1 := by
  unfold encS
  have h1 := sym_ext s nm
  have h2 := put_N (symS s nm).2 ⟨0, (symS s nm).1, 0, 0, 0⟩
  have e := symS_C s nm
  refine ⟨?_, by rw [h2.1]; exact h1.N, by rw [h2.2.1]; exact symS_M s nm⟩
  rcases h2.2.2 with e2 | e2 <;> rw [e2, e]
  · exact ⟨[], by simp, by simp⟩
  · exact ⟨[⟨0, (symS s nm).1, 0, 0, 0⟩], rfl, by simp⟩
theorem c_enc : ∀ t : Tm, validB t = true → near 1000 t = true → t.sz ≤ 500 → EncG t := by
  intro t
  induction t using Tm.ind with
  | h t ih =>
  obtain ⟨k, str, n, l⟩ := t
  intro hv hn hz h h0 hC hN
  have hnk : k ≠ 2 → n ≤ 1000 := fun h2 => by
    rw [near, Bool.and_eq_true] at hn
    have := hn.1
    simp [h2] at this; omega
  have hnl : nears 1000 l = true := by rw [near, Bool.and_eq_true] at hn; exact hn.2
  have z1 : 1 ≤ 2 * (Tm.mk k str n l).sz - 1 := by simp only [Tm.sz]; omega
  by_cases k0 : k = 0
  · subst k0
    refine ⟨(encS h str).1, (encS h str).2, ?_, (enc_ext h str).mono z1, fun e => ?_⟩
    · refine AC.vc hP sh lv30 (by simp) (by simp [isLive]) (by simp [isLive]) (Eq.mpr (v30_i1 0 str n (FTs l) 7 ..) ?_)
      exact br_of (fun _ => ⟨symS h str, c_hsym h str (by omega), putS (symS h str).2 ⟨0, (symS h str).1, 0, 0, 0⟩, c_hput _ _ (by rw [symS_C]; omega), .refl _, rfl⟩) (fun h => by cases h)
    · have e : (putS (symS h str).2 ⟨0, (symS h str).1, 0, 0, 0⟩).1.2 = 0 := e
      obtain ⟨p0, p1, p2⟩ := put_ok e
      have hf : 0 ≤ (symS h str).1 ∧ (symS h str).1 < ((symS h str).2.N.length : Int) := by
        simpa [fitsH] using p0
      have hnn := (put_N (symS h str).2 ⟨0, (symS h str).1, 0, 0, 0⟩).1
      unfold encS
      exact ⟨_, 1, .con _ p1 (by rw [p2]) (by rw [p2, hnn]; exact hf), by simp only [Tm.sz]; omega⟩
  by_cases k3 : k = 1 ∨ k = 2 ∨ k = 3
  · refine ⟨(putS h ⟨k, n, 0, 0, 0⟩).1, (putS h ⟨k, n, 0, 0, 0⟩).2, ?_, (put_ext h _).mono z1, fun e => ?_⟩
    · have hp := c_hput h ⟨k, n, 0, 0, 0⟩ (by omega)
      refine AC.vc hP sh lv30 (by simp) (by simp [isLive]) (by simp [isLive]) (Eq.mpr (v30_i1 k str n (FTs l) 7 ..) ?_)
      refine br_eq (fun e => absurd e k0) (fun _ => br_eq (fun e => ?_) (fun n1 => br_eq (fun e => ?_) (fun n2 => br_eq (fun e => ?_) (fun n3 => ?_))))
      · subst e; exact ⟨putS h ⟨1, n, 0, 0, 0⟩, hp, .refl _, rfl⟩
      · subst e; exact ⟨putS h ⟨2, n, 0, 0, 0⟩, hp, .refl _, rfl⟩
      · subst e; exact ⟨putS h ⟨3, n, 0, 0, 0⟩, hp, .refl _, rfl⟩
      · omega
    · obtain ⟨p0, p1, p2⟩ := put_ok e
      refine ⟨_, 1, .atom _ p1 ?_, by simp only [Tm.sz]; omega⟩
      rw [p2]
      rcases k3 with k3 | k3 | k3
      · exact .inl k3
      · exact .inr (.inl k3)
      · refine .inr (.inr ⟨k3, ?_, hnk (by omega)⟩)
        subst k3
        simpa [fitsH] using p0
  by_cases k4 : k = 4
  · subst k4
    have h0n : 0 ≤ n := by rw [validB] at hv; simp at hv; omega
    refine ⟨varS h n, h, ?_, Ext.refl h _, fun e => ?_⟩
    · have hp := c_hvar h n h0n
      refine AC.vc hP sh lv30 (by simp) (by simp [isLive]) (by simp [isLive]) (Eq.mpr (v30_i1 4 str n (FTs l) 7 ..) ?_)
      exact br_of (fun h => by cases h) (fun _ => br_of (fun h => by cases h) (fun _ => br_of (fun h => by cases h) (fun _ => br_of (fun h => by cases h) (fun _ => br_of (fun _ => ⟨varS h n, hp, .refl _, rfl⟩) (fun h => by cases h)))))
    · have e1 : (varS h n).1 = 0 := by
        unfold varS; split
        · rfl
        · split
          · rfl
          · rfl
      rw [e1]
      exact ⟨_, 1, .free 0 h0.1 h0.2, by simp only [Tm.sz]; omega⟩
  have hok := valid_ok _ hv
  by_cases k5 : k = 5
  · subst k5
    obtain ⟨u, rfl, _⟩ := okB5 hok rfl
    have zs : (Tm.mk 5 str n [u]).sz = u.sz + 1 := by simp only [Tm.sz, Tm.szs]; omega
    rw [zs] at hz hC hN
    have hvu := validL_mem (validL_of hv (.inl rfl)) (List.mem_singleton.2 rfl)
    obtain ⟨r1, h1, a1, a2, a3⟩ := ih u (List.mem_singleton.2 rfl) hvu (nears_mem hnl (List.mem_singleton.2 rfl)) (by omega) h h0 (by omega) (by omega)
    have l1 := a2.len
    rw [zs]
    by_cases e1 : r1.2 = 0
    · obtain ⟨w, d, b1, b2⟩ := a3 e1
      have hp := c_hput h1 ⟨6, r1.1, 0, 0, 0⟩ (by omega)
      have pe := put_ext h1 ⟨6, r1.1, 0, 0, 0⟩
      refine ⟨(putS h1 ⟨6, r1.1, 0, 0, 0⟩).1, (putS h1 ⟨6, r1.1, 0, 0, 0⟩).2, ?_, a2.trans pe (by omega), fun e => ?_⟩
      · refine AC.vc hP sh lv30 (by simp) (by simp [isLive]) (by simp [isLive]) (Eq.mpr (v30_i1 5 str n (FTs [u]) 7 ..) ?_)
        refine br_of (fun h => by cases h) (fun _ => br_of (fun h => by cases h) (fun _ => br_of (fun h => by cases h) (fun _ => br_of (fun h => by cases h) (fun _ => br_of (fun h => by cases h) (fun _ => ⟨⟨rfl, Int.le_refl _, by rw [FTs_length]; simp, rE_FT u⟩, (r1, h1), ?_, br_of (fun q => absurd e1 (by simpa using q)) (fun _ => br_of (fun _ => ⟨putS h1 ⟨6, r1.1, 0, 0, 0⟩, hp, .refl _, rfl⟩) (fun h => by cases h))⟩)))))
        rw [aE_hd]; exact a1
      · obtain ⟨p0, p1, p2⟩ := put_ok e
        exact ⟨_, d + 1, .lam _ w d p1 (by rw [p2]) (by rw [p2]; exact b1.ext pe), by omega⟩
    · refine ⟨(0, r1.2), h1, ?_, a2.mono (by omega), fun e => absurd e e1⟩
      refine AC.vc hP sh lv30 (by simp) (by simp [isLive]) (by simp [isLive]) (Eq.mpr (v30_i1 5 str n (FTs [u]) 7 ..) ?_)
      refine br_of (fun h => by cases h) (fun _ => br_of (fun h => by cases h) (fun _ => br_of (fun h => by cases h) (fun _ => br_of (fun h => by cases h) (fun _ => br_of (fun h => by cases h) (fun _ => ⟨⟨rfl, Int.le_refl _, by rw [FTs_length]; simp, rE_FT u⟩, (r1, h1), ?_, br_of (fun _ => ⟨.refl _, rfl⟩) (fun q => absurd (by simpa using q) e1)⟩)))))
      rw [aE_hd]; exact a1
  by_cases k6 : k = 6
  · subst k6
    obtain ⟨u, y, r, rfl, _, _⟩ := okB6 hok rfl
    have zs : (Tm.mk 6 str n (u :: y :: r)).sz = u.sz + Tm.szs (y :: r) + 1 := by simp only [Tm.sz, Tm.szs]; omega
    rw [zs] at hz hC hN
    have hvl := validL_of hv (.inr rfl)
    have hsl := Tm.szs_length (y :: r)
    obtain ⟨r1, h1, a1, a2, a3⟩ := ih u List.mem_cons_self (validL_mem hvl List.mem_cons_self) (nears_mem hnl List.mem_cons_self) (by omega) h h0 (by omega) (by omega)
    have l1 := a2.len
    rw [zs]
    by_cases e1 : r1.2 = 0
    · obtain ⟨w, d, b1, b2⟩ := a3 e1
      obtain ⟨r2, h2, m1, m2, m3⟩ := l_enc (y :: r) [] (fun v hv => ih v (List.mem_cons_of_mem _ hv) (validL_mem hvl (List.mem_cons_of_mem _ hv)) (nears_mem hnl (List.mem_cons_of_mem _ hv)) (by have := Tm.szs_mem hv; omega)) (by simp only [List.nil_append]; omega) h1 r1.1 w d (h0.ext a2) (by omega) (by omega) b1
      refine ⟨r2, h2, ?_, a2.trans m2 (by omega), fun e => ?_⟩
      · refine AC.vc hP sh lv30 (by simp) (by simp [isLive]) (by simp [isLive]) (Eq.mpr (v30_i1 6 str n (FTs (u :: y :: r)) 7 ..) ?_)
        have hlen := FTs_length (u :: y :: r)
        have et : List.drop 1 (List.take (Int.toNat (((FTs (u :: y :: r)).length : Nat) : Int)) (FTs (u :: y :: r))) = FTs (y :: r) := by rw [Int.toNat_natCast, List.take_of_length_le (Nat.le_refl _)]; rfl
        rw [et]
        refine br_of (fun h => by cases h) (fun _ => br_of (fun h => by cases h) (fun _ => br_of (fun h => by cases h) (fun _ => br_of (fun h => by cases h) (fun _ => br_of (fun h => by cases h) (fun _ => ⟨⟨rfl, Int.le_refl _, by rw [hlen]; simp only [List.length_cons]; omega, rE_FT u⟩, (r1, h1), ?_, br_of (fun q => absurd e1 (by simpa using q)) (fun _ => br_of (fun h => by cases h) (fun _ => ⟨rfl, ⟨by omega, by rw [hlen]; simp only [List.length_cons]; omega, Int.le_refl _⟩, rfl, ?_⟩))⟩)))))
        · rw [aE_hd]; exact a1
        · rw [FTs_length]; exact m1
      · obtain ⟨x, c, q1, q2⟩ := m3 e
        exact ⟨x, c, q1, by omega⟩
    · refine ⟨(0, r1.2), h1, ?_, a2.mono (by omega), fun e => absurd e e1⟩
      refine AC.vc hP sh lv30 (by simp) (by simp [isLive]) (by simp [isLive]) (Eq.mpr (v30_i1 6 str n (FTs (u :: y :: r)) 7 ..) ?_)
      refine br_of (fun h => by cases h) (fun _ => br_of (fun h => by cases h) (fun _ => br_of (fun h => by cases h) (fun _ => br_of (fun h => by cases h) (fun _ => br_of (fun h => by cases h) (fun _ => ⟨⟨rfl, Int.le_refl _, by rw [FTs_length]; simp only [List.length_cons]; omega, rE_FT u⟩, (r1, h1), ?_, br_of (fun _ => ⟨.refl _, rfl⟩) (fun q => absurd (by simpa using q) e1)⟩)))))
      rw [aE_hd]; exact a1
  · exfalso
    rw [validB] at hv
    simp [k0, k4, k5, k6, show k ≠ 1 from fun e => k3 (.inl e), show k ≠ 2 from fun e => k3 (.inr (.inl e)), show k ≠ 3 from fun e => k3 (.inr (.inr e))] at hv

end Go.AM

set_option maxRecDepth 100000
open Go Go.Proofs
namespace Go.AM

/-! ### The plain law: what is put in and moved, in one walk -/
theorem suLeaf_out (y u : Tm) (d : Int) (h : u.k ≠ 3 ∨ u.n < d) : suLeaf 0 y u d = u := by
  unfold suLeaf
  split
  · rename_i h3
    have h3 : u.k = 3 := by simpa using h3
    rw [if_pos (by rcases h with h | h <;> omega)]
  · rfl
theorem sh_in (by_ : Int) (k : Int) (s : List UInt8) (n : Int) (l : List Tm) (d : Int) (hk : (k == 5 || k == 6) = true) : shT 0 by_ (.mk k s n l) d = .mk k s n (walkL (shLeaf 0 by_) l (d + if (k == 5) = true then 1 else 0)) := walkF_keep _ (shLeaf_k 0 by_) k s n l d hk
theorem shl_pos {by_ k n d : Int} {s : List UInt8} {l : List Tm} (h3 : k = 3) (h : d ≤ n) : shLeaf 0 by_ (.mk k s n l) d = .mk k s (n + by_) l := by
  unfold shLeaf
  rw [if_pos (show (Tm.k (.mk k s n l) == 3) = true ∧ d + 0 ≤ Tm.n (.mk k s n l) from ⟨by simp [Tm.k, h3], by simp only [Tm.n]; omega⟩)]; rfl
theorem shl_neg {by_ k n d : Int} {s : List UInt8} {l : List Tm} (h : ¬ (k = 3 ∧ d ≤ n)) : shLeaf 0 by_ (.mk k s n l) d = .mk k s n l := by
  unfold shLeaf
  rw [if_neg (show ¬ ((Tm.k (.mk k s n l) == 3) = true ∧ d + 0 ≤ Tm.n (.mk k s n l)) from fun e => h ⟨by simpa [Tm.k] using e.1, by have := e.2; simp only [Tm.n] at this; omega⟩)]
mutual
theorem sh_sh0 (d e : Int) (he : 0 ≤ e) : ∀ (u : Tm) (f : Int), shT 0 d (shT 0 e u f) (e + f) = shT 0 (d + e) u f
  | .mk k s n l, f => by
    cases hk : (k == 5 || k == 6) with
    | true => rw [sh_in _ _ _ _ _ _ hk, sh_in _ _ _ _ _ _ hk, sh_in _ _ _ _ _ _ hk, Int.add_assoc, sh_shs0 d e he l]
    | false =>
      have lf := fun a f => walkF_leaf (shLeaf 0 a) k s n l f hk
      show shT 0 d (walkF (shLeaf 0 e) (.mk k s n l) f) (e + f) = walkF (shLeaf 0 (d + e)) (.mk k s n l) f
      rw [lf, lf]
      by_cases h : k = 3 ∧ f ≤ n
      · rw [shl_pos h.1 h.2, shl_pos h.1 h.2, shT, walkF_leaf _ _ _ _ _ _ hk, shl_pos h.1 (by omega), show n + e + d = n + (d + e) by omega]
      · rw [shl_neg h, shl_neg h, shT, walkF_leaf _ _ _ _ _ _ hk, shl_neg fun e' => h ⟨e'.1, by omega⟩]
theorem sh_shs0 (d e : Int) (he : 0 ≤ e) : ∀ (l : List Tm) (f : Int), walkL (shLeaf 0 d) (walkL (shLeaf 0 e) l f) (e + f) = walkL (shLeaf 0 (d + e)) l f
  | [], _ => rfl
  | t :: l, f => by
    have h1 := sh_sh0 d e he t f
    simp only [shT] at h1
    simp only [walkL, h1, sh_shs0 d e he l f]
end
theorem walkL_app0 (lf : Tm → Int → Tm) : ∀ (a b : List Tm) (d : Int), walkL lf (a ++ b) d = walkL lf a d ++ walkL lf b d
  | [], _, _ => rfl
  | t :: a, b, d => by simp only [List.cons_append, walkL, walkL_app0 lf a b d]
/-- A shift of what is applied. -/
theorem sh_apl (by_ : Int) (x : Tm) (r : List Tm) (d : Int) (hr : r ≠ []) : shT 0 by_ (applyF x r) d = applyF (shT 0 by_ x d) (walkL (shLeaf 0 by_) r d) := by
  match r, hr with
  | y :: r, _ =>
  have ek := walkF_k (shLeaf 0 by_) (shLeaf_k 0 by_) x d
  by_cases q : (x.k == 6) = true ∧ x.l ≠ []
  · have e1 : applyF x (y :: r) = .mk 6 [] 0 (x.l ++ y :: r) := if_pos q
    obtain ⟨k, s, n, l⟩ := x
    have hk : k = 6 := by simpa [Tm.k] using q.1
    subst hk
    have e2 : shT 0 by_ (.mk 6 s n l) d = .mk 6 s n (walkL (shLeaf 0 by_) l d) := by rw [sh_in _ _ _ _ _ _ rfl]; simp
    rw [e1, e2, sh_in _ _ _ _ _ _ rfl]
    have e3 : applyF (.mk 6 s n (walkL (shLeaf 0 by_) l d)) (walkL (shLeaf 0 by_) (y :: r) d) = .mk 6 [] 0 (walkL (shLeaf 0 by_) l d ++ walkL (shLeaf 0 by_) (y :: r) d) := by
      rw [walkL]
      refine if_pos ⟨rfl, ?_⟩
      have := q.2
      cases l with
      | nil => exact absurd rfl this
      | cons v l => simp [walkL, Tm.l]
    rw [e3]
    simp only [show (d + if ((6 : Int) == 5) = true then 1 else 0) = d by simp]
    rw [show Tm.l (.mk 6 s n l) = l from rfl, walkL_app0]
  · have e1 : applyF x (y :: r) = .mk 6 [] 0 (x :: y :: r) := if_neg q
    have e3 : applyF (shT 0 by_ x d) (walkL (shLeaf 0 by_) (y :: r) d) = .mk 6 [] 0 (shT 0 by_ x d :: walkL (shLeaf 0 by_) (y :: r) d) := by
      rw [walkL]
      refine if_neg fun e => q ⟨by rw [← ek]; exact e.1, ?_⟩
      intro hl
      obtain ⟨k, s, n, l⟩ := x
      have hl : l = [] := hl
      subst hl
      by_cases hk : (k == 5 || k == 6) = true
      · exact e.2 (by rw [sh_in _ _ _ _ _ _ hk]; rfl)
      · have hk6 : ((Tm.mk k s n []).k == 6) = true := by rw [← ek]; exact e.1
        have hk6 : k = 6 := by simpa [Tm.k] using hk6
        subst hk6; exact hk rfl
    rw [e1, e3, sh_in _ _ _ _ _ _ rfl]
    simp only [show (d + if ((6 : Int) == 5) = true then 1 else 0) = d by simp]
    rfl
theorem put_in {y : Tm} {by_ : Int} (hb : 0 ≤ by_) {t : Tm} (h : Cl t) : ∀ d : Int, 0 ≤ d → shT 0 by_ (suT 0 y t d) d = walkF (lfP y by_) t d := by
  induction h with
  | leaf k s n h5 h6 h3 =>
    intro d hd
    have hk : (k == 5 || k == 6) = false := by simp [h5, h6]
    rw [suT, walkF_leaf _ _ _ _ _ _ hk, walkF_leaf _ _ _ _ _ _ hk]
    by_cases q : k = 3 ∧ d ≤ n
    · obtain ⟨rfl, g1, g2⟩ := h3 q.1
      have q3 := q.1
      subst q3
      have e1 : lfP y by_ (.mk 3 [] n []) d = if n = d then shT 0 (by_ + d) y 0 else .mk 3 [] (n - 1 + by_) [] := if_pos q
      rw [e1]
      unfold suLeaf
      rw [if_pos (show ((Tm.mk 3 [] n []).k == 3) = true from rfl), if_neg (show ¬ ((Tm.mk 3 [] n []).n < d + 0) from by simp only [Tm.n]; omega)]
      by_cases e : n = d
      · rw [if_pos e, if_pos (show ((Tm.mk 3 [] n []).n == d + 0) = true from by simp [Tm.n, e])]
        have := sh_sh0 by_ d hd y 0
        rwa [Int.add_zero] at this
      · rw [if_neg e, if_neg (show ¬ ((Tm.mk 3 [] n []).n == d + 0) = true from by simp [Tm.n, e])]
        show walkF (shLeaf 0 by_) (.mk 3 [] (n - 1) []) d = _
        rw [walkF_leaf _ _ _ _ _ _ rfl, shl_pos rfl (by omega)]
    · rw [out_P y by_ _ _ (by simpa [Tm.k, Tm.n] using q), suLeaf_out _ _ _ (by simp only [Tm.k, Tm.n]; omega)]
      show walkF (shLeaf 0 by_) (.mk k s n []) d = _
      rw [walkF_leaf _ _ _ _ _ _ hk, shl_neg q]
  | lam u hu ih =>
    intro d hd
    rw [suT, walk_lam, walk_lam, shT, walk_lam]
    have := ih (d + 1) (by omega)
    rw [shT, suT] at this
    rw [this]
  | app h l hh hk hl hu ih1 ih2 =>
    intro d hd
    rw [suT, walk_app _ _ _ _ hl hk, walk_app _ _ _ _ hl hk]
    have e : ∀ m : List Tm, (∀ u ∈ m, u ∈ l) → walkL (shLeaf 0 by_) (walkL (suLeaf 0 y) m d) d = walkL (lfP y by_) m d := by
      intro m
      induction m with
      | nil => intro _; rfl
      | cons v m ihm =>
        intro hm
        have := ih2 v (hm v List.mem_cons_self) d hd
        rw [shT, suT] at this
        rw [walkL, walkL, walkL, this, ihm fun u hu => hm u (List.mem_cons_of_mem _ hu)]
    have h1 := ih1 d hd
    rw [suT] at h1
    rw [walkL, walkL]
    show shT 0 by_ (applyF _ _) d = applyF _ _
    rw [sh_apl _ _ _ _ (by cases l with
      | nil => exact absurd rfl hl
      | cons v l => simp [walkL]), h1, e l fun u hu => hu]
/-! ### Encode, Decode -/
theorem ole_cut {n : Nat} {fs gs : List (List FV)} (hl : gs.length ≤ fs.length) (h : ∀ (i : Nat) (e e' : List FV), fs[i]? = some e → gs[i]? = some e' → LeR e e') : OLe (.arz n fs) (.arz n gs) :=
  .rows n fs gs hl (fun i e e' he he' => (h i e e' he he').length) fun i j e e' f f' he he' hf hf' => (h i e e' he he').get j f f' hf hf'
theorem c_Enc (t : Tm) (hn : near 1000 t = true) (hz : t.sz ≤ 500) (h : Hp) (h0 : H0 h) (hC : h.C.length + 2 * t.sz ≤ 10000) (hN : h.N.length + 2 * t.sz ≤ 10000) :
    ∃ r h', AC Try.prog 12 [aH 0, aT t, aVs] (oHv h) (t2 r) (oHv' h') ∧ Ext h h' (2 * t.sz) ∧ (r.2 = 0 → ∃ x c, Rep h'.C h'.N r.1 x c ∧ c + 1 ≤ 2 * t.sz) := by
  have hv := c_valid t (by simp only [B]; omega)
  cases eb : validB t with
  | false =>
    rw [eb] at hv
    obtain ⟨k, s, n, l⟩ := t
    refine ⟨(0, 1), h, AC.vc hP sh lv12 (by simp) (by simp [isLive]) (by simp [isLive]) (Eq.mpr (v12_i1 k s n (FTs l) 7 ..) ?_), Ext.refl h _, fun e => by cases e⟩
    exact ⟨_, hv, br_of (fun _ => ⟨.refl _, rfl⟩) (fun h => by cases h)⟩
  | true =>
    rw [eb] at hv
    obtain ⟨r, h', a1, a2, a3⟩ := c_enc t eb hn hz h h0 hC hN
    by_cases er : r.2 = 0
    · refine ⟨r, h', ?_, a2.mono (by omega), a3⟩
      obtain ⟨k, s, n, l⟩ := t
      refine AC.vc hP sh lv12 (by simp) (by simp [isLive]) (by simp [isLive]) (Eq.mpr (v12_i1 k s n (FTs l) 7 ..) ?_)
      refine ⟨_, hv, br_of (fun h => by cases h) (fun _ => ⟨(r, h'), a1, br_of (fun q => absurd er (by simpa using q)) (fun _ => ?_)⟩)⟩
      rw [show t2 r = t2 (r.1, 0) by rw [← er]]
      exact ⟨.refl _, rfl⟩
    · refine ⟨(0, r.2), { h' with C := h.C }, ?_, ⟨⟨[], by simp, by simp⟩, by obtain ⟨D, d1, d2⟩ := a2.N; exact ⟨D, d1, by omega⟩, a2.M⟩, fun e => absurd e er⟩
      have hl := a2.len
      refine AC.obj (Hs' := [.arr 6 [[.a (.osl 6 5 0 h.C.length), .a (.osl 7 7 0 h'.T.length), .a (.fz (.int .i64 h'.M)), .a (.fz (.int .i64 h'.L)), .a (.osl 8 1 0 h'.N.length), .a (.mp 4)]], .gone, .gone, .gone, .mapz (NM h'.N 0), .arz 1 (IR vs8), .arz 5 (CR h'.C), .arz 7 (TR h'.T), .arz 1 (NR h'.N)]) ?_ ⟨.refl _, .refl _, .refl _, .refl _, .refl _, .refl _, ?_, .refl _, .refl _, trivial⟩
      · obtain ⟨k, s, n, l⟩ := t
        refine AC.vc hP sh lv12 (by simp) (by simp [isLive]) (by simp [isLive]) (Eq.mpr (v12_i1 k s n (FTs l) 7 ..) ?_)
        exact ⟨_, hv, br_of (fun h => by cases h) (fun _ => ⟨(r, h'), a1, br_of (fun _ => ⟨⟨by omega, by omega, by simp only; omega⟩, .refl _, rfl⟩) (fun q => absurd (by simpa using q) er)⟩)⟩
      · obtain ⟨D, d1, d2⟩ := a2.C
        refine ole_cut (by rw [CR_length, CR_length]; exact hl.1) fun i e e' he he' => ?_
        rw [CR, List.getElem?_map] at he he'
        obtain ⟨v, hv, rfl⟩ := Option.map_eq_some_iff.1 he'
        obtain ⟨v2, hv2, rfl⟩ := Option.map_eq_some_iff.1 he
        have hv : h.C[i]? = some v := hv
        rw [d1, List.getElem?_append_left (List.getElem?_eq_some_iff.1 hv).1, hv] at hv2
        injection hv2 with hv2; subst hv2; exact LeR.refl _
theorem c_Dec (s : Hp) (a f f' : Int) (x : Tm) (h : AC Try.prog 31 [aD, ci a] (oD s f 0) (aT x) (oD s f' 0)) : AC Try.prog 13 [aH 0, ci a, ci f] (oH s) (.tup [(true, cT x), (false, [.a (.fz (.int .i64 f'))]), (false, [.a (.fz (.int .i64 0))])]) (oH s) := by
  refine AC.vc hP sh lv13 (by simp) (by simp [isLive]) (by simp [isLive]) (Eq.mpr (v13 ..) ?_)
  exact ⟨(x, f', 0), h, br_of (fun h => by cases h) (fun _ => ⟨.refl _, rfl⟩)⟩

end Go.AM

set_option maxRecDepth 100000
open Go Go.Proofs
namespace Go.AM

/-! ### What is left to be done is a substitution -/
theorem put_is {s : Hp} {c : Cel} (h : fitsH s c = true) (hM : (s.C.length : Int) < s.M) : putS s c = (((s.C.length : Int), 0), { s with C := s.C ++ [c] }) := by
  rw [putS, if_neg (by rw [h]; simp), if_neg (by omega)]
theorem rep_isT {C : List Cel} {N : List (List UInt8)} {a : Int} {x : Tm} {c : Nat} (h : Rep C N a x c) : isT C a = true := by
  cases h with
  | con _ h1 h2 h3 => simp [isT, h1, rowB, h2]
  | atom _ h1 h2 => rcases h2 with h2 | h2 | h2 <;> simp [isT, h1, rowB, h2]
  | free _ h1 h2 => simp [isT, h1, rowB, h2]
  | lam _ _ _ h1 h2 => simp [isT, h1, rowB, h2]
  | app _ _ _ _ _ h1 h2 => simp [isT, h1, rowB, h2]
theorem app_ext (s : Hp) (c : Cel) : Ext s { s with C := s.C ++ [c] } 1 := ⟨⟨[c], rfl, by simp⟩, ⟨[], by simp, by simp⟩, rfl⟩
abbrev hpA : Hp := ⟨[⟨4, 0, 0, 0, 0⟩], [], 400, 0, []⟩
abbrev stS (t u : Tm) (by_ : Int) (i : Nat) : St :=
  ⟨[(2, ci by_), (3, .c (.a (.ep 0 4 0 0))), (4, .c (.a (.ep 1 4 0 0))), (7, cb true), (12, aH 2), (13, ci 0), (15, .c (.a (.osl 7 1 0 i))), (16, ci (i : Int))],
    [(0, .arr 4 [cT t]), (1, .arr 4 [cT u]), (2, hp6 3 4 5 6 hpA), (3, .arz 5 (CR hpA.C)), (4, .arz 7 (TR hpA.T)), (5, .arz 1 (NR hpA.N)), (6, .mapz (NM hpA.N 0)), (7, .arz 1 (IR (List.replicate i 0)))], 8⟩
theorem l_susp8 (t u : Tm) (by_ : Int) (ht : near 1000 t = true) (hu : near 1000 u = true) (htz : t.sz ≤ 30) (huz : u.sz ≤ 12) (hb0 : 0 ≤ by_) (hb1 : by_ ≤ 1000) : RPt Try.prog 3 0 (cb true) [] 1 (stS t u by_ 8) := by
  have hA0 : H0 hpA := ⟨rfl, rfl⟩
  obtain ⟨r1, h1, a1, a2, a3⟩ := c_Enc t ht (by omega) hpA hA0 (by simp; omega) (by simp; omega)
  have l1 := a2.len
  simp only [List.length_cons, List.length_nil] at l1
  obtain ⟨r2, h2, b1, b2, b3⟩ := c_Enc u hu (by omega) h1 (hA0.ext a2) (by omega) (by omega)
  have l2 := b2.len
  refine RPt.vc hP sh lv3 (Eq.mpr (v3_1b ..) ?_)
  refine br_of (fun h => absurd (of_decide_eq_true h) (by omega)) ?_
  intro _
  refine ⟨(r1, h1), a1, (r2, h2), b1, ?_⟩
  refine br_of (fun _ => ret_b rfl) (fun q1 => br_of (fun _ => ret_b rfl) (fun q2 => ?_))
  obtain ⟨x, cx, x1, x2⟩ := a3 (by simpa using q1)
  obtain ⟨y, cy, y1, y2⟩ := b3 (by simpa using q2)
  have x1 := x1.ext b2
  have m2 : h2.M = 400 := by rw [b2.M, a2.M]
  have zx := rep_sz x1
  have zy := rep_sz y1
  have clx := rep_cl x1
  have cly := rep_cl y1
  have d1 := c_Dec h2 r1.1 2000 (2000 - (cx : Int)) x (c_drep h2 x1 2000 (by omega) (by omega))
  have d2 := c_Dec h2 r2.1 2000 (2000 - (cy : Int)) y (c_drep h2 y1 2000 (by omega) (by omega))
  -- the row's end
  have p3 := c_hput h2 ⟨9, 0, 0, 0, 0⟩ (by omega)
  have i3 : putS h2 ⟨9, 0, 0, 0, 0⟩ = (((h2.C.length : Int), 0), { h2 with C := h2.C ++ [⟨9, 0, 0, 0, 0⟩] }) := put_is rfl (by omega)
  rw [i3] at p3
  have e3 := app_ext h2 ⟨9, 0, 0, 0, 0⟩
  have n3 := cell_new h2.C ⟨9, 0, 0, 0, 0⟩
  generalize hh3 : ({ h2 with C := h2.C ++ [⟨9, 0, 0, 0, 0⟩] } : Hp) = h3 at p3 e3
  have n3' : inC h3.C (h2.C.length : Int) = true ∧ cellOf h3.C (h2.C.length : Int) = ⟨9, 0, 0, 0, 0⟩ := by rw [← hh3]; exact n3
  have l3 := e3.len
  have x3 := x1.ext e3
  have y3 := y1.ext e3
  have m3 : h3.M = 400 := by rw [e3.M, m2]
  -- the row
  have p4 := c_hput h3 ⟨11, (h2.C.length : Int), r2.1, 0, 0⟩ (by omega)
  have i4 : putS h3 ⟨11, (h2.C.length : Int), r2.1, 0, 0⟩ = (((h3.C.length : Int), 0), { h3 with C := h3.C ++ [⟨11, (h2.C.length : Int), r2.1, 0, 0⟩] }) := put_is (by
    have q1 : isR h3.C (h2.C.length : Int) = true := by simp [isR, n3'.1, n3'.2, rowB]
    have q2 := rep_isT y3
    simp [fitsH, q1, q2]) (by omega)
  rw [i4] at p4
  have e4 := app_ext h3 ⟨11, (h2.C.length : Int), r2.1, 0, 0⟩
  have n4 := cell_new h3.C ⟨11, (h2.C.length : Int), r2.1, 0, 0⟩
  generalize hh4 : ({ h3 with C := h3.C ++ [⟨11, (h2.C.length : Int), r2.1, 0, 0⟩] } : Hp) = h4 at p4 e4
  have n4' : inC h4.C (h3.C.length : Int) = true ∧ cellOf h4.C (h3.C.length : Int) = ⟨11, (h2.C.length : Int), r2.1, 0, 0⟩ := by rw [← hh4]; exact n4
  have l4 := e4.len
  have x4 := x3.ext e4
  have y4 := y3.ext e4
  have m4 : h4.M = 400 := by rw [e4.M, m3]
  -- put in
  have p5 := c_hput h4 ⟨8, r1.1, (h3.C.length : Int), 1, by_⟩ (by omega)
  have i5 : putS h4 ⟨8, r1.1, (h3.C.length : Int), 1, by_⟩ = (((h4.C.length : Int), 0), { h4 with C := h4.C ++ [⟨8, r1.1, (h3.C.length : Int), 1, by_⟩] }) := put_is (by
    have q1 : isR h4.C (h3.C.length : Int) = true := by simp [isR, n4'.1, n4'.2, rowB]
    have q2 := rep_isT x4
    simp [fitsH, q1, q2, hb0]) (by omega)
  rw [i5] at p5
  have e5 := app_ext h4 ⟨8, r1.1, (h3.C.length : Int), 1, by_⟩
  have n5 := cell_new h4.C ⟨8, r1.1, (h3.C.length : Int), 1, by_⟩
  generalize hh5 : ({ h4 with C := h4.C ++ [⟨8, r1.1, (h3.C.length : Int), 1, by_⟩] } : Hp) = h5 at p5 e5
  have n5' : inC h5.C (h4.C.length : Int) = true ∧ cellOf h5.C (h4.C.length : Int) = ⟨8, r1.1, (h3.C.length : Int), 1, by_⟩ := by rw [← hh5]; exact n5
  have l5 := e5.len
  have x5 := x4.ext e5
  have y5 := y4.ext e5
  have m5 : h5.M = 400 := by rw [e5.M, m4]
  have r5 := e5.cell n4'.1
  rw [n4'.2] at r5
  have s3 := e4.cell n3'.1
  rw [n3'.2] at s3
  have s5 := e5.cell s3.1
  rw [s3.2] at s5
  -- moved
  have p6 := c_hput h5 ⟨8, r1.1, (h2.C.length : Int), 0, by_⟩ (by omega)
  have i6 : putS h5 ⟨8, r1.1, (h2.C.length : Int), 0, by_⟩ = (((h5.C.length : Int), 0), { h5 with C := h5.C ++ [⟨8, r1.1, (h2.C.length : Int), 0, by_⟩] }) := put_is (by
    have q1 : isR h5.C (h2.C.length : Int) = true := by simp [isR, s5.1, s5.2, rowB]
    have q2 := rep_isT x5
    simp [fitsH, q1, q2, hb0]) (by omega)
  rw [i6] at p6
  have e6 := app_ext h5 ⟨8, r1.1, (h2.C.length : Int), 0, by_⟩
  have n6 := cell_new h5.C ⟨8, r1.1, (h2.C.length : Int), 0, by_⟩
  generalize hh6 : ({ h5 with C := h5.C ++ [⟨8, r1.1, (h2.C.length : Int), 0, by_⟩] } : Hp) = h6 at p6 e6
  have n6' : inC h6.C (h5.C.length : Int) = true ∧ cellOf h6.C (h5.C.length : Int) = ⟨8, r1.1, (h2.C.length : Int), 0, by_⟩ := by rw [← hh6]; exact n6
  have x6 := x5.ext e6
  have y6 := y5.ext e6
  have c5 := e6.cell n5'.1
  rw [n5'.2] at c5
  have c4 := e6.cell r5.1
  rw [r5.2] at c4
  -- decoded
  obtain ⟨f1, _, g1⟩ := c_dsusp h6 (h4.C.length : Int) x cx (1 + cy) (lfP y by_) c5.1 (by rw [c5.2]) (by rw [c5.2]; exact x6) (by omega) (by omega) (fun n d f hd0 hd1 hdn hn hf hf2 => by
    rw [c5.2]
    by_cases e : n = d
    · refine ⟨f - 1 - (cy : Int), by push_cast; omega, by omega, ?_⟩
      rw [show n - d = 0 by omega, show lfP y by_ (.mk 3 [] n []) d = shT 0 (by_ + d) y 0 from (if_pos ⟨rfl, hdn⟩).trans (if_pos e)]
      exact c_dlooseP h6 ⟨8, r1.1, (h3.C.length : Int), 1, by_⟩ d f rfl c4.1 (by rw [c4.2]) (by rw [c4.2]) (by rw [c4.2]; exact y6) (by omega) (by push_cast at hf; omega) hf2 hd0 (by omega) hb0 (by simp only; omega)
    · refine ⟨f - 1, by push_cast; omega, by omega, ?_⟩
      rw [show lfP y by_ (.mk 3 [] n []) d = .mk 3 [] (n - 1 + by_) [] from (if_pos ⟨rfl, hdn⟩).trans (if_neg e), show n - 1 + by_ = d + (n - d) - 1 + by_ by omega]
      exact c_dloose1 h6 ⟨8, r1.1, (h3.C.length : Int), 1, by_⟩ (n - d) d f (by omega) rfl c4.1 (by rw [c4.2]) (by push_cast at hf; omega) hf2 hd0 (by omega) (by omega) hb0 (by simp only; omega))
    (out_P y by_) (fun v d => by
      have := shT_sz 0 (by_ + d) y 0
      have := v.sz_eq
      unfold lfP
      split
      · split
        · omega
        · simp only [Tm.sz, Tm.szs]; omega
      · omega) 20000 (by
        have : x.sz * (1 + cy) ≤ 60 * 24 := Nat.mul_le_mul (by omega) (by omega)
        have h9 : (x.sz : Int) * ((1 + cy : Nat) : Int) ≤ 1440 := by exact_mod_cast this
        omega) (by omega)
  obtain ⟨f2, _, g2⟩ := c_dsusp h6 (h5.C.length : Int) x cx 0 (lfM by_) n6'.1 (by rw [n6'.2]) (by rw [n6'.2]; exact x6) (by omega) (by omega) (fun n d f hd0 hd1 hdn hn hf hf2 => by
    rw [n6'.2]
    refine ⟨f, by simp, Int.le_refl _, ?_⟩
    rw [show lfM by_ (.mk 3 [] n []) d = .mk 3 [] (n + by_) [] from if_pos ⟨rfl, hdn⟩, show n + by_ = d + (n - d) + by_ by omega]
    exact c_dloose0 h6 ⟨8, r1.1, (h2.C.length : Int), 0, by_⟩ (n - d) d f (by omega) rfl hd0 (by omega) (by omega) hb0 (by simp only; omega))
    (out_M by_) (lfM_sz by_) 20000 (by simp; omega) (by omega)
  have d3 := c_Dec h6 (h4.C.length : Int) 20000 f1 _ g1
  have d4 := c_Dec h6 (h5.C.length : Int) 20000 f2 _ g2
  -- the document's
  have bx := cl_bd clx
  have by' := cl_bd cly
  have hnd := nd_le_sz x
  have hmul : nd x * y.sz ≤ 60 * 24 := Nat.mul_le_mul (by omega) (by omega)
  have su := c_rSubst x y 0 (by simp only [B]; omega) (by simp only [B]; omega) (bd_le (by simp only [M61]; omega) x bx) (bd_le (by simp only [M61]; omega) y by') (Int.le_refl _) (by simp only [M61]; omega)
  have bs : bd 10000 (suT 0 y x 0) := suT_bd (M' := 1000) (D := 1000) y x 0 (bd_le (by omega) x bx) by' (by omega) (Int.le_refl _) (by omega) (Int.le_refl _) (by omega)
  have ssz := walkF_sz (suLeaf 0 y) y.sz (suLeaf_sz 0 y) x 0
  have w1 := c_rShift (suT 0 y x 0) 0 by_ (by show (walkF (suLeaf 0 y) x 0).sz ≤ B; simp only [B]; omega) (bd_le (by simp only [M61]; omega) _ bs) (Int.le_refl _) (by simp only [M61]; omega) (by omega) (by simp only [M61]; omega)
  have w2 := c_rShift x 0 by_ (by simp only [B]; omega) (bd_le (by simp only [M61]; omega) x bx) (Int.le_refl _) (by simp only [M61]; omega) (by omega) (by simp only [M61]; omega)
  rw [put_in hb0 clx 0 (Int.le_refl _)] at w1
  rw [shT_same clx] at w2
  have lsz := walkF_sz (lfP y by_) 24 (fun v d => by
      have := shT_sz 0 (by_ + d) y 0
      have := v.sz_eq
      unfold lfP
      split
      · split
        · omega
        · simp only [Tm.sz, Tm.szs]; omega
      · omega) x 0
  have msz := walkF_sz (lfM by_) 1000000 (lfM_sz by_) x 0
  have hm3 : nd x * 24 ≤ 60 * 24 := Nat.mul_le_mul_right _ (by omega)
  have hm4 : nd x * 1000000 ≤ 60 * 1000000 := Nat.mul_le_mul_right _ (by omega)
  have s1 := c_rsame (walkF (lfP y by_) x 0) (by simp only [B]; omega) (walkF (lfP y by_) x 0)
  have s2 := c_rsame (walkF (lfM by_) x 0) (by simp only [B]; omega) (walkF (lfM by_) x 0)
  rw [(sameB_iff _ _).2 rfl] at s1 s2
  refine ⟨(x, 2000 - (cx : Int), 0), d1, (y, 2000 - (cy : Int), 0), d2, (((h2.C.length : Int), 0), h3), p3, (((h3.C.length : Int), 0), h4), p4, (((h4.C.length : Int), 0), h5), p5, (((h5.C.length : Int), 0), h6), p6, ?_⟩
  refine br_of (fun h => by cases h) (fun _ => br_of (fun h => by cases h) (fun _ => br_of (fun h => by cases h) (fun _ => br_of (fun h => by cases h) (fun _ => ?_))))
  refine ⟨(walkF (lfP y by_) x 0, f1, 0), d3, (walkF (lfM by_) x 0, f2, 0), d4, _, su, _, w1, _, s1, _, w2, _, s2, ?_⟩
  exact br_of (fun _ => br_of (fun _ => br_of (fun _ => br_of (fun _ => ret_b rfl) (fun h => by cases h)) (fun h => by cases h)) (fun h => by cases h)) (fun h => by cases h)
theorem l_suspI (t u : Tm) (by_ : Int) (next : RPt Try.prog 3 0 (cb true) [] 1 (stS t u by_ 8)) : ∀ (j i : Nat), i + j = 8 → RPt Try.prog 3 0 (cb true) [] 1 (stS t u by_ i)
  | 0, i, hi => by
    obtain rfl : i = 8 := by omega
    exact next
  | j + 1, i, hi => by
    refine RPt.vc hP sh lv3 (Eq.mpr (v3_1b ..) ?_)
    have ih := l_suspI t u by_ next j (i + 1) (by omega)
    rw [w64 (x := (i : Int) + 1) (by omega) (by omega)]
    have hl : (IR (List.replicate i 0)).length = i := by rw [IR_length, List.length_replicate]
    refine br_of (fun _ => ⟨Nat.le_refl _, ⟨by rw [hl]; exact Nat.le_refl _, by simp only [roomB]; omega⟩, ?_⟩) (fun h => absurd (of_decide_eq_false h) (by omega))
    have e : List.take i (IR (List.replicate i 0)) ++ [[FV.int .i64 0]] = IR (List.replicate (i + 1) 0) := by
      rw [List.take_of_length_le (by rw [hl]; exact Nat.le_refl _), List.replicate_succ', IR, IR, List.map_append]; rfl
    rw [e]
    exact ih
theorem c_heapsusps (t u : Tm) (by_ : Int) (ht : t.sz ≤ B) (hu : u.sz ≤ B) : AC Try.prog 3 [aT t, aT u, ci by_] [] (cb true) [] := by
  have t1 := c_large t ht 30 (by omega) (by omega)
  have t2 := c_large u hu 12 (by omega) (by omega)
  have t3 := c_near 1000 (by omega) (by omega) t ht
  have t4 := c_near 1000 (by omega) (by omega) u hu
  have key : large t 30 = false → large u 12 = false → near 1000 t = true → near 1000 u = true → 0 ≤ by_ → by_ ≤ 1000 → RPt Try.prog 3 0 (cb true) [] 1 (stS t u by_ 1) := fun g1 g2 g3 g4 g5 g6 =>
    l_suspI t u by_ (l_susp8 t u by_ g3 g4 (by have := large_sz g1; omega) (by have := large_sz g2; omega) g5 g6) 7 1 rfl
  obtain ⟨k, s, n, l⟩ := t
  obtain ⟨k', s', n', l'⟩ := u
  refine AC.vc hP sh lv3 (Nat.le_refl _) (by simp) (by simp) (Eq.mpr (v3 k s n (FTs l) k' s' n' (FTs l') ..) ?_)
  refine ⟨_, c_works20, br_of (fun h => by cases h) (fun _ => ⟨_, t1, _, t2, _, t3, _, t4, br_of (fun _ => ret_b rfl) (fun g1 => br_of (fun _ => ret_b rfl) (fun g2 => br_of (fun _ => ret_b rfl) (fun g3 => br_of (fun _ => ret_b rfl) (fun g4 => br_of (fun _ => ret_b rfl) (fun g5 => br_of (fun _ => ret_b rfl) (fun g6 => ?_))))))⟩)⟩
  refine ⟨⟨[], [], 400, 0, []⟩, c_hnew 400 0, ((0, 0), hpA), c_hput ⟨[], [], 400, 0, []⟩ ⟨4, 0, 0, 0, 0⟩ (by simp), RPt.vc hP sh lv3 (Eq.mpr (v3_1a ..) ?_)⟩
  exact br_of (fun _ => ⟨Nat.le_refl _, by simp only [roomB]; omega, key g1 g2 (by simpa using g3) (by simpa using g4) (by have := of_decide_eq_false g5; omega) (by have := of_decide_eq_false g6; omega)⟩) (fun h => by cases h)

end Go.AM

namespace Go.AM
open Go.ChangeShapes Go.WideShapes Go.ChangeAt Go.RowKit

section
variable {H : Type} {enc : TypeId × Value → H} {P : Program} {w : World}

/-- Nothing is shut out. -/
abbrev none1 : Nat → Prop := fun _ => False
/-- Whatever reads (with so much fuel) at type t is some F a, of size at most that of what was read. -/
def RdN (enc : TypeId × Value → H) (P : Program) (w : World) (b : DataW H → Nat) (fuel : Nat) (t : TypeId) {α : Type} (F : α → List FV) (sz : α → Nat) : Prop :=
  ∀ cs x, DataW.trod enc P w 0 (fun _ => true) true fuel t cs = some x → ∃ a, LRep (FRep w none1) (F a) cs ∧ sz a ≤ b x.1

theorem rd_int {b : DataW H → Nat} {t : TypeId} {k : IntKind} (ht : P.underlying t = some (.int k)) (hb : ∀ d, 1 ≤ b d) (fuel : Nat) : RdN enc P w b fuel t (fun n : Int => [.int k n]) (fun _ => 1) := by
  intro cs x h
  obtain ⟨n, rfl, rfl, _⟩ := DataW.trod_int ht h
  exact ⟨n, .cons (.int k n) .nil, hb _⟩
/-- A number within its kind. -/
def Num (k : IntKind) := { n : Int // (Lit.int k n).wf = true }
theorem rd_num {b : DataW H → Nat} {t : TypeId} {k : IntKind} (ht : P.underlying t = some (.int k)) (hb : ∀ d, 1 ≤ b d) (fuel : Nat) : RdN enc P w b fuel t (fun n : Num k => [.int k n.1]) (fun _ => 1) := by
  intro cs x h
  obtain ⟨n, rfl, rfl, hw⟩ := DataW.trod_int ht h
  exact ⟨⟨n, hw⟩, .cons (.int k n) .nil, hb _⟩
theorem rd_bool {b : DataW H → Nat} {t : TypeId} (ht : P.underlying t = some .bool) (hb : ∀ d, 1 ≤ b d) (fuel : Nat) : RdN enc P w b fuel t (fun n : Bool => [.bool n]) (fun _ => 1) := by
  intro cs x h
  obtain ⟨n, rfl, rfl⟩ := DataW.trod_bool ht h
  exact ⟨n, .cons (.bool n) .nil, hb _⟩
theorem rd_str {b : DataW H → Nat} {t : TypeId} (ht : P.underlying t = some .string) (hb : ∀ l : List UInt8, l.length + 1 ≤ b (.lit (.string l))) (fuel : Nat) : RdN enc P w b fuel t (fun l : List UInt8 => [.str l]) (fun l => l.length + 1) := by
  intro cs x h
  obtain ⟨s, rfl, rfl, _⟩ := DataW.trod_string ht h
  refine ⟨s.data.toList, .cons ?_ .nil, hb _⟩
  have : (⟨s.data.toList.toArray⟩ : ByteArray) = s := by simp
  have h2 := FRep.str (w := w) (X := none1) s.data.toList
  rw [this] at h2
  exact h2

def sumBy {α : Type} (sz : α → Nat) : List α → Nat
  | [] => 0
  | a :: l => sz a + sumBy sz l
theorem sumBy_mem {α : Type} {sz : α → Nat} : ∀ {l : List α} {a : α}, a ∈ l → sz a ≤ sumBy sz l
  | x :: l, a, h => by
    rcases List.mem_cons.1 h with rfl | h
    · simp [sumBy]
    · have := sumBy_mem (sz := sz) h; simp only [sumBy]; omega
theorem sumBy_length {α : Type} {sz : α → Nat} (h : ∀ a, 1 ≤ sz a) : ∀ l : List α, l.length ≤ sumBy sz l
  | [] => Nat.le_refl _
  | a :: l => by have := sumBy_length h l; have := h a; simp only [sumBy, List.length_cons]; omega

theorem choose_list {α β : Type} {R : α → β → Prop} : ∀ {l : List β}, (∀ (i : Nat) (y : β), l[i]? = some y → ∃ x, R x y) → ∃ xs : List α, xs.length = l.length ∧ ∀ (i : Nat) (x : α) (y : β), xs[i]? = some x → l[i]? = some y → R x y
  | [], _ => ⟨[], rfl, fun i x y h => by simp at h⟩
  | y :: l, h => by
    obtain ⟨x, hx⟩ := h 0 y rfl
    obtain ⟨xs, h1, h2⟩ := choose_list (l := l) fun i y' hy => h (i + 1) y' (by simpa using hy)
    refine ⟨x :: xs, by simp [h1], fun i x' y' hx' hy' => ?_⟩
    cases i with
    | zero => simp at hx' hy'; subst hx'; subst hy'; exact hx
    | succ i => exact h2 i x' y' (by simpa using hx') (by simpa using hy')

theorem sum_le {α : Type} {sz : α → Nat} {b : DataW H → Nat} {bs : List (DataW H) → Nat} (hbs : ∀ d l, bs (d :: l) = b d + bs l) : ∀ {xs : List α} {es : List (DataW H × List MemPlace)}, xs.length = es.length → (∀ (i : Nat) (x : α) (y : DataW H × List MemPlace), xs[i]? = some x → es[i]? = some y → sz x ≤ b y.1) → sumBy sz xs ≤ bs (es.map (·.1))
  | [], _, _, _ => by simp [sumBy]
  | x :: xs, [], h, _ => by simp at h
  | x :: xs, e :: es, h, hr => by
    have h1 := hr 0 x e rfl rfl
    have h2 := sum_le (sz := sz) hbs (xs := xs) (es := es) (by simpa using h) fun i x y hx hy => hr (i + 1) x y (by simpa using hx) (by simpa using hy)
    simp only [sumBy, List.map_cons, hbs]
    omega

theorem cells_get {a : Addr} {n : Nat} {cs : List Value} (h : w.cells? 0 a n = some cs) : cs.length = n ∧ ∀ j u, cs[j]? = some u → w.cell? (a.add j) = some u := by
  unfold World.cells? at h
  rw [if_pos (Nat.zero_le _)] at h
  refine ⟨by have := mapM_some_length h; simpa using this, fun j u hu => ?_⟩
  have hj : j < n := by
    have h1 := (List.getElem?_eq_some_iff.1 hu).1
    have := mapM_some_length h; simp at this; omega
  have := mapM_some_get h j j (by simp [hj])
  rw [this, hu]

theorem cell_lt {b off : Nat} {u : Value} (h : w.cell? ⟨b, off, none⟩ = some u) : b < w.heap.size := by
  apply Decidable.byContradiction
  intro hn
  have : w.heap[b]? = none := by simp; omega
  simp [World.cell?, this] at h

theorem cell_spot {a : Addr} {u : Value} (h : w.cell? a = some u) : a.spot = none := by
  unfold World.cell? at h
  split at h
  · split at h
    · cases h
    · rename_i hs; simpa using hs
  · cases h
theorem cell_blk {a : Addr} {u : Value} (h : w.cell? a = some u) : a.block < w.heap.size := by
  apply Decidable.byContradiction
  intro hn
  have : w.heap[a.block]? = none := by simp; omega
  simp [World.cell?, this] at h

theorem add_zero (a : Addr) : a.add 0 = a := rfl
theorem add_none (b o k : Nat) : (Addr.mk b o none).add k = ⟨b, o + k, none⟩ := by
  unfold Addr.add
  split
  · rename_i h; rw [h]; rfl
  · rfl
/-- Slices. -/
theorem rd_slice {b : DataW H → Nat} {bs : List (DataW H) → Nat} (hbs : ∀ d l, bs (d :: l) = b d + bs l) (hb0 : ∀ d, 1 ≤ b d) (hb : ∀ es sp, bs es + 1 ≤ b (.slice es sp)) {t e : TypeId} (ht : P.underlying t = some (.slice e)) {n : Nat} (hn : P.cellsOf e = n) (hn0 : 0 < n)
    {α : Type} {F : α → List FV} {sz : α → Nat} (hF : ∀ a, (F a).length = n) {fuel : Nat} (ih : ∀ k, k < fuel → RdN enc P w b k e F sz) : RdN enc P w b fuel t (fun l : List α => [.sl false n (l.map F)]) (fun l => sumBy sz l + 1) := by
  intro cs x h
  rcases DataW.trod_slice ht h with ⟨rfl, rfl⟩ | ⟨a, len, cap, elems, rest, k, rfl, rfl, rfl, _, hlc, _, hlen, hel, hrest, _⟩
  · exact ⟨[], .cons (.slnil n) .nil, by simpa [sumBy] using hb0 _⟩
  · rw [hn] at hel
    have key : ∀ (i : Nat) (y : DataW H × List MemPlace), elems[i]? = some y → ∃ x : α, (∃ cs, w.cells? 0 (a.add (i * n)) n = some cs ∧ LRep (FRep w none1) (F x) cs) ∧ sz x ≤ b y.1 := by
      intro i y hy
      have hi : i < len := by rw [← hlen]; exact (List.getElem?_eq_some_iff.1 hy).1
      have h1 := hel i hi
      rw [hy] at h1
      obtain ⟨cs, h2, h3⟩ := Option.bind_eq_some_iff.1 h1
      obtain ⟨x, h4, h5⟩ := ih k (Nat.lt_succ_self _) cs y h3
      exact ⟨x, ⟨cs, h2, h4⟩, h5⟩
    -- the element at i, with its place
    have key2 : ∃ xs : List α, xs.length = elems.length ∧ ∀ (i : Nat) (x : α), xs[i]? = some x → (∃ cs, w.cells? 0 (a.add (i * n)) n = some cs ∧ LRep (FRep w none1) (F x) cs) ∧ ∀ y, elems[i]? = some y → sz x ≤ b y.1 := by
      have : ∀ (l : List (DataW H × List MemPlace)) (o : Nat), (∀ i, l[i]? = elems[o + i]?) → ∃ xs : List α, xs.length = l.length ∧ ∀ (i : Nat) (x : α), xs[i]? = some x → (∃ cs, w.cells? 0 (a.add ((o + i) * n)) n = some cs ∧ LRep (FRep w none1) (F x) cs) ∧ ∀ y, l[i]? = some y → sz x ≤ b y.1 := by
        intro l
        induction l with
        | nil => exact fun o _ => ⟨[], rfl, fun i x h => by simp at h⟩
        | cons y l ih =>
          intro o ho
          obtain ⟨x, hx1, hx2⟩ := key o y (by have := ho 0; simpa using this.symm)
          obtain ⟨xs, h1, h2⟩ := ih (o + 1) (fun i => by have := ho (i + 1); rw [show o + 1 + i = o + (i + 1) by omega]; simpa using this)
          refine ⟨x :: xs, by simp [h1], fun i x' hx' => ?_⟩
          cases i with
          | zero => simp at hx'; subst hx'; exact ⟨by simpa using hx1, fun y' hy' => by simp at hy'; subst hy'; exact hx2⟩
          | succ i =>
            have := h2 i x' (by simpa using hx')
            rw [show o + 1 + i = o + (i + 1) by omega] at this
            exact ⟨this.1, fun y' hy' => this.2 y' (by simpa using hy')⟩
      obtain ⟨xs, h1, h2⟩ := this elems 0 (fun i => by simp)
      exact ⟨xs, h1, fun i x hx => by simpa using h2 i x hx⟩
    obtain ⟨xs, hxl, hx⟩ := key2
    have hsum := sum_le (sz := sz) (b := b) hbs hxl (fun i x y h1 h2 => (hx i x h1).2 y h2)
    have hb' := hb (elems.map (·.1)) (rest.map (·.1))
    refine ⟨xs, ?_, show sumBy sz xs + 1 ≤ b (.slice (elems.map (·.1)) (rest.map (·.1))) by omega⟩
    by_cases hc0 : cap = 0
    · have h0 : len = 0 := by omega
      subst hc0; subst h0
      have : xs = [] := List.length_eq_zero_iff.1 (by omega)
      subst this
      exact .cons (.sl0 false n a) .nil
    · have hone : ∃ cs, w.cells? 0 a n = some cs := by
        by_cases h0 : len = 0
        · have hr := (hrest rfl).2 0 (by omega)
          have hr' : rest[0]? ≠ none := by
            rw [List.getElem?_eq_getElem (by rw [(hrest rfl).1]; omega)]; simp
          rw [hn] at hr
          rw [h0, show (0 + 0) * n = 0 by simp, add_zero] at hr
          cases hcl : w.cells? 0 a n with
          | none => rw [hcl] at hr; exact absurd hr.symm hr'
          | some cs => exact ⟨cs, rfl⟩
        · have : 0 < xs.length := by omega
          obtain ⟨⟨cs, h1, _⟩, _⟩ := hx 0 xs[0] (by simp [this])
          rw [show 0 * n = 0 by simp, add_zero] at h1
          exact ⟨cs, h1⟩
      obtain ⟨cs0, hq⟩ := hone
      obtain ⟨hl0, hq'⟩ := cells_get hq
      have hq0 := hq' 0 (cs0[0]'(by omega)) (by simp)
      rw [add_zero] at hq0
      have hsp : a.spot = none := cell_spot hq0
      have hbl : a.block < w.heap.size := cell_blk hq0
      obtain ⟨blk, off, sp⟩ := a
      have hsp : sp = none := hsp
      subst hsp
      refine .cons (.sl false n (xs.map F) blk off cap len (fun i j => (w.cell? ⟨blk, off + i * n + j, none⟩).getD (.bool false)) (by rw [List.length_map]; omega) (by rw [List.length_map]; omega) (fun h => h) hbl (fun i e he => ?_) (fun i j e f he hf => ?_) (fun i j e f he hf => ?_)) .nil
      · rw [List.getElem?_map] at he
        obtain ⟨x, _, rfl⟩ := Option.map_eq_some_iff.1 he
        exact hF x
      all_goals
        rw [List.getElem?_map] at he
        obtain ⟨x, hxi, rfl⟩ := Option.map_eq_some_iff.1 he
        obtain ⟨⟨cs, h1, h2⟩, _⟩ := hx i x hxi
        obtain ⟨h3, h4⟩ := cells_get h1
        have hj : j < cs.length := by rw [← h2.1]; exact (List.getElem?_eq_some_iff.1 hf).1
        have h5 := h4 j cs[j] (by simp)
        rw [add_none, add_none] at h5
      · rw [h5]; rfl
      · rw [h5]
        exact h2.2 j f cs[j] hf (by simp)

/-- Terms. -/
theorem FT_sum : ∀ l : List Tm, Tm.bks l = sumBy Tm.bk l
  | [] => rfl
  | t :: l => by rw [Tm.bks, sumBy, FT_sum l]
/-- How a term lies. -/
structure TmTy (P : Program) (T : TypeId) (f0 f1 f2 f3 : Field) : Prop where
  str : P.underlying T = some (.struct #[f0, f1, f2, f3])
  u0 : P.underlying f0.type = some (.int .i64)
  u1 : P.underlying f1.type = some .string
  u2 : P.underlying f2.type = some (.int .i64)
  u3 : P.underlying f3.type = some (.slice T)
  o0 : f0.offset = 0
  o1 : f1.offset = 1
  o2 : f2.offset = 2
  o3 : f3.offset = 3
  c0 : P.cellsOf f0.type = 1
  c1 : P.cellsOf f1.type = 1
  c2 : P.cellsOf f2.type = 1
  c3 : P.cellsOf f3.type = 1
  cT : P.cellsOf T = 4
/-- How much a reading holds. -/
structure Bulk (b : DataW H → Nat) (bs : List (DataW H) → Nat) : Prop where
  nil : bs [] = 0
  cons : ∀ d l, bs (d :: l) = b d + bs l
  one : ∀ d, 1 ≤ b d
  slice : ∀ es sp, bs es + 1 ≤ b (.slice es sp)
  str : ∀ l : List UInt8, l.length + 1 ≤ b (.lit (.string l))
  agg : ∀ l, bs l + 1 ≤ b (.agg l)
theorem LRep.one {α : Type} {R : α → Value → Prop} {c : α} {u : Value} (h : LRep R [c] [u]) : R c u := h.2 0 c u rfl rfl
theorem rd_term {b : DataW H → Nat} {bs : List (DataW H) → Nat} (hb : Bulk b bs) {T : TypeId} {f0 f1 f2 f3 : Field} (hT : TmTy P T f0 f1 f2 f3) : ∀ fuel, RdN enc P w b fuel T FT Tm.bk := by
  intro fuel
  induction fuel using Nat.strongRecOn with
  | _ fuel ih =>
    intro cs x h
    obtain ⟨xs, n, rfl, rfl, hl, hxl, hf⟩ := DataW.trod_struct hT.str h
    rw [hT.cT] at hl
    match cs, hl with
    | [v0, v1, v2, v3], _ =>
    match xs, hxl with
    | [x0, x1, x2, x3], _ =>
    have g0 := hf 0 f0 rfl
    have g1 := hf 1 f1 rfl
    have g2 := hf 2 f2 rfl
    have g3 := hf 3 f3 rfl
    rw [hT.o0, hT.c0] at g0
    rw [hT.o1, hT.c1] at g1
    rw [hT.o2, hT.c2] at g2
    rw [hT.o3, hT.c3] at g3
    obtain ⟨k, r0, _⟩ := rd_int (b := b) hT.u0 hb.one n _ _ g0
    obtain ⟨s, r1, z1⟩ := rd_str (b := b) hT.u1 hb.str n _ _ g1
    have z1 : s.length + 1 ≤ b x1.1 := z1
    obtain ⟨m, r2, _⟩ := rd_int (b := b) hT.u2 hb.one n _ _ g2
    obtain ⟨l, r3, z3⟩ := rd_slice (F := FT) (sz := Tm.bk) hb.cons hb.one hb.slice hT.u3 hT.cT (by omega) FT_length (fun k hk => ih k (by omega)) _ _ g3
    have z3 : sumBy Tm.bk l + 1 ≤ b x3.1 := z3
    refine ⟨.mk k s m l, ?_, ?_⟩
    · rw [FT, FTs_map]
      exact .cons (LRep.one r0) (.cons (LRep.one r1) (.cons (LRep.one r2) (.cons (LRep.one r3) .nil)))
    · have := hb.one x0.1
      simp only [Tm.bk, FT_sum]
      show _ ≤ b (.agg [x0.1, x1.1, x2.1, x3.1])
      have h9 := hb.agg [x0.1, x1.1, x2.1, x3.1]
      simp only [hb.cons, hb.nil] at h9
      omega

/-! ### Arguments -/
theorem none_own {Y : Nat → Prop} (hY : ∀ b, ¬ Y b) {Hs : List AObj} : (fun b => Y b ∨ Own (fun o => Hs.getD o .gone) (fun _ => none) b) = none1 := by
  funext b
  refine propext ⟨fun h => ?_, fun h => h.elim⟩
  rcases h with h | ⟨o, _, h⟩
  · exact (hY b h).elim
  · cases h
abbrev β0 : Nat → Option Nat := fun _ => none
theorem open_term {b : DataW H → Nat} {bs : List (DataW H) → Nat} (hb : Bulk b bs) {T : TypeId} {f0 f1 f2 f3 : Field} (hT : TmTy P T f0 f1 f2 f3) {r : Reach} {base : Nat} {v : Value} {d : DataW H} {ps : List MemPlace}
    (hv : Value.okWide P w r base T v) (hd : DataW.Trod enc P w 0 (fun _ => true) true T v d ps) : ∃ t : Tm, TRep w none1 β0 (aT t) v ∧ t.bk ≤ b d := by
  obtain ⟨cs, rfl, _⟩ := okWide_struct hT.str hv
  obtain ⟨fuel, hf⟩ := hd
  obtain ⟨t, h1, h2⟩ := rd_term hb hT fuel _ _ hf
  refine ⟨t, ⟨cs.toList, by simp, ?_⟩, h2⟩
  rw [FT_eta] at h1
  have h1 : LRep (FRep w none1) [.int .i64 t.k, .str t.s, .int .i64 t.n, .sl false 4 (FTs t.l)] cs.toList := h1
  exact h1.map (g := fun x => WV.a (.fz x)) fun c u _ h => .a _ _ (.fz _ _ h)
theorem open_terms {b : DataW H → Nat} {bs : List (DataW H) → Nat} (hb : Bulk b bs) {T S : TypeId} {f0 f1 f2 f3 : Field} (hT : TmTy P T f0 f1 f2 f3) (hS : P.underlying S = some (.slice T)) {r : Reach} {base : Nat} {v : Value} {d : DataW H} {ps : List MemPlace}
    (hv : Value.okWide P w r base S v) (hd : DataW.Trod enc P w 0 (fun _ => true) true S v d ps) : ∃ l : List Tm, TRep w none1 β0 (aL l) v ∧ Tm.bks l + 1 ≤ b d := by
  obtain ⟨a, len, cap, rfl⟩ := okWide_slice hS hv
  obtain ⟨fuel, hf⟩ := hd
  obtain ⟨l, h1, h2⟩ := rd_slice (F := FT) (sz := Tm.bk) hb.cons hb.one hb.slice hS hT.cT (by omega) FT_length (fun k _ => rd_term hb hT k) _ _ hf
  have h2 : sumBy Tm.bk l + 1 ≤ b d := h2
  rw [← FT_sum] at h2
  have h1 : LRep (FRep w none1) [.sl false 4 (l.map FT)] [_] := h1
  rw [← FTs_map] at h1
  exact ⟨l, .a _ _ (.fz _ _ h1.one), h2⟩
theorem open_num {t : TypeId} {k : IntKind} (ht : P.underlying t = some (.int k)) {r : Reach} {base : Nat} {v : Value} {d : DataW H} {ps : List MemPlace}
    (hv : Value.okWide P w r base t v) (hd : DataW.Trod enc P w 0 (fun _ => true) true t v d ps) : ∃ n : Int, TRep w none1 β0 (.c (.a (.fz (.int k n)))) v ∧ (Lit.int k n).wf = true := by
  obtain ⟨n, rfl, _, _, hw⟩ := open_int ht hv hd
  exact ⟨n, .a _ _ (.fz _ _ (.int k n)), hw⟩
theorem open_str {t : TypeId} (ht : P.underlying t = some .string) {b : DataW H → Nat} {bs : List (DataW H) → Nat} (hb : Bulk b bs) {r : Reach} {base : Nat} {v : Value} {d : DataW H} {ps : List MemPlace}
    (hv : Value.okWide P w r base t v) (hd : DataW.Trod enc P w 0 (fun _ => true) true t v d ps) : ∃ s : List UInt8, TRep w none1 β0 (cs s) v ∧ s.length + 1 ≤ b d := by
  obtain ⟨s, rfl⟩ := okWide_string ht hv
  obtain ⟨fuel, hf⟩ := hd
  obtain ⟨l, h1, h2⟩ := rd_str (b := b) ht hb.str fuel _ _ hf
  exact ⟨l, .a _ _ (.fz _ _ h1.one), h2⟩

/-! ### The end -/
theorem kept_good {w' : World} {foot : Nat → Prop} (g : Good w foot w') (hf : ∀ b, ¬ foot b) (may : MemPlace → Prop) : w.keptBut w' may := by
  refine ⟨g.os, g.output, fun i hi => ?_⟩
  rw [g.blk i hi (hf i)]
  exact (World.keptBut_refl w may).2.2 i hi
theorem same_good {w' : World} {foot : Nat → Prop} (g : Good w foot w') (hf : ∀ b, ¬ foot b) {p : MemPlace} (hp : p.block < w.heap.size) : w.sameAt w' p := by
  cases p with
  | cell b o => exact World.cell?_of_block (a := ⟨b, o, none⟩) (g.blk b hp (hf b))
  | map b => exact g.blk b hp (hf b)
theorem trodAll_stays (hl : laidOutB P = true) {w' : World} {sp : Nat → Bool} : ∀ {ts : List TypeId} {vs : List Value} {ds : List (DataW H)} {p : List MemPlace}, DataW.TrodAll enc P w 0 (fun _ => true) true ts vs ds p →
    (∀ t ∈ ts, P.readableRec t = true ∧ t < P.types.size) → (∀ x ∈ p, w.sameAt w' x) → (∀ x ∈ p, sp x.block = true) → DataW.TrodAll enc P w' 0 sp true ts vs ds p
  | [], _, _, _, h, _, _, _ => by
    obtain ⟨rfl, rfl, rfl⟩ := trodAll_nil h
    exact trodAll_mk0
  | t :: ts, _, _, _, h, ht, hs, hsp => by
    obtain ⟨v, vs', d, ds', p, q, rfl, rfl, rfl, ⟨n, h1⟩, h2⟩ := trodAll_cons h
    have hr := (ht t List.mem_cons_self).1
    exact ⟨p, q, ⟨n, DataW.trod_stays (kids_book hl hr) (book_sized hr) (fun h => by cases h) ⟨(ht t List.mem_cons_self).2, book_self t⟩ h1 (fun x hx => hs x (List.mem_append_left _ hx)) (fun x hx => hsp x (List.mem_append_left _ hx))⟩,
      trodAll_stays hl h2 (fun u hu => ht u (List.mem_cons_of_mem _ hu)) (fun x hx => hs x (List.mem_append_right _ hx)) (fun x hx => hsp x (List.mem_append_right _ hx)), rfl⟩
/-- A law's end: it returns true, and what was read reads as before. -/
theorem post_good (hl : laidOutB P = true) {f : Func} {s : ChangeSpec} {apart fresh handsOn again : Bool} {w' : World} {args : Array Value} {ds gs : List (DataW H)} {before : List MemPlace} {foot : Nat → Prop} {tb : TypeId}
    (hW : DataW.Whole enc P f.params.toList s.vars apart w args.toList ds gs before) (hv : s.vars = []) (hs : ∀ ds' : List (DataW H), ds'.length = ds.length → s.fn H ds' = { results := [.lit (.bool true)], args := ds' })
    (ht : ∀ t ∈ f.params.toList, P.readableRec t = true ∧ t < P.types.size) (hr : f.resultTypes = #[tb]) (hb : P.underlying tb = some .bool) (g : Good w foot w') (hf : ∀ b, ¬ foot b) :
    s.post enc P f apart fresh handsOn again w args (.bool true) w' := by
  have hlt := hW.lt
  obtain ⟨p, q, h1, h2, he, hz, hn⟩ := hW
  rw [hv] at h2
  obtain ⟨rfl, rfl⟩ := trodVars_none h2
  rw [List.append_nil] at he
  subst he
  have hold : ∀ x ∈ before, (fun b => decide (b < w.heap.size)) x.block = true := fun x hx => by simpa using hlt x hx
  have hfn := hs (ds ++ []) (by simp)
  have hargs : ∀ sp : Nat → Bool, (∀ x ∈ before, sp x.block = true) → DataW.TrodAll enc P w' 0 sp true f.params.toList args.toList (s.fn H (ds ++ [])).args before := fun sp hsp => by
    rw [hfn, List.append_nil]
    exact trodAll_stays hl h1 ht (fun x hx => same_good g hf (hlt x hx)) hsp
  have hres : ∀ (b : Nat) (sp : Nat → Bool) (hd : Bool), DataW.TrodAll enc P w' b sp hd f.resultTypes.toList ((Value.bool true).resultList f.resultTypes.size) (s.fn H (ds ++ [])).results [] := fun b sp hd => by
    rw [hfn, hr]
    exact trodAll_mk1 ⟨1, by simp [DataW.trod, Value.cells, hb]⟩
  have hvars : ∀ sp : Nat → Bool, DataW.TrodVars enc P w' sp s.vars (s.fn H (ds ++ [])).vars [] := fun sp => by
    rw [hfn, hv]
    rfl
  refine ⟨ds, [], before, [], before, [], ⟨before, [], h1, by rw [hv]; rfl, by simp, hz, hn⟩, hres _ _ _, hargs _ hold, hvars _, World.keptBut_mono (fun x hx => ⟨hx, ?_⟩) (kept_good g hf (· ∈ before)), fun _ => ?_⟩
  · simpa using hx
  · refine ⟨ok_one hr rfl (okWide_bool_mk hb _), _, _, ([] ++ before) ++ [], ⟨[] ++ before, [], trodAll_append (hargs _ (fun _ _ => rfl)) (hres _ _ _), hvars _, rfl, ?_, ?_⟩, ?_⟩
    · intro b off hp
      have hp : MemPlace.cell b off ∈ before := by simpa using hp
      have hb := hlt _ hp
      have : w'.frozen? ⟨b, off, none⟩ = w.frozen? ⟨b, off, none⟩ := by
        unfold World.frozen?
        rw [g.blk b hb (hf b)]
      rw [this]
      exact hz b off hp
    · intro ha
      simpa using hn ha
    · intro x hx _
      simpa using hx
/-- A contract that a law's function answers: true. -/
theorem law_true {f : FuncId} {args : List TV} (hgl : Gl P w none1) (h : AC P f args [] (cb true) []) {vals : List Value} (hv : LRep (TRep w none1 β0) args vals) :
    Calls P f vals.toArray w fun e w' => e = .returned (.bool true) ∧ ∃ foot, (∀ b, ¬ foot b) ∧ Good w foot w' := by
  have hX : (fun b => (fun _ : Nat => False) b ∨ Own (fun o => ([] : List AObj).getD o .gone) β0 b) = none1 := none_own (fun _ h => h)
  refine (h.2.2 w vals β0 (fun _ => False) (fun o b h => by cases h) (fun b h => h.elim) (hgl.sub fun b ⟨o, h5, _⟩ => by simp [isLive] at h5) ⟨fun o b h _ => by simp [isLive] at h, fun o h => by simp [isLive] at h, fun o o' b h => by simp [isLive] at h, fun o b h => by cases h⟩ (by rw [hX]; exact hv)).mono fun e w' ⟨v, β', h1, h2, h3, h4, _⟩ => ?_
  subst h1
  cases h4 with
  | a _ _ h4 =>
    cases h4 with
    | fz _ _ h4 =>
      cases h4
      exact ⟨rfl, _, fun b ⟨o, h5, _⟩ => by simp [isLive] at h5, h2⟩
end
end Go.AM

namespace Go.AM
open Go.ChangeShapes Go.WideShapes Go.ChangeAt Go.RowKit

section
variable {H : Type} {enc : TypeId × Value → H} {P : Program} {w : World}
theorem wf_range {n : Int} (h : (Lit.int .i64 n).wf = true) : -9223372036854775808 ≤ n ∧ n ≤ 9223372036854775807 := by
  simp only [Lit.wf, IntKind.min, IntKind.max, IntKind.signed, IntKind.bits, Bool.and_eq_true, decide_eq_true_eq, if_true] at h; omega
abbrev TmI := { t : Tm // okI t }
theorem sumBy_val : ∀ l : List TmI, Tm.bks (l.map (·.1)) = sumBy (fun t : TmI => t.1.bk) l
  | [] => rfl
  | t :: l => by rw [List.map_cons, Tm.bks, sumBy, sumBy_val l]
theorem okIs_val (l : List TmI) : okIs (l.map (·.1)) := okIs_of fun t ht => by
  obtain ⟨u, _, rfl⟩ := List.mem_map.1 ht
  exact u.2
theorem rd_termI {b : DataW H → Nat} {bs : List (DataW H) → Nat} (hb : Bulk b bs) {T : TypeId} {f0 f1 f2 f3 : Field} (hT : TmTy P T f0 f1 f2 f3) : ∀ fuel, RdN enc P w b fuel T (fun t : TmI => FT t.1) (fun t => t.1.bk) := by
  intro fuel
  induction fuel using Nat.strongRecOn with
  | _ fuel ih =>
    intro cs x h
    obtain ⟨xs, n, rfl, rfl, hl, hxl, hf⟩ := DataW.trod_struct hT.str h
    rw [hT.cT] at hl
    match cs, hl with
    | [v0, v1, v2, v3], _ =>
    match xs, hxl with
    | [x0, x1, x2, x3], _ =>
    have g0 := hf 0 f0 rfl
    have g1 := hf 1 f1 rfl
    have g2 := hf 2 f2 rfl
    have g3 := hf 3 f3 rfl
    rw [hT.o0, hT.c0] at g0
    rw [hT.o1, hT.c1] at g1
    rw [hT.o2, hT.c2] at g2
    rw [hT.o3, hT.c3] at g3
    obtain ⟨k, r0, _⟩ := rd_int (b := b) hT.u0 hb.one n _ _ g0
    obtain ⟨s, r1, z1⟩ := rd_str (b := b) hT.u1 hb.str n _ _ g1
    have z1 : s.length + 1 ≤ b x1.1 := z1
    obtain ⟨m, r2, _⟩ := rd_num (b := b) hT.u2 hb.one n _ _ g2
    obtain ⟨l, r3, z3⟩ := rd_slice (F := fun t : TmI => FT t.1) (sz := fun t : TmI => t.1.bk) hb.cons hb.one hb.slice hT.u3 hT.cT (by omega) (fun t => FT_length t.1) (fun k hk => ih k (by omega)) _ _ g3
    have z3 : sumBy (fun t : TmI => t.1.bk) l + 1 ≤ b x3.1 := z3
    refine ⟨⟨.mk k s m.1 (l.map (·.1)), wf_range m.2, okIs_val l⟩, ?_, ?_⟩
    · have e : FTs (l.map (·.1)) = l.map fun t : TmI => FT t.1 := by rw [FTs_map, List.map_map]; rfl
      show LRep (FRep w none1) (FT (.mk k s m.1 (l.map (·.1)))) _
      rw [FT, e]
      exact .cons (LRep.one r0) (.cons (LRep.one r1) (.cons (LRep.one r2) (.cons (LRep.one r3) .nil)))
    · have := hb.one x0.1
      show Tm.bk (.mk k s m.1 (l.map (·.1))) ≤ b (.agg [x0.1, x1.1, x2.1, x3.1])
      simp only [Tm.bk, sumBy_val]
      have h9 := hb.agg [x0.1, x1.1, x2.1, x3.1]
      simp only [hb.cons, hb.nil] at h9
      omega
theorem open_termI {b : DataW H → Nat} {bs : List (DataW H) → Nat} (hb : Bulk b bs) {T : TypeId} {f0 f1 f2 f3 : Field} (hT : TmTy P T f0 f1 f2 f3) {r : Reach} {base : Nat} {v : Value} {d : DataW H} {ps : List MemPlace}
    (hv : Value.okWide P w r base T v) (hd : DataW.Trod enc P w 0 (fun _ => true) true T v d ps) : ∃ t : Tm, TRep w none1 β0 (aT t) v ∧ t.bk ≤ b d ∧ okI t := by
  obtain ⟨cs, rfl, _⟩ := okWide_struct hT.str hv
  obtain ⟨fuel, hf⟩ := hd
  obtain ⟨t, h1, h2⟩ := rd_termI hb hT fuel _ _ hf
  refine ⟨t.1, ⟨cs.toList, by simp, ?_⟩, h2, t.2⟩
  have h1 : LRep (FRep w none1) (FT t.1) cs.toList := h1
  rw [FT_eta] at h1
  exact h1.map (g := fun x => WV.a (.fz x)) fun c u _ h => .a _ _ (.fz _ _ h)
end
end Go.AM

namespace Go.AM
open Go.ChangeShapes Go.WideShapes Go.ChangeAt Go.RowKit

section
variable {H : Type} {enc : TypeId × Value → H} {P : Program} {w : World}
/-- A row of structs, from what one is. -/
theorem open_rows {b : DataW H → Nat} {bs : List (DataW H) → Nat} (hb : Bulk b bs) {T S : TypeId} {n : Nat} {α : Type} {F : α → List FV} {sz : α → Nat} (hF : ∀ a, (F a).length = n) (hn : P.cellsOf T = n) (hn0 : 0 < n) (hz : ∀ a, 1 ≤ sz a)
    (h1 : ∀ k, RdN enc P w b k T F sz) (hS : P.underlying S = some (.slice T)) {r : Reach} {base : Nat} {v : Value} {d : DataW H} {ps : List MemPlace}
    (hv : Value.okWide P w r base S v) (hd : DataW.Trod enc P w 0 (fun _ => true) true S v d ps) : ∃ l : List α, TRep w none1 β0 (.c (.a (.fz (.sl false n (l.map F))))) v ∧ sumBy sz l + 1 ≤ b d := by
  obtain ⟨a, len, cap, rfl⟩ := okWide_slice hS hv
  obtain ⟨fuel, hf⟩ := hd
  obtain ⟨l, h1, h2⟩ := rd_slice hb.cons hb.one hb.slice hS hn hn0 hF (fun k _ => h1 k) _ _ hf
  have h1 : LRep (FRep w none1) [.sl false n (l.map F)] [_] := h1
  exact ⟨l, .a _ _ (.fz _ _ h1.one), h2⟩
/-- A truth value and a term. -/
abbrev FBT (v : Bool × TmI) : List FV := .bool v.1 :: FT v.2.1
structure BTTy (P : Program) (T Tt : TypeId) (f0 f1 : Field) : Prop where
  str : P.underlying T = some (.struct #[f0, f1])
  u0 : P.underlying f0.type = some .bool
  t1 : f1.type = Tt
  o0 : f0.offset = 0
  o1 : f1.offset = 1
  c0 : P.cellsOf f0.type = 1
  cT : P.cellsOf T = 5
theorem rd_bt {b : DataW H → Nat} {bs : List (DataW H) → Nat} (hb : Bulk b bs) {T Tt : TypeId} {g0 g1 g2 g3 f0 f1 : Field} (hT : TmTy P Tt g0 g1 g2 g3) (hV : BTTy P T Tt f0 f1) (fuel : Nat) :
    RdN enc P w b fuel T FBT (fun v => v.2.1.bk + 1) := by
  intro cs x h
  obtain ⟨xs, n, rfl, rfl, hl, hxl, hf⟩ := DataW.trod_struct hV.str h
  rw [hV.cT] at hl
  match cs, hl with
  | [v0, v1, v2, v3, v4], _ =>
  match xs, hxl with
  | [x0, x1], _ =>
  have q0 := hf 0 f0 rfl
  have q1 := hf 1 f1 rfl
  rw [hV.o0, hV.c0] at q0
  rw [hV.o1, hV.t1, hT.cT] at q1
  obtain ⟨p, r0, _⟩ := rd_bool (b := b) hV.u0 hb.one n _ _ q0
  obtain ⟨t, r1, z1⟩ := rd_termI hb hT n _ _ q1
  have z1 : t.1.bk ≤ b x1.1 := z1
  refine ⟨(p, t), .cons (LRep.one r0) r1, ?_⟩
  show t.1.bk + 1 ≤ b (.agg [x0.1, x1.1])
  have h9 := hb.agg [x0.1, x1.1]
  simp only [hb.cons, hb.nil] at h9
  omega
/-- A number, a truth value and a term. -/
abbrev IBT := { n : Int // -9223372036854775808 ≤ n ∧ n ≤ 9223372036854775807 } × Bool × TmI
abbrev FIBT (v : IBT) : List FV := .int .i64 v.1.1 :: .bool v.2.1 :: FT v.2.2.1
structure IBTTy (P : Program) (T Tt : TypeId) (f0 f1 f2 : Field) : Prop where
  str : P.underlying T = some (.struct #[f0, f1, f2])
  u0 : P.underlying f0.type = some (.int .i64)
  u1 : P.underlying f1.type = some .bool
  t2 : f2.type = Tt
  o0 : f0.offset = 0
  o1 : f1.offset = 1
  o2 : f2.offset = 2
  c0 : P.cellsOf f0.type = 1
  c1 : P.cellsOf f1.type = 1
  cT : P.cellsOf T = 6
theorem rd_ibt {b : DataW H → Nat} {bs : List (DataW H) → Nat} (hb : Bulk b bs) {T Tt : TypeId} {g0 g1 g2 g3 f0 f1 f2 : Field} (hT : TmTy P Tt g0 g1 g2 g3) (hV : IBTTy P T Tt f0 f1 f2) (fuel : Nat) :
    RdN enc P w b fuel T FIBT (fun v => v.2.2.1.bk + 2) := by
  intro cs x h
  obtain ⟨xs, n, rfl, rfl, hl, hxl, hf⟩ := DataW.trod_struct hV.str h
  rw [hV.cT] at hl
  match cs, hl with
  | [v0, v1, v2, v3, v4, v5], _ =>
  match xs, hxl with
  | [x0, x1, x2], _ =>
  have q0 := hf 0 f0 rfl
  have q1 := hf 1 f1 rfl
  have q2 := hf 2 f2 rfl
  rw [hV.o0, hV.c0] at q0
  rw [hV.o1, hV.c1] at q1
  rw [hV.o2, hV.t2, hT.cT] at q2
  obtain ⟨i, r0, z0⟩ := rd_num (b := b) hV.u0 hb.one n _ _ q0
  obtain ⟨p, r1, z1⟩ := rd_bool (b := b) hV.u1 hb.one n _ _ q1
  obtain ⟨t, r2, z2⟩ := rd_termI hb hT n _ _ q2
  have z2 : t.1.bk ≤ b x2.1 := z2
  have z0 : 1 ≤ b x0.1 := z0
  refine ⟨(⟨i.1, wf_range i.2⟩, p, t), .cons (LRep.one r0) (.cons (LRep.one r1) r2), ?_⟩
  show t.1.bk + 2 ≤ b (.agg [x0.1, x1.1, x2.1])
  have h9 := hb.agg [x0.1, x1.1, x2.1]
  simp only [hb.cons, hb.nil] at h9
  omega
/-- Three numbers and a term. -/
abbrev I3T := { n : Int × Int × Int // (-9223372036854775808 ≤ n.1 ∧ n.1 ≤ 9223372036854775807) ∧ (-9223372036854775808 ≤ n.2.1 ∧ n.2.1 ≤ 9223372036854775807) ∧ (-9223372036854775808 ≤ n.2.2 ∧ n.2.2 ≤ 9223372036854775807) } × TmI
abbrev FI3T (v : I3T) : List FV := .int .i64 v.1.1.1 :: .int .i64 v.1.1.2.1 :: .int .i64 v.1.1.2.2 :: FT v.2.1
structure I3TTy (P : Program) (T Tt : TypeId) (f0 f1 f2 f3 : Field) : Prop where
  str : P.underlying T = some (.struct #[f0, f1, f2, f3])
  u0 : P.underlying f0.type = some (.int .i64)
  u1 : P.underlying f1.type = some (.int .i64)
  u2 : P.underlying f2.type = some (.int .i64)
  t3 : f3.type = Tt
  o0 : f0.offset = 0
  o1 : f1.offset = 1
  o2 : f2.offset = 2
  o3 : f3.offset = 3
  c0 : P.cellsOf f0.type = 1
  c1 : P.cellsOf f1.type = 1
  c2 : P.cellsOf f2.type = 1
  cT : P.cellsOf T = 7
theorem rd_i3t {b : DataW H → Nat} {bs : List (DataW H) → Nat} (hb : Bulk b bs) {T Tt : TypeId} {g0 g1 g2 g3 f0 f1 f2 f3 : Field} (hT : TmTy P Tt g0 g1 g2 g3) (hV : I3TTy P T Tt f0 f1 f2 f3) (fuel : Nat) :
    RdN enc P w b fuel T FI3T (fun v => v.2.1.bk + 3) := by
  intro cs x h
  obtain ⟨xs, n, rfl, rfl, hl, hxl, hf⟩ := DataW.trod_struct hV.str h
  rw [hV.cT] at hl
  match cs, hl with
  | [v0, v1, v2, v3, v4, v5, v6], _ =>
  match xs, hxl with
  | [x0, x1, x2, x3], _ =>
  have q0 := hf 0 f0 rfl
  have q1 := hf 1 f1 rfl
  have q2 := hf 2 f2 rfl
  have q3 := hf 3 f3 rfl
  rw [hV.o0, hV.c0] at q0
  rw [hV.o1, hV.c1] at q1
  rw [hV.o2, hV.c2] at q2
  rw [hV.o3, hV.t3, hT.cT] at q3
  obtain ⟨i, r0, z0⟩ := rd_num (b := b) hV.u0 hb.one n _ _ q0
  obtain ⟨j, r1, z1⟩ := rd_num (b := b) hV.u1 hb.one n _ _ q1
  obtain ⟨k, r2, z2⟩ := rd_num (b := b) hV.u2 hb.one n _ _ q2
  obtain ⟨t, r3, z3⟩ := rd_termI hb hT n _ _ q3
  have z0 : 1 ≤ b x0.1 := z0
  have z1 : 1 ≤ b x1.1 := z1
  have z3 : t.1.bk ≤ b x3.1 := z3
  refine ⟨(⟨(i.1, j.1, k.1), wf_range i.2, wf_range j.2, wf_range k.2⟩, t), .cons (LRep.one r0) (.cons (LRep.one r1) (.cons (LRep.one r2) r3)), ?_⟩
  show t.1.bk + 3 ≤ b (.agg [x0.1, x1.1, x2.1, x3.1])
  have h9 := hb.agg [x0.1, x1.1, x2.1, x3.1]
  simp only [hb.cons, hb.nil] at h9
  omega
end
end Go.AM

set_option maxRecDepth 100000
open Go Go.Proofs
namespace Go.Proofs.Ytmeolnpbbhinjaa.base
open Go.ChangeShapes Go.WideShapes Go.ChangeAt Go.RowKit Go.AM

theorem one_le {H : Type} (d : DataW H) : 1 ≤ Rows.uptoBulk d := by
  cases d with
  | lit l => cases l <;> simp [Rows.uptoBulk]
  | _ => simp [Rows.uptoBulk]
theorem bulk {H : Type} : Bulk (H := H) Rows.uptoBulk Rows.uptoBulkAll :=
  ⟨rfl, fun _ _ => rfl, one_le, fun es sp => by simp only [Rows.uptoBulk]; omega, fun l => by simp [Rows.uptoBulk], fun l => by simp [Rows.uptoBulk]⟩
theorem own : ownKnob Try.prog.godebug = none := by kernel_rfl
theorem laidOut : laidOutB Try.prog = true := by kernel_rfl
theorem tmTy : ∃ f0 f1 f2 f3 : Field, TmTy Try.prog 25 f0 f1 f2 f3 :=
  ⟨_, _, _, _, Try.underlying25, Try.underlying22, Try.underlying9, Try.underlying3, Try.underlying23, rfl, rfl, rfl, rfl, by kernel_rfl, by kernel_rfl, by kernel_rfl, by kernel_rfl, by kernel_rfl⟩
theorem rec3 : Try.prog.readableRec 3 = true := by kernel_rfl
theorem lt3 : 3 < Try.prog.types.size := of_decide_eq_true (by kernel_rfl)
theorem rec9 : Try.prog.readableRec 9 = true := by kernel_rfl
theorem lt9 : 9 < Try.prog.types.size := of_decide_eq_true (by kernel_rfl)
theorem rec23 : Try.prog.readableRec 23 = true := by kernel_rfl
theorem lt23 : 23 < Try.prog.types.size := of_decide_eq_true (by kernel_rfl)
theorem rec25 : Try.prog.readableRec 25 = true := by kernel_rfl
theorem lt25 : 25 < Try.prog.types.size := of_decide_eq_true (by kernel_rfl)
theorem rec36 : Try.prog.readableRec 36 = true := by kernel_rfl
theorem lt36 : 36 < Try.prog.types.size := of_decide_eq_true (by kernel_rfl)
theorem rec44 : Try.prog.readableRec 44 = true := by kernel_rfl
theorem lt44 : 44 < Try.prog.types.size := of_decide_eq_true (by kernel_rfl)
theorem rec49 : Try.prog.readableRec 49 = true := by kernel_rfl
theorem lt49 : 49 < Try.prog.types.size := of_decide_eq_true (by kernel_rfl)
theorem noGl (g : Nat) (h : Try.prog.globalNamed "internal/strconv.uint64pow10" = some g) : False := by
  rw [show Try.prog.globalNamed "internal/strconv.uint64pow10" = none by kernel_rfl] at h; cases h
theorem num_range {n : Int} (h : (Lit.int .i64 n).wf = true) : -9223372036854775808 ≤ n ∧ n ≤ 9223372036854775807 := by
  simp only [Lit.wf, IntKind.min, IntKind.max, IntKind.signed, IntKind.bits, Bool.and_eq_true, decide_eq_true_eq, if_true] at h; omega
theorem upto {H : Type} {l : List (DataW H)} (hk : Rows.uptoSmall H l = true) : Rows.uptoBulkAll l ≤ 1048576 := of_decide_eq_true hk
end Go.Proofs.Ytmeolnpbbhinjaa.base
