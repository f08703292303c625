/- A calculus of plain values for the model's code, what the code of each function asks (computed by the kernel), contracts of the functions, and plain laws (part 5). No conditions. -/
import Derived.Test.YtmeolnpbbhinjaaPart4
import Derived.Test.YtmeolnpbbhinjaaShelf
import Derived.Test.YtmeolnpbbhinjaaPart3
import Derived.ProofKit
import Derived.OpenShut
import Derived.JoinedCond
import Derived.WalkKit
import Derived.Test.YtmeolnpbbhinjaaRows
set_option maxRecDepth 100000
open Go Go.Proofs

set_option maxRecDepth 100000
open Go Go.Proofs

set_option maxRecDepth 100000
open Go Go.Proofs
namespace Go.AM

/-! ### Package lex -/
def smallB (c : Int) : Bool := decide (97 ≤ c) && decide (c ≤ 122)
def greatB (c : Int) : Bool := decide (65 ≤ c) && decide (c ≤ 90) || c == 95
def digitB (c : Int) : Bool := decide (48 ≤ c) && decide (c ≤ 57)
def insideB (c : Int) : Bool := smallB c || greatB c || digitB c || c == 39
def signs : List UInt8 := [43, 45, 42, 47, 60, 62, 61, 38, 124, 94, 126, 64, 35, 36, 63, 58]
def signB (c : Int) : Bool := decide (Lib.indexByte signs c.toNat.toUInt8 ≥ 0)

theorem c_small (c : Int) : AC Try.prog 61 [c8 c] [] (cb (smallB c)) [] := by
  refine AC.vc hP sh lv61 (Nat.le_refl _) (by simp) (by simp) (Eq.mpr (v61 ..) ?_)
  refine br_of (fun h => ret_b ?_) (fun h => ret_b ?_) <;> simp_all [smallB] <;> omega
theorem c_great (c : Int) : AC Try.prog 77 [c8 c] [] (cb (greatB c)) [] := by
  refine AC.vc hP sh lv77 (Nat.le_refl _) (by simp) (by simp) (Eq.mpr (v77 ..) ?_)
  refine br_of (fun h => br_of (fun h => ret_b ?_) (fun h => ret_b ?_)) (fun h => ret_b ?_) <;> simp_all [greatB] <;> omega
theorem c_digit (c : Int) : AC Try.prog 78 [c8 c] [] (cb (digitB c)) [] := by
  refine AC.vc hP sh lv78 (Nat.le_refl _) (by simp) (by simp) (Eq.mpr (v78 ..) ?_)
  refine br_of (fun h => ret_b ?_) (fun h => ret_b ?_) <;> simp_all [digitB] <;> omega
theorem c_inside (c : Int) : AC Try.prog 63 [c8 c] [] (cb (insideB c)) [] := by
  refine AC.vc hP sh lv63 (Nat.le_refl _) (by simp) (by simp) (Eq.mpr (v63 ..) ?_)
  refine ⟨_, c_small c, br_of (fun h => ret_b ?_) (fun h => ⟨_, c_great c, br_of (fun h => ret_b ?_) (fun h => ⟨_, c_digit c, br_of (fun h => ret_b ?_) (fun h => ret_b ?_)⟩)⟩)⟩ <;> simp_all [insideB]
theorem c_lindexbyte (s : List UInt8) (c : Int) : AC Try.prog 83 [cs s, c8 c] [] (ci (Lib.indexByte s c.toNat.toUInt8)) [] :=
  AC.str_u8 (by kernel_rfl) fun w => Try.stringslite_IndexByte ⟨s.toArray⟩ c w
theorem c_indexbyte (s : List UInt8) (c : Int) : AC Try.prog 79 [cs s, c8 c] [] (ci (Lib.indexByte s c.toNat.toUInt8)) [] :=
  AC.str_u8 (by kernel_rfl) fun w => Try.strings_IndexByte ⟨s.toArray⟩ c w
theorem c_sign (c : Int) : AC Try.prog 64 [c8 c] [] (cb (signB c)) [] := by
  refine AC.vc hP sh lv64 (Nat.le_refl _) (by simp) (by simp) (Eq.mpr (v64 ..) ?_)
  exact ⟨_, c_indexbyte _ c, ret_b rfl⟩

/-- How many bytes a text begins with that are such. -/
def runN (p : Int → Bool) : List UInt8 → Nat
  | [] => 0
  | c :: s => if p (c.toNat : Int) then runN p s + 1 else 0
theorem runN_le (p : Int → Bool) : ∀ s : List UInt8, runN p s ≤ s.length
  | [] => Nat.le_refl _
  | c :: s => by have := runN_le p s; simp only [runN, List.length_cons]; split <;> omega
theorem gD_mid8 (a : List UInt8) (c : UInt8) (b : List UInt8) : List.getD (a ++ c :: b) (Int.toNat (a.length : Int)) 0 = c := by simp [List.getD]
theorem l_run_inside : ∀ (b a : List UInt8), (a ++ b).length ≤ B → RPt Try.prog 62 0 (ci ((a.length : Int) + runN insideB b)) [] 1 ⟨[(0, cs (a ++ b)), (1, .c (.fn (.func 63) [] [])), (7, ci (((a ++ b).length : Nat) : Int)), (8, ci a.length)], [], 0⟩
  | [], a, hl => by
    refine RPt.vc hP sh lv62 (Eq.mpr (v62_F63_1a ..) ?_)
    exact br_of (fun h => absurd h (by simp)) (fun _ => ret_i (by simp [runN]))
  | c :: b, a, hl => by
    refine RPt.vc hP sh lv62 (Eq.mpr (v62_F63_1a ..) ?_)
    have hl' := hl
    simp only [List.length_append, List.length_cons, B] at hl'
    refine br_of (fun _ => ⟨⟨by omega, by simp; omega⟩, insideB (c.toNat : Int), ?_, br_of (fun h => ret_i ?_) (fun h => ?_)⟩) (fun h => absurd h (by simp; omega))
    · rw [gD_mid8]; exact c_inside _
    · simp_all [runN]
    · have := l_run_inside b (a ++ [c]) (by simpa using hl)
      rw [w64 (by omega) (by omega)]
      simp only [List.append_assoc, List.cons_append, List.nil_append, List.length_append, List.length_cons, List.length_nil, Int.natCast_add, Int.natCast_one, Int.natCast_zero, Int.zero_add] at this
      simp only [Bool.not_eq_false'] at h
      simp only [runN, h, if_true, List.length_append, List.length_cons, Int.natCast_add, Int.natCast_one]
      rw [show (a.length : Int) + ((runN insideB b : Nat) + 1 : Int) = (a.length : Int) + 1 + (runN insideB b : Nat) by omega]
      exact this
theorem c_run_inside (s : List UInt8) (h : s.length ≤ B) : AC Try.prog 62 [cs s, .c (.fn (.func 63) [] [])] [] (ci (runN insideB s)) [] := by
  refine AC.vc hP sh lv62 (Nat.le_refl _) (by simp) (by simp) (Eq.mpr (v62_F63 ..) ?_)
  have := l_run_inside s [] (by simpa using h)
  simpa using this
theorem l_run_sign : ∀ (b a : List UInt8), (a ++ b).length ≤ B → RPt Try.prog 62 0 (ci ((a.length : Int) + runN signB b)) [] 1 ⟨[(0, cs (a ++ b)), (1, .c (.fn (.func 64) [] [])), (7, ci (((a ++ b).length : Nat) : Int)), (8, ci a.length)], [], 0⟩
  | [], a, hl => by
    refine RPt.vc hP sh lv62 (Eq.mpr (v62_F64_1a ..) ?_)
    exact br_of (fun h => absurd h (by simp)) (fun _ => ret_i (by simp [runN]))
  | c :: b, a, hl => by
    refine RPt.vc hP sh lv62 (Eq.mpr (v62_F64_1a ..) ?_)
    have hl' := hl
    simp only [List.length_append, List.length_cons, B] at hl'
    refine br_of (fun _ => ⟨⟨by omega, by simp; omega⟩, signB (c.toNat : Int), ?_, br_of (fun h => ret_i ?_) (fun h => ?_)⟩) (fun h => absurd h (by simp; omega))
    · rw [gD_mid8]; exact c_sign _
    · simp_all [runN]
    · have := l_run_sign b (a ++ [c]) (by simpa using hl)
      rw [w64 (by omega) (by omega)]
      simp only [List.append_assoc, List.cons_append, List.nil_append, List.length_append, List.length_cons, List.length_nil, Int.natCast_add, Int.natCast_one, Int.natCast_zero, Int.zero_add] at this
      simp only [Bool.not_eq_false'] at h
      simp only [runN, h, if_true, List.length_append, List.length_cons, Int.natCast_add, Int.natCast_one]
      rw [show (a.length : Int) + ((runN signB b : Nat) + 1 : Int) = (a.length : Int) + 1 + (runN signB b : Nat) by omega]
      exact this
theorem c_run_sign (s : List UInt8) (h : s.length ≤ B) : AC Try.prog 62 [cs s, .c (.fn (.func 64) [] [])] [] (ci (runN signB s)) [] := by
  refine AC.vc hP sh lv62 (Nat.le_refl _) (by simp) (by simp) (Eq.mpr (v62_F64 ..) ?_)
  have := l_run_sign s [] (by simpa using h)
  simpa using this

theorem runN_all (p : Int → Bool) : ∀ s : List UInt8, (((runN p s : Nat) : Int) == ((s.length : Nat) : Int)) = s.all fun c => p (c.toNat : Int)
  | [] => rfl
  | c :: s => by
    have ih := runN_all p s
    have := runN_le p s
    simp only [runN, List.all_cons, List.length_cons]
    cases h : p (c.toNat : Int) with
    | true => rw [← ih]; simp only [if_true, Bool.true_and]; rw [Bool.eq_iff_iff]; simp <;> omega
    | false => simp; omega
def fitsB (s : List UInt8) : Bool := !(s == []) && decide ((s.length : Int) ≤ 32)
theorem c_fits (s : List UInt8) : AC Try.prog 60 [cs s] [] (cb (fitsB s)) [] := by
  refine AC.vc hP sh lv60 (Nat.le_refl _) (by simp) (by simp) (Eq.mpr (v60 ..) ?_)
  refine br_of (fun h => ret_b ?_) (fun h => ret_b ?_) <;> simp_all [fitsB]
/-- A name. -/
def isName (s : List UInt8) : Bool := fitsB s && smallB ((s.getD 0 0).toNat : Int) && s.all fun c => insideB (c.toNat : Int)
theorem fits_le {s : List UInt8} (h : fitsB s = true) : 0 < s.length ∧ s.length ≤ 32 := by
  simp only [fitsB, Bool.and_eq_true, Bool.not_eq_true', decide_eq_true_eq] at h
  refine ⟨?_, by omega⟩
  cases s with
  | nil => simp at h
  | cons c s => simp
theorem c_isname (s : List UInt8) : AC Try.prog 37 [cs s] [] (cb (isName s)) [] := by
  refine AC.vc hP sh lv37 (Nat.le_refl _) (by simp) (by simp) (Eq.mpr (v37 ..) ?_)
  refine ⟨_, c_fits s, br_of (fun h => ⟨⟨by omega, by have := fits_le h; omega⟩, _, c_small _, br_of (fun h2 => ⟨_, c_run_inside s (by have := fits_le h; simp only [B]; omega), ret_b ?_⟩) (fun h2 => ret_b ?_)⟩) (fun h => ret_b ?_)⟩
  · rw [runN_all]; simp only [isName, h, h2, Bool.true_and]
  · simp only [isName, h, h2, Bool.and_false, Bool.false_and]
  · simp only [isName, h, Bool.false_and]
def singles : List UInt8 := [44, 59, 33]
theorem c_contains1 (s : List UInt8) (c : UInt8) (hs : s.length ≤ B) : AC Try.prog 65 [cs s, cs [c]] [] (cb (decide (Lib.indexByte s c ≥ 0))) [] := by
  have hb : (c.toNat : Int).toNat.toUInt8 = c := by simp
  have h1 : AC Try.prog 84 [cs s, cs [c]] [] (ci (if [c] == s then 0 else Lib.indexByte s c)) [] := by
    refine AC.vc hP sh lv84 (Nat.le_refl _) (by simp) (by simp) (Eq.mpr (v84 ..) ?_)
    refine br_of (fun h => absurd h (by simp)) (fun _ => br_of (fun h => ret_i (by simp [h])) (fun h => br_of (fun _ => ⟨⟨by omega, by simp⟩, _, c_lindexbyte s _, ret_i ?_⟩) (fun h2 => absurd h2 (by simp))))
    rw [h]
    simp
  have h2 : AC Try.prog 80 [cs s, cs [c]] [] (ci (if [c] == s then 0 else Lib.indexByte s c)) [] := by
    refine AC.vc hP sh lv80 (Nat.le_refl _) (by simp) (by simp) (Eq.mpr (v80 ..) ?_)
    exact ⟨_, h1, ret_i rfl⟩
  refine AC.vc hP sh lv65 (Nat.le_refl _) (by simp) (by simp) (Eq.mpr (v65 ..) ?_)
  refine ⟨_, h2, ret_b ?_⟩
  by_cases e : [c] = s
  · subst e
    simp [Lib.indexByte]
  · have : ([c] == s) = false := by simpa using e
    rw [this]; simp
def isSym (s : List UInt8) : Bool := fitsB s && ((s.all fun c => signB (c.toNat : Int)) || ((s.length : Int) == 1 && decide (Lib.indexByte singles (s.getD 0 0) ≥ 0)))
theorem c_issym (s : List UInt8) : AC Try.prog 38 [cs s] [] (cb (isSym s)) [] := by
  refine AC.vc hP sh lv38 (Nat.le_refl _) (by simp) (by simp) (Eq.mpr (v38 ..) ?_)
  refine ⟨_, c_fits s, br_of (fun h => ⟨_, c_run_sign s (by have := fits_le h; simp only [B]; omega), br_of (fun h2 => ret_b ?_) (fun h2 => br_of (fun h3 => ?_) (fun h3 => ret_b ?_))⟩) (fun h => ret_b ?_)⟩
  · rw [runN_all] at h2; simp only [isSym, h, h2, Bool.true_and, Bool.true_or]
  · rw [runN_all] at h2
    match s, h3 with
    | [c], h3 =>
      refine ⟨_, c_contains1 singles c (by simp [singles, B]), ret_b ?_⟩
      simp only [isSym, h, h2, h3, Bool.true_and, Bool.false_or, List.getD_cons_zero]
    | [], h3 => simp at h3
    | _ :: _ :: _, h3 => simp at h3; omega
  · rw [runN_all] at h2; simp only [isSym, h, h2, h3, Bool.false_and, Bool.false_or, Bool.and_false]
  · simp only [isSym, h, Bool.false_and]

end Go.AM

set_option maxRecDepth 100000
open Go Go.Proofs
namespace Go.AM

/-! ### What is looked at -/
mutual
def near (most : Int) : Tm → Bool
  | .mk k _ n l => !(k != 2 && (decide (n > most) || decide (n < 0 - most))) && nears most l
def nears (most : Int) : List Tm → Bool
  | [] => true
  | t :: l => near most t && nears most l
end
theorem l_near (most : Int) (k : Int) (s : List UInt8) (n : Int) : ∀ (b a : List Tm), (∀ u ∈ b, AC Try.prog 9 [aT u, ci most] [] (cb (near most u)) []) → (a ++ b).length ≤ B →
    RPt Try.prog 9 0 (cb (nears most b)) [] 1 ⟨[(1, ci most), (2, (.c (.a (.ep 0 4 0 0)))), (5, ci a.length)], [(0, (.arr 4 [fzs (FT (.mk k s n (a ++ b)))]))], 1⟩
  | [], a, _, hl => by
    refine RPt.vc hP sh lv9 (Eq.mpr (v9_1a ..) ?_)
    exact ⟨rfl, br_of (fun h => absurd (of_decide_eq_true h) (geI' a)) (fun _ => ret_b rfl)⟩
  | t :: b, a, ih, hl => by
    refine RPt.vc hP sh lv9 (Eq.mpr (v9_1a ..) ?_)
    have hl' := hl
    simp only [List.length_append, List.length_cons, B] at hl'
    refine ⟨rfl, br_of (fun _ => ?_) (fun h => absurd (ltI' a t b) (of_decide_eq_false h))⟩
    have h1 := ih t List.mem_cons_self
    have h2 := l_near most k s n b (a ++ [t]) (fun u hu => ih u (List.mem_cons_of_mem _ hu)) (by rw [ap]; exact hl)
    have h3 := ltI' a t b
    rw [ap, nx] at h2
    rw [midI, w64 (by omega) (by omega)]
    obtain ⟨k', s', n', l'⟩ := t
    refine ⟨⟨rfl, by omega, h3, rfl⟩, _, h1, br_of (fun h => ret_b ?_) (fun h => ?_)⟩
    · simp_all [nears]
    · simp only [nears, show near most (.mk k' s' n' l') = true by simpa using h, Bool.true_and]; exact h2
theorem c_near (most : Int) (h0 : 0 ≤ most) (h1 : most ≤ 4611686018427387904) : ∀ t : Tm, t.sz ≤ B → AC Try.prog 9 [aT t, ci most] [] (cb (near most t)) [] := by
  refine Tm.ind fun t ih hs => ?_
  obtain ⟨k, s, n, l⟩ := t
  have hl := Tm.szs_length l
  simp only [Tm.sz, B] at hs
  refine AC.vc hP sh lv9 (Nat.le_refl _) (by simp) (by simp) (Eq.mpr (v9 k s n (FTs l) most _ _) ?_)
  have key := l_near most k s n l [] (fun u hu => ih u hu (by have := Tm.szs_mem hu; simp only [B]; omega)) (by simp only [List.nil_append, B]; omega)
  rw [w64 (by omega) (by omega)]
  rw [near]
  refine br_of (fun h => br_of (fun h2 => ret_b ?_) (fun h2 => br_of (fun h3 => ret_b ?_) (fun h3 => ?_))) (fun h => ?_)
  · simp only [h, h2, Bool.true_or, Bool.and_true, Bool.not_true, Bool.false_and]
  · simp only [h, h3, Bool.or_true, Bool.and_true, Bool.not_true, Bool.false_and]
  · simp only [h2, h3, Bool.or_false, Bool.and_false, Bool.not_false, Bool.true_and]; exact key
  · simp only [h, Bool.false_and, Bool.not_false, Bool.true_and]; exact key

mutual
def leftF : Tm → Int → Int
  | .mk _ _ _ l, most => leftL l (most - 1)
def leftL : List Tm → Int → Int
  | [], n => n
  | t :: l, n => if n ≥ 0 then leftL l (leftF t n) else n
end
mutual
theorem leftF_le : ∀ (t : Tm) (n : Int), leftF t n ≤ n - 1 ∧ (0 ≤ n → -1 ≤ leftF t n)
  | .mk _ _ _ l, n => by
    have h := leftL_le l (n - 1)
    simp only [leftF]
    exact ⟨h.1, fun hn => h.2 (by omega)⟩
theorem leftL_le : ∀ (l : List Tm) (n : Int), leftL l n ≤ n ∧ (-1 ≤ n → -1 ≤ leftL l n)
  | [], n => by simp [leftL]
  | t :: l, n => by
    have h1 := leftF_le t n
    have h2 := leftL_le l (leftF t n)
    simp only [leftL]
    split
    · rename_i h; exact ⟨by omega, fun _ => h2.2 (h1.2 h)⟩
    · exact ⟨Int.le_refl _, fun h => h⟩
end
theorem l_left (k : Int) (s : List UInt8) (n : Int) : ∀ (b a : List Tm) (m : Int), (∀ u ∈ b, ∀ m : Int, 0 ≤ m → m ≤ 4611686018427387904 → AC Try.prog 28 [aT u, ci m] [] (ci (leftF u m)) []) → (a ++ b).length ≤ B → m ≤ 4611686018427387904 →
    RPt Try.prog 28 0 (ci (leftL b m)) [] 1 ⟨[(2, (.c (.a (.ep 0 4 0 0)))), (5, ci m), (6, ci a.length)], [(0, (.arr 4 [fzs (FT (.mk k s n (a ++ b)))]))], 1⟩
  | [], a, m, _, hl, hm => by
    refine RPt.vc hP sh lv28 (Eq.mpr (v28_1a ..) ?_)
    exact ⟨rfl, br_of (fun h => absurd (of_decide_eq_true h) (geI' a)) (fun _ => ret_i rfl)⟩
  | t :: b, a, m, ih, hl, hm => by
    refine RPt.vc hP sh lv28 (Eq.mpr (v28_1a ..) ?_)
    have hl' := hl
    simp only [List.length_append, List.length_cons, B] at hl'
    refine ⟨rfl, br_of (fun _ => br_of (fun hm0 => ?_) (fun hm0 => ret_i ?_)) (fun h => absurd (ltI' a t b) (of_decide_eq_false h))⟩
    · have hm0 := of_decide_eq_true hm0
      have h1 := ih t List.mem_cons_self m hm0 hm
      have hle := leftF_le t m
      have h2 := l_left k s n b (a ++ [t]) (leftF t m) (fun u hu => ih u (List.mem_cons_of_mem _ hu)) (by rw [ap]; exact hl) (by omega)
      have h3 := ltI' a t b
      rw [ap, nx] at h2
      rw [midI, w64 (by omega) (by omega)]
      simp only [leftL, hm0, if_true]
      obtain ⟨k', s', n', l'⟩ := t
      exact ⟨⟨rfl, by omega, h3, rfl⟩, _, h1, h2⟩
    · have hm0 := of_decide_eq_false hm0
      simp only [leftL, hm0, if_false]
theorem c_left : ∀ t : Tm, t.sz ≤ B → ∀ m : Int, 0 ≤ m → m ≤ 4611686018427387904 → AC Try.prog 28 [aT t, ci m] [] (ci (leftF t m)) [] := by
  refine Tm.ind fun t ih hs m h0 h1 => ?_
  obtain ⟨k, s, n, l⟩ := t
  have hl := Tm.szs_length l
  simp only [Tm.sz, B] at hs
  refine AC.vc hP sh lv28 (Nat.le_refl _) (by simp) (by simp) (Eq.mpr (v28 k s n (FTs l) m _ _) ?_)
  rw [w64 (by omega) (by omega)]
  exact l_left k s n l [] (m - 1) (fun u hu => ih u hu (by have := Tm.szs_mem hu; simp only [B]; omega)) (by simp only [List.nil_append, B]; omega) (by omega)
def large (t : Tm) (most : Int) : Bool := decide (leftF t most < 0)
theorem c_large (t : Tm) (hs : t.sz ≤ B) (m : Int) (h0 : 0 ≤ m) (h1 : m ≤ 4611686018427387904) : AC Try.prog 8 [aT t, ci m] [] (cb (large t m)) [] := by
  have h := c_left t hs m h0 h1
  obtain ⟨k, s, n, l⟩ := t
  refine AC.vc hP sh lv8 (Nat.le_refl _) (by simp) (by simp) (Eq.mpr (v8 k s n (FTs l) m _ _) ?_)
  exact ⟨_, h, ret_b rfl⟩

mutual
def longB : Tm → Bool
  | .mk _ s _ l => decide (60 < (s.length : Int)) || longL l
def longL : List Tm → Bool
  | [] => false
  | t :: l => longB t || longL l
end
def overB (t : Tm) : Bool := large t 80 || longB t || !near 1099511627776 t
def rowL (l : List Tm) : Bool := decide ((l.length : Int) > 8) || l.any overB
/-! ### The same -/
mutual
def sameB : Tm → Tm → Bool
  | .mk k s n l, .mk k' s' n' l' => k == k' && (s == s' && (n == n' && sameL l l'))
def sameL : List Tm → List Tm → Bool
  | [], [] => true
  | t :: l, u :: m => sameB t u && sameL l m
  | _, _ => false
end
mutual
theorem sameB_iff : ∀ a b : Tm, sameB a b = true ↔ a = b
  | .mk k s n l, .mk k' s' n' l' => by simp only [sameB, Bool.and_eq_true, beq_iff_eq, Tm.mk.injEq, sameL_iff l l']
theorem sameL_iff : ∀ a b : List Tm, sameL a b = true ↔ a = b
  | [], [] => by simp [sameL]
  | t :: l, u :: m => by simp only [sameL, Bool.and_eq_true, List.cons.injEq, sameB_iff t u, sameL_iff l m]
  | [], _ :: _ => by simp [sameL]
  | _ :: _, [] => by simp [sameL]
end
theorem sameL_len : ∀ {a b : List Tm}, a.length ≠ b.length → sameL a b = false
  | [], [], h => absurd rfl h
  | t :: l, u :: m, h => by simp only [sameL, sameL_len (a := l) (b := m) (fun e => h (by simp [e])), Bool.and_false]
  | [], _ :: _, _ => rfl
  | _ :: _, [], _ => rfl
theorem l_same (k : Int) (s : List UInt8) (n : Int) (k' : Int) (s' : List UInt8) (n' : Int) : ∀ (b a b' a' : List Tm), (∀ u ∈ b, ∀ v ∈ b', AC Try.prog 16 [aT u, aT v] [] (cb (sameB u v)) []) → (a ++ b).length ≤ B → a.length = a'.length → b.length = b'.length →
    RPt Try.prog 16 0 (cb (sameL b b')) [] 1 ⟨[(2, (.c (.a (.ep 0 4 0 0)))), (3, (.c (.a (.ep 1 4 0 0)))), (5, ci a.length)], [(0, (.arr 4 [fzs (FT (.mk k s n (a ++ b)))])), (1, (.arr 4 [fzs (FT (.mk k' s' n' (a' ++ b')))]))], 2⟩
  | [], a, [], a', _, hl, _, _ => by
    refine RPt.vc hP sh lv16 (Eq.mpr (v16_1a ..) ?_)
    exact ⟨rfl, br_of (fun h => absurd (of_decide_eq_true h) (geI' a)) (fun _ => ret_b rfl)⟩
  | t :: b, a, u :: b', a', ih, hl, ha, hb => by
    refine RPt.vc hP sh lv16 (Eq.mpr (v16_1a ..) ?_)
    have hl' := hl
    simp only [List.length_append, List.length_cons, B] at hl'
    refine ⟨rfl, br_of (fun _ => ?_) (fun h => absurd (ltI' a t b) (of_decide_eq_false h))⟩
    have h1 := ih t List.mem_cons_self u List.mem_cons_self
    have h2 := l_same k s n k' s' n' b (a ++ [t]) b' (a' ++ [u]) (fun x hx y hy => ih x (List.mem_cons_of_mem _ hx) y (List.mem_cons_of_mem _ hy)) (by rw [ap]; exact hl) (by simp [ha]) (by simpa using hb)
    have h3 := ltI' a t b
    have h4 := ltI' a' u b'
    rw [← ha] at h4
    rw [ap, ap, nx] at h2
    rw [midI, midI' a a' ha, w64 (by omega) (by omega)]
    obtain ⟨k1, s1, n1, l1⟩ := t
    obtain ⟨k2, s2, n2, l2⟩ := u
    refine ⟨⟨rfl, by omega, h3, rfl⟩, ⟨rfl, by omega, h4, rfl⟩, _, h1, br_of (fun h => ret_b ?_) (fun h => ?_)⟩
    · rw [sameL, show sameB (.mk k1 s1 n1 l1) (.mk k2 s2 n2 l2) = false by simpa using h, Bool.false_and]
    · rw [sameL, show sameB (.mk k1 s1 n1 l1) (.mk k2 s2 n2 l2) = true by simpa using h, Bool.true_and]; exact h2
theorem c_rsame : ∀ a : Tm, a.sz ≤ B → ∀ b : Tm, AC Try.prog 16 [aT a, aT b] [] (cb (sameB a b)) [] := by
  refine Tm.ind fun a ih hs b => ?_
  obtain ⟨k, s, n, l⟩ := a
  obtain ⟨k', s', n', l'⟩ := b
  have hl := Tm.szs_length l
  simp only [Tm.sz, B] at hs
  refine AC.vc hP sh lv16 (Nat.le_refl _) (by simp) (by simp) (Eq.mpr (v16 k s n (FTs l) k' s' n' (FTs l') _ _) ?_)
  have key := fun he => l_same k s n k' s' n' l [] l' [] (fun u hu v _ => ih u hu (by have := Tm.szs_mem hu; simp only [B]; omega) v) (by simp only [List.nil_append, B]; omega) rfl he
  rw [lenI, lenI]
  refine br_of (fun h => ret_b ?_) (fun h => br_of (fun h2 => ret_b ?_) (fun h2 => br_of (fun h3 => ret_b ?_) (fun h3 => ⟨rfl, rfl, br_of (fun h4 => ret_b ?_) (fun h4 => ?_)⟩)))
  · simp only [sameB, show (k == k') = false by simpa using h, Bool.false_and]
  · simp only [sameB, show (s == s') = false by simpa using h2, Bool.false_and, Bool.and_false]
  · simp only [sameB, show (n == n') = false by simpa using h3, Bool.false_and, Bool.and_false]
  · rw [sameB, sameL_len (by intro e; simp [e] at h4)]; simp
  · simp only [sameB, show (k == k') = true by simpa using h, show (s == s') = true by simpa using h2, show (n == n') = true by simpa using h3, Bool.true_and]
    exact key (by have : (l.length : Int) = l'.length := by simpa using h4
                  omega)

/-! ### What is within; how large -/
def Tm.inner (t : Tm) : Bool := t.k == 5 || t.k == 6
def Tm.kids (t : Tm) : List Tm := if t.inner = true then t.l else []
def Tm.by (t : Tm) : Int := if t.k == 5 then 1 else 0

end Go.AM

set_option maxRecDepth 100000
open Go Go.Proofs
namespace Go.AM

/-! ### Heaps -/
theorem CR_length (l : List Cel) : (CR l).length = l.length := by simp [CR]
theorem TR_length (l : List Trl) : (TR l).length = l.length := by simp [TR]
theorem NR_length (l : List (List UInt8)) : (NR l).length = l.length := by simp [NR]
theorem CR_get {l : List Cel} {i : Nat} (h : i < l.length) : List.getD (CR l) i [] = l[i].r := by simp [CR, List.getD, h]
theorem NR_get {l : List (List UInt8)} {i : Nat} (h : i < l.length) : List.getD (NR l) i [] = [.str l[i]] := by simp [NR, List.getD, h]
/-- A heap's pointer; the objects. -/
abbrev aH (o : Nat) : TV := .c (.a (.ep o 6 0 0))
abbrev hp6 (a b d m : Nat) (s : Hp) : AObj := .arr 6 [[.a (.osl a 5 0 s.C.length), .a (.osl b 7 0 s.T.length), .a (.fz (.int .i64 s.M)), .a (.fz (.int .i64 s.L)), .a (.osl d 1 0 s.N.length), .a (.mp m)]]
abbrev oH (s : Hp) : List AObj := [hp6 1 2 3 4 s, .arz 5 (CR s.C), .arz 7 (TR s.T), .arz 1 (NR s.N), .mapz (NM s.N 0)]
abbrev oH' (s : Hp) : List AObj := [hp6 5 6 7 4 s, .gone, .gone, .gone, .mapz (NM s.N 0), .arz 5 (CR s.C), .arz 7 (TR s.T), .arz 1 (NR s.N)]
abbrev aCe (c : Cel) : TV := .agg [.a (.fz (.int .i64 c.t)), .a (.fz (.int .i64 c.a)), .a (.fz (.int .i64 c.b)), .a (.fz (.int .i64 c.c)), .a (.fz (.int .i64 c.d))]
abbrev tCe (c : Cel) (b : Bool) : TV := .tup [(true, [.a (.fz (.int .i64 c.t)), .a (.fz (.int .i64 c.a)), .a (.fz (.int .i64 c.b)), .a (.fz (.int .i64 c.c)), .a (.fz (.int .i64 c.d))]), (false, [.a (.fz (.bool b))])]
abbrev t2 (x : Int × Int) : TV := .tup [(false, [.a (.fz (.int .i64 x.1))]), (false, [.a (.fz (.int .i64 x.2))])]
abbrev noC : Cel := ⟨0, 0, 0, 0, 0⟩
def rowB (c : Cel) : Bool := decide (9 ≤ c.t) && decide (c.t ≤ 11)
def cellOf (C : List Cel) (x : Int) : Cel := if 0 ≤ x ∧ x < (C.length : Int) then (C[x.toNat]?).getD noC else noC
def inC (C : List Cel) (x : Int) : Bool := decide (0 ≤ x) && decide (x < (C.length : Int))
theorem cellOf_in {C : List Cel} {x : Int} (h0 : 0 ≤ x) (h1 : x < (C.length : Int)) : ∃ h : x.toNat < C.length, cellOf C x = C[x.toNat] := by
  have h : x.toNat < C.length := by omega
  exact ⟨h, by rw [cellOf, if_pos ⟨h0, h1⟩, List.getElem?_eq_getElem h]; rfl⟩
theorem cellOf_out {C : List Cel} {x : Int} (h : ¬ (0 ≤ x ∧ x < (C.length : Int))) : cellOf C x = noC := if_neg h
theorem ret_bH {x y : Bool} {Hs : List AObj} (h : x = y) : TV.Le (cb x) (cb y) ∧ Hs = Hs := ⟨by rw [h]; exact .refl _, rfl⟩
theorem c_hnew (c t : Int) : AC Try.prog 10 [ci c, ci t] [] (aH 0) (oH ⟨[], [], foldMin [foldMax [c, 0], 1048576], foldMin [foldMax [t, 0], 1048576], []⟩) := by
  refine AC.vc hP sh lv10 (by simp) (by simp) (by simp [isLive]) (Eq.mpr (v10 ..) ?_)
  exact ⟨.refl _, rfl⟩
theorem c_hrow (c : Cel) : AC Try.prog 34 [aCe c] [] (cb (rowB c)) [] := by
  refine AC.vc hP sh lv34 (Nat.le_refl _) (by simp) (by simp) (Eq.mpr (v34 ..) ?_)
  refine br_of (fun h => ret_b ?_) (fun h => ret_b ?_) <;> simp_all [rowB] <;> omega
theorem c_hlen (s : Hp) : AC Try.prog 19 [aH 0] (oH s) (ci (s.C.length : Int)) (oH s) := by
  refine AC.vc hP sh lv19 (Nat.le_refl _) (by simp [isLive]) (by simp) (Eq.mpr (v19 ..) ?_)
  exact ⟨.refl _, rfl⟩
theorem c_hcell (s : Hp) (x : Int) : AC Try.prog 23 [aH 0, ci x] (oH s) (tCe (cellOf s.C x) (inC s.C x)) (oH s) := by
  refine AC.vc hP sh lv23 (Nat.le_refl _) (by simp [isLive]) (by simp) (Eq.mpr (v23 ..) ?_)
  refine br_of (fun h => ?_) (fun h => br_of (fun h' => ?_) (fun h' => ?_))
  · have h := of_decide_eq_true h
    rw [cellOf_out (by omega), show inC s.C x = false by simp [inC]; omega]
    exact ⟨.refl _, rfl⟩
  · have h' := of_decide_eq_true h'
    rw [cellOf_out (by omega), show inC s.C x = false by simp [inC]; omega]
    exact ⟨.refl _, rfl⟩
  · have h := of_decide_eq_false h
    have h' := of_decide_eq_false h'
    obtain ⟨hl, e⟩ := cellOf_in (C := s.C) (x := x) (by omega) (by omega)
    rw [e, show List.getD (CR s.C) (0 + Int.toNat x) [] = s.C[x.toNat].r by rw [Nat.zero_add, CR_get hl], show inC s.C x = true by simp [inC]; omega]
    refine ⟨⟨by omega, by omega⟩, ⟨by rw [CR_length]; omega, rfl, rfl⟩, .refl _, rfl⟩
def isT (C : List Cel) (x : Int) : Bool := inC C x && !rowB (cellOf C x)
def isR (C : List Cel) (x : Int) : Bool := inC C x && rowB (cellOf C x)
theorem c_hist (s : Hp) (x : Int) : AC Try.prog 47 [aH 0, ci x] (oH s) (cb (isT s.C x)) (oH s) := by
  refine AC.vc hP sh lv47 (Nat.le_refl _) (by simp [isLive]) (by simp) (Eq.mpr (v47 ..) ?_)
  refine ⟨_, _, _, _, _, _, c_hcell s x, br_of (fun h => ⟨_, c_hrow (cellOf s.C x), ret_bH ?_⟩) (fun h => ret_bH ?_)⟩ <;> simp [isT, h]
theorem c_hisr (s : Hp) (x : Int) : AC Try.prog 48 [aH 0, ci x] (oH s) (cb (isR s.C x)) (oH s) := by
  refine AC.vc hP sh lv48 (Nat.le_refl _) (by simp [isLive]) (by simp) (Eq.mpr (v48 ..) ?_)
  refine ⟨_, _, _, _, _, _, c_hcell s x, br_of (fun h => ⟨_, c_hrow (cellOf s.C x), ret_bH ?_⟩) (fun h => ret_bH ?_)⟩ <;> simp [isR, h]
/-- May a cell be put in? -/
def fitsH (s : Hp) (c : Cel) : Bool :=
  if c.t = 0 then decide (0 ≤ c.a) && decide (c.a < (s.N.length : Int))
  else if c.t = 1 then decide (c.a ≥ 1)
  else if c.t = 2 then true
  else if c.t = 9 then true
  else if c.t = 3 then decide (c.a ≥ 0)
  else if c.t = 4 then decide (c.a ≥ 0)
  else if c.t = 5 then isT s.C c.a
  else if c.t = 6 then isT s.C c.a
  else if c.t = 7 then isT s.C c.a && isT s.C c.b
  else if c.t = 8 then isT s.C c.a && isR s.C c.b && decide (c.c ≥ 0) && decide (c.d ≥ 0)
  else if c.t = 10 then isR s.C c.a && decide (c.b ≥ 0)
  else if c.t = 11 then isR s.C c.a && isT s.C c.b && decide (c.c ≥ 0)
  else false
theorem br_eq {x n : Int} {A B : Prop} (h1 : x = n → A) (h2 : x ≠ n → B) : br (x == n) A B := br_of (fun h => h1 (by simpa using h)) (fun h => h2 (by simpa using h))
theorem c_hfits (s : Hp) (c : Cel) : AC Try.prog 29 [aH 0, aCe c] (oH s) (cb (fitsH s c)) (oH s) := by
  have ta := c_hist s c.a
  have tb := c_hist s c.b
  have ra := c_hisr s c.a
  have rb := c_hisr s c.b
  refine AC.vc hP sh lv29 (Nat.le_refl _) (by simp [isLive]) (by simp) (Eq.mpr (v29 ..) ?_)
  refine br_eq (fun e0 => ?_) (fun n0 => br_eq (fun e1 => ?_) (fun n1 => br_eq (fun e2 => ?_) (fun n2 => br_eq (fun e9 => ?_) (fun n9 => br_eq (fun e3 => ?_) (fun n3 => br_eq (fun e4 => ?_) (fun n4 => br_eq (fun e5 => ?_) (fun n5 => br_eq (fun e6 => ?_) (fun n6 => br_eq (fun e7 => ?_) (fun n7 => br_eq (fun e8 => ?_) (fun n8 => br_eq (fun e10 => ?_) (fun n10 => br_eq (fun e11 => ?_) (fun n11 => ?_))))))))))))
  · refine br_of (fun h => ret_bH ?_) (fun h => ret_bH ?_) <;> simp [fitsH, e0] <;> simp at h <;> omega
  · exact ret_bH (by simp [fitsH, e1])
  · exact ret_bH (by simp [fitsH, e2])
  · exact ret_bH (by simp [fitsH, e9])
  · exact ret_bH (by simp [fitsH, e3])
  · exact ret_bH (by simp [fitsH, e4])
  · exact ⟨_, ta, ret_bH (by simp [fitsH, e5])⟩
  · exact ⟨_, ta, ret_bH (by simp [fitsH, e6])⟩
  · exact ⟨_, ta, br_of (fun h => ⟨_, tb, ret_bH (by simp [fitsH, e7, h])⟩) (fun h => ret_bH (by simp [fitsH, e7, h]))⟩
  · exact ⟨_, ta, br_of (fun h => ⟨_, rb, br_of (fun g => br_of (fun q => ret_bH (by simp [fitsH, e8, h, g]; simp at q; omega)) (fun q => ret_bH (by simp [fitsH, e8, h, g]; simp at q; omega))) (fun g => ret_bH (by simp [fitsH, e8, h, g]))⟩) (fun h => ret_bH (by simp [fitsH, e8, h]))⟩
  · exact ⟨_, ra, br_of (fun h => ret_bH (by simp [fitsH, e10, h])) (fun h => ret_bH (by simp [fitsH, e10, h]))⟩
  · exact ⟨_, ra, br_of (fun h => ⟨_, tb, br_of (fun g => ret_bH (by simp [fitsH, e11, h, g])) (fun g => ret_bH (by simp [fitsH, e11, h, g]))⟩) (fun h => ret_bH (by simp [fitsH, e11, h]))⟩
  · exact ret_bH (by simp [fitsH, n0, n1, n2, n9, n3, n4, n5, n6, n7, n8, n10, n11])
/-- Put. -/
def putS (s : Hp) (c : Cel) : (Int × Int) × Hp :=
  if fitsH s c = false then ((0, 1), s) else if s.M ≤ (s.C.length : Int) then ((0, 200), s) else (((s.C.length : Int), 0), { s with C := s.C ++ [c] })
theorem c_hput (s : Hp) (c : Cel) (hB : s.C.length ≤ 1073741824) : AC Try.prog 11 [aH 0, aCe c] (oH s) (t2 (putS s c).1) (oH' (putS s c).2) := by
  refine AC.vc hP sh lv11 (by simp) (by simp [isLive]) (by simp [isLive]) (Eq.mpr (v11 ..) ?_)
  refine ⟨_, c_hfits s c, br_of (fun h => ?_) (fun h => br_of (fun h2 => ?_) (fun h2 => ⟨Nat.le_refl _, ⟨by rw [CR_length]; omega, ?_⟩, ?_⟩))⟩
  · rw [putS, if_pos (by simpa using h)]; exact ⟨.refl _, rfl⟩
  · rw [putS, if_neg (by simpa using h), if_pos (of_decide_eq_true h2)]; exact ⟨.refl _, rfl⟩
  · simp only [roomB]; omega
  · have h2 : ¬ s.M ≤ (s.C.length : Int) := of_decide_eq_false h2
    rw [putS, if_neg (by simpa using h), if_neg h2]
    have e1 : (s.C ++ [c]).length = s.C.length + 1 := by simp
    have e2 : CR (s.C ++ [c]) = List.take s.C.length (CR s.C) ++ [c.r] := by rw [List.take_of_length_le (by rw [CR_length]; omega)]; simp [CR]
    have e3 : IntKind.wrap .i64 (((s.C.length + 1 : Nat) : Int) - 1) = (s.C.length : Int) := by rw [w64 (by omega) (by omega)]; omega
    simp only [oH', hp6, e1, e2, e3]
    exact ⟨.refl _, trivial⟩
/-! ### Names -/
def numOf (nm : List UInt8) : List (List UInt8) → Nat → Option Nat
  | [], _ => none
  | s :: l, i => if (((nm : List UInt8) == s) && true) = true then some i else numOf nm l (i + 1)
abbrev mN : (Bool × List EK) × (Bool × List WV) := ((false, [EK.str]), (false, [.a (.fz (.int .i64 0))]))
theorem findN (nm : List UInt8) : ∀ (l : List (List UInt8)) (i j : Nat), (numOf nm l i = none → findA mN.1 [.str nm] ((NM l i).map thaw) j = some none) ∧
    ∀ x, numOf nm l i = some x → ∃ q, x = i + q ∧ l[q]? = some nm ∧ findA mN.1 [.str nm] ((NM l i).map thaw) j = some (some (j + q)) ∧ (NM l i)[q]? = some ((false, [.str nm]), (false, [.int .i64 (x : Int)]))
  | [], i, j => ⟨fun _ => rfl, fun x h => by cases h⟩
  | s :: l, i, j => by
    have ih := findN nm l (i + 1) (j + 1)
    have hf : findA mN.1 [.str nm] ((NM (s :: l) i).map thaw) j = if (((nm : List UInt8) == s) && true) = true then some (some j) else findA mN.1 [.str nm] ((NM l (i + 1)).map thaw) (j + 1) := rfl
    rw [hf, numOf]
    by_cases q : (((nm : List UInt8) == s) && true) = true
    · rw [if_pos q, if_pos q]
      have e : nm = s := by simpa using q
      exact ⟨fun h => (by cases h), fun x h => ⟨0, by injection h with h; omega, by rw [e]; rfl, rfl, by injection h with h; rw [e, ← h]; rfl⟩⟩
    · rw [if_neg q, if_neg q]
      refine ⟨ih.1, fun x h => ?_⟩
      obtain ⟨k, h1, h2, h3, h4⟩ := ih.2 x h
      exact ⟨k + 1, by omega, by simpa using h2, by rw [h3, show j + 1 + k = j + (k + 1) by omega], by simpa [NM] using h4⟩
theorem NM_append (nm : List UInt8) : ∀ (l : List (List UInt8)) (i : Nat), NM (l ++ [nm]) i = NM l i ++ [((false, [.str nm]), (false, [.int .i64 ((i + l.length : Nat) : Int)]))]
  | [], i => by simp [NM]
  | s :: l, i => by rw [List.cons_append, NM, NM, NM_append nm l (i + 1), List.length_cons, show i + 1 + l.length = i + (l.length + 1) by omega]; rfl
/-- Symbol. -/
def symS (s : Hp) (nm : List UInt8) : Int × Hp := match numOf nm s.N 0 with | some i => ((i : Int), s) | none => ((s.N.length : Int), { s with N := s.N ++ [nm] })
theorem c_hsym (s : Hp) (nm : List UInt8) (hB : s.N.length ≤ 1073741824) : AC Try.prog 17 [aH 0, cs nm] (oH s) (ci (symS s nm).1) (oH' (symS s nm).2) := by
  refine AC.vc hP sh lv17 (by simp) (by simp [isLive]) (by simp [isLive]) (Eq.mpr (v17 ..) ?_)
  have hf := findN nm s.N 0 0
  match hn : numOf nm s.N 0 with
  | some i =>
    obtain ⟨q, h1, _, h3, h4⟩ := hf.2 i hn
    refine .inl ⟨(i : Int), ?_, ?_⟩
    · unfold findZ
      rw [h3]
      simp only [Nat.zero_add, h4, if_true]
    · simp only [symS, hn]
      exact ⟨.refl _, trivial⟩
  | none =>
    have h1 := hf.1 hn
    refine .inr ⟨by unfold findZ; rw [h1], _, (by unfold updZ; rw [h1]), Nat.le_refl _, ⟨by rw [NR_length]; omega, by simp only [roomB]; omega⟩, ?_⟩
    simp only [symS, hn]
    have e1 : (s.N ++ [nm]).length = s.N.length + 1 := by simp
    have e2 : NR (s.N ++ [nm]) = List.take s.N.length (NR s.N) ++ [[.str nm]] := by rw [List.take_of_length_le (by rw [NR_length]; omega)]; simp [NR]
    have e3 := NM_append nm s.N 0
    rw [Nat.zero_add] at e3
    simp only [oH', hp6, e1, e2, e3]
    exact ⟨.refl _, trivial⟩
def nameOf (N : List (List UInt8)) (i : Int) : List UInt8 := if 0 ≤ i ∧ i < (N.length : Int) then (N[i.toNat]?).getD [] else []
theorem nameOf_in {N : List (List UInt8)} {x : Int} (h0 : 0 ≤ x) (h1 : x < (N.length : Int)) : ∃ h : x.toNat < N.length, nameOf N x = N[x.toNat] := by
  have h : x.toNat < N.length := by omega
  exact ⟨h, by rw [nameOf, if_pos ⟨h0, h1⟩, List.getElem?_eq_getElem h]; rfl⟩
theorem ret_sH {x y : List UInt8} {Hs : List AObj} (h : x = y) : TV.Le (cs x) (cs y) ∧ Hs = Hs := ⟨by rw [h]; exact .refl _, rfl⟩
theorem c_hname (s : Hp) (i : Int) : AC Try.prog 18 [aH 0, ci i] (oH s) (cs (nameOf s.N i)) (oH s) := by
  refine AC.vc hP sh lv18 (Nat.le_refl _) (by simp [isLive]) (by simp) (Eq.mpr (v18 ..) ?_)
  refine br_of (fun h => ?_) (fun h => br_of (fun h' => ?_) (fun h' => ?_))
  · exact ret_sH (by simp at h; rw [nameOf, if_neg (by omega)])
  · exact ret_sH (by simp at h'; rw [nameOf, if_neg (by omega)])
  · have h := of_decide_eq_false h
    have h' := of_decide_eq_false h'
    obtain ⟨hl, e⟩ := nameOf_in (N := s.N) (x := i) (by omega) (by omega)
    rw [e, show List.getD (NR s.N) (0 + Int.toNat i) [] = [.str s.N[i.toNat]] by rw [Nat.zero_add, NR_get hl]]
    exact ⟨⟨by omega, by omega⟩, ⟨by rw [NR_length]; omega, rfl, rfl⟩, .refl _, rfl⟩

end Go.AM

set_option maxRecDepth 100000
open Go Go.Proofs
namespace Go.AM

/-! ### What is within -/
def kidsV (t : Tm) : FV := if t.inner = true then .sl false 4 (FTs t.l) else .nils
theorem kidsV_ses (t : Tm) : (kidsV t).ses = FTs t.kids ∧ (kidsV t).isSl 4 = true := by
  unfold kidsV Tm.kids
  split <;> exact ⟨rfl, rfl⟩
mutual
def sizeF : Tm → Nat
  | .mk k _ _ l => 1 + if (k == 5 || k == 6) = true then sizeL l else 0
def sizeL : List Tm → Nat
  | [] => 0
  | t :: l => sizeF t + sizeL l
end
theorem sizeF_eq (t : Tm) : sizeF t = 1 + sizeL t.kids := by
  obtain ⟨k, s, n, l⟩ := t
  by_cases h : (k == 5 || k == 6) = true
  · rw [show Tm.kids (.mk k s n l) = l from if_pos h, sizeF, if_pos h]
  · rw [show Tm.kids (.mk k s n l) = [] from if_neg h, sizeF, if_neg h]; rfl
mutual
theorem sizeF_le : ∀ t : Tm, sizeF t ≤ t.sz
  | .mk k s n l => by have := sizeL_le l; simp only [sizeF, Tm.sz]; split <;> omega
theorem sizeL_le : ∀ l : List Tm, sizeL l ≤ Tm.szs l
  | [] => Nat.le_refl _
  | t :: l => by have := sizeF_le t; have := sizeL_le l; simp only [sizeL, Tm.szs]; omega
end
/-! ### How loose -/
mutual
/-- Numbers of what is bound, up to M. -/
def bd (M : Int) : Tm → Prop
  | .mk k _ n l => (k = 3 → 0 - M ≤ n ∧ n ≤ M) ∧ bds M l
def bds (M : Int) : List Tm → Prop
  | [] => True
  | t :: l => bd M t ∧ bds M l
end
theorem bds_mem {M : Int} : ∀ {l : List Tm} {t : Tm}, bds M l → t ∈ l → bd M t
  | x :: l, t, h, ht => by
    rcases List.mem_cons.1 ht with rfl | ht
    · exact h.1
    · exact bds_mem h.2 ht
theorem bd_l {M : Int} {t : Tm} (h : bd M t) : bds M t.l := by cases t; exact h.2
def maxI (a b : Int) : Int := if a ≤ b then b else a
theorem foldMax2 (a b : Int) : foldMax [a, b] = maxI a b := by
  simp only [foldMax, List.foldl, maxI, max, maxOfLe]
mutual
def looseF : Tm → Int → Int → Int
  | .mk kd _ n l, k, acc => if (kd == 5) = true then looseL l (k + 1) acc else if (kd == 6) = true then looseL l k acc else if (kd == 3) = true then maxI acc (n - k + 1) else acc
def looseL : List Tm → Int → Int → Int
  | [], _, acc => acc
  | t :: l, k, acc => looseL l k (looseF t k acc)
end
abbrev obj1 (n : Int) : AObj := .arr 1 [[.a (.fz (.int .i64 n))]]
end Go.AM

set_option maxRecDepth 100000
open Go Go.Proofs
namespace Go.AM

/-! ### Rows put together -/
theorem c_grow (n : Int) (h0 : 0 ≤ n) (h1 : n ≤ 2199023255552) : (n = 0 → AC Try.prog 81 [.c (.a (.fz .nils)), ci n] [] (.c (.a (.fz .nils))) []) ∧
    (n ≠ 0 → AC Try.prog 81 [.c (.a (.fz .nils)), ci n] [] (.c (.a (.osl 0 4 0 0))) [.arz 4 []]) := by
  constructor
  · intro hn
    refine AC.vc hP sh lv81 (Nat.le_refl _) (by simp) (by simp) (Eq.mpr (v81 ..) ?_)
    refine br_of (fun h => absurd (of_decide_eq_true h) (by omega)) (fun _ => ⟨rfl, br_of (fun h => ?_) (fun _ => ret_r (.refl _))⟩)
    rw [w64 (by omega) (by omega)] at h
    exact absurd (of_decide_eq_true h) (by omega)
  · intro hn
    refine AC.vc hP sh lv81 (by simp) (by simp) (by simp [isLive]) (Eq.mpr (v81 ..) ?_)
    rw [w64 (by omega) (by omega)]
    refine br_of (fun h => absurd (of_decide_eq_true h) (by omega)) (fun _ => ⟨rfl, br_of (fun h => ⟨rfl, ⟨by omega, by omega, by omega⟩, ⟨by omega, by unfold roomB; omega⟩, rfl, ⟨by omega, by omega, by omega⟩, .refl _, rfl⟩) (fun h => absurd (of_decide_eq_false h) (by omega))⟩)
/-- Rows of rows. -/
def FLs (ls : List (List Tm)) : List (List FV) := ls.map fun l => [.sl false 4 (FTs l)]
def total (ls : List (List Tm)) : Nat := (ls.map List.length).foldr (· + ·) 0
theorem FLs_length (ls : List (List Tm)) : (FLs ls).length = ls.length := by simp [FLs]
theorem midL (a : List (List Tm)) (l : List Tm) (b : List (List Tm)) : List.getD (FLs (a ++ l :: b)) (Int.toNat (a.length : Int)) [] = [.sl false 4 (FTs l)] := by
  rw [show Int.toNat (a.length : Int) = a.length by omega]
  simp [List.getD, FLs]
theorem ltL (a : List (List Tm)) (t : List Tm) (b : List (List Tm)) : (a.length : Int) < (((FLs (a ++ t :: b)).length : Nat) : Int) := by rw [FLs_length]; exact ltI a t b
theorem total_mid (a : List (List Tm)) (l : List Tm) (b : List (List Tm)) : total (a ++ l :: b) = total a + l.length + total b := by
  induction a with
  | nil => simp [total]
  | cons x a ih => simp only [total, List.cons_append, List.map_cons, List.foldr_cons] at ih ⊢; omega
theorem total_snoc (a : List (List Tm)) (l : List Tm) : total (a ++ [l]) = total a + l.length := by rw [total_mid]; simp [total]
abbrev aLs (ls : List (List Tm)) : TV := .c (.a (.fz (.sl false 1 (FLs ls))))
theorem roomI {n : Nat} (h : n ≤ 2199023255552) : roomB n 56 := by unfold roomB; omega
theorem l_cat3 : ∀ (b a : List (List Tm)) (acc : List Tm), acc.length + total b ≤ 2199023255552 → (a ++ b).length ≤ B →
    RPt Try.prog 72 0 (aL (acc ++ b.flatten)) [] 5 ⟨[(6, (.c (.a (.osl 0 4 0 acc.length)))), (25, aLs (a ++ b)), (26, ci (a ++ b).length), (27, ci a.length)], [(0, (.arz 4 (FTs acc)))], 1⟩
  | [], a, acc, ht, hl => by
    refine RPt.vc hP sh lv72 (Eq.mpr (v72_5b ..) ?_)
    refine br_of (fun h => absurd (of_decide_eq_true h) (by simp)) (fun _ => ⟨⟨rfl, by rw [FTs_length]; omega⟩, ret_r ?_⟩)
    rw [List.drop_zero, List.take_of_length_le (by rw [FTs_length]; omega), List.flatten_nil, List.append_nil]
    exact le_c leSl
  | l :: b, a, acc, ht, hl => by
    refine RPt.vc hP sh lv72 (Eq.mpr (v72_5b ..) ?_)
    have hl' := hl
    have h3 := ltL a l b
    simp only [List.length_append, List.length_cons, B] at hl'
    have ht' : acc.length + (l.length + total b) ≤ 2199023255552 := by simpa [total] using ht
    have h2 := l_cat3 b (a ++ [l]) (acc ++ l) (by rw [List.length_append]; omega) (by rw [ap]; exact hl)
    rw [ap, nx] at h2
    rw [midL, w64 (by omega) (by omega)]
    refine br_of (fun _ => ⟨⟨rfl, by omega, h3, rfl⟩, rfl, ⟨by rw [FTs_length]; omega, ?_⟩, ?_⟩) (fun h => absurd (ltI a l b) (of_decide_eq_false h))
    · show roomB (acc.length + (FTs l).length) 56
      rw [FTs_length]; exact roomI (by omega)
    · show RPt _ _ _ _ _ _ ⟨[(6, (.c (.a (.osl 0 4 0 (acc.length + (FTs l).length))))), _, _, _], [(0, .arz 4 (List.take acc.length (FTs acc) ++ FTs l))], 1⟩
      rw [List.take_of_length_le (by rw [FTs_length]; omega), ← FTs_append, FTs_length, ← List.length_append]
      rw [show acc ++ (l :: b).flatten = acc ++ l ++ b.flatten by simp]
      exact h2
theorem l_cat2 : ∀ (b a : List (List Tm)), total b ≤ 2199023255552 → (a ++ b).length ≤ B →
    RPt Try.prog 72 0 (aL b.flatten) [] 5 ⟨[(6, (.c (.a (.fz .nils)))), (25, aLs (a ++ b)), (26, ci (a ++ b).length), (27, ci a.length)], [], 0⟩
  | [], a, ht, hl => by
    refine RPt.vc hP sh lv72 (Eq.mpr (v72_5a ..) ?_)
    refine br_of (fun h => absurd (of_decide_eq_true h) (by simp)) (fun _ => ret_r (le_c leNil))
  | l :: b, a, ht, hl => by
    refine RPt.vc hP sh lv72 (Eq.mpr (v72_5a ..) ?_)
    have hl' := hl
    have h3 := ltL a l b
    simp only [List.length_append, List.length_cons, B] at hl'
    have ht' : l.length + total b ≤ 2199023255552 := by simpa [total] using ht
    rw [midL, w64 (by omega) (by omega)]
    refine br_of (fun _ => ⟨⟨rfl, by omega, h3, rfl⟩, rfl, ?_⟩) (fun h => absurd (ltI a l b) (of_decide_eq_false h))
    show br (List.isEmpty (FTs l)) _ _
    refine br_of (fun he => ?_) (fun he => ⟨?_, ?_⟩)
    · have h2 := l_cat2 b (a ++ [l]) (by omega) (by rw [ap]; exact hl)
      rw [ap, nx] at h2
      have hnil : l = [] := by cases l with
        | nil => rfl
        | cons x l => simp [FTs] at he
      rw [show (l :: b).flatten = b.flatten by rw [hnil]; simp]
      exact h2
    · show roomB (FTs l).length 56
      rw [FTs_length]; exact roomI (by omega)
    · have h2 := l_cat3 b (a ++ [l]) l (by omega) (by rw [ap]; exact hl)
      rw [ap, nx] at h2
      show RPt _ _ _ _ _ _ ⟨[(6, (.c (.a (.osl 0 4 0 (FTs l).length)))), _, _, _], [(0, .arz 4 (FTs l))], 1⟩
      rw [FTs_length, List.flatten_cons]
      exact h2
theorem l_cat1 : ∀ (b a : List (List Tm)), total (a ++ b) ≤ 2199023255552 → (a ++ b).length ≤ B →
    RPt Try.prog 72 0 (aL (a ++ b).flatten) [] 1 ⟨[(0, aLs (a ++ b)), (3, ci (total a)), (9, aLs (a ++ b)), (10, ci (a ++ b).length), (11, ci a.length)], [], 0⟩
  | [], a, ht, hl => by
    refine RPt.vc hP sh lv72 (Eq.mpr (v72_1a ..) ?_)
    have hg := c_grow (total a : Int) (by omega) (by simp only [List.append_nil] at ht; omega)
    refine br_of (fun h => absurd (of_decide_eq_true h) (by simp)) (fun _ => ?_)
    have e : (((FLs (a ++ [])).length : Nat) : Int) = (((a ++ []).length : Nat) : Int) := by rw [FLs_length]
    rw [e]
    by_cases hz : total a = 0
    · have h2 := l_cat2 (a ++ []) [] (by simpa using ht) (by simpa using hl)
      exact .inl ⟨(), hg.1 (by omega), rfl, by simpa using h2⟩
    · have h2 := l_cat3 (a ++ []) [] [] (by simpa using ht) (by simpa using hl)
      exact .inr ⟨(), hg.2 (by omega), rfl, by simpa [FTs] using h2⟩
  | l :: b, a, ht, hl => by
    refine RPt.vc hP sh lv72 (Eq.mpr (v72_1a ..) ?_)
    have hl' := hl
    have ht' := ht
    have h3 := ltL a l b
    rw [total_mid] at ht'
    simp only [List.length_append, List.length_cons, B] at hl'
    have h2 := l_cat1 b (a ++ [l]) (by rw [ap]; exact ht) (by rw [ap]; exact hl)
    rw [ap, nx, total_snoc] at h2
    rw [midL, w64 (x := (a.length : Int) + 1) (by omega) (by omega)]
    refine br_of (fun _ => ⟨⟨rfl, by omega, h3, rfl⟩, rfl, ?_⟩) (fun h => absurd (ltI a l b) (of_decide_eq_false h))
    show br (decide (IntKind.wrap .i64 ((total a : Int) + (((FTs l).length : Nat) : Int)) < 0)) _ (RPt _ _ _ _ _ _ ⟨[_, (3, ci (IntKind.wrap .i64 ((total a : Int) + (((FTs l).length : Nat) : Int)))), _, _, _], _, _⟩)
    rw [FTs_length, w64 (by omega) (by omega)]
    refine br_of (fun h => absurd (of_decide_eq_true h) (by omega)) (fun _ => ?_)
    simpa using h2
theorem c_concat (ls : List (List Tm)) (ht : total ls ≤ 2199023255552) (hl : ls.length ≤ B) : AC Try.prog 72 [aLs ls] [] (aL ls.flatten) [] := by
  refine AC.vc hP sh lv72 (Nat.le_refl _) (by simp) (by simp) (Eq.mpr (v72 ..) ?_)
  have := l_cat1 ls [] (by simpa using ht) (by simpa using hl)
  have e : (((FLs ls).length : Nat) : Int) = ((ls.length : Nat) : Int) := by rw [FLs_length]
  rw [e]
  exact ⟨rfl, by simpa [total] using this⟩
/-- Two rows, each as it may come. -/
theorem c_concat2 {x y : FV} {l m : List Tm} (hx : FV.Le x (.sl false 4 (FTs l))) (hy : FV.Le y (.sl false 4 (FTs m))) (ht : l.length + m.length ≤ 2199023255552) : AC Try.prog 72 [.c (.a (.fz (.sl false 1 [[x], [y]])))] [] (aL (l ++ m)) [] := by
  have h := c_concat [l, m] (by simpa [total] using ht) (by simp [B])
  rw [show [l, m].flatten = l ++ m by simp] at h
  refine h.args ⟨le_c (.trans _ _ _ (.rows false 1 _ (FLs [l, m]) rfl (fun i e e' he he' => ?_) (fun i j e e' f f' he he' hf hf' => ?_)) (.nn _ _ _)), trivial⟩
  · match i, he, he' with
    | 0, he, he' => simp [FLs] at he he'; subst he; subst he'; rfl
    | 1, he, he' => simp [FLs] at he he'; subst he; subst he'; rfl
    | i + 2, he, he' => simp at he
  · match i, he, he' with
    | 0, he, he' =>
      simp [FLs] at he he'; subst he; subst he'
      match j, hf, hf' with
      | 0, hf, hf' => simp at hf hf'; subst hf; subst hf'; exact hx
      | j + 1, hf, hf' => simp at hf
    | 1, he, he' =>
      simp [FLs] at he he'; subst he; subst he'
      match j, hf, hf' with
      | 0, hf, hf' => simp at hf hf'; subst hf; subst hf'; exact hy
      | j + 1, hf, hf' => simp at hf
    | i + 2, he, he' => simp at he
/-- Applied. -/
def applyF (f : Tm) (args : List Tm) : Tm :=
  match args with
  | [] => f
  | _ => if (f.k == 6) = true ∧ f.l ≠ [] then .mk 6 [] 0 (f.l ++ args) else .mk 6 [] 0 (f :: args)
theorem c_apply (f : Tm) (args : List Tm) (h : f.l.length + args.length < 2199023255552) : AC Try.prog 52 [aT f, aL args] [] (aT (applyF f args)) [] := by
  obtain ⟨k, s, n, l⟩ := f
  simp only [Tm.l] at h
  refine AC.vc hP sh lv52 (Nat.le_refl _) (by simp) (by simp) (Eq.mpr (v52 k s n (FTs l) (FTs args) _ _) ?_)
  refine ⟨rfl, br_of (fun h1 => ?_) (fun h1 => ?_)⟩
  · have : args = [] := by cases args with
      | nil => rfl
      | cons x l => simp [FTs] at h1; omega
    subst this
    exact ret_r (.refl _)
  · match args, h1, h with
    | [], h1, _ => simp [FTs] at h1
    | a :: r, h1, h =>
      have one : FV.Le (.sl false 4 [[.int .i64 k, .str s, .int .i64 n, .sl false 4 (FTs l)]]) (.sl false 4 (FTs [.mk k s n l])) := .nn _ _ _
      have same : ∀ l : List Tm, FV.Le (.sl false 4 (FTs l)) (.sl false 4 (FTs l)) := fun _ => .refl _
      refine br_of (fun h2 => ⟨rfl, br_of (fun h3 => ⟨⟨rfl, by omega⟩, _, c_concat2 (same l) (same (a :: r)) (by omega), ret_r ?_⟩) (fun h3 => ⟨⟨rfl, by omega⟩, ⟨rfl, by omega⟩, _, c_concat2 one (same (a :: r)) (by simp only [List.length_cons, List.length_nil] at h ⊢; omega), ret_r ?_⟩)⟩)
        (fun h2 => ⟨⟨rfl, by omega⟩, ⟨rfl, by omega⟩, _, c_concat2 one (same (a :: r)) (by simp only [List.length_cons, List.length_nil] at h ⊢; omega), ret_r ?_⟩)
      · have hl : l ≠ [] := by intro e; subst e; simp [FTs] at h3
        rw [show applyF (.mk k s n l) (a :: r) = .mk 6 [] 0 (l ++ a :: r) from if_pos ⟨h2, hl⟩]
        exact .refl _
      · have hl : l = [] := by cases l with
          | nil => rfl
          | cons x l => simp [FTs] at h3
        rw [show applyF (.mk k s n l) (a :: r) = .mk 6 [] 0 (.mk k s n l :: a :: r) from if_neg (fun e => e.2 hl)]
        exact .refl _
      · rw [show applyF (.mk k s n l) (a :: r) = .mk 6 [] 0 (.mk k s n l :: a :: r) from if_neg (fun e => by have := e.1; simp only [Tm.k, h2] at this; cases this)]
        exact .refl _

end Go.AM

set_option maxRecDepth 100000
open Go Go.Proofs
namespace Go.AM


/-! ### Through a term -/
def withF (t : Tm) (out : List Tm) : Tm :=
  if (t.k == 6) = true ∧ 1 < out.length ∧ ((out.headD default).k == 6) = true ∧ ((t.l.headD default).k != 6) = true then applyF (out.headD default) out.tail else .mk t.k t.s t.n out
mutual
def walkF (lf : Tm → Int → Tm) : Tm → Int → Tm
  | .mk k s n l, d => if (k == 5 || k == 6) = true then withF (.mk k s n l) (walkL lf l (d + if (k == 5) = true then 1 else 0)) else lf (.mk k s n l) d
def walkL (lf : Tm → Int → Tm) : List Tm → Int → List Tm
  | [], _ => []
  | t :: l, d => walkF lf t d :: walkL lf l d
end


/-! walk.term for Sh -/
/-! walk.term for Su -/
end Go.AM

set_option maxRecDepth 100000
open Go Go.Proofs
namespace Go.AM

/-! ### What walk makes: size, numbers, kinds -/
theorem applyF_sz (f : Tm) (l : List Tm) : (applyF f l).sz ≤ 1 + f.sz + Tm.szs l := by
  unfold applyF
  split
  · simp only [Tm.szs]; omega
  · split
    · have := f.sz_eq; simp only [Tm.sz, Tm.szs_append, List.length_nil]; omega
    · simp only [Tm.sz, Tm.szs, List.length_nil]; omega
theorem withF_sz (t : Tm) (o : List Tm) : (withF t o).sz ≤ 1 + Tm.szs o := by
  unfold withF
  split
  · rename_i h
    match o, h with
    | [], h => simp at h
    | x :: r, h =>
      simp only [List.headD_cons, List.tail_cons, Tm.szs] at h ⊢
      have hx : (x.k == 6) = true := h.2.2.1
      have hr : r ≠ [] := by intro e; rw [e] at h; simp at h
      unfold applyF
      split
      · exact absurd rfl hr
      · have := x.sz_eq
        by_cases hl : x.l = []
        · rw [if_neg (fun e => e.2 hl)]
          simp only [Tm.sz, Tm.szs, List.length_nil]; omega
        · rw [if_pos ⟨hx, hl⟩]
          simp only [Tm.sz, Tm.szs_append, List.length_nil]; omega
  · simp only [Tm.sz]; omega
mutual
/-- How many. -/
def nd : Tm → Nat
  | .mk _ _ _ l => 1 + nds l
def nds : List Tm → Nat
  | [] => 0
  | t :: l => nd t + nds l
end
theorem nd_eq (t : Tm) : nd t = 1 + nds t.l := by cases t; rfl
theorem nd_pos (t : Tm) : 1 ≤ nd t := by rw [nd_eq]; omega
theorem nds_append : ∀ (a b : List Tm), nds (a ++ b) = nds a + nds b
  | [], b => by simp [nds]
  | t :: a, b => by simp only [List.cons_append, nds, nds_append a b]; omega
theorem nds_mem : ∀ {l : List Tm} {t : Tm}, t ∈ l → nd t ≤ nds l
  | x :: l, t, h => by
    rcases List.mem_cons.1 h with rfl | h
    · simp only [nds]; omega
    · have := nds_mem h; simp only [nds]; omega
theorem withF_nd (t : Tm) (o : List Tm) : nd (withF t o) ≤ 1 + nds o := by
  unfold withF
  split
  · rename_i h
    match o, h with
    | [], h => simp at h
    | x :: r, h =>
      simp only [List.headD_cons, List.tail_cons, nds] at h ⊢
      have hx : (x.k == 6) = true := h.2.2.1
      have hr : r ≠ [] := by intro e; rw [e] at h; simp at h
      unfold applyF
      split
      · exact absurd rfl hr
      · have := nd_eq x
        by_cases hl : x.l = []
        · rw [if_neg (fun e => e.2 hl)]
          simp only [nd, nds]; omega
        · rw [if_pos ⟨hx, hl⟩]
          simp only [nd, nds_append]; omega
  · simp only [nd]; omega
mutual
theorem walkF_sz (lf : Tm → Int → Tm) (S : Nat) (h : ∀ u d, (lf u d).sz ≤ u.sz + S) : ∀ (t : Tm) (d : Int), (walkF lf t d).sz ≤ t.sz + nd t * S
  | .mk k s n l, d => by
    rw [walkF]
    split
    · refine Nat.le_trans (withF_sz ..) ?_
      have := walkL_sz lf S h l (d + if (k == 5) = true then 1 else 0)
      simp only [Tm.sz, Tm.s, nd, Nat.add_mul, Nat.one_mul]
      omega
    · refine Nat.le_trans (h _ _) ?_
      simp only [nd, Nat.add_mul, Nat.one_mul]; omega
theorem walkL_sz (lf : Tm → Int → Tm) (S : Nat) (h : ∀ u d, (lf u d).sz ≤ u.sz + S) : ∀ (l : List Tm) (d : Int), Tm.szs (walkL lf l d) ≤ Tm.szs l + nds l * S
  | [], _ => by simp [walkL, Tm.szs]
  | t :: l, d => by
    have := walkF_sz lf S h t d
    have := walkL_sz lf S h l d
    simp only [walkL, Tm.szs, nds, Nat.add_mul]; omega
end
mutual
theorem walkF_nd (lf : Tm → Int → Tm) (N : Nat) (hN : 1 ≤ N) (h : ∀ u d, nd (lf u d) ≤ nd u * N) : ∀ (t : Tm) (d : Int), nd (walkF lf t d) ≤ nd t * N
  | .mk k s n l, d => by
    rw [walkF]
    split
    · refine Nat.le_trans (withF_nd ..) ?_
      have := walkL_nd lf N hN h l (d + if (k == 5) = true then 1 else 0)
      simp only [nd, Nat.add_mul, Nat.one_mul]
      omega
    · exact h _ _
theorem walkL_nd (lf : Tm → Int → Tm) (N : Nat) (hN : 1 ≤ N) (h : ∀ u d, nd (lf u d) ≤ nd u * N) : ∀ (l : List Tm) (d : Int), nds (walkL lf l d) ≤ nds l * N
  | [], _ => by simp [walkL, nds]
  | t :: l, d => by
    have := walkF_nd lf N hN h t d
    have := walkL_nd lf N hN h l d
    simp only [walkL, nds, Nat.add_mul]; omega
end
theorem bds_append {M : Int} : ∀ {a b : List Tm}, bds M a → bds M b → bds M (a ++ b)
  | [], _, _, h => h
  | _ :: _, _, h, h' => ⟨h.1, bds_append h.2 h'⟩
theorem bds_of {M : Int} : ∀ {l : List Tm}, (∀ t ∈ l, bd M t) → bds M l
  | [], _ => trivial
  | t :: _, h => ⟨h t List.mem_cons_self, bds_of fun u hu => h u (List.mem_cons_of_mem _ hu)⟩
theorem bd6 {M : Int} {s : List UInt8} {n : Int} {l : List Tm} (h : bds M l) : bd M (.mk 6 s n l) := ⟨fun e => absurd e (by omega), h⟩
theorem applyF_bd {M : Int} {f : Tm} {l : List Tm} (hf : bd M f) (hl : bds M l) : bd M (applyF f l) := by
  unfold applyF
  split
  · exact hf
  · split
    · exact bd6 (bds_append (bd_l hf) hl)
    · exact bd6 ⟨hf, hl⟩
theorem withF_bd {M : Int} {t : Tm} {o : List Tm} (hk : t.k ≠ 3) (ho : bds M o) : bd M (withF t o) := by
  unfold withF
  split
  · rename_i h
    match o, h, ho with
    | [], h, _ => simp at h
    | x :: r, h, ho => exact applyF_bd ho.1 ho.2
  · exact ⟨fun e => absurd e hk, ho⟩
mutual
theorem walkF_bd (lf : Tm → Int → Tm) (M M' D : Int) (h : ∀ u d, bd M u → 0 ≤ d → d ≤ D → bd M' (lf u d)) : ∀ (t : Tm) (d : Int), bd M t → 0 ≤ d → d + t.sz ≤ D → bd M' (walkF lf t d)
  | .mk k s n l, d, hb, h0, h1 => by
    rw [walkF]
    simp only [Tm.sz] at h1
    split
    · rename_i hk
      refine withF_bd (fun e => ?_) (walkL_bd lf M M' D h l _ hb.2 (by split <;> omega) (by split <;> omega))
      have e : k = 3 := e
      rw [e] at hk; exact absurd hk (by decide)
    · exact h _ _ hb h0 (by omega)
theorem walkL_bd (lf : Tm → Int → Tm) (M M' D : Int) (h : ∀ u d, bd M u → 0 ≤ d → d ≤ D → bd M' (lf u d)) : ∀ (l : List Tm) (d : Int), bds M l → 0 ≤ d → d + Tm.szs l ≤ D → bds M' (walkL lf l d)
  | [], _, _, _, _ => trivial
  | t :: l, d, hb, h0, h1 => by
    simp only [Tm.szs] at h1
    exact ⟨walkF_bd lf M M' D h t d hb.1 h0 (by omega), walkL_bd lf M M' D h l d hb.2 h0 (by omega)⟩
end
theorem applyF_k {f : Tm} (l : List Tm) (h : (f.k == 6) = true) : (applyF f l).k = 6 := by
  unfold applyF
  split
  · simpa using h
  · split <;> rfl
theorem withF_k (t : Tm) (o : List Tm) : (withF t o).k = t.k := by
  unfold withF
  split
  · rename_i h6
    have e : t.k = 6 := by simpa using h6.1
    rw [applyF_k _ h6.2.2.1]; exact e.symm
  · rfl
theorem walkF_k (lf : Tm → Int → Tm) (h : ∀ u d, (lf u d).k = u.k) (t : Tm) (d : Int) : (walkF lf t d).k = t.k := by
  obtain ⟨k, s, n, l⟩ := t
  rw [walkF]
  split
  · exact withF_k _ _
  · exact h _ _
/-- Where leaves keep their kinds, nothing is made flat. -/
theorem walkF_keep (lf : Tm → Int → Tm) (h : ∀ u d, (lf u d).k = u.k) (k : Int) (s : List UInt8) (n : Int) (l : List Tm) (d : Int) (hk : (k == 5 || k == 6) = true) :
    walkF lf (.mk k s n l) d = .mk k s n (walkL lf l (d + if (k == 5) = true then 1 else 0)) := by
  rw [walkF, if_pos hk, withF, if_neg fun e => ?_]; rfl
  match l, e with
  | [], e => have := e.2.1; simp [walkL] at this
  | t :: l, e =>
    have e1 := e.2.2.1
    have e2 := e.2.2.2
    rw [walkL, List.headD_cons, walkF_k lf h] at e1
    have e2 : (t.k != 6) = true := e2
    rw [bne, e1] at e2; cases e2
theorem walkF_leaf (lf : Tm → Int → Tm) (k : Int) (s : List UInt8) (n : Int) (l : List Tm) (d : Int) (hk : (k == 5 || k == 6) = false) :
    walkF lf (.mk k s n l) d = lf (.mk k s n l) d := by rw [walkF, if_neg (by rw [hk]; simp)]
theorem walkL_length (lf : Tm → Int → Tm) : ∀ (l : List Tm) (d : Int), (walkL lf l d).length = l.length
  | [], _ => rfl
  | _ :: l, d => by simp only [walkL, List.length_cons, walkL_length lf l d]

/-! ### Shift -/
abbrev M61 : Int := 2305843009213693952
def shLeaf (fr by_ : Int) (u : Tm) (d : Int) : Tm := if (u.k == 3) = true ∧ d + fr ≤ u.n then .mk u.k u.s (u.n + by_) u.l else u
def shT (fr by_ : Int) (t : Tm) (d : Int) : Tm := walkF (shLeaf fr by_) t d
theorem shLeaf_k (fr by_ : Int) (u : Tm) (d : Int) : (shLeaf fr by_ u d).k = u.k := by unfold shLeaf; split <;> rfl
theorem shLeaf_sz (fr by_ : Int) (u : Tm) (d : Int) : (shLeaf fr by_ u d).sz = u.sz := by
  unfold shLeaf; split
  · cases u; rfl
  · rfl
theorem shT_sz (fr by_ : Int) (t : Tm) (d : Int) : (shT fr by_ t d).sz ≤ t.sz := by
  have := walkF_sz (shLeaf fr by_) 0 (fun u d => by rw [shLeaf_sz]; omega) t d
  rw [Nat.mul_zero] at this; exact this
theorem shLeaf_nd (fr by_ : Int) (u : Tm) (d : Int) : nd (shLeaf fr by_ u d) = nd u := by
  unfold shLeaf; split
  · cases u; rfl
  · rfl
theorem shT_nd (fr by_ : Int) (t : Tm) (d : Int) : nd (shT fr by_ t d) ≤ nd t := by
  have := walkF_nd (shLeaf fr by_) 1 (Nat.le_refl _) (fun u d => by rw [shLeaf_nd]; omega) t d
  rw [Nat.mul_one] at this; exact this
theorem bd_le {M M' : Int} (h : M ≤ M') : ∀ t : Tm, bd M t → bd M' t := by
  refine Tm.ind fun t ih hb => ?_
  obtain ⟨k, s, n, l⟩ := t
  exact ⟨fun e => by have := hb.1 e; omega, bds_of fun u hu => ih u hu (bds_mem hb.2 hu)⟩
theorem shLeaf_bd {fr by_ M : Int} (h0 : 0 ≤ by_) (u : Tm) (d : Int) (hb : bd M u) : bd (M + by_) (shLeaf fr by_ u d) := by
  unfold shLeaf
  split
  · obtain ⟨k, s, n, l⟩ := u
    exact ⟨fun e => by have := hb.1 e; simp only [Tm.n]; omega, bds_of fun u hu => bd_le (by omega) u (bds_mem hb.2 hu)⟩
  · exact bd_le (by omega) u hb
theorem shT_bd {fr by_ M : Int} (h0 : 0 ≤ by_) (t : Tm) (d : Int) (hb : bd M t) (hd : 0 ≤ d) : bd (M + by_) (shT fr by_ t d) :=
  walkF_bd (shLeaf fr by_) M (M + by_) (d + t.sz) (fun u d' hu _ _ => shLeaf_bd h0 u d' hu) t d hb hd (Int.le_refl _)
/-! ### Subst -/
def suLeaf (i : Int) (s : Tm) (u : Tm) (d : Int) : Tm :=
  if (u.k == 3) = true then (if u.n < d + i then u else if (u.n == d + i) = true then shT 0 d s 0 else .mk u.k u.s (u.n - 1) u.l) else u
def suT (i : Int) (s t : Tm) (d : Int) : Tm := walkF (suLeaf i s) t d
theorem suLeaf_sz (i : Int) (s u : Tm) (d : Int) : (suLeaf i s u d).sz ≤ u.sz + s.sz := by
  have h3 := shT_sz 0 d s 0
  unfold suLeaf
  split
  · split
    · omega
    · split
      · omega
      · cases u; simp only [Tm.sz, Tm.s, Tm.l]; omega
  · omega
theorem suT_sz (i : Int) (s t : Tm) (d : Int) : (suT i s t d).sz ≤ t.sz + nd t * s.sz := walkF_sz _ _ (suLeaf_sz i s) t d
theorem suLeaf_nd (i : Int) (s u : Tm) (d : Int) : nd (suLeaf i s u d) ≤ nd u * nd s := by
  have h1 : nd u ≤ nd u * nd s := Nat.le_mul_of_pos_right _ (nd_pos s)
  have h2 : nd s ≤ nd u * nd s := Nat.le_mul_of_pos_left _ (nd_pos u)
  have h3 := shT_nd 0 d s 0
  unfold suLeaf
  split
  · split
    · exact h1
    · split
      · omega
      · cases u; exact h1
  · exact h1
theorem suT_nd (i : Int) (s t : Tm) (d : Int) : nd (suT i s t d) ≤ nd t * nd s := walkF_nd _ _ (nd_pos s) (suLeaf_nd i s) t d
theorem suT_bd {i M M' D : Int} (s t : Tm) (d : Int) (hb : bd M t) (hs : bd M' s) (hM : M' + D ≤ M) (hd : 0 ≤ d) (hD : d + t.sz ≤ D) (hi : 0 ≤ i) (hM' : 0 ≤ M): bd M (suT i s t d) := by
  refine walkF_bd (suLeaf i s) M M D (fun u d' hu h0 h1 => ?_) t d hb hd hD
  unfold suLeaf
  split
  · split
    · exact hu
    · split
      · exact bd_le (by omega) _ (shT_bd h0 s 0 hs (Int.le_refl _))
      · rename_i h2 h3
        obtain ⟨k, s', n, l⟩ := u
        have h3' : n ≠ d' + i := fun e => h3 (by rw [show Tm.n (.mk k s' n l) = n from rfl, e]; simp)
        have h2' : ¬ n < d' + i := h2
        exact ⟨fun e => by have := hu.1 e; simp only [Tm.n]; omega, hu.2⟩
  · exact hu
end Go.AM

set_option maxRecDepth 100000
open Go Go.Proofs
namespace Go.AM

/-! ### Below abstractions -/
def lamsF : Nat → Tm → Tm
  | 0, t => t
  | n + 1, t => lamsF n (.mk 5 [] 0 [t])
theorem l_lamsb (N : Int) (hN : N ≤ 4294967296) : ∀ (m : Nat) (i k : Int) (s : List UInt8) (n : Int) (rows : List (List FV)) (l : List Tm), 0 ≤ i → i + m = N → FV.Le (.sl false 4 rows) (.sl false 4 (FTs l)) →
    RPt Try.prog 51 0 (aT (lamsF m (.mk k s n l))) [] 1 ⟨[(3, .c (.a (.ep 0 4 0 0))), (4, .c (.a (.ep 1 4 0 0))), (6, ci N), (7, ci i)], [(0, .arr 4 [[.a (.fz (.int .i64 k)), .a (.fz (.str s)), .a (.fz (.int .i64 n)), .a (.fz (.sl false 4 rows))]]), (1, .arr 4 [[.a (.fz (.int .i64 0)), .a (.fz (.str [])), .a (.fz (.int .i64 0)), .a (.fz .nils)]])], 2⟩
  | 0, i, k, s, n, rows, l, h0, hi, hle => by
    refine RPt.vc hP sh lv51 (Eq.mpr (v51_1a ..) ?_)
    refine br_of (fun h => absurd (of_decide_eq_true h) (by omega)) (fun _ => ⟨leT hle, rfl⟩)
  | m + 1, i, k, s, n, rows, l, h0, hi, hle => by
    refine RPt.vc hP sh lv51 (Eq.mpr (v51_1a ..) ?_)
    have h2 := l_lamsb N hN m (i + 1) 5 [] 0 [[.int .i64 k, .str s, .int .i64 n, .sl false 4 rows]] [.mk k s n l] (by omega) (by omega) (leRows rfl fun j r t hr ht => by
      match j, hr, ht with
      | 0, hr, ht =>
        simp only [List.getElem?_cons_zero, Option.some.injEq] at hr ht
        subst hr; subst ht
        exact leFT hle
      | j + 1, hr, _ => simp at hr)
    rw [w64 (x := i + 1) (by omega) (by omega)]
    refine br_of (fun _ => ⟨⟨rfl, by omega⟩, ?_⟩) (fun h => absurd (of_decide_eq_false h) (by omega))
    exact h2
theorem foldMax0 {n : Int} (h : 0 ≤ n) : foldMax [n, 0] = n := by
  rw [foldMax2]; unfold maxI; split <;> omega
theorem c_lams (m : Nat) (t : Tm) (hm : m ≤ 4294967296) : AC Try.prog 51 [ci m, aT t] [] (aT (lamsF m t)) [] := by
  obtain ⟨k, s, n, l⟩ := t
  refine AC.vc hP sh lv51 (Nat.le_refl _) (by simp) (by simp) (Eq.mpr (v51 m k s n (FTs l) _ _) ?_)
  rw [foldMax0 (by omega)]
  refine RPt.vc hP sh lv51 (Eq.mpr (v51_1a ..) ?_)
  match m, hm with
  | 0, _ => exact br_of (fun h => absurd (of_decide_eq_true h) (by omega)) (fun _ => ⟨.refl _, rfl⟩)
  | m + 1, hm =>
    refine br_of (fun _ => ⟨⟨rfl, by omega⟩, ?_⟩) (fun h => absurd (of_decide_eq_false h) (by omega))
    exact l_lamsb ((m + 1 : Nat) : Int) (by omega) m 1 5 [] 0 [[.int .i64 k, .str s, .int .i64 n, .sl false 4 (FTs l)]] [.mk k s n l] (by omega) (by omega) (leRows rfl fun j r t hr ht => by
      match j, hr, ht with
      | 0, hr, ht =>
        simp only [List.getElem?_cons_zero, Option.some.injEq] at hr ht
        subst hr; subst ht
        exact leFT (.refl _)
      | j + 1, hr, _ => simp at hr)

/-! ### What may be -/
mutual
def validB : Tm → Bool
  | .mk k s n l =>
    if (k == 0) = true then (isName s || isSym s) && n == 0 && (((FTs l).length : Nat) : Int) == 0
    else if (k == 1) = true then decide (n ≥ 1) && s == [] && (((FTs l).length : Nat) : Int) == 0 && validL l
    else if (k == 2) = true then s == [] && (((FTs l).length : Nat) : Int) == 0 && validL l
    else if (k == 3) = true then decide (n ≥ 0) && decide (n ≤ 4611686018427387904) && s == [] && (((FTs l).length : Nat) : Int) == 0 && validL l
    else if (k == 4) = true then decide (n ≥ 0) && decide (n ≤ 4611686018427387904) && s == [] && (((FTs l).length : Nat) : Int) == 0 && validL l
    else if (k == 5) = true then n == 0 && s == [] && (((FTs l).length : Nat) : Int) == 1 && validL l
    else if (k == 6) = true then n == 0 && decide ((((FTs l).length : Nat) : Int) ≥ 2) && ((l.headD default).k != 6) && s == [] && validL l
    else false
def validL : List Tm → Bool
  | [] => true
  | t :: l => validB t && validL l
end
def badAt : List Tm → Int → Int
  | [], _ => -1
  | t :: l, i => if validB t = true then badAt l (i + 1) else i
theorem badAt_ge : ∀ (l : List Tm) (i : Int), 0 ≤ i → decide (badAt l i ≥ 0) = !validL l
  | [], _, _ => rfl
  | t :: l, i, h => by
    rw [badAt, validL]
    split
    · rename_i e; rw [badAt_ge l (i + 1) (by omega), e, Bool.true_and]
    · rename_i e; rw [show validB t = false by simpa using e]; simp; omega
theorem l_index : ∀ (b a : List Tm), (∀ u ∈ b, AC Try.prog 40 [aT u] [] (cb (!validB u)) []) → (a ++ b).length ≤ B →
    RPt Try.prog 66 0 (ci (badAt b a.length)) [] 1 ⟨[(0, aL (a ++ b)), (1, .c (.fn (.func 40) [] [])), (7, ci (((FTs (a ++ b)).length : Nat) : Int)), (8, ci a.length)], [], 0⟩
  | [], a, _, _ => by
    refine RPt.vc hP sh lv66 (Eq.mpr (v66_F40_1a ..) ?_)
    exact br_of (fun h => absurd (of_decide_eq_true h) (geI' a)) (fun _ => ret_i rfl)
  | t :: b, a, ih, hl => by
    refine RPt.vc hP sh lv66 (Eq.mpr (v66_F40_1a ..) ?_)
    have hl' := hl
    simp only [List.length_append, List.length_cons, B] at hl'
    have h1 := ih t List.mem_cons_self
    have h2 := l_index b (a ++ [t]) (fun u hu => ih u (List.mem_cons_of_mem _ hu)) (by rw [ap]; exact hl)
    have h3 := ltI' a t b
    rw [ap, nx] at h2
    rw [midI, w64 (x := (a.length : Int) + 1) (by omega) (by omega)]
    refine br_of (fun _ => ?_) (fun h => absurd h3 (of_decide_eq_false h))
    obtain ⟨k', s', n', l'⟩ := t
    refine ⟨⟨rfl, by omega, h3, rfl⟩, _, h1, br_of (fun h => ?_) (fun h => ?_)⟩
    · rw [badAt, if_neg (by simpa using h)]; exact ret_i rfl
    · rw [badAt, if_pos (by simpa using h)]; exact h2
theorem c_contf (l : List Tm) (hl : l.length ≤ B) (ih : ∀ u ∈ l, AC Try.prog 25 [aT u] [] (cb (validB u)) []) : AC Try.prog 39 [aL l, .c (.fn (.func 40) [] [])] [] (cb (!validL l)) [] := by
  have h1 : ∀ u ∈ l, AC Try.prog 40 [aT u] [] (cb (!validB u)) [] := fun u hu => by
    have h := ih u hu
    obtain ⟨k, s, n, l⟩ := u
    refine AC.vc hP sh lv40 (Nat.le_refl _) (by simp) (by simp) (Eq.mpr (v40 k s n (FTs l) _ _) ?_)
    exact ⟨_, h, ret_b rfl⟩
  have h2 : AC Try.prog 66 [aL l, .c (.fn (.func 40) [] [])] [] (ci (badAt l 0)) [] := by
    refine AC.vc hP sh lv66 (Nat.le_refl _) (by simp) (by simp) (Eq.mpr (v66_F40 ..) ?_)
    exact ⟨rfl, l_index l [] h1 hl⟩
  refine AC.vc hP sh lv39 (Nat.le_refl _) (by simp) (by simp) (Eq.mpr (v39_F40 ..) ?_)
  exact ⟨_, h2, ret_b (badAt_ge l 0 (Int.le_refl _))⟩
theorem head0 : ∀ {l : List Tm}, 2 ≤ (((FTs l).length : Nat) : Int) → List.getD (FTs l) 0 [] = FT (l.headD default)
  | [], h => by simp [FTs] at h
  | t :: l, _ => rfl
theorem c_valid : ∀ t : Tm, t.sz ≤ B → AC Try.prog 25 [aT t] [] (cb (validB t)) [] := by
  refine Tm.ind fun t ih hs => ?_
  have hlen := Tm.szs_length t.l
  obtain ⟨k, s, n, l⟩ := t
  simp only [Tm.sz, Tm.l] at hs hlen
  have hc := c_contf l (by omega) fun u hu => ih u hu (by have := Tm.szs_mem hu; omega)
  refine AC.vc hP sh lv25 (Nat.le_refl _) (by simp) (by simp) (Eq.mpr (v25 k s n (FTs l) _ _) ?_)
  refine br_of (fun h0 => ⟨_, c_isname s, br_of (fun h1 => br_of (fun h2 => ⟨rfl, ret_b ?_⟩) (fun h2 => ret_b ?_)) (fun h1 => ⟨_, c_issym s, br_of (fun h1' => br_of (fun h2 => ⟨rfl, ret_b ?_⟩) (fun h2 => ret_b ?_)) (fun h1' => ret_b ?_)⟩)⟩)
    (fun h0 => br_of (fun h1 => br_of (fun h2 => br_of (fun h3 => ⟨rfl, br_of (fun h4 => ⟨_, hc, ret_b ?_⟩) (fun h4 => ret_b ?_)⟩) (fun h3 => ret_b ?_)) (fun h2 => ret_b ?_))
    (fun h1 => br_of (fun h2 => br_of (fun h3 => ⟨rfl, br_of (fun h4 => ⟨_, hc, ret_b ?_⟩) (fun h4 => ret_b ?_)⟩) (fun h3 => ret_b ?_))
    (fun h2 => br_of (fun h3 => br_of (fun h4 => br_of (fun h5 => br_of (fun h6 => ⟨rfl, br_of (fun h7 => ⟨_, hc, ret_b ?_⟩) (fun h7 => ret_b ?_)⟩) (fun h6 => ret_b ?_)) (fun h5 => ret_b ?_)) (fun h4 => ret_b ?_))
    (fun h3 => br_of (fun h3' => br_of (fun h4 => br_of (fun h5 => br_of (fun h6 => ⟨rfl, br_of (fun h7 => ⟨_, hc, ret_b ?_⟩) (fun h7 => ret_b ?_)⟩) (fun h6 => ret_b ?_)) (fun h5 => ret_b ?_)) (fun h4 => ret_b ?_))
    (fun h3' => br_of (fun h5 => br_of (fun h6 => br_of (fun h7 => ⟨rfl, br_of (fun h8 => ⟨_, hc, ret_b ?_⟩) (fun h8 => ret_b ?_)⟩) (fun h7 => ret_b ?_)) (fun h6 => ret_b ?_))
    (fun h5 => br_of (fun h6 => br_of (fun h7 => ⟨rfl, br_of (fun h8 => ?app) (fun h8 => ⟨rfl, ret_b ?_⟩)⟩) (fun h7 => ⟨rfl, ret_b ?_⟩)) (fun h6 => ret_b ?_)))))))
  case app =>
    have h8' := of_decide_eq_true h8
    rw [head0 h8', FT_eta]
    refine ⟨⟨rfl, by omega, by omega, rfl⟩, rfl, br_of (fun h9 => br_of (fun h10 => ⟨rfl, br_of (fun h11 => ⟨_, hc, ret_b ?_⟩) (fun h11 => ret_b ?_)⟩) (fun h10 => ret_b ?_)) (fun h9 => ret_b ?_)⟩
    all_goals (have h9' : ((l.headD default).k != 6) = _ := h9; simp_all [validB])
  all_goals first
    | (simp_all [validB]; done)
    | (simp_all [validB]; intros; omega)

end Go.AM

set_option maxRecDepth 100000
open Go Go.Proofs
namespace Go.AM

/-! ### The document's example -/
abbrev wT (k : Int) (s : List UInt8) (n : Int) : Tm := .mk k s n []
/-- A constant's cell. -/
def encS (s : Hp) (nm : List UInt8) : (Int × Int) × Hp := putS (symS s nm).2 ⟨0, (symS s nm).1, 0, 0, 0⟩
theorem symS_C (s : Hp) (nm : List UInt8) : (symS s nm).2.C = s.C := by unfold symS; split <;> rfl
theorem c_henc (s : Hp) (nm : List UInt8) (n : Int) (f v : List (List FV)) (hB : s.C.length ≤ 1073741824) (hN : s.N.length ≤ 1073741824) :
    AC Try.prog 30 [aH 0, .agg [.a (.fz (.int .i64 0)), .a (.fz (.str nm)), .a (.fz (.int .i64 n)), .a (.fz (.sl false 4 f))], .c (.a (.fz (.sl false 1 v)))] (oH s) (t2 (encS s nm).1) (oH' (encS s nm).2) := by
  refine AC.vc hP sh lv30 (by simp) (by simp [isLive]) (by simp [isLive]) (Eq.mpr (v30 ..) ?_)
  refine br_of (fun _ => ⟨symS s nm, c_hsym s nm hN, putS (symS s nm).2 ⟨0, (symS s nm).1, 0, 0, 0⟩, c_hput _ _ (by rw [symS_C]; exact hB), .refl _, rfl⟩) (fun h => by cases h)
theorem c_hEnc (s : Hp) (nm : List UInt8) (v : List (List FV)) (hv : validB (wT 0 nm 0) = true) (hz : (wT 0 nm 0).sz ≤ B) (hB : s.C.length ≤ 1073741824) (hN : s.N.length ≤ 1073741824) (he : (encS s nm).1.2 = 0) :
    AC Try.prog 12 [aH 0, aT (wT 0 nm 0), .c (.a (.fz (.sl false 1 v)))] (oH s) (t2 (encS s nm).1) (oH' (encS s nm).2) := by
  have h1 := c_valid (wT 0 nm 0) hz
  rw [hv] at h1
  refine AC.vc hP sh lv12 (by simp) (by simp [isLive]) (by simp [isLive]) (Eq.mpr (v12 0 nm 0 (FTs []) ..) ?_)
  refine ⟨_, h1, br_of (fun h => by cases h) (fun _ => ⟨encS s nm, c_henc s nm 0 _ v hB hN, br_of (fun h => absurd he (by simpa using h)) (fun _ => ?_)⟩)⟩
  rw [show (encS s nm).1 = ((encS s nm).1.1, 0) by rw [← he]]
  exact ⟨.refl _, rfl⟩
abbrev aD : TV := .c (.a (.ep 0 3 0 0))
abbrev hs1 (s : Hp) : List AObj := [hp6 2 3 4 5 s, .arz 5 (CR s.C), .arz 7 (TR s.T), .arz 1 (NR s.N), .mapz (NM s.N 0)]
abbrev de3 (a : Nat) (f e : Int) : AObj := .arr 3 [[.a (.ep a 6 0 0), .a (.fz (.int .i64 f)), .a (.fz (.int .i64 e))]]
abbrev oD (s : Hp) (f e : Int) : List AObj := [de3 1 f e, hp6 2 3 4 5 s, .arz 5 (CR s.C), .arz 7 (TR s.T), .arz 1 (NR s.N), .mapz (NM s.N 0)]
/-- A cell that is there, and of its kind, with fuel. -/
theorem c_dlook (s : Hp) (x : Int) (b : Bool) (f : Int) (h1 : inC s.C x = true) (h2 : rowB (cellOf s.C x) = b) (hf : 0 < f) (hf2 : f ≤ 1000000) :
    AC Try.prog 50 [aD, ci x, cb b] (oD s f 0) (aCe (cellOf s.C x)) (oD s (f - 1) 0) := by
  have hc := c_hcell s x
  rw [h1] at hc
  refine AC.vc hP sh lv50 (by simp) (by simp [isLive]) (by simp [isLive]) (Eq.mpr (v50 ..) ?_)
  refine ⟨_, _, _, _, _, _, hc, br_of (fun h => by cases h) (fun _ => ⟨_, c_hrow (cellOf s.C x), br_of (fun h => ?_) (fun _ => br_of (fun h => ?_) (fun _ => br_of (fun h => by cases h) (fun _ => ?_)))⟩)⟩
  · rw [h2] at h; simp at h
  · have := of_decide_eq_true h; omega
  · rw [w64 (by omega) (by omega)]; exact ⟨.refl _, rfl⟩
theorem c_dtermB (s : Hp) (x f : Int) (h1 : inC s.C x = true) (h2 : (cellOf s.C x).t = 3) (hf : 0 < f) (hf2 : f ≤ 1000000) :
    AC Try.prog 31 [aD, ci x] (oD s f 0) (aT (wT 3 [] (cellOf s.C x).a)) (oD s (f - 1) 0) := by
  have hl := c_dlook s x false f h1 (by simp [rowB, h2]) hf hf2
  have e : cellOf s.C x = ⟨3, (cellOf s.C x).a, (cellOf s.C x).b, (cellOf s.C x).c, (cellOf s.C x).d⟩ := by rw [← h2]
  refine AC.vc hP sh lv31 (by simp) (by simp [isLive]) (by simp [isLive]) (Eq.mpr (v31 ..) ?_)
  refine ⟨((cellOf s.C x).t, (cellOf s.C x).a, (cellOf s.C x).b, (cellOf s.C x).c, (cellOf s.C x).d, f - 1, 0), hl, br_of (fun h => by cases h) (fun _ => br_eq (fun q => by simp only [h2] at q; omega) (fun _ => br_eq (fun q => by simp only [h2] at q; omega) (fun _ => br_eq (fun q => by simp only [h2] at q; omega) (fun _ => br_eq (fun _ => ?_) (fun q => absurd h2 q)))))⟩
  exact ⟨leT (l := []) leNil, rfl⟩
theorem c_dtermC (s : Hp) (x f : Int) (h1 : inC s.C x = true) (h2 : (cellOf s.C x).t = 0) (hf : 0 < f) (hf2 : f ≤ 1000000) :
    AC Try.prog 31 [aD, ci x] (oD s f 0) (aT (wT 0 (nameOf s.N (cellOf s.C x).a) 0)) (oD s (f - 1) 0) := by
  have hl := c_dlook s x false f h1 (by simp [rowB, h2]) hf hf2
  refine AC.vc hP sh lv31 (by simp) (by simp [isLive]) (by simp [isLive]) (Eq.mpr (v31 ..) ?_)
  refine ⟨((cellOf s.C x).t, (cellOf s.C x).a, (cellOf s.C x).b, (cellOf s.C x).c, (cellOf s.C x).d, f - 1, 0), hl, br_of (fun h => by cases h) (fun _ => br_eq (fun _ => ⟨_, c_hname s _, ?_⟩) (fun q => absurd h2 q))⟩
  exact ⟨leT (l := []) leNil, rfl⟩
/-- The example's cells. -/
abbrev hpW : Hp := ⟨[⟨3, 0, 0, 0, 0⟩, ⟨0, 0, 0, 0, 0⟩, ⟨9, 0, 0, 0, 0⟩, ⟨11, 2, 1, 0, 0⟩, ⟨8, 0, 3, 1, 0⟩], [], 20, 20, [[97]]⟩
theorem c_dentryW : AC Try.prog 73 [aD, aCe ⟨8, 0, 3, 1, 0⟩, ci 0] (oD hpW 18 0) (tCe ⟨11, 2, 1, 0, 0⟩ true) (oD hpW 17 0) := by
  have hl := c_dlook hpW 3 true 18 (by decide) (by decide) (by omega) (by omega)
  refine AC.vc hP sh lv73 (by simp) (by simp [isLive]) (by simp [isLive]) (Eq.mpr (v73 ..) ?_)
  refine br_of (fun h => by cases h) (fun _ => RPt.vc hP sh lv73 (Eq.mpr (v73_1a ..) ?_))
  refine br_of (fun _ => br_of (fun _ => ⟨(11, 2, 1, 0, 0, 17, 0), hl, br_of (fun h => by cases h) (fun _ => br_of (fun h => by cases h) (fun _ => RPt.vc hP sh lv73 (Eq.mpr (v73_1a ..) ?_)))⟩) (fun h => by cases h)) (fun h => by cases h)
  exact br_of (fun h => by cases h) (fun _ => ⟨.refl _, rfl⟩)
abbrev fnS : TV := .c (.fn (.func 82) [] [(false, [.ep 6 1 0 0]), (false, [.ep 7 1 0 0])])
abbrev fnL : TV := .c (.fn (.func 54) [] [(false, [.ep 6 1 0 0]), (false, [.ep 7 5 0 0])])
theorem c_dshiftC (s : Hp) (nm : List UInt8) (n f e : Int) : AC Try.prog 75 [aD, aT (wT 0 nm 0), ci n] (oD s f e) (aT (wT 0 nm 0)) (oD s f e) := by
  have hp : AC Try.prog 53 [aD, .agg [.a (.fz (.int .i64 0)), .a (.fz (.str nm)), .a (.fz (.int .i64 0)), .a (.fz (.sl false 4 (FTs [])))], ci 0, fnS] (oD s f e ++ [.arr 1 [[.a (.ep 0 3 0 0)]], .arr 1 [[.a (.fz (.int .i64 n))]]]) (aT (wT 0 nm 0)) (oD s f e ++ [.arr 1 [[.a (.ep 0 3 0 0)]], .arr 1 [[.a (.fz (.int .i64 n))]]]) := by
    refine AC.vc hP sh lv53 (by simp) (by simp [isLive]) (by simp [isLive]) (Eq.mpr (v53_F82 ..) ?_)
    exact br_of (fun h => by cases h) (fun _ => br_of (fun h => by cases h) (fun _ => br_of (fun h => by cases h) (fun _ => ⟨.refl _, rfl⟩)))
  refine AC.vc hP sh lv75 (by simp) (by simp [isLive]) (by simp [isLive]) (Eq.mpr (v75 0 nm 0 (FTs []) ..) ?_)
  exact ⟨(wT 0 nm 0, f, e), hp, .refl _, rfl⟩
theorem c_dlooseW : AC Try.prog 55 [aD, aCe ⟨8, 0, 3, 1, 0⟩, ci 0, ci 0] (oD hpW 18 0) (aT (wT 0 [97] 0)) (oD hpW 16 0) := by
  have ht := c_dtermC hpW 1 17 (by decide) (by decide) (by omega) (by omega)
  refine AC.vc hP sh lv55 (by simp) (by simp [isLive]) (by simp [isLive]) (Eq.mpr (v55 ..) ?_)
  refine ⟨(11, 2, 1, 0, 0, true, 17, 0), c_dentryW, br_of (fun h => by cases h) (fun _ => br_of (fun h => by cases h) (fun _ => ⟨(wT 0 [97] 0, 16, 0), ht, (wT 0 [97] 0, 16, 0), c_dshiftC hpW [97] _ 16 0, .refl _, rfl⟩))⟩
theorem c_dtermfW : AC Try.prog 54 [ci 0, ci 0, .c (.a (.ep 0 1 0 0)), .c (.a (.ep 7 5 0 0))] (.arr 1 [[.a (.ep 1 3 0 0)]] :: de3 2 18 0 :: hp6 3 4 5 6 hpW :: [.arz 5 (CR hpW.C), .arz 7 (TR hpW.T), .arz 1 (NR hpW.N), .mapz (NM hpW.N 0), .arr 5 [[.a (.fz (.int .i64 8)), .a (.fz (.int .i64 0)), .a (.fz (.int .i64 3)), .a (.fz (.int .i64 1)), .a (.fz (.int .i64 0))]]])
    (aT (wT 0 [97] 0)) (.arr 1 [[.a (.ep 1 3 0 0)]] :: de3 2 16 0 :: hp6 3 4 5 6 hpW :: [.arz 5 (CR hpW.C), .arz 7 (TR hpW.T), .arz 1 (NR hpW.N), .mapz (NM hpW.N 0), .arr 5 [[.a (.fz (.int .i64 8)), .a (.fz (.int .i64 0)), .a (.fz (.int .i64 3)), .a (.fz (.int .i64 1)), .a (.fz (.int .i64 0))]]]) := by
  refine AC.vc hP sh lv54 (by simp) (by simp [isLive]) (by simp [isLive]) (Eq.mpr (v54 ..) ?_)
  exact ⟨(wT 0 [97] 0, 16, 0), c_dlooseW, .refl _, rfl⟩
theorem c_dpartsW : AC Try.prog 53 [aD, .agg [.a (.fz (.int .i64 3)), .a (.fz (.str [])), .a (.fz (.int .i64 0)), .a (.fz (.sl false 4 (FTs [])))], ci 0, fnL] (oD hpW 18 0 ++ [.arr 1 [[.a (.ep 0 3 0 0)]], .arr 5 [[.a (.fz (.int .i64 8)), .a (.fz (.int .i64 0)), .a (.fz (.int .i64 3)), .a (.fz (.int .i64 1)), .a (.fz (.int .i64 0))]]])
    (aT (wT 0 [97] 0)) (oD hpW 16 0 ++ [.arr 1 [[.a (.ep 0 3 0 0)]], .arr 5 [[.a (.fz (.int .i64 8)), .a (.fz (.int .i64 0)), .a (.fz (.int .i64 3)), .a (.fz (.int .i64 1)), .a (.fz (.int .i64 0))]]]) := by
  refine AC.vc hP sh lv53 (by simp) (by simp [isLive]) (by simp [isLive]) (Eq.mpr (v53_F54 ..) ?_)
  exact br_of (fun _ => br_of (fun _ => ⟨(wT 0 [97] 0, 16, 0), c_dtermfW, .refl _, rfl⟩) (fun h => by cases h)) (fun h => by cases h)
theorem c_dtermW : AC Try.prog 31 [aD, ci 4] (oD hpW 20 0) (aT (wT 0 [97] 0)) (oD hpW 16 0) := by
  have hl := c_dlook hpW 4 false 20 (by decide) (by decide) (by omega) (by omega)
  have ht := c_dtermB hpW 0 19 (by decide) (by decide) (by omega) (by omega)
  refine AC.vc hP sh lv31 (by simp) (by simp [isLive]) (by simp [isLive]) (Eq.mpr (v31 ..) ?_)
  refine ⟨(8, 0, 3, 1, 0, 19, 0), hl, br_of (fun h => by cases h) (fun _ => br_of (fun h => by cases h) (fun _ => br_of (fun h => by cases h) (fun _ => br_of (fun h => by cases h) (fun _ => br_of (fun h => by cases h) (fun _ => br_of (fun h => by cases h) (fun _ => br_of (fun h => by cases h) (fun _ => br_of (fun h => by cases h) (fun _ => br_of (fun h => by cases h) (fun _ => ?_)))))))))⟩
  exact ⟨(wT 3 [] 0, 18, 0), ht, (wT 0 [97] 0, 16, 0), c_dpartsW, .refl _, rfl⟩
theorem c_hDecW : AC Try.prog 13 [aH 0, ci 4, ci 20] (oH hpW) (.tup [(true, cT (wT 0 [97] 0)), (false, [.a (.fz (.int .i64 16))]), (false, [.a (.fz (.int .i64 0))])]) (oH hpW) := by
  refine AC.vc hP sh lv13 (by simp) (by simp [isLive]) (by simp [isLive]) (Eq.mpr (v13 ..) ?_)
  exact ⟨(wT 0 [97] 0, 16, 0), c_dtermW, br_of (fun h => by cases h) (fun _ => ⟨.refl _, rfl⟩)⟩
abbrev hp0 : Hp := ⟨[], [], 20, 20, []⟩
abbrev hp1 : Hp := ⟨[⟨3, 0, 0, 0, 0⟩], [], 20, 20, []⟩
abbrev hp2 : Hp := ⟨[⟨3, 0, 0, 0, 0⟩, ⟨0, 0, 0, 0, 0⟩], [], 20, 20, [[97]]⟩
abbrev hp3 : Hp := ⟨[⟨3, 0, 0, 0, 0⟩, ⟨0, 0, 0, 0, 0⟩, ⟨9, 0, 0, 0, 0⟩], [], 20, 20, [[97]]⟩
abbrev hp4 : Hp := ⟨[⟨3, 0, 0, 0, 0⟩, ⟨0, 0, 0, 0, 0⟩, ⟨9, 0, 0, 0, 0⟩, ⟨11, 2, 1, 0, 0⟩], [], 20, 20, [[97]]⟩
theorem c_works20 : AC Try.prog 7 [] [] (cb true) [] := by
  have n0 := c_hnew 20 20
  have p1 := c_hput hp0 ⟨3, 0, 0, 0, 0⟩ (by simp)
  have e1 : putS hp0 ⟨3, 0, 0, 0, 0⟩ = ((0, 0), hp1) := rfl
  rw [e1] at p1
  have e2 : encS hp1 [97] = ((1, 0), hp2) := rfl
  have p2 := c_hEnc hp1 [97] [] (by decide) (by simp only [B]; decide) (by simp) (by simp) (by rw [e2])
  rw [e2] at p2
  have p3 := c_hput hp2 ⟨9, 0, 0, 0, 0⟩ (by simp)
  have e3 : putS hp2 ⟨9, 0, 0, 0, 0⟩ = ((2, 0), hp3) := rfl
  rw [e3] at p3
  have p4 := c_hput hp3 ⟨11, 2, 1, 0, 0⟩ (by simp)
  have e4 : putS hp3 ⟨11, 2, 1, 0, 0⟩ = ((3, 0), hp4) := rfl
  rw [e4] at p4
  have p5 := c_hput hp4 ⟨8, 0, 3, 1, 0⟩ (by simp)
  have e5 : putS hp4 ⟨8, 0, 3, 1, 0⟩ = ((4, 0), hpW) := rfl
  rw [e5] at p5
  have sm := c_rsame (wT 0 [97] 0) (by simp only [B]; decide) (wT 0 [97] 0)
  refine AC.vc hP sh lv7 (Nat.le_refl _) (by simp) (by simp) (Eq.mpr (v7 ..) ?_)
  refine ⟨hp0, n0, ((0, 0), hp1), p1, ((1, 0), hp2), p2.args ⟨.refl _, leT (l := []) leNil, .c _ _ (.a _ _ (.fz _ _ (.nils 1))), trivial⟩, ((2, 0), hp3), p3, ((3, 0), hp4), p4, ((4, 0), hpW), p5, (wT 0 [97] 0, 16, 0), c_hDecW, _, sm.args ⟨.refl _, leT (l := []) leNil, trivial⟩, ?_⟩
  exact br_of (fun _ => br_of (fun _ => br_of (fun _ => br_of (fun _ => br_of (fun _ => br_of (fun _ => br_of (fun _ => br_of (fun _ => ⟨_, c_hlen hpW, ret_b rfl⟩) (fun h => by cases h)) (fun h => by cases h)) (fun h => absurd h (by decide))) (fun h => by cases h)) (fun h => by cases h)) (fun h => by cases h)) (fun h => by cases h)) (fun h => by cases h)

end Go.AM

set_option maxRecDepth 100000
open Go Go.Proofs
namespace Go.AM

/-! ### Names are numbered as they come -/
theorem numOf_none {nm : List UInt8} : ∀ {l : List (List UInt8)} {i : Nat}, numOf nm l i = none → nm ∉ l
  | [], _, _, h => by cases h
  | s :: l, i, h, hm => by
    rw [numOf] at h
    by_cases q : (((nm : List UInt8) == s) && true) = true
    · rw [if_pos q] at h; cases h
    · rw [if_neg q] at h
      rcases List.mem_cons.1 hm with rfl | hm
      · exact q (by simp)
      · exact numOf_none h hm
abbrev hsN (s : Hp) : List (Nat × AObj) := [(0, hp6 1 2 3 4 s), (1, .arz 5 (CR s.C)), (2, .arz 7 (TR s.T)), (3, .arz 1 (NR s.N)), (4, .mapz (NM s.N 0))]
abbrev stN (l : List (List UInt8)) (s : Hp) (top i : Int) : St := ⟨[(0, .c (.a (.fz (.sl false 1 (NR l))))), (3, cb true), (4, aH 0), (5, ci top), (6, ci i)], hsN s, 5⟩
abbrev stK (l : List (List UInt8)) (s : Hp) (top i k : Int) : St := ⟨[(0, .c (.a (.fz (.sl false 1 (NR l))))), (3, cb true), (4, aH 0), (5, ci top), (6, ci i), (8, ci k)], hsN s, 5⟩
theorem l_inner (l : List (List UInt8)) (s : Hp) (top i : Nat) (ht : top ≤ 30) (hl : l.length ≤ 30) (hi : i < l.length) (next : RPt Try.prog 4 0 (cb true) [] 1 (stN l s ((top + 1 : Nat) : Int) ((i + 1 : Nat) : Int)))
    (hne : ∀ k (h : k < l.length), k < i → l[k] ≠ l[i]) : ∀ (j k : Nat), k + j = i → RPt Try.prog 4 0 (cb true) [] 5 (stK l s (top : Int) (i : Int) (k : Int))
  | 0, k, hk => by
    refine RPt.vc hP sh lv4 (Eq.mpr (v4_5a ..) ?_)
    refine br_of (fun h => absurd (of_decide_eq_true h) (by omega)) (fun _ => ?_)
    rw [w64 (x := (top : Int) + 1) (by omega) (by omega), w64 (x := (i : Int) + 1) (by omega) (by omega)]
    exact next
  | j + 1, k, hk => by
    refine RPt.vc hP sh lv4 (Eq.mpr (v4_5a ..) ?_)
    have hk2 : k < l.length := by omega
    have ek : List.getD (NR l) (Int.toNat (k : Int)) [] = [.str l[k]] := by rw [Int.toNat_natCast, NR_get hk2]
    have ei : List.getD (NR l) (Int.toNat (i : Int)) [] = [.str l[i]] := by rw [Int.toNat_natCast, NR_get hi]
    have hl2 := NR_length l
    rw [ek, ei, w64 (x := (k : Int) + 1) (by omega) (by omega)]
    refine br_of (fun _ => ⟨⟨rfl, by omega, by omega, rfl⟩, ⟨rfl, by omega, by omega, rfl⟩, br_of (fun h => absurd (show l[k] = l[i] from eq_of_beq h) (hne k hk2 (by omega))) (fun _ => l_inner l s top i ht hl hi next hne j (k + 1) (by omega))⟩) (fun h => absurd (of_decide_eq_false h) (by omega))
theorem l_names (l : List (List UInt8)) (hl : l.length ≤ 30) : ∀ (j i : Nat) (s : Hp), i + j = l.length → s.C = [] → s.N.length ≤ i → (∀ k (h : k < l.length), k < i → l[k] ∈ s.N) →
    RPt Try.prog 4 0 (cb true) [] 1 (stN l s (s.N.length : Int) (i : Int))
  | 0, i, s, hi, hC, hn, hm => by
    refine RPt.vc hP sh lv4 (Eq.mpr (v4_1a ..) ?_)
    have hl2 := NR_length l
    refine ⟨rfl, br_of (fun h => absurd (of_decide_eq_true h) (by omega)) (fun _ => br_of (fun _ => ⟨_, c_hname s _, br_of (fun _ => ⟨_, c_hlen s, ret_b (by rw [hC]; rfl)⟩) (fun h => ?_)⟩) (fun h => by cases h))⟩
    rw [nameOf, if_neg (by omega)] at h; simp at h
  | j + 1, i, s, hi, hC, hn, hm => by
    refine RPt.vc hP sh lv4 (Eq.mpr (v4_1a ..) ?_)
    have hi2 : i < l.length := by omega
    have hl2 := NR_length l
    have ei : List.getD (NR l) (Int.toNat (i : Int)) [] = [.str l[i]] := by rw [Int.toNat_natCast, NR_get hi2]
    have hs := c_hsym s l[i] (by omega)
    have hnm := c_hname (symS s l[i]).2 (symS s l[i]).1
    rw [ei, w64 (x := (i : Int) + 1) (by omega) (by omega)]
    refine ⟨rfl, br_of (fun _ => ⟨⟨rfl, by omega, by omega, rfl⟩, br_of (fun _ => ret_b rfl) (fun _ => ⟨⟨rfl, by omega, by omega, rfl⟩, symS s l[i], hs, ?_⟩)⟩) (fun h => absurd (of_decide_eq_false h) (by omega))⟩
    match hq : numOf l[i] s.N 0 with
    | some x =>
      obtain ⟨q, h1, h2, _, _⟩ := (findN l[i] s.N 0 0).2 x hq
      have hlt : q < s.N.length := (List.getElem?_eq_some_iff.1 h2).1
      have e : symS s l[i] = ((x : Int), s) := by simp only [symS, hq]
      have en : nameOf s.N (x : Int) = l[i] := by
        rw [nameOf, if_pos (by omega), Int.toNat_natCast, h1, Nat.zero_add, h2]; rfl
      rw [e] at hnm ⊢
      refine br_of (fun h => absurd (of_decide_eq_true h) (by simp only; omega)) (fun _ => br_of (fun h => absurd (of_decide_eq_true h) (by simp only; omega)) (fun _ => ⟨_, hnm, ⟨rfl, by omega, by omega, rfl⟩, br_of (fun h => ?_) (fun _ => br_of (fun h => ?_) (fun _ => l_names l hl j (i + 1) s (by omega) hC (by omega) fun k h hk => ?_))⟩))
      · have h2 : (!(nameOf s.N (x : Int) == l[i])) = true := h
        rw [en] at h2; simp at h2
      · simp only [beq_iff_eq] at h; omega
      · by_cases hki : k = i
        · subst hki; exact List.mem_of_getElem? h2
        · exact hm k h (by omega)
    | none =>
      have hno := numOf_none hq
      have e : symS s l[i] = ((s.N.length : Int), { s with N := s.N ++ [l[i]] }) := by simp only [symS, hq]
      have en : nameOf (s.N ++ [l[i]]) (s.N.length : Int) = l[i] := by
        rw [nameOf, if_pos ⟨by omega, by rw [List.length_append, List.length_singleton]; omega⟩, Int.toNat_natCast]; simp
      rw [e] at hnm ⊢
      refine br_of (fun h => absurd (of_decide_eq_true h) (by simp only; omega)) (fun _ => br_of (fun h => absurd (of_decide_eq_true h) (by simp only; omega)) (fun _ => ⟨_, hnm, ⟨rfl, by omega, by omega, rfl⟩, br_of (fun h => ?_) (fun _ => br_of (fun _ => ?_) (fun h => ?_))⟩))
      · have h2 : (!(nameOf (s.N ++ [l[i]]) (s.N.length : Int) == l[i])) = true := h
        rw [en] at h2; simp at h2
      · have nx := l_names l hl j (i + 1) { s with N := s.N ++ [l[i]] } (by omega) hC (by rw [List.length_append, List.length_singleton]; omega) fun k h hk => by
          by_cases hki : k = i
          · subst hki; simp
          · exact List.mem_append_left _ (hm k h (by omega))
        simp only [List.length_append, List.length_singleton] at nx
        exact l_inner l { s with N := s.N ++ [l[i]] } s.N.length i (by omega) hl hi2 (by simpa only [List.length_append, List.length_singleton] using nx) (fun k h hk hkk => hno (hkk ▸ hm k h hk)) i 0 (by omega)
      · simp only [beq_self_eq_true] at h; cases h
theorem c_heapnames (l : List (List UInt8)) : AC Try.prog 4 [.c (.a (.fz (.sl false 1 (NR l))))] [] (cb true) [] := by
  refine AC.vc hP sh lv4 (Nat.le_refl _) (by simp) (by simp) (Eq.mpr (v4 ..) ?_)
  have hl2 := NR_length l
  refine ⟨_, c_works20, br_of (fun h => by cases h) (fun _ => ⟨rfl, br_of (fun _ => ret_b rfl) (fun h => ⟨⟨[], [], 10, 10, []⟩, c_hnew 10 10, ?_⟩)⟩)⟩
  have h := of_decide_eq_false h
  exact l_names l (by omega) l.length 0 ⟨[], [], 10, 10, []⟩ (by omega) rfl (by simp) (fun k _ hk => absurd hk (by omega))

end Go.AM

namespace Go.AM
open Go.ChangeShapes Go.WideShapes Go.ChangeAt Go.RowKit

section
variable {H : Type} {enc : TypeId × Value → H} {P : Program} {w : World}

/-- Nothing is shut out. -/
abbrev none1 : Nat → Prop := fun _ => False
/-- Whatever reads (with so much fuel) at type t is some F a, of size at most that of what was read. -/
def RdN (enc : TypeId × Value → H) (P : Program) (w : World) (b : DataW H → Nat) (fuel : Nat) (t : TypeId) {α : Type} (F : α → List FV) (sz : α → Nat) : Prop :=
  ∀ cs x, DataW.trod enc P w 0 (fun _ => true) true fuel t cs = some x → ∃ a, LRep (FRep w none1) (F a) cs ∧ sz a ≤ b x.1

theorem rd_int {b : DataW H → Nat} {t : TypeId} {k : IntKind} (ht : P.underlying t = some (.int k)) (hb : ∀ d, 1 ≤ b d) (fuel : Nat) : RdN enc P w b fuel t (fun n : Int => [.int k n]) (fun _ => 1) := by
  intro cs x h
  obtain ⟨n, rfl, rfl, _⟩ := DataW.trod_int ht h
  exact ⟨n, .cons (.int k n) .nil, hb _⟩
/-- A number within its kind. -/
def Num (k : IntKind) := { n : Int // (Lit.int k n).wf = true }
theorem rd_num {b : DataW H → Nat} {t : TypeId} {k : IntKind} (ht : P.underlying t = some (.int k)) (hb : ∀ d, 1 ≤ b d) (fuel : Nat) : RdN enc P w b fuel t (fun n : Num k => [.int k n.1]) (fun _ => 1) := by
  intro cs x h
  obtain ⟨n, rfl, rfl, hw⟩ := DataW.trod_int ht h
  exact ⟨⟨n, hw⟩, .cons (.int k n) .nil, hb _⟩
theorem rd_bool {b : DataW H → Nat} {t : TypeId} (ht : P.underlying t = some .bool) (hb : ∀ d, 1 ≤ b d) (fuel : Nat) : RdN enc P w b fuel t (fun n : Bool => [.bool n]) (fun _ => 1) := by
  intro cs x h
  obtain ⟨n, rfl, rfl⟩ := DataW.trod_bool ht h
  exact ⟨n, .cons (.bool n) .nil, hb _⟩
theorem rd_str {b : DataW H → Nat} {t : TypeId} (ht : P.underlying t = some .string) (hb : ∀ l : List UInt8, l.length + 1 ≤ b (.lit (.string l))) (fuel : Nat) : RdN enc P w b fuel t (fun l : List UInt8 => [.str l]) (fun l => l.length + 1) := by
  intro cs x h
  obtain ⟨s, rfl, rfl, _⟩ := DataW.trod_string ht h
  refine ⟨s.data.toList, .cons ?_ .nil, hb _⟩
  have : (⟨s.data.toList.toArray⟩ : ByteArray) = s := by simp
  have h2 := FRep.str (w := w) (X := none1) s.data.toList
  rw [this] at h2
  exact h2

def sumBy {α : Type} (sz : α → Nat) : List α → Nat
  | [] => 0
  | a :: l => sz a + sumBy sz l
theorem sumBy_mem {α : Type} {sz : α → Nat} : ∀ {l : List α} {a : α}, a ∈ l → sz a ≤ sumBy sz l
  | x :: l, a, h => by
    rcases List.mem_cons.1 h with rfl | h
    · simp [sumBy]
    · have := sumBy_mem (sz := sz) h; simp only [sumBy]; omega
theorem sumBy_length {α : Type} {sz : α → Nat} (h : ∀ a, 1 ≤ sz a) : ∀ l : List α, l.length ≤ sumBy sz l
  | [] => Nat.le_refl _
  | a :: l => by have := sumBy_length h l; have := h a; simp only [sumBy, List.length_cons]; omega

theorem choose_list {α β : Type} {R : α → β → Prop} : ∀ {l : List β}, (∀ (i : Nat) (y : β), l[i]? = some y → ∃ x, R x y) → ∃ xs : List α, xs.length = l.length ∧ ∀ (i : Nat) (x : α) (y : β), xs[i]? = some x → l[i]? = some y → R x y
  | [], _ => ⟨[], rfl, fun i x y h => by simp at h⟩
  | y :: l, h => by
    obtain ⟨x, hx⟩ := h 0 y rfl
    obtain ⟨xs, h1, h2⟩ := choose_list (l := l) fun i y' hy => h (i + 1) y' (by simpa using hy)
    refine ⟨x :: xs, by simp [h1], fun i x' y' hx' hy' => ?_⟩
    cases i with
    | zero => simp at hx' hy'; subst hx'; subst hy'; exact hx
    | succ i => exact h2 i x' y' (by simpa using hx') (by simpa using hy')

theorem sum_le {α : Type} {sz : α → Nat} {b : DataW H → Nat} {bs : List (DataW H) → Nat} (hbs : ∀ d l, bs (d :: l) = b d + bs l) : ∀ {xs : List α} {es : List (DataW H × List MemPlace)}, xs.length = es.length → (∀ (i : Nat) (x : α) (y : DataW H × List MemPlace), xs[i]? = some x → es[i]? = some y → sz x ≤ b y.1) → sumBy sz xs ≤ bs (es.map (·.1))
  | [], _, _, _ => by simp [sumBy]
  | x :: xs, [], h, _ => by simp at h
  | x :: xs, e :: es, h, hr => by
    have h1 := hr 0 x e rfl rfl
    have h2 := sum_le (sz := sz) hbs (xs := xs) (es := es) (by simpa using h) fun i x y hx hy => hr (i + 1) x y (by simpa using hx) (by simpa using hy)
    simp only [sumBy, List.map_cons, hbs]
    omega

theorem cells_get {a : Addr} {n : Nat} {cs : List Value} (h : w.cells? 0 a n = some cs) : cs.length = n ∧ ∀ j u, cs[j]? = some u → w.cell? (a.add j) = some u := by
  unfold World.cells? at h
  rw [if_pos (Nat.zero_le _)] at h
  refine ⟨by have := mapM_some_length h; simpa using this, fun j u hu => ?_⟩
  have hj : j < n := by
    have h1 := (List.getElem?_eq_some_iff.1 hu).1
    have := mapM_some_length h; simp at this; omega
  have := mapM_some_get h j j (by simp [hj])
  rw [this, hu]

theorem cell_lt {b off : Nat} {u : Value} (h : w.cell? ⟨b, off, none⟩ = some u) : b < w.heap.size := by
  apply Decidable.byContradiction
  intro hn
  have : w.heap[b]? = none := by simp; omega
  simp [World.cell?, this] at h

theorem cell_spot {a : Addr} {u : Value} (h : w.cell? a = some u) : a.spot = none := by
  unfold World.cell? at h
  split at h
  · split at h
    · cases h
    · rename_i hs; simpa using hs
  · cases h
theorem cell_blk {a : Addr} {u : Value} (h : w.cell? a = some u) : a.block < w.heap.size := by
  apply Decidable.byContradiction
  intro hn
  have : w.heap[a.block]? = none := by simp; omega
  simp [World.cell?, this] at h

theorem add_zero (a : Addr) : a.add 0 = a := rfl
theorem add_none (b o k : Nat) : (Addr.mk b o none).add k = ⟨b, o + k, none⟩ := by
  unfold Addr.add
  split
  · rename_i h; rw [h]; rfl
  · rfl
/-- Slices. -/
theorem rd_slice {b : DataW H → Nat} {bs : List (DataW H) → Nat} (hbs : ∀ d l, bs (d :: l) = b d + bs l) (hb0 : ∀ d, 1 ≤ b d) (hb : ∀ es sp, bs es + 1 ≤ b (.slice es sp)) {t e : TypeId} (ht : P.underlying t = some (.slice e)) {n : Nat} (hn : P.cellsOf e = n) (hn0 : 0 < n)
    {α : Type} {F : α → List FV} {sz : α → Nat} (hF : ∀ a, (F a).length = n) {fuel : Nat} (ih : ∀ k, k < fuel → RdN enc P w b k e F sz) : RdN enc P w b fuel t (fun l : List α => [.sl false n (l.map F)]) (fun l => sumBy sz l + 1) := by
  intro cs x h
  rcases DataW.trod_slice ht h with ⟨rfl, rfl⟩ | ⟨a, len, cap, elems, rest, k, rfl, rfl, rfl, _, hlc, _, hlen, hel, hrest, _⟩
  · exact ⟨[], .cons (.slnil n) .nil, by simpa [sumBy] using hb0 _⟩
  · rw [hn] at hel
    have key : ∀ (i : Nat) (y : DataW H × List MemPlace), elems[i]? = some y → ∃ x : α, (∃ cs, w.cells? 0 (a.add (i * n)) n = some cs ∧ LRep (FRep w none1) (F x) cs) ∧ sz x ≤ b y.1 := by
      intro i y hy
      have hi : i < len := by rw [← hlen]; exact (List.getElem?_eq_some_iff.1 hy).1
      have h1 := hel i hi
      rw [hy] at h1
      obtain ⟨cs, h2, h3⟩ := Option.bind_eq_some_iff.1 h1
      obtain ⟨x, h4, h5⟩ := ih k (Nat.lt_succ_self _) cs y h3
      exact ⟨x, ⟨cs, h2, h4⟩, h5⟩
    -- the element at i, with its place
    have key2 : ∃ xs : List α, xs.length = elems.length ∧ ∀ (i : Nat) (x : α), xs[i]? = some x → (∃ cs, w.cells? 0 (a.add (i * n)) n = some cs ∧ LRep (FRep w none1) (F x) cs) ∧ ∀ y, elems[i]? = some y → sz x ≤ b y.1 := by
      have : ∀ (l : List (DataW H × List MemPlace)) (o : Nat), (∀ i, l[i]? = elems[o + i]?) → ∃ xs : List α, xs.length = l.length ∧ ∀ (i : Nat) (x : α), xs[i]? = some x → (∃ cs, w.cells? 0 (a.add ((o + i) * n)) n = some cs ∧ LRep (FRep w none1) (F x) cs) ∧ ∀ y, l[i]? = some y → sz x ≤ b y.1 := by
        intro l
        induction l with
        | nil => exact fun o _ => ⟨[], rfl, fun i x h => by simp at h⟩
        | cons y l ih =>
          intro o ho
          obtain ⟨x, hx1, hx2⟩ := key o y (by have := ho 0; simpa using this.symm)
          obtain ⟨xs, h1, h2⟩ := ih (o + 1) (fun i => by have := ho (i + 1); rw [show o + 1 + i = o + (i + 1) by omega]; simpa using this)
          refine ⟨x :: xs, by simp [h1], fun i x' hx' => ?_⟩
          cases i with
          | zero => simp at hx'; subst hx'; exact ⟨by simpa using hx1, fun y' hy' => by simp at hy'; subst hy'; exact hx2⟩
          | succ i =>
            have := h2 i x' (by simpa using hx')
            rw [show o + 1 + i = o + (i + 1) by omega] at this
            exact ⟨this.1, fun y' hy' => this.2 y' (by simpa using hy')⟩
      obtain ⟨xs, h1, h2⟩ := this elems 0 (fun i => by simp)
      exact ⟨xs, h1, fun i x hx => by simpa using h2 i x hx⟩
    obtain ⟨xs, hxl, hx⟩ := key2
    have hsum := sum_le (sz := sz) (b := b) hbs hxl (fun i x y h1 h2 => (hx i x h1).2 y h2)
    have hb' := hb (elems.map (·.1)) (rest.map (·.1))
    refine ⟨xs, ?_, show sumBy sz xs + 1 ≤ b (.slice (elems.map (·.1)) (rest.map (·.1))) by omega⟩
    by_cases hc0 : cap = 0
    · have h0 : len = 0 := by omega
      subst hc0; subst h0
      have : xs = [] := List.length_eq_zero_iff.1 (by omega)
      subst this
      exact .cons (.sl0 false n a) .nil
    · have hone : ∃ cs, w.cells? 0 a n = some cs := by
        by_cases h0 : len = 0
        · have hr := (hrest rfl).2 0 (by omega)
          have hr' : rest[0]? ≠ none := by
            rw [List.getElem?_eq_getElem (by rw [(hrest rfl).1]; omega)]; simp
          rw [hn] at hr
          rw [h0, show (0 + 0) * n = 0 by simp, add_zero] at hr
          cases hcl : w.cells? 0 a n with
          | none => rw [hcl] at hr; exact absurd hr.symm hr'
          | some cs => exact ⟨cs, rfl⟩
        · have : 0 < xs.length := by omega
          obtain ⟨⟨cs, h1, _⟩, _⟩ := hx 0 xs[0] (by simp [this])
          rw [show 0 * n = 0 by simp, add_zero] at h1
          exact ⟨cs, h1⟩
      obtain ⟨cs0, hq⟩ := hone
      obtain ⟨hl0, hq'⟩ := cells_get hq
      have hq0 := hq' 0 (cs0[0]'(by omega)) (by simp)
      rw [add_zero] at hq0
      have hsp : a.spot = none := cell_spot hq0
      have hbl : a.block < w.heap.size := cell_blk hq0
      obtain ⟨blk, off, sp⟩ := a
      have hsp : sp = none := hsp
      subst hsp
      refine .cons (.sl false n (xs.map F) blk off cap len (fun i j => (w.cell? ⟨blk, off + i * n + j, none⟩).getD (.bool false)) (by rw [List.length_map]; omega) (by rw [List.length_map]; omega) (fun h => h) hbl (fun i e he => ?_) (fun i j e f he hf => ?_) (fun i j e f he hf => ?_)) .nil
      · rw [List.getElem?_map] at he
        obtain ⟨x, _, rfl⟩ := Option.map_eq_some_iff.1 he
        exact hF x
      all_goals
        rw [List.getElem?_map] at he
        obtain ⟨x, hxi, rfl⟩ := Option.map_eq_some_iff.1 he
        obtain ⟨⟨cs, h1, h2⟩, _⟩ := hx i x hxi
        obtain ⟨h3, h4⟩ := cells_get h1
        have hj : j < cs.length := by rw [← h2.1]; exact (List.getElem?_eq_some_iff.1 hf).1
        have h5 := h4 j cs[j] (by simp)
        rw [add_none, add_none] at h5
      · rw [h5]; rfl
      · rw [h5]
        exact h2.2 j f cs[j] hf (by simp)

/-- Terms. -/
theorem FT_sum : ∀ l : List Tm, Tm.bks l = sumBy Tm.bk l
  | [] => rfl
  | t :: l => by rw [Tm.bks, sumBy, FT_sum l]
/-- How a term lies. -/
structure TmTy (P : Program) (T : TypeId) (f0 f1 f2 f3 : Field) : Prop where
  str : P.underlying T = some (.struct #[f0, f1, f2, f3])
  u0 : P.underlying f0.type = some (.int .i64)
  u1 : P.underlying f1.type = some .string
  u2 : P.underlying f2.type = some (.int .i64)
  u3 : P.underlying f3.type = some (.slice T)
  o0 : f0.offset = 0
  o1 : f1.offset = 1
  o2 : f2.offset = 2
  o3 : f3.offset = 3
  c0 : P.cellsOf f0.type = 1
  c1 : P.cellsOf f1.type = 1
  c2 : P.cellsOf f2.type = 1
  c3 : P.cellsOf f3.type = 1
  cT : P.cellsOf T = 4
/-- How much a reading holds. -/
structure Bulk (b : DataW H → Nat) (bs : List (DataW H) → Nat) : Prop where
  nil : bs [] = 0
  cons : ∀ d l, bs (d :: l) = b d + bs l
  one : ∀ d, 1 ≤ b d
  slice : ∀ es sp, bs es + 1 ≤ b (.slice es sp)
  str : ∀ l : List UInt8, l.length + 1 ≤ b (.lit (.string l))
  agg : ∀ l, bs l + 1 ≤ b (.agg l)
theorem LRep.one {α : Type} {R : α → Value → Prop} {c : α} {u : Value} (h : LRep R [c] [u]) : R c u := h.2 0 c u rfl rfl
theorem rd_term {b : DataW H → Nat} {bs : List (DataW H) → Nat} (hb : Bulk b bs) {T : TypeId} {f0 f1 f2 f3 : Field} (hT : TmTy P T f0 f1 f2 f3) : ∀ fuel, RdN enc P w b fuel T FT Tm.bk := by
  intro fuel
  induction fuel using Nat.strongRecOn with
  | _ fuel ih =>
    intro cs x h
    obtain ⟨xs, n, rfl, rfl, hl, hxl, hf⟩ := DataW.trod_struct hT.str h
    rw [hT.cT] at hl
    match cs, hl with
    | [v0, v1, v2, v3], _ =>
    match xs, hxl with
    | [x0, x1, x2, x3], _ =>
    have g0 := hf 0 f0 rfl
    have g1 := hf 1 f1 rfl
    have g2 := hf 2 f2 rfl
    have g3 := hf 3 f3 rfl
    rw [hT.o0, hT.c0] at g0
    rw [hT.o1, hT.c1] at g1
    rw [hT.o2, hT.c2] at g2
    rw [hT.o3, hT.c3] at g3
    obtain ⟨k, r0, _⟩ := rd_int (b := b) hT.u0 hb.one n _ _ g0
    obtain ⟨s, r1, z1⟩ := rd_str (b := b) hT.u1 hb.str n _ _ g1
    have z1 : s.length + 1 ≤ b x1.1 := z1
    obtain ⟨m, r2, _⟩ := rd_int (b := b) hT.u2 hb.one n _ _ g2
    obtain ⟨l, r3, z3⟩ := rd_slice (F := FT) (sz := Tm.bk) hb.cons hb.one hb.slice hT.u3 hT.cT (by omega) FT_length (fun k hk => ih k (by omega)) _ _ g3
    have z3 : sumBy Tm.bk l + 1 ≤ b x3.1 := z3
    refine ⟨.mk k s m l, ?_, ?_⟩
    · rw [FT, FTs_map]
      exact .cons (LRep.one r0) (.cons (LRep.one r1) (.cons (LRep.one r2) (.cons (LRep.one r3) .nil)))
    · have := hb.one x0.1
      simp only [Tm.bk, FT_sum]
      show _ ≤ b (.agg [x0.1, x1.1, x2.1, x3.1])
      have h9 := hb.agg [x0.1, x1.1, x2.1, x3.1]
      simp only [hb.cons, hb.nil] at h9
      omega

/-! ### Arguments -/
theorem none_own {Y : Nat → Prop} (hY : ∀ b, ¬ Y b) {Hs : List AObj} : (fun b => Y b ∨ Own (fun o => Hs.getD o .gone) (fun _ => none) b) = none1 := by
  funext b
  refine propext ⟨fun h => ?_, fun h => h.elim⟩
  rcases h with h | ⟨o, _, h⟩
  · exact (hY b h).elim
  · cases h
abbrev β0 : Nat → Option Nat := fun _ => none
theorem open_term {b : DataW H → Nat} {bs : List (DataW H) → Nat} (hb : Bulk b bs) {T : TypeId} {f0 f1 f2 f3 : Field} (hT : TmTy P T f0 f1 f2 f3) {r : Reach} {base : Nat} {v : Value} {d : DataW H} {ps : List MemPlace}
    (hv : Value.okWide P w r base T v) (hd : DataW.Trod enc P w 0 (fun _ => true) true T v d ps) : ∃ t : Tm, TRep w none1 β0 (aT t) v ∧ t.bk ≤ b d := by
  obtain ⟨cs, rfl, _⟩ := okWide_struct hT.str hv
  obtain ⟨fuel, hf⟩ := hd
  obtain ⟨t, h1, h2⟩ := rd_term hb hT fuel _ _ hf
  refine ⟨t, ⟨cs.toList, by simp, ?_⟩, h2⟩
  rw [FT_eta] at h1
  have h1 : LRep (FRep w none1) [.int .i64 t.k, .str t.s, .int .i64 t.n, .sl false 4 (FTs t.l)] cs.toList := h1
  exact h1.map (g := fun x => WV.a (.fz x)) fun c u _ h => .a _ _ (.fz _ _ h)
theorem open_terms {b : DataW H → Nat} {bs : List (DataW H) → Nat} (hb : Bulk b bs) {T S : TypeId} {f0 f1 f2 f3 : Field} (hT : TmTy P T f0 f1 f2 f3) (hS : P.underlying S = some (.slice T)) {r : Reach} {base : Nat} {v : Value} {d : DataW H} {ps : List MemPlace}
    (hv : Value.okWide P w r base S v) (hd : DataW.Trod enc P w 0 (fun _ => true) true S v d ps) : ∃ l : List Tm, TRep w none1 β0 (aL l) v ∧ Tm.bks l + 1 ≤ b d := by
  obtain ⟨a, len, cap, rfl⟩ := okWide_slice hS hv
  obtain ⟨fuel, hf⟩ := hd
  obtain ⟨l, h1, h2⟩ := rd_slice (F := FT) (sz := Tm.bk) hb.cons hb.one hb.slice hS hT.cT (by omega) FT_length (fun k _ => rd_term hb hT k) _ _ hf
  have h2 : sumBy Tm.bk l + 1 ≤ b d := h2
  rw [← FT_sum] at h2
  have h1 : LRep (FRep w none1) [.sl false 4 (l.map FT)] [_] := h1
  rw [← FTs_map] at h1
  exact ⟨l, .a _ _ (.fz _ _ h1.one), h2⟩
theorem open_num {t : TypeId} {k : IntKind} (ht : P.underlying t = some (.int k)) {r : Reach} {base : Nat} {v : Value} {d : DataW H} {ps : List MemPlace}
    (hv : Value.okWide P w r base t v) (hd : DataW.Trod enc P w 0 (fun _ => true) true t v d ps) : ∃ n : Int, TRep w none1 β0 (.c (.a (.fz (.int k n)))) v ∧ (Lit.int k n).wf = true := by
  obtain ⟨n, rfl, _, _, hw⟩ := open_int ht hv hd
  exact ⟨n, .a _ _ (.fz _ _ (.int k n)), hw⟩
theorem open_str {t : TypeId} (ht : P.underlying t = some .string) {b : DataW H → Nat} {bs : List (DataW H) → Nat} (hb : Bulk b bs) {r : Reach} {base : Nat} {v : Value} {d : DataW H} {ps : List MemPlace}
    (hv : Value.okWide P w r base t v) (hd : DataW.Trod enc P w 0 (fun _ => true) true t v d ps) : ∃ s : List UInt8, TRep w none1 β0 (cs s) v ∧ s.length + 1 ≤ b d := by
  obtain ⟨s, rfl⟩ := okWide_string ht hv
  obtain ⟨fuel, hf⟩ := hd
  obtain ⟨l, h1, h2⟩ := rd_str (b := b) ht hb.str fuel _ _ hf
  exact ⟨l, .a _ _ (.fz _ _ h1.one), h2⟩

/-! ### The end -/
theorem kept_good {w' : World} {foot : Nat → Prop} (g : Good w foot w') (hf : ∀ b, ¬ foot b) (may : MemPlace → Prop) : w.keptBut w' may := by
  refine ⟨g.os, g.output, fun i hi => ?_⟩
  rw [g.blk i hi (hf i)]
  exact (World.keptBut_refl w may).2.2 i hi
theorem same_good {w' : World} {foot : Nat → Prop} (g : Good w foot w') (hf : ∀ b, ¬ foot b) {p : MemPlace} (hp : p.block < w.heap.size) : w.sameAt w' p := by
  cases p with
  | cell b o => exact World.cell?_of_block (a := ⟨b, o, none⟩) (g.blk b hp (hf b))
  | map b => exact g.blk b hp (hf b)
theorem trodAll_stays (hl : laidOutB P = true) {w' : World} {sp : Nat → Bool} : ∀ {ts : List TypeId} {vs : List Value} {ds : List (DataW H)} {p : List MemPlace}, DataW.TrodAll enc P w 0 (fun _ => true) true ts vs ds p →
    (∀ t ∈ ts, P.readableRec t = true ∧ t < P.types.size) → (∀ x ∈ p, w.sameAt w' x) → (∀ x ∈ p, sp x.block = true) → DataW.TrodAll enc P w' 0 sp true ts vs ds p
  | [], _, _, _, h, _, _, _ => by
    obtain ⟨rfl, rfl, rfl⟩ := trodAll_nil h
    exact trodAll_mk0
  | t :: ts, _, _, _, h, ht, hs, hsp => by
    obtain ⟨v, vs', d, ds', p, q, rfl, rfl, rfl, ⟨n, h1⟩, h2⟩ := trodAll_cons h
    have hr := (ht t List.mem_cons_self).1
    exact ⟨p, q, ⟨n, DataW.trod_stays (kids_book hl hr) (book_sized hr) (fun h => by cases h) ⟨(ht t List.mem_cons_self).2, book_self t⟩ h1 (fun x hx => hs x (List.mem_append_left _ hx)) (fun x hx => hsp x (List.mem_append_left _ hx))⟩,
      trodAll_stays hl h2 (fun u hu => ht u (List.mem_cons_of_mem _ hu)) (fun x hx => hs x (List.mem_append_right _ hx)) (fun x hx => hsp x (List.mem_append_right _ hx)), rfl⟩
/-- A law's end: it returns true, and what was read reads as before. -/
theorem post_good (hl : laidOutB P = true) {f : Func} {s : ChangeSpec} {apart fresh handsOn again : Bool} {w' : World} {args : Array Value} {ds gs : List (DataW H)} {before : List MemPlace} {foot : Nat → Prop} {tb : TypeId}
    (hW : DataW.Whole enc P f.params.toList s.vars apart w args.toList ds gs before) (hv : s.vars = []) (hs : ∀ ds' : List (DataW H), ds'.length = ds.length → s.fn H ds' = { results := [.lit (.bool true)], args := ds' })
    (ht : ∀ t ∈ f.params.toList, P.readableRec t = true ∧ t < P.types.size) (hr : f.resultTypes = #[tb]) (hb : P.underlying tb = some .bool) (g : Good w foot w') (hf : ∀ b, ¬ foot b) :
    s.post enc P f apart fresh handsOn again w args (.bool true) w' := by
  have hlt := hW.lt
  obtain ⟨p, q, h1, h2, he, hz, hn⟩ := hW
  rw [hv] at h2
  obtain ⟨rfl, rfl⟩ := trodVars_none h2
  rw [List.append_nil] at he
  subst he
  have hold : ∀ x ∈ before, (fun b => decide (b < w.heap.size)) x.block = true := fun x hx => by simpa using hlt x hx
  have hfn := hs (ds ++ []) (by simp)
  have hargs : ∀ sp : Nat → Bool, (∀ x ∈ before, sp x.block = true) → DataW.TrodAll enc P w' 0 sp true f.params.toList args.toList (s.fn H (ds ++ [])).args before := fun sp hsp => by
    rw [hfn, List.append_nil]
    exact trodAll_stays hl h1 ht (fun x hx => same_good g hf (hlt x hx)) hsp
  have hres : ∀ (b : Nat) (sp : Nat → Bool) (hd : Bool), DataW.TrodAll enc P w' b sp hd f.resultTypes.toList ((Value.bool true).resultList f.resultTypes.size) (s.fn H (ds ++ [])).results [] := fun b sp hd => by
    rw [hfn, hr]
    exact trodAll_mk1 ⟨1, by simp [DataW.trod, Value.cells, hb]⟩
  have hvars : ∀ sp : Nat → Bool, DataW.TrodVars enc P w' sp s.vars (s.fn H (ds ++ [])).vars [] := fun sp => by
    rw [hfn, hv]
    rfl
  refine ⟨ds, [], before, [], before, [], ⟨before, [], h1, by rw [hv]; rfl, by simp, hz, hn⟩, hres _ _ _, hargs _ hold, hvars _, World.keptBut_mono (fun x hx => ⟨hx, ?_⟩) (kept_good g hf (· ∈ before)), fun _ => ?_⟩
  · simpa using hx
  · refine ⟨ok_one hr rfl (okWide_bool_mk hb _), _, _, ([] ++ before) ++ [], ⟨[] ++ before, [], trodAll_append (hargs _ (fun _ _ => rfl)) (hres _ _ _), hvars _, rfl, ?_, ?_⟩, ?_⟩
    · intro b off hp
      have hp : MemPlace.cell b off ∈ before := by simpa using hp
      have hb := hlt _ hp
      have : w'.frozen? ⟨b, off, none⟩ = w.frozen? ⟨b, off, none⟩ := by
        unfold World.frozen?
        rw [g.blk b hb (hf b)]
      rw [this]
      exact hz b off hp
    · intro ha
      simpa using hn ha
    · intro x hx _
      simpa using hx
/-- A contract that a law's function answers: true. -/
theorem law_true {f : FuncId} {args : List TV} (hgl : Gl P w none1) (h : AC P f args [] (cb true) []) {vals : List Value} (hv : LRep (TRep w none1 β0) args vals) :
    Calls P f vals.toArray w fun e w' => e = .returned (.bool true) ∧ ∃ foot, (∀ b, ¬ foot b) ∧ Good w foot w' := by
  have hX : (fun b => (fun _ : Nat => False) b ∨ Own (fun o => ([] : List AObj).getD o .gone) β0 b) = none1 := none_own (fun _ h => h)
  refine (h.2.2 w vals β0 (fun _ => False) (fun o b h => by cases h) (fun b h => h.elim) (hgl.sub fun b ⟨o, h5, _⟩ => by simp [isLive] at h5) ⟨fun o b h _ => by simp [isLive] at h, fun o h => by simp [isLive] at h, fun o o' b h => by simp [isLive] at h, fun o b h => by cases h⟩ (by rw [hX]; exact hv)).mono fun e w' ⟨v, β', h1, h2, h3, h4, _⟩ => ?_
  subst h1
  cases h4 with
  | a _ _ h4 =>
    cases h4 with
    | fz _ _ h4 =>
      cases h4
      exact ⟨rfl, _, fun b ⟨o, h5, _⟩ => by simp [isLive] at h5, h2⟩
end
end Go.AM

namespace Go.AM
open Go.ChangeShapes Go.WideShapes Go.ChangeAt Go.RowKit

section
variable {H : Type} {enc : TypeId × Value → H} {P : Program} {w : World}
theorem wf_range {n : Int} (h : (Lit.int .i64 n).wf = true) : -9223372036854775808 ≤ n ∧ n ≤ 9223372036854775807 := by
  simp only [Lit.wf, IntKind.min, IntKind.max, IntKind.signed, IntKind.bits, Bool.and_eq_true, decide_eq_true_eq, if_true] at h; omega
abbrev TmI := { t : Tm // okI t }
theorem sumBy_val : ∀ l : List TmI, Tm.bks (l.map (·.1)) = sumBy (fun t : TmI => t.1.bk) l
  | [] => rfl
  | t :: l => by rw [List.map_cons, Tm.bks, sumBy, sumBy_val l]
theorem okIs_val (l : List TmI) : okIs (l.map (·.1)) := okIs_of fun t ht => by
  obtain ⟨u, _, rfl⟩ := List.mem_map.1 ht
  exact u.2
theorem rd_termI {b : DataW H → Nat} {bs : List (DataW H) → Nat} (hb : Bulk b bs) {T : TypeId} {f0 f1 f2 f3 : Field} (hT : TmTy P T f0 f1 f2 f3) : ∀ fuel, RdN enc P w b fuel T (fun t : TmI => FT t.1) (fun t => t.1.bk) := by
  intro fuel
  induction fuel using Nat.strongRecOn with
  | _ fuel ih =>
    intro cs x h
    obtain ⟨xs, n, rfl, rfl, hl, hxl, hf⟩ := DataW.trod_struct hT.str h
    rw [hT.cT] at hl
    match cs, hl with
    | [v0, v1, v2, v3], _ =>
    match xs, hxl with
    | [x0, x1, x2, x3], _ =>
    have g0 := hf 0 f0 rfl
    have g1 := hf 1 f1 rfl
    have g2 := hf 2 f2 rfl
    have g3 := hf 3 f3 rfl
    rw [hT.o0, hT.c0] at g0
    rw [hT.o1, hT.c1] at g1
    rw [hT.o2, hT.c2] at g2
    rw [hT.o3, hT.c3] at g3
    obtain ⟨k, r0, _⟩ := rd_int (b := b) hT.u0 hb.one n _ _ g0
    obtain ⟨s, r1, z1⟩ := rd_str (b := b) hT.u1 hb.str n _ _ g1
    have z1 : s.length + 1 ≤ b x1.1 := z1
    obtain ⟨m, r2, _⟩ := rd_num (b := b) hT.u2 hb.one n _ _ g2
    obtain ⟨l, r3, z3⟩ := rd_slice (F := fun t : TmI => FT t.1) (sz := fun t : TmI => t.1.bk) hb.cons hb.one hb.slice hT.u3 hT.cT (by omega) (fun t => FT_length t.1) (fun k hk => ih k (by omega)) _ _ g3
    have z3 : sumBy (fun t : TmI => t.1.bk) l + 1 ≤ b x3.1 := z3
    refine ⟨⟨.mk k s m.1 (l.map (·.1)), wf_range m.2, okIs_val l⟩, ?_, ?_⟩
    · have e : FTs (l.map (·.1)) = l.map fun t : TmI => FT t.1 := by rw [FTs_map, List.map_map]; rfl
      show LRep (FRep w none1) (FT (.mk k s m.1 (l.map (·.1)))) _
      rw [FT, e]
      exact .cons (LRep.one r0) (.cons (LRep.one r1) (.cons (LRep.one r2) (.cons (LRep.one r3) .nil)))
    · have := hb.one x0.1
      show Tm.bk (.mk k s m.1 (l.map (·.1))) ≤ b (.agg [x0.1, x1.1, x2.1, x3.1])
      simp only [Tm.bk, sumBy_val]
      have h9 := hb.agg [x0.1, x1.1, x2.1, x3.1]
      simp only [hb.cons, hb.nil] at h9
      omega
theorem open_termI {b : DataW H → Nat} {bs : List (DataW H) → Nat} (hb : Bulk b bs) {T : TypeId} {f0 f1 f2 f3 : Field} (hT : TmTy P T f0 f1 f2 f3) {r : Reach} {base : Nat} {v : Value} {d : DataW H} {ps : List MemPlace}
    (hv : Value.okWide P w r base T v) (hd : DataW.Trod enc P w 0 (fun _ => true) true T v d ps) : ∃ t : Tm, TRep w none1 β0 (aT t) v ∧ t.bk ≤ b d ∧ okI t := by
  obtain ⟨cs, rfl, _⟩ := okWide_struct hT.str hv
  obtain ⟨fuel, hf⟩ := hd
  obtain ⟨t, h1, h2⟩ := rd_termI hb hT fuel _ _ hf
  refine ⟨t.1, ⟨cs.toList, by simp, ?_⟩, h2, t.2⟩
  have h1 : LRep (FRep w none1) (FT t.1) cs.toList := h1
  rw [FT_eta] at h1
  exact h1.map (g := fun x => WV.a (.fz x)) fun c u _ h => .a _ _ (.fz _ _ h)
end
end Go.AM

namespace Go.AM
open Go.ChangeShapes Go.WideShapes Go.ChangeAt Go.RowKit

section
variable {H : Type} {enc : TypeId × Value → H} {P : Program} {w : World}
/-- A row of structs, from what one is. -/
theorem open_rows {b : DataW H → Nat} {bs : List (DataW H) → Nat} (hb : Bulk b bs) {T S : TypeId} {n : Nat} {α : Type} {F : α → List FV} {sz : α → Nat} (hF : ∀ a, (F a).length = n) (hn : P.cellsOf T = n) (hn0 : 0 < n) (hz : ∀ a, 1 ≤ sz a)
    (h1 : ∀ k, RdN enc P w b k T F sz) (hS : P.underlying S = some (.slice T)) {r : Reach} {base : Nat} {v : Value} {d : DataW H} {ps : List MemPlace}
    (hv : Value.okWide P w r base S v) (hd : DataW.Trod enc P w 0 (fun _ => true) true S v d ps) : ∃ l : List α, TRep w none1 β0 (.c (.a (.fz (.sl false n (l.map F))))) v ∧ sumBy sz l + 1 ≤ b d := by
  obtain ⟨a, len, cap, rfl⟩ := okWide_slice hS hv
  obtain ⟨fuel, hf⟩ := hd
  obtain ⟨l, h1, h2⟩ := rd_slice hb.cons hb.one hb.slice hS hn hn0 hF (fun k _ => h1 k) _ _ hf
  have h1 : LRep (FRep w none1) [.sl false n (l.map F)] [_] := h1
  exact ⟨l, .a _ _ (.fz _ _ h1.one), h2⟩
/-- A truth value and a term. -/
abbrev FBT (v : Bool × TmI) : List FV := .bool v.1 :: FT v.2.1
structure BTTy (P : Program) (T Tt : TypeId) (f0 f1 : Field) : Prop where
  str : P.underlying T = some (.struct #[f0, f1])
  u0 : P.underlying f0.type = some .bool
  t1 : f1.type = Tt
  o0 : f0.offset = 0
  o1 : f1.offset = 1
  c0 : P.cellsOf f0.type = 1
  cT : P.cellsOf T = 5
theorem rd_bt {b : DataW H → Nat} {bs : List (DataW H) → Nat} (hb : Bulk b bs) {T Tt : TypeId} {g0 g1 g2 g3 f0 f1 : Field} (hT : TmTy P Tt g0 g1 g2 g3) (hV : BTTy P T Tt f0 f1) (fuel : Nat) :
    RdN enc P w b fuel T FBT (fun v => v.2.1.bk + 1) := by
  intro cs x h
  obtain ⟨xs, n, rfl, rfl, hl, hxl, hf⟩ := DataW.trod_struct hV.str h
  rw [hV.cT] at hl
  match cs, hl with
  | [v0, v1, v2, v3, v4], _ =>
  match xs, hxl with
  | [x0, x1], _ =>
  have q0 := hf 0 f0 rfl
  have q1 := hf 1 f1 rfl
  rw [hV.o0, hV.c0] at q0
  rw [hV.o1, hV.t1, hT.cT] at q1
  obtain ⟨p, r0, _⟩ := rd_bool (b := b) hV.u0 hb.one n _ _ q0
  obtain ⟨t, r1, z1⟩ := rd_termI hb hT n _ _ q1
  have z1 : t.1.bk ≤ b x1.1 := z1
  refine ⟨(p, t), .cons (LRep.one r0) r1, ?_⟩
  show t.1.bk + 1 ≤ b (.agg [x0.1, x1.1])
  have h9 := hb.agg [x0.1, x1.1]
  simp only [hb.cons, hb.nil] at h9
  omega
/-- A number, a truth value and a term. -/
abbrev IBT := { n : Int // -9223372036854775808 ≤ n ∧ n ≤ 9223372036854775807 } × Bool × TmI
abbrev FIBT (v : IBT) : List FV := .int .i64 v.1.1 :: .bool v.2.1 :: FT v.2.2.1
structure IBTTy (P : Program) (T Tt : TypeId) (f0 f1 f2 : Field) : Prop where
  str : P.underlying T = some (.struct #[f0, f1, f2])
  u0 : P.underlying f0.type = some (.int .i64)
  u1 : P.underlying f1.type = some .bool
  t2 : f2.type = Tt
  o0 : f0.offset = 0
  o1 : f1.offset = 1
  o2 : f2.offset = 2
  c0 : P.cellsOf f0.type = 1
  c1 : P.cellsOf f1.type = 1
  cT : P.cellsOf T = 6
theorem rd_ibt {b : DataW H → Nat} {bs : List (DataW H) → Nat} (hb : Bulk b bs) {T Tt : TypeId} {g0 g1 g2 g3 f0 f1 f2 : Field} (hT : TmTy P Tt g0 g1 g2 g3) (hV : IBTTy P T Tt f0 f1 f2) (fuel : Nat) :
    RdN enc P w b fuel T FIBT (fun v => v.2.2.1.bk + 2) := by
  intro cs x h
  obtain ⟨xs, n, rfl, rfl, hl, hxl, hf⟩ := DataW.trod_struct hV.str h
  rw [hV.cT] at hl
  match cs, hl with
  | [v0, v1, v2, v3, v4, v5], _ =>
  match xs, hxl with
  | [x0, x1, x2], _ =>
  have q0 := hf 0 f0 rfl
  have q1 := hf 1 f1 rfl
  have q2 := hf 2 f2 rfl
  rw [hV.o0, hV.c0] at q0
  rw [hV.o1, hV.c1] at q1
  rw [hV.o2, hV.t2, hT.cT] at q2
  obtain ⟨i, r0, z0⟩ := rd_num (b := b) hV.u0 hb.one n _ _ q0
  obtain ⟨p, r1, z1⟩ := rd_bool (b := b) hV.u1 hb.one n _ _ q1
  obtain ⟨t, r2, z2⟩ := rd_termI hb hT n _ _ q2
  have z2 : t.1.bk ≤ b x2.1 := z2
  have z0 : 1 ≤ b x0.1 := z0
  refine ⟨(⟨i.1, wf_range i.2⟩, p, t), .cons (LRep.one r0) (.cons (LRep.one r1) r2), ?_⟩
  show t.1.bk + 2 ≤ b (.agg [x0.1, x1.1, x2.1])
  have h9 := hb.agg [x0.1, x1.1, x2.1]
  simp only [hb.cons, hb.nil] at h9
  omega
/-- Three numbers and a term. -/
abbrev I3T := { n : Int × Int × Int // (-9223372036854775808 ≤ n.1 ∧ n.1 ≤ 9223372036854775807) ∧ (-9223372036854775808 ≤ n.2.1 ∧ n.2.1 ≤ 9223372036854775807) ∧ (-9223372036854775808 ≤ n.2.2 ∧ n.2.2 ≤ 9223372036854775807) } × TmI
abbrev FI3T (v : I3T) : List FV := .int .i64 v.1.1.1 :: .int .i64 v.1.1.2.1 :: .int .i64 v.1.1.2.2 :: FT v.2.1
structure I3TTy (P : Program) (T Tt : TypeId) (f0 f1 f2 f3 : Field) : Prop where
  str : P.underlying T = some (.struct #[f0, f1, f2, f3])
  u0 : P.underlying f0.type = some (.int .i64)
  u1 : P.underlying f1.type = some (.int .i64)
  u2 : P.underlying f2.type = some (.int .i64)
  t3 : f3.type = Tt
  o0 : f0.offset = 0
  o1 : f1.offset = 1
  o2 : f2.offset = 2
  o3 : f3.offset = 3
  c0 : P.cellsOf f0.type = 1
  c1 : P.cellsOf f1.type = 1
  c2 : P.cellsOf f2.type = 1
  cT : P.cellsOf T = 7
theorem rd_i3t {b : DataW H → Nat} {bs : List (DataW H) → Nat} (hb : Bulk b bs) {T Tt : TypeId} {g0 g1 g2 g3 f0 f1 f2 f3 : Field} (hT : TmTy P Tt g0 g1 g2 g3) (hV : I3TTy P T Tt f0 f1 f2 f3) (fuel : Nat) :
    RdN enc P w b fuel T FI3T (fun v => v.2.1.bk + 3) := by
  intro cs x h
  obtain ⟨xs, n, rfl, rfl, hl, hxl, hf⟩ := DataW.trod_struct hV.str h
  rw [hV.cT] at hl
  match cs, hl with
  | [v0, v1, v2, v3, v4, v5, v6], _ =>
  match xs, hxl with
  | [x0, x1, x2, x3], _ =>
  have q0 := hf 0 f0 rfl
  have q1 := hf 1 f1 rfl
  have q2 := hf 2 f2 rfl
  have q3 := hf 3 f3 rfl
  rw [hV.o0, hV.c0] at q0
  rw [hV.o1, hV.c1] at q1
  rw [hV.o2, hV.c2] at q2
  rw [hV.o3, hV.t3, hT.cT] at q3
  obtain ⟨i, r0, z0⟩ := rd_num (b := b) hV.u0 hb.one n _ _ q0
  obtain ⟨j, r1, z1⟩ := rd_num (b := b) hV.u1 hb.one n _ _ q1
  obtain ⟨k, r2, z2⟩ := rd_num (b := b) hV.u2 hb.one n _ _ q2
  obtain ⟨t, r3, z3⟩ := rd_termI hb hT n _ _ q3
  have z0 : 1 ≤ b x0.1 := z0
  have z1 : 1 ≤ b x1.1 := z1
  have z3 : t.1.bk ≤ b x3.1 := z3
  refine ⟨(⟨(i.1, j.1, k.1), wf_range i.2, wf_range j.2, wf_range k.2⟩, t), .cons (LRep.one r0) (.cons (LRep.one r1) (.cons (LRep.one r2) r3)), ?_⟩
  show t.1.bk + 3 ≤ b (.agg [x0.1, x1.1, x2.1, x3.1])
  have h9 := hb.agg [x0.1, x1.1, x2.1, x3.1]
  simp only [hb.cons, hb.nil] at h9
  omega
end
end Go.AM

namespace Go.AM
open Go.ChangeShapes Go.WideShapes Go.ChangeAt Go.RowKit
structure Act where
  k : Int
  n : Int
  m : Int
  c : Cel
  s : List UInt8
  t : Tm
  l : List Int
abbrev Act.r (a : Act) : List FV := [.int .i64 a.k, .int .i64 a.n, .int .i64 a.m, .int .i64 a.c.t, .int .i64 a.c.a, .int .i64 a.c.b, .int .i64 a.c.c, .int .i64 a.c.d, .str a.s, .int .i64 a.t.k, .str a.t.s, .int .i64 a.t.n, .sl false 4 (FTs a.t.l), .sl false 1 (IR a.l)]
def AR14 (l : List Act) : List (List FV) := l.map Act.r
section
variable {H : Type} {enc : TypeId × Value → H} {P : Program} {w : World}
structure CelTy (P : Program) (T : TypeId) (f0 f1 f2 f3 f4 : Field) : Prop where
  str : P.underlying T = some (.struct #[f0, f1, f2, f3, f4])
  u0 : P.underlying f0.type = some (.int .i64)
  u1 : P.underlying f1.type = some (.int .i64)
  u2 : P.underlying f2.type = some (.int .i64)
  u3 : P.underlying f3.type = some (.int .i64)
  u4 : P.underlying f4.type = some (.int .i64)
  o : f0.offset = 0 ∧ f1.offset = 1 ∧ f2.offset = 2 ∧ f3.offset = 3 ∧ f4.offset = 4
  c : P.cellsOf f0.type = 1 ∧ P.cellsOf f1.type = 1 ∧ P.cellsOf f2.type = 1 ∧ P.cellsOf f3.type = 1 ∧ P.cellsOf f4.type = 1
  cT : P.cellsOf T = 5
theorem rd_cel {b : DataW H → Nat} {bs : List (DataW H) → Nat} (hb : Bulk b bs) {T : TypeId} {f0 f1 f2 f3 f4 : Field} (hT : CelTy P T f0 f1 f2 f3 f4) (fuel : Nat) : RdN enc P w b fuel T (fun c : Cel => c.r) (fun _ => 1) := by
  intro cs x h
  obtain ⟨xs, n, rfl, rfl, hl, hxl, hf⟩ := DataW.trod_struct hT.str h
  rw [hT.cT] at hl
  match cs, hl with
  | [v0, v1, v2, v3, v4], _ =>
  match xs, hxl with
  | [x0, x1, x2, x3, x4], _ =>
  have q0 := hf 0 f0 rfl
  have q1 := hf 1 f1 rfl
  have q2 := hf 2 f2 rfl
  have q3 := hf 3 f3 rfl
  have q4 := hf 4 f4 rfl
  rw [hT.o.1, hT.c.1] at q0
  rw [hT.o.2.1, hT.c.2.1] at q1
  rw [hT.o.2.2.1, hT.c.2.2.1] at q2
  rw [hT.o.2.2.2.1, hT.c.2.2.2.1] at q3
  rw [hT.o.2.2.2.2, hT.c.2.2.2.2] at q4
  obtain ⟨p, r0, _⟩ := rd_int (b := b) hT.u0 hb.one n _ _ q0
  obtain ⟨k, r1, _⟩ := rd_int (b := b) hT.u1 hb.one n _ _ q1
  obtain ⟨s, r2, _⟩ := rd_int (b := b) hT.u2 hb.one n _ _ q2
  obtain ⟨m, r3, _⟩ := rd_int (b := b) hT.u3 hb.one n _ _ q3
  obtain ⟨a, r4, _⟩ := rd_int (b := b) hT.u4 hb.one n _ _ q4
  exact ⟨⟨p, k, s, m, a⟩, .cons (LRep.one r0) (.cons (LRep.one r1) (.cons (LRep.one r2) (.cons (LRep.one r3) (.cons (LRep.one r4) .nil)))), hb.one _⟩
structure ActTy (P : Program) (T Tt Tc Ti : TypeId) (f0 f1 f2 f3 f4 f5 f6 : Field) : Prop where
  str : P.underlying T = some (.struct #[f0, f1, f2, f3, f4, f5, f6])
  u0 : P.underlying f0.type = some (.int .i64)
  u1 : P.underlying f1.type = some (.int .i64)
  u2 : P.underlying f2.type = some (.int .i64)
  t3 : f3.type = Tc
  u4 : P.underlying f4.type = some .string
  t5 : f5.type = Tt
  u6 : P.underlying f6.type = some (.slice Ti)
  ui : P.underlying Ti = some (.int .i64)
  o : f0.offset = 0 ∧ f1.offset = 1 ∧ f2.offset = 2 ∧ f3.offset = 3 ∧ f4.offset = 8 ∧ f5.offset = 9 ∧ f6.offset = 13
  c : P.cellsOf f0.type = 1 ∧ P.cellsOf f1.type = 1 ∧ P.cellsOf f2.type = 1 ∧ P.cellsOf f4.type = 1 ∧ P.cellsOf f6.type = 1
  ci : P.cellsOf Ti = 1
  cT : P.cellsOf T = 14
theorem rd_act {b : DataW H → Nat} {bs : List (DataW H) → Nat} (hb : Bulk b bs) {T Tt Tc Ti : TypeId} {h0 h1 h2 h3 f0 f1 f2 f3 f4 f5 f6 g0 g1 g2 g3 g4 : Field} (hT : TmTy P Tt h0 h1 h2 h3) (hC : CelTy P Tc g0 g1 g2 g3 g4) (hA : ActTy P T Tt Tc Ti f0 f1 f2 f3 f4 f5 f6) (fuel : Nat) :
    RdN enc P w b fuel T (fun a : Act => a.r) (fun a => a.t.bk + 1) := by
  intro cs x h
  obtain ⟨xs, n, rfl, rfl, hl, hxl, hf⟩ := DataW.trod_struct hA.str h
  rw [hA.cT] at hl
  match cs, hl with
  | [v0, v1, v2, v3, v4, v5, v6, v7, v8, v9, v10, v11, v12, v13], _ =>
  match xs, hxl with
  | [x0, x1, x2, x3, x4, x5, x6], _ =>
  have q0 := hf 0 f0 rfl
  have q1 := hf 1 f1 rfl
  have q2 := hf 2 f2 rfl
  have q3 := hf 3 f3 rfl
  have q4 := hf 4 f4 rfl
  have q5 := hf 5 f5 rfl
  have q6 := hf 6 f6 rfl
  rw [hA.o.1, hA.c.1] at q0
  rw [hA.o.2.1, hA.c.2.1] at q1
  rw [hA.o.2.2.1, hA.c.2.2.1] at q2
  rw [hA.o.2.2.2.1, hA.t3, hC.cT] at q3
  rw [hA.o.2.2.2.2.1, hA.c.2.2.2.1] at q4
  rw [hA.o.2.2.2.2.2.1, hA.t5, hT.cT] at q5
  rw [hA.o.2.2.2.2.2.2, hA.c.2.2.2.2] at q6
  obtain ⟨k, r0, _⟩ := rd_int (b := b) hA.u0 hb.one n _ _ q0
  obtain ⟨i, r1, _⟩ := rd_int (b := b) hA.u1 hb.one n _ _ q1
  obtain ⟨m, r2, _⟩ := rd_int (b := b) hA.u2 hb.one n _ _ q2
  obtain ⟨c, r3, _⟩ := rd_cel hb hC n _ _ q3
  obtain ⟨s, r4, _⟩ := rd_str (b := b) hA.u4 hb.str n _ _ q4
  obtain ⟨t, r5, z5⟩ := rd_termI hb hT n _ _ q5
  obtain ⟨l, r6, _⟩ := rd_slice (F := fun x : Int => [FV.int .i64 x]) (sz := fun _ => 1) hb.cons hb.one hb.slice hA.u6 hA.ci (by omega) (fun _ => rfl) (fun k _ => rd_int hA.ui hb.one k) _ _ q6
  have z5 : t.1.bk ≤ b x5.1 := z5
  have r3 : LRep (FRep w none1) c.r [v3, v4, v5, v6, v7] := r3
  have r5 : LRep (FRep w none1) (FT t.1) [v9, v10, v11, v12] := r5
  rw [FT_eta] at r5
  have a0 := r3.2 0 _ _ rfl rfl
  have a1 := r3.2 1 _ _ rfl rfl
  have a2 := r3.2 2 _ _ rfl rfl
  have a3 := r3.2 3 _ _ rfl rfl
  have a4 := r3.2 4 _ _ rfl rfl
  have b0 := r5.2 0 _ _ rfl rfl
  have b1 := r5.2 1 _ _ rfl rfl
  have b2 := r5.2 2 _ _ rfl rfl
  have b3 := r5.2 3 _ _ rfl rfl
  refine ⟨⟨k, i, m, c, s, t.1, l⟩, .cons (LRep.one r0) (.cons (LRep.one r1) (.cons (LRep.one r2) (.cons a0 (.cons a1 (.cons a2 (.cons a3 (.cons a4 (.cons (LRep.one r4) (.cons b0 (.cons b1 (.cons b2 (.cons b3 (.cons (LRep.one r6) .nil))))))))))))), ?_⟩
  show t.1.bk + 1 ≤ b (.agg [x0.1, x1.1, x2.1, x3.1, x4.1, x5.1, x6.1])
  have h9 := hb.agg [x0.1, x1.1, x2.1, x3.1, x4.1, x5.1, x6.1]
  simp only [hb.cons, hb.nil] at h9
  omega
end
end Go.AM

set_option maxRecDepth 100000
open Go Go.Proofs
namespace Go.AM

/-! ### What is undone -/
theorem fmax0 {x : Int} (h : 0 ≤ x) : foldMax [x, 0] = x := by
  simp only [foldMax, List.foldl, max, maxOfLe]; split <;> omega
theorem fmax2 {x y z : Int} (h : foldMax [x, y] = z) : z = x ∨ z = y := by
  subst h; simp only [foldMax, List.foldl, max, maxOfLe]; split <;> simp
theorem TR_get {l : List Trl} {i : Nat} (h : i < l.length) : List.getD (TR l) i [] = l[i].r := by simp [TR, List.getD, h]
theorem CR_set (C : List Cel) (i : Nat) (c : Cel) : CR (C.set i c) = List.set (CR C) i c.r := by simp [CR, List.map_set]
theorem CR_app (C : List Cel) (c : Cel) : CR (C ++ [c]) = CR C ++ [c.r] := by simp [CR]
theorem ole_cut {n : Nat} {fs gs : List (List FV)} (hl : gs.length ≤ fs.length) (h : ∀ (i : Nat) (e e' : List FV), fs[i]? = some e → gs[i]? = some e' → LeR e e') : OLe (.arz n fs) (.arz n gs) :=
  .rows n fs gs hl (fun i e e' he he' => (h i e e' he he').length) fun i j e e' f f' he he' hf hf' => (h i e e' he he').get j f f' hf hf'
theorem c_hmark (s : Hp) : AC Try.prog 22 [aH 0] (oH s) (.agg [.a (.fz (.int .i64 (s.C.length : Int))), .a (.fz (.int .i64 (s.T.length : Int)))]) (oH s) := by
  refine AC.vc hP sh lv22 (Nat.le_refl _) (by simp [isLive]) (by simp) (Eq.mpr (v22 ..) ?_)
  exact ⟨.refl _, rfl⟩
def topS (T : List Trl) (x : Int) : Int := if h : 0 < T.length then foldMax [x, T[T.length - 1].top] else x
def setS (s : Hp) (x : Int) (c : Cel) : Int × Hp :=
  if inC s.C x = false then (1, s) else if fitsH s c = false then (1, s) else if (rowB (cellOf s.C x) == rowB c) = false then (1, s) else if s.L ≤ (s.T.length : Int) then (201, s)
  else (0, { s with C := s.C.set x.toNat c, T := s.T ++ [⟨x, cellOf s.C x, topS s.T x⟩] })
theorem c_hset (s : Hp) (x : Int) (c : Cel) (hT : s.T.length ≤ 1073741824) : AC Try.prog 21 [aH 0, ci x, aCe c] (oH s) (ci (setS s x c).1) (oH' (setS s x c).2) := by
  refine AC.vc hP sh lv21 (by simp) (by simp [isLive]) (by simp [isLive]) (Eq.mpr (v21 ..) ?_)
  refine ⟨_, _, _, _, _, _, c_hcell s x, br_of (fun h => ?_) (fun h => ⟨_, c_hfits s c, br_of (fun h2 => ?_) (fun h2 => ⟨_, c_hrow (cellOf s.C x), _, c_hrow c, br_of (fun h3 => ?_) (fun h3 => br_of (fun h4 => ?_) (fun h4 => ?_))⟩)⟩)⟩
  · rw [setS, if_pos (by simpa using h)]; exact ⟨.refl _, rfl⟩
  · rw [setS, if_neg (by simpa using h), if_pos (by simpa using h2)]; exact ⟨.refl _, rfl⟩
  · rw [setS, if_neg (by simpa using h), if_neg (by simpa using h2), if_pos (by simpa using h3)]; exact ⟨.refl _, rfl⟩
  · rw [setS, if_neg (by simpa using h), if_neg (by simpa using h2), if_neg (by simpa using h3), if_pos (of_decide_eq_true h4)]; exact ⟨.refl _, rfl⟩
  · have h4 : ¬ s.L ≤ (s.T.length : Int) := of_decide_eq_false h4
    rw [setS, if_neg (by simpa using h), if_neg (by simpa using h2), if_neg (by simpa using h3), if_neg h4]
    have hin : inC s.C x = true := by simpa using h
    simp only [inC, Bool.and_eq_true, decide_eq_true_eq] at hin
    obtain ⟨hl, _⟩ := cellOf_in hin.1 hin.2
    have e1 : (s.C.set x.toNat c).length = s.C.length := by simp
    have e2 : ∀ e : Trl, (s.T ++ [e]).length = s.T.length + 1 := by simp
    have e3 : ∀ e : Trl, TR (s.T ++ [e]) = List.take s.T.length (TR s.T) ++ [e.r] := fun e => by rw [List.take_of_length_le (by rw [TR_length]; omega)]; simp [TR]
    have eC := CR_length s.C
    have eT := TR_length s.T
    have room : roomB (s.T.length + 1) 56 := by simp only [roomB]; omega
    have hg : (List.getD (CR s.C) (0 + Int.toNat x) []).length = 5 := by rw [Nat.zero_add, CR_get hl]; rfl
    refine br_of (fun h5 => ?_) (fun h5 => ?_)
    · have h5 : ((s.T.length : Nat) : Int) > 0 := of_decide_eq_true h5
      have ew : IntKind.wrap .i64 ((s.T.length : Int) - 1) = ((s.T.length - 1 : Nat) : Int) := by rw [w64 (by omega) (by omega)]; omega
      have eg : List.getD (TR s.T) (0 + Int.toNat ((s.T.length - 1 : Nat) : Int)) [] = (s.T[s.T.length - 1]'(by omega)).r := by rw [Nat.zero_add, Int.toNat_natCast, TR_get (by omega)]
      rw [ew, eg]
      refine ⟨⟨by omega, by omega⟩, ⟨by omega, rfl, rfl⟩, Nat.le_refl _, ⟨by omega, room⟩, hin, ⟨by omega, hg⟩, ?_⟩
      simp only [oH', hp6, e1, e2, e3, topS, show 0 < s.T.length by omega, dite_true, CR_set, Nat.zero_add]
      exact ⟨.refl _, rfl⟩
    · have h5 : ¬ ((s.T.length : Nat) : Int) > 0 := of_decide_eq_false h5
      refine ⟨Nat.le_refl _, ⟨by omega, room⟩, hin, ⟨by omega, hg⟩, ?_⟩
      simp only [oH', hp6, e1, e2, e3, topS, show ¬ 0 < s.T.length by omega, dite_false, CR_set, Nat.zero_add]
      exact ⟨.refl _, trivial⟩
/-- Back: the last change first. -/
def undoC (T : List Trl) (C : List Cel) : List Cel := T.foldr (fun e C => C.set e.o.toNat e.x) C
theorem undoC_length : ∀ (T : List Trl) (C : List Cel), (undoC T C).length = C.length
  | [], _ => rfl
  | e :: T, C => by rw [undoC, List.foldr_cons, List.length_set]; exact undoC_length T C
theorem undoC_snoc (T : List Trl) (e : Trl) (C : List Cel) : undoC (T ++ [e]) C = undoC T (C.set e.o.toNat e.x) := by simp [undoC]
abbrev stU (s : Hp) (C : List Cel) (j : Nat) (x n k : Int) : St :=
  ⟨[(0, aH 0), (3, .c (.a (.ep 8 2 0 0))), (4, ci x)], [(0, .arr 6 [[.a (.osl 5 5 0 s.C.length), .a (.osl 6 7 0 j), .a (.fz (.int .i64 s.M)), .a (.fz (.int .i64 s.L)), .a (.osl 7 1 0 s.N.length), .a (.mp 4)]]), (1, .gone), (2, .gone), (3, .gone), (4, .mapz (NM s.N 0)), (5, .arz 5 (CR C)), (6, .arz 7 (TR s.T)), (7, .arz 1 (NR s.N)), (8, .arr 2 [[.a (.fz (.int .i64 n)), .a (.fz (.int .i64 k))]])], 9⟩
theorem l_hundo (s : Hp) (n k : Nat) (hk : k ≤ s.T.length) (hB : s.T.length ≤ 1073741824) (hn : n ≤ s.C.length) (hT : ∀ e ∈ s.T, 0 ≤ e.o ∧ e.o < (s.C.length : Int)) (hp : ∀ e ∈ s.T.take k, e.top < (n : Int)) :
    ∀ (d j : Nat) (C : List Cel), j = k + d → j ≤ s.T.length → C.length = s.C.length →
    RPt Try.prog 24 5 (.tup []) [.arr 6 [[.a (.osl 5 5 0 n), .a (.osl 6 7 0 k), .a (.fz (.int .i64 s.M)), .a (.fz (.int .i64 s.L)), .a (.osl 7 1 0 s.N.length), .a (.mp 4)]], .gone, .gone, .gone, .mapz (NM s.N 0), .arz 5 (CR (undoC ((s.T.take j).drop k) C)), .arz 7 (TR s.T), .arz 1 (NR s.N)] 1
      (stU s C j ((j : Int) - 1) (n : Int) (k : Int))
  | 0, j, C, hj, hl, hC => by
    refine RPt.vc hP sh lv24 (Eq.mpr (v24_1a ..) ?_)
    obtain rfl : j = k := by omega
    rw [fmax0 (x := (j : Int)) (by omega), fmax0 (x := (n : Int)) (by omega), Int.toNat_natCast, show undoC ((s.T.take j).drop j) C = C by rw [List.drop_eq_nil_of_le (by rw [List.length_take]; omega)]; rfl]
    refine br_of (fun h => absurd (of_decide_eq_true h) (by omega)) (fun _ => br_of (fun h => ⟨⟨by omega, by omega, by omega⟩, br_of (fun h2 => ?_) (fun _ => ⟨.refl _, rfl⟩)⟩) (fun h => ?_))
    · have h2 : ((j : Nat) : Int) > 0 := of_decide_eq_true h2
      have ew : IntKind.wrap .i64 ((j : Int) - 1) = ((j - 1 : Nat) : Int) := by rw [w64 (by omega) (by omega)]; omega
      have hlt : j - 1 < s.T.length := by omega
      have eg : List.getD (TR s.T) (0 + Int.toNat ((j - 1 : Nat) : Int)) [] = s.T[j - 1].r := by rw [Nat.zero_add, Int.toNat_natCast, TR_get hlt]
      have ht : s.T[j - 1].top < (n : Int) := hp _ (List.mem_take_iff_getElem.2 ⟨j - 1, by omega, rfl⟩)
      have eT := TR_length s.T
      rw [ew, eg]
      refine ⟨⟨by omega, by omega⟩, ⟨by omega, rfl, rfl⟩, br_of (fun h => absurd (of_decide_eq_true h) (Int.not_le.2 ht)) (fun _ => ⟨.refl _, rfl⟩)⟩
    · have h := of_decide_eq_false h
      have e : s.C.length = n := by omega
      rw [e]; exact ⟨.refl _, rfl⟩
  | d + 1, j, C, hj, hl, hC => by
    refine RPt.vc hP sh lv24 (Eq.mpr (v24_1a ..) ?_)
    have hlt : j - 1 < s.T.length := by omega
    have et : Int.toNat ((j : Int) - 1) = j - 1 := by omega
    have eg : List.getD (TR s.T) (0 + (j - 1)) [] = s.T[j - 1].r := by rw [Nat.zero_add, TR_get hlt]
    have eT := TR_length s.T
    have eC := CR_length C
    obtain ⟨o1, o2⟩ := hT s.T[j - 1] (List.getElem_mem hlt)
    have hol : (s.T[j - 1].o).toNat < C.length := by omega
    have hg : (List.getD (CR C) (0 + (s.T[j - 1].o).toNat) []).length = 5 := by rw [Nat.zero_add, CR_get hol]; rfl
    rw [fmax0 (x := (k : Int)) (by omega), et, eg, w64 (x := (j : Int) - 1 - 1) (by omega) (by omega)]
    have nx := l_hundo s n k hk hB hn hT hp d (j - 1) (C.set (s.T[j - 1].o).toNat s.T[j - 1].x) (by omega) (by omega) (by rw [List.length_set]; exact hC)
    have ed : (s.T.take j).drop k = (s.T.take (j - 1)).drop k ++ [s.T[j - 1]] := by
      have e1 : s.T.take j = s.T.take (j - 1) ++ [s.T[j - 1]] := by
        have := List.take_append_getElem (l := s.T) (i := j - 1) hlt
        rw [show j - 1 + 1 = j by omega] at this; exact this.symm
      rw [e1, List.drop_append_of_le_length (by rw [List.length_take]; omega)]
    simp only [stU] at nx
    rw [← undoC_snoc, ← ed, CR_set, show ((j - 1 : Nat) : Int) = (j : Int) - 1 by omega] at nx
    refine br_of (fun _ => ⟨⟨by omega, by omega⟩, ⟨by omega, rfl, rfl⟩, ⟨o1, o2⟩, ⟨by show 0 + (s.T[j - 1].o).toNat < (CR C).length; omega, hg⟩, ⟨by omega, by omega, by omega⟩, ?_⟩) (fun h => absurd (of_decide_eq_false h) (by omega))
    rw [Nat.zero_add]
    exact nx
def undoS' (s : Hp) (n k : Nat) : Hp := { s with C := (undoC (s.T.drop k) s.C).take n, T := s.T.take k }
theorem c_hundo (s : Hp) (n k : Nat) (hk : k ≤ s.T.length) (hB : s.T.length ≤ 1073741824) (hn : n ≤ s.C.length) (hT : ∀ e ∈ s.T, 0 ≤ e.o ∧ e.o < (s.C.length : Int)) (hp : ∀ e ∈ s.T.take k, e.top < (n : Int)) :
    AC Try.prog 24 [aH 0, .agg [.a (.fz (.int .i64 (n : Int))), .a (.fz (.int .i64 (k : Int)))]] (oH s) (.tup []) (oH' (undoS' s n k)) := by
  have e1 : (undoS' s n k).C.length = n := by simp only [undoS', List.length_take, undoC_length]; omega
  have e2 : (undoS' s n k).T.length = k := by simp only [undoS', List.length_take]; omega
  have hl := l_hundo s n k hk hB hn hT hp (s.T.length - k) s.T.length s.C (by omega) (Nat.le_refl _) rfl
  rw [List.take_of_length_le (Nat.le_refl _)] at hl
  refine AC.obj (Hs' := [.arr 6 [[.a (.osl 5 5 0 n), .a (.osl 6 7 0 k), .a (.fz (.int .i64 s.M)), .a (.fz (.int .i64 s.L)), .a (.osl 7 1 0 s.N.length), .a (.mp 4)]], .gone, .gone, .gone, .mapz (NM s.N 0), .arz 5 (CR (undoC (s.T.drop k) s.C)), .arz 7 (TR s.T), .arz 1 (NR s.N)]) ?_ ⟨?_, .refl _, .refl _, .refl _, .refl _, ?_, ?_, .refl _, trivial⟩
  · refine AC.vc hP sh lv24 (by simp) (by simp [isLive]) (by simp [isLive]) (Eq.mpr (v24 ..) ?_)
    rw [w64 (x := (s.T.length : Int) - 1) (by omega) (by omega)]
    exact hl
  · rw [hp6, e1, e2]; exact .refl _
  · refine ole_cut (by rw [CR_length, CR_length, e1, undoC_length]; exact hn) fun i e e' he he' => ?_
    rw [CR, List.getElem?_map] at he he'
    obtain ⟨v, hv, rfl⟩ := Option.map_eq_some_iff.1 he'
    obtain ⟨v2, hv2, rfl⟩ := Option.map_eq_some_iff.1 he
    rw [undoS', List.getElem?_take] at hv
    split at hv
    · rw [hv2] at hv; injection hv with hv; subst hv; exact LeR.refl _
    · cases hv
  · refine ole_cut (by rw [TR_length, TR_length, e2]; exact hk) fun i e e' he he' => ?_
    rw [TR, List.getElem?_map] at he he'
    obtain ⟨v, hv, rfl⟩ := Option.map_eq_some_iff.1 he'
    obtain ⟨v2, hv2, rfl⟩ := Option.map_eq_some_iff.1 he
    rw [undoS', List.getElem?_take] at hv
    split at hv
    · rw [hv2] at hv; injection hv with hv; subst hv; exact LeR.refl _
    · cases hv

end Go.AM

set_option maxRecDepth 100000
open Go Go.Proofs
namespace Go.AM

/-! ### Acts -/
theorem AR_length (l : List Act) : (AR14 l).length = l.length := by simp [AR14]
theorem AR_get {l : List Act} {i : Nat} (h : i < l.length) : List.getD (AR14 l) i [] = l[i].r := by simp [AR14, List.getD, h]
abbrev aAs (l : List Act) : TV := .c (.a (.fz (.sl false 14 (AR14 l))))
def badA (a : Act) : Bool := decide (a.c.a > 1000) || decide (a.c.b > 1000) || decide (a.c.c > 1000) || decide (a.c.d > 1000) || decide (a.c.a < -1000) || decide (a.c.b < -1000) || decide (a.c.c < -1000) || large a.t 20 || !near 1000 a.t || decide (a.c.d < -1000) || decide ((a.s.length : Int) > 60) || decide (((IR a.l).length : Int) > 10)
theorem three {b1 b2 : Bool} {A : Prop} (h : A) : br b1 A (br (!b2) A A) := br_of (fun _ => h) (fun _ => br_of (fun _ => h) (fun _ => h))
abbrev stO (l : List Act) (i : Int) : St := ⟨[(0, aAs l), (3, ci i)], [], 0⟩
theorem l_over20 (l : List Act) (hz : ∀ a ∈ l, a.t.sz ≤ B) (hl : l.length ≤ 60) : ∀ (j i : Nat), i + j = l.length → RPt Try.prog 20 0 (cb ((l.drop i).any badA)) [] 1 (stO l (i : Int))
  | 0, i, hi => by
    refine RPt.vc hP sh lv20 (Eq.mpr (v20_1a ..) ?_)
    have hl2 := AR_length l
    refine ⟨rfl, br_of (fun h => absurd (of_decide_eq_true h) (by omega)) (fun _ => ret_b ?_)⟩
    rw [List.drop_eq_nil_of_le (by omega)]; rfl
  | j + 1, i, hi => by
    refine RPt.vc hP sh lv20 (Eq.mpr (v20_1a ..) ?_)
    have hi2 : i < l.length := by omega
    have hl2 := AR_length l
    have ei : List.getD (AR14 l) (Int.toNat (i : Int)) [] = l[i].r := by rw [Int.toNat_natCast, AR_get hi2]
    have ed : l.drop i = l[i] :: l.drop (i + 1) := List.drop_eq_getElem_cons hi2
    have ih := l_over20 l hz hl j (i + 1) (by omega)
    rw [ei, ed, w64 (x := (i : Int) + 1) (by omega) (by omega)]
    have h1 := c_large l[i].t (hz _ (List.getElem_mem hi2)) 20 (by omega) (by omega)
    have h2 := c_near 1000 (by omega) (by omega) l[i].t (hz _ (List.getElem_mem hi2))
    generalize ea : l[i] = a at *
    have bad : badA a = true → TV.Le (cb true) (cb ((a :: l.drop (i + 1)).any badA)) ∧ ([] : List AObj) = [] := fun h => ret_b (by rw [List.any_cons, h]; rfl)
    refine ⟨rfl, br_of (fun _ => ⟨⟨rfl, by omega, by omega, rfl⟩, _, h1, ⟨rfl, by omega, by omega, rfl⟩, _, h2, ⟨rfl, by omega, by omega, rfl⟩, ?_⟩) (fun h => absurd (of_decide_eq_false h) (by omega))⟩
    refine br_of (fun h : decide (a.c.a > 1000) = true => three (bad (by simp [badA, h]))) (fun g1 : decide (a.c.a > 1000) = false => ?_)
    refine br_of (fun h : decide (a.c.b > 1000) = true => three (bad (by simp [badA, h]))) (fun g2 : decide (a.c.b > 1000) = false => ?_)
    refine br_of (fun h : decide (a.c.c > 1000) = true => three (bad (by simp [badA, h]))) (fun g3 : decide (a.c.c > 1000) = false => ?_)
    refine br_of (fun h : decide (a.c.d > 1000) = true => three (bad (by simp [badA, h]))) (fun g4 : decide (a.c.d > 1000) = false => ?_)
    refine br_of (fun h : decide (a.c.a < -1000) = true => three (bad (by simp [badA, h]))) (fun g5 : decide (a.c.a < -1000) = false => ?_)
    refine br_of (fun h : decide (a.c.b < -1000) = true => three (bad (by simp [badA, h]))) (fun g6 : decide (a.c.b < -1000) = false => ?_)
    refine br_of (fun h : decide (a.c.c < -1000) = true => three (bad (by simp [badA, h]))) (fun g7 : decide (a.c.c < -1000) = false => ?_)
    refine br_of (fun h : large a.t 20 = true => bad (by simp [badA, h])) (fun g8 : large a.t 20 = false => ?_)
    refine br_of (fun h : (!near 1000 a.t) = true => bad (by simp [badA, h])) (fun g9 : (!near 1000 a.t) = false => ?_)
    refine br_of (fun h : decide (a.c.d < -1000) = true => bad (by simp [badA, h])) (fun g10 : decide (a.c.d < -1000) = false => ⟨⟨rfl, by omega, by omega, rfl⟩, ?_⟩)
    refine br_of (fun h : decide ((a.s.length : Int) > 60) = true => bad (by simp [badA, h])) (fun g11 : decide ((a.s.length : Int) > 60) = false => ⟨⟨rfl, by omega, by omega, rfl⟩, rfl, ?_⟩)
    refine br_of (fun h : decide (((IR a.l).length : Int) > 10) = true => bad (by simp [badA, h])) (fun g12 : decide (((IR a.l).length : Int) > 10) = false => ?_)
    rw [List.any_cons, show badA a = false by simp only [badA, g1, g2, g3, g4, g5, g6, g7, g8, g9, g10, g11, g12, Bool.or_self], Bool.false_or]
    exact ih
def overA (l : List Act) : Bool := decide ((l.length : Int) > 60) || l.any badA
theorem c_over20 (l : List Act) (hz : ∀ a ∈ l, a.t.sz ≤ B) : AC Try.prog 20 [aAs l] [] (cb (overA l)) [] := by
  refine AC.vc hP sh lv20 (Nat.le_refl _) (by simp) (by simp) (Eq.mpr (v20 ..) ?_)
  have hl2 := AR_length l
  refine ⟨rfl, br_of (fun h => ret_b ?_) (fun h => ?_)⟩
  · rw [hl2] at h; rw [overA, h]; rfl
  · rw [hl2] at h
    rw [overA, h, Bool.false_or]
    have h := of_decide_eq_false h
    exact l_over20 l hz (by omega) l.length 0 (by omega)
theorem overA_len {l : List Act} (h : overA l = false) : l.length ≤ 60 := by
  rw [overA, Bool.or_eq_false_iff] at h
  have := of_decide_eq_false h.1; omega
/-! ### The plain law -/
def act2 (s : Hp) (a : Act) : Hp := if Int.tmod a.k 2 = 0 then (putS s a.c).2 else (setS s a.n a.c).2
def GoodH (s : Hp) : Prop := ∀ e ∈ s.T, 0 ≤ e.o ∧ e.o < (s.C.length : Int) ∧ e.top < (s.C.length : Int)
theorem putS_or (s : Hp) (c : Cel) : (putS s c).2 = s ∨ (putS s c).2 = { s with C := s.C ++ [c] } := by
  unfold putS; split
  · exact .inl rfl
  · split
    · exact .inl rfl
    · exact .inr rfl
theorem setS_or (s : Hp) (x : Int) (c : Cel) : (setS s x c).2 = s ∨ inC s.C x = true ∧ (setS s x c).2 = { s with C := s.C.set x.toNat c, T := s.T ++ [⟨x, cellOf s.C x, topS s.T x⟩] } := by
  unfold setS; split
  · exact .inl rfl
  · rename_i h; split
    · exact .inl rfl
    · split
      · exact .inl rfl
      · split
        · exact .inl rfl
        · exact .inr ⟨by simpa using h, rfl⟩
theorem topS_lt {T : List Trl} {x n : Int} (hx : x < n) (hT : ∀ e ∈ T, e.top < n) : topS T x < n := by
  unfold topS; split
  · rcases fmax2 (x := x) rfl with h | h
    · rw [h]; exact hx
    · rw [h]; exact hT _ (List.getElem_mem _)
  · exact hx
theorem act2_good {s : Hp} (a : Act) (h : GoodH s) : GoodH (act2 s a) ∧ (act2 s a).C.length ≤ s.C.length + 1 ∧ (act2 s a).T.length ≤ s.T.length + 1 ∧ (act2 s a).N = s.N := by
  unfold act2
  split
  · rcases putS_or s a.c with e | e <;> rw [e]
    · exact ⟨h, by omega, by omega, rfl⟩
    · refine ⟨fun x hx => ?_, by simp, by simp, rfl⟩
      have := h x hx
      simp only [List.length_append, List.length_singleton]; omega
  · rcases setS_or s a.n a.c with e | ⟨hin, e⟩ <;> rw [e]
    · exact ⟨h, by omega, by omega, rfl⟩
    · simp only [inC, Bool.and_eq_true, decide_eq_true_eq] at hin
      refine ⟨fun x hx => ?_, by simp, by simp, rfl⟩
      simp only [List.length_set]
      rcases List.mem_append.1 hx with hx | hx
      · exact h x hx
      · rw [List.mem_singleton.1 hx]
        exact ⟨hin.1, hin.2, topS_lt hin.2 fun e he => (h e he).2.2⟩
def Later (s0 s : Hp) : Prop := s0.C.length ≤ s.C.length ∧ ∃ D, s.T = s0.T ++ D ∧ (undoC D s.C).take s0.C.length = s0.C
theorem Later.refl (s : Hp) : Later s s := ⟨Nat.le_refl _, [], by simp, by simp [undoC]⟩
theorem undoC_app : ∀ (D : List Trl) (C : List Cel) (c : Cel), (∀ e ∈ D, e.o.toNat < C.length) → undoC D (C ++ [c]) = undoC D C ++ [c]
  | [], _, _, _ => rfl
  | e :: D, C, c, h => by
    have ih := undoC_app D C c fun x hx => h x (List.mem_cons_of_mem _ hx)
    have hl := undoC_length D C
    show (undoC D (C ++ [c])).set _ _ = (undoC D C).set _ _ ++ [c]
    rw [ih, List.set_append_left _ _ (by rw [hl]; exact h e List.mem_cons_self)]
theorem act2_later {s0 s : Hp} (a : Act) (hg : GoodH s) (h : Later s0 s) : Later s0 (act2 s a) := by
  obtain ⟨hn, D, hD, hC⟩ := h
  unfold act2
  split
  · rcases putS_or s a.c with e | e <;> rw [e]
    · exact ⟨hn, D, hD, hC⟩
    · refine ⟨by simp; omega, D, hD, ?_⟩
      show (undoC D (s.C ++ [a.c])).take _ = _
      rw [undoC_app D s.C a.c fun x hx => by have := hg x (by rw [hD]; exact List.mem_append_right _ hx); omega, List.take_append_of_le_length (by rw [undoC_length]; exact hn)]
      exact hC
  · rcases setS_or s a.n a.c with e | ⟨hin, e⟩ <;> rw [e]
    · exact ⟨hn, D, hD, hC⟩
    · simp only [inC, Bool.and_eq_true, decide_eq_true_eq] at hin
      obtain ⟨hl, ec⟩ := cellOf_in hin.1 hin.2
      refine ⟨by simp only [List.length_set]; exact hn, D ++ [⟨a.n, cellOf s.C a.n, topS s.T a.n⟩], by simp only [hD, List.append_assoc], ?_⟩
      show (undoC (D ++ [_]) (s.C.set a.n.toNat a.c)).take _ = _
      rw [undoC_snoc, List.set_set, ec, List.set_getElem_self]
      exact hC
theorem undo_back {s0 s : Hp} (h : Later s0 s) : (undoS' s s0.C.length s0.T.length).C = s0.C ∧ (undoS' s s0.C.length s0.T.length).T = s0.T := by
  obtain ⟨hn, D, hD, hC⟩ := h
  refine ⟨?_, ?_⟩
  · show (undoC (s.T.drop s0.T.length) s.C).take s0.C.length = s0.C
    rw [hD, List.drop_left']
    · exact hC
    · rfl
  · show s.T.take s0.T.length = s0.T
    rw [hD, List.take_left']
    rfl
theorem symS_T (s : Hp) (nm : List UInt8) : (symS s nm).2.T = s.T := by unfold symS; split <;> rfl
theorem symS_N (s : Hp) (nm : List UInt8) : (symS s nm).2.N.length ≤ s.N.length + 1 := by unfold symS; split <;> simp
theorem sym_good {s : Hp} (nm : List UInt8) (h : GoodH s) : GoodH (symS s nm).2 := by
  intro e he
  rw [symS_T] at he; rw [symS_C]; exact h e he

end Go.AM

set_option maxRecDepth 100000
open Go Go.Proofs
namespace Go.AM

/-! ### What is undone is as it was -/
abbrev w1 (l m : List Act) (s : Hp) (i : Int) : St := ⟨[(0, aAs l), (1, aAs m), (5, cb true), (8, aH 0), (9, ci i)], hsN s, 5⟩
abbrev mk2 (n k : Nat) : AObj := .arr 2 [[.a (.fz (.int .i64 (n : Int))), .a (.fz (.int .i64 (k : Int)))]]
abbrev hsM (s : Hp) (n k : Nat) : List (Nat × AObj) := [(0, hp6 1 2 3 4 s), (1, .arz 5 (CR s.C)), (2, .arz 7 (TR s.T)), (3, .arz 1 (NR s.N)), (4, .mapz (NM s.N 0)), (5, mk2 n k)]
abbrev hsW (s : Hp) (n k : Nat) (W : List (List FV)) : List (Nat × AObj) := [(0, hp6 1 2 3 4 s), (1, .arz 5 (CR s.C)), (2, .arz 7 (TR s.T)), (3, .arz 1 (NR s.N)), (4, .mapz (NM s.N 0)), (5, mk2 n k), (6, .arz 5 W)]
abbrev w3a (m : List Act) (s : Hp) (n k : Nat) (i : Int) : St := ⟨[(1, aAs m), (5, cb true), (8, aH 0), (10, .c (.a (.ep 5 2 0 0))), (11, .c (.a (.fz .nils))), (15, ci i)], hsM s n k, 6⟩
abbrev w3b (m : List Act) (s : Hp) (n k : Nat) (W : List (List FV)) (p : Nat) (i : Int) : St := ⟨[(1, aAs m), (5, cb true), (8, aH 0), (10, .c (.a (.ep 5 2 0 0))), (11, .c (.a (.osl 6 5 0 p))), (15, ci i)], hsW s n k W, 7⟩
abbrev w2b (m : List Act) (s : Hp) (n k : Nat) (W : List (List FV)) (p : Nat) (i : Int) : St := ⟨[(1, aAs m), (5, cb true), (8, aH 0), (10, .c (.a (.ep 5 2 0 0))), (11, .c (.a (.osl 6 5 0 p))), (12, ci i)], hsW s n k W, 7⟩
abbrev w4b (s : Hp) (W : List (List FV)) (p : Nat) (i : Int) : St := ⟨[(5, cb true), (8, aH 0), (11, .c (.a (.osl 5 5 0 p))), (16, ci i)], [(0, hp6 1 2 3 4 s), (1, .arz 5 (CR s.C)), (2, .arz 7 (TR s.T)), (3, .arz 1 (NR s.N)), (4, .mapz (NM s.N 0)), (5, .arz 5 W)], 6⟩
theorem l_w4 (s : Hp) (hB : s.C.length ≤ 1000) : ∀ (j i : Nat), i + j = s.C.length → RPt Try.prog 5 0 (cb true) [] 13 (w4b s (CR s.C) s.C.length (i : Int))
  | 0, i, hi => by
    refine RPt.vc hP sh lv5 (Eq.mpr (v5_13b ..) ?_)
    exact br_of (fun h => absurd (of_decide_eq_true h) (by omega)) (fun _ => ret_b rfl)
  | j + 1, i, hi => by
    refine RPt.vc hP sh lv5 (Eq.mpr (v5_13b ..) ?_)
    have hi2 : i < s.C.length := by omega
    have hc := c_hcell s (i : Int)
    obtain ⟨hl, e⟩ := cellOf_in (C := s.C) (x := (i : Int)) (by omega) (by omega)
    simp only [Int.toNat_natCast] at e
    rw [e, show inC s.C (i : Int) = true by simp [inC]; omega] at hc
    have eg : List.getD (CR s.C) (0 + Int.toNat (i : Int)) [] = s.C[i].r := by rw [Nat.zero_add, Int.toNat_natCast, CR_get hi2]
    have eC := CR_length s.C
    rw [eg, w64 (x := (i : Int) + 1) (by omega) (by omega)]
    refine br_of (fun _ => ⟨_, _, _, _, _, _, hc, br_of (fun h => by cases h) (fun _ => ⟨⟨by omega, by omega⟩, ⟨by rw [eC]; omega, rfl, rfl⟩, br_of (fun h => ?_) (fun _ => ?_)⟩)⟩) (fun h => absurd (of_decide_eq_false h) (by omega))
    · have h : (!((s.C[i].t == s.C[i].t) && ((s.C[i].a == s.C[i].a) && ((s.C[i].b == s.C[i].b) && ((s.C[i].c == s.C[i].c) && ((s.C[i].d == s.C[i].d) && true)))))) = true := h
      simp at h
    · exact l_w4 s hB j (i + 1) (by omega)
section
variable (m : List Act) (hm : m.length ≤ 60) (s0 : Hp) (g0 : GoodH s0) (hC0 : s0.C.length ≤ 60) (hT0 : s0.T.length ≤ 60)
include hm g0 hC0 hT0
omit hT0 in
theorem l_w3b : ∀ (j i : Nat) (s : Hp), i + j = m.length → GoodH s → Later s0 s → s.C.length ≤ 60 + i → s.T.length ≤ 60 + i →
    RPt Try.prog 5 0 (cb true) [] 9 (w3b m s s0.C.length s0.T.length (CR s0.C) s0.C.length (i : Int))
  | 0, i, s, hi, hg, hl, h1, h2 => by
    refine RPt.vc hP sh lv5 (Eq.mpr (v5_9b ..) ?_)
    have hl2 := AR_length m
    obtain ⟨uC, uT⟩ := undo_back hl
    have hu := c_hundo s s0.C.length s0.T.length (by obtain ⟨_, D, hD, _⟩ := hl; rw [hD, List.length_append]; omega) (by omega) hl.1 (fun e he => ⟨(hg e he).1, (hg e he).2.1⟩) (fun e he => by
      have he' : e ∈ (undoS' s s0.C.length s0.T.length).T := he
      rw [uT] at he'; exact (g0 e he').2.2)
    have eU : undoS' s s0.C.length s0.T.length = ⟨s0.C, s0.T, s.M, s.L, s.N⟩ := by
      have uC' : (undoC (s.T.drop s0.T.length) s.C).take s0.C.length = s0.C := uC
      have uT' : s.T.take s0.T.length = s0.T := uT
      unfold undoS'; rw [uC', uT']
    rw [eU] at hu
    refine ⟨rfl, br_of (fun h => absurd (of_decide_eq_true h) (by omega)) (fun _ => ⟨⟨s0.C, s0.T, s.M, s.L, s.N⟩, hu, _, _, c_hmark ⟨s0.C, s0.T, s.M, s.L, s.N⟩, br_of (fun h => ?_) (fun _ => ⟨_, c_hlen ⟨s0.C, s0.T, s.M, s.L, s.N⟩, br_of (fun h => ?_) (fun _ => ?_)⟩)⟩)⟩
    · simp at h
    · simp at h
    · exact l_w4 ⟨s0.C, s0.T, s.M, s.L, s.N⟩ (by show s0.C.length ≤ 1000; omega) s0.C.length 0 (Nat.zero_add _)
  | j + 1, i, s, hi, hg, hl, h1, h2 => by
    refine RPt.vc hP sh lv5 (Eq.mpr (v5_9b ..) ?_)
    have hi2 : i < m.length := by omega
    have hl2 := AR_length m
    have ei : List.getD (AR14 m) (Int.toNat (i : Int)) [] = m[i].r := by rw [Int.toNat_natCast, AR_get hi2]
    obtain ⟨a1, a2, a3, _⟩ := act2_good m[i] hg
    have a5 := act2_later m[i] hg hl
    have ih := l_w3b j (i + 1) (act2 s m[i]) (by omega) a1 a5 (by omega) (by omega)
    rw [ei, w64 (x := (i : Int) + 1) (by omega) (by omega)]
    generalize m[i] = a at *
    refine ⟨rfl, br_of (fun _ => ⟨⟨rfl, by omega, by omega, rfl⟩, ⟨rfl, by decide⟩, br_eq (x := Int.tmod a.k 2) (n := 0) (fun q => ⟨⟨rfl, by omega, by omega, rfl⟩, putS s a.c, c_hput s a.c (by omega), ?_⟩) (fun q => ⟨⟨rfl, by omega, by omega, rfl⟩, ⟨rfl, by omega, by omega, rfl⟩, setS s a.n a.c, c_hset s a.n a.c (by omega), ?_⟩)⟩) (fun h => absurd (of_decide_eq_false h) (by omega))⟩
    · rw [act2, if_pos q] at ih; exact ih
    · rw [act2, if_neg q] at ih; exact ih
omit hC0 hT0 in
theorem l_w3a (hz : s0.C.length = 0) : ∀ (j i : Nat) (s : Hp), i + j = m.length → GoodH s → Later s0 s → s.C.length ≤ 60 + i → s.T.length ≤ 60 + i →
    RPt Try.prog 5 0 (cb true) [] 9 (w3a m s s0.C.length s0.T.length (i : Int))
  | 0, i, s, hi, hg, hl, h1, h2 => by
    refine RPt.vc hP sh lv5 (Eq.mpr (v5_9a ..) ?_)
    have hl2 := AR_length m
    obtain ⟨uC, uT⟩ := undo_back hl
    have hu := c_hundo s s0.C.length s0.T.length (by obtain ⟨_, D, hD, _⟩ := hl; rw [hD, List.length_append]; omega) (by omega) hl.1 (fun e he => ⟨(hg e he).1, (hg e he).2.1⟩) (fun e he => by
      have he' : e ∈ (undoS' s s0.C.length s0.T.length).T := he
      rw [uT] at he'; exact (g0 e he').2.2)
    have eU : undoS' s s0.C.length s0.T.length = ⟨s0.C, s0.T, s.M, s.L, s.N⟩ := by
      have uC' : (undoC (s.T.drop s0.T.length) s.C).take s0.C.length = s0.C := uC
      have uT' : s.T.take s0.T.length = s0.T := uT
      unfold undoS'; rw [uC', uT']
    rw [eU] at hu
    refine ⟨rfl, br_of (fun h => absurd (of_decide_eq_true h) (by omega)) (fun _ => ⟨⟨s0.C, s0.T, s.M, s.L, s.N⟩, hu, _, _, c_hmark ⟨s0.C, s0.T, s.M, s.L, s.N⟩, br_of (fun h => ?_) (fun _ => ⟨_, c_hlen ⟨s0.C, s0.T, s.M, s.L, s.N⟩, rfl, br_of (fun h => ?_) (fun _ => ?_)⟩)⟩)⟩
    · simp at h
    · simp [hz] at h
    · refine RPt.vc hP sh lv5 (Eq.mpr (v5_13a ..) ?_)
      exact ⟨rfl, br_of (fun h => by cases h) (fun _ => ret_b rfl)⟩
  | j + 1, i, s, hi, hg, hl, h1, h2 => by
    refine RPt.vc hP sh lv5 (Eq.mpr (v5_9a ..) ?_)
    have hi2 : i < m.length := by omega
    have hl2 := AR_length m
    have ei : List.getD (AR14 m) (Int.toNat (i : Int)) [] = m[i].r := by rw [Int.toNat_natCast, AR_get hi2]
    obtain ⟨a1, a2, a3, _⟩ := act2_good m[i] hg
    have a5 := act2_later m[i] hg hl
    have ih := l_w3a hz j (i + 1) (act2 s m[i]) (by omega) a1 a5 (by omega) (by omega)
    rw [ei, w64 (x := (i : Int) + 1) (by omega) (by omega)]
    generalize m[i] = a at *
    refine ⟨rfl, br_of (fun _ => ⟨⟨rfl, by omega, by omega, rfl⟩, ⟨rfl, by decide⟩, br_eq (x := Int.tmod a.k 2) (n := 0) (fun q => ⟨⟨rfl, by omega, by omega, rfl⟩, putS s a.c, c_hput s a.c (by omega), ?_⟩) (fun q => ⟨⟨rfl, by omega, by omega, rfl⟩, ⟨rfl, by omega, by omega, rfl⟩, setS s a.n a.c, c_hset s a.n a.c (by omega), ?_⟩)⟩) (fun h => absurd (of_decide_eq_false h) (by omega))⟩
    · rw [act2, if_pos q] at ih; exact ih
    · rw [act2, if_neg q] at ih; exact ih
theorem l_w2b : ∀ (j i : Nat), i + j = s0.C.length → RPt Try.prog 5 0 (cb true) [] 5 (w2b m s0 s0.C.length s0.T.length (CR (s0.C.take i)) i (i : Int))
  | 0, i, hi => by
    refine RPt.vc hP sh lv5 (Eq.mpr (v5_5b ..) ?_)
    have nx := l_w3b m hm s0 g0 hC0 m.length 0 s0 (by omega) g0 (Later.refl s0) (by omega) (by omega)
    refine ⟨_, c_hlen s0, br_of (fun h => absurd (of_decide_eq_true h) (by omega)) (fun _ => ?_)⟩
    obtain rfl : i = s0.C.length := by omega
    rw [List.take_of_length_le (Nat.le_refl _)]
    exact nx
  | j + 1, i, hi => by
    refine RPt.vc hP sh lv5 (Eq.mpr (v5_5b ..) ?_)
    have hi2 : i < s0.C.length := by omega
    have hc := c_hcell s0 (i : Int)
    obtain ⟨hl, e⟩ := cellOf_in (C := s0.C) (x := (i : Int)) (by omega) (by omega)
    simp only [Int.toNat_natCast] at e
    rw [e] at hc
    have ih := l_w2b j (i + 1) (by omega)
    have e1 : CR (s0.C.take (i + 1)) = List.take i (CR (s0.C.take i)) ++ [s0.C[i].r] := by
      have e0 : List.take i (CR (s0.C.take i)) = CR (s0.C.take i) := List.take_of_length_le (by rw [CR_length, List.length_take]; omega)
      rw [e0, ← CR_app, List.take_append_getElem hi2]
    rw [e1] at ih
    rw [w64 (x := (i : Int) + 1) (by omega) (by omega)]
    refine ⟨_, c_hlen s0, br_of (fun _ => ⟨_, _, _, _, _, _, hc, Nat.le_refl _, ⟨by rw [CR_length, List.length_take]; omega, by simp only [roomB]; omega⟩, ?_⟩) (fun h => absurd (of_decide_eq_false h) (by omega))⟩
    exact ih
end
theorem l_w1 (l m : List Act) (hll : l.length ≤ 60) (hm : m.length ≤ 60) : ∀ (j i : Nat) (s : Hp), i + j = l.length → GoodH s → s.C.length ≤ i → s.T.length ≤ i → s.N.length ≤ i →
    RPt Try.prog 5 0 (cb true) [] 1 (w1 l m s (i : Int))
  | 0, i, s, hi, hg, h1, h2, h3 => by
    refine RPt.vc hP sh lv5 (Eq.mpr (v5_1a ..) ?_)
    have hl2 := AR_length l
    refine ⟨rfl, br_of (fun h => absurd (of_decide_eq_true h) (by omega)) (fun _ => ⟨_, _, c_hmark s, ?_⟩)⟩
    refine RPt.vc hP sh lv5 (Eq.mpr (v5_5a ..) ?_)
    refine ⟨_, c_hlen s, br_of (fun h => ?_) (fun h => ?_)⟩
    · have h : (0 : Int) < (s.C.length : Int) := of_decide_eq_true h
      have hc := c_hcell s 0
      obtain ⟨hl, e⟩ := cellOf_in (C := s.C) (x := 0) (by omega) (by omega)
      rw [e] at hc
      have nx := l_w2b m hm s hg (by omega) (by omega) (s.C.length - 1) 1 (by omega)
      have e1 : CR (s.C.take 1) = [s.C[(0 : Int).toNat].r] := by
        obtain ⟨c, C', hcc⟩ : ∃ c C', s.C = c :: C' := by
          match hs : s.C with
          | [] => rw [hs] at h; simp at h
          | c :: C' => exact ⟨c, C', rfl⟩
        simp [hcc, CR]
      rw [e1] at nx
      exact ⟨_, _, _, _, _, _, hc, Nat.le_refl _, by simp only [roomB]; omega, nx⟩
    · have h : ¬ (0 : Int) < (s.C.length : Int) := of_decide_eq_false h
      exact l_w3a m hm s hg (by omega) m.length 0 s (by omega) hg (Later.refl s) (by omega) (by omega)
  | j + 1, i, s, hi, hg, h1, h2, h3 => by
    refine RPt.vc hP sh lv5 (Eq.mpr (v5_1a ..) ?_)
    have hi2 : i < l.length := by omega
    have hl2 := AR_length l
    have ei : List.getD (AR14 l) (Int.toNat (i : Int)) [] = l[i].r := by rw [Int.toNat_natCast, AR_get hi2]
    have hs := c_hsym s l[i].s (by omega)
    have g1 := sym_good l[i].s hg
    obtain ⟨a1, a2, a3, a4⟩ := act2_good l[i] g1
    have b1 := symS_C s l[i].s
    have b2 := symS_T s l[i].s
    have b3 := symS_N s l[i].s
    rw [b1] at a2
    rw [b2] at a3
    have ih := l_w1 l m hll hm j (i + 1) (act2 (symS s l[i].s).2 l[i]) (by omega) a1 (by omega) (by omega) (by rw [a4]; omega)
    rw [ei, w64 (x := (i : Int) + 1) (by omega) (by omega)]
    generalize l[i] = a at *
    refine ⟨rfl, br_of (fun _ => ⟨⟨rfl, by omega, by omega, rfl⟩, symS s a.s, hs, ⟨rfl, by omega, by omega, rfl⟩, ⟨rfl, by decide⟩, br_eq (x := Int.tmod a.k 2) (n := 0) (fun q => ⟨⟨rfl, by omega, by omega, rfl⟩, putS (symS s a.s).2 a.c, c_hput _ a.c (by rw [b1]; omega), ?_⟩) (fun q => ⟨⟨rfl, by omega, by omega, rfl⟩, ⟨rfl, by omega, by omega, rfl⟩, setS (symS s a.s).2 a.n a.c, c_hset _ a.n a.c (by rw [b2]; omega), ?_⟩)⟩) (fun h => absurd (of_decide_eq_false h) (by omega))⟩
    · rw [act2, if_pos q] at ih; exact ih
    · rw [act2, if_neg q] at ih; exact ih
theorem c_heapundoes (l m : List Act) (hz : ∀ a ∈ l, a.t.sz ≤ B) (hz2 : ∀ a ∈ m, a.t.sz ≤ B) : AC Try.prog 5 [aAs l, aAs m] [] (cb true) [] := by
  refine AC.vc hP sh lv5 (Nat.le_refl _) (by simp) (by simp) (Eq.mpr (v5 ..) ?_)
  refine ⟨_, c_works20, br_of (fun h => by cases h) (fun _ => ⟨_, c_over20 l hz, _, c_over20 m hz2, br_of (fun _ => ret_b rfl) (fun h1 => br_of (fun _ => ret_b rfl) (fun h2 => ⟨⟨[], [], 300, 300, []⟩, c_hnew 300 300, ?_⟩))⟩)⟩
  exact l_w1 l m (overA_len h1) (overA_len h2) l.length 0 ⟨[], [], 300, 300, []⟩ (by omega) (fun e he => by cases he) (by simp) (by simp) (by simp)

end Go.AM

set_option maxRecDepth 100000
open Go Go.Proofs
namespace Go.Proofs.Ytmeolnpbbhinjaa.base
open Go.ChangeShapes Go.WideShapes Go.ChangeAt Go.RowKit Go.AM

theorem one_le {H : Type} (d : DataW H) : 1 ≤ Rows.uptoBulk d := by
  cases d with
  | lit l => cases l <;> simp [Rows.uptoBulk]
  | _ => simp [Rows.uptoBulk]
theorem bulk {H : Type} : Bulk (H := H) Rows.uptoBulk Rows.uptoBulkAll :=
  ⟨rfl, fun _ _ => rfl, one_le, fun es sp => by simp only [Rows.uptoBulk]; omega, fun l => by simp [Rows.uptoBulk], fun l => by simp [Rows.uptoBulk]⟩
theorem own : ownKnob Try.prog.godebug = none := by kernel_rfl
theorem laidOut : laidOutB Try.prog = true := by kernel_rfl
theorem tmTy : ∃ f0 f1 f2 f3 : Field, TmTy Try.prog 25 f0 f1 f2 f3 :=
  ⟨_, _, _, _, Try.underlying25, Try.underlying22, Try.underlying9, Try.underlying3, Try.underlying23, rfl, rfl, rfl, rfl, by kernel_rfl, by kernel_rfl, by kernel_rfl, by kernel_rfl, by kernel_rfl⟩
theorem rec3 : Try.prog.readableRec 3 = true := by kernel_rfl
theorem lt3 : 3 < Try.prog.types.size := of_decide_eq_true (by kernel_rfl)
theorem rec9 : Try.prog.readableRec 9 = true := by kernel_rfl
theorem lt9 : 9 < Try.prog.types.size := of_decide_eq_true (by kernel_rfl)
theorem rec23 : Try.prog.readableRec 23 = true := by kernel_rfl
theorem lt23 : 23 < Try.prog.types.size := of_decide_eq_true (by kernel_rfl)
theorem rec25 : Try.prog.readableRec 25 = true := by kernel_rfl
theorem lt25 : 25 < Try.prog.types.size := of_decide_eq_true (by kernel_rfl)
theorem rec36 : Try.prog.readableRec 36 = true := by kernel_rfl
theorem lt36 : 36 < Try.prog.types.size := of_decide_eq_true (by kernel_rfl)
theorem rec44 : Try.prog.readableRec 44 = true := by kernel_rfl
theorem lt44 : 44 < Try.prog.types.size := of_decide_eq_true (by kernel_rfl)
theorem rec49 : Try.prog.readableRec 49 = true := by kernel_rfl
theorem lt49 : 49 < Try.prog.types.size := of_decide_eq_true (by kernel_rfl)
theorem noGl (g : Nat) (h : Try.prog.globalNamed "internal/strconv.uint64pow10" = some g) : False := by
  rw [show Try.prog.globalNamed "internal/strconv.uint64pow10" = none by kernel_rfl] at h; cases h
theorem num_range {n : Int} (h : (Lit.int .i64 n).wf = true) : -9223372036854775808 ≤ n ∧ n ≤ 9223372036854775807 := by
  simp only [Lit.wf, IntKind.min, IntKind.max, IntKind.signed, IntKind.bits, Bool.and_eq_true, decide_eq_true_eq, if_true] at h; omega
theorem upto {H : Type} {l : List (DataW H)} (hk : Rows.uptoSmall H l = true) : Rows.uptoBulkAll l ≤ 1048576 := of_decide_eq_true hk
end Go.Proofs.Ytmeolnpbbhinjaa.base
