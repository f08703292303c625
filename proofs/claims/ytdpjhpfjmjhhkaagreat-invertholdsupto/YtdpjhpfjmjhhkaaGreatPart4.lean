/- A calculus of plain values for the model's code, what the code of each function asks (computed by the kernel), contracts of the functions, and plain laws (part 4). No conditions. -/
import Derived.Test.YtdpjhpfjmjhhkaaGreatPart3
import Derived.Test.YtdpjhpfjmjhhkaaGreatShelf
set_option maxRecDepth 100000
open Go Go.Proofs
namespace Go.AM
def z7d (c : Int) : Bool := decide (97 ≤ c) && decide (c ≤ 122)
def z8g (c : Int) : Bool := decide (65 ≤ c) && decide (c ≤ 90) || c == 95
def zd9 (c : Int) : Bool := decide (48 ≤ c) && decide (c ≤ 57)
def z1e (c : Int) : Bool := z7d c || z8g c || zd9 c || c == 39
def zga : List UInt8 := [43, 45, 42, 47, 60, 62, 61, 38, 124, 94, 126, 64, 35, 36, 63, 58]
def z7z (c : Int) : Bool := decide (Lib.indexByte zga c.toNat.toUInt8 ≥ 0)
theorem zsg (c : Int) : AC Tryz.prog 96 [c8 c] [] (cb (z7d c)) [] := by
 refine AC.vc hP sh lv96 (Nat.le_refl _) (by simp) (by simp) (Eq.mpr (v96 ..) ?_)
 refine z00 (fun h => z05 ?_) (fun h => z05 ?_) <;> simp_all [z7d] <;> omega
theorem c_great (c : Int) : AC Tryz.prog 125 [c8 c] [] (cb (z8g c)) [] := by
 refine AC.vc hP sh lv125 (Nat.le_refl _) (by simp) (by simp) (Eq.mpr (v125 ..) ?_)
 refine z00 (fun h => z00 (fun h => z05 ?_) (fun h => z05 ?_)) (fun h => z05 ?_) <;> simp_all [z8g] <;> omega
theorem c_digit (c : Int) : AC Tryz.prog 126 [c8 c] [] (cb (zd9 c)) [] := by
 refine AC.vc hP sh lv126 (Nat.le_refl _) (by simp) (by simp) (Eq.mpr (v126 ..) ?_)
 refine z00 (fun h => z05 ?_) (fun h => z05 ?_) <;> simp_all [zd9] <;> omega
theorem c_inside (c : Int) : AC Tryz.prog 98 [c8 c] [] (cb (z1e c)) [] := by
 refine AC.vc hP sh lv98 (Nat.le_refl _) (by simp) (by simp) (Eq.mpr (v98 ..) ?_)
 refine ⟨_, zsg c, z00 (fun h => z05 ?_) (fun h => ⟨_, c_great c, z00 (fun h => z05 ?_) (fun h => ⟨_, c_digit c, z00 (fun h => z05 ?_) (fun h => z05 ?_)⟩)⟩)⟩ <;> simp_all [z1e]
theorem zjm (s : List UInt8) (c : Int) : AC Tryz.prog 144 [cs s, c8 c] [] (ci (Lib.indexByte s c.toNat.toUInt8)) [] :=
 AC.str_u8 (by kernel_rfl) fun w => Tryz.stringslite_IndexByte ⟨s.toArray⟩ c w
theorem zkr (s : List UInt8) (c : Int) : AC Tryz.prog 127 [cs s, c8 c] [] (ci (Lib.indexByte s c.toNat.toUInt8)) [] :=
 AC.str_u8 (by kernel_rfl) fun w => Tryz.strings_IndexByte ⟨s.toArray⟩ c w
theorem c_sign (c : Int) : AC Tryz.prog 99 [c8 c] [] (cb (z7z c)) [] := by
 refine AC.vc hP sh lv99 (Nat.le_refl _) (by simp) (by simp) (Eq.mpr (v99 ..) ?_)
 exact ⟨_, zkr _ c, z05 rfl⟩
def runN (p : Int → Bool) : List UInt8 → Nat
 | [] => 0
 | c :: s => if p (c.toNat : Int) then runN p s + 1 else 0
theorem zqy (p : Int → Bool) : ∀ s : List UInt8, runN p s ≤ s.length
 | [] => Nat.le_refl _
 | c :: s => by have := zqy p s; simp only [runN, List.length_cons]; split <;> omega
theorem zbm (a : List UInt8) (c : UInt8) (b : List UInt8) : List.getD (a ++ c :: b) (Int.toNat (a.length : Int)) 0 = c := by simp [List.getD]
theorem zah : ∀ (b a : List UInt8), (a ++ b).length ≤ B → RPt Tryz.prog 97 0 (ci ((a.length : Int) + runN z1e b)) [] 1 ⟨[(0, cs (a ++ b)), (1, .c (.fn (.func 98) [] [])), (7, ci (((a ++ b).length : Nat) : Int)), (8, ci a.length)], [], 0⟩
 | [], a, hl => by
  refine RPt.vc hP sh lv97 (Eq.mpr (zf2 ..) ?_)
  exact z00 (fun h => absurd h (by simp)) (fun _ => z31 (by simp [runN]))
 | c :: b, a, hl => by
  refine RPt.vc hP sh lv97 (Eq.mpr (zf2 ..) ?_)
  have hl' := hl
  simp only [List.length_append, List.length_cons, B] at hl'
  refine z00 (fun _ => ⟨⟨by omega, by simp; omega⟩, z1e (c.toNat : Int), ?_, z00 (fun h => z31 ?_) (fun h => ?_)⟩) (fun h => absurd h (by simp; omega))
  · rw [zbm]; exact c_inside _
  · simp_all [runN]
  · have := zah b (a ++ [c]) (by simpa using hl)
    rw [w64 (by omega) (by omega)]
    simp only [List.append_assoc, List.cons_append, List.nil_append, List.length_append, List.length_cons, List.length_nil, Int.natCast_add, Int.natCast_one, Int.natCast_zero, Int.zero_add] at this
    simp only [Bool.not_eq_false'] at h
    simp only [runN, h, if_true, List.length_append, List.length_cons, Int.natCast_add, Int.natCast_one]
    rw [show (a.length : Int) + ((runN z1e b : Nat) + 1 : Int) = (a.length : Int) + 1 + (runN z1e b : Nat) by omega]
    exact this
theorem zh4 (s : List UInt8) (h : s.length ≤ B) : AC Tryz.prog 97 [cs s, .c (.fn (.func 98) [] [])] [] (ci (runN z1e s)) [] := by
 refine AC.vc hP sh lv97 (Nat.le_refl _) (by simp) (by simp) (Eq.mpr (v97_F98 ..) ?_)
 have := zah s [] (by simpa using h)
 simpa using this
theorem zey : ∀ (b a : List UInt8), (a ++ b).length ≤ B → RPt Tryz.prog 97 0 (ci ((a.length : Int) + runN z7z b)) [] 1 ⟨[(0, cs (a ++ b)), (1, .c (.fn (.func 99) [] [])), (7, ci (((a ++ b).length : Nat) : Int)), (8, ci a.length)], [], 0⟩
 | [], a, hl => by
  refine RPt.vc hP sh lv97 (Eq.mpr (zea ..) ?_)
  exact z00 (fun h => absurd h (by simp)) (fun _ => z31 (by simp [runN]))
 | c :: b, a, hl => by
  refine RPt.vc hP sh lv97 (Eq.mpr (zea ..) ?_)
  have hl' := hl
  simp only [List.length_append, List.length_cons, B] at hl'
  refine z00 (fun _ => ⟨⟨by omega, by simp; omega⟩, z7z (c.toNat : Int), ?_, z00 (fun h => z31 ?_) (fun h => ?_)⟩) (fun h => absurd h (by simp; omega))
  · rw [zbm]; exact c_sign _
  · simp_all [runN]
  · have := zey b (a ++ [c]) (by simpa using hl)
    rw [w64 (by omega) (by omega)]
    simp only [List.append_assoc, List.cons_append, List.nil_append, List.length_append, List.length_cons, List.length_nil, Int.natCast_add, Int.natCast_one, Int.natCast_zero, Int.zero_add] at this
    simp only [Bool.not_eq_false'] at h
    simp only [runN, h, if_true, List.length_append, List.length_cons, Int.natCast_add, Int.natCast_one]
    rw [show (a.length : Int) + ((runN z7z b : Nat) + 1 : Int) = (a.length : Int) + 1 + (runN z7z b : Nat) by omega]
    exact this
theorem zq0 (s : List UInt8) (h : s.length ≤ B) : AC Tryz.prog 97 [cs s, .c (.fn (.func 99) [] [])] [] (ci (runN z7z s)) [] := by
 refine AC.vc hP sh lv97 (Nat.le_refl _) (by simp) (by simp) (Eq.mpr (v97_F99 ..) ?_)
 have := zey s [] (by simpa using h)
 simpa using this
theorem z8a (p : Int → Bool) : ∀ s : List UInt8, (((runN p s : Nat) : Int) == ((s.length : Nat) : Int)) = s.all fun c => p (c.toNat : Int)
 | [] => rfl
 | c :: s => by
  have ih := z8a p s
  have := zqy p s
  simp only [runN, List.all_cons, List.length_cons]
  cases h : p (c.toNat : Int) with
  | true => rw [← ih]; simp only [if_true, Bool.true_and]; rw [Bool.eq_iff_iff]; simp <;> omega
  | false => simp; omega
def zcw (s : List UInt8) : Bool := !(s == []) && decide ((s.length : Int) ≤ 32)
theorem c_fits (s : List UInt8) : AC Tryz.prog 95 [cs s] [] (cb (zcw s)) [] := by
 refine AC.vc hP sh lv95 (Nat.le_refl _) (by simp) (by simp) (Eq.mpr (v95 ..) ?_)
 refine z00 (fun h => z05 ?_) (fun h => z05 ?_) <;> simp_all [zcw]
def z7j (s : List UInt8) : Bool := zcw s && z7d ((s.getD 0 0).toNat : Int) && s.all fun c => z1e (c.toNat : Int)
theorem zm0 {s : List UInt8} (h : zcw s = true) : 0 < s.length ∧ s.length ≤ 32 := by
 simp only [zcw, Bool.and_eq_true, Bool.not_eq_true', decide_eq_true_eq] at h
 refine ⟨?_, by omega⟩
 cases s with
 | nil => simp at h
 | cons c s => simp
theorem c_isname (s : List UInt8) : AC Tryz.prog 64 [cs s] [] (cb (z7j s)) [] := by
 refine AC.vc hP sh lv64 (Nat.le_refl _) (by simp) (by simp) (Eq.mpr (v64 ..) ?_)
 refine ⟨_, c_fits s, z00 (fun h => ⟨⟨by omega, by have := zm0 h; omega⟩, _, zsg _, z00 (fun h2 => ⟨_, zh4 s (by have := zm0 h; simp only [B]; omega), z05 ?_⟩) (fun h2 => z05 ?_)⟩) (fun h => z05 ?_)⟩
 · rw [z8a]; simp only [z7j, h, h2, Bool.true_and]
 · simp only [z7j, h, h2, Bool.and_false, Bool.false_and]
 · simp only [z7j, h, Bool.false_and]
def zlo : List UInt8 := [44, 59, 33]
theorem zlv (s : List UInt8) (c : UInt8) (hs : s.length ≤ B) : AC Tryz.prog 100 [cs s, cs [c]] [] (cb (decide (Lib.indexByte s c ≥ 0))) [] := by
 have hb : (c.toNat : Int).toNat.toUInt8 = c := by simp
 have h1 : AC Tryz.prog 145 [cs s, cs [c]] [] (ci (if [c] == s then 0 else Lib.indexByte s c)) [] := by
  refine AC.vc hP sh lv145 (Nat.le_refl _) (by simp) (by simp) (Eq.mpr (v145 ..) ?_)
  refine z00 (fun h => absurd h (by simp)) (fun _ => z00 (fun h => z31 (by simp [h])) (fun h => z00 (fun _ => ⟨⟨by omega, by simp⟩, _, zjm s _, z31 ?_⟩) (fun h2 => absurd h2 (by simp))))
  rw [h]
  simp
 have h2 : AC Tryz.prog 128 [cs s, cs [c]] [] (ci (if [c] == s then 0 else Lib.indexByte s c)) [] := by
  refine AC.vc hP sh lv128 (Nat.le_refl _) (by simp) (by simp) (Eq.mpr (v128 ..) ?_)
  exact ⟨_, h1, z31 rfl⟩
 refine AC.vc hP sh lv100 (Nat.le_refl _) (by simp) (by simp) (Eq.mpr (v100 ..) ?_)
 refine ⟨_, h2, z05 ?_⟩
 by_cases e : [c] = s
 · subst e
   simp [Lib.indexByte]
 · have : ([c] == s) = false := by simpa using e
   rw [this]; simp
def zdm (s : List UInt8) : Bool := zcw s && ((s.all fun c => z7z (c.toNat : Int)) || ((s.length : Int) == 1 && decide (Lib.indexByte zlo (s.getD 0 0) ≥ 0)))
theorem c_issym (s : List UInt8) : AC Tryz.prog 65 [cs s] [] (cb (zdm s)) [] := by
 refine AC.vc hP sh lv65 (Nat.le_refl _) (by simp) (by simp) (Eq.mpr (v65 ..) ?_)
 refine ⟨_, c_fits s, z00 (fun h => ⟨_, zq0 s (by have := zm0 h; simp only [B]; omega), z00 (fun h2 => z05 ?_) (fun h2 => z00 (fun h3 => ?_) (fun h3 => z05 ?_))⟩) (fun h => z05 ?_)⟩
 · rw [z8a] at h2; simp only [zdm, h, h2, Bool.true_and, Bool.true_or]
 · rw [z8a] at h2
   match s, h3 with
   | [c], h3 =>
    refine ⟨_, zlv zlo c (by simp [zlo, B]), z05 ?_⟩
    simp only [zdm, h, h2, h3, Bool.true_and, Bool.false_or, List.getD_cons_zero]
   | [], h3 => simp at h3
   | _ :: _ :: _, h3 => simp at h3; omega
 · rw [z8a] at h2; simp only [zdm, h, h2, h3, Bool.false_and, Bool.false_or, Bool.and_false]
 · simp only [zdm, h, Bool.false_and]
end Go.AM

set_option maxRecDepth 100000
open Go Go.Proofs
namespace Go.AM
mutual
def near (most : Int) : Tm → Bool
 | .mk k _ n l => !(k != 2 && (decide (n > most) || decide (n < 0 - most))) && zlr most l
def zlr (most : Int) : List Tm → Bool
 | [] => true
 | t :: l => near most t && zlr most l
end
theorem l_near (most : Int) (k : Int) (s : List UInt8) (n : Int) : ∀ (b a : List Tm), (∀ u ∈ b, AC Tryz.prog 42 [aT u, ci most] [] (cb (near most u)) []) → (a ++ b).length ≤ B →
  RPt Tryz.prog 42 0 (cb (zlr most b)) [] 1 ⟨[(1, ci most), (2, (.c (.a (.ep 0 4 0 0)))), (5, ci a.length)], [(0, (.arr 4 [fzs (FT (.mk k s n (a ++ b)))]))], 1⟩
 | [], a, _, hl => by
  refine RPt.vc hP sh lv42 (Eq.mpr (v42_1a ..) ?_)
  exact ⟨rfl, z00 (fun h => absurd (of_decide_eq_true h) (geI' a)) (fun _ => z05 rfl)⟩
 | t :: b, a, ih, hl => by
  refine RPt.vc hP sh lv42 (Eq.mpr (v42_1a ..) ?_)
  have hl' := hl
  simp only [List.length_append, List.length_cons, B] at hl'
  refine ⟨rfl, z00 (fun _ => ?_) (fun h => absurd (ltI' a t b) (of_decide_eq_false h))⟩
  have h1 := ih t List.mem_cons_self
  have h2 := l_near most k s n b (a ++ [t]) (fun u hu => ih u (List.mem_cons_of_mem _ hu)) (by rw [ap]; exact hl)
  have h3 := ltI' a t b
  rw [ap, nx] at h2
  rw [midI, w64 (by omega) (by omega)]
  obtain ⟨k', s', n', l'⟩ := t
  refine ⟨⟨rfl, by omega, h3, rfl⟩, _, h1, z00 (fun h => z05 ?_) (fun h => ?_)⟩
  · simp_all [zlr]
  · simp only [zlr, show near most (.mk k' s' n' l') = true by simpa using h, Bool.true_and]; exact h2
theorem c_near (most : Int) (h0 : 0 ≤ most) (h1 : most ≤ 4611686018427387904) : ∀ t : Tm, t.sz ≤ B → AC Tryz.prog 42 [aT t, ci most] [] (cb (near most t)) [] := by
 refine Tm.ind fun t ih hs => ?_
 obtain ⟨k, s, n, l⟩ := t
 have hl := Tm.szs_length l
 simp only [Tm.sz, B] at hs
 refine AC.vc hP sh lv42 (Nat.le_refl _) (by simp) (by simp) (Eq.mpr (v42 k s n (FTs l) most _ _) ?_)
 have key := l_near most k s n l [] (fun u hu => ih u hu (by have := Tm.szs_mem hu; simp only [B]; omega)) (by simp only [List.nil_append, B]; omega)
 rw [w64 (by omega) (by omega)]
 rw [near]
 refine z00 (fun h => z00 (fun h2 => z05 ?_) (fun h2 => z00 (fun h3 => z05 ?_) (fun h3 => ?_))) (fun h => ?_)
 · simp only [h, h2, Bool.true_or, Bool.and_true, Bool.not_true, Bool.false_and]
 · simp only [h, h3, Bool.or_true, Bool.and_true, Bool.not_true, Bool.false_and]
 · simp only [h2, h3, Bool.or_false, Bool.and_false, Bool.not_false, Bool.true_and]; exact key
 · simp only [h, Bool.false_and, Bool.not_false, Bool.true_and]; exact key
mutual
def z9l : Tm → Int → Int
 | .mk _ _ _ l, most => z9v l (most - 1)
def z9v : List Tm → Int → Int
 | [], n => n
 | t :: l, n => if n ≥ 0 then z9v l (z9l t n) else n
end
mutual
theorem zom : ∀ (t : Tm) (n : Int), z9l t n ≤ n - 1 ∧ (0 ≤ n → -1 ≤ z9l t n)
 | .mk _ _ _ l, n => by
  have h := zfo l (n - 1)
  simp only [z9l]
  exact ⟨h.1, fun hn => h.2 (by omega)⟩
theorem zfo : ∀ (l : List Tm) (n : Int), z9v l n ≤ n ∧ (-1 ≤ n → -1 ≤ z9v l n)
 | [], n => by simp [z9v]
 | t :: l, n => by
  have h1 := zom t n
  have h2 := zfo l (z9l t n)
  simp only [z9v]
  split
  · rename_i h; exact ⟨by omega, fun _ => h2.2 (h1.2 h)⟩
  · exact ⟨Int.le_refl _, fun h => h⟩
end
theorem l_left (k : Int) (s : List UInt8) (n : Int) : ∀ (b a : List Tm) (m : Int), (∀ u ∈ b, ∀ m : Int, 0 ≤ m → m ≤ 4611686018427387904 → AC Tryz.prog 81 [aT u, ci m] [] (ci (z9l u m)) []) → (a ++ b).length ≤ B → m ≤ 4611686018427387904 →
  RPt Tryz.prog 81 0 (ci (z9v b m)) [] 1 ⟨[(2, (.c (.a (.ep 0 4 0 0)))), (5, ci m), (6, ci a.length)], [(0, (.arr 4 [fzs (FT (.mk k s n (a ++ b)))]))], 1⟩
 | [], a, m, _, hl, hm => by
  refine RPt.vc hP sh lv81 (Eq.mpr (v81_1a ..) ?_)
  exact ⟨rfl, z00 (fun h => absurd (of_decide_eq_true h) (geI' a)) (fun _ => z31 rfl)⟩
 | t :: b, a, m, ih, hl, hm => by
  refine RPt.vc hP sh lv81 (Eq.mpr (v81_1a ..) ?_)
  have hl' := hl
  simp only [List.length_append, List.length_cons, B] at hl'
  refine ⟨rfl, z00 (fun _ => z00 (fun hm0 => ?_) (fun hm0 => z31 ?_)) (fun h => absurd (ltI' a t b) (of_decide_eq_false h))⟩
  · have hm0 := of_decide_eq_true hm0
    have h1 := ih t List.mem_cons_self m hm0 hm
    have hle := zom t m
    have h2 := l_left k s n b (a ++ [t]) (z9l t m) (fun u hu => ih u (List.mem_cons_of_mem _ hu)) (by rw [ap]; exact hl) (by omega)
    have h3 := ltI' a t b
    rw [ap, nx] at h2
    rw [midI, w64 (by omega) (by omega)]
    simp only [z9v, hm0, if_true]
    obtain ⟨k', s', n', l'⟩ := t
    exact ⟨⟨rfl, by omega, h3, rfl⟩, _, h1, h2⟩
  · have hm0 := of_decide_eq_false hm0
    simp only [z9v, hm0, if_false]
theorem c_left : ∀ t : Tm, t.sz ≤ B → ∀ m : Int, 0 ≤ m → m ≤ 4611686018427387904 → AC Tryz.prog 81 [aT t, ci m] [] (ci (z9l t m)) [] := by
 refine Tm.ind fun t ih hs m h0 h1 => ?_
 obtain ⟨k, s, n, l⟩ := t
 have hl := Tm.szs_length l
 simp only [Tm.sz, B] at hs
 refine AC.vc hP sh lv81 (Nat.le_refl _) (by simp) (by simp) (Eq.mpr (v81 k s n (FTs l) m _ _) ?_)
 rw [w64 (by omega) (by omega)]
 exact l_left k s n l [] (m - 1) (fun u hu => ih u hu (by have := Tm.szs_mem hu; simp only [B]; omega)) (by simp only [List.nil_append, B]; omega) (by omega)
def z9i (t : Tm) (most : Int) : Bool := decide (z9l t most < 0)
theorem zrr (t : Tm) (hs : t.sz ≤ B) (m : Int) (h0 : 0 ≤ m) (h1 : m ≤ 4611686018427387904) : AC Tryz.prog 41 [aT t, ci m] [] (cb (z9i t m)) [] := by
 have h := c_left t hs m h0 h1
 obtain ⟨k, s, n, l⟩ := t
 refine AC.vc hP sh lv41 (Nat.le_refl _) (by simp) (by simp) (Eq.mpr (v41 k s n (FTs l) m _ _) ?_)
 exact ⟨_, h, z05 rfl⟩
mutual
def z9f : Tm → Tm → Bool
 | .mk k s n l, .mk k' s' n' l' => k == k' && (s == s' && (n == n' && zat l l'))
def zat : List Tm → List Tm → Bool
 | [], [] => true
 | t :: l, u :: m => z9f t u && zat l m
 | _, _ => false
end
mutual
theorem zgz : ∀ a b : Tm, z9f a b = true ↔ a = b
 | .mk k s n l, .mk k' s' n' l' => by simp only [z9f, Bool.and_eq_true, beq_iff_eq, Tm.mk.injEq, zhn l l']
theorem zhn : ∀ a b : List Tm, zat a b = true ↔ a = b
 | [], [] => by simp [zat]
 | t :: l, u :: m => by simp only [zat, Bool.and_eq_true, List.cons.injEq, zgz t u, zhn l m]
 | [], _ :: _ => by simp [zat]
 | _ :: _, [] => by simp [zat]
end
theorem zjl : ∀ {a b : List Tm}, a.length ≠ b.length → zat a b = false
 | [], [], h => absurd rfl h
 | t :: l, u :: m, h => by simp only [zat, zjl (a := l) (b := m) (fun e => h (by simp [e])), Bool.and_false]
 | [], _ :: _, _ => rfl
 | _ :: _, [], _ => rfl
theorem l_same (k : Int) (s : List UInt8) (n : Int) (k' : Int) (s' : List UInt8) (n' : Int) : ∀ (b a b' a' : List Tm), (∀ u ∈ b, ∀ v ∈ b', AC Tryz.prog 25 [aT u, aT v] [] (cb (z9f u v)) []) → (a ++ b).length ≤ B → a.length = a'.length → b.length = b'.length →
  RPt Tryz.prog 25 0 (cb (zat b b')) [] 1 ⟨[(2, (.c (.a (.ep 0 4 0 0)))), (3, (.c (.a (.ep 1 4 0 0)))), (5, ci a.length)], [(0, (.arr 4 [fzs (FT (.mk k s n (a ++ b)))])), (1, (.arr 4 [fzs (FT (.mk k' s' n' (a' ++ b')))]))], 2⟩
 | [], a, [], a', _, hl, _, _ => by
  refine RPt.vc hP sh lv25 (Eq.mpr (v25_1a ..) ?_)
  exact ⟨rfl, z00 (fun h => absurd (of_decide_eq_true h) (geI' a)) (fun _ => z05 rfl)⟩
 | t :: b, a, u :: b', a', ih, hl, ha, hb => by
  refine RPt.vc hP sh lv25 (Eq.mpr (v25_1a ..) ?_)
  have hl' := hl
  simp only [List.length_append, List.length_cons, B] at hl'
  refine ⟨rfl, z00 (fun _ => ?_) (fun h => absurd (ltI' a t b) (of_decide_eq_false h))⟩
  have h1 := ih t List.mem_cons_self u List.mem_cons_self
  have h2 := l_same k s n k' s' n' b (a ++ [t]) b' (a' ++ [u]) (fun x hx y hy => ih x (List.mem_cons_of_mem _ hx) y (List.mem_cons_of_mem _ hy)) (by rw [ap]; exact hl) (by simp [ha]) (by simpa using hb)
  have h3 := ltI' a t b
  have h4 := ltI' a' u b'
  rw [← ha] at h4
  rw [ap, ap, nx] at h2
  rw [midI, midI' a a' ha, w64 (by omega) (by omega)]
  obtain ⟨k1, s1, n1, l1⟩ := t
  obtain ⟨k2, s2, n2, l2⟩ := u
  refine ⟨⟨rfl, by omega, h3, rfl⟩, ⟨rfl, by omega, h4, rfl⟩, _, h1, z00 (fun h => z05 ?_) (fun h => ?_)⟩
  · rw [zat, show z9f (.mk k1 s1 n1 l1) (.mk k2 s2 n2 l2) = false by simpa using h, Bool.false_and]
  · rw [zat, show z9f (.mk k1 s1 n1 l1) (.mk k2 s2 n2 l2) = true by simpa using h, Bool.true_and]; exact h2
theorem zu3 : ∀ a : Tm, a.sz ≤ B → ∀ b : Tm, AC Tryz.prog 25 [aT a, aT b] [] (cb (z9f a b)) [] := by
 refine Tm.ind fun a ih hs b => ?_
 obtain ⟨k, s, n, l⟩ := a
 obtain ⟨k', s', n', l'⟩ := b
 have hl := Tm.szs_length l
 simp only [Tm.sz, B] at hs
 refine AC.vc hP sh lv25 (Nat.le_refl _) (by simp) (by simp) (Eq.mpr (v25 k s n (FTs l) k' s' n' (FTs l') _ _) ?_)
 have key := fun he => l_same k s n k' s' n' l [] l' [] (fun u hu v _ => ih u hu (by have := Tm.szs_mem hu; simp only [B]; omega) v) (by simp only [List.nil_append, B]; omega) rfl he
 rw [lenI, lenI]
 refine z00 (fun h => z05 ?_) (fun h => z00 (fun h2 => z05 ?_) (fun h2 => z00 (fun h3 => z05 ?_) (fun h3 => ⟨rfl, rfl, z00 (fun h4 => z05 ?_) (fun h4 => ?_)⟩)))
 · simp only [z9f, show (k == k') = false by simpa using h, Bool.false_and]
 · simp only [z9f, show (s == s') = false by simpa using h2, Bool.false_and, Bool.and_false]
 · simp only [z9f, show (n == n') = false by simpa using h3, Bool.false_and, Bool.and_false]
 · rw [z9f, zjl (by intro e; simp [e] at h4)]; simp
 · simp only [z9f, show (k == k') = true by simpa using h, show (s == s') = true by simpa using h2, show (n == n') = true by simpa using h3, Bool.true_and]
   exact key (by have : (l.length : Int) = l'.length := by simpa using h4
                 omega)
def Tm.inner (t : Tm) : Bool := t.k == 5 || t.k == 6
def Tm.kids (t : Tm) : List Tm := if t.inner = true then t.l else []
def Tm.by (t : Tm) : Int := if t.k == 5 then 1 else 0
end Go.AM

set_option maxRecDepth 100000
open Go Go.Proofs
namespace Go.AM
inductive La where
 | con (k n : Int) (s : List UInt8)
 | var (x : Int)
 | bv (n : Nat)
 | lam (b : La)
 | app (f a : La)
namespace La
def size : La → Nat
 | con _ _ _ => 1
 | var _ => 1
 | bv _ => 1
 | lam b => b.size + 1
 | app f a => f.size + a.size + 1
def lift : La → Nat → La
 | con k n s, _ => con k n s
 | var x, _ => var x
 | bv n, k => if n < k then bv n else bv (n + 1)
 | lam b, k => lam (b.lift (k + 1))
 | app f a, k => app (f.lift k) (a.lift k)
def sub : La → La → Nat → La
 | con k n s, _, _ => con k n s
 | var x, _, _ => var x
 | bv n, u, k => if n < k then bv n else if n = k then u else bv (n - 1)
 | lam b, u, k => lam (b.sub (u.lift 0) (k + 1))
 | app f a, u, k => app (f.sub u k) (a.sub u k)
theorem z3r : ∀ (t : La) (k : Nat), (t.lift k).size = t.size
 | con _ _ _, _ => rfl
 | var _, _ => rfl
 | bv n, k => by rw [lift]; split <;> rfl
 | lam b, k => by rw [lift, size, size, z3r b]
 | app f a, k => by rw [lift, size, size, z3r f, z3r a]
theorem z4p : ∀ (t : La) (i k : Nat), i ≤ k → (t.lift i).lift (k + 1) = (t.lift k).lift i
 | con _ _ _, _, _, _ => rfl
 | var _, _, _, _ => rfl
 | bv n, i, k, h => by
  by_cases h1 : n < i
  · rw [lift, if_pos h1, lift, if_pos (by omega), lift, if_pos (by omega), lift, if_pos h1]
  · by_cases h2 : n < k
    · rw [lift, if_neg h1, lift, if_pos (by omega), lift, if_pos h2, lift, if_neg h1]
    · rw [lift, if_neg h1, lift, if_neg (by omega), lift, if_neg h2, lift, if_neg (by omega)]
 | lam b, i, k, h => by rw [lift, lift, lift, lift, z4p b (i + 1) (k + 1) (by omega)]
 | app f a, i, k, h => by rw [lift, lift, lift, lift, z4p f i k h, z4p a i k h]
theorem z8y : ∀ (t u : La) (i j : Nat), j ≤ i → (t.sub u j).lift i = (t.lift (i + 1)).sub (u.lift i) j
 | con _ _ _, _, _, _, _ => rfl
 | var _, _, _, _, _ => rfl
 | bv n, u, i, j, h => by
  by_cases h1 : n < j
  · rw [sub, if_pos h1, lift, if_pos (by omega), lift, if_pos (by omega), sub, if_pos h1]
  · by_cases h2 : n = j
    · rw [sub, if_neg h1, if_pos h2, lift, if_pos (by omega), sub, if_neg h1, if_pos h2]
    · rw [sub, if_neg h1, if_neg h2]
      by_cases h3 : n < i + 1
      · rw [lift, if_pos (by omega), lift, if_pos h3, sub, if_neg h1, if_neg h2]
      · rw [lift, if_neg (by omega), lift, if_neg h3, sub, if_neg (by omega), if_neg (by omega)]
        congr 1; omega
 | lam b, u, i, j, h => by rw [sub, lift, lift, sub, z8y b _ (i + 1) (j + 1) (by omega), ← z4p u 0 i (by omega)]
 | app f a, u, i, j, h => by rw [sub, lift, lift, sub, z8y f u i j h, z8y a u i j h]
theorem z4q : ∀ (t u : La) (i j : Nat), i ≤ j → (t.sub u j).lift i = (t.lift i).sub (u.lift i) (j + 1)
 | con _ _ _, _, _, _, _ => rfl
 | var _, _, _, _, _ => rfl
 | bv n, u, i, j, h => by
  by_cases h1 : n < i
  · rw [sub, if_pos (by omega), lift, if_pos h1, sub, if_pos (by omega)]
  · rw [show (bv n).lift i = bv (n + 1) by rw [lift, if_neg h1]]
    by_cases h2 : n < j
    · rw [sub, if_pos h2, lift, if_neg h1, sub, if_pos (by omega)]
    · by_cases h3 : n = j
      · rw [sub, if_neg h2, if_pos h3, sub, if_neg (by omega), if_pos (by omega)]
      · rw [sub, if_neg h2, if_neg h3, sub, if_neg (by omega), if_neg (by omega), lift, if_neg (by omega)]
        congr 1; omega
 | lam b, u, i, j, h => by rw [sub, lift, lift, sub, z4q b _ (i + 1) (j + 1) (by omega), ← z4p u 0 i (by omega)]
 | app f a, u, i, j, h => by rw [sub, lift, lift, sub, z4q f u i j h, z4q a u i j h]
theorem z5u : ∀ (t u : La) (k : Nat), (t.lift k).sub u k = t
 | con _ _ _, _, _ => rfl
 | var _, _, _ => rfl
 | bv n, u, k => by
  by_cases h : n < k
  · rw [lift, if_pos h, sub, if_pos h]
  · rw [lift, if_neg h, sub, if_neg (by omega), if_neg (by omega)]; rfl
 | lam b, u, k => by rw [lift, sub, z5u b]
 | app f a, u, k => by rw [lift, sub, z5u f, z5u a]
theorem z5m : ∀ (t : La) (k : Nat), (t.lift (k + 1)).sub (bv k) k = t
 | con _ _ _, _ => rfl
 | var _, _ => rfl
 | bv n, k => by
  by_cases h : n < k + 1
  · rw [lift, if_pos h, sub]
    by_cases h2 : n < k
    · rw [if_pos h2]
    · rw [if_neg h2, if_pos (by omega), show n = k by omega]
  · rw [lift, if_neg h, sub, if_neg (by omega), if_neg (by omega)]; rfl
 | lam b, k => by rw [lift, sub, lift, if_neg (by omega), z5m b]
 | app f a, k => by rw [lift, sub, z5m f, z5m a]
theorem zg2 : ∀ (t u v : La) (i j : Nat), i ≤ j → (t.sub (v.lift i) (j + 1)).sub (u.sub v j) i = (t.sub u i).sub v j
 | con _ _ _, _, _, _, _, _ => rfl
 | var _, _, _, _, _, _ => rfl
 | bv n, u, v, i, j, h => by
  by_cases h1 : n < i
  · rw [sub, if_pos (by omega), sub, if_pos h1, sub, if_pos h1, sub, if_pos (by omega)]
  · by_cases h2 : n = i
    · rw [sub, if_pos (by omega), sub, if_neg h1, if_pos h2, sub, if_neg h1, if_pos h2]
    · rw [show (bv n).sub u i = bv (n - 1) by rw [sub, if_neg h1, if_neg h2]]
      by_cases h3 : n < j + 1
      · rw [sub, if_pos h3, sub, if_neg h1, if_neg h2, sub, if_pos (by omega)]
      · by_cases h4 : n = j + 1
        · rw [sub, if_neg h3, if_pos h4, z5u, sub, if_neg (by omega), if_pos (by omega)]
        · rw [sub, if_neg h3, if_neg h4, sub, if_neg (by omega), if_neg (by omega), sub, if_neg (by omega), if_neg (by omega)]
 | lam b, u, v, i, j, h => by
  rw [sub, sub, sub, sub, ← z4p v 0 i (by omega), z4q u v 0 j (by omega), zg2 b (u.lift 0) (v.lift 0) (i + 1) (j + 1) (by omega)]
 | app f a, u, v, i, j, h => by rw [sub, sub, sub, sub, zg2 f u v i j h, zg2 a u v i j h]
theorem lift_inj : ∀ {t u : La} {k : Nat}, t.lift k = u.lift k → t = u := fun {t u k} h => by
 have := congrArg (fun x => La.sub x (bv 0) k) h
 simpa only [z5u] using this
theorem z8f : ∀ (f w : La) (i k : Nat), i ≤ k → f.lift (k + 1) = w.lift i → ∃ g : La, f = g.lift i ∧ w = g.lift k
 | con a b c, w, i, k, h, e => ⟨con a b c, rfl, by
  cases w with
  | con _ _ _ => exact e.symm
  | var _ => cases e
  | bv n => rw [lift, lift] at e; split at e <;> cases e
  | lam _ => cases e
  | app _ _ => cases e⟩
 | var x, w, i, k, h, e => ⟨var x, rfl, by
  cases w with
  | con _ _ _ => cases e
  | var _ => exact e.symm
  | bv n => rw [lift, lift] at e; split at e <;> cases e
  | lam _ => cases e
  | app _ _ => cases e⟩
 | bv n, w, i, k, h, e => by
  cases w with
  | con _ _ _ => rw [lift, lift] at e; split at e <;> cases e
  | var _ => rw [lift, lift] at e; split at e <;> cases e
  | lam _ => rw [lift, lift] at e; split at e <;> cases e
  | app _ _ => rw [lift, lift] at e; split at e <;> cases e
  | bv m =>
   rw [lift, lift] at e
   by_cases h1 : n < k + 1
   · rw [if_pos h1] at e
     by_cases h2 : m < i
     · rw [if_pos h2] at e
       injection e with e
       subst e
       exact ⟨bv n, by rw [lift, if_pos h2], by rw [lift, if_pos (by omega)]⟩
     · rw [if_neg h2] at e
       injection e with e
       subst e
       exact ⟨bv m, by rw [lift, if_neg h2], by rw [lift, if_pos (by omega)]⟩
   · rw [if_neg h1] at e
     by_cases h2 : m < i
     · rw [if_pos h2] at e
       injection e with e
       omega
     · rw [if_neg h2] at e
       injection e with e
       have e : n = m := by omega
       subst e
       refine ⟨bv (n - 1), ?_, ?_⟩
       · rw [lift, if_neg (by omega)]; congr 1; omega
       · rw [lift, if_neg (by omega)]; congr 1; omega
 | lam b, w, i, k, h, e => by
  cases w with
  | con _ _ _ => cases e
  | var _ => cases e
  | bv n => rw [lift, lift] at e; split at e <;> cases e
  | app _ _ => cases e
  | lam c =>
   rw [lift, lift] at e
   injection e with e
   obtain ⟨g, h1, h2⟩ := z8f b c (i + 1) (k + 1) (by omega) e
   exact ⟨lam g, by rw [lift, h1], by rw [lift, h2]⟩
 | app f a, w, i, k, h, e => by
  cases w with
  | con _ _ _ => cases e
  | var _ => cases e
  | bv n => rw [lift, lift] at e; split at e <;> cases e
  | lam _ => cases e
  | app f2 a2 =>
   rw [lift, lift] at e
   injection e with e1 e2
   obtain ⟨g, h1, h2⟩ := z8f f f2 i k h e1
   obtain ⟨g2, h3, h4⟩ := z8f a a2 i k h e2
   exact ⟨app g g2, by rw [lift, h1, h3], by rw [lift, h2, h4]⟩
theorem lift_bv0 {a : La} {k : Nat} (h : a.lift (k + 1) = bv 0) : a = bv 0 := by
 cases a with
 | con _ _ _ => cases h
 | var _ => cases h
 | lam _ => cases h
 | app _ _ => cases h
 | bv n =>
  rw [lift] at h
  split at h
  · exact h
  · cases h
end La
open La
section
variable (V : Int → Option La)
inductive Be : La → La → Prop
 | con (k n : Int) (s : List UInt8) : Be (.con k n s) (.con k n s)
 | var (x : Int) : Be (.var x) (.var x)
 | bv (n : Nat) : Be (.bv n) (.bv n)
 | del {x : Int} {v : La} : V x = some v → Be (.var x) v
 | lam {b b' : La} : Be b b' → Be (.lam b) (.lam b')
 | app {f f' a a' : La} : Be f f' → Be a a' → Be (.app f a) (.app f' a')
 | beta {b b' a a' : La} : Be b b' → Be a a' → Be (.app (.lam b) a) (b'.sub a' 0)
end
inductive Et : La → La → Prop
 | con (k n : Int) (s : List UInt8) : Et (.con k n s) (.con k n s)
 | var (x : Int) : Et (.var x) (.var x)
 | bv (n : Nat) : Et (.bv n) (.bv n)
 | lam {b b' : La} : Et b b' → Et (.lam b) (.lam b')
 | app {f f' a a' : La} : Et f f' → Et a a' → Et (.app f a) (.app f' a')
 | eta {u u' : La} : Et u u' → Et (.lam (.app (u.lift 0) (.bv 0))) u'
def ClV (V : Int → Option La) : Prop := ∀ x v, V x = some v → ∀ k, v.lift k = v
section
variable {V : Int → Option La} (hV : ClV V)
theorem Be.refl : ∀ t : La, Be V t t
 | .con k n s => .con k n s
 | .var x => .var x
 | .bv n => .bv n
 | .lam b => .lam (Be.refl b)
 | .app f a => .app (Be.refl f) (Be.refl a)
theorem Et.refl : ∀ t : La, Et t t
 | .con k n s => .con k n s
 | .var x => .var x
 | .bv n => .bv n
 | .lam b => .lam (Et.refl b)
 | .app f a => .app (Et.refl f) (Et.refl a)
theorem zdb {f a n : La} (h : Be V (.app f a) n) : (∃ f' a', n = .app f' a' ∧ Be V f f' ∧ Be V a a') ∨ ∃ b b' a', f = .lam b ∧ n = b'.sub a' 0 ∧ Be V b b' ∧ Be V a a' := by
 cases h with
 | app h1 h2 => exact .inl ⟨_, _, rfl, h1, h2⟩
 | beta h1 h2 => exact .inr ⟨_, _, _, rfl, rfl, h1, h2⟩
theorem zam {b n : La} (h : Be V (.lam b) n) : ∃ b', n = .lam b' ∧ Be V b b' := by
 cases h with
 | lam h => exact ⟨_, rfl, h⟩
theorem zj2 {m : Nat} {n : La} (h : Be V (.bv m) n) : n = .bv m := by cases h; rfl
theorem zhc {k m : Int} {s : List UInt8} {n : La} (h : Be V (.con k m s) n) : n = .con k m s := by cases h; rfl
theorem zo4 {x : Int} {n : La} (h : Be V (.var x) n) : n = .var x ∨ V x = some n := by
 cases h with
 | var => exact .inl rfl
 | del h => exact .inr h
theorem zeu {f a n : La} (h : Et (.app f a) n) : ∃ f' a', n = .app f' a' ∧ Et f f' ∧ Et a a' := by
 cases h with
 | app h1 h2 => exact ⟨_, _, rfl, h1, h2⟩
theorem zbx {b n : La} (h : Et (.lam b) n) : (∃ b', n = .lam b' ∧ Et b b') ∨ ∃ u, b = .app (u.lift 0) (.bv 0) ∧ Et u n := by
 cases h with
 | lam h => exact .inl ⟨_, rfl, h⟩
 | eta h => exact .inr ⟨_, rfl, h⟩
theorem zls {m : Nat} {n : La} (h : Et (.bv m) n) : n = .bv m := by cases h; rfl
theorem ziy {k m : Int} {s : List UInt8} {n : La} (h : Et (.con k m s) n) : n = .con k m s := by cases h; rfl
theorem zhu {x : Int} {n : La} (h : Et (.var x) n) : n = .var x := by cases h; rfl
theorem et_lift {t t' : La} (h : Et t t') : ∀ k : Nat, Et (t.lift k) (t'.lift k) := by
 induction h with
 | con k n s => intro _; exact .con _ _ _
 | var x => intro _; exact .var _
 | bv n => intro _; exact .refl _
 | lam _ ih => intro k; exact .lam (ih (k + 1))
 | app _ _ h1 h2 => intro k; exact .app (h1 k) (h2 k)
 | @eta u u' _ ih =>
  intro k
  have : La.lift (.lam (.app (u.lift 0) (.bv 0))) k = .lam (.app ((u.lift k).lift 0) (.bv 0)) := by
   rw [La.lift, La.lift, z4p u 0 k (by omega), La.lift, if_pos (by omega)]
  rw [this]
  exact .eta (ih k)
theorem et_sub {t t' : La} (h : Et t t') : ∀ {u u' : La} (k : Nat), Et u u' → Et (t.sub u k) (t'.sub u' k) := by
 induction h with
 | con k n s => intro _ _ _ _; exact .con _ _ _
 | var x => intro _ _ _ _; exact .var _
 | bv n =>
  intro u u' k hu
  rw [La.sub, La.sub]
  split
  · exact .bv _
  · split
    · exact hu
    · exact .bv _
 | lam _ ih => intro u u' k hu; exact .lam (ih (k + 1) (et_lift hu 0))
 | app _ _ h1 h2 => intro u u' k hu; exact .app (h1 k hu) (h2 k hu)
 | @eta w w' _ ih =>
  intro u u' k hu
  have : La.sub (.lam (.app (w.lift 0) (.bv 0))) u k = .lam (.app ((w.sub u k).lift 0) (.bv 0)) := by
   rw [La.sub, La.sub, z4q w u 0 k (by omega), La.sub, if_pos (by omega)]
  rw [this]
  exact .eta (ih k hu)
theorem zd4 : ∀ (m : Nat) (u : La) (k : Nat) (n : La), u.size ≤ m → Et (u.lift k) n → ∃ n', n = n'.lift k ∧ Et u n'
 | 0, u, _, _, hm, _ => by cases u <;> simp only [La.size] at hm <;> omega
 | m + 1, u, k, n, hm, h => by
  cases u with
  | con a b c => exact ⟨.con a b c, ziy h, .refl _⟩
  | var x => exact ⟨.var x, zhu h, .refl _⟩
  | bv i =>
   refine ⟨.bv i, ?_, .refl _⟩
   rw [La.lift] at h ⊢
   split at h
   · rename_i q; rw [if_pos q]; exact zls h
   · rename_i q; rw [if_neg q]; exact zls h
  | app f a =>
   simp only [La.size] at hm
   obtain ⟨f', a', rfl, h1, h2⟩ := zeu h
   obtain ⟨f2, rfl, h3⟩ := zd4 m f k f' (by omega) h1
   obtain ⟨a2, rfl, h4⟩ := zd4 m a k a' (by omega) h2
   exact ⟨.app f2 a2, rfl, .app h3 h4⟩
  | lam b =>
   simp only [La.size] at hm
   rcases zbx h with ⟨b', rfl, h1⟩ | ⟨w, e, h1⟩
   · obtain ⟨b2, rfl, h2⟩ := zd4 m b (k + 1) b' (by omega) h1
     exact ⟨.lam b2, rfl, .lam h2⟩
   · cases b with
     | con _ _ _ => cases e
     | var _ => cases e
     | lam _ => cases e
     | bv i => rw [La.lift] at e; split at e <;> cases e
     | app f a =>
      rw [La.lift] at e
      injection e with e1 e2
      have ea := lift_bv0 e2
      obtain ⟨g, rfl, rfl⟩ := z8f f w 0 k (by omega) e1
      subst ea
      simp only [La.size, z3r] at hm
      obtain ⟨n', rfl, h2⟩ := zd4 m g k n (by omega) h1
      exact ⟨n', rfl, .eta h2⟩
include hV
theorem zsf {t t' : La} (h : Be V t t') : ∀ k : Nat, Be V (t.lift k) (t'.lift k) := by
 induction h with
 | con k n s => intro _; exact .con _ _ _
 | var x => intro _; exact .var _
 | bv n => intro _; exact .refl _
 | @del x v h => intro k; rw [hV x v h k]; exact .del h
 | lam _ ih => intro k; exact .lam (ih (k + 1))
 | app _ _ h1 h2 => intro k; exact .app (h1 k) (h2 k)
 | @beta b b' a a' _ _ h1 h2 =>
  intro k
  rw [z8y b' a' k 0 (by omega)]
  exact .beta (h1 (k + 1)) (h2 k)
theorem znt {t t' : La} (h : Be V t t') : ∀ {u u' : La} (k : Nat), Be V u u' → Be V (t.sub u k) (t'.sub u' k) := by
 induction h with
 | con k n s => intro _ _ _ _; exact .con _ _ _
 | var x => intro _ _ _ _; exact .var _
 | bv n =>
  intro u u' k hu
  rw [La.sub, La.sub]
  split
  · exact .bv _
  · split
    · exact hu
    · exact .bv _
 | @del x v h =>
  intro u u' k hu
  have e := hV x v h k
  have : v.sub u' k = v := by
   have := z5u v u' k
   rwa [e] at this
  rw [this]
  exact .del h
 | lam _ ih => intro u u' k hu; exact .lam (ih (k + 1) (zsf hV hu 0))
 | app _ _ h1 h2 => intro u u' k hu; exact .app (h1 k hu) (h2 k hu)
 | @beta b b' a a' _ _ h1 h2 =>
  intro u u' k hu
  rw [← zg2 b' a' u' 0 k (by omega)]
  exact .beta (h1 (k + 1) (zsf hV hu 0)) (h2 k hu)
theorem z7n : ∀ (u : La) (k : Nat) (n : La), Be V (u.lift k) n → ∃ n', n = n'.lift k ∧ Be V u n'
 | .con a b c, k, n, h => ⟨.con a b c, zhc h, .refl _⟩
 | .var x, k, n, h => by
  rcases zo4 h with rfl | h
  · exact ⟨.var x, rfl, .var x⟩
  · exact ⟨n, (hV x n h k).symm, .del h⟩
 | .bv i, k, n, h => by
  refine ⟨.bv i, ?_, .refl _⟩
  rw [La.lift] at h ⊢
  split at h
  · rename_i q; rw [if_pos q]; exact zj2 h
  · rename_i q; rw [if_neg q]; exact zj2 h
 | .lam b, k, n, h => by
  obtain ⟨b', rfl, h1⟩ := zam h
  obtain ⟨b2, rfl, h2⟩ := z7n b (k + 1) b' h1
  exact ⟨.lam b2, rfl, .lam h2⟩
 | .app f a, k, n, h => by
  rcases zdb h with ⟨f', a', rfl, h1, h2⟩ | ⟨s, s', a', e, rfl, h1, h2⟩
  · obtain ⟨f2, rfl, h3⟩ := z7n f k f' h1
    obtain ⟨a2, rfl, h4⟩ := z7n a k a' h2
    exact ⟨.app f2 a2, rfl, .app h3 h4⟩
  · obtain ⟨a2, rfl, h4⟩ := z7n a k a' h2
    obtain ⟨g, hg, h3⟩ := z7n f k (.lam s') (by rw [e]; exact .lam h1)
    cases f with
    | con _ _ _ => cases e
    | var _ => cases e
    | app _ _ => cases e
    | bv i => rw [La.lift] at e; split at e <;> cases e
    | lam w =>
     obtain ⟨w', rfl, h5⟩ := zam h3
     rw [La.lift] at hg
     injection hg with hg
     subst hg
     exact ⟨w'.sub a2 0, (z8y w' a2 k 0 (by omega)).symm, .beta h5 h4⟩
theorem zro {u n : La} (h : Be V (.app (u.lift 0) (.bv 0)) n) : (∃ u', n = .app (u'.lift 0) (.bv 0) ∧ Be V u u') ∨ ∃ w, u = .lam w ∧ Be V w n := by
 rcases zdb h with ⟨f', a', rfl, h1, h2⟩ | ⟨s, s', a', e, rfl, h1, h2⟩
 · obtain ⟨u', rfl, h3⟩ := z7n hV u 0 f' h1
   rw [zj2 h2]
   exact .inl ⟨u', rfl, h3⟩
 · rw [zj2 h2]
   cases u with
   | con _ _ _ => cases e
   | var _ => cases e
   | app _ _ => cases e
   | bv i => rw [La.lift] at e; split at e <;> cases e
   | lam w =>
    rw [La.lift] at e
    injection e with e
    subst e
    obtain ⟨w', rfl, h3⟩ := z7n hV w 1 s' h1
    rw [z5m w' 0]
    exact .inr ⟨w, rfl, h3⟩
theorem zdr : ∀ (m : Nat) (M N P : La), M.size ≤ m → Be V M N → Et M P → ∃ Q, Et N Q ∧ Be V P Q
 | 0, M, _, _, hm, _, _ => by cases M <;> simp only [La.size] at hm <;> omega
 | m + 1, M, N, P, hm, hb, he => by
  cases M with
  | con a b c => rw [zhc hb, ziy he]; exact ⟨_, .refl _, .refl _⟩
  | bv i => rw [zj2 hb, zls he]; exact ⟨_, .refl _, .refl _⟩
  | var x => rw [zhu he]; exact ⟨N, .refl _, hb⟩
  | lam b =>
   simp only [La.size] at hm
   obtain ⟨b1, rfl, h1⟩ := zam hb
   rcases zbx he with ⟨b2, rfl, h2⟩ | ⟨u, rfl, h2⟩
   · obtain ⟨q, q1, q2⟩ := zdr m b b1 b2 (by omega) h1 h2
     exact ⟨.lam q, .lam q1, .lam q2⟩
   · simp only [La.size, z3r] at hm
     rcases zro hV h1 with ⟨u', rfl, h3⟩ | ⟨w, rfl, h3⟩
     · obtain ⟨q, q1, q2⟩ := zdr m u u' P (by omega) h3 h2
       exact ⟨q, .eta q1, q2⟩
     · exact zdr m (.lam w) (.lam b1) P (by omega) (.lam h3) h2
  | app f a =>
   simp only [La.size] at hm
   obtain ⟨f2, a2, rfl, e1, e2⟩ := zeu he
   rcases zdb hb with ⟨f1, a1, rfl, h1, h2⟩ | ⟨s, s1, a1, rfl, rfl, h1, h2⟩
   · obtain ⟨q, q1, q2⟩ := zdr m f f1 f2 (by omega) h1 e1
     obtain ⟨r, r1, r2⟩ := zdr m a a1 a2 (by omega) h2 e2
     exact ⟨.app q r, .app q1 r1, .app q2 r2⟩
   · simp only [La.size] at hm
     rcases zbx e1 with ⟨s2, rfl, e3⟩ | ⟨u, rfl, e3⟩
     · obtain ⟨q, q1, q2⟩ := zdr m s s1 s2 (by omega) h1 e3
       obtain ⟨r, r1, r2⟩ := zdr m a a1 a2 (by omega) h2 e2
       exact ⟨q.sub r 0, et_sub q1 0 r1, .beta q2 r2⟩
     · simp only [La.size, z3r] at hm
       have hM : Be V (.app u a) (s1.sub a1 0) := by
        rcases zro hV h1 with ⟨u', rfl, h3⟩ | ⟨w, rfl, h3⟩
        · rw [La.sub, z5u, La.sub, if_neg (by omega), if_pos rfl]
          exact .app h3 h2
        · exact .beta h3 h2
       exact zdr m (.app u a) _ _ (by simp only [La.size]; omega) hM (.app e3 e2)
theorem zdn : ∀ (m : Nat) (M N P : La), M.size ≤ m → Be V M N → Be V M P → ∃ Q, Be V N Q ∧ Be V P Q
 | 0, M, _, _, hm, _, _ => by cases M <;> simp only [La.size] at hm <;> omega
 | m + 1, M, N, P, hm, hb, he => by
  cases M with
  | con a b c => rw [zhc hb, zhc he]; exact ⟨_, .refl _, .refl _⟩
  | bv i => rw [zj2 hb, zj2 he]; exact ⟨_, .refl _, .refl _⟩
  | var x =>
   rcases zo4 hb with rfl | h1
   · exact ⟨P, he, .refl _⟩
   · rcases zo4 he with rfl | h2
     · exact ⟨N, .refl _, hb⟩
     · rw [h1] at h2; injection h2 with h2; subst h2; exact ⟨N, .refl _, .refl _⟩
  | lam b =>
   simp only [La.size] at hm
   obtain ⟨b1, rfl, h1⟩ := zam hb
   obtain ⟨b2, rfl, h2⟩ := zam he
   obtain ⟨q, q1, q2⟩ := zdn m b b1 b2 (by omega) h1 h2
   exact ⟨.lam q, .lam q1, .lam q2⟩
  | app f a =>
   simp only [La.size] at hm
   rcases zdb hb with ⟨f1, a1, rfl, h1, h2⟩ | ⟨s, s1, a1, rfl, rfl, h1, h2⟩
   · rcases zdb he with ⟨f2, a2, rfl, e1, e2⟩ | ⟨s, s2, a2, rfl, rfl, e1, e2⟩
     · obtain ⟨q, q1, q2⟩ := zdn m f f1 f2 (by omega) h1 e1
       obtain ⟨r, r1, r2⟩ := zdn m a a1 a2 (by omega) h2 e2
       exact ⟨.app q r, .app q1 r1, .app q2 r2⟩
     · obtain ⟨r, r1, r2⟩ := zdn m a a1 a2 (by omega) h2 e2
       obtain ⟨s1, rfl, h3⟩ := zam h1
       simp only [La.size] at hm
       obtain ⟨q, q1, q2⟩ := zdn m s s1 s2 (by omega) h3 e1
       exact ⟨q.sub r 0, .beta q1 r1, znt hV q2 0 r2⟩
   · simp only [La.size] at hm
     rcases zdb he with ⟨f2, a2, rfl, e1, e2⟩ | ⟨s', s2, a2, e, rfl, e1, e2⟩
     · obtain ⟨r, r1, r2⟩ := zdn m a a1 a2 (by omega) h2 e2
       obtain ⟨s2, rfl, e3⟩ := zam e1
       obtain ⟨q, q1, q2⟩ := zdn m s s1 s2 (by omega) h1 e3
       exact ⟨q.sub r 0, znt hV q1 0 r1, .beta q2 r2⟩
     · injection e with e
       subst e
       obtain ⟨r, r1, r2⟩ := zdn m a a1 a2 (by omega) h2 e2
       obtain ⟨q, q1, q2⟩ := zdn m s s1 s2 (by omega) h1 e1
       exact ⟨q.sub r 0, znt hV q1 0 r1, znt hV q2 0 r2⟩
omit hV in
theorem ztg {u n : La} (h : Et (.app (u.lift 0) (.bv 0)) n) : ∃ u', n = .app (u'.lift 0) (.bv 0) ∧ Et u u' := by
 obtain ⟨f', a', rfl, h1, h2⟩ := zeu h
 obtain ⟨u', rfl, h3⟩ := zd4 u.size u 0 f' (Nat.le_refl _) h1
 rw [zls h2]
 exact ⟨u', rfl, h3⟩
omit hV in
theorem zl5 : ∀ (m : Nat) (M N P : La), M.size ≤ m → Et M N → Et M P → ∃ Q, Et N Q ∧ Et P Q
 | 0, M, _, _, hm, _, _ => by cases M <;> simp only [La.size] at hm <;> omega
 | m + 1, M, N, P, hm, hb, he => by
  cases M with
  | con a b c => rw [ziy hb, ziy he]; exact ⟨_, .refl _, .refl _⟩
  | bv i => rw [zls hb, zls he]; exact ⟨_, .refl _, .refl _⟩
  | var x => rw [zhu hb, zhu he]; exact ⟨_, .refl _, .refl _⟩
  | lam b =>
   simp only [La.size] at hm
   rcases zbx hb with ⟨b1, rfl, h1⟩ | ⟨u, rfl, h1⟩
   · rcases zbx he with ⟨b2, rfl, h2⟩ | ⟨u, rfl, h2⟩
     · obtain ⟨q, q1, q2⟩ := zl5 m b b1 b2 (by omega) h1 h2
       exact ⟨.lam q, .lam q1, .lam q2⟩
     · simp only [La.size, z3r] at hm
       obtain ⟨u', rfl, h3⟩ := ztg h1
       obtain ⟨q, q1, q2⟩ := zl5 m u u' P (by omega) h3 h2
       exact ⟨q, .eta q1, q2⟩
   · simp only [La.size, z3r] at hm
     rcases zbx he with ⟨b2, rfl, h2⟩ | ⟨u2, e, h2⟩
     · obtain ⟨u', rfl, h3⟩ := ztg h2
       obtain ⟨q, q1, q2⟩ := zl5 m u N u' (by omega) h1 h3
       exact ⟨q, q1, .eta q2⟩
     · injection e with e _
       have e := lift_inj e
       subst e
       exact zl5 m u N P (by omega) h1 h2
  | app f a =>
   simp only [La.size] at hm
   obtain ⟨f1, a1, rfl, h1, h2⟩ := zeu hb
   obtain ⟨f2, a2, rfl, e1, e2⟩ := zeu he
   obtain ⟨q, q1, q2⟩ := zl5 m f f1 f2 (by omega) h1 e1
   obtain ⟨r, r1, r2⟩ := zl5 m a a1 a2 (by omega) h2 e2
   exact ⟨.app q r, .app q1 r1, .app q2 r2⟩
end
def St1 (V : Int → Option La) (a b : La) : Prop := Be V a b ∨ Et a b
inductive Sts (V : Int → Option La) : La → La → Prop
 | refl (a : La) : Sts V a a
 | step {a b c : La} : St1 V a b → Sts V b c → Sts V a c
section
variable {V : Int → Option La}
theorem Sts.trans {a b c : La} (h1 : Sts V a b) (h2 : Sts V b c) : Sts V a c := by
 induction h1 with
 | refl => exact h2
 | step h _ ih => exact .step h (ih h2)
theorem Sts.one {a b : La} (h : St1 V a b) : Sts V a b := .step h (.refl _)
variable (hV : ClV V)
include hV
theorem st_dia {M N P : La} (h1 : St1 V M N) (h2 : St1 V M P) : ∃ Q, St1 V N Q ∧ St1 V P Q := by
 rcases h1 with h1 | h1 <;> rcases h2 with h2 | h2
 · obtain ⟨q, q1, q2⟩ := zdn hV _ M N P (Nat.le_refl _) h1 h2
   exact ⟨q, .inl q1, .inl q2⟩
 · obtain ⟨q, q1, q2⟩ := zdr hV _ M N P (Nat.le_refl _) h1 h2
   exact ⟨q, .inr q1, .inl q2⟩
 · obtain ⟨q, q1, q2⟩ := zdr hV _ M P N (Nat.le_refl _) h2 h1
   exact ⟨q, .inl q2, .inr q1⟩
 · obtain ⟨q, q1, q2⟩ := zl5 _ M N P (Nat.le_refl _) h1 h2
   exact ⟨q, .inr q1, .inr q2⟩
theorem st_strip {M N : La} (h1 : Sts V M N) : ∀ {P : La}, St1 V M P → ∃ Q, St1 V N Q ∧ Sts V P Q := by
 induction h1 with
 | refl a => intro P h; exact ⟨P, h, .refl _⟩
 | step h _ ih =>
  intro P hp
  obtain ⟨q, q1, q2⟩ := st_dia hV h hp
  obtain ⟨r, r1, r2⟩ := ih q1
  exact ⟨r, r1, .step q2 r2⟩
theorem st_cr {M N : La} (h1 : Sts V M N) : ∀ {P : La}, Sts V M P → ∃ Q, Sts V N Q ∧ Sts V P Q := by
 intro P h2
 induction h2 generalizing N with
 | refl a => exact ⟨N, .refl _, h1⟩
 | step h _ ih =>
  obtain ⟨q, q1, q2⟩ := st_strip hV h1 h
  obtain ⟨r, r1, r2⟩ := ih q2
  exact ⟨r, .step q1 r1, r2⟩
end
def Eqv (V : Int → Option La) (a b : La) : Prop := ∃ c, Sts V a c ∧ Sts V b c
theorem Eqv.refl {V : Int → Option La} (a : La) : Eqv V a a := ⟨a, .refl _, .refl _⟩
theorem Eqv.symm {V : Int → Option La} {a b : La} (h : Eqv V a b) : Eqv V b a := let ⟨c, h1, h2⟩ := h; ⟨c, h2, h1⟩
theorem Eqv.trans {V : Int → Option La} (hV : ClV V) {a b c : La} (h1 : Eqv V a b) (h2 : Eqv V b c) : Eqv V a c := by
 obtain ⟨x, x1, x2⟩ := h1
 obtain ⟨y, y1, y2⟩ := h2
 obtain ⟨z, z1, z2⟩ := st_cr hV x2 y1
 exact ⟨z, x1.trans z1, y2.trans z2⟩
theorem Eqv.of {V : Int → Option La} {a b : La} (h : Sts V a b) : Eqv V a b := ⟨b, h, .refl _⟩
def NfL (V : Int → Option La) (a : La) : Prop := ∀ b, St1 V a b → b = a
theorem NfL.sts {V : Int → Option La} {a b : La} (h : NfL V a) (hs : Sts V a b) : b = a := by
 induction hs with
 | refl => rfl
 | step h1 _ ih => have := h _ h1; subst this; exact ih h
theorem Eqv.nf {V : Int → Option La} {a b : La} (h : Eqv V a b) (ha : NfL V a) (hb : NfL V b) : a = b := by
 obtain ⟨c, h1, h2⟩ := h
 rw [← ha.sts h1, ← hb.sts h2]
theorem Sts.lam {V : Int → Option La} {a b : La} (h : Sts V a b) : Sts V (.lam a) (.lam b) := by
 induction h with
 | refl => exact .refl _
 | step h _ ih => exact .step (h.imp .lam .lam) ih
theorem Sts.appL {V : Int → Option La} {a b : La} (h : Sts V a b) (c : La) : Sts V (.app a c) (.app b c) := by
 induction h with
 | refl => exact .refl _
 | step h _ ih => exact .step (h.imp (fun h => .app h (.refl _)) (fun h => .app h (.refl _))) ih
theorem Sts.appR {V : Int → Option La} (c : La) {a b : La} (h : Sts V a b) : Sts V (.app c a) (.app c b) := by
 induction h with
 | refl => exact .refl _
 | step h _ ih => exact .step (h.imp (fun h => .app (.refl _) h) (fun h => .app (.refl _) h)) ih
theorem Sts.app {V : Int → Option La} {f f' a a' : La} (h1 : Sts V f f') (h2 : Sts V a a') : Sts V (.app f a) (.app f' a') := (h1.appL a).trans (h2.appR f')
theorem Eqv.lam {V : Int → Option La} {a b : La} (h : Eqv V a b) : Eqv V (.lam a) (.lam b) := let ⟨c, h1, h2⟩ := h; ⟨.lam c, h1.lam, h2.lam⟩
theorem Eqv.app {V : Int → Option La} {f f' a a' : La} (h1 : Eqv V f f') (h2 : Eqv V a a') : Eqv V (.app f a) (.app f' a') := by
 obtain ⟨c, c1, c2⟩ := h1
 obtain ⟨d, d1, d2⟩ := h2
 exact ⟨.app c d, c1.app d1, c2.app d2⟩
theorem Sts.beta {V : Int → Option La} (b a : La) : Sts V (.app (.lam b) a) (b.sub a 0) := .one (.inl (.beta (.refl _) (.refl _)))
theorem Sts.eta {V : Int → Option La} (u : La) : Sts V (.lam (.app (u.lift 0) (.bv 0))) u := .one (.inr (.eta (.refl _)))
theorem Sts.del {V : Int → Option La} {x : Int} {v : La} (h : V x = some v) : Sts V (.var x) v := .one (.inl (.del h))
end Go.AM

set_option maxRecDepth 100000
open Go Go.Proofs
namespace Go.AM
def z5g (t : Tm) : FV := if t.inner = true then .sl false 4 (FTs t.l) else .nils
theorem zc5 (t : Tm) : (z5g t).ses = FTs t.kids ∧ (z5g t).isSl 4 = true := by
 unfold z5g Tm.kids
 split <;> exact ⟨rfl, rfl⟩
theorem z8x (t : Tm) : AC Tryz.prog 88 [aT t] [] (.tup [(false, [.a (.fz (z5g t))]), (false, [.a (.fz (.int .i64 t.by))])]) [] := by
 obtain ⟨k, s, n, l⟩ := t
 refine AC.vc hP sh lv88 (Nat.le_refl _) (by simp) (by simp) (Eq.mpr (v88 k s n (FTs l) _ _) ?_)
 refine z00 (fun h => ⟨?_, rfl⟩) (fun h => z00 (fun h2 => ⟨?_, rfl⟩) (fun h2 => ⟨?_, rfl⟩))
 · have e1 : z5g (.mk k s n l) = .sl false 4 (FTs l) := by unfold z5g Tm.inner; simp only [Tm.k, h, Bool.true_or, if_true, Tm.l]
   have e2 : Tm.by (.mk k s n l) = 1 := by unfold Tm.by; simp only [Tm.k, h, if_true]
   rw [e1, e2]; exact .refl _
 · have e1 : z5g (.mk k s n l) = .sl false 4 (FTs l) := by unfold z5g Tm.inner; simp only [Tm.k, h2, Bool.or_true, if_true, Tm.l]
   have e2 : Tm.by (.mk k s n l) = 0 := by unfold Tm.by; simp only [Tm.k, h, Bool.false_eq_true, if_false]
   rw [e1, e2]; exact .refl _
 · have e1 : z5g (.mk k s n l) = .nils := by unfold z5g Tm.inner; simp only [Tm.k, h, h2, Bool.or_self, Bool.false_eq_true, if_false]
   have e2 : Tm.by (.mk k s n l) = 0 := by unfold Tm.by; simp only [Tm.k, h, Bool.false_eq_true, if_false]
   rw [e1, e2]; exact .refl _
mutual
def z34 : Tm → Nat
 | .mk k _ _ l => 1 + if (k == 5 || k == 6) = true then z7q l else 0
def z7q : List Tm → Nat
 | [] => 0
 | t :: l => z34 t + z7q l
end
theorem sizeF_eq (t : Tm) : z34 t = 1 + z7q t.kids := by
 obtain ⟨k, s, n, l⟩ := t
 by_cases h : (k == 5 || k == 6) = true
 · rw [show Tm.kids (.mk k s n l) = l from if_pos h, z34, if_pos h]
 · rw [show Tm.kids (.mk k s n l) = [] from if_neg h, z34, if_neg h]; rfl
mutual
theorem zbc : ∀ t : Tm, z34 t ≤ t.sz
 | .mk k s n l => by have := zoo l; simp only [z34, Tm.sz]; split <;> omega
theorem zoo : ∀ l : List Tm, z7q l ≤ Tm.szs l
 | [] => Nat.le_refl _
 | t :: l => by have := zbc t; have := zoo l; simp only [z7q, Tm.szs]; omega
end
theorem l_size : ∀ (b a : List Tm) (v : FV) (acc : Nat), v.ses = FTs (a ++ b) → v.isSl 4 = true → (∀ u ∈ b, AC Tryz.prog 172 [aT u] [] (ci (z34 u)) []) → (a ++ b).length ≤ B → acc + z7q b ≤ 2 * B →
  RPt Tryz.prog 172 0 (ci ((acc + z7q b : Nat) : Int)) [] 1 ⟨[(3, ci acc), (13, .c (.a (.fz v))), (14, ci (a ++ b).length), (15, ci a.length)], [], 0⟩
 | [], a, v, acc, hv, hs, _, hl, ha => by
  refine RPt.vc hP sh zre (Eq.mpr (zuc ..) ?_)
  exact z00 (fun h => absurd (of_decide_eq_true h) (by simp)) (fun _ => z31 (by simp [z7q]))
 | t :: b, a, v, acc, hv, hs, ih, hl, ha => by
  refine RPt.vc hP sh zre (Eq.mpr (zuc ..) ?_)
  have hl' := hl
  simp only [List.length_append, List.length_cons, B] at hl'
  simp only [z7q, B] at ha
  have h1 := ih t List.mem_cons_self
  have h2 := l_size b (a ++ [t]) v (acc + z34 t) (by rw [ap]; exact hv) hs (fun u hu => ih u (List.mem_cons_of_mem _ hu)) (by rw [ap]; exact hl) (by simp only [B]; omega)
  have h3 := ltI' a t b
  rw [ap, nx] at h2
  rw [hv, midI, w64 (x := (a.length : Int) + 1) (by omega) (by omega)]
  refine z00 (fun _ => ?_) (fun h => absurd (ltI a t b) (of_decide_eq_false h))
  rw [show acc + z7q (t :: b) = acc + z34 t + z7q b by simp only [z7q]; omega]
  obtain ⟨k', s', n', l'⟩ := t
  refine ⟨⟨hs, by omega, h3, rfl⟩, _, h1, ?_⟩
  rw [w64 (by omega) (by omega), show (acc : Int) + ((z34 (.mk k' s' n' l') : Nat) : Int) = ((acc + z34 (.mk k' s' n' l') : Nat) : Int) by omega]
  exact h2
theorem c_size : ∀ t : Tm, t.sz ≤ B → AC Tryz.prog 172 [aT t] [] (ci (z34 t)) [] := by
 refine Tm.ind fun t ih hs => ?_
 have hw := z8x t
 have hk := zc5 t
 have hsz := sizeF_eq t
 have hle := zbc t
 have hkl : t.kids.length ≤ B ∧ (∀ u ∈ t.kids, u ∈ t.l) := by
  have := Tm.szs_length t.l
  rw [Tm.sz_eq] at hs
  unfold Tm.kids
  split
  · exact ⟨by simp only [B] at *; omega, fun u hu => hu⟩
  · exact ⟨by simp [B], fun u hu => by simp at hu⟩
 have key := l_size t.kids [] (z5g t) 1 (by simpa using hk.1) hk.2 (fun u hu => ih u (hkl.2 u hu) (by have := Tm.szs_mem (hkl.2 u hu); rw [Tm.sz_eq] at hs; simp only [B] at *; omega)) (by simpa using hkl.1) (by simp only [B] at *; omega)
 refine AC.vc hP sh zre (Nat.le_refl _) (by simp) (by simp) (Eq.mpr (v172 ..) ?_)
 refine ⟨_, _, hw, hk.2, ?_⟩
 rw [hk.1, hsz, lenI]
 simpa using key
mutual
def bd (M : Int) : Tm → Prop
 | .mk k _ n l => (k = 3 → 0 - M ≤ n ∧ n ≤ M) ∧ bds M l
def bds (M : Int) : List Tm → Prop
 | [] => True
 | t :: l => bd M t ∧ bds M l
end
theorem z1v {M : Int} : ∀ {l : List Tm} {t : Tm}, bds M l → t ∈ l → bd M t
 | x :: l, t, h, ht => by
  rcases List.mem_cons.1 ht with rfl | ht
  · exact h.1
  · exact z1v h.2 ht
theorem bd_l {M : Int} {t : Tm} (h : bd M t) : bds M t.l := by cases t; exact h.2
def maxI (a b : Int) : Int := if a ≤ b then b else a
theorem zbf (a b : Int) : z0i [a, b] = maxI a b := by
 simp only [z0i, List.foldl, maxI, max, maxOfLe]
mutual
def looseF : Tm → Int → Int → Int
 | .mk kd _ n l, k, acc => if (kd == 5) = true then z4v l (k + 1) acc else if (kd == 6) = true then z4v l k acc else if (kd == 3) = true then maxI acc (n - k + 1) else acc
def z4v : List Tm → Int → Int → Int
 | [], _, acc => acc
 | t :: l, k, acc => z4v l k (looseF t k acc)
end
abbrev obj1 (n : Int) : AObj := .arr 1 [[.a (.fz (.int .i64 n))]]
theorem c_loose1 (u : Tm) (k acc : Int) (hb : u.k = 3 → 0 - 2305843009213693952 ≤ u.n ∧ u.n ≤ 2305843009213693952) (h0 : 0 ≤ k) (h1 : k ≤ 2305843009213693952) :
  AC Tryz.prog 69 [aT u, ci k, .c (.a (.ep 0 1 0 0))] [obj1 acc] (.tup []) [obj1 (if (u.k == 3) = true then maxI acc (u.n - k + 1) else acc)] := by
 obtain ⟨kd, s, n, l⟩ := u
 simp only [Tm.k, Tm.n] at hb
 refine AC.vc hP sh lv69 (Nat.le_refl _) (by simp [isLive]) (by simp) (Eq.mpr (v69 kd s n (FTs l) k acc _ _) ?_)
 refine z00 (fun h => ⟨.refl _, ?_⟩) (fun h => ⟨.refl _, ?_⟩)
 · have hk : kd = 3 := by simpa using h
   have := hb hk
   rw [w64 (x := n - k) (by omega) (by omega), w64 (x := n - k + 1) (by omega) (by omega), zbf]
   simp only [Tm.k, Tm.n, h, if_true]
 · simp only [Tm.k, h, Bool.false_eq_true, if_false]
abbrev tellL : TV := .c (.fn (.func 69) [] [(false, [.ep 0 1 0 0])])
theorem l_each (k by_ : Int) (h0 : 0 ≤ k) (hby : 0 ≤ by_) (hby1 : by_ ≤ 1) : ∀ (b a : List Tm) (v : FV) (acc : Int), v.ses = FTs (a ++ b) → v.isSl 4 = true →
  (∀ u ∈ b, ∀ acc, AC Tryz.prog 58 [aT u, ci (k + by_), tellL] [obj1 acc] (.tup []) [obj1 (looseF u (k + by_) acc)]) → (a ++ b).length ≤ B → k ≤ 2305843009213693952 →
  RPt Tryz.prog 58 1 (.tup []) [obj1 (z4v b (k + by_) acc)] 1 ⟨[(1, ci k), (2, tellL), (7, ci by_), (27, .c (.a (.fz v))), (28, ci (a ++ b).length), (29, ci a.length)], [(0, obj1 acc)], 1⟩
 | [], a, v, acc, hv, hs, _, hl, hk => by
  refine RPt.vc hP sh lv58 (Eq.mpr (zex ..) ?_)
  exact z00 (fun h => absurd (of_decide_eq_true h) (by simp)) (fun _ => ⟨.refl _, rfl⟩)
 | t :: b, a, v, acc, hv, hs, ih, hl, hk => by
  refine RPt.vc hP sh lv58 (Eq.mpr (zex ..) ?_)
  have hl' := hl
  simp only [List.length_append, List.length_cons, B] at hl'
  have h1 := ih t List.mem_cons_self acc
  have h2 := l_each k by_ h0 hby hby1 b (a ++ [t]) v (looseF t (k + by_) acc) (by rw [ap]; exact hv) hs (fun u hu => ih u (List.mem_cons_of_mem _ hu)) (by rw [ap]; exact hl) hk
  have h3 := ltI' a t b
  rw [ap, nx] at h2
  rw [hv, midI, w64 (x := (a.length : Int) + 1) (by omega) (by omega), w64 (x := k + by_) (by omega) (by omega)]
  refine z00 (fun _ => ?_) (fun h => absurd (ltI a t b) (of_decide_eq_false h))
  obtain ⟨k', s', n', l'⟩ := t
  exact ⟨⟨hs, by omega, h3, rfl⟩, .inl ⟨_, h1, h2⟩⟩
theorem c_each : ∀ t : Tm, t.sz ≤ B → bd 2305843009213693952 t → ∀ k acc : Int, 0 ≤ k → k + t.sz ≤ 2305843009213693952 → AC Tryz.prog 58 [aT t, ci k, tellL] [obj1 acc] (.tup []) [obj1 (looseF t k acc)] := by
 refine Tm.ind fun t ih hs hb k acc h0 h1 => ?_
 have hw := z8x t
 have hk := zc5 t
 have hlen := Tm.szs_length t.l
 obtain ⟨kd, s, n, l⟩ := t
 simp only [Tm.sz, B, Tm.l] at hs hlen
 simp only [Tm.sz] at h1
 have key : ∀ by_ : Int, 0 ≤ by_ → by_ ≤ 1 → Tm.kids (.mk kd s n l) = l → RPt Tryz.prog 58 1 (.tup []) [obj1 (z4v l (k + by_) acc)] 1 ⟨[(1, ci k), (2, tellL), (7, ci by_), (27, .c (.a (.fz (z5g (.mk kd s n l))))), (28, ci l.length), (29, ci 0)], [(0, obj1 acc)], 1⟩ := by
  intro by_ hb0 hb1 hkids
  have := l_each k by_ h0 hb0 hb1 l [] (z5g (.mk kd s n l)) acc (by rw [hk.1, hkids]; rfl) hk.2 (fun u hu acc => ih u hu (by have := Tm.szs_mem hu; simp only [B]; omega) (z1v hb.2 hu) (k + by_) acc (by omega) (by have := Tm.szs_mem hu; omega)) (by simp only [List.nil_append, B]; omega) (by omega)
  simpa using this
 refine AC.vc hP sh lv58 (Nat.le_refl _) (by simp [isLive]) (by simp) (Eq.mpr (v58_F69 kd s n (FTs l) k acc _ _) ?_)
 refine z00 (fun h => z00 (fun h2 => ⟨_, c_loose1 (.mk kd s n l) k acc hb.1 h0 (by omega), .refl _, ?_⟩) (fun h2 => ⟨_, _, hw, hk.2, ?_⟩)) (fun h => ⟨_, _, hw, hk.2, ?_⟩)
 · have e1 : (kd == 5) = false := by simpa using h
   have e2 : (kd == 6) = false := by simpa using h2
   simp only [looseF, Tm.k, Tm.n, e1, e2, Bool.false_eq_true, if_false]
   rfl
 · have e1 : (kd == 5) = false := by simpa using h
   have e2 : (kd == 6) = true := by simpa using h2
   have ek : Tm.kids (.mk kd s n l) = l := by unfold Tm.kids Tm.inner; simp only [Tm.k, e2, Bool.or_true, if_true, Tm.l]
   have := key 0 (by omega) (by omega) ek
   rw [hk.1, ek, lenI, show Tm.by (.mk kd s n l) = 0 by unfold Tm.by; simp only [Tm.k, e1, Bool.false_eq_true, if_false]]
   simp only [looseF, e1, e2, Bool.false_eq_true, if_false, if_true]
   simpa using this
 · have e1 : (kd == 5) = true := by simpa using h
   have ek : Tm.kids (.mk kd s n l) = l := by unfold Tm.kids Tm.inner; simp only [Tm.k, e1, Bool.true_or, if_true, Tm.l]
   have := key 1 (by omega) (by omega) ek
   rw [hk.1, ek, lenI, show Tm.by (.mk kd s n l) = 1 by unfold Tm.by; simp only [Tm.k, e1, if_true]]
   simp only [looseF, e1, if_true]
   exact this
theorem zqz (t : Tm) (hs : t.sz ≤ B) (hb : bd 2305843009213693952 t) : AC Tryz.prog 22 [aT t] [] (ci (looseF t 0 0)) [] := by
 have h := c_each t hs hb 0 0 (Int.le_refl _) (by simp only [B] at hs; omega)
 refine AC.vc hP sh lv22 (Nat.le_refl _) (by simp) (by simp) (Eq.mpr (v22 ..) ?_)
 exact .inl ⟨_, h, z31 rfl⟩
end Go.AM

set_option maxRecDepth 100000
open Go Go.Proofs
namespace Go.AM
theorem c_grow (n : Int) (h0 : 0 ≤ n) (h1 : n ≤ 2199023255552) : (n = 0 → AC Tryz.prog 103 [.c (.a (.fz .nils)), ci n] [] (.c (.a (.fz .nils))) []) ∧
  (n ≠ 0 → AC Tryz.prog 103 [.c (.a (.fz .nils)), ci n] [] (.c (.a (.osl 0 4 0 0))) [.arz 4 []]) := by
 constructor
 · intro hn
   refine AC.vc hP sh lv103 (Nat.le_refl _) (by simp) (by simp) (Eq.mpr (v103 ..) ?_)
   refine z00 (fun h => absurd (of_decide_eq_true h) (by omega)) (fun _ => ⟨rfl, z00 (fun h => ?_) (fun _ => zh6 (.refl _))⟩)
   rw [w64 (by omega) (by omega)] at h
   exact absurd (of_decide_eq_true h) (by omega)
 · intro hn
   refine AC.vc hP sh lv103 (by simp) (by simp) (by simp [isLive]) (Eq.mpr (v103 ..) ?_)
   rw [w64 (by omega) (by omega)]
   refine z00 (fun h => absurd (of_decide_eq_true h) (by omega)) (fun _ => ⟨rfl, z00 (fun h => ⟨rfl, ⟨by omega, by omega, by omega⟩, ⟨by omega, by unfold z0k; omega⟩, rfl, ⟨by omega, by omega, by omega⟩, .refl _, rfl⟩) (fun h => absurd (of_decide_eq_false h) (by omega))⟩)
def FLs (ls : List (List Tm)) : List (List FV) := ls.map fun l => [.sl false 4 (FTs l)]
def z48 (ls : List (List Tm)) : Nat := (ls.map List.length).foldr (· + ·) 0
theorem za9 (ls : List (List Tm)) : (FLs ls).length = ls.length := by simp [FLs]
theorem midL (a : List (List Tm)) (l : List Tm) (b : List (List Tm)) : List.getD (FLs (a ++ l :: b)) (Int.toNat (a.length : Int)) [] = [.sl false 4 (FTs l)] := by
 rw [show Int.toNat (a.length : Int) = a.length by omega]
 simp [List.getD, FLs]
theorem ltL (a : List (List Tm)) (t : List Tm) (b : List (List Tm)) : (a.length : Int) < (((FLs (a ++ t :: b)).length : Nat) : Int) := by rw [za9]; exact ltI a t b
theorem zh1 (a : List (List Tm)) (l : List Tm) (b : List (List Tm)) : z48 (a ++ l :: b) = z48 a + l.length + z48 b := by
 induction a with
 | nil => simp [z48]
 | cons x a ih => simp only [z48, List.cons_append, List.map_cons, List.foldr_cons] at ih ⊢; omega
theorem zpg (a : List (List Tm)) (l : List Tm) : z48 (a ++ [l]) = z48 a + l.length := by rw [zh1]; simp [z48]
abbrev aLs (ls : List (List Tm)) : TV := .c (.a (.fz (.sl false 1 (FLs ls))))
theorem z5k {n : Nat} (h : n ≤ 2199023255552) : z0k n 56 := by unfold z0k; omega
theorem zur : ∀ (b a : List (List Tm)) (acc : List Tm), acc.length + z48 b ≤ 2199023255552 → (a ++ b).length ≤ B →
  RPt Tryz.prog 70 0 (aL (acc ++ b.flatten)) [] 5 ⟨[(6, (.c (.a (.osl 0 4 0 acc.length)))), (25, aLs (a ++ b)), (26, ci (a ++ b).length), (27, ci a.length)], [(0, (.arz 4 (FTs acc)))], 1⟩
 | [], a, acc, ht, hl => by
  refine RPt.vc hP sh lv70 (Eq.mpr (v70_5b ..) ?_)
  refine z00 (fun h => absurd (of_decide_eq_true h) (by simp)) (fun _ => ⟨⟨rfl, by rw [z01]; omega⟩, zh6 ?_⟩)
  rw [List.drop_zero, List.take_of_length_le (by rw [z01]; omega), List.flatten_nil, List.append_nil]
  exact le_c leSl
 | l :: b, a, acc, ht, hl => by
  refine RPt.vc hP sh lv70 (Eq.mpr (v70_5b ..) ?_)
  have hl' := hl
  have h3 := ltL a l b
  simp only [List.length_append, List.length_cons, B] at hl'
  have ht' : acc.length + (l.length + z48 b) ≤ 2199023255552 := by simpa [z48] using ht
  have h2 := zur b (a ++ [l]) (acc ++ l) (by rw [List.length_append]; omega) (by rw [ap]; exact hl)
  rw [ap, nx] at h2
  rw [midL, w64 (by omega) (by omega)]
  refine z00 (fun _ => ⟨⟨rfl, by omega, h3, rfl⟩, rfl, ⟨by rw [z01]; omega, ?_⟩, ?_⟩) (fun h => absurd (ltI a l b) (of_decide_eq_false h))
  · show z0k (acc.length + (FTs l).length) 56
    rw [z01]; exact z5k (by omega)
  · show RPt _ _ _ _ _ _ ⟨[(6, (.c (.a (.osl 0 4 0 (acc.length + (FTs l).length))))), _, _, _], [(0, .arz 4 (List.take acc.length (FTs acc) ++ FTs l))], 1⟩
    rw [List.take_of_length_le (by rw [z01]; omega), ← z27, z01, ← List.length_append]
    rw [show acc ++ (l :: b).flatten = acc ++ l ++ b.flatten by simp]
    exact h2
theorem l_cat2 : ∀ (b a : List (List Tm)), z48 b ≤ 2199023255552 → (a ++ b).length ≤ B →
  RPt Tryz.prog 70 0 (aL b.flatten) [] 5 ⟨[(6, (.c (.a (.fz .nils)))), (25, aLs (a ++ b)), (26, ci (a ++ b).length), (27, ci a.length)], [], 0⟩
 | [], a, ht, hl => by
  refine RPt.vc hP sh lv70 (Eq.mpr (v70_5a ..) ?_)
  refine z00 (fun h => absurd (of_decide_eq_true h) (by simp)) (fun _ => zh6 (le_c z0r))
 | l :: b, a, ht, hl => by
  refine RPt.vc hP sh lv70 (Eq.mpr (v70_5a ..) ?_)
  have hl' := hl
  have h3 := ltL a l b
  simp only [List.length_append, List.length_cons, B] at hl'
  have ht' : l.length + z48 b ≤ 2199023255552 := by simpa [z48] using ht
  rw [midL, w64 (by omega) (by omega)]
  refine z00 (fun _ => ⟨⟨rfl, by omega, h3, rfl⟩, rfl, ?_⟩) (fun h => absurd (ltI a l b) (of_decide_eq_false h))
  show br (List.isEmpty (FTs l)) _ _
  refine z00 (fun he => ?_) (fun he => ⟨?_, ?_⟩)
  · have h2 := l_cat2 b (a ++ [l]) (by omega) (by rw [ap]; exact hl)
    rw [ap, nx] at h2
    have hnil : l = [] := by cases l with
     | nil => rfl
     | cons x l => simp [FTs] at he
    rw [show (l :: b).flatten = b.flatten by rw [hnil]; simp]
    exact h2
  · show z0k (FTs l).length 56
    rw [z01]; exact z5k (by omega)
  · have h2 := zur b (a ++ [l]) l (by omega) (by rw [ap]; exact hl)
    rw [ap, nx] at h2
    show RPt _ _ _ _ _ _ ⟨[(6, (.c (.a (.osl 0 4 0 (FTs l).length)))), _, _, _], [(0, .arz 4 (FTs l))], 1⟩
    rw [z01, List.flatten_cons]
    exact h2
theorem l_cat1 : ∀ (b a : List (List Tm)), z48 (a ++ b) ≤ 2199023255552 → (a ++ b).length ≤ B →
  RPt Tryz.prog 70 0 (aL (a ++ b).flatten) [] 1 ⟨[(0, aLs (a ++ b)), (3, ci (z48 a)), (9, aLs (a ++ b)), (10, ci (a ++ b).length), (11, ci a.length)], [], 0⟩
 | [], a, ht, hl => by
  refine RPt.vc hP sh lv70 (Eq.mpr (v70_1a ..) ?_)
  have hg := c_grow (z48 a : Int) (by omega) (by simp only [List.append_nil] at ht; omega)
  refine z00 (fun h => absurd (of_decide_eq_true h) (by simp)) (fun _ => ?_)
  have e : (((FLs (a ++ [])).length : Nat) : Int) = (((a ++ []).length : Nat) : Int) := by rw [za9]
  rw [e]
  by_cases hz : z48 a = 0
  · have h2 := l_cat2 (a ++ []) [] (by simpa using ht) (by simpa using hl)
    exact .inl ⟨(), hg.1 (by omega), rfl, by simpa using h2⟩
  · have h2 := zur (a ++ []) [] [] (by simpa using ht) (by simpa using hl)
    exact .inr ⟨(), hg.2 (by omega), rfl, by simpa [FTs] using h2⟩
 | l :: b, a, ht, hl => by
  refine RPt.vc hP sh lv70 (Eq.mpr (v70_1a ..) ?_)
  have hl' := hl
  have ht' := ht
  have h3 := ltL a l b
  rw [zh1] at ht'
  simp only [List.length_append, List.length_cons, B] at hl'
  have h2 := l_cat1 b (a ++ [l]) (by rw [ap]; exact ht) (by rw [ap]; exact hl)
  rw [ap, nx, zpg] at h2
  rw [midL, w64 (x := (a.length : Int) + 1) (by omega) (by omega)]
  refine z00 (fun _ => ⟨⟨rfl, by omega, h3, rfl⟩, rfl, ?_⟩) (fun h => absurd (ltI a l b) (of_decide_eq_false h))
  show br (decide (IntKind.wrap .i64 ((z48 a : Int) + (((FTs l).length : Nat) : Int)) < 0)) _ (RPt _ _ _ _ _ _ ⟨[_, (3, ci (IntKind.wrap .i64 ((z48 a : Int) + (((FTs l).length : Nat) : Int)))), _, _, _], _, _⟩)
  rw [z01, w64 (by omega) (by omega)]
  refine z00 (fun h => absurd (of_decide_eq_true h) (by omega)) (fun _ => ?_)
  simpa using h2
theorem c_concat (ls : List (List Tm)) (ht : z48 ls ≤ 2199023255552) (hl : ls.length ≤ B) : AC Tryz.prog 70 [aLs ls] [] (aL ls.flatten) [] := by
 refine AC.vc hP sh lv70 (Nat.le_refl _) (by simp) (by simp) (Eq.mpr (v70 ..) ?_)
 have := l_cat1 ls [] (by simpa using ht) (by simpa using hl)
 have e : (((FLs ls).length : Nat) : Int) = ((ls.length : Nat) : Int) := by rw [za9]
 rw [e]
 exact ⟨rfl, by simpa [z48] using this⟩
theorem zd3 {x y : FV} {l m : List Tm} (hx : FV.Le x (.sl false 4 (FTs l))) (hy : FV.Le y (.sl false 4 (FTs m))) (ht : l.length + m.length ≤ 2199023255552) : AC Tryz.prog 70 [.c (.a (.fz (.sl false 1 [[x], [y]])))] [] (aL (l ++ m)) [] := by
 have h := c_concat [l, m] (by simpa [z48] using ht) (by simp [B])
 rw [show [l, m].flatten = l ++ m by simp] at h
 refine h.args ⟨le_c (.trans _ _ _ (.rows false 1 _ (FLs [l, m]) rfl (fun i e e' he he' => ?_) (fun i j e e' f f' he he' hf hf' => ?_)) (.nn _ _ _)), trivial⟩
 · match i, he, he' with
   | 0, he, he' => simp [FLs] at he he'; subst he; subst he'; rfl
   | 1, he, he' => simp [FLs] at he he'; subst he; subst he'; rfl
   | i + 2, he, he' => simp at he
 · match i, he, he' with
   | 0, he, he' =>
    simp [FLs] at he he'; subst he; subst he'
    match j, hf, hf' with
    | 0, hf, hf' => simp at hf hf'; subst hf; subst hf'; exact hx
    | j + 1, hf, hf' => simp at hf
   | 1, he, he' =>
    simp [FLs] at he he'; subst he; subst he'
    match j, hf, hf' with
    | 0, hf, hf' => simp at hf hf'; subst hf; subst hf'; exact hy
    | j + 1, hf, hf' => simp at hf
   | i + 2, he, he' => simp at he
def applyF (f : Tm) (args : List Tm) : Tm :=
 match args with
 | [] => f
 | _ => if (f.k == 6) = true ∧ f.l ≠ [] then .mk 6 [] 0 (f.l ++ args) else .mk 6 [] 0 (f :: args)
theorem z3t (f : Tm) (args : List Tm) (h : f.l.length + args.length < 2199023255552) : AC Tryz.prog 24 [aT f, aL args] [] (aT (applyF f args)) [] := by
 obtain ⟨k, s, n, l⟩ := f
 simp only [Tm.l] at h
 refine AC.vc hP sh lv24 (Nat.le_refl _) (by simp) (by simp) (Eq.mpr (v24 k s n (FTs l) (FTs args) _ _) ?_)
 refine ⟨rfl, z00 (fun h1 => ?_) (fun h1 => ?_)⟩
 · have : args = [] := by cases args with
    | nil => rfl
    | cons x l => simp [FTs] at h1; omega
   subst this
   exact zh6 (.refl _)
 · match args, h1, h with
   | [], h1, _ => simp [FTs] at h1
   | a :: r, h1, h =>
    have one : FV.Le (.sl false 4 [[.int .i64 k, .str s, .int .i64 n, .sl false 4 (FTs l)]]) (.sl false 4 (FTs [.mk k s n l])) := .nn _ _ _
    have same : ∀ l : List Tm, FV.Le (.sl false 4 (FTs l)) (.sl false 4 (FTs l)) := fun _ => .refl _
    refine z00 (fun h2 => ⟨rfl, z00 (fun h3 => ⟨⟨rfl, by omega⟩, _, zd3 (same l) (same (a :: r)) (by omega), zh6 ?_⟩) (fun h3 => ⟨⟨rfl, by omega⟩, ⟨rfl, by omega⟩, _, zd3 one (same (a :: r)) (by simp only [List.length_cons, List.length_nil] at h ⊢; omega), zh6 ?_⟩)⟩)
     (fun h2 => ⟨⟨rfl, by omega⟩, ⟨rfl, by omega⟩, _, zd3 one (same (a :: r)) (by simp only [List.length_cons, List.length_nil] at h ⊢; omega), zh6 ?_⟩)
    · have hl : l ≠ [] := by intro e; subst e; simp [FTs] at h3
      rw [show applyF (.mk k s n l) (a :: r) = .mk 6 [] 0 (l ++ a :: r) from if_pos ⟨h2, hl⟩]
      exact .refl _
    · have hl : l = [] := by cases l with
       | nil => rfl
       | cons x l => simp [FTs] at h3
      rw [show applyF (.mk k s n l) (a :: r) = .mk 6 [] 0 (.mk k s n l :: a :: r) from if_neg (fun e => e.2 hl)]
      exact .refl _
    · rw [show applyF (.mk k s n l) (a :: r) = .mk 6 [] 0 (.mk k s n l :: a :: r) from if_neg (fun e => by have := e.1; simp only [Tm.k, h2] at this; cases this)]
      exact .refl _
end Go.AM

set_option maxRecDepth 100000
open Go Go.Proofs
namespace Go.AM
def z24 (t : Tm) (out : List Tm) : Tm :=
 if (t.k == 6) = true ∧ 1 < out.length ∧ ((out.headD default).k == 6) = true ∧ ((t.l.headD default).k != 6) = true then applyF (out.headD default) out.tail else .mk t.k t.s t.n out
mutual
def z0d (lf : Tm → Int → Tm) : Tm → Int → Tm
 | .mk k s n l, d => if (k == 5 || k == 6) = true then z24 (.mk k s n l) (z07 lf l (d + if (k == 5) = true then 1 else 0)) else lf (.mk k s n l) d
def z07 (lf : Tm → Int → Tm) : List Tm → Int → List Tm
 | [], _ => []
 | t :: l, d => z0d lf t d :: z07 lf l d
end
abbrev cloSh : TV := .agg [.fn (.func 149) [] [(false, [.ep 0 1 0 0]), (false, [.ep 1 1 0 0])]]
abbrev stSh (fr by1 : Int) (k by_ : Int) (kd : Int) (s : List UInt8) (n : Int) (l : List Tm) (w : AV) (i : Nat) (h : AHeap) (nx : Nat) : St :=
 ⟨[(2, ci k), (3, .c (.a (.ep 2 1 0 0))), (4, .c (.a (.ep 3 4 0 0))), (6, .c (.a (.ep 4 4 0 0))), (7, aL l), (8, ci by_), (9, .c (.a w)), (30, aL l), (31, ci l.length), (32, ci i)],
  [(0, (obj1 fr)), (1, (obj1 by1)), (2, .arr 1 [[.fn (.func 149) [] [(false, [.ep 0 1 0 0]), (false, [.ep 1 1 0 0])]]]), (3, .arr 4 [fzs (FT (.mk kd s n l))]), (4, .arr 4 [[.a (.fz (.int .i64 0)), .a (.fz (.str [])), .a (.fz (.int .i64 0)), .a (.fz .nils)]])] ++ h, nx⟩
theorem l_w2Sh (fr by1 : Int) (lf : Tm → Int → Tm) (k by_ : Int) (h0 : 0 ≤ k) (hk : k ≤ 2305843009213693952) (hb0 : 0 ≤ by_) (hb1 : by_ ≤ 1) (kd : Int) (s : List UInt8) (n : Int) (hin : (kd == 5 || kd == 6) = true) :
  ∀ (b a acc : List Tm), acc ≠ [] → acc.length = a.length → (a ++ b).length ≤ B → (∀ u ∈ acc ++ z07 lf b (k + by_), u.l.length ≤ 2 * B) →
  (∀ u ∈ b, AC Tryz.prog 151 [cloSh, aT u, ci (k + by_)] [(obj1 fr), (obj1 by1)] (aT (z0d lf u (k + by_))) [(obj1 fr), (obj1 by1)]) →
  RPt Tryz.prog 151 2 (aT (z24 (.mk kd s n (a ++ b)) (acc ++ z07 lf b (k + by_)))) [(obj1 fr), (obj1 by1)] 1 (stSh fr by1 k by_ kd s n (a ++ b) (.osl 5 4 0 acc.length) a.length [(5, .arz 4 (FTs acc))] 6)
 | [], a, acc, hne, hlen, hl, hw, _ => by
  refine RPt.vc hP sh z7b (Eq.mpr (zag ..) ?_)
  match acc, a, hne, hlen with
  | o :: r, u :: a', _, hlen =>
  have e1 : List.take (o :: r).length (List.drop 0 (FTs (o :: r))) = FTs (o :: r) := by rw [List.drop_zero, List.take_of_length_le (by rw [z01]; omega)]
  have e2 : (0 : Nat) + (o :: r).length ≤ (FTs (o :: r)).length := by rw [z01]; omega
  have hrest : ∀ (k' : Int) (s' : List UInt8) (n' : Int), TV.Le (.agg [.a (.fz (.int .i64 k')), .a (.fz (.str s')), .a (.fz (.int .i64 n')), .a (.fz (.sl false 4 (List.take (o :: r).length (List.drop 0 (FTs (o :: r))))))]) (aT (.mk k' s' n' (o :: r))) := fun k' s' n' => by rw [e1]; exact leT leSl
  refine z00 (fun h => absurd (of_decide_eq_true h) (by simp)) (fun _ => z00 (fun h6 => z00 (fun h1 => ⟨⟨by omega, by simp⟩, ⟨by rw [z01]; simp, by cases o; rfl, rfl⟩, z00 (fun ho => ⟨⟨rfl, by omega, by rw [List.append_nil]; show (0 : Int) < (((FTs (u :: a')).length : Nat) : Int); rw [z01]; simp, by cases u; rfl⟩, z00 (fun hu => ?_) (fun hu => ⟨⟨rfl, e2⟩, ?_, rfl⟩)⟩) (fun ho => ⟨⟨rfl, e2⟩, ?_, rfl⟩)⟩) (fun h1 => ⟨⟨rfl, e2⟩, ?_, rfl⟩)) (fun h6 => ⟨⟨rfl, e2⟩, ?_, rfl⟩))
  ·
   have hap := z3t o r (by
    have := hw o (by simp)
    simp only [List.length_cons, List.length_append, List.length_nil, B] at hl hlen this ⊢; omega)
   have e3 : z24 (.mk kd s n (u :: a' ++ [])) (o :: r ++ z07 lf [] (k + by_)) = applyF o r := by
    have c1 : 1 < (o :: r ++ z07 lf [] (k + by_)).length := by have := of_decide_eq_true h1; simp only [z07, List.append_nil]; omega
    have c2 : (o.k == 6) = true := by cases o; exact ho
    have c3 : (u.k != 6) = true := by cases u; exact hu
    unfold z24
    rw [if_pos ⟨h6, c1, c2, c3⟩]
    simp [z07]
   have e4 : List.take (Int.toNat ((o :: r).length : Int) - 1) (List.drop 1 (FTs (o :: r))) = FTs r := by
    rw [show Int.toNat ((o :: r).length : Int) - 1 = r.length by simp only [List.length_cons]; omega]
    show List.take r.length (FTs r) = FTs r
    rw [List.take_of_length_le (by rw [z01]; omega)]
   have e5 : (1 : Nat) + (Int.toNat ((o :: r).length : Int) - 1) ≤ (FTs (o :: r)).length := by rw [z01]; simp only [List.length_cons]; omega
   rw [e3]
   refine ⟨⟨by omega, by simp⟩, ⟨by rw [z01]; simp, by cases o; rfl, rfl⟩, ⟨by omega, by simp; omega, by omega⟩, ⟨rfl, e5⟩, ?_⟩
   rw [e4]
   obtain ⟨k1, s1, n1, l1⟩ := o
   exact ⟨_, hap.args ⟨.refl _, le_c leSl, trivial⟩, .refl _, rfl⟩
  · have e3 : z24 (.mk kd s n (u :: a' ++ [])) (o :: r ++ z07 lf [] (k + by_)) = .mk kd s n (o :: r) := by
     simp only [z07, List.append_nil]
     exact if_neg fun e => by
      have hu' : (u.k != 6) = false := by cases u; exact hu
      have : (u.k != 6) = true := e.2.2.2
      rw [hu'] at this; cases this
    rw [e3]; exact hrest _ _ _
  · have e3 : z24 (.mk kd s n (u :: a' ++ [])) (o :: r ++ z07 lf [] (k + by_)) = .mk kd s n (o :: r) := by
     simp only [z07, List.append_nil]
     exact if_neg fun e => by
      have ho' : (o.k == 6) = false := by cases o; exact ho
      have : (o.k == 6) = true := e.2.2.1
      rw [ho'] at this; cases this
    rw [e3]; exact hrest _ _ _
  · have e3 : z24 (.mk kd s n (u :: a' ++ [])) (o :: r ++ z07 lf [] (k + by_)) = .mk kd s n (o :: r) := by
     simp only [z07, List.append_nil]
     exact if_neg fun e => by have := e.2.1; have := of_decide_eq_false h1; omega
    rw [e3]; exact hrest _ _ _
  · have e3 : z24 (.mk kd s n (u :: a' ++ [])) (o :: r ++ z07 lf [] (k + by_)) = .mk kd s n (o :: r) := by
     simp only [z07, List.append_nil]
     exact if_neg fun e => by
      have h6' : (kd == 6) = false := h6
      have : (kd == 6) = true := e.1
      rw [h6'] at this; cases this
    rw [e3]; exact hrest _ _ _
 | t :: b, a, acc, hne, hlen, hl, hw, ih => by
  refine RPt.vc hP sh z7b (Eq.mpr (zag ..) ?_)
  have hl' := hl
  simp only [List.length_append, List.length_cons, B] at hl'
  have h1 := ih t List.mem_cons_self
  have h2 := l_w2Sh fr by1 lf k by_ h0 hk hb0 hb1 kd s n hin b (a ++ [t]) (acc ++ [z0d lf t (k + by_)]) (by simp) (by simp [hlen]) (by rw [ap]; exact hl)
   (by rw [List.append_assoc]; simpa [z07] using hw) (fun u hu => ih u (List.mem_cons_of_mem _ hu))
  have h3 := ltI' a t b
  unfold stSh at h2
  rw [ap, show (((a ++ [t]).length : Nat) : Int) = (a.length : Int) + 1 from nx a t] at h2
  show br (decide ((a.length : Int) < (((a ++ t :: b).length : Nat) : Int))) ((FV.isSl 4 (.sl false 4 (FTs (a ++ t :: b))) = true ∧ _ ∧ _ ∧ _) ∧ _) _
  refine z00 (fun _ => ?_) (fun h => absurd (ltI a t b) (of_decide_eq_false h))
  have hm := midI a t b
  rw [show FV.ses (.sl false 4 (FTs (a ++ t :: b))) = FTs (a ++ t :: b) from rfl, hm, w64 (x := (a.length : Int) + 1) (by omega) (by omega), w64 (x := k + by_) (by omega) (by omega)]
  obtain ⟨k', s', n', l'⟩ := t
  refine ⟨⟨rfl, by omega, h3, rfl⟩, _, h1, Nat.le_refl _, ⟨by rw [z01]; omega, z5k (by omega)⟩, ?_⟩
  have e5 : List.take acc.length (FTs acc) ++ FTs [z0d lf (.mk k' s' n' l') (k + by_)] = FTs (acc ++ [z0d lf (.mk k' s' n' l') (k + by_)]) := by rw [List.take_of_length_le (by rw [z01]; omega), ← z27]
  have e6 : FTs [z0d lf (.mk k' s' n' l') (k + by_)] = [[.int .i64 (z0d lf (.mk k' s' n' l') (k + by_)).k, .str (z0d lf (.mk k' s' n' l') (k + by_)).s, .int .i64 (z0d lf (.mk k' s' n' l') (k + by_)).n, .sl false 4 (FTs (z0d lf (.mk k' s' n' l') (k + by_)).l)]] := by
   rw [FTs, FTs, z82]
  rw [e6] at e5
  rw [e5]
  rw [show acc ++ z07 lf (.mk k' s' n' l' :: b) (k + by_) = acc ++ z0d lf (.mk k' s' n' l') (k + by_) :: z07 lf b (k + by_) by simp [z07]]
  rw [show (acc ++ [z0d lf (.mk k' s' n' l') (k + by_)]).length = acc.length + 1 by simp, List.append_assoc] at h2
  exact h2
theorem l_w1Sh (fr by1 : Int) (lf : Tm → Int → Tm) (k by_ : Int) (h0 : 0 ≤ k) (hk : k ≤ 2305843009213693952) (hb0 : 0 ≤ by_) (hb1 : by_ ≤ 1) (kd : Int) (s : List UInt8) (n : Int) (hin : (kd == 5 || kd == 6) = true) :
  ∀ (b : List Tm), b.length ≤ B → (∀ u ∈ z07 lf b (k + by_), u.l.length ≤ 2 * B) →
  (∀ u ∈ b, AC Tryz.prog 151 [cloSh, aT u, ci (k + by_)] [(obj1 fr), (obj1 by1)] (aT (z0d lf u (k + by_))) [(obj1 fr), (obj1 by1)]) →
  RPt Tryz.prog 151 2 (aT (z24 (.mk kd s n b) (z07 lf b (k + by_)))) [(obj1 fr), (obj1 by1)] 1 (stSh fr by1 k by_ kd s n b (.fz .nils) 0 [] 5)
 | [], hl, hw, _ => by
  refine RPt.vc hP sh z7b (Eq.mpr (zaa ..) ?_)
  have e : z24 (.mk kd s n []) (z07 lf [] (k + by_)) = .mk kd s n [] := if_neg fun e => by have := e.2.1; simp [z07] at this
  rw [e]
  exact z00 (fun h => absurd (of_decide_eq_true h) (by simp)) (fun _ => z00 (fun _ => ⟨rfl, leT z0r, rfl⟩) (fun _ => ⟨leT z0r, rfl⟩))
 | t :: b, hl, hw, ih => by
  refine RPt.vc hP sh z7b (Eq.mpr (zaa ..) ?_)
  have hl' := hl
  simp only [List.length_cons, B] at hl'
  have h1 := ih t List.mem_cons_self
  have h2 := l_w2Sh fr by1 lf k by_ h0 hk hb0 hb1 kd s n hin b [t] [z0d lf t (k + by_)] (by simp) rfl (by simpa using hl) (by simpa [z07] using hw) (fun u hu => ih u (List.mem_cons_of_mem _ hu))
  show br (decide ((0 : Int) < (((t :: b).length : Nat) : Int))) ((FV.isSl 4 (.sl false 4 (FTs (t :: b))) = true ∧ _ ∧ _ ∧ _) ∧ _) _
  refine z00 (fun _ => ?_) (fun h => absurd (of_decide_eq_false h) (by simp))
  rw [show FV.ses (.sl false 4 (FTs (t :: b))) = FTs (t :: b) from rfl, show List.getD (FTs (t :: b)) (Int.toNat ((0 : Nat) : Int)) [] = FT t from rfl, w64 (x := k + by_) (by omega) (by omega), w64 (x := ((0 : Nat) : Int) + 1) (by omega) (by omega)]
  obtain ⟨k', s', n', l'⟩ := t
  have h3 : (0 : Int) < (((FTs (.mk k' s' n' l' :: b)).length : Nat) : Int) := by rw [z01]; simp
  refine ⟨⟨rfl, by omega, h3, rfl⟩, _, h1, Nat.le_refl _, z5k (by omega), ?_⟩
  have e6 : FTs [z0d lf (.mk k' s' n' l') (k + by_)] = [[.int .i64 (z0d lf (.mk k' s' n' l') (k + by_)).k, .str (z0d lf (.mk k' s' n' l') (k + by_)).s, .int .i64 (z0d lf (.mk k' s' n' l') (k + by_)).n, .sl false 4 (FTs (z0d lf (.mk k' s' n' l') (k + by_)).l)]] := by
   rw [FTs, FTs, z82]
  unfold stSh at h2
  rw [e6] at h2
  exact h2
theorem c_wSh (fr by1 : Int) (lf : Tm → Int → Tm) (Q : Tm → Int → Prop)
  (hq : ∀ (kd : Int) (s : List UInt8) (n : Int) (l : List Tm) (d : Int), Q (.mk kd s n l) d → (kd == 5 || kd == 6) = true → ∀ u ∈ l, Q u (d + if (kd == 5) = true then 1 else 0))
  (hleaf : ∀ (u : Tm) (d : Int), (u.k == 5 || u.k == 6) = false → Q u d → 0 ≤ d → d ≤ 2305843009213693952 → AC Tryz.prog 149 [aT u, ci d, .c (.a (.ep 0 1 0 0)), .c (.a (.ep 1 1 0 0))] [(obj1 fr), (obj1 by1)] (aT (lf u d)) [(obj1 fr), (obj1 by1)])
  (hwid : ∀ (u : Tm) (d : Int), Q u d → (z0d lf u d).l.length ≤ 2 * B) :
  ∀ t : Tm, t.sz ≤ B → ∀ k : Int, Q t k → 0 ≤ k → k + t.sz ≤ 2305843009213693952 → AC Tryz.prog 151 [cloSh, aT t, ci k] [(obj1 fr), (obj1 by1)] (aT (z0d lf t k)) [(obj1 fr), (obj1 by1)] := by
 refine Tm.ind fun t ih hs k hQ h0 h1 => ?_
 have hlen := Tm.szs_length t.l
 obtain ⟨kd, s, n, l⟩ := t
 simp only [Tm.sz, B, Tm.l] at hs hlen
 simp only [Tm.sz] at h1
 have key : ∀ by_ : Int, 0 ≤ by_ → by_ ≤ 1 → (by_ = if (kd == 5) = true then 1 else 0) → (hin : (kd == 5 || kd == 6) = true) → RPt Tryz.prog 151 2 (aT (z0d lf (.mk kd s n l) k)) [(obj1 fr), (obj1 by1)] 1 (stSh fr by1 k by_ kd s n l (.fz .nils) 0 [] 5) := by
  intro by_ hb0 hb1 hby hin
  have hQ' := hq kd s n l k hQ hin
  rw [← hby] at hQ'
  have := l_w1Sh fr by1 lf k by_ h0 (by omega) hb0 hb1 kd s n hin l (by simp only [B]; omega) (fun u hu => by
   have : ∀ {m : List Tm}, (∀ v ∈ m, Q v (k + by_)) → ∀ u ∈ z07 lf m (k + by_), u.l.length ≤ 2 * B := by
    intro m
    induction m with
    | nil => intro _ u hu; simp [z07] at hu
    | cons v m ihm =>
     intro hm u hu
     simp only [z07, List.mem_cons] at hu
     rcases hu with rfl | hu
     · exact hwid v _ (hm v List.mem_cons_self)
     · exact ihm (fun x hx => hm x (List.mem_cons_of_mem _ hx)) u hu
   exact this hQ' u hu) (fun u hu => ih u hu (by have := Tm.szs_mem hu; simp only [B]; omega) (k + by_) (hQ' u hu) (by omega) (by have := Tm.szs_mem hu; omega))
  rw [z0d, if_pos hin, ← hby]
  exact this
 refine AC.vc hP sh z7b (Nat.le_refl _) (by simp [isLive]) (by simp) (Eq.mpr (zsm kd s n (FTs l) k fr by1 _ _) ?_)
 have wi : (kd == 5 || kd == 6) = true → AC Tryz.prog 88 [aT (.mk kd s n l)] [] (.tup [(false, [.a (.fz (.sl false 4 (FTs l)))]), (false, [.a (.fz (.int .i64 (if (kd == 5) = true then 1 else 0)))])]) [] := fun hin => by
  have hw := z8x (.mk kd s n l)
  rw [show z5g (.mk kd s n l) = .sl false 4 (FTs l) from if_pos hin] at hw
  exact hw
 refine z00 (fun h => z00 (fun h2 => ?_) (fun h2 => ?_)) (fun h => ?_)
 · have e1 : (kd == 5) = false := by simpa using h
   have e2 : (kd == 6) = false := by simpa using h2
   have e : (kd == 5 || kd == 6) = false := by rw [e1, e2]; rfl
   have hl := hleaf (.mk kd s n l) k e hQ h0 (by omega)
   rw [show z0d lf (.mk kd s n l) k = lf (.mk kd s n l) k by rw [z0d, if_neg (by rw [e]; simp)]]
   exact ⟨_, hl, .refl _, rfl⟩
 · have e1 : (kd == 5) = false := by simpa using h
   have e2 : (kd == 6) = true := by simpa using h2
   have hin : (kd == 5 || kd == 6) = true := by rw [e1, e2]; rfl
   have hk := key 0 (by omega) (by omega) (by rw [e1]; rfl) hin
   have hw := wi hin
   rw [e1] at hw
   refine ⟨_, _, hw, rfl, ?_⟩
   show RPt _ _ _ _ _ _ ⟨[_, _, _, _, _, _, _, _, (31, ci (((FTs l).length : Nat) : Int)), _], _, _⟩
   rw [z01]
   exact hk
 · have e1 : (kd == 5) = true := by simpa using h
   have hin : (kd == 5 || kd == 6) = true := by rw [e1]; rfl
   have hk := key 1 (by omega) (by omega) (by rw [e1]; rfl) hin
   have hw := wi hin
   rw [e1] at hw
   refine ⟨_, _, hw, rfl, ?_⟩
   show RPt _ _ _ _ _ _ ⟨[_, _, _, _, _, _, _, _, (31, ci (((FTs l).length : Nat) : Int)), _], _, _⟩
   rw [z01]
   exact hk
abbrev cloSu : TV := .agg [.fn (.func 176) [] [(false, [.ep 0 1 0 0]), (false, [.ep 1 4 0 0])]]
abbrev stSu (ix : Int) (sk : Int) (ss : List UInt8) (sn : Int) (sl : List Tm) (k by_ : Int) (kd : Int) (s : List UInt8) (n : Int) (l : List Tm) (w : AV) (i : Nat) (h : AHeap) (nx : Nat) : St :=
 ⟨[(2, ci k), (3, .c (.a (.ep 2 1 0 0))), (4, .c (.a (.ep 3 4 0 0))), (6, .c (.a (.ep 4 4 0 0))), (7, aL l), (8, ci by_), (9, .c (.a w)), (30, aL l), (31, ci l.length), (32, ci i)],
  [(0, (obj1 ix)), (1, (.arr 4 [fzs (FT (.mk sk ss sn sl))])), (2, .arr 1 [[.fn (.func 176) [] [(false, [.ep 0 1 0 0]), (false, [.ep 1 4 0 0])]]]), (3, .arr 4 [fzs (FT (.mk kd s n l))]), (4, .arr 4 [[.a (.fz (.int .i64 0)), .a (.fz (.str [])), .a (.fz (.int .i64 0)), .a (.fz .nils)]])] ++ h, nx⟩
theorem l_w2Su (ix : Int) (sk : Int) (ss : List UInt8) (sn : Int) (sl : List Tm) (lf : Tm → Int → Tm) (k by_ : Int) (h0 : 0 ≤ k) (hk : k ≤ 2305843009213693952) (hb0 : 0 ≤ by_) (hb1 : by_ ≤ 1) (kd : Int) (s : List UInt8) (n : Int) (hin : (kd == 5 || kd == 6) = true) :
  ∀ (b a acc : List Tm), acc ≠ [] → acc.length = a.length → (a ++ b).length ≤ B → (∀ u ∈ acc ++ z07 lf b (k + by_), u.l.length ≤ 2 * B) →
  (∀ u ∈ b, AC Tryz.prog 151 [cloSu, aT u, ci (k + by_)] [(obj1 ix), (.arr 4 [fzs (FT (.mk sk ss sn sl))])] (aT (z0d lf u (k + by_))) [(obj1 ix), (.arr 4 [fzs (FT (.mk sk ss sn sl))])]) →
  RPt Tryz.prog 151 2 (aT (z24 (.mk kd s n (a ++ b)) (acc ++ z07 lf b (k + by_)))) [(obj1 ix), (.arr 4 [fzs (FT (.mk sk ss sn sl))])] 1 (stSu ix sk ss sn sl k by_ kd s n (a ++ b) (.osl 5 4 0 acc.length) a.length [(5, .arz 4 (FTs acc))] 6)
 | [], a, acc, hne, hlen, hl, hw, _ => by
  refine RPt.vc hP sh z7b (Eq.mpr (zac ..) ?_)
  match acc, a, hne, hlen with
  | o :: r, u :: a', _, hlen =>
  have e1 : List.take (o :: r).length (List.drop 0 (FTs (o :: r))) = FTs (o :: r) := by rw [List.drop_zero, List.take_of_length_le (by rw [z01]; omega)]
  have e2 : (0 : Nat) + (o :: r).length ≤ (FTs (o :: r)).length := by rw [z01]; omega
  have hrest : ∀ (k' : Int) (s' : List UInt8) (n' : Int), TV.Le (.agg [.a (.fz (.int .i64 k')), .a (.fz (.str s')), .a (.fz (.int .i64 n')), .a (.fz (.sl false 4 (List.take (o :: r).length (List.drop 0 (FTs (o :: r))))))]) (aT (.mk k' s' n' (o :: r))) := fun k' s' n' => by rw [e1]; exact leT leSl
  refine z00 (fun h => absurd (of_decide_eq_true h) (by simp)) (fun _ => z00 (fun h6 => z00 (fun h1 => ⟨⟨by omega, by simp⟩, ⟨by rw [z01]; simp, by cases o; rfl, rfl⟩, z00 (fun ho => ⟨⟨rfl, by omega, by rw [List.append_nil]; show (0 : Int) < (((FTs (u :: a')).length : Nat) : Int); rw [z01]; simp, by cases u; rfl⟩, z00 (fun hu => ?_) (fun hu => ⟨⟨rfl, e2⟩, ?_, rfl⟩)⟩) (fun ho => ⟨⟨rfl, e2⟩, ?_, rfl⟩)⟩) (fun h1 => ⟨⟨rfl, e2⟩, ?_, rfl⟩)) (fun h6 => ⟨⟨rfl, e2⟩, ?_, rfl⟩))
  ·
   have hap := z3t o r (by
    have := hw o (by simp)
    simp only [List.length_cons, List.length_append, List.length_nil, B] at hl hlen this ⊢; omega)
   have e3 : z24 (.mk kd s n (u :: a' ++ [])) (o :: r ++ z07 lf [] (k + by_)) = applyF o r := by
    have c1 : 1 < (o :: r ++ z07 lf [] (k + by_)).length := by have := of_decide_eq_true h1; simp only [z07, List.append_nil]; omega
    have c2 : (o.k == 6) = true := by cases o; exact ho
    have c3 : (u.k != 6) = true := by cases u; exact hu
    unfold z24
    rw [if_pos ⟨h6, c1, c2, c3⟩]
    simp [z07]
   have e4 : List.take (Int.toNat ((o :: r).length : Int) - 1) (List.drop 1 (FTs (o :: r))) = FTs r := by
    rw [show Int.toNat ((o :: r).length : Int) - 1 = r.length by simp only [List.length_cons]; omega]
    show List.take r.length (FTs r) = FTs r
    rw [List.take_of_length_le (by rw [z01]; omega)]
   have e5 : (1 : Nat) + (Int.toNat ((o :: r).length : Int) - 1) ≤ (FTs (o :: r)).length := by rw [z01]; simp only [List.length_cons]; omega
   rw [e3]
   refine ⟨⟨by omega, by simp⟩, ⟨by rw [z01]; simp, by cases o; rfl, rfl⟩, ⟨by omega, by simp; omega, by omega⟩, ⟨rfl, e5⟩, ?_⟩
   rw [e4]
   obtain ⟨k1, s1, n1, l1⟩ := o
   exact ⟨_, hap.args ⟨.refl _, le_c leSl, trivial⟩, .refl _, rfl⟩
  · have e3 : z24 (.mk kd s n (u :: a' ++ [])) (o :: r ++ z07 lf [] (k + by_)) = .mk kd s n (o :: r) := by
     simp only [z07, List.append_nil]
     exact if_neg fun e => by
      have hu' : (u.k != 6) = false := by cases u; exact hu
      have : (u.k != 6) = true := e.2.2.2
      rw [hu'] at this; cases this
    rw [e3]; exact hrest _ _ _
  · have e3 : z24 (.mk kd s n (u :: a' ++ [])) (o :: r ++ z07 lf [] (k + by_)) = .mk kd s n (o :: r) := by
     simp only [z07, List.append_nil]
     exact if_neg fun e => by
      have ho' : (o.k == 6) = false := by cases o; exact ho
      have : (o.k == 6) = true := e.2.2.1
      rw [ho'] at this; cases this
    rw [e3]; exact hrest _ _ _
  · have e3 : z24 (.mk kd s n (u :: a' ++ [])) (o :: r ++ z07 lf [] (k + by_)) = .mk kd s n (o :: r) := by
     simp only [z07, List.append_nil]
     exact if_neg fun e => by have := e.2.1; have := of_decide_eq_false h1; omega
    rw [e3]; exact hrest _ _ _
  · have e3 : z24 (.mk kd s n (u :: a' ++ [])) (o :: r ++ z07 lf [] (k + by_)) = .mk kd s n (o :: r) := by
     simp only [z07, List.append_nil]
     exact if_neg fun e => by
      have h6' : (kd == 6) = false := h6
      have : (kd == 6) = true := e.1
      rw [h6'] at this; cases this
    rw [e3]; exact hrest _ _ _
 | t :: b, a, acc, hne, hlen, hl, hw, ih => by
  refine RPt.vc hP sh z7b (Eq.mpr (zac ..) ?_)
  have hl' := hl
  simp only [List.length_append, List.length_cons, B] at hl'
  have h1 := ih t List.mem_cons_self
  have h2 := l_w2Su ix sk ss sn sl lf k by_ h0 hk hb0 hb1 kd s n hin b (a ++ [t]) (acc ++ [z0d lf t (k + by_)]) (by simp) (by simp [hlen]) (by rw [ap]; exact hl)
   (by rw [List.append_assoc]; simpa [z07] using hw) (fun u hu => ih u (List.mem_cons_of_mem _ hu))
  have h3 := ltI' a t b
  unfold stSu at h2
  rw [ap, show (((a ++ [t]).length : Nat) : Int) = (a.length : Int) + 1 from nx a t] at h2
  show br (decide ((a.length : Int) < (((a ++ t :: b).length : Nat) : Int))) ((FV.isSl 4 (.sl false 4 (FTs (a ++ t :: b))) = true ∧ _ ∧ _ ∧ _) ∧ _) _
  refine z00 (fun _ => ?_) (fun h => absurd (ltI a t b) (of_decide_eq_false h))
  have hm := midI a t b
  rw [show FV.ses (.sl false 4 (FTs (a ++ t :: b))) = FTs (a ++ t :: b) from rfl, hm, w64 (x := (a.length : Int) + 1) (by omega) (by omega), w64 (x := k + by_) (by omega) (by omega)]
  obtain ⟨k', s', n', l'⟩ := t
  refine ⟨⟨rfl, by omega, h3, rfl⟩, _, h1, Nat.le_refl _, ⟨by rw [z01]; omega, z5k (by omega)⟩, ?_⟩
  have e5 : List.take acc.length (FTs acc) ++ FTs [z0d lf (.mk k' s' n' l') (k + by_)] = FTs (acc ++ [z0d lf (.mk k' s' n' l') (k + by_)]) := by rw [List.take_of_length_le (by rw [z01]; omega), ← z27]
  have e6 : FTs [z0d lf (.mk k' s' n' l') (k + by_)] = [[.int .i64 (z0d lf (.mk k' s' n' l') (k + by_)).k, .str (z0d lf (.mk k' s' n' l') (k + by_)).s, .int .i64 (z0d lf (.mk k' s' n' l') (k + by_)).n, .sl false 4 (FTs (z0d lf (.mk k' s' n' l') (k + by_)).l)]] := by
   rw [FTs, FTs, z82]
  rw [e6] at e5
  rw [e5]
  rw [show acc ++ z07 lf (.mk k' s' n' l' :: b) (k + by_) = acc ++ z0d lf (.mk k' s' n' l') (k + by_) :: z07 lf b (k + by_) by simp [z07]]
  rw [show (acc ++ [z0d lf (.mk k' s' n' l') (k + by_)]).length = acc.length + 1 by simp, List.append_assoc] at h2
  exact h2
theorem l_w1Su (ix : Int) (sk : Int) (ss : List UInt8) (sn : Int) (sl : List Tm) (lf : Tm → Int → Tm) (k by_ : Int) (h0 : 0 ≤ k) (hk : k ≤ 2305843009213693952) (hb0 : 0 ≤ by_) (hb1 : by_ ≤ 1) (kd : Int) (s : List UInt8) (n : Int) (hin : (kd == 5 || kd == 6) = true) :
  ∀ (b : List Tm), b.length ≤ B → (∀ u ∈ z07 lf b (k + by_), u.l.length ≤ 2 * B) →
  (∀ u ∈ b, AC Tryz.prog 151 [cloSu, aT u, ci (k + by_)] [(obj1 ix), (.arr 4 [fzs (FT (.mk sk ss sn sl))])] (aT (z0d lf u (k + by_))) [(obj1 ix), (.arr 4 [fzs (FT (.mk sk ss sn sl))])]) →
  RPt Tryz.prog 151 2 (aT (z24 (.mk kd s n b) (z07 lf b (k + by_)))) [(obj1 ix), (.arr 4 [fzs (FT (.mk sk ss sn sl))])] 1 (stSu ix sk ss sn sl k by_ kd s n b (.fz .nils) 0 [] 5)
 | [], hl, hw, _ => by
  refine RPt.vc hP sh z7b (Eq.mpr (zae ..) ?_)
  have e : z24 (.mk kd s n []) (z07 lf [] (k + by_)) = .mk kd s n [] := if_neg fun e => by have := e.2.1; simp [z07] at this
  rw [e]
  exact z00 (fun h => absurd (of_decide_eq_true h) (by simp)) (fun _ => z00 (fun _ => ⟨rfl, leT z0r, rfl⟩) (fun _ => ⟨leT z0r, rfl⟩))
 | t :: b, hl, hw, ih => by
  refine RPt.vc hP sh z7b (Eq.mpr (zae ..) ?_)
  have hl' := hl
  simp only [List.length_cons, B] at hl'
  have h1 := ih t List.mem_cons_self
  have h2 := l_w2Su ix sk ss sn sl lf k by_ h0 hk hb0 hb1 kd s n hin b [t] [z0d lf t (k + by_)] (by simp) rfl (by simpa using hl) (by simpa [z07] using hw) (fun u hu => ih u (List.mem_cons_of_mem _ hu))
  show br (decide ((0 : Int) < (((t :: b).length : Nat) : Int))) ((FV.isSl 4 (.sl false 4 (FTs (t :: b))) = true ∧ _ ∧ _ ∧ _) ∧ _) _
  refine z00 (fun _ => ?_) (fun h => absurd (of_decide_eq_false h) (by simp))
  rw [show FV.ses (.sl false 4 (FTs (t :: b))) = FTs (t :: b) from rfl, show List.getD (FTs (t :: b)) (Int.toNat ((0 : Nat) : Int)) [] = FT t from rfl, w64 (x := k + by_) (by omega) (by omega), w64 (x := ((0 : Nat) : Int) + 1) (by omega) (by omega)]
  obtain ⟨k', s', n', l'⟩ := t
  have h3 : (0 : Int) < (((FTs (.mk k' s' n' l' :: b)).length : Nat) : Int) := by rw [z01]; simp
  refine ⟨⟨rfl, by omega, h3, rfl⟩, _, h1, Nat.le_refl _, z5k (by omega), ?_⟩
  have e6 : FTs [z0d lf (.mk k' s' n' l') (k + by_)] = [[.int .i64 (z0d lf (.mk k' s' n' l') (k + by_)).k, .str (z0d lf (.mk k' s' n' l') (k + by_)).s, .int .i64 (z0d lf (.mk k' s' n' l') (k + by_)).n, .sl false 4 (FTs (z0d lf (.mk k' s' n' l') (k + by_)).l)]] := by
   rw [FTs, FTs, z82]
  unfold stSu at h2
  rw [e6] at h2
  exact h2
theorem c_wSu (ix : Int) (sk : Int) (ss : List UInt8) (sn : Int) (sl : List Tm) (lf : Tm → Int → Tm) (Q : Tm → Int → Prop)
  (hq : ∀ (kd : Int) (s : List UInt8) (n : Int) (l : List Tm) (d : Int), Q (.mk kd s n l) d → (kd == 5 || kd == 6) = true → ∀ u ∈ l, Q u (d + if (kd == 5) = true then 1 else 0))
  (hleaf : ∀ (u : Tm) (d : Int), (u.k == 5 || u.k == 6) = false → Q u d → 0 ≤ d → d ≤ 2305843009213693952 → AC Tryz.prog 176 [aT u, ci d, .c (.a (.ep 0 1 0 0)), .c (.a (.ep 1 4 0 0))] [(obj1 ix), (.arr 4 [fzs (FT (.mk sk ss sn sl))])] (aT (lf u d)) [(obj1 ix), (.arr 4 [fzs (FT (.mk sk ss sn sl))])])
  (hwid : ∀ (u : Tm) (d : Int), Q u d → (z0d lf u d).l.length ≤ 2 * B) :
  ∀ t : Tm, t.sz ≤ B → ∀ k : Int, Q t k → 0 ≤ k → k + t.sz ≤ 2305843009213693952 → AC Tryz.prog 151 [cloSu, aT t, ci k] [(obj1 ix), (.arr 4 [fzs (FT (.mk sk ss sn sl))])] (aT (z0d lf t k)) [(obj1 ix), (.arr 4 [fzs (FT (.mk sk ss sn sl))])] := by
 refine Tm.ind fun t ih hs k hQ h0 h1 => ?_
 have hlen := Tm.szs_length t.l
 obtain ⟨kd, s, n, l⟩ := t
 simp only [Tm.sz, B, Tm.l] at hs hlen
 simp only [Tm.sz] at h1
 have key : ∀ by_ : Int, 0 ≤ by_ → by_ ≤ 1 → (by_ = if (kd == 5) = true then 1 else 0) → (hin : (kd == 5 || kd == 6) = true) → RPt Tryz.prog 151 2 (aT (z0d lf (.mk kd s n l) k)) [(obj1 ix), (.arr 4 [fzs (FT (.mk sk ss sn sl))])] 1 (stSu ix sk ss sn sl k by_ kd s n l (.fz .nils) 0 [] 5) := by
  intro by_ hb0 hb1 hby hin
  have hQ' := hq kd s n l k hQ hin
  rw [← hby] at hQ'
  have := l_w1Su ix sk ss sn sl lf k by_ h0 (by omega) hb0 hb1 kd s n hin l (by simp only [B]; omega) (fun u hu => by
   have : ∀ {m : List Tm}, (∀ v ∈ m, Q v (k + by_)) → ∀ u ∈ z07 lf m (k + by_), u.l.length ≤ 2 * B := by
    intro m
    induction m with
    | nil => intro _ u hu; simp [z07] at hu
    | cons v m ihm =>
     intro hm u hu
     simp only [z07, List.mem_cons] at hu
     rcases hu with rfl | hu
     · exact hwid v _ (hm v List.mem_cons_self)
     · exact ihm (fun x hx => hm x (List.mem_cons_of_mem _ hx)) u hu
   exact this hQ' u hu) (fun u hu => ih u hu (by have := Tm.szs_mem hu; simp only [B]; omega) (k + by_) (hQ' u hu) (by omega) (by have := Tm.szs_mem hu; omega))
  rw [z0d, if_pos hin, ← hby]
  exact this
 refine AC.vc hP sh z7b (Nat.le_refl _) (by simp [isLive]) (by simp) (Eq.mpr (ztn kd s n (FTs l) k ix sk ss sn (FTs sl) _ _) ?_)
 have wi : (kd == 5 || kd == 6) = true → AC Tryz.prog 88 [aT (.mk kd s n l)] [] (.tup [(false, [.a (.fz (.sl false 4 (FTs l)))]), (false, [.a (.fz (.int .i64 (if (kd == 5) = true then 1 else 0)))])]) [] := fun hin => by
  have hw := z8x (.mk kd s n l)
  rw [show z5g (.mk kd s n l) = .sl false 4 (FTs l) from if_pos hin] at hw
  exact hw
 refine z00 (fun h => z00 (fun h2 => ?_) (fun h2 => ?_)) (fun h => ?_)
 · have e1 : (kd == 5) = false := by simpa using h
   have e2 : (kd == 6) = false := by simpa using h2
   have e : (kd == 5 || kd == 6) = false := by rw [e1, e2]; rfl
   have hl := hleaf (.mk kd s n l) k e hQ h0 (by omega)
   rw [show z0d lf (.mk kd s n l) k = lf (.mk kd s n l) k by rw [z0d, if_neg (by rw [e]; simp)]]
   exact ⟨_, hl, .refl _, rfl⟩
 · have e1 : (kd == 5) = false := by simpa using h
   have e2 : (kd == 6) = true := by simpa using h2
   have hin : (kd == 5 || kd == 6) = true := by rw [e1, e2]; rfl
   have hk := key 0 (by omega) (by omega) (by rw [e1]; rfl) hin
   have hw := wi hin
   rw [e1] at hw
   refine ⟨_, _, hw, rfl, ?_⟩
   show RPt _ _ _ _ _ _ ⟨[_, _, _, _, _, _, _, _, (31, ci (((FTs l).length : Nat) : Int)), _], _, _⟩
   rw [z01]
   exact hk
 · have e1 : (kd == 5) = true := by simpa using h
   have hin : (kd == 5 || kd == 6) = true := by rw [e1]; rfl
   have hk := key 1 (by omega) (by omega) (by rw [e1]; rfl) hin
   have hw := wi hin
   rw [e1] at hw
   refine ⟨_, _, hw, rfl, ?_⟩
   show RPt _ _ _ _ _ _ ⟨[_, _, _, _, _, _, _, _, (31, ci (((FTs l).length : Nat) : Int)), _], _, _⟩
   rw [z01]
   exact hk
end Go.AM

set_option maxRecDepth 100000
open Go Go.Proofs
namespace Go.AM
theorem z2m (f : Tm) (l : List Tm) : (applyF f l).sz ≤ 1 + f.sz + Tm.szs l := by
 unfold applyF
 split
 · simp only [Tm.szs]; omega
 · split
   · have := f.sz_eq; simp only [Tm.sz, Tm.szs_append, List.length_nil]; omega
   · simp only [Tm.sz, Tm.szs, List.length_nil]; omega
theorem zmd (t : Tm) (o : List Tm) : (z24 t o).sz ≤ 1 + Tm.szs o := by
 unfold z24
 split
 · rename_i h
   match o, h with
   | [], h => simp at h
   | x :: r, h =>
    simp only [List.headD_cons, List.tail_cons, Tm.szs] at h ⊢
    have hx : (x.k == 6) = true := h.2.2.1
    have hr : r ≠ [] := by intro e; rw [e] at h; simp at h
    unfold applyF
    split
    · exact absurd rfl hr
    · have := x.sz_eq
      by_cases hl : x.l = []
      · rw [if_neg (fun e => e.2 hl)]
        simp only [Tm.sz, Tm.szs, List.length_nil]; omega
      · rw [if_pos ⟨hx, hl⟩]
        simp only [Tm.sz, Tm.szs_append, List.length_nil]; omega
 · simp only [Tm.sz]; omega
mutual
def nd : Tm → Nat
 | .mk _ _ _ l => 1 + nds l
def nds : List Tm → Nat
 | [] => 0
 | t :: l => nd t + nds l
end
theorem nd_eq (t : Tm) : nd t = 1 + nds t.l := by cases t; rfl
theorem zus : ∀ {l : List Tm} {t : Tm}, t ∈ l → nd t ≤ nds l
 | x :: l, t, h => by
  rcases List.mem_cons.1 h with rfl | h
  · simp only [nds]; omega
  · have := zus h; simp only [nds]; omega
mutual
theorem zg9 (lf : Tm → Int → Tm) (S : Nat) (h : ∀ u d, (lf u d).sz ≤ u.sz + S) : ∀ (t : Tm) (d : Int), (z0d lf t d).sz ≤ t.sz + nd t * S
 | .mk k s n l, d => by
  rw [z0d]
  split
  · refine Nat.le_trans (zmd ..) ?_
    have := znu lf S h l (d + if (k == 5) = true then 1 else 0)
    simp only [Tm.sz, Tm.s, nd, Nat.add_mul, Nat.one_mul]
    omega
  · refine Nat.le_trans (h _ _) ?_
    simp only [nd, Nat.add_mul, Nat.one_mul]; omega
theorem znu (lf : Tm → Int → Tm) (S : Nat) (h : ∀ u d, (lf u d).sz ≤ u.sz + S) : ∀ (l : List Tm) (d : Int), Tm.szs (z07 lf l d) ≤ Tm.szs l + nds l * S
 | [], _ => by simp [z07, Tm.szs]
 | t :: l, d => by
  have := zg9 lf S h t d
  have := znu lf S h l d
  simp only [z07, Tm.szs, nds, Nat.add_mul]; omega
end
theorem zf0 {M : Int} : ∀ {a b : List Tm}, bds M a → bds M b → bds M (a ++ b)
 | [], _, _, h => h
 | _ :: _, _, h, h' => ⟨h.1, zf0 h.2 h'⟩
theorem z63 {M : Int} : ∀ {l : List Tm}, (∀ t ∈ l, bd M t) → bds M l
 | [], _ => trivial
 | t :: _, h => ⟨h t List.mem_cons_self, z63 fun u hu => h u (List.mem_cons_of_mem _ hu)⟩
theorem bd6 {M : Int} {s : List UInt8} {n : Int} {l : List Tm} (h : bds M l) : bd M (.mk 6 s n l) := ⟨fun e => absurd e (by omega), h⟩
theorem z2n {M : Int} {f : Tm} {l : List Tm} (hf : bd M f) (hl : bds M l) : bd M (applyF f l) := by
 unfold applyF
 split
 · exact hf
 · split
   · exact bd6 (zf0 (bd_l hf) hl)
   · exact bd6 ⟨hf, hl⟩
theorem withF_bd {M : Int} {t : Tm} {o : List Tm} (hk : t.k ≠ 3) (ho : bds M o) : bd M (z24 t o) := by
 unfold z24
 split
 · rename_i h
   match o, h, ho with
   | [], h, _ => simp at h
   | x :: r, h, ho => exact z2n ho.1 ho.2
 · exact ⟨fun e => absurd e hk, ho⟩
mutual
theorem zb1 (lf : Tm → Int → Tm) (M M' D : Int) (h : ∀ u d, bd M u → 0 ≤ d → d ≤ D → bd M' (lf u d)) : ∀ (t : Tm) (d : Int), bd M t → 0 ≤ d → d + t.sz ≤ D → bd M' (z0d lf t d)
 | .mk k s n l, d, hb, h0, h1 => by
  rw [z0d]
  simp only [Tm.sz] at h1
  split
  · rename_i hk
    refine withF_bd (fun e => ?_) (zop lf M M' D h l _ hb.2 (by split <;> omega) (by split <;> omega))
    have e : k = 3 := e
    rw [e] at hk; exact absurd hk (by decide)
  · exact h _ _ hb h0 (by omega)
theorem zop (lf : Tm → Int → Tm) (M M' D : Int) (h : ∀ u d, bd M u → 0 ≤ d → d ≤ D → bd M' (lf u d)) : ∀ (l : List Tm) (d : Int), bds M l → 0 ≤ d → d + Tm.szs l ≤ D → bds M' (z07 lf l d)
 | [], _, _, _, _ => trivial
 | t :: l, d, hb, h0, h1 => by
  simp only [Tm.szs] at h1
  exact ⟨zb1 lf M M' D h t d hb.1 h0 (by omega), zop lf M M' D h l d hb.2 h0 (by omega)⟩
end
theorem applyF_k {f : Tm} (l : List Tm) (h : (f.k == 6) = true) : (applyF f l).k = 6 := by
 unfold applyF
 split
 · simpa using h
 · split <;> rfl
theorem withF_k (t : Tm) (o : List Tm) : (z24 t o).k = t.k := by
 unfold z24
 split
 · rename_i h6
   have e : t.k = 6 := by simpa using h6.1
   rw [applyF_k _ h6.2.2.1]; exact e.symm
 · rfl
theorem zta (lf : Tm → Int → Tm) (h : ∀ u d, (lf u d).k = u.k) (t : Tm) (d : Int) : (z0d lf t d).k = t.k := by
 obtain ⟨k, s, n, l⟩ := t
 rw [z0d]
 split
 · exact withF_k _ _
 · exact h _ _
theorem zpe (lf : Tm → Int → Tm) (h : ∀ u d, (lf u d).k = u.k) (k : Int) (s : List UInt8) (n : Int) (l : List Tm) (d : Int) (hk : (k == 5 || k == 6) = true) :
  z0d lf (.mk k s n l) d = .mk k s n (z07 lf l (d + if (k == 5) = true then 1 else 0)) := by
 rw [z0d, if_pos hk, z24, if_neg fun e => ?_]; rfl
 match l, e with
 | [], e => have := e.2.1; simp [z07] at this
 | t :: l, e =>
  have e1 := e.2.2.1
  have e2 := e.2.2.2
  rw [z07, List.headD_cons, zta lf h] at e1
  have e2 : (t.k != 6) = true := e2
  rw [bne, e1] at e2; cases e2
theorem zp6 (lf : Tm → Int → Tm) (k : Int) (s : List UInt8) (n : Int) (l : List Tm) (d : Int) (hk : (k == 5 || k == 6) = false) :
  z0d lf (.mk k s n l) d = lf (.mk k s n l) d := by rw [z0d, if_neg (by rw [hk]; simp)]
theorem zal (lf : Tm → Int → Tm) : ∀ (l : List Tm) (d : Int), (z07 lf l d).length = l.length
 | [], _ => rfl
 | _ :: l, d => by simp only [z07, List.length_cons, zal lf l d]
abbrev M61 : Int := 2305843009213693952
def z0g (fr by_ : Int) (u : Tm) (d : Int) : Tm := if (u.k == 3) = true ∧ d + fr ≤ u.n then .mk u.k u.s (u.n + by_) u.l else u
def shT (fr by_ : Int) (t : Tm) (d : Int) : Tm := z0d (z0g fr by_) t d
theorem zo6 (fr by_ : Int) (u : Tm) (d : Int) : (z0g fr by_ u d).k = u.k := by unfold z0g; split <;> rfl
theorem zv1 (fr by_ : Int) (u : Tm) (d : Int) : (z0g fr by_ u d).sz = u.sz := by
 unfold z0g; split
 · cases u; rfl
 · rfl
theorem zoi (fr by_ : Int) (t : Tm) (d : Int) : (shT fr by_ t d).sz ≤ t.sz := by
 have := zg9 (z0g fr by_) 0 (fun u d => by rw [zv1]; omega) t d
 rw [Nat.mul_zero] at this; exact this
theorem z5d {M M' : Int} (h : M ≤ M') : ∀ t : Tm, bd M t → bd M' t := by
 refine Tm.ind fun t ih hb => ?_
 obtain ⟨k, s, n, l⟩ := t
 exact ⟨fun e => by have := hb.1 e; omega, z63 fun u hu => ih u hu (z1v hb.2 hu)⟩
theorem zuf {fr by_ M : Int} (h0 : 0 ≤ by_) (u : Tm) (d : Int) (hb : bd M u) : bd (M + by_) (z0g fr by_ u d) := by
 unfold z0g
 split
 · obtain ⟨k, s, n, l⟩ := u
   exact ⟨fun e => by have := hb.1 e; simp only [Tm.n]; omega, z63 fun u hu => z5d (by omega) u (z1v hb.2 hu)⟩
 · exact z5d (by omega) u hb
theorem shT_bd {fr by_ M : Int} (h0 : 0 ≤ by_) (t : Tm) (d : Int) (hb : bd M t) (hd : 0 ≤ d) : bd (M + by_) (shT fr by_ t d) :=
 zb1 (z0g fr by_) M (M + by_) (d + t.sz) (fun u d' hu _ _ => zuf h0 u d' hu) t d hb hd (Int.le_refl _)
theorem zt7 (t : Tm) (by_ : Int) (h1 : -9223372036854775808 ≤ t.n + by_) (h2 : t.n + by_ ≤ 9223372036854775807) : AC Tryz.prog 150 [aT t, ci by_] [] (aT (.mk t.k t.s (t.n + by_) t.l)) [] := by
 obtain ⟨k, s, n, l⟩ := t
 refine AC.vc hP sh lv150 (Nat.le_refl _) (by simp) (by simp) (Eq.mpr (v150 k s n (FTs l) by_ _ _) ?_)
 rw [w64 (x := n + by_) h1 h2]
 exact ⟨.refl _, rfl⟩
theorem c_shift1 (fr by_ d : Int) (u : Tm) (hb : u.k = 3 → 0 - M61 ≤ u.n ∧ u.n ≤ M61) (hd0 : 0 ≤ d) (hd1 : d ≤ M61) (hf0 : 0 ≤ fr) (hf1 : fr ≤ M61) (hb0 : 0 - 1 ≤ by_) (hb1 : by_ ≤ M61) :
  AC Tryz.prog 149 [aT u, ci d, .c (.a (.ep 0 1 0 0)), .c (.a (.ep 1 1 0 0))] [obj1 fr, obj1 by_] (aT (z0g fr by_ u d)) [obj1 fr, obj1 by_] := by
 obtain ⟨k, s, n, l⟩ := u
 simp only [M61, Tm.k, Tm.n] at *
 refine AC.vc hP sh lv149 (Nat.le_refl _) (by simp [isLive]) (by simp) (Eq.mpr (v149 k s n (FTs l) d fr by_ _ _) ?_)
 rw [w64 (by omega) (by omega)]
 refine z00 (fun h => z00 (fun h2 => ?_) (fun h2 => ?_)) (fun h => ?_)
 · have hk : k = 3 := by simpa using h
   have h3 : d + fr ≤ n := of_decide_eq_true h2
   have := hb hk
   have e : z0g fr by_ (.mk k s n l) d = .mk k s (n + by_) l := if_pos ⟨h, h3⟩
   rw [e]
   exact ⟨_, zt7 (.mk k s n l) by_ (by simp only [Tm.n]; omega) (by simp only [Tm.n]; omega), .refl _, rfl⟩
 · have h3 : ¬ d + fr ≤ n := of_decide_eq_false h2
   have e : z0g fr by_ (.mk k s n l) d = .mk k s n l := if_neg fun e => h3 e.2
   rw [e]; exact ⟨.refl _, rfl⟩
 · have e : z0g fr by_ (.mk k s n l) d = .mk k s n l := if_neg fun e => by have := e.1; rw [show Tm.k (.mk k s n l) = k from rfl, h] at this; cases this
   rw [e]; exact ⟨.refl _, rfl⟩
theorem zt8 (t : Tm) (fr by_ : Int) (hs : t.sz ≤ B) (hb : bd M61 t) (hf0 : 0 ≤ fr) (hf1 : fr ≤ M61) (hb0 : 0 - 1 ≤ by_) (hb1 : by_ ≤ M61) :
  AC Tryz.prog 131 [aT t, ci fr, ci by_] [] (aT (shT fr by_ t 0)) [] := by
 have h := c_wSh fr by_ (z0g fr by_) (fun u _ => bd M61 u ∧ u.sz ≤ B) (fun kd s n l d hq hk u hu => ⟨z1v hq.1.2 hu, by have := Tm.szs_mem hu; have := hq.2; simp only [Tm.sz] at this; omega⟩)
  (fun u d hk hq h0 h1 => c_shift1 fr by_ d u (by obtain ⟨k, s, n, l⟩ := u; exact hq.1.1) h0 h1 hf0 hf1 hb0 hb1)
  (fun u d hq => by have := zoi fr by_ u d; have h1 := (shT fr by_ u d).sz_eq; have := Tm.szs_length (shT fr by_ u d).l; have := hq.2; show (shT fr by_ u d).l.length ≤ _; omega)
  t hs 0 ⟨hb, hs⟩ (Int.le_refl _) (by simp only [B] at hs; omega)
 obtain ⟨k, s, n, l⟩ := t
 refine AC.vc hP sh lv131 (Nat.le_refl _) (by simp) (by simp) (Eq.mpr (v131 k s n (FTs l) fr by_ _ _) ?_)
 exact ⟨_, h, .refl _, rfl⟩
def z1r (i : Int) (s : Tm) (u : Tm) (d : Int) : Tm :=
 if (u.k == 3) = true then (if u.n < d + i then u else if (u.n == d + i) = true then shT 0 d s 0 else .mk u.k u.s (u.n - 1) u.l) else u
def suT (i : Int) (s t : Tm) (d : Int) : Tm := z0d (z1r i s) t d
theorem zrx (i : Int) (s u : Tm) (d : Int) : (z1r i s u d).sz ≤ u.sz + s.sz := by
 have h3 := zoi 0 d s 0
 unfold z1r
 split
 · split
   · omega
   · split
     · omega
     · cases u; simp only [Tm.sz, Tm.s, Tm.l]; omega
 · omega
theorem suT_sz (i : Int) (s t : Tm) (d : Int) : (suT i s t d).sz ≤ t.sz + nd t * s.sz := zg9 _ _ (zrx i s) t d
theorem suT_bd {i M M' D : Int} (s t : Tm) (d : Int) (hb : bd M t) (hs : bd M' s) (hM : M' + D ≤ M) (hd : 0 ≤ d) (hD : d + t.sz ≤ D) (hi : 0 ≤ i) (hM' : 0 ≤ M): bd M (suT i s t d) := by
 refine zb1 (z1r i s) M M D (fun u d' hu h0 h1 => ?_) t d hb hd hD
 unfold z1r
 split
 · split
   · exact hu
   · split
     · exact z5d (by omega) _ (shT_bd h0 s 0 hs (Int.le_refl _))
     · rename_i h2 h3
       obtain ⟨k, s', n, l⟩ := u
       have h3' : n ≠ d' + i := fun e => h3 (by rw [show Tm.n (.mk k s' n l) = n from rfl, e]; simp)
       have h2' : ¬ n < d' + i := h2
       exact ⟨fun e => by have := hu.1 e; simp only [Tm.n]; omega, hu.2⟩
 · exact hu
theorem c_subst1 (i d : Int) (s u : Tm) (hs : s.sz ≤ B) (hbs : bd M61 s) (hb : u.k = 3 → 0 - M61 ≤ u.n ∧ u.n ≤ M61) (hd0 : 0 ≤ d) (hd1 : d ≤ M61) (hi0 : 0 ≤ i) (hi1 : i ≤ M61) :
  AC Tryz.prog 176 [aT u, ci d, .c (.a (.ep 0 1 0 0)), .c (.a (.ep 1 4 0 0))] [obj1 i, .arr 4 [fzs (FT s)]] (aT (z1r i s u d)) [obj1 i, .arr 4 [fzs (FT s)]] := by
 obtain ⟨k, t, n, l⟩ := u
 have hsh := zt8 s 0 d hs hbs (Int.le_refl _) (by simp only [M61]; omega) (by omega) hd1
 rw [z82]
 simp only [M61, Tm.k, Tm.n] at *
 refine AC.vc hP sh lv176 (Nat.le_refl _) (by simp [isLive]) (by simp) (Eq.mpr (v176 k t n (FTs l) d i s.k s.s s.n (FTs s.l) _ _) ?_)
 rw [w64 (by omega) (by omega)]
 refine z00 (fun h => ?_) (fun h => z00 (fun h2 => ?_) (fun h2 => z00 (fun h3 => ?_) (fun h3 => ?_)))
 · have e : z1r i s (.mk k t n l) d = .mk k t n l := if_neg fun e => by rw [show Tm.k (.mk k t n l) = k from rfl] at e; rw [bne, e] at h; cases h
   rw [e]; exact ⟨.refl _, rfl⟩
 · have hk : (k == 3) = true := by simpa [bne] using h
   have e : z1r i s (.mk k t n l) d = .mk k t n l := by rw [z1r, if_pos (show (Tm.k (.mk k t n l) == 3) = true from hk), if_pos (show Tm.n (.mk k t n l) < d + i from of_decide_eq_true h2)]
   rw [e]; exact ⟨.refl _, rfl⟩
 · have hk : (k == 3) = true := by simpa [bne] using h
   have e : z1r i s (.mk k t n l) d = shT 0 d s 0 := by rw [z1r, if_pos (show (Tm.k (.mk k t n l) == 3) = true from hk), if_neg (show ¬ Tm.n (.mk k t n l) < d + i from of_decide_eq_false h2), if_pos (show (Tm.n (.mk k t n l) == d + i) = true from h3)]
   rw [e]; exact ⟨_, hsh, .refl _, rfl⟩
 · have hk : (k == 3) = true := by simpa [bne] using h
   have e : z1r i s (.mk k t n l) d = .mk k t (n - 1) l := by rw [z1r, if_pos (show (Tm.k (.mk k t n l) == 3) = true from hk), if_neg (show ¬ Tm.n (.mk k t n l) < d + i from of_decide_eq_false h2), if_neg (by rw [show Tm.n (.mk k t n l) = n from rfl, h3]; simp)]; rfl
   have := hb (by simpa using hk)
   rw [e]; exact ⟨_, zt7 (.mk k t n l) (-1) (by simp only [Tm.n]; omega) (by simp only [Tm.n]; omega), .refl _, rfl⟩
theorem c_subst (t s : Tm) (i : Int) (hs : s.sz ≤ B) (ht : t.sz + nd t * s.sz ≤ B) (hb : bd M61 t) (hbs : bd M61 s) (hi0 : 0 ≤ i) (hi1 : i ≤ M61) :
  AC Tryz.prog 173 [aT t, ci i, aT s] [] (aT (suT i s t 0)) [] := by
 have ht' : t.sz ≤ B := by omega
 have hFT := z82 s
 obtain ⟨sk, ss, sn, sl⟩ := s
 have h := c_wSu i sk ss sn sl (z1r i (.mk sk ss sn sl)) (fun u _ => bd M61 u ∧ u.sz + nd u * (Tm.mk sk ss sn sl).sz ≤ B) (fun kd s n l d hq hk u hu => ⟨z1v hq.1.2 hu, by have h2 := hq.2; have := Nat.mul_le_mul_right (Tm.mk sk ss sn sl).sz (zus hu); have := Tm.szs_mem hu; rw [Tm.sz_eq (.mk kd s n l), nd_eq (.mk kd s n l), Nat.add_mul] at h2; simp only [Tm.l, Tm.s] at h2; omega⟩)
  (fun u d hk hq h0 h1 => c_subst1 i d (.mk sk ss sn sl) u hs hbs (by obtain ⟨k, s, n, l⟩ := u; exact hq.1.1) h0 h1 hi0 hi1)
  (fun u d hq => by have := suT_sz i (.mk sk ss sn sl) u d; have h1 := (suT i (.mk sk ss sn sl) u d).sz_eq; have := Tm.szs_length (suT i (.mk sk ss sn sl) u d).l; have := hq.2; show (suT i (.mk sk ss sn sl) u d).l.length ≤ _; omega)
  t ht' 0 ⟨hb, ht⟩ (Int.le_refl _) (by simp only [B] at ht'; omega)
 obtain ⟨k, s, n, l⟩ := t
 refine AC.vc hP sh lv173 (Nat.le_refl _) (by simp) (by simp) (Eq.mpr (v173 k s n (FTs l) i sk ss sn (FTs sl) _ _) ?_)
 exact ⟨_, h, .refl _, rfl⟩
end Go.AM

set_option maxRecDepth 100000
open Go Go.Proofs
namespace Go.AM
def z3w : Nat → Tm → Tm
 | 0, t => t
 | n + 1, t => z3w n (.mk 5 [] 0 [t])
theorem zv8 (N : Int) (hN : N ≤ 4294967296) : ∀ (m : Nat) (i k : Int) (s : List UInt8) (n : Int) (rows : List (List FV)) (l : List Tm), 0 ≤ i → i + m = N → FV.Le (.sl false 4 rows) (.sl false 4 (FTs l)) →
  RPt Tryz.prog 45 0 (aT (z3w m (.mk k s n l))) [] 1 ⟨[(3, .c (.a (.ep 0 4 0 0))), (4, .c (.a (.ep 1 4 0 0))), (6, ci N), (7, ci i)], [(0, .arr 4 [[.a (.fz (.int .i64 k)), .a (.fz (.str s)), .a (.fz (.int .i64 n)), .a (.fz (.sl false 4 rows))]]), (1, .arr 4 [[.a (.fz (.int .i64 0)), .a (.fz (.str [])), .a (.fz (.int .i64 0)), .a (.fz .nils)]])], 2⟩
 | 0, i, k, s, n, rows, l, h0, hi, hle => by
  refine RPt.vc hP sh lv45 (Eq.mpr (zrv ..) ?_)
  refine z00 (fun h => absurd (of_decide_eq_true h) (by omega)) (fun _ => ⟨leT hle, rfl⟩)
 | m + 1, i, k, s, n, rows, l, h0, hi, hle => by
  refine RPt.vc hP sh lv45 (Eq.mpr (zrv ..) ?_)
  have h2 := zv8 N hN m (i + 1) 5 [] 0 [[.int .i64 k, .str s, .int .i64 n, .sl false 4 rows]] [.mk k s n l] (by omega) (by omega) (leRows rfl fun j r t hr ht => by
   match j, hr, ht with
   | 0, hr, ht =>
    simp only [List.getElem?_cons_zero, Option.some.injEq] at hr ht
    subst hr; subst ht
    exact leFT hle
   | j + 1, hr, _ => simp at hr)
  rw [w64 (x := i + 1) (by omega) (by omega)]
  refine z00 (fun _ => ⟨⟨rfl, by omega⟩, ?_⟩) (fun h => absurd (of_decide_eq_false h) (by omega))
  exact h2
theorem foldMax0 {n : Int} (h : 0 ≤ n) : z0i [n, 0] = n := by
 rw [zbf]; unfold maxI; split <;> omega
theorem zmx (m : Nat) (t : Tm) (hm : m ≤ 4294967296) : AC Tryz.prog 45 [ci m, aT t] [] (aT (z3w m t)) [] := by
 obtain ⟨k, s, n, l⟩ := t
 refine AC.vc hP sh lv45 (Nat.le_refl _) (by simp) (by simp) (Eq.mpr (v45 m k s n (FTs l) _ _) ?_)
 rw [foldMax0 (by omega)]
 refine RPt.vc hP sh lv45 (Eq.mpr (zrv ..) ?_)
 match m, hm with
 | 0, _ => exact z00 (fun h => absurd (of_decide_eq_true h) (by omega)) (fun _ => ⟨.refl _, rfl⟩)
 | m + 1, hm =>
  refine z00 (fun _ => ⟨⟨rfl, by omega⟩, ?_⟩) (fun h => absurd (of_decide_eq_false h) (by omega))
  exact zv8 ((m + 1 : Nat) : Int) (by omega) m 1 5 [] 0 [[.int .i64 k, .str s, .int .i64 n, .sl false 4 (FTs l)]] [.mk k s n l] (by omega) (by omega) (leRows rfl fun j r t hr ht => by
   match j, hr, ht with
   | 0, hr, ht =>
    simp only [List.getElem?_cons_zero, Option.some.injEq] at hr ht
    subst hr; subst ht
    exact leFT (.refl _)
   | j + 1, hr, _ => simp at hr)
mutual
def validB : Tm → Bool
 | .mk k s n l =>
  if (k == 0) = true then (z7j s || zdm s) && n == 0 && (((FTs l).length : Nat) : Int) == 0
  else if (k == 1) = true then decide (n ≥ 1) && s == [] && (((FTs l).length : Nat) : Int) == 0 && z2a l
  else if (k == 2) = true then s == [] && (((FTs l).length : Nat) : Int) == 0 && z2a l
  else if (k == 3) = true then decide (n ≥ 0) && decide (n ≤ 4611686018427387904) && s == [] && (((FTs l).length : Nat) : Int) == 0 && z2a l
  else if (k == 4) = true then decide (n ≥ 0) && decide (n ≤ 4611686018427387904) && s == [] && (((FTs l).length : Nat) : Int) == 0 && z2a l
  else if (k == 5) = true then n == 0 && s == [] && (((FTs l).length : Nat) : Int) == 1 && z2a l
  else if (k == 6) = true then n == 0 && decide ((((FTs l).length : Nat) : Int) ≥ 2) && ((l.headD default).k != 6) && s == [] && z2a l
  else false
def z2a : List Tm → Bool
 | [] => true
 | t :: l => validB t && z2a l
end
def zl6 : List Tm → Int → Int
 | [], _ => -1
 | t :: l, i => if validB t = true then zl6 l (i + 1) else i
theorem zou : ∀ (l : List Tm) (i : Int), 0 ≤ i → decide (zl6 l i ≥ 0) = !z2a l
 | [], _, _ => rfl
 | t :: l, i, h => by
  rw [zl6, z2a]
  split
  · rename_i e; rw [zou l (i + 1) (by omega), e, Bool.true_and]
  · rename_i e; rw [show validB t = false by simpa using e]; simp; omega
theorem zti : ∀ (b a : List Tm), (∀ u ∈ b, AC Tryz.prog 66 [aT u] [] (cb (!validB u)) []) → (a ++ b).length ≤ B →
  RPt Tryz.prog 83 0 (ci (zl6 b a.length)) [] 1 ⟨[(0, aL (a ++ b)), (1, .c (.fn (.func 66) [] [])), (7, ci (((FTs (a ++ b)).length : Nat) : Int)), (8, ci a.length)], [], 0⟩
 | [], a, _, _ => by
  refine RPt.vc hP sh lv83 (Eq.mpr (zf6 ..) ?_)
  exact z00 (fun h => absurd (of_decide_eq_true h) (geI' a)) (fun _ => z31 rfl)
 | t :: b, a, ih, hl => by
  refine RPt.vc hP sh lv83 (Eq.mpr (zf6 ..) ?_)
  have hl' := hl
  simp only [List.length_append, List.length_cons, B] at hl'
  have h1 := ih t List.mem_cons_self
  have h2 := zti b (a ++ [t]) (fun u hu => ih u (List.mem_cons_of_mem _ hu)) (by rw [ap]; exact hl)
  have h3 := ltI' a t b
  rw [ap, nx] at h2
  rw [midI, w64 (x := (a.length : Int) + 1) (by omega) (by omega)]
  refine z00 (fun _ => ?_) (fun h => absurd h3 (of_decide_eq_false h))
  obtain ⟨k', s', n', l'⟩ := t
  refine ⟨⟨rfl, by omega, h3, rfl⟩, _, h1, z00 (fun h => ?_) (fun h => ?_)⟩
  · rw [zl6, if_neg (by simpa using h)]; exact z31 rfl
  · rw [zl6, if_pos (by simpa using h)]; exact h2
theorem c_contf (l : List Tm) (hl : l.length ≤ B) (ih : ∀ u ∈ l, AC Tryz.prog 20 [aT u] [] (cb (validB u)) []) : AC Tryz.prog 49 [aL l, .c (.fn (.func 66) [] [])] [] (cb (!z2a l)) [] := by
 have h1 : ∀ u ∈ l, AC Tryz.prog 66 [aT u] [] (cb (!validB u)) [] := fun u hu => by
  have h := ih u hu
  obtain ⟨k, s, n, l⟩ := u
  refine AC.vc hP sh lv66 (Nat.le_refl _) (by simp) (by simp) (Eq.mpr (v66 k s n (FTs l) _ _) ?_)
  exact ⟨_, h, z05 rfl⟩
 have h2 : AC Tryz.prog 83 [aL l, .c (.fn (.func 66) [] [])] [] (ci (zl6 l 0)) [] := by
  refine AC.vc hP sh lv83 (Nat.le_refl _) (by simp) (by simp) (Eq.mpr (v83_F66 ..) ?_)
  exact ⟨rfl, zti l [] h1 hl⟩
 refine AC.vc hP sh lv49 (Nat.le_refl _) (by simp) (by simp) (Eq.mpr (v49_F66 ..) ?_)
 exact ⟨_, h2, z05 (zou l 0 (Int.le_refl _))⟩
theorem head0 : ∀ {l : List Tm}, 2 ≤ (((FTs l).length : Nat) : Int) → List.getD (FTs l) 0 [] = FT (l.headD default)
 | [], h => by simp [FTs] at h
 | t :: l, _ => rfl
theorem z36 : ∀ t : Tm, t.sz ≤ B → AC Tryz.prog 20 [aT t] [] (cb (validB t)) [] := by
 refine Tm.ind fun t ih hs => ?_
 have hlen := Tm.szs_length t.l
 obtain ⟨k, s, n, l⟩ := t
 simp only [Tm.sz, Tm.l] at hs hlen
 have hc := c_contf l (by omega) fun u hu => ih u hu (by have := Tm.szs_mem hu; omega)
 refine AC.vc hP sh lv20 (Nat.le_refl _) (by simp) (by simp) (Eq.mpr (v20 k s n (FTs l) _ _) ?_)
 refine z00 (fun h0 => ⟨_, c_isname s, z00 (fun h1 => z00 (fun h2 => ⟨rfl, z05 ?_⟩) (fun h2 => z05 ?_)) (fun h1 => ⟨_, c_issym s, z00 (fun h1' => z00 (fun h2 => ⟨rfl, z05 ?_⟩) (fun h2 => z05 ?_)) (fun h1' => z05 ?_)⟩)⟩)
  (fun h0 => z00 (fun h1 => z00 (fun h2 => z00 (fun h3 => ⟨rfl, z00 (fun h4 => ⟨_, hc, z05 ?_⟩) (fun h4 => z05 ?_)⟩) (fun h3 => z05 ?_)) (fun h2 => z05 ?_))
  (fun h1 => z00 (fun h2 => z00 (fun h3 => ⟨rfl, z00 (fun h4 => ⟨_, hc, z05 ?_⟩) (fun h4 => z05 ?_)⟩) (fun h3 => z05 ?_))
  (fun h2 => z00 (fun h3 => z00 (fun h4 => z00 (fun h5 => z00 (fun h6 => ⟨rfl, z00 (fun h7 => ⟨_, hc, z05 ?_⟩) (fun h7 => z05 ?_)⟩) (fun h6 => z05 ?_)) (fun h5 => z05 ?_)) (fun h4 => z05 ?_))
  (fun h3 => z00 (fun h3' => z00 (fun h4 => z00 (fun h5 => z00 (fun h6 => ⟨rfl, z00 (fun h7 => ⟨_, hc, z05 ?_⟩) (fun h7 => z05 ?_)⟩) (fun h6 => z05 ?_)) (fun h5 => z05 ?_)) (fun h4 => z05 ?_))
  (fun h3' => z00 (fun h5 => z00 (fun h6 => z00 (fun h7 => ⟨rfl, z00 (fun h8 => ⟨_, hc, z05 ?_⟩) (fun h8 => z05 ?_)⟩) (fun h7 => z05 ?_)) (fun h6 => z05 ?_))
  (fun h5 => z00 (fun h6 => z00 (fun h7 => ⟨rfl, z00 (fun h8 => ?app) (fun h8 => ⟨rfl, z05 ?_⟩)⟩) (fun h7 => ⟨rfl, z05 ?_⟩)) (fun h6 => z05 ?_)))))))
 case app =>
  have h8' := of_decide_eq_true h8
  rw [head0 h8', z82]
  refine ⟨⟨rfl, by omega, by omega, rfl⟩, rfl, z00 (fun h9 => z00 (fun h10 => ⟨rfl, z00 (fun h11 => ⟨_, hc, z05 ?_⟩) (fun h11 => z05 ?_)⟩) (fun h10 => z05 ?_)) (fun h9 => z05 ?_)⟩
  all_goals (have h9' : ((l.headD default).k != 6) = _ := h9; simp_all [validB])
 all_goals first
  | (simp_all [validB]; done)
  | (simp_all [validB]; intros; omega)
end Go.AM

set_option maxRecDepth 100000
open Go Go.Proofs
namespace Go.AM
mutual
theorem zlq {M : Int} : ∀ t : Tm, near M t = true → bd M t
 | .mk k s n l, h => by
  simp only [near, Bool.and_eq_true] at h
  refine ⟨fun e => ?_, zos l h.2⟩
  have := h.1
  rw [e] at this
  simp at this; omega
theorem zos {M : Int} : ∀ l : List Tm, zlr M l = true → bds M l
 | [], _ => trivial
 | t :: l, h => by
  simp only [zlr, Bool.and_eq_true] at h
  exact ⟨zlq t h.1, zos l h.2⟩
end
end Go.AM

set_option maxRecDepth 100000
open Go Go.Proofs
namespace Go.AM
abbrev aI (l : List Int) : TV := .c (.a (.fz (.sl false 1 (IR l))))
theorem z4j (l : List Int) : (IR l).length = l.length := by simp [IR]
theorem zs8 (a b : List Int) : IR (a ++ b) = IR a ++ IR b := by simp [IR]
theorem midN (a : List Int) (x : Int) (b : List Int) : List.getD (IR (a ++ x :: b)) (Int.toNat (a.length : Int)) [] = [.int .i64 x] := by
 rw [show Int.toNat (a.length : Int) = a.length by omega]
 simp [List.getD, IR]
theorem ltN (a : List Int) (t : Int) (b : List Int) : (a.length : Int) < (((IR (a ++ t :: b)).length : Nat) : Int) := by rw [z4j]; exact ltI a t b
def hasI (v : Int) (l : List Int) : Bool := l.any fun x => v == x
def idxI (v : Int) : List Int → Int → Int
 | [], _ => -1
 | x :: l, i => if (v == x) = true then i else idxI v l (i + 1)
theorem zuv (v : Int) : ∀ (l : List Int) (i : Int), 0 ≤ i → decide (idxI v l i ≥ 0) = hasI v l
 | [], _, _ => rfl
 | x :: l, i, h => by
  rw [idxI]
  split
  · rename_i e; simp [hasI, e, h]
  · rename_i e; rw [zuv v l (i + 1) (by omega)]; simp [hasI, show (v == x) = false by simpa using e]
theorem zm3 (v : Int) : ∀ (b a : List Int), (a ++ b).length ≤ B → RPt Tryz.prog 89 0 (ci (idxI v b a.length)) [] 1 ⟨[(0, aI (a ++ b)), (1, ci v), (7, ci (((IR (a ++ b)).length : Nat) : Int)), (8, ci a.length)], [], 0⟩
 | [], a, hl => by
  refine RPt.vc hP sh lv89 (Eq.mpr (v89_1a ..) ?_)
  exact z00 (fun h => absurd (of_decide_eq_true h) (by rw [z4j]; simp)) (fun _ => z31 rfl)
 | x :: b, a, hl => by
  refine RPt.vc hP sh lv89 (Eq.mpr (v89_1a ..) ?_)
  have hl' := hl
  simp only [List.length_append, List.length_cons, B] at hl'
  have h2 := zm3 v b (a ++ [x]) (by rw [ap]; exact hl)
  rw [ap, nx] at h2
  rw [midN, w64 (x := (a.length : Int) + 1) (by omega) (by omega)]
  refine z00 (fun _ => ⟨⟨rfl, by omega, ltN a x b, rfl⟩, z00 (fun h => ?_) (fun h => ?_)⟩) (fun h => absurd (ltN a x b) (of_decide_eq_false h))
  · rw [idxI, if_pos (show (v == x) = true from h)]; exact z31 rfl
  · rw [idxI, if_neg (by rw [show (v == x) = false from h]; simp)]; exact h2
theorem zkp (l : List Int) (v : Int) (hl : l.length ≤ B) : AC Tryz.prog 60 [aI l, ci v] [] (cb (hasI v l)) [] := by
 have h1 : AC Tryz.prog 89 [aI l, ci v] [] (ci (idxI v l 0)) [] := by
  refine AC.vc hP sh lv89 (Nat.le_refl _) (by simp) (by simp) (Eq.mpr (v89 ..) ?_)
  exact ⟨rfl, zm3 v l [] hl⟩
 refine AC.vc hP sh lv60 (Nat.le_refl _) (by simp) (by simp) (Eq.mpr (v60 ..) ?_)
 exact ⟨_, h1, z05 (zuv v l 0 (Int.le_refl _))⟩
def z0l (u : Tm) (l : List Int) : List Int := if (u.k == 4 && !hasI u.n l) = true then l ++ [u.n] else l
mutual
def z0z : Tm → List Int → List Int
 | .mk k s n l, acc => if (k == 5 || k == 6) = true then z4d l acc else z0l (.mk k s n l) acc
def z4d : List Tm → List Int → List Int
 | [], acc => acc
 | t :: l, acc => z4d l (z0z t acc)
end
mutual
theorem z96 : ∀ (t : Tm) (acc : List Int), ∃ e, z0z t acc = acc ++ e
 | .mk k s n l, acc => by
  rw [z0z]
  split
  · exact zcf l acc
  · unfold z0l
    split
    · exact ⟨_, rfl⟩
    · exact ⟨[], by simp⟩
theorem zcf : ∀ (l : List Tm) (acc : List Int), ∃ e, z4d l acc = acc ++ e
 | [], acc => ⟨[], by simp [z4d]⟩
 | t :: l, acc => by
  obtain ⟨e, h⟩ := z96 t acc
  obtain ⟨e', h'⟩ := zcf l (z0z t acc)
  exact ⟨e ++ e', by rw [z4d, h', h, List.append_assoc]⟩
end
mutual
theorem z59 : ∀ (t : Tm) (acc : List Int), (z0z t acc).length ≤ acc.length + t.sz
 | .mk k s n l, acc => by
  rw [z0z]
  split
  · have := zj0 l acc; simp only [Tm.sz]; omega
  · unfold z0l
    split
    · simp only [List.length_append, List.length_cons, List.length_nil, Tm.sz]; omega
    · omega
theorem zj0 : ∀ (l : List Tm) (acc : List Int), (z4d l acc).length ≤ acc.length + Tm.szs l
 | [], acc => by simp [z4d]
 | t :: l, acc => by
  have h1 := z59 t acc
  have h2 := zj0 l (z0z t acc)
  simp only [z4d, Tm.szs]; omega
end
def HsV : List Int → List AObj
 | [] => [.arr 1 [[.a (.fz .nils)]]]
 | x :: l => [.arr 1 [[.a (.osl 1 1 0 (x :: l).length)]], .arz 1 (IR (x :: l))]
def HsW (l l' : List Int) : List AObj := if l' = l then HsV l else if l = [] then HsV l' else [.arr 1 [[.a (.osl 2 1 0 l'.length)]], .gone, .arz 1 (IR l')]
theorem z8e {l : List Int} (h : l ≠ []) : HsV l = [.arr 1 [[.a (.osl 1 1 0 l.length)]], .arz 1 (IR l)] := by
 match l, h with
 | x :: l, _ => rfl
theorem ztl (l : List Int) : 1 ≤ (HsV l).length := by cases l <;> simp [HsV]
theorem z89 : ∀ (l : List Int) (x : AObj), x ∈ HsV l → isLive x
 | [], x, h => by simp [HsV] at h; subst h; trivial
 | y :: l, x, h => by
  simp only [HsV, List.mem_cons, List.not_mem_nil, or_false] at h
  rcases h with rfl | rfl <;> trivial
theorem z7w (l' : List Int) : HsW [] l' = HsV l' := by unfold HsW; split <;> simp_all
theorem z4z (l : List Int) : HsW l l = HsV l := if_pos rfl
theorem z4t {l l' : List Int} (h : l ≠ []) (h' : l' ≠ l) : HsW l l' = [.arr 1 [[.a (.osl 2 1 0 l'.length)]], .gone, .arz 1 (IR l')] := by rw [HsW, if_neg h', if_neg h]
theorem takeIR (l : List Int) : List.take l.length (List.drop 0 (IR l)) = IR l := by rw [List.drop_zero, List.take_of_length_le (by rw [z4j]; exact Nat.le_refl _)]
theorem roomN {n : Nat} (h : n ≤ 2199023255552) : z0k n 8 := by unfold z0k; omega
theorem c_vars1 (u : Tm) (k : Int) (l : List Int) (hl : l.length ≤ 2 * B) (hl' : l.length ≤ B) : AC Tryz.prog 59 [aT u, ci k, .c (.a (.ep 0 1 0 0))] (HsV l) (.tup []) (HsW l (z0l u l)) := by
 have hc := zkp l u.n hl'
 obtain ⟨kd, s, n, kl⟩ := u
 simp only [B] at hl hl'
 by_cases hne : l = []
 · subst hne
   rw [z7w]
   refine AC.vc hP sh lv59 (ztl _) (z89 []) (fun x hx => z89 _ x (List.mem_of_mem_drop hx)) (Eq.mpr (v59 kd s n (FTs kl) k _ _) ?_)
   refine z00 (fun h => ⟨_, hc.args ⟨le_c (.nils 1), .refl _, trivial⟩, z00 (fun h1 => ⟨by omega, roomN (by omega), ?_⟩) (fun h1 => ?_)⟩) (fun h => ?_)
   · rw [show z0l (.mk kd s n kl) [] = [n] from if_pos (by simp [Tm.k, Tm.n, hasI] at h ⊢; exact h)]
     exact ⟨.refl _, rfl⟩
   · exact absurd h1 (by simp [hasI])
   · rw [show z0l (.mk kd s n kl) [] = [] from if_neg (by intro e; rw [Bool.and_eq_true] at e; rw [show (Tm.k (.mk kd s n kl) == 4) = false from h] at e; cases e.1)]
     exact ⟨.refl _, rfl⟩
 · have hv := z8e hne
   rw [hv]
   have hw : ∀ l', z0l (.mk kd s n kl) l = l' → l' ≠ l → HsW l (z0l (.mk kd s n kl) l) = [.arr 1 [[.a (.osl 2 1 0 l'.length)]], .gone, .arz 1 (IR l')] := fun l' h h' => by rw [h, z4t hne h']
   have hsame : z0l (.mk kd s n kl) l = l → HsW l (z0l (.mk kd s n kl) l) = [.arr 1 [[.a (.osl 1 1 0 l.length)]], .arz 1 (IR l)] := fun h => by rw [h, z4z, hv]
   have hdic : z0l (.mk kd s n kl) l = l ∨ z0l (.mk kd s n kl) l = l ++ [n] := by unfold z0l; split <;> simp [Tm.n]
   have hlen : 2 ≤ (HsW l (z0l (.mk kd s n kl) l)).length ∧ (1 : Nat) = 1 := by
    rcases hdic with h | h
    · rw [hsame h]; simp
    · rw [hw _ h (by simp)]; simp
   refine AC.vc hP sh lv59 hlen.1 (by simp [isLive]) (by
    rcases hdic with h | h
    · rw [hsame h]; simp
    · rw [hw _ h (by simp)]; simp [isLive]) (Eq.mpr (v59_i1 kd s n (FTs kl) k l.length (IR l) _ _) ?_)
   rw [takeIR]
   refine z00 (fun h => ⟨⟨rfl, by rw [z4j]; omega⟩, _, hc.args ⟨le_c (.nn _ _ _), .refl _, trivial⟩, rfl, z00 (fun h1 => ⟨by omega, ⟨by rw [z4j]; omega, roomN (by omega)⟩, ?_⟩) (fun h1 => ?_)⟩) (fun h => ?_)
   · have e : z0l (.mk kd s n kl) l = l ++ [n] := if_pos (by rw [show (Tm.k (.mk kd s n kl) == 4) = true from h]; simpa [Tm.n] using h1)
     rw [hw _ e (by simp), zs8, List.take_of_length_le (by rw [z4j]; omega), List.length_append]
     exact ⟨.refl _, rfl⟩
   · rw [hsame (if_neg (by intro e; rw [Bool.and_eq_true] at e; rw [show (!hasI (Tm.n (.mk kd s n kl)) l) = false from h1] at e; cases e.2))]
     exact ⟨.refl _, rfl⟩
   · rw [hsame (if_neg (by intro e; rw [Bool.and_eq_true] at e; rw [show (Tm.k (.mk kd s n kl) == 4) = false from h] at e; cases e.1))]
     exact ⟨.refl _, rfl⟩
end Go.AM

set_option maxRecDepth 100000
open Go Go.Proofs
namespace Go.AM
abbrev zqc : TV := .c (.fn (.func 59) [] [(false, [.ep 0 1 0 0])])
abbrev eV (k by_ : Int) (v : FV) (n i : Int) : Env := [(1, ci k), (2, zqc), (7, ci by_), (27, .c (.a (.fz v))), (28, ci n), (29, ci i)]
def sV1 (k by_ : Int) (v : FV) (n i : Int) : List Int → St
 | [] => ⟨eV k by_ v n i, [(0, .arr 1 [[.a (.fz .nils)]])], 1⟩
 | x :: l => ⟨eV k by_ v n i, [(0, .arr 1 [[.a (.osl 1 1 0 (x :: l).length)]]), (1, .arz 1 (IR (x :: l)))], 2⟩
theorem zmk (k by_ : Int) (h0 : 0 ≤ k) (hby : 0 ≤ by_) (hby1 : by_ ≤ 1) (hk : k ≤ 2305843009213693952) : ∀ (b a : List Tm) (v : FV) (acc : List Int), v.ses = FTs (a ++ b) → v.isSl 4 = true →
  (∀ u ∈ b, ∀ acc : List Int, acc.length + u.sz ≤ B → AC Tryz.prog 58 [aT u, ci (k + by_), zqc] (HsV acc) (.tup []) (HsW acc (z0z u acc))) → (a ++ b).length ≤ B → acc.length + Tm.szs b ≤ B →
  RPt Tryz.prog 58 1 (.tup []) (HsV (z4d b acc)) 1 (sV1 k by_ v (a ++ b).length a.length acc)
 | [], a, v, acc, hv, hs, _, hl, ha => by
  match acc with
  | [] =>
   refine RPt.vc hP sh lv58 (Eq.mpr (zeh ..) ?_)
   exact z00 (fun h => absurd (of_decide_eq_true h) (by simp)) (fun _ => ⟨.refl _, rfl⟩)
  | x :: l =>
   refine RPt.vc hP sh lv58 (Eq.mpr (zei ..) ?_)
   exact z00 (fun h => absurd (of_decide_eq_true h) (by simp)) (fun _ => ⟨.refl _, rfl⟩)
 | t :: b, a, v, acc, hv, hs, ih, hl, ha => by
  have hl' := hl
  simp only [List.length_append, List.length_cons, B] at hl'
  simp only [Tm.szs] at ha
  have h1 := ih t List.mem_cons_self acc (by omega)
  have hlen := z59 t acc
  have h2 := zmk k by_ h0 hby hby1 hk b (a ++ [t]) v (z0z t acc) (by rw [ap]; exact hv) hs (fun u hu => ih u (List.mem_cons_of_mem _ hu)) (by rw [ap]; exact hl) (by omega)
  have h3 := ltI' a t b
  rw [ap, nx] at h2
  rw [z4d]
  obtain ⟨k', s', n', l'⟩ := t
  match acc, h1, h2, hlen with
  | [], h1, h2, _ =>
   refine RPt.vc hP sh lv58 (Eq.mpr (zeh ..) ?_)
   rw [hv, midI, w64 (x := (a.length : Int) + 1) (by omega) (by omega), w64 (x := k + by_) (by omega) (by omega)]
   refine z00 (fun _ => ⟨⟨hs, by omega, h3, rfl⟩, ?_⟩) (fun h => absurd (ltI a (Tm.mk k' s' n' l') b) (of_decide_eq_false h))
   rw [z7w] at h1
   generalize z0z (.mk k' s' n' l') [] = acc' at h1 h2 ⊢
   match acc', h1, h2 with
   | [], h1, h2 => exact .inr (.inl ⟨(), h1, h2⟩)
   | y :: m, h1, h2 => exact .inr (.inr (.inl ⟨((y :: m).length, IR (y :: m)), h1, h2⟩))
  | x :: l, h1, h2, _ =>
   refine RPt.vc hP sh lv58 (Eq.mpr (zei ..) ?_)
   rw [hv, midI, w64 (x := (a.length : Int) + 1) (by omega) (by omega), w64 (x := k + by_) (by omega) (by omega)]
   refine z00 (fun _ => ⟨⟨hs, by omega, h3, rfl⟩, ?_⟩) (fun h => absurd (ltI a (Tm.mk k' s' n' l') b) (of_decide_eq_false h))
   obtain ⟨e, he⟩ := z96 (.mk k' s' n' l') (x :: l)
   by_cases hsame : z0z (.mk k' s' n' l') (x :: l) = x :: l
   · rw [hsame, z4z] at h1
     rw [hsame] at h2 ⊢
     exact .inr (.inr (.inl ⟨((x :: l).length, IR (x :: l)), h1, h2⟩))
   · rw [z4t (by simp) hsame] at h1
     generalize z0z (.mk k' s' n' l') (x :: l) = acc' at h1 h2 he ⊢
     subst he
     exact .inr (.inr (.inr ⟨(((x :: l) ++ e).length, IR ((x :: l) ++ e)), h1, h2⟩))
theorem zhq (k by_ : Int) (h0 : 0 ≤ k) (hby : 0 ≤ by_) (hby1 : by_ ≤ 1) (hk : k ≤ 2305843009213693952) (l0 : List Int) (hne : l0 ≠ []) : ∀ (b a : List Tm) (v : FV) (acc : List Int), v.ses = FTs (a ++ b) → v.isSl 4 = true →
  (∀ u ∈ b, ∀ acc : List Int, acc.length + u.sz ≤ B → AC Tryz.prog 58 [aT u, ci (k + by_), zqc] (HsV acc) (.tup []) (HsW acc (z0z u acc))) → (a ++ b).length ≤ B → acc.length + Tm.szs b ≤ B → l0.length < acc.length →
  RPt Tryz.prog 58 2 (.tup []) (HsW l0 (z4d b acc)) 1 ⟨eV k by_ v (a ++ b).length a.length, [(0, .arr 1 [[.a (.osl 2 1 0 acc.length)]]), (1, .gone), (2, .arz 1 (IR acc))], 3⟩
 | [], a, v, acc, hv, hs, _, hl, ha, hlt => by
  refine RPt.vc hP sh lv58 (Eq.mpr (z81 ..) ?_)
  rw [z4d, z4t hne (fun e => by rw [e] at hlt; omega)]
  exact z00 (fun h => absurd (of_decide_eq_true h) (by simp)) (fun _ => ⟨.refl _, rfl⟩)
 | t :: b, a, v, acc, hv, hs, ih, hl, ha, hlt => by
  have hl' := hl
  simp only [List.length_append, List.length_cons, B] at hl'
  simp only [Tm.szs] at ha
  have h1 := ih t List.mem_cons_self acc (by omega)
  have hlen := z59 t acc
  obtain ⟨e, he⟩ := z96 t acc
  have h2 := zhq k by_ h0 hby hby1 hk l0 hne b (a ++ [t]) v (z0z t acc) (by rw [ap]; exact hv) hs (fun u hu => ih u (List.mem_cons_of_mem _ hu)) (by rw [ap]; exact hl) (by omega) (by rw [he, List.length_append]; omega)
  have h3 := ltI' a t b
  have hacc : acc ≠ [] := by intro e; rw [e] at hlt; simp at hlt
  rw [ap, nx] at h2
  rw [z4d]
  obtain ⟨k', s', n', l'⟩ := t
  refine RPt.vc hP sh lv58 (Eq.mpr (z81 ..) ?_)
  rw [hv, midI, w64 (x := (a.length : Int) + 1) (by omega) (by omega), w64 (x := k + by_) (by omega) (by omega)]
  refine z00 (fun _ => ⟨⟨hs, by omega, h3, rfl⟩, ?_⟩) (fun h => absurd (ltI a (Tm.mk k' s' n' l') b) (of_decide_eq_false h))
  rw [z8e hacc] at h1
  by_cases hsame : z0z (.mk k' s' n' l') acc = acc
  · rw [hsame, z4z, z8e hacc] at h1
    rw [hsame] at h2 ⊢
    exact .inr (.inr (.inl ⟨(acc.length, IR acc), h1, h2⟩))
  · rw [z4t hacc hsame] at h1
    exact .inr (.inr (.inr ⟨((z0z (.mk k' s' n' l') acc).length, IR (z0z (.mk k' s' n' l') acc)), h1, h2⟩))
theorem zja (k by_ : Int) (h0 : 0 ≤ k) (hby : 0 ≤ by_) (hby1 : by_ ≤ 1) (hk : k ≤ 2305843009213693952) (l0 : List Int) (hne : l0 ≠ []) : ∀ (b a : List Tm) (v : FV), v.ses = FTs (a ++ b) → v.isSl 4 = true →
  (∀ u ∈ b, ∀ acc : List Int, acc.length + u.sz ≤ B → AC Tryz.prog 58 [aT u, ci (k + by_), zqc] (HsV acc) (.tup []) (HsW acc (z0z u acc))) → (a ++ b).length ≤ B → l0.length + Tm.szs b ≤ B →
  RPt Tryz.prog 58 2 (.tup []) (HsW l0 (z4d b l0)) 1 ⟨eV k by_ v (a ++ b).length a.length, [(0, .arr 1 [[.a (.osl 1 1 0 l0.length)]]), (1, .arz 1 (IR l0))], 2⟩
 | [], a, v, hv, hs, _, hl, ha => by
  refine RPt.vc hP sh lv58 (Eq.mpr (z94 ..) ?_)
  rw [z4d, z4z, z8e hne]
  exact z00 (fun h => absurd (of_decide_eq_true h) (by simp)) (fun _ => ⟨.refl _, rfl⟩)
 | t :: b, a, v, hv, hs, ih, hl, ha => by
  have hl' := hl
  simp only [List.length_append, List.length_cons, B] at hl'
  simp only [Tm.szs] at ha
  have h1 := ih t List.mem_cons_self l0 (by omega)
  have hlen := z59 t l0
  obtain ⟨e, he⟩ := z96 t l0
  have h3 := ltI' a t b
  have ihb := fun u hu => ih u (List.mem_cons_of_mem t hu)
  have h2 := zja k by_ h0 hby hby1 hk l0 hne b (a ++ [t]) v (by rw [ap]; exact hv) hs ihb (by rw [ap]; exact hl) (by omega)
  have h4 := zhq k by_ h0 hby hby1 hk l0 hne b (a ++ [t]) v (z0z t l0) (by rw [ap]; exact hv) hs ihb (by rw [ap]; exact hl) (by omega)
  rw [ap, nx] at h2 h4
  rw [z4d]
  obtain ⟨k', s', n', l'⟩ := t
  refine RPt.vc hP sh lv58 (Eq.mpr (z94 ..) ?_)
  rw [hv, midI, w64 (x := (a.length : Int) + 1) (by omega) (by omega), w64 (x := k + by_) (by omega) (by omega)]
  refine z00 (fun _ => ⟨⟨hs, by omega, h3, rfl⟩, ?_⟩) (fun h => absurd (ltI a (Tm.mk k' s' n' l') b) (of_decide_eq_false h))
  rw [z8e hne] at h1
  by_cases hsame : z0z (.mk k' s' n' l') l0 = l0
  · rw [hsame, z4z, z8e hne] at h1
    rw [hsame]
    exact .inr (.inr (.inl ⟨(l0.length, IR l0), h1, h2⟩))
  · have h4 := h4 (by
     rw [he, List.length_append]
     cases e with
     | nil => exact absurd (by simpa using he) hsame
     | cons y e => simp)
    rw [z4t hne hsame] at h1
    exact .inr (.inr (.inr ⟨((z0z (.mk k' s' n' l') l0).length, IR (z0z (.mk k' s' n' l') l0)), h1, h4⟩))
theorem zr2 (l l' : List Int) : (HsV l).length ≤ (HsW l l').length := by
 by_cases h : l = []
 · subst h; rw [z7w]; exact ztl l'
 · by_cases h' : l' = l
   · rw [h', z4z]; exact Nat.le_refl _
   · rw [z4t h h', z8e h]; simp
theorem zn8 (l l' : List Int) : ∀ x ∈ (HsW l l').drop (HsV l).length, isLive x := by
 by_cases h : l = []
 · subst h; rw [z7w]; exact fun x hx => z89 _ x (List.mem_of_mem_drop hx)
 · by_cases h' : l' = l
   · rw [h', z4z]; simp
   · rw [z4t h h', z8e h]; simp [isLive]
theorem c_eachV : ∀ t : Tm, t.sz ≤ B → ∀ (k : Int) (acc : List Int), 0 ≤ k → k + t.sz ≤ 2305843009213693952 → acc.length + t.sz ≤ B → AC Tryz.prog 58 [aT t, ci k, zqc] (HsV acc) (.tup []) (HsW acc (z0z t acc)) := by
 refine Tm.ind fun t ih hs k acc h0 h1 ha => ?_
 have hw := z8x t
 have hk := zc5 t
 have hlen := Tm.szs_length t.l
 have hv1 := c_vars1 t k acc (by omega) (by omega)
 obtain ⟨kd, s, n, l⟩ := t
 simp only [Tm.sz, B, Tm.l] at hs hlen ha
 simp only [Tm.sz] at h1
 have ihl : ∀ by_ : Int, 0 ≤ by_ → by_ ≤ 1 → ∀ u ∈ l, ∀ acc : List Int, acc.length + u.sz ≤ B → AC Tryz.prog 58 [aT u, ci (k + by_), zqc] (HsV acc) (.tup []) (HsW acc (z0z u acc)) := fun by_ hb0 hb1 u hu acc ha => ih u hu (by have := Tm.szs_mem hu; simp only [B]; omega) (k + by_) acc (by omega) (by have := Tm.szs_mem hu; omega) ha
 have leaf : (kd == 5) = false → (kd == 6) = false → z0z (.mk kd s n l) acc = z0l (.mk kd s n l) acc := fun e1 e2 => by rw [z0z, if_neg (by rw [e1, e2]; simp)]
 have inn : (kd == 5 || kd == 6) = true → z0z (.mk kd s n l) acc = z4d l acc := fun e => by rw [z0z, if_pos e]
 have kids : (kd == 5 || kd == 6) = true → Tm.kids (.mk kd s n l) = l := fun e => if_pos e
 by_cases hne : acc = []
 · subst hne
   refine AC.vc hP sh lv58 (zr2 _ _) (z89 _) (zn8 _ _) (Eq.mpr (v58_F59 kd s n (FTs l) k _ _) ?_)
   have key : ∀ by_ : Int, 0 ≤ by_ → by_ ≤ 1 → Tm.kids (.mk kd s n l) = l → RPt Tryz.prog 58 1 (.tup []) (HsV (z4d l [])) 1 ⟨eV k by_ (z5g (.mk kd s n l)) l.length 0, [(0, .arr 1 [[.a (.fz .nils)]])], 1⟩ := by
    intro by_ hb0 hb1 hkids
    exact zmk k by_ h0 hb0 hb1 (by omega) l [] (z5g (.mk kd s n l)) [] (by rw [hk.1, hkids]; rfl) hk.2 (ihl by_ hb0 hb1) (by simp only [List.nil_append, B]; omega) (by simp only [B, List.length_nil]; omega)
   rw [z7w]
   refine z00 (fun h => z00 (fun h2 => ?_) (fun h2 => ⟨_, _, hw, hk.2, ?_⟩)) (fun h => ⟨_, _, hw, hk.2, ?_⟩)
   · have e1 : (kd == 5) = false := by simpa using h
     have e2 : (kd == 6) = false := by simpa using h2
     rw [leaf e1 e2]
     rw [z7w] at hv1
     generalize z0l (.mk kd s n l) [] = acc' at hv1 ⊢
     match acc', hv1 with
     | [], hv1 => exact .inl ⟨(), hv1, .refl _, rfl⟩
     | y :: m, hv1 => exact .inr (.inl ⟨((y :: m).length, IR (y :: m)), hv1, .refl _, rfl⟩)
   · have e1 : (kd == 5) = false := by simpa using h
     have e2 : (kd == 6) = true := by simpa using h2
     have hin : (kd == 5 || kd == 6) = true := by rw [e2]; simp
     rw [inn hin, hk.1, kids hin, lenI, show Tm.by (.mk kd s n l) = 0 by unfold Tm.by; simp only [Tm.k, e1, Bool.false_eq_true, if_false]]
     exact key 0 (by omega) (by omega) (kids hin)
   · have e1 : (kd == 5) = true := by simpa using h
     have hin : (kd == 5 || kd == 6) = true := by rw [e1]; simp
     rw [inn hin, hk.1, kids hin, lenI, show Tm.by (.mk kd s n l) = 1 by unfold Tm.by; simp only [Tm.k, e1, if_true]]
     exact key 1 (by omega) (by omega) (kids hin)
 · have hvv := z8e hne
   refine AC.vc hP sh lv58 (zr2 _ _) (z89 _) (zn8 _ _) ?_
   rw [hvv] at hv1 ⊢
   refine Eq.mpr (zq1 kd s n (FTs l) k acc.length (IR acc) _ _) ?_
   have key : ∀ by_ : Int, 0 ≤ by_ → by_ ≤ 1 → Tm.kids (.mk kd s n l) = l → RPt Tryz.prog 58 2 (.tup []) (HsW acc (z4d l acc)) 1 ⟨eV k by_ (z5g (.mk kd s n l)) l.length 0, [(0, .arr 1 [[.a (.osl 1 1 0 acc.length)]]), (1, .arz 1 (IR acc))], 2⟩ := by
    intro by_ hb0 hb1 hkids
    exact zja k by_ h0 hb0 hb1 (by omega) acc hne l [] (z5g (.mk kd s n l)) (by rw [hk.1, hkids]; rfl) hk.2 (ihl by_ hb0 hb1) (by simp only [List.nil_append, B]; omega) (by simp only [B]; omega)
   refine z00 (fun h => z00 (fun h2 => ?_) (fun h2 => ⟨_, _, hw, hk.2, ?_⟩)) (fun h => ⟨_, _, hw, hk.2, ?_⟩)
   · have e1 : (kd == 5) = false := by simpa using h
     have e2 : (kd == 6) = false := by simpa using h2
     rw [leaf e1 e2]
     by_cases hsame : z0l (.mk kd s n l) acc = acc
     · rw [hsame, z4z, hvv] at hv1 ⊢
       exact .inr (.inl ⟨(acc.length, IR acc), hv1, .refl _, rfl⟩)
     · rw [z4t hne hsame] at hv1 ⊢
       exact .inr (.inr ⟨((z0l (.mk kd s n l) acc).length, IR (z0l (.mk kd s n l) acc)), hv1, .refl _, rfl⟩)
   · have e1 : (kd == 5) = false := by simpa using h
     have e2 : (kd == 6) = true := by simpa using h2
     have hin : (kd == 5 || kd == 6) = true := by rw [e2]; simp
     rw [inn hin, hk.1, kids hin, lenI, show Tm.by (.mk kd s n l) = 0 by unfold Tm.by; simp only [Tm.k, e1, Bool.false_eq_true, if_false]]
     exact key 0 (by omega) (by omega) (kids hin)
   · have e1 : (kd == 5) = true := by simpa using h
     have hin : (kd == 5 || kd == 6) = true := by rw [e1]; simp
     rw [inn hin, hk.1, kids hin, lenI, show Tm.by (.mk kd s n l) = 1 by unfold Tm.by; simp only [Tm.k, e1, if_true]]
     exact key 1 (by omega) (by omega) (kids hin)
theorem c_vars (t : Tm) (hs : t.sz ≤ B) : AC Tryz.prog 17 [aT t] [] (aI (z0z t [])) [] := by
 have h := c_eachV t hs 0 [] (Int.le_refl _) (by simp only [B] at hs; omega) (by simpa using hs)
 rw [z7w] at h
 obtain ⟨k, s, n, l⟩ := t
 refine AC.vc hP sh lv17 (Nat.le_refl _) (by simp) (by simp) (Eq.mpr (v17 k s n (FTs l) _ _) ?_)
 generalize z0z (.mk k s n l) [] = acc at h ⊢
 match acc, h with
 | [], h => exact .inr (.inl ⟨(), h, le_c (.nils 1), rfl⟩)
 | x :: m, h =>
  refine .inr (.inr (.inl ⟨((x :: m).length, IR (x :: m)), h, ⟨rfl, by rw [z4j]; omega⟩, ?_, rfl⟩))
  rw [takeIR]
  exact le_c (.nn _ _ _)
end Go.AM

set_option maxRecDepth 100000
open Go Go.Proofs
namespace Go.AM
theorem znj (c : Int) : AC Tryz.prog 114 [c8 c] [] (cb (z7d c)) [] := by
 refine AC.vc hP sh lv114 (Nat.le_refl _) (by simp) (by simp) (Eq.mpr (v114 ..) ?_)
 refine z00 (fun h => z05 ?_) (fun h => z05 ?_) <;> simp_all [z7d] <;> omega
theorem znv (c : Int) : AC Tryz.prog 140 [c8 c] [] (cb (zd9 c)) [] := by
 refine AC.vc hP sh lv140 (Nat.le_refl _) (by simp) (by simp) (Eq.mpr (v140 ..) ?_)
 refine z00 (fun h => z05 ?_) (fun h => z05 ?_) <;> simp_all [zd9] <;> omega
theorem c_rin (c : Int) : AC Tryz.prog 115 [c8 c] [] (cb (z1e c)) [] := by
 refine AC.vc hP sh lv115 (Nat.le_refl _) (by simp) (by simp) (Eq.mpr (v115 ..) ?_)
 have key : (decide (c ≥ 65) && decide (c ≤ 90)) = false → (c == 95) = false → z7d c = false → zd9 c = false → (c == 39) = z1e c := fun h1 h2 h3 h4 => by
  have e : z8g c = false := by unfold z8g; rw [h2, show (decide (65 ≤ c) && decide (c ≤ 90)) = false from h1]; rfl
  simp only [z1e, h3, h4, e, Bool.false_or]
 have k1 : z7d c = true → true = z1e c := fun h => by simp only [z1e, h, Bool.true_or]
 have k2 : z8g c = true → true = z1e c := fun h => by simp only [z1e, h, Bool.true_or, Bool.or_true]
 have k3 : zd9 c = true → true = z1e c := fun h => by simp only [z1e, h, Bool.true_or, Bool.or_true]
 have k4 : (c == 95) = true → z8g c = true := fun h => by unfold z8g; rw [h]; simp
 refine ⟨_, znj c, z00 (fun h => z05 (k1 h)) (fun h => z00 (fun h1 => z00 (fun h2 => z05 (k2 ?_)) (fun h2 => ⟨_, znv c, z00 (fun h3 => z05 (k3 h3)) (fun h3 => z00 (fun h4 => z05 (k2 (k4 h4))) (fun h4 => z05 (key ?_ h4 h h3)))⟩)) (fun h1 => ⟨_, znv c, z00 (fun h3 => z05 (k3 h3)) (fun h3 => z00 (fun h4 => z05 (k2 (k4 h4))) (fun h4 => z05 (key ?_ h4 h h3)))⟩))⟩
 · unfold z8g; rw [show decide (65 ≤ c) = true from h1, h2]; rfl
 · rw [h2]; simp
 · rw [h1]; simp
theorem sign_any (c : UInt8) : z7z (c.toNat : Int) = zga.any fun x => ((x.toNat : Int) == (c.toNat : Int)) := by
 have key : ∀ n : Fin 256, z7z (n.val : Int) = zga.any fun x => ((x.toNat : Int) == (n.val : Int)) := by decide +kernel
 exact key ⟨c.toNat, c.toNat_lt⟩
theorem ztu (c : Int) : ∀ (b a : List UInt8), a ++ b = zga → (a.any fun x => ((x.toNat : Int) == c)) = false →
  RPt Tryz.prog 116 0 (cb (zga.any fun x => ((x.toNat : Int) == c))) [] 1 ⟨[(0, c8 c), (3, ci a.length)], [], 0⟩
 | [], a, hab, ha => by
  rw [List.append_nil] at hab
  subst hab
  refine RPt.vc hP sh ztq (Eq.mpr (zty ..) ?_)
  exact z00 (fun h => absurd (of_decide_eq_true h) (by decide)) (fun _ => z05 ha.symm)
 | x :: b, a, hab, ha => by
  have hl : a.length < 16 := by
   have : (a ++ x :: b).length = 16 := by rw [hab]; rfl
   simp at this; omega
  have hg : List.getD zga (Int.toNat (a.length : Int)) 0 = x := by rw [← hab]; exact zbm a x b
  refine RPt.vc hP sh ztq (Eq.mpr (zty ..) ?_)
  rw [w64 (x := (a.length : Int) + 1) (by omega) (by omega)]
  refine z00 (fun _ => ⟨⟨by omega, by omega⟩, z00 (fun h => z05 ?_) (fun h => ?_)⟩) (fun h => absurd (of_decide_eq_false h) (by omega))
  · have h : (((List.getD zga (Int.toNat (a.length : Int)) 0).toNat : Int) == c) = true := h
    rw [hg] at h
    rw [← hab]; simp only [List.any_append, List.any_cons, h, Bool.true_or, Bool.or_true]
  · have h : (((List.getD zga (Int.toNat (a.length : Int)) 0).toNat : Int) == c) = false := h
    rw [hg] at h
    have := ztu c b (a ++ [x]) (by rw [ap]; exact hab) (by simp only [List.any_append, List.any_cons, List.any_nil, ha, h, Bool.or_self])
    rw [nx] at this; exact this
theorem c_rsign (c : UInt8) : AC Tryz.prog 116 [c8 (c.toNat : Int)] [] (cb (z7z (c.toNat : Int))) [] := by
 rw [sign_any]
 refine AC.vc hP sh ztq (Nat.le_refl _) (by simp) (by simp) (Eq.mpr (v116 ..) ?_)
 exact ztu _ zga [] rfl rfl
theorem zin : ∀ (b a : List UInt8), (a ++ b).length ≤ B → RPt Tryz.prog 84 0 (cb (b.all fun c => z1e (c.toNat : Int))) [] 1 ⟨[(0, cs (a ++ b)), (3, ci a.length)], [], 0⟩
 | [], a, _ => by
  refine RPt.vc hP sh lv84 (Eq.mpr (v84_1a ..) ?_)
  exact z00 (fun h => absurd (of_decide_eq_true h) (by simp)) (fun _ => z05 rfl)
 | x :: b, a, hl => by
  have hl' := hl
  simp only [List.length_append, List.length_cons, B] at hl'
  have h2 := zin b (a ++ [x]) (by rw [ap]; exact hl)
  rw [ap, nx] at h2
  refine RPt.vc hP sh lv84 (Eq.mpr (v84_1a ..) ?_)
  rw [zbm, w64 (x := (a.length : Int) + 1) (by omega) (by omega)]
  refine z00 (fun _ => ⟨⟨by omega, ltI a x b⟩, _, c_rin _, z00 (fun h => z05 ?_) (fun h => ?_)⟩) (fun h => absurd (ltI a x b) (of_decide_eq_false h))
  · rw [List.all_cons, show z1e (x.toNat : Int) = false by simpa using h]; rfl
  · rw [List.all_cons, show z1e (x.toNat : Int) = true by simpa using h]; exact h2
theorem zrq (s : List UInt8) : AC Tryz.prog 84 [cs s] [] (cb (z7j s)) [] := by
 refine AC.vc hP sh lv84 (Nat.le_refl _) (by simp) (by simp) (Eq.mpr (v84 ..) ?_)
 refine z00 (fun h => z05 ?_) (fun h => z00 (fun h1 => z05 ?_) (fun h1 => ?_))
 · have h := of_decide_eq_true h
   cases s with
   | nil => rfl
   | cons c s => simp at h; omega
 · have h1 := of_decide_eq_true h1
   have : zcw s = false := by simp only [zcw]; rw [show decide ((s.length : Int) ≤ 32) = false by simp; omega]; simp
   simp only [z7j, this, Bool.false_and]
 · have h := of_decide_eq_false h
   have h1 := of_decide_eq_false h1
   have hf : zcw s = true := by
    simp only [zcw]
    cases s with
    | nil => simp at h
    | cons c s => simp at h1 ⊢; omega
   refine ⟨⟨by omega, by omega⟩, _, znj _, z00 (fun h2 => z05 ?_) (fun h2 => ?_)⟩
   · simp only [z7j, show z7d ((s.getD 0 0).toNat : Int) = false by simpa using h2, Bool.and_false, Bool.false_and]
   · have := zin s [] (by simp only [List.nil_append, B]; omega)
     rw [show z7j s = s.all fun c => z1e (c.toNat : Int) by simp only [z7j, hf, show z7d ((s.getD 0 0).toNat : Int) = true by simpa using h2, Bool.true_and]]
     exact this
theorem znf (s : List UInt8) : ∀ (b a : List UInt8), a ++ b = s → (s.length ≤ B) →
  RPt Tryz.prog 85 0 (cb ((b.all fun c => z7z (c.toNat : Int)) && decide ((s.length : Int) ≥ 1) && decide ((s.length : Int) ≤ 32))) [] 1 ⟨[(0, cs s), (3, ci a.length)], [], 0⟩
 | [], a, hab, _ => by
  rw [List.append_nil] at hab
  subst hab
  refine RPt.vc hP sh lv85 (Eq.mpr (v85_1a ..) ?_)
  refine z00 (fun h => absurd (of_decide_eq_true h) (by omega)) (fun _ => z00 (fun h => z05 ?_) (fun h => z05 ?_))
  · rw [h]; simp
  · rw [h]; simp
 | x :: b, a, hab, hl => by
  have h3 := ltI a x b
  have hg := zbm a x b
  rw [hab] at h3 hg
  have h2 := znf s b (a ++ [x]) (by rw [ap]; exact hab) hl
  rw [nx] at h2
  simp only [B] at hl
  refine RPt.vc hP sh lv85 (Eq.mpr (v85_1a ..) ?_)
  rw [hg, w64 (x := (a.length : Int) + 1) (by omega) (by omega)]
  refine z00 (fun _ => ⟨⟨by omega, h3⟩, _, c_rsign x, z00 (fun h => z05 ?_) (fun h => ?_)⟩) (fun h => absurd h3 (of_decide_eq_false h))
  · rw [List.all_cons, show z7z (x.toNat : Int) = false by simpa using h]; rfl
  · rw [List.all_cons, show z7z (x.toNat : Int) = true by simpa using h]; exact h2
theorem sym_eq (s : List UInt8) : zdm s = (s == [44] || s == [59] || s == [33] || ((s.all fun c => z7z (c.toNat : Int)) && decide ((s.length : Int) ≥ 1) && decide ((s.length : Int) ≤ 32))) := by
 match s with
 | [] => rfl
 | [c] =>
  have key : ∀ n : Fin 256, zdm [n.val.toUInt8] = ([n.val.toUInt8] == [44] || [n.val.toUInt8] == [59] || [n.val.toUInt8] == [33] || (([n.val.toUInt8].all fun c => z7z (c.toNat : Int)) && decide ((([n.val.toUInt8].length : Nat) : Int) ≥ 1) && decide ((([n.val.toUInt8].length : Nat) : Int) ≤ 32))) := by decide +kernel
  have e : c.toNat.toUInt8 = c := by simp
  have := key ⟨c.toNat, c.toNat_lt⟩
  simp only [e] at this
  exact this
 | c :: d :: s =>
  have h2 : ∀ x : UInt8, ((c :: d :: s : List UInt8) == [x]) = false := fun x => by simp
  simp only [zdm, zcw, h2, Bool.false_or]
  rw [show (((c :: d :: s).length : Int) == 1) = false by simp; omega, show decide (((c :: d :: s).length : Int) ≥ 1) = true by simp; omega]
  simp [Bool.and_comm]
theorem c_rissym (s : List UInt8) (hl : s.length ≤ B) : AC Tryz.prog 85 [cs s] [] (cb (zdm s)) [] := by
 rw [sym_eq]
 refine AC.vc hP sh lv85 (Nat.le_refl _) (by simp) (by simp) (Eq.mpr (v85 ..) ?_)
 refine z00 (fun h => z05 ?_) (fun h => z00 (fun h1 => z05 ?_) (fun h1 => z00 (fun h2 => z05 ?_) (fun h2 => ?_)))
 · rw [h]; rfl
 · rw [h, h1]; rfl
 · rw [h, h1, h2]; rfl
 · rw [h, h1, h2, Bool.false_or, Bool.false_or, Bool.false_or]
   exact znf s s [] rfl hl
end Go.AM

set_option maxRecDepth 100000
open Go Go.Proofs
namespace Go.AM
theorem c_rinner (t : Tm) : AC Tryz.prog 112 [aT t] [] (cb t.inner) [] := by
 obtain ⟨k, s, n, l⟩ := t
 refine AC.vc hP sh lv112 (Nat.le_refl _) (by simp) (by simp) (Eq.mpr (v112 k s n (FTs l) _ _) ?_)
 refine z00 (fun h => z05 ?_) (fun h => z05 ?_)
 · unfold Tm.inner; simp only [Tm.k, h, Bool.true_or]
 · unfold Tm.inner; simp only [Tm.k, h, Bool.false_or]
theorem c_runder (t : Tm) (k : Int) (h0 : 0 ≤ k) (h1 : k ≤ 4611686018427387904) : AC Tryz.prog 113 [aT t, ci k] [] (ci (k + t.by)) [] := by
 obtain ⟨kd, s, n, l⟩ := t
 refine AC.vc hP sh lv113 (Nat.le_refl _) (by simp) (by simp) (Eq.mpr (v113 kd s n (FTs l) k _ _) ?_)
 rw [w64 (x := k + 1) (by omega) (by omega)]
 refine z00 (fun h => z31 ?_) (fun h => z31 ?_)
 · unfold Tm.by; simp only [Tm.k, h, if_true]
 · unfold Tm.by; simp only [Tm.k, h, Bool.false_eq_true, if_false]; omega
theorem zmu (kd : Int) (s : List UInt8) (n : Int) : ∀ (b a : List Tm) (ok : Bool), (∀ u ∈ b, AC Tryz.prog 54 [aT u] [] (cb (validB u)) []) → (a ++ b).length ≤ B →
  RPt Tryz.prog 54 0 (cb (ok && z2a b)) [] 3 ⟨[(1, .c (.a (.ep 0 4 0 0))), (3, cb ok), (7, ci a.length)], [(0, .arr 4 [fzs (FT (.mk kd s n (a ++ b)))])], 1⟩
 | [], a, ok, _, _ => by
  refine RPt.vc hP sh lv54 (Eq.mpr (v54_3a ..) ?_)
  exact ⟨rfl, z00 (fun h => absurd (of_decide_eq_true h) (geI' a)) (fun _ => z05 (by simp [z2a]))⟩
 | t :: b, a, ok, ih, hl => by
  refine RPt.vc hP sh lv54 (Eq.mpr (v54_3a ..) ?_)
  have hl' := hl
  simp only [List.length_append, List.length_cons, B] at hl'
  have h1 := ih t List.mem_cons_self
  have h2 := zmu kd s n b (a ++ [t]) (validB t) (fun u hu => ih u (List.mem_cons_of_mem _ hu)) (by rw [ap]; exact hl)
  have h3 := ltI' a t b
  rw [ap, nx] at h2
  rw [midI, w64 (x := (a.length : Int) + 1) (by omega) (by omega)]
  refine ⟨rfl, z00 (fun _ => z00 (fun hk => ?_) (fun hk => z05 (by rw [hk]; rfl))) (fun h => absurd h3 (of_decide_eq_false h))⟩
  rw [hk, z2a, Bool.true_and]
  obtain ⟨k', s', n', l'⟩ := t
  exact ⟨⟨rfl, by omega, h3, rfl⟩, _, h1, h2⟩
theorem c_rvalid : ∀ t : Tm, t.bk ≤ B → AC Tryz.prog 54 [aT t] [] (cb (validB t)) [] := by
 refine Tm.ind fun t ih hs => ?_
 have hlen := Nat.le_trans (Tm.szs_length t.l) (Tm.szs_bks t.l)
 obtain ⟨k, s, n, l⟩ := t
 simp only [Tm.bk, Tm.l] at hs hlen
 have loop : ∀ ok : Bool, (ok && z2a l) = validB (.mk k s n l) → RPt Tryz.prog 54 0 (cb (validB (.mk k s n l))) [] 3 ⟨[(1, .c (.a (.ep 0 4 0 0))), (3, cb ok), (7, ci 0)], [(0, .arr 4 [fzs (FT (.mk k s n l))])], 1⟩ := fun ok h => by
  have := zmu k s n l [] ok (fun u hu => ih u hu (by have := Tm.bks_mem hu; omega)) (by simp only [List.nil_append]; omega)
  rw [h] at this
  exact this
 refine AC.vc hP sh lv54 (Nat.le_refl _) (by simp) (by simp) (Eq.mpr (v54 k s n (FTs l) _ _) ?_)
 refine z00 (fun h0 => ⟨_, zrq s, _, c_rissym s (by omega), z00 (fun h1 => z00 (fun h2 => ⟨rfl, z05 ?_⟩) (fun h2 => z05 ?_)) (fun h1 => z00 (fun h1' => z00 (fun h2 => ⟨rfl, z05 ?_⟩) (fun h2 => z05 ?_)) (fun h1' => z05 ?_))⟩)
  (fun h0 => z00 (fun h1 => z00 (fun h2 => z00 (fun h3 => ⟨rfl, loop _ ?_⟩) (fun h3 => loop _ ?_)) (fun h2 => loop _ ?_))
  (fun h1 => z00 (fun h2 => z00 (fun h3 => ⟨rfl, loop _ ?_⟩) (fun h3 => loop _ ?_))
  (fun h2 => z00 (fun h3 => z00 (fun h4 => z00 (fun h5 => z00 (fun h6 => ⟨rfl, loop _ ?_⟩) (fun h6 => loop _ ?_)) (fun h5 => loop _ ?_)) (fun h4 => loop _ ?_))
  (fun h3 => z00 (fun h3' => z00 (fun h4 => z00 (fun h5 => z00 (fun h6 => ⟨rfl, loop _ ?_⟩) (fun h6 => loop _ ?_)) (fun h5 => loop _ ?_)) (fun h4 => loop _ ?_))
  (fun h3' => z00 (fun h5 => z00 (fun h6 => z00 (fun h7 => ⟨rfl, loop _ ?_⟩) (fun h7 => loop _ ?_)) (fun h6 => loop _ ?_))
  (fun h5 => z00 (fun h6 => z00 (fun h7 => ⟨rfl, z00 (fun h8 => ?app) (fun h8 => ⟨rfl, loop _ ?_⟩)⟩) (fun h7 => ⟨rfl, loop _ ?_⟩)) (fun h6 => loop _ ?_)))))))
 case app =>
  have h8' := of_decide_eq_true h8
  rw [head0 h8', z82]
  refine ⟨⟨rfl, by omega, by omega, rfl⟩, rfl, z00 (fun h9 => z00 (fun h10 => ⟨rfl, loop _ ?_⟩) (fun h10 => loop _ ?_)) (fun h9 => loop _ ?_)⟩
  all_goals (have h9' : ((l.headD default).k != 6) = _ := h9; clear loop ih hs hlen h9; simp_all [validB])
 all_goals clear loop ih hs hlen
 all_goals first
  | (simp_all [validB]; done)
  | (simp_all [validB]; intros; omega)
end Go.AM

set_option maxRecDepth 100000
open Go Go.Proofs
namespace Go.AM
mutual
def z61 : Tm → Int → Int
 | .mk kd _ n l, k => if (kd == 3) = true then maxI 0 (n - k + 1) else if (kd == 5 || kd == 6) = true then z4l l (k + if (kd == 5) = true then 1 else 0) else 0
def z4l : List Tm → Int → Int
 | [], _ => 0
 | t :: l, k => maxI (z61 t k) (z4l l k)
end
theorem z9a (a b c : Int) : maxI (maxI a b) c = maxI a (maxI b c) := by
 unfold maxI; (repeat' split) <;> omega
theorem zu5 {a : Int} (h : 0 ≤ a) : maxI a 0 = a := by unfold maxI; split <;> omega
theorem maxI_ge2 (a b : Int) : b ≤ maxI a b := by unfold maxI; split <;> omega
theorem za5 : ∀ (l : List Tm) (k : Int), 0 ≤ z4l l k
 | [], _ => Int.le_refl _
 | t :: l, k => by rw [z4l]; exact Int.le_trans (za5 l k) (maxI_ge2 _ _)
theorem zse (a b : Int) : a ≤ maxI a b := by unfold maxI; split <;> omega
mutual
theorem zjp : ∀ (t : Tm) (k acc : Int), 0 ≤ acc → looseF t k acc = maxI acc (z61 t k)
 | .mk kd _ n l, k, acc, h => by
  simp only [looseF, z61]
  by_cases h5 : (kd == 5) = true
  · have e : kd = 5 := by simpa using h5
    subst e
    simp [za0 l _ acc h]
  · by_cases h6 : (kd == 6) = true
    · have e : kd = 6 := by simpa using h6
      subst e
      simp [za0 l _ acc h]
    · have e5 : (kd == 5) = false := by simpa using h5
      have e6 : (kd == 6) = false := by simpa using h6
      rw [if_neg h5, if_neg h6]
      by_cases h3 : (kd == 3) = true
      · rw [if_pos h3, if_pos h3, ← z9a, zu5 h]
      · rw [if_neg h3, if_neg h3, if_neg (by rw [e5, e6]; simp), zu5 h]
theorem za0 : ∀ (l : List Tm) (k acc : Int), 0 ≤ acc → z4v l k acc = maxI acc (z4l l k)
 | [], _, acc, h => by rw [z4v, z4l, zu5 h]
 | t :: l, k, acc, h => by
  have h1 := zjp t k acc h
  rw [z4v, z4l, h1, za0 l k _ (Int.le_trans h (zse _ _)), z9a]
end
theorem zmi (kd : Int) (s : List UInt8) (n : Int) (is : Bool) (k : Int) (h0 : 0 ≤ k) (hk : k ≤ 2305843009213693952) : ∀ (b a : List Tm) (acc : Int), (∀ u ∈ b, AC Tryz.prog 82 [aT u, ci (k + Tm.by (.mk kd s n []))] [] (ci (z61 u (k + Tm.by (.mk kd s n [])))) []) → (a ++ b).length ≤ B → 0 ≤ acc →
  RPt Tryz.prog 82 0 (ci (maxI acc (if is = true then z4l b (k + Tm.by (.mk kd s n [])) else 0))) [] 1 ⟨[(1, ci k), (2, .c (.a (.ep 0 4 0 0))), (5, ci acc), (6, cb is), (7, ci a.length)], [(0, .arr 4 [fzs (FT (.mk kd s n (a ++ b)))])], 1⟩
 | [], a, acc, _, _, ha => by
  refine RPt.vc hP sh lv82 (Eq.mpr (v82_1a ..) ?_)
  exact ⟨rfl, z00 (fun h => absurd (of_decide_eq_true h) (geI' a)) (fun _ => z31 (by cases is <;> simp [z4l, zu5 ha]))⟩
 | t :: b, a, acc, ih, hl, ha => by
  have hl' := hl
  simp only [List.length_append, List.length_cons, B] at hl'
  have h1 := ih t List.mem_cons_self
  have hu := c_runder (.mk kd s n (a ++ t :: b)) k h0 (by omega)
  have h2 := zmi kd s n is k h0 hk b (a ++ [t]) (maxI acc (z61 t (k + Tm.by (.mk kd s n [])))) (fun u hu => ih u (List.mem_cons_of_mem _ hu)) (by rw [ap]; exact hl) (Int.le_trans ha (zse _ _))
  have h3 := ltI' a t b
  rw [ap, nx] at h2
  refine RPt.vc hP sh lv82 (Eq.mpr (v82_1a ..) ?_)
  rw [midI, w64 (x := (a.length : Int) + 1) (by omega) (by omega)]
  refine ⟨rfl, z00 (fun _ => z00 (fun hk => ?_) (fun hk => z31 (by rw [hk]; simp [zu5 ha]))) (fun h => absurd h3 (of_decide_eq_false h))⟩
  rw [hk] at h2 ⊢
  rw [if_pos rfl] at h2
  rw [if_pos rfl, z4l, ← z9a]
  obtain ⟨k', s', n', l'⟩ := t
  refine ⟨⟨rfl, by omega, h3, rfl⟩, _, hu, _, h1, ?_⟩
  rw [zbf]
  exact h2
theorem c_rloose : ∀ t : Tm, t.sz ≤ B → bd 2305843009213693952 t → ∀ k : Int, 0 ≤ k → k + t.sz ≤ 2305843009213693952 → AC Tryz.prog 82 [aT t, ci k] [] (ci (z61 t k)) [] := by
 refine Tm.ind fun t ih hs hb k h0 h1 => ?_
 have hlen := Tm.szs_length t.l
 have hi := c_rinner t
 obtain ⟨kd, s, n, l⟩ := t
 simp only [Tm.sz, Tm.l] at hs hlen h1
 refine AC.vc hP sh lv82 (Nat.le_refl _) (by simp) (by simp) (Eq.mpr (v82 kd s n (FTs l) k _ _) ?_)
 refine z00 (fun h => z31 ?_) (fun h => ⟨_, hi, ?_⟩)
 · have := hb.1 (by simpa using h)
   rw [w64 (x := n - k) (by omega) (by omega), w64 (x := n - k + 1) (by omega) (by omega), zbf, z61, if_pos h]
 · have hby : 0 ≤ Tm.by (.mk kd s n []) ∧ Tm.by (.mk kd s n []) ≤ 1 := by unfold Tm.by; split <;> omega
   have := zmi kd s n (Tm.inner (.mk kd s n l)) k h0 (by omega) l [] 0 (fun u hu => ih u hu (by have := Tm.szs_mem hu; omega) (z1v hb.2 hu) _ (by omega) (by have := Tm.szs_mem hu; omega)) (by simp only [List.nil_append]; omega) (Int.le_refl _)
   rw [show z61 (.mk kd s n l) k = maxI 0 (if Tm.inner (.mk kd s n l) = true then z4l l (k + Tm.by (.mk kd s n [])) else 0) from ?_]
   · exact this
   · rw [z61, if_neg (by rw [h]; simp)]
     have e : Tm.by (.mk kd s n []) = if (kd == 5) = true then 1 else 0 := rfl
     rw [e]
     show (if (kd == 5 || kd == 6) = true then _ else _) = maxI 0 (if (kd == 5 || kd == 6) = true then _ else _)
     split
     · have := za5 l (k + if (kd == 5) = true then 1 else 0)
       unfold maxI; rw [if_pos this]
     · unfold maxI; rfl
end Go.AM

set_option maxRecDepth 100000
open Go Go.Proofs
namespace Go.AM
mutual
def occF : Tm → Int → Nat
 | .mk k _ n l, i => if (k == 3) = true ∧ (n == i) = true then 1 else occL l (i + if (k == 5) = true then 1 else 0)
def occL : List Tm → Int → Nat
 | [], _ => 0
 | t :: l, i => occF t i + occL l i
end
mutual
theorem zr4 : ∀ (t : Tm) (i : Int), occF t i ≤ t.sz
 | .mk k s n l, i => by
  rw [occF]
  have := zlu l (i + if (k == 5) = true then 1 else 0)
  split <;> simp only [Tm.sz] <;> omega
theorem zlu : ∀ (l : List Tm) (i : Int), occL l i ≤ Tm.szs l
 | [], _ => Nat.le_refl _
 | t :: l, i => by have := zr4 t i; have := zlu l i; simp only [occL, Tm.szs]; omega
end
theorem zmb (i : Int) : ∀ (b a : List Tm) (acc : Nat), (∀ u ∈ b, AC Tryz.prog 166 [aT u, ci i] [] (ci (occF u i)) []) → (a ++ b).length ≤ B → acc + occL b i ≤ 2 * B →
  RPt Tryz.prog 166 0 (ci ((acc + occL b i : Nat) : Int)) [] 3 ⟨[(1, ci i), (5, ci acc), (21, aL (a ++ b)), (22, ci (((FTs (a ++ b)).length : Nat) : Int)), (23, ci a.length)], [], 0⟩
 | [], a, acc, _, _, _ => by
  refine RPt.vc hP sh zs9 (Eq.mpr (zs2 ..) ?_)
  exact z00 (fun h => absurd (of_decide_eq_true h) (geI' a)) (fun _ => z31 (by simp [occL]))
 | t :: b, a, acc, ih, hl, ha => by
  have hl' := hl
  simp only [List.length_append, List.length_cons, B] at hl'
  simp only [occL, B] at ha
  have h1 := ih t List.mem_cons_self
  have h2 := zmb i b (a ++ [t]) (acc + occF t i) (fun u hu => ih u (List.mem_cons_of_mem _ hu)) (by rw [ap]; exact hl) (by simp only [B]; omega)
  have h3 := ltI' a t b
  rw [ap, nx] at h2
  refine RPt.vc hP sh zs9 (Eq.mpr (zs2 ..) ?_)
  rw [midI, w64 (x := (a.length : Int) + 1) (by omega) (by omega)]
  refine z00 (fun _ => ?_) (fun h => absurd h3 (of_decide_eq_false h))
  rw [occL, ← Nat.add_assoc]
  obtain ⟨k', s', n', l'⟩ := t
  refine ⟨⟨rfl, by omega, h3, rfl⟩, _, h1, ?_⟩
  rw [w64 (by omega) (by omega), show (acc : Int) + ((occF (.mk k' s' n' l') i : Nat) : Int) = ((acc + occF (.mk k' s' n' l') i : Nat) : Int) by omega]
  exact h2
theorem zon : ∀ t : Tm, t.sz ≤ B → ∀ i : Int, 0 - 2305843009213693952 ≤ i → i + t.sz ≤ 2305843009213693952 → AC Tryz.prog 166 [aT t, ci i] [] (ci (occF t i)) [] := by
 refine Tm.ind fun t ih hs i h0 h1 => ?_
 have hlen := Tm.szs_length t.l
 obtain ⟨k, s, n, l⟩ := t
 simp only [Tm.sz, Tm.l, B] at hs hlen h1
 have loop : ∀ j : Int, 0 - 2305843009213693952 ≤ j → j + Tm.szs l ≤ 2305843009213693952 → RPt Tryz.prog 166 0 (ci (occL l j)) [] 3 ⟨[(1, ci j), (5, ci 0), (21, aL l), (22, ci (((FTs l).length : Nat) : Int)), (23, ci 0)], [], 0⟩ := fun j hj0 hj1 => by
  have hle := zlu l j
  have := zmb j l [] 0 (fun u hu => ih u hu (by have := Tm.szs_mem hu; simp only [B]; omega) j hj0 (by have := Tm.szs_mem hu; omega)) (by simp only [List.nil_append, B]; omega) (by simp only [B]; omega)
  rw [Nat.zero_add] at this
  exact this
 refine AC.vc hP sh zs9 (Nat.le_refl _) (by simp) (by simp) (Eq.mpr (v166 k s n (FTs l) i _ _) ?_)
 have no : ∀ (c : ¬ ((k == 3) = true ∧ (n == i) = true)), occF (.mk k s n l) i = occL l (i + if (k == 5) = true then 1 else 0) := fun c => by rw [occF, if_neg c]
 refine z00 (fun h => z00 (fun h2 => z31 ?_) (fun h2 => ⟨rfl, ?_⟩)) (fun h => z00 (fun h2 => ⟨rfl, ?_⟩) (fun h2 => ⟨rfl, ?_⟩))
 · rw [occF, if_pos ⟨h, h2⟩]; rfl
 · have e : k = 3 := by simpa using h
   rw [no (fun c => by rw [c.2] at h2; cases h2)]
   subst e
   rw [show (i + if ((3 : Int) == 5) = true then 1 else 0) = i by simp]
   exact loop i (by omega) (by omega)
 · rw [no (fun c => by rw [c.1] at h; cases h), if_pos h2, w64 (by omega) (by omega)]
   exact loop (i + 1) (by omega) (by omega)
 · rw [no (fun c => by rw [c.1] at h; cases h), if_neg (by rw [h2]; simp), Int.add_zero]
   exact loop i (by omega) (by omega)
theorem zk9 : (∀ es : List (List FV), es ≠ [] → es.length ≤ B → AC Tryz.prog 102 [.c (.a (.fz (.sl false 4 es)))] [] (.c (.a (.osl 0 4 0 es.length))) [.arz 4 es]) ∧ AC Tryz.prog 102 [.c (.a (.fz (.sl false 4 [])))] [] (.c (.a (.fz (.sl false 4 [])))) [] := by
 have h0 : AC Tryz.prog 102 [.c (.a (.fz .nils))] [] (.c (.a (.fz .nils))) [] := by
  refine AC.vc hP sh lv102 (Nat.le_refl _) (by simp) (by simp) (Eq.mpr (v102 ..) ?_)
  exact ⟨.refl _, rfl⟩
 have h1 : ∀ es : List (List FV), es.length ≤ B → AC Tryz.prog 102 [.c (.a (.fz (.sl true 4 es)))] [] (.c (.a (.osl 0 4 0 es.length))) [.arz 4 es] := fun es hl => by
  refine AC.vc hP sh lv102 (by simp) (by simp) (by simp [isLive]) (Eq.mpr (v102_i1 ..) ?_)
  refine ⟨rfl, ⟨by omega, by rw [Nat.zero_add]; exact z5k (by simp only [B] at hl; omega)⟩, ?_⟩
  rw [Nat.zero_add]
  exact ⟨.refl _, rfl⟩
 exact AC.clone_le h0 h1
theorem zqn (t : Tm) (hs : t.sz ≤ B) (i : Int) (h0 : 0 - 2305843009213693952 ≤ i) (h1 : i + t.sz ≤ 2305843009213693952) : AC Tryz.prog 148 [aT t, ci i] [] (ci (if validB t = true then (occF t i : Int) else 0)) [] := by
 have hv := z36 t hs
 have ho := zon t hs i h0 h1
 obtain ⟨k, s, n, l⟩ := t
 refine AC.vc hP sh lv148 (Nat.le_refl _) (by simp) (by simp) (Eq.mpr (v148 k s n (FTs l) i _ _) ?_)
 refine ⟨_, hv, z00 (fun h => z31 ?_) (fun h => ⟨_, ho, z31 ?_⟩)⟩
 · rw [if_neg (by simpa using h)]
 · rw [if_pos (by simpa using h)]
end Go.AM

set_option maxRecDepth 100000
open Go Go.Proofs
namespace Go.AM
abbrev aTE (t : Tm) (e : Int) : TV := .tup [(true, [.a (.fz (.int .i64 t.k)), .a (.fz (.str t.s)), .a (.fz (.int .i64 t.n)), .a (.fz (.sl false 4 (FTs t.l)))]), (false, [.a (.fz (.int .i64 e))])]
abbrev noT : Tm := .mk 0 [] 0 []
theorem leTE {k n e : Int} {s : List UInt8} {x : FV} {l : List Tm} (h : FV.Le x (.sl false 4 (FTs l))) : TV.Le (.tup [(true, [.a (.fz (.int .i64 k)), .a (.fz (.str s)), .a (.fz (.int .i64 n)), .a (.fz x)]), (false, [.a (.fz (.int .i64 e))])]) (aTE (.mk k s n l) e) := by
 refine .tup _ _ rfl fun i p q hp hq => ?_
 match i, hp, hq with
 | 0, hp, hq =>
  simp only [List.getElem?_cons_zero, Option.some.injEq] at hp hq
  subst hp; subst hq
  refine ⟨rfl, rfl, fun j x y hx hy => ?_⟩
  match j, hx, hy with
  | 0, hx, hy => simp at hx hy; subst hx; subst hy; exact .refl _
  | 1, hx, hy => simp at hx hy; subst hx; subst hy; exact .refl _
  | 2, hx, hy => simp at hx hy; subst hx; subst hy; exact .refl _
  | 3, hx, hy => simp at hx hy; subst hx; subst hy; exact .a _ _ (.fz _ _ h)
  | j + 4, hx, _ => simp at hx
 | 1, hp, hq =>
  simp only [List.getElem?_cons_zero, List.getElem?_cons_succ, Option.some.injEq] at hp hq
  subst hp; subst hq
  refine ⟨rfl, rfl, fun j x y hx hy => ?_⟩
  match j, hx, hy with
  | 0, hx, hy => simp at hx hy; subst hx; subst hy; exact .refl _
  | j + 1, hx, _ => simp at hx
 | i + 2, hp, _ => simp at hp
def z3v (body arg : Tm) : Bool := !decide ((z34 body : Int) + (occF body 0 : Int) * (z34 arg : Int) > 4096)
def conF (body arg : Tm) : Tm := if z3v body arg = true then suT 0 arg body 0 else noT
def conE (body arg : Tm) : Int := if z3v body arg = true then 0 else 80
end Go.AM

set_option maxRecDepth 100000
open Go Go.Proofs
namespace Go.AM
def hd (l : List Tm) : Tm := l.headD default
def z32 (t : Tm) : Bool := t.k == 6 && (hd t.l).k == 5
mutual
def okB : Tm → Bool
 | .mk k s n l => (if (k == 6) = true then decide (2 ≤ l.length) && (hd l).k != 6 && (s == [] && n == 0) else if (k == 5) = true then decide (l.length = 1) && (s == [] && n == 0) else decide (l.length = 0)) && okL l
def okL : List Tm → Bool
 | [] => true
 | t :: l => okB t && okL l
end
theorem z3c : ∀ {l : List Tm} {t : Tm}, okL l = true → t ∈ l → okB t = true
 | x :: l, t, h, hm => by
  simp only [okL, Bool.and_eq_true] at h
  rcases List.mem_cons.1 hm with rfl | hm
  · exact h.1
  · exact z3c h.2 hm
theorem zj : ∀ {l : List Tm}, (∀ t ∈ l, okB t = true) → okL l = true
 | [], _ => rfl
 | t :: l, h => by simp only [okL, h t List.mem_cons_self, zj (l := l) fun u hu => h u (List.mem_cons_of_mem _ hu), Bool.and_self]
theorem okB6 {k n : Int} {s : List UInt8} {l : List Tm} (h : okB (.mk k s n l) = true) (hk : k = 6) : ∃ x y r, l = x :: y :: r ∧ x.k ≠ 6 ∧ okL l = true := by
 subst hk
 simp only [okB, Bool.and_eq_true] at h
 match l, h with
 | [], h => simp at h
 | [x], h => simp at h
 | x :: y :: r, h => exact ⟨x, y, r, rfl, by have := h.1; simp [hd] at this; exact this.1, h.2⟩
theorem okB5 {k n : Int} {s : List UInt8} {l : List Tm} (h : okB (.mk k s n l) = true) (hk : k = 5) : ∃ x, l = [x] ∧ okB x = true := by
 subst hk
 simp only [okB, Bool.and_eq_true] at h
 match l, h with
 | [], h => simp at h
 | [x], h => exact ⟨x, rfl, by have := h.2; simpa [okL] using this⟩
 | x :: y :: r, h => simp at h
theorem okB0 {k n : Int} {s : List UInt8} {l : List Tm} (h : okB (.mk k s n l) = true) (h5 : k ≠ 5) (h6 : k ≠ 6) : l = [] := by
 simp only [okB, Bool.and_eq_true] at h
 have := h.1
 rw [if_neg (by simpa using h6), if_neg (by simpa using h5)] at this
 exact List.eq_nil_of_length_eq_zero (by simpa using this)
theorem zqr {k n : Int} {s : List UInt8} {l : List Tm} (h : okB (.mk k s n l) = true) (hk : k = 5 ∨ k = 6) : s = [] ∧ n = 0 := by
 simp only [okB, Bool.and_eq_true] at h
 have h := h.1
 rcases hk with rfl | rfl
 · simp at h; exact h.2
 · simp at h; exact h.2
theorem z78 {t : Tm} (h : okB t = true) : okL t.l = true := by
 obtain ⟨k, s, n, l⟩ := t
 simp only [okB, Bool.and_eq_true] at h; exact h.2
mutual
theorem z02 : ∀ t : Tm, validB t = true → okB t = true
 | .mk k s n l, h => by
  rw [okB]
  have hl := ziw l
  rw [validB] at h
  split at h
  · rename_i e
    have e : k = 0 := by simpa using e
    subst e
    rw [lenI] at h
    have : l = [] := by simp at h; exact h.2
    subst this; rfl
  split at h
  · rename_i e
    have e : k = 1 := by simpa using e
    subst e
    rw [lenI] at h
    have : l = [] := by simp at h; exact h.1.2
    subst this; rfl
  split at h
  · rename_i e
    have e : k = 2 := by simpa using e
    subst e
    rw [lenI] at h
    have : l = [] := by simp at h; exact h.1.2
    subst this; rfl
  split at h
  · rename_i e
    have e : k = 3 := by simpa using e
    subst e
    rw [lenI] at h
    have : l = [] := by simp at h; exact h.1.2
    subst this; rfl
  split at h
  · rename_i e
    have e : k = 4 := by simpa using e
    subst e
    rw [lenI] at h
    have : l = [] := by simp at h; exact h.1.2
    subst this; rfl
  split at h
  · rename_i e
    have e : k = 5 := by simpa using e
    subst e
    rw [lenI] at h
    simp only [Bool.and_eq_true, beq_iff_eq] at h
    have h1 : l.length = 1 := by have := h.1.2; omega
    rw [hl h.2]
    simp [h1, h.1.1.1, h.1.1.2]
  split at h
  · rename_i e
    have e : k = 6 := by simpa using e
    subst e
    rw [lenI] at h
    simp only [Bool.and_eq_true, decide_eq_true_eq, beq_iff_eq] at h
    have h1 : 2 ≤ l.length := by have := h.1.1.1.2; omega
    have h2 : ((hd l).k != 6) = true := h.1.1.2
    rw [hl h.2, h2]
    simp [h1, h.1.1.1.1, h.1.2]
  · cases h
theorem ziw : ∀ l : List Tm, z2a l = true → okL l = true
 | [], _ => rfl
 | t :: l, h => by
  simp only [z2a, Bool.and_eq_true] at h
  simp only [okL, z02 t h.1, ziw l h.2, Bool.and_self]
end
theorem ok_ne {t : Tm} (h : okB t = true) : t.k = 6 → t.l ≠ [] := by
 obtain ⟨k, s, n, l⟩ := t
 intro hk
 obtain ⟨x, y, r, e, _⟩ := okB6 h hk
 show l ≠ []
 rw [e]; simp
mutual
def z2r : Tm → Bool
 | .mk k s n l => !z32 (.mk k s n l) && z2z l
def z2z : List Tm → Bool
 | [] => true
 | t :: l => z2r t && z2z l
end
end Go.AM

set_option maxRecDepth 100000
open Go Go.Proofs
namespace Go.AM
abbrev zT : List WV := [.a (.fz (.int .i64 0)), .a (.fz (.str [])), .a (.fz (.int .i64 0)), .a (.fz .nils)]
theorem z6y (k : Int) (s : List UInt8) (n : Int) (l : List Tm) (a : Tm) (r : List Tm) : applyF (.mk k s n l) (a :: r) = if (k == 6) = true ∧ l ≠ [] then .mk 6 [] 0 (l ++ a :: r) else .mk 6 [] 0 (.mk k s n l :: a :: r) := rfl
end Go.AM

set_option maxRecDepth 100000
open Go Go.Proofs
namespace Go.AM
mutual
theorem nd_sz : ∀ t : Tm, nd t = t.sz
 | .mk _ _ _ l => by simp only [nd, Tm.sz, zru l]
theorem zru : ∀ l : List Tm, nds l = Tm.szs l
 | [] => rfl
 | t :: l => by simp only [nds, Tm.szs, nd_sz t, zru l]
end
mutual
theorem zkh : ∀ t : Tm, okB t = true → z34 t = t.sz
 | .mk k s n l, h => by
  have hl := zm7 l (z78 h)
  by_cases h6 : k = 6
  · subst h6; simp [z34, Tm.sz, hl]
  · by_cases h5 : k = 5
    · subst h5; simp [z34, Tm.sz, hl]
    · have : l = [] := okB0 h h5 h6
      subst this
      simp [z34, Tm.sz, z7q, Tm.szs]
theorem zm7 : ∀ l : List Tm, okL l = true → z7q l = Tm.szs l
 | [], _ => rfl
 | t :: l, h => by
  simp only [okL, Bool.and_eq_true] at h
  simp only [z7q, Tm.szs, zkh t h.1, zm7 l h.2]
end
def SZ : Nat := 130000000
theorem zkk {body arg : Tm} (ob : okB body = true) (oa : okB arg = true) (hr : z3v body arg = true) (ha : arg.sz ≤ SZ) : body.sz + nd body * arg.sz ≤ B ∧ body.sz + occF body 0 * arg.sz ≤ 4096 := by
 have h1 : ((z34 body : Int) + (occF body 0 : Int) * (z34 arg : Int) ≤ 4096) := by
  have : (!decide ((z34 body : Int) + (occF body 0 : Int) * (z34 arg : Int) > 4096)) = true := hr
  simp only [Bool.not_eq_true', decide_eq_false_iff_not] at this
  omega
 rw [zkh body ob, zkh arg oa, nd_sz] at *
 have h0 : body.sz + occF body 0 * arg.sz ≤ 4096 := by
  have : ((body.sz + occF body 0 * arg.sz : Nat) : Int) ≤ 4096 := by rw [Int.natCast_add, Int.natCast_mul]; exact h1
  omega
 have h2 : body.sz ≤ 4096 := by omega
 have h3 := Nat.mul_le_mul h2 ha
 simp only [SZ] at h3
 exact ⟨by simp only [B]; omega, h0⟩
theorem zm_le {body arg : Tm} (hb : body.sz ≤ 1073741824) (ha : arg.sz ≤ 1073741824) : 0 ≤ (occF body 0 : Int) * (z34 arg : Int) ∧ (occF body 0 : Int) * (z34 arg : Int) ≤ 1152921504606846976 := by
 have := Nat.mul_le_mul (Nat.le_trans (zr4 body 0) hb) (Nat.le_trans (zbc arg) ha)
 exact ⟨Int.mul_nonneg (by omega) (by omega), by omega⟩
theorem c_bcontr (body arg : Tm) (ob : okB body = true) (oa : okB arg = true) (hb : body.sz ≤ SZ) (ha : arg.sz ≤ SZ) (db : bd M61 body) (da : bd M61 arg) : AC Tryz.prog 165 [aT body, aT arg] [] (aTE (conF body arg) (conE body arg)) [] := by
 simp only [SZ] at hb ha
 have h1 := c_size body (by simp only [B]; omega)
 have h2 := zon body (by simp only [B]; omega) 0 (by omega) (by omega)
 have h3 := c_size arg (by simp only [B]; omega)
 have h4 := fun hr => c_subst body arg 0 (by simp only [B]; omega) (zkk ob oa hr (by simp only [SZ]; omega)).1 db da (by omega) (by simp only [M61]; omega)
 have z1 := zbc body
 have z2 := zm_le (body := body) (arg := arg) (by omega) (by omega)
 have cF : ∀ b, z3v body arg = b → conF body arg = (if b = true then suT 0 arg body 0 else noT) ∧ conE body arg = (if b = true then 0 else 80) := fun b h => by unfold conF conE; rw [h]; exact ⟨rfl, rfl⟩
 have hf : z3v body arg = !decide ((z34 body : Int) + (occF body 0 : Int) * (z34 arg : Int) > 4096) := rfl
 obtain ⟨k, s, n, l⟩ := body
 obtain ⟨k', s', n', l'⟩ := arg
 refine AC.vc hP sh lv165 (Nat.le_refl _) (by simp) (by simp) (Eq.mpr (v165 k s n (FTs l) k' s' n' (FTs l') _ _) ?_)
 refine ⟨_, h1, _, h2, _, h3, ?_⟩
 rw [w64 (x := (occF (.mk k s n l) 0 : Int) * (z34 (.mk k' s' n' l') : Int)) (by omega) (by omega), w64 (by omega) (by omega)]
 refine z00 (fun h => ?_) (fun h => ?_)
 · obtain ⟨e1, e2⟩ := cF false (by rw [hf, h]; rfl)
   rw [e1, e2]
   exact ⟨leTE z0r, rfl⟩
 · obtain ⟨e1, e2⟩ := cF true (by rw [hf, h]; rfl)
   rw [e1, e2]
   exact ⟨_, h4 (by rw [hf, h]; rfl), .refl _, rfl⟩
theorem zlk (body arg : Tm) (hb : body.sz ≤ SZ) (ha : arg.sz ≤ SZ) (db : bd M61 body) (da : bd M61 arg) : AC Tryz.prog 147 [aT body, aT arg] [] (if (validB body && validB arg) = true then aTE (conF body arg) (conE body arg) else aTE noT 1) [] := by
 have h1 := z36 body (by simp only [SZ, B] at *; omega)
 have h2 := z36 arg (by simp only [SZ, B] at *; omega)
 have h3 := fun ob oa => c_bcontr body arg (z02 body ob) (z02 arg oa) hb ha db da
 obtain ⟨k, s, n, l⟩ := body
 obtain ⟨k', s', n', l'⟩ := arg
 refine AC.vc hP sh lv147 (Nat.le_refl _) (by simp) (by simp) (Eq.mpr (v147 k s n (FTs l) k' s' n' (FTs l') _ _) ?_)
 refine ⟨_, h1, z00 (fun h => ?_) (fun h => ⟨_, h2, z00 (fun h' => ?_) (fun h' => ?_)⟩)⟩
 · rw [if_neg (by rw [show validB (.mk k s n l) = false by simpa using h]; simp)]
   exact ⟨leTE z0r, rfl⟩
 · rw [if_neg (by rw [show validB (.mk k' s' n' l') = false by simpa using h']; simp)]
   exact ⟨leTE z0r, rfl⟩
 · have e1 : validB (.mk k s n l) = true := by simpa using h
   have e2 : validB (.mk k' s' n' l') = true := by simpa using h'
   rw [if_pos (by rw [e1, e2]; rfl)]
   exact ⟨(_, _), h3 e1 e2, .refl _, rfl⟩
theorem zco {t : Tm} (ho : okB t = true) (hr : z32 t = true) : ∃ s n s1 n1 body arg rest, t = .mk 6 s n (.mk 5 s1 n1 [body] :: arg :: rest) ∧ okB body = true ∧ okB arg = true ∧ okL rest = true := by
 obtain ⟨k, s, n, l⟩ := t
 simp only [z32, Tm.k, Tm.l, Bool.and_eq_true, beq_iff_eq] at hr
 obtain ⟨rfl, h5⟩ := hr
 obtain ⟨x, y, r, rfl, _, hl⟩ := okB6 ho rfl
 simp only [okL, Bool.and_eq_true] at hl
 obtain ⟨k', s', n', l'⟩ := x
 have h5 : k' = 5 := h5
 subst h5
 obtain ⟨b, rfl, hb⟩ := okB5 hl.1 rfl
 exact ⟨s, n, s', n', b, y, r, rfl, hb, hl.2.1, hl.2.2⟩
mutual
def z3y : Tm → Tm × Int
 | .mk k s n l => if z32 (.mk k s n l) = true then (if z3v (hd (hd l).l) (hd l.tail) = true then (applyF (suT 0 (hd l.tail) (hd (hd l).l) 0) (l.drop 2), 1) else (noT, 2))
  else if (z5b l).2 = 0 then (.mk k s n l, 0) else if (z5b l).2 = 1 then (.mk k [] 0 (z5b l).1, 1) else (noT, 2)
def z5b : List Tm → List Tm × Int
 | [] => ([], 0)
 | t :: l => if (z3y t).2 = 0 then (t :: (z5b l).1, (z5b l).2) else ((z3y t).1 :: l, (z3y t).2)
end
theorem zqd {t : Tm} (ho : okB t = true) (h5 : t.k ≠ 5) (h6 : t.k ≠ 6) : z3y t = (t, 0) := by
 obtain ⟨k, s, n, l⟩ := t
 have : l = [] := okB0 ho h5 h6
 subst this
 rw [z3y, if_neg (by simp only [z32, Tm.k, Bool.and_eq_true, beq_iff_eq]; exact fun e => h6 e.1)]
 rfl
theorem stepF_hd {k n : Int} {s : List UInt8} {x : Tm} {l : List Tm} (ho : okB (.mk k s n (x :: l)) = true) (hr : z32 (.mk k s n (x :: l)) = false) (hk : k = 6) : z3y x = (x, 0) := by
 obtain ⟨y, z, r, e, h6, hl⟩ := okB6 ho hk
 injection e with e1 e2
 subst e1
 subst hk
 simp only [okL, Bool.and_eq_true] at hl
 refine zqd hl.1 (fun e => ?_) h6
 have : z32 (.mk 6 s n (x :: l)) = true := by simp only [z32, Tm.k, Tm.l, hd, List.headD_cons, Bool.and_eq_true, beq_iff_eq]; exact ⟨trivial, e⟩
 rw [hr] at this; cases this
abbrev aSt (u : Tm) (n : Int) : TV := .tup [(true, cT u), (false, [.a (.fz (.bool (n != 0)))]), (false, [.a (.fz (.int .i64 (if n = 2 then 80 else 0)))])]
theorem el0 (x : Tm) (l : List Tm) : FV.isSl 4 (.sl false 4 (FTs (x :: l))) = true ∧ ((0 : Int) ≤ 0 ∧ ((0 : Int) < (((FTs (x :: l)).length : Nat) : Int) ∧ (rE (List.getD (FTs (x :: l)) 0 []) : List FV) = List.getD (FTs (x :: l)) 0 [])) := ⟨rfl, Int.le_refl _, by rw [lenI]; simp only [List.length_cons]; omega, zgp x⟩
theorem el1 (x y : Tm) (l : List Tm) : FV.isSl 4 (.sl false 4 (FTs (x :: y :: l))) = true ∧ ((0 : Int) ≤ 1 ∧ ((1 : Int) < (((FTs (x :: y :: l)).length : Nat) : Int) ∧ (rE (List.getD (FTs (x :: y :: l)) 1 []) : List FV) = List.getD (FTs (x :: y :: l)) 1 [])) := ⟨rfl, by omega, by rw [lenI]; simp only [List.length_cons]; omega, zgp y⟩
theorem zsb (a : List Tm) (t : Tm) (b : List Tm) (u : Tm) : List.set (FTs (a ++ t :: b)) (0 + Int.toNat (a.length : Int)) (FT4 u) = FTs (a ++ u :: b) := by
 rw [Nat.zero_add, z8v, z7e, FTs_set]
 congr 1
 simp
theorem leTB {k n : Int} {b : Bool} {s : List UInt8} {x : FV} {l : List Tm} (h : FV.Le x (.sl false 4 (FTs l))) : TV.Le (.tup [(true, [.a (.fz (.int .i64 k)), .a (.fz (.str s)), .a (.fz (.int .i64 n)), .a (.fz x)]), (false, [.a (.fz (.bool b))])]) (.tup [(true, cT (.mk k s n l)), (false, [.a (.fz (.bool b))])]) := by
 refine .tup _ _ rfl fun i p q hp hq => ?_
 match i, hp, hq with
 | 0, hp, hq =>
  simp only [List.getElem?_cons_zero, Option.some.injEq] at hp hq
  subst hp; subst hq
  refine ⟨rfl, rfl, fun j x y hx hy => ?_⟩
  match j, hx, hy with
  | 0, hx, hy => simp at hx hy; subst hx; subst hy; exact .refl _
  | 1, hx, hy => simp at hx hy; subst hx; subst hy; exact .refl _
  | 2, hx, hy => simp at hx hy; subst hx; subst hy; exact .refl _
  | 3, hx, hy => simp at hx hy; subst hx; subst hy; exact .a _ _ (.fz _ _ h)
  | j + 4, hx, _ => simp at hx
 | 1, hp, hq =>
  simp only [List.getElem?_cons_zero, List.getElem?_cons_succ, Option.some.injEq] at hp hq
  subst hp; subst hq
  exact ⟨rfl, rfl, fun j x y hx hy => by rw [hx] at hy; injection hy with hy; subst hy; exact .refl _⟩
 | i + 2, hp, _ => simp at hp
theorem not_t {b : Bool} (h : (!b) = true) : b = false := by cases b <;> simp_all
theorem zp9 {b : Bool} (h : (!b) = false) : b = true := by cases b <;> simp_all
end Go.AM

set_option maxRecDepth 100000
open Go Go.Proofs
namespace Go.AM
theorem z4i {f : Tm} {args : List Tm} (hf : okB f = true) (ha : okL args = true) : okB (applyF f args) = true := by
 match args, ha with
 | [], _ => exact hf
 | a :: r, ha =>
  obtain ⟨k, s, n, l⟩ := f
  rw [z6y]
  split
  · rename_i h
    have hk : k = 6 := by simpa using h.1
    obtain ⟨x, y, r', rfl, h6, hl⟩ := okB6 hf hk
    have hall : okL ((x :: y :: r') ++ a :: r) = true := zj fun t ht => by
     rcases List.mem_append.1 ht with ht | ht
     · exact z3c hl ht
     · exact z3c ha ht
    have h6' : (x.k != 6) = true := by simpa using h6
    rw [okB, hall]
    simp [hd, h6]
  · rename_i h
    have h6 : k ≠ 6 := fun e => h ⟨by simpa using e, ok_ne hf e⟩
    have hall : okL (.mk k s n l :: a :: r) = true := by simp only [okL, Bool.and_eq_true] at ha ⊢; exact ⟨hf, ha⟩
    rw [okB, hall]
    simp [hd, Tm.k, h6]
theorem withF_ok {k n : Int} {s : List UInt8} {l o : List Tm} (h : okB (.mk k s n l) = true) (hk : k = 5 ∨ k = 6) (ho : okL o = true) (hlen : o.length = l.length) : okB (z24 (.mk k s n l) o) = true := by
 obtain ⟨rfl, rfl⟩ := zqr h hk
 unfold z24
 split
 · rename_i hc
   match o, ho, hc with
   | [], _, hc => simp at hc
   | x :: r, ho, hc =>
    simp only [okL, Bool.and_eq_true] at ho
    exact z4i ho.1 ho.2
 · rename_i hc
   show okB (.mk k [] 0 o) = true
   rcases hk with rfl | rfl
   · obtain ⟨x, rfl, _⟩ := okB5 h rfl
     rw [okB, ho]; simp only [List.length_cons, List.length_nil] at hlen; simp [hlen]
   · obtain ⟨x, y, r, rfl, h6, _⟩ := okB6 h rfl
     have h1 : ¬ (hd o).k = 6 := fun e => hc ⟨rfl, by rw [hlen]; simp, by simpa [hd] using e, show (x.k != 6) = true by simpa using h6⟩
     rw [okB, ho]; simp only [List.length_cons] at hlen; simp [hlen, h1]
mutual
theorem zfk (lf : Tm → Int → Tm) (h : ∀ u d, okB u = true → u.k ≠ 5 → u.k ≠ 6 → okB (lf u d) = true) : ∀ (t : Tm) (d : Int), okB t = true → okB (z0d lf t d) = true
 | .mk k s n l, d, ho => by
  rw [z0d]
  split
  · rename_i hk
    exact withF_ok ho (by simpa using hk) (zor lf h l _ (z78 ho)) (zal ..)
  · rename_i hk
    exact h _ _ ho (fun e => hk (by simp [show k = 5 from e])) (fun e => hk (by simp [show k = 6 from e]))
theorem zor (lf : Tm → Int → Tm) (h : ∀ u d, okB u = true → u.k ≠ 5 → u.k ≠ 6 → okB (lf u d) = true) : ∀ (l : List Tm) (d : Int), okL l = true → okL (z07 lf l d) = true
 | [], _, _ => rfl
 | t :: l, d, ho => by
  simp only [okL, Bool.and_eq_true] at ho
  simp only [z07, okL, zfk lf h t d ho.1, zor lf h l d ho.2, Bool.and_self]
end
theorem zmv {k n m : Int} {s : List UInt8} {l : List Tm} (h : okB (.mk k s n l) = true) (h5 : k ≠ 5) (h6 : k ≠ 6) : okB (.mk k s m l) = true := by
 have : l = [] := okB0 h h5 h6
 subst this
 simp [okB, h5, h6, okL]
theorem shT_ok {fr by_ : Int} {t : Tm} (d : Int) (h : okB t = true) : okB (shT fr by_ t d) = true := by
 refine zfk _ (fun u d hu h5 h6 => ?_) t d h
 unfold z0g
 split
 · obtain ⟨k, s, n, l⟩ := u; exact zmv hu h5 h6
 · exact hu
theorem suT_ok {i : Int} {s t : Tm} (d : Int) (hs : okB s = true) (h : okB t = true) : okB (suT i s t d) = true := by
 refine zfk _ (fun u d hu h5 h6 => ?_) t d h
 unfold z1r
 split
 · split
   · exact hu
   · split
     · exact shT_ok _ hs
     · obtain ⟨k, s, n, l⟩ := u; exact zmv hu h5 h6
 · exact hu
mutual
theorem zuj (i : Int) (s : Tm) : ∀ (t : Tm) (d : Int), (suT i s t d).sz ≤ t.sz + occF t (d + i) * s.sz
 | .mk k s' n l, d => by
  rw [suT, z0d]
  split
  · rename_i hk
    have h1 := znw i s l (d + if (k == 5) = true then 1 else 0)
    have h2 := zmd (.mk k s' n l) (z07 (z1r i s) l (d + if (k == 5) = true then 1 else 0))
    have h3 : occF (.mk k s' n l) (d + i) = occL l (d + (if (k == 5) = true then 1 else 0) + i) := by
     rw [occF, if_neg (by rintro ⟨e, _⟩; have : k = 3 := by simpa using e
                          subst this; simp at hk)]
     congr 1; omega
    rw [h3]
    simp only [Tm.sz]; omega
  · unfold z1r
    rw [occF]
    split
    · rename_i h3
      split
      · omega
      · split
        · rename_i h4
          have h5 := zoi 0 d s 0
          rw [if_pos ⟨h3, h4⟩]; omega
        · simp only [Tm.sz, Tm.l]; omega
    · omega
theorem znw (i : Int) (s : Tm) : ∀ (l : List Tm) (d : Int), Tm.szs (z07 (z1r i s) l d) ≤ Tm.szs l + occL l (d + i) * s.sz
 | [], _ => by simp [z07, Tm.szs]
 | t :: l, d => by
  have h1 := zuj i s t d
  have h2 := znw i s l d
  have h1 : (z0d (z1r i s) t d).sz ≤ t.sz + occF t (d + i) * s.sz := h1
  simp only [z07, Tm.szs, occL, Nat.add_mul]; omega
end
theorem zj3 {k n : Int} {s : List UInt8} {l : List Tm} (h : z32 (.mk k s n l) = false) : z3y (.mk k s n l) = (if (z5b l).2 = 0 then (.mk k s n l, 0) else if (z5b l).2 = 1 then (.mk k [] 0 (z5b l).1, 1) else (noT, 2)) := by rw [z3y, if_neg (by rw [h]; simp)]
mutual
theorem zdh (M : Int) (hM : 0 ≤ M) : ∀ t : Tm, okB t = true → t.sz ≤ SZ → bd M t → (z3y t).2 = 1 → okB (z3y t).1 = true ∧ (z3y t).1.sz ≤ t.sz + 42000 ∧ bd (M + SZ) (z3y t).1
 | .mk k s n l, ho, hs, hb, h1 => by
  by_cases q : z32 (.mk k s n l) = true
  · obtain ⟨s', n', s1, n1, body, arg, rest, e, ob, oa, orr⟩ := zco ho q
    injection e with e1 e2 e3 e4
    subst e1; subst e2; subst e3; subst e4
    have hF : z3y (.mk 6 s n (.mk 5 s1 n1 [body] :: arg :: rest)) = if z3v body arg = true then (applyF (suT 0 arg body 0) rest, 1) else (noT, 2) := by rw [z3y, if_pos q]; rfl
    rw [hF] at h1 ⊢
    by_cases hr : z3v body arg = true
    · simp only [Tm.sz, Tm.szs] at hs
      have h2 := (zkk ob oa hr (by omega)).2
      have h3 := zuj 0 arg body 0
      have h4 := z2m (suT 0 arg body 0) rest
      rw [Int.zero_add] at h3
      rw [if_pos hr]
      refine ⟨z4i (suT_ok 0 oa ob) orr, by simp only [Tm.sz, Tm.szs]; omega, z2n ?_ ?_⟩
      · exact suT_bd (M := M + SZ) (M' := M) (D := SZ) arg body 0 (z5d (by omega) _ hb.2.1.2.1) hb.2.2.1 (Int.le_refl _) (Int.le_refl _) (by omega) (Int.le_refl _) (by omega)
      · exact z63 fun u hu => z5d (by omega) _ (z1v hb.2.2.2 hu)
    · rw [if_neg hr] at h1; cases h1
  · have q : z32 (.mk k s n l) = false := by simpa using q
    have hl := z78 ho
    rw [zj3 q] at h1 ⊢
    split at h1
    · cases h1
    split at h1
    · rename_i h0 h2
      rw [if_neg h0, if_pos h2]
      simp only [Tm.sz] at hs
      obtain ⟨g1, g2, g3, g4, g5⟩ := zhy M hM l hl (by omega) hb.2 h2
      have hk : k = 5 ∨ k = 6 := by
       by_cases k5 : k = 5
       · exact .inl k5
       · by_cases k6 : k = 6
         · exact .inr k6
         · have : l = [] := okB0 ho k5 k6
           subst this
           exact absurd rfl h0
      refine ⟨?_, by simp only [Tm.sz]; omega, ⟨fun e => by omega, g4⟩⟩
      rcases hk with rfl | rfl
      · obtain ⟨x, rfl, _⟩ := okB5 ho rfl
        rw [okB, g1]; simp only [List.length_cons, List.length_nil] at g2; simp [g2]
      · obtain ⟨x, y, r, rfl, h6, _⟩ := okB6 ho rfl
        have hx := stepF_hd ho q rfl
        rw [okB, g1]; simp only [List.length_cons] at g2
        have : (hd (z5b (x :: y :: r)).1).k ≠ 6 := by rw [z5b, if_pos (by rw [hx])]; exact h6
        simp [g2, this]
    · cases h1
theorem zhy (M : Int) (hM : 0 ≤ M) : ∀ l : List Tm, okL l = true → Tm.szs l ≤ SZ → bds M l → (z5b l).2 = 1 → okL (z5b l).1 = true ∧ (z5b l).1.length = l.length ∧ Tm.szs (z5b l).1 ≤ Tm.szs l + 42000 ∧ bds (M + SZ) (z5b l).1 ∧ True
 | [], _, _, _, h => by cases h
 | t :: l, ho, hs, hb, h => by
  simp only [okL, Bool.and_eq_true] at ho
  simp only [Tm.szs] at hs
  rw [z5b] at h ⊢
  split at h
  · rename_i h0
    rw [if_pos h0]
    obtain ⟨g1, g2, g3, g4, _⟩ := zhy M hM l ho.2 (by omega) hb.2 h
    exact ⟨by simp only [okL, ho.1, g1, Bool.and_self], by simp [g2], by simp only [Tm.szs]; omega, ⟨z5d (by omega) _ hb.1, g4⟩, trivial⟩
  · rename_i h0
    rw [if_neg h0]
    obtain ⟨g1, g2, g3⟩ := zdh M hM t ho.1 (by omega) hb.1 h
    exact ⟨by simp only [okL, ho.2, g1, Bool.and_self], rfl, by simp only [Tm.szs]; omega, ⟨g3, z63 fun u hu => z5d (by omega) _ (z1v hb.2 hu)⟩, trivial⟩
end
def Fit (F : Nat) (t : Tm) : Prop := okB t = true ∧ t.sz + 42000 * F ≤ SZ ∧ bd (M61 - SZ - SZ * F) t ∧ F ≤ 5000
theorem Fit.next {F : Nat} {t : Tm} (h : Fit (F + 1) t) (h1 : (z3y t).2 = 1) : Fit F (z3y t).1 := by
 obtain ⟨g1, g2, g3, g4⟩ := h
 have := zdh (M61 - SZ - SZ * ((F + 1 : Nat) : Int)) (by simp only [M61, SZ]; omega) t g1 (by omega) g3 h1
 refine ⟨this.1, by have := this.2.1; omega, z5d ?_ _ this.2.2, by omega⟩
 simp only [SZ]; omega
theorem Fit.mono {F G : Nat} {t : Tm} (h : Fit F t) (hg : G ≤ F) : Fit G t := ⟨h.1, by have := h.2.1; have := Nat.mul_le_mul_left 42000 hg; omega, z5d (by simp only [SZ]; omega) _ h.2.2.1, by have := h.2.2.2; omega⟩
theorem Fit.kid {F : Nat} {t u : Tm} (h : Fit F t) (hu : u ∈ t.l) : Fit F u := by
 have h1 := Tm.szs_mem hu
 have h2 := t.sz_eq
 refine ⟨z3c (z78 h.1) hu, by have := h.2.1; omega, ?_, h.2.2.2⟩
 obtain ⟨k, s, n, l⟩ := t
 exact z1v h.2.2.1.2 hu
theorem Fit.sz {F : Nat} {t : Tm} (h : Fit F t) : t.sz ≤ SZ := by have := h.2.1; omega
theorem Fit.bd {F : Nat} {t : Tm} (h : Fit F t) : bd M61 t := z5d (by simp only [SZ]; omega) _ h.2.2.1
theorem Fit.ok {F : Nat} {t : Tm} (h : Fit F t) : okB t = true := h.1
theorem zn4 (s s1 : List UInt8) (n n1 : Int) (body arg : Tm) (rest : List Tm) : z32 (.mk 6 s n (.mk 5 s1 n1 [body] :: arg :: rest)) = true := rfl
end Go.AM

set_option maxRecDepth 100000
open Go Go.Proofs

set_option maxRecDepth 100000
open Go Go.Proofs
namespace Go.AM
mutual
theorem zqm : ∀ (t : Tm) (m : Int), 0 ≤ z9l t m → (t.sz : Int) ≤ m - z9l t m
 | .mk _ s _ l, m, h => by
  simp only [z9l] at h ⊢
  have := zol l (m - 1) h
  simp only [Tm.sz]; omega
theorem zol : ∀ (l : List Tm) (m : Int), 0 ≤ z9v l m → (Tm.szs l : Int) ≤ m - z9v l m
 | [], m, h => by simp [z9v, Tm.szs]
 | t :: l, m, h => by
  simp only [z9v] at h ⊢
  split at h
  · rename_i h0
    rw [if_pos h0]
    have h1 := zol l _ h
    have h3 := (zfo l (z9l t m)).1
    have h2 := zqm t m (by omega)
    simp only [Tm.szs]; omega
  · rename_i h0; exact absurd h h0
end
theorem zna {t : Tm} {m : Int} (h : z9i t m = false) : (t.sz : Int) ≤ m := by
 have h := of_decide_eq_false h
 have := zqm t m (by omega)
 omega
end Go.AM

set_option maxRecDepth 100000
open Go Go.Proofs
namespace Go.AM
mutual
def lvB : Tm → Bool
 | .mk k s n l => if (k == 5 || k == 6) = true then lvL l else validB (.mk k s n l)
def lvL : List Tm → Bool
 | [] => true
 | t :: l => lvB t && lvL l
end
theorem z7t : ∀ {l : List Tm} {t : Tm}, lvL l = true → t ∈ l → lvB t = true
 | x :: l, t, h, hm => by
  simp only [lvL, Bool.and_eq_true] at h
  rcases List.mem_cons.1 hm with rfl | hm
  · exact h.1
  · exact z7t h.2 hm
theorem zbi : ∀ {l : List Tm}, (∀ t ∈ l, lvB t = true) → lvL l = true
 | [], _ => rfl
 | t :: l, h => by simp only [lvL, h t List.mem_cons_self, zbi (l := l) fun u hu => h u (List.mem_cons_of_mem _ hu), Bool.and_self]
theorem z2t {k n : Int} {s : List UInt8} {l : List Tm} (hk : k = 5 ∨ k = 6) : lvB (.mk k s n l) = lvL l := by
 rw [lvB, if_pos (by rcases hk with rfl | rfl <;> rfl)]
theorem z7v {k n : Int} {s : List UInt8} {l : List Tm} (h5 : k ≠ 5) (h6 : k ≠ 6) : lvB (.mk k s n l) = validB (.mk k s n l) := by
 rw [lvB, if_neg (by simp [h5, h6])]
theorem valid5 {s : List UInt8} {n : Int} {l : List Tm} : validB (.mk 5 s n l) = (n == 0 && s == [] && decide (l.length = 1) && z2a l) := by
 rw [validB, lenI]
 simp only [show ((5 : Int) == 0) = false from rfl, show ((5 : Int) == 1) = false from rfl, show ((5 : Int) == 2) = false from rfl, show ((5 : Int) == 3) = false from rfl, show ((5 : Int) == 4) = false from rfl, Bool.false_eq_true, if_false, show ((5 : Int) == 5) = true from rfl, if_true]
 congr 2
 by_cases h : l.length = 1
 · rw [h]; rfl
 · rw [decide_eq_false h]; simp; omega
theorem valid6 {s : List UInt8} {n : Int} {l : List Tm} : validB (.mk 6 s n l) = (n == 0 && decide (2 ≤ l.length) && ((hd l).k != 6) && s == [] && z2a l) := by
 rw [validB, lenI]
 simp only [show ((6 : Int) == 0) = false from rfl, show ((6 : Int) == 1) = false from rfl, show ((6 : Int) == 2) = false from rfl, show ((6 : Int) == 3) = false from rfl, show ((6 : Int) == 4) = false from rfl, show ((6 : Int) == 5) = false from rfl, Bool.false_eq_true, if_false, show ((6 : Int) == 6) = true from rfl, if_true]
 congr 4
 by_cases h : 2 ≤ l.length
 · rw [decide_eq_true h, decide_eq_true (by omega)]
 · rw [decide_eq_false h, decide_eq_false (by omega)]
mutual
theorem z1p : ∀ t : Tm, validB t = (okB t && lvB t)
 | .mk k s n l => by
  by_cases h5 : k = 5
  · subst h5
    rw [valid5, z2t (.inl rfl), za3 l, okB]
    cases okL l <;> cases lvL l <;> simp [Bool.and_comm, Bool.and_assoc, Bool.and_left_comm]
  · by_cases h6 : k = 6
    · subst h6
      rw [valid6, z2t (.inr rfl), za3 l, okB]
      cases okL l <;> cases lvL l <;> simp [Bool.and_comm, Bool.and_assoc, Bool.and_left_comm]
    · rw [z7v h5 h6]
      cases hv : validB (.mk k s n l) with
      | false => simp
      | true => rw [z02 _ hv]; rfl
theorem za3 : ∀ l : List Tm, z2a l = (okL l && lvL l)
 | [] => rfl
 | t :: l => by
  rw [z2a, okL, lvL, z1p t, za3 l]
  cases okB t <;> cases lvB t <;> simp
end
theorem z26 {t : Tm} (h : validB t = true) : lvB t = true := by rw [z1p] at h; simp at h; exact h.2
theorem z46 {f : Tm} {args : List Tm} (hf : lvB f = true) (ha : lvL args = true) : lvB (applyF f args) = true := by
 match args, ha with
 | [], _ => exact hf
 | a :: r, ha =>
  obtain ⟨k, s, n, l⟩ := f
  rw [z6y]
  split
  · rename_i h
    have hk : k = 6 := by simpa using h.1
    rw [z2t (.inr hk)] at hf
    rw [z2t (.inr rfl)]
    exact zbi fun t ht => by
     rcases List.mem_append.1 ht with ht | ht
     · exact z7t hf ht
     · exact z7t ha ht
  · rw [z2t (.inr rfl)]
    simp only [lvL, Bool.and_eq_true] at ha ⊢
    exact ⟨hf, ha⟩
theorem withF_lv {t : Tm} {o : List Tm} (hk : t.k = 5 ∨ t.k = 6) (ho : lvL o = true) : lvB (z24 t o) = true := by
 obtain ⟨k, s, n, l⟩ := t
 unfold z24
 split
 · rename_i hc
   match o, ho, hc with
   | [], _, hc => exact absurd hc.2.1 (by simp)
   | x :: r, ho, hc =>
    simp only [lvL, Bool.and_eq_true] at ho
    exact z46 ho.1 ho.2
 · exact (z2t hk).trans ho
mutual
theorem zb8 (lf : Tm → Int → Tm) (Q : Tm → Int → Prop) (hq : ∀ k s n l d, Q (.mk k s n l) d → ∀ u ∈ l, Q u (d + if (k == 5) = true then 1 else 0)) (h : ∀ u d, lvB u = true → Q u d → u.k ≠ 5 → u.k ≠ 6 → lvB (lf u d) = true) : ∀ (t : Tm) (d : Int), lvB t = true → Q t d → lvB (z0d lf t d) = true
 | .mk k s n l, d, ho, hQ => by
  rw [z0d]
  split
  · rename_i hk
    have hk : k = 5 ∨ k = 6 := by simpa using hk
    rw [z2t hk] at ho
    exact withF_lv hk (zo1 lf Q hq h l _ ho (hq k s n l d hQ))
  · rename_i hk
    exact h _ _ ho hQ (fun e => hk (by simp [show k = 5 from e])) (fun e => hk (by simp [show k = 6 from e]))
theorem zo1 (lf : Tm → Int → Tm) (Q : Tm → Int → Prop) (hq : ∀ k s n l d, Q (.mk k s n l) d → ∀ u ∈ l, Q u (d + if (k == 5) = true then 1 else 0)) (h : ∀ u d, lvB u = true → Q u d → u.k ≠ 5 → u.k ≠ 6 → lvB (lf u d) = true) : ∀ (l : List Tm) (d : Int), lvL l = true → (∀ u ∈ l, Q u d) → lvL (z07 lf l d) = true
 | [], _, _, _ => rfl
 | t :: l, d, ho, hQ => by
  simp only [lvL, Bool.and_eq_true] at ho
  simp only [z07, lvL, zb8 lf Q hq h t d ho.1 (hQ t List.mem_cons_self), zo1 lf Q hq h l d ho.2 (fun u hu => hQ u (List.mem_cons_of_mem _ hu)), Bool.and_self]
end
theorem ze6 {s : List UInt8} {n : Int} {l : List Tm} : validB (.mk 3 s n l) = true ↔ 0 ≤ n ∧ n ≤ 4611686018427387904 ∧ s = [] ∧ l = [] := by
 rw [validB, lenI]
 simp only [show ((3 : Int) == 0) = false from rfl, show ((3 : Int) == 1) = false from rfl, show ((3 : Int) == 2) = false from rfl, Bool.false_eq_true, if_false, show ((3 : Int) == 3) = true from rfl, if_true]
 simp only [Bool.and_eq_true, decide_eq_true_eq, beq_iff_eq]
 constructor
 · rintro ⟨⟨⟨⟨h1, h2⟩, h3⟩, h4⟩, _⟩
   exact ⟨h1, h2, h3, List.eq_nil_of_length_eq_zero (by omega)⟩
 · rintro ⟨h1, h2, rfl, rfl⟩
   exact ⟨⟨⟨⟨h1, h2⟩, rfl⟩, rfl⟩, rfl⟩
theorem shT_lv {by_ M D : Int} (h0 : 0 ≤ by_) (hM : M + by_ ≤ 4611686018427387904) (t : Tm) (d : Int) (fr : Int) (hb : bd M t) (h : lvB t = true) (_ : d ≤ D) : lvB (shT fr by_ t d) = true := by
 refine zb8 _ (fun u _ => bd M u) (fun k s n l d hQ u hu => z1v hQ.2 hu) (fun u d hu hQ h5 h6 => ?_) t d h hb
 unfold z0g
 split
 · rename_i hc
   obtain ⟨k, s, n, l⟩ := u
   have hk : k = 3 := by have hc := hc.1; have hc : (k == 3) = true := hc; simpa using hc
   subst hk
   rw [z7v (by decide) (by decide), ze6] at hu
   have hb := hQ.1 rfl
   show lvB (.mk 3 s (n + by_) l) = true
   rw [z7v (by decide) (by decide), ze6]
   exact ⟨by omega, by omega, hu.2.2.1, hu.2.2.2⟩
 · exact hu
theorem suT_lv {i M : Int} {s t : Tm} {D : Int} (hi : 0 ≤ i) (hM : M + D ≤ 4611686018427387904) (hbs : bd M s) (hs : lvB s = true) (hl : lvB t = true) (d : Int) (h0 : 0 ≤ d) (hD : d + t.sz ≤ D) : lvB (suT i s t d) = true := by
 refine zb8 _ (fun u d => 0 ≤ d ∧ d + u.sz ≤ D) (fun k s n l d hQ u hu => ?_) (fun u d hu hQ h5 h6 => ?_) t d hl ⟨h0, hD⟩
 · have := Tm.szs_mem hu
   simp only [Tm.sz] at hQ
   constructor
   · have := hQ.1; split <;> omega
   · have := hQ.2; split <;> omega
 · unfold z1r
   split
   · rename_i hc
     split
     · exact hu
     · rename_i hlt
       split
       · have := hQ.2
         exact shT_lv hQ.1 (D := 0) (by omega) s 0 0 hbs hs (Int.le_refl _)
       · rename_i hne
         obtain ⟨k, s', n, l⟩ := u
         have hk : k = 3 := by have hc : (k == 3) = true := hc; simpa using hc
         subst hk
         rw [z7v (by decide) (by decide), ze6] at hu
         have h1 : ¬ n < d + i := hlt
         have h2 : n ≠ d + i := fun e => hne (by rw [show Tm.n (.mk 3 s' n l) = n from rfl, e]; simp)
         show lvB (.mk 3 s' (n - 1) l) = true
         rw [z7v (by decide) (by decide), ze6]
         have := hQ.1
         exact ⟨by omega, by omega, hu.2.2.1, hu.2.2.2⟩
   · exact hu
mutual
theorem zmp (M : Int) (hM : M + SZ ≤ 4611686018427387904) : ∀ t : Tm, okB t = true → t.sz ≤ SZ → bd M t → lvB t = true → (z3y t).2 = 1 → lvB (z3y t).1 = true
 | .mk k s n l, ho, hs, hb, hl, h1 => by
  by_cases q : z32 (.mk k s n l) = true
  · obtain ⟨s', n', s1, n1, body, arg, rest, e, ob, oa, orr⟩ := zco ho q
    injection e with e1 e2 e3 e4
    subst e1; subst e2; subst e3; subst e4
    have hF : z3y (.mk 6 s n (.mk 5 s1 n1 [body] :: arg :: rest)) = if z3v body arg = true then (applyF (suT 0 arg body 0) rest, 1) else (noT, 2) := by rw [z3y, if_pos q]; rfl
    rw [hF] at h1 ⊢
    by_cases hr : z3v body arg = true
    · rw [if_pos hr]
      rw [z2t (.inr rfl)] at hl
      simp only [lvL, Bool.and_eq_true] at hl
      have hb0 : lvB body = true := by have := hl.1; rw [z2t (.inl rfl)] at this; simpa [lvL] using this
      simp only [Tm.sz, Tm.szs] at hs
      exact z46 (suT_lv (M := M) (D := SZ) (Int.le_refl _) hM hb.2.2.1 hl.2.1 hb0 0 (Int.le_refl _) (by omega)) hl.2.2
    · rw [if_neg hr] at h1; cases h1
  · have q : z32 (.mk k s n l) = false := by simpa using q
    rw [zj3 q] at h1 ⊢
    split at h1
    · cases h1
    split at h1
    · rename_i h0 h2
      rw [if_neg h0, if_pos h2]
      simp only [Tm.sz] at hs
      have hk : k = 5 ∨ k = 6 := by
       by_cases k5 : k = 5
       · exact .inl k5
       · by_cases k6 : k = 6
         · exact .inr k6
         · have : l = [] := okB0 ho k5 k6
           subst this
           exact absurd rfl h0
      rw [z2t hk] at hl
      show lvB (.mk k [] 0 (z5b l).1) = true
      rw [z2t hk]
      exact zne M hM l (z78 ho) (by omega) hb.2 hl h2
    · cases h1
theorem zne (M : Int) (hM : M + SZ ≤ 4611686018427387904) : ∀ l : List Tm, okL l = true → Tm.szs l ≤ SZ → bds M l → lvL l = true → (z5b l).2 = 1 → lvL (z5b l).1 = true
 | [], _, _, _, _, h => by cases h
 | t :: l, ho, hs, hb, hl, h => by
  simp only [okL, Bool.and_eq_true] at ho
  simp only [Tm.szs] at hs
  simp only [lvL, Bool.and_eq_true] at hl
  rw [z5b] at h ⊢
  split at h
  · rename_i h0
    rw [if_pos h0]
    simp only [lvL, hl.1, zne M hM l ho.2 (by omega) hb.2 hl.2 h, Bool.and_self]
  · rename_i h0
    rw [if_neg h0]
    simp only [lvL, hl.2, zmp M hM t ho.1 (by omega) hb.1 hl.1 h, Bool.and_self]
end
end Go.AM

set_option maxRecDepth 100000
open Go Go.Proofs
namespace Go.AM
theorem z06 {k n : Int} {s : List UInt8} {l : List Tm} (h : validB (.mk k s n l) = true) (hk : k = 5 ∨ k = 6) : ∀ u ∈ l, validB u = true := fun u hu => by
 rw [z1p, Bool.and_eq_true] at h ⊢
 have h1 := z78 h.1
 have h2 := h.2
 rw [z2t hk] at h2
 exact ⟨z3c h1 hu, z7t h2 hu⟩
def LeW (p q : Bool × List WV) : Prop := p.1 = q.1 ∧ All2 WV.Le p.2 q.2
theorem zf7 {α β : Type} {R : α → β → Prop} : ∀ {a : List α} {b : List β}, All2 R a b → a.length = b.length ∧ ∀ (i : Nat) (x : α) (y : β), a[i]? = some x → b[i]? = some y → R x y
 | [], [], _ => ⟨rfl, fun i x y hx _ => by simp at hx⟩
 | x :: a, y :: b, h => by
  have := zf7 h.2
  refine ⟨by simp [this.1], fun i u v hu hv => ?_⟩
  match i, hu, hv with
  | 0, hu, hv => simp at hu hv; subst hu; subst hv; exact h.1
  | i + 1, hu, hv => exact this.2 i u v (by simpa using hu) (by simpa using hv)
 | [], _ :: _, h => h.elim
 | _ :: _, [], h => h.elim
theorem zt0 {a b : List (Bool × List WV)} (h : All2 LeW a b) : TV.Le (.tup a) (.tup b) := by
 have := zf7 h
 refine .tup _ _ this.1 fun i p q hp hq => ?_
 have h1 := this.2 i p q hp hq
 have h2 := zf7 h1.2
 exact ⟨h1.1, h2.1, h2.2⟩
theorem leWn : WV.Le (.a (.fz .nils)) (.a (.fz (.sl false 4 (FTs [])))) := .a _ _ (.fz _ _ z0r)
theorem lwT {k n : Int} {s : List UInt8} {x : FV} {l : List Tm} {b : Bool} (h : FV.Le x (.sl false 4 (FTs l))) : LeW (b, [.a (.fz (.int .i64 k)), .a (.fz (.str s)), .a (.fz (.int .i64 n)), .a (.fz x)]) (b, cT (.mk k s n l)) := ⟨rfl, .refl _, .refl _, .refl _, .a _ _ (.fz _ _ h), trivial⟩
theorem lwR (p : Bool × List WV) : LeW p p := by
 obtain ⟨b, l⟩ := p
 refine ⟨rfl, ?_⟩
 show All2 WV.Le l l
 induction l with
 | nil => trivial
 | cons x l ih => exact ⟨.refl _, ih⟩
theorem z3l (l : List Inf) : (SR l).length = l.length := by simp [SR]
theorem zoq {l : List Inf} {i : Nat} (h : i < l.length) : List.getD (SR l) i [] = Inf.c l[i] := by simp [SR, List.getD, h]
theorem zhs (a b : List Inf) : SR (a ++ b) = SR a ++ SR b := by simp [SR]
abbrev noI : Inf := ⟨0, false, noT⟩
abbrev aS (o : Nat) : TV := .c (.a (.ep o 2 0 0))
abbrev sto2 (a b : Nat) (s : Sto) : AObj := .arr 2 [[.a (.osl a 6 0 s.V.length), .a (.osl b 1 0 s.T.length)]]
abbrev oS (s : Sto) : List AObj := [sto2 1 2 s, .arz 6 (SR s.V), .arz 1 (IR s.T)]
abbrev oSf (s : Sto) (f : Int) : List AObj := [sto2 1 2 s, .arz 6 (SR s.V), .arz 1 (IR s.T), obj1 f]
def infOf (V : List Inf) (x : Int) : Inf := if 0 ≤ x ∧ x < (V.length : Int) then (V[x.toNat]?).getD noI else noI
def inB (V : List Inf) (x : Int) : Bool := decide (0 ≤ x) && decide (x < (V.length : Int))
theorem z1k {V : List Inf} {x : Int} (h0 : 0 ≤ x) (h1 : x < (V.length : Int)) : ∃ h : x.toNat < V.length, infOf V x = V[x.toNat] := by
 have h : x.toNat < V.length := by omega
 exact ⟨h, by rw [infOf, if_pos ⟨h0, h1⟩, List.getElem?_eq_getElem h]; rfl⟩
theorem z1n {V : List Inf} {x : Int} (h : ¬ (0 ≤ x ∧ x < (V.length : Int))) : infOf V x = noI := if_neg h
abbrev tI (i : Inf) (b : Bool) : TV := .tup [(true, [.a (.fz (.int .i64 i.lv)), .a (.fz (.bool i.bd)), .a (.fz (.int .i64 i.v.k)), .a (.fz (.str i.v.s)), .a (.fz (.int .i64 i.v.n)), .a (.fz (.sl false 4 (FTs i.v.l)))]), (false, [.a (.fz (.bool b))])]
theorem inf_no {c d : Bool} (h : c = d) {n : Nat} : TV.Le (.tup [(true, [.a (.fz (.int .i64 0)), .a (.fz (.bool false)), .a (.fz (.int .i64 0)), .a (.fz (.str [])), .a (.fz (.int .i64 0)), .a (.fz .nils)]), (false, [.a (.fz (.bool c))])]) (tI noI d) ∧ n = n := by
 subst h
 exact ⟨zt0 ⟨⟨rfl, .refl _, .refl _, .refl _, .refl _, .refl _, leWn, trivial⟩, lwR _, trivial⟩, rfl⟩
theorem c_snew : AC Tryz.prog 34 [] [] (aS 0) (oS ⟨[], []⟩) := by
 refine AC.vc hP sh lv34 (by simp) (by simp) (by simp [isLive]) (Eq.mpr (v34 ..) ?_)
 exact ⟨.refl _, rfl⟩
theorem z7r (s : Sto) (x : Int) : AC Tryz.prog 19 [aS 0, ci x] (oS s) (tI (infOf s.V x) (inB s.V x)) (oS s) := by
 refine AC.vc hP sh lv19 (Nat.le_refl _) (by simp [isLive]) (by simp) (Eq.mpr (v19 ..) ?_)
 refine z00 (fun h => ?_) (fun h => z00 (fun h' => ?_) (fun h' => ?_))
 · have h := of_decide_eq_true h
   rw [z1n (by omega)]
   exact ⟨(inf_no (by simp [inB]; omega) (n := 0)).1, rfl⟩
 · have h' := of_decide_eq_true h'
   rw [z1n (by omega)]
   exact ⟨(inf_no (by simp [inB]; omega) (n := 0)).1, rfl⟩
 · have h := of_decide_eq_false h
   have h' := of_decide_eq_false h'
   obtain ⟨hl, e⟩ := z1k (V := s.V) (x := x) (by omega) (by omega)
   rw [e, show List.getD (SR s.V) (0 + Int.toNat x) [] = Inf.c s.V[x.toNat] by rw [Nat.zero_add, zoq hl], show inB s.V x = true by simp [inB]; omega]
   refine ⟨⟨by omega, by omega⟩, ⟨by rw [z3l]; omega, rfl, rfl⟩, .refl _, rfl⟩
def valS (s : Sto) (t : Tm) : Tm := (infOf s.V t.n).v
def valB (s : Sto) (t : Tm) : Bool := t.k == 4 && (infOf s.V t.n).bd
theorem zo7 (s : Sto) (t : Tm) : AC Tryz.prog 146 [aS 0, aT t] (oS s) (.tup [(true, cT (valS s t)), (false, [.a (.fz (.bool (valB s t)))])]) (oS s) := by
 have hi := z7r s t.n
 obtain ⟨k, str, n, l⟩ := t
 refine AC.vc hP sh lv146 (Nat.le_refl _) (by simp [isLive]) (by simp) (Eq.mpr (v146 k str n (FTs l) ..) ?_)
 have out : inB s.V n = false → (infOf s.V n).bd = false := fun h => by
  rw [z1n (by simp [inB] at h; omega)]
 refine ⟨(_, _, _, _), hi, z00 (fun h => z00 (fun h' => ?_) (fun h' => ?_)) (fun h => ?_)⟩
 · refine ⟨?_, rfl⟩
   show TV.Le _ (.tup [(true, cT (infOf s.V n).v), (false, [.a (.fz (.bool (k == 4 && (infOf s.V n).bd)))])])
   rw [show (k == 4) = true from h]; exact .refl _
 · refine ⟨?_, rfl⟩
   show TV.Le _ (.tup [(true, cT (infOf s.V n).v), (false, [.a (.fz (.bool (k == 4 && (infOf s.V n).bd)))])])
   rw [out h', Bool.and_false]; exact .refl _
 · refine ⟨?_, rfl⟩
   show TV.Le _ (.tup [(true, cT (infOf s.V n).v), (false, [.a (.fz (.bool (k == 4 && (infOf s.V n).bd)))])])
   rw [show (k == 4) = false from h]; exact .refl _
def OKV (v : Tm) : Prop := validB v = true ∧ v.sz ≤ 40000 ∧ bd 2199023255552 v
def OKS (s : Sto) : Prop := ∀ i ∈ s.V, i.bd = true → OKV i.v
theorem OKS.val {s : Sto} (h : OKS s) {t : Tm} (hb : valB s t = true) : OKV (valS s t) := by
 simp only [valB, Bool.and_eq_true] at hb
 by_cases q : 0 ≤ t.n ∧ t.n < (s.V.length : Int)
 · obtain ⟨hl, e⟩ := z1k q.1 q.2
   rw [valS, e]
   rw [e] at hb
   exact h _ (List.getElem_mem hl) hb.2
 · rw [z1n q] at hb; simp [noI] at hb
def z0b (s : Sto) (t : Tm) : Tm × Int :=
 if valB s t = true then (valS s t, 1) else if t.k ≠ 6 then (t, 0)
 else if valB s (hd t.l) = true then (applyF (valS s (hd t.l)) (t.l.drop 1), 1) else if (hd t.l).k ≠ 5 then (t, 0)
 else (applyF (conF (hd (hd t.l).l) (hd (t.l.drop 1))) (t.l.drop 2), if z3v (hd (hd t.l).l) (hd (t.l.drop 1)) = true then 1 else 2)
theorem zfv (s : Sto) (t : Tm) : (z0b s t).2 = 0 ∨ (z0b s t).2 = 1 ∨ (z0b s t).2 = 2 := by
 unfold z0b
 split
 · exact .inr (.inl rfl)
 · split
   · exact .inl rfl
   · split
     · exact .inr (.inl rfl)
     · split
       · exact .inl rfl
       · simp only; split
         · exact .inr (.inl rfl)
         · exact .inr (.inr rfl)
theorem zfx (t : List (List FV)) : List.take (Int.toNat ((t.length : Nat) : Int)) t = t := by rw [Int.toNat_natCast, List.take_of_length_le (Nat.le_refl _)]
theorem aE0 (x : Tm) (l : List Tm) : aE (List.getD (FTs (x :: l)) 0 []) = aT x := zdp x
theorem aE1 (x y : Tm) (l : List Tm) : aE (List.getD (FTs (x :: y :: l)) 1 []) = aT y := zdp y
theorem asI0 (x : Tm) (l : List Tm) : FV.asI (List.getD (List.getD (FTs (x :: l)) 0 []) 0 FV.nils) = x.k := by cases x; rfl
theorem zsj (s : Sto) (hs : OKS s) (t : Tm) (hv : validB t = true) (hz : t.sz ≤ SZ) (hb : bd M61 t) : AC Tryz.prog 129 [aS 0, aT t] (oS s) (aSt (z0b s t).1 (z0b s t).2) (oS s) := by
 have h1 := zo7 s t
 have ok := z02 t hv
 obtain ⟨k, str, n, l⟩ := t
 refine AC.vc hP sh lv129 (Nat.le_refl _) (by simp [isLive]) (by simp) (Eq.mpr (v129 k str n (FTs l) ..) ?_)
 refine ⟨(_, _), h1, z00 (fun h => ?_) (fun h => z00 (fun h6 => ?_) (fun h6 => ?_))⟩
 · have h : valB s (.mk k str n l) = true := h
   rw [z0b, if_pos h]; exact ⟨.refl _, rfl⟩
 · have h : valB s (.mk k str n l) = false := h
   have h6 : k ≠ 6 := by simpa using h6
   rw [z0b, if_neg (by rw [h]; simp), if_pos (show Tm.k (.mk k str n l) ≠ 6 from h6)]; exact ⟨.refl _, rfl⟩
 have h : valB s (.mk k str n l) = false := h
 have h6 : k = 6 := by simpa using h6
 obtain ⟨x, y, r, rfl, hx6, hl⟩ := okB6 ok h6
 simp only [okL, Bool.and_eq_true] at hl
 subst h6
 simp only [Tm.sz, Tm.szs, SZ] at hz
 have szr := Tm.szs_length r
 have bx := hb.2.1
 have by_ := hb.2.2.1
 have h2 := zo7 s x
 have e1 : List.drop 1 (List.take (Int.toNat (((FTs (x :: y :: r)).length : Nat) : Int)) (FTs (x :: y :: r))) = FTs (y :: r) := by rw [zfx]; rfl
 have e2 : List.drop 2 (List.take (Int.toNat (((FTs (x :: y :: r)).length : Nat) : Int)) (FTs (x :: y :: r))) = FTs r := by rw [zfx]; rfl
 rw [e1, e2, aE0, aE1, asI0]
 have len : ∀ n : Nat, n ≤ 2 → ((n : Nat) : Int) ≤ (((FTs (x :: y :: r)).length : Nat) : Int) := fun n hn => by rw [z01]; simp only [List.length_cons]; omega
 have hS : z0b s (.mk 6 str n (x :: y :: r)) = if valB s x = true then (applyF (valS s x) (y :: r), 1) else if x.k ≠ 5 then (.mk 6 str n (x :: y :: r), 0) else (applyF (conF (hd x.l) y) r, if z3v (hd x.l) y = true then 1 else 2) := by
  rw [z0b, if_neg (by rw [h]; simp), if_neg (show ¬ Tm.k (.mk 6 str n (x :: y :: r)) ≠ 6 from fun e => e rfl)]; rfl
 refine ⟨el0 x (y :: r), (_, _), h2, z00 (fun h3 => ⟨rfl, ⟨by omega, len 1 (by omega), Int.le_refl _⟩, _, z3t (valS s x) (y :: r) ?_, ?_⟩) (fun h3 => ⟨el0 x (y :: r), z00 (fun h5 => ?_) (fun h5 => ?_)⟩)⟩
 · have h3 : valB s x = true := h3
   have hv := (hs.val h3).2.1
   have := Tm.szs_length (valS s x).l
   have := (valS s x).sz_eq
   simp only [List.length_cons]; omega
 · have h3 : valB s x = true := h3
   rw [hS, if_pos h3]; exact ⟨.refl _, rfl⟩
 · have h3 : valB s x = false := h3
   have h5 : x.k ≠ 5 := by simpa using h5
   rw [hS, if_neg (by rw [h3]; simp), if_pos h5]; exact ⟨.refl _, rfl⟩
 · have h3 : valB s x = false := h3
   have h5 : x.k = 5 := by simpa using h5
   rw [hS, if_neg (by rw [h3]; simp), if_neg (by rw [h5]; simp)]
   have hvl := z06 hv (.inr rfl)
   have vx := hvl x List.mem_cons_self
   have vy := hvl y (List.mem_cons_of_mem _ List.mem_cons_self)
   obtain ⟨xk, xs, xn, xl⟩ := x
   have h5 : xk = 5 := h5
   subst h5
   obtain ⟨b, rfl, ob⟩ := okB5 hl.1 rfl
   have vb := z06 vx (.inl rfl) b List.mem_cons_self
   simp only [Tm.sz, Tm.szs] at hz
   have hc := zlk b y (by simp only [SZ]; omega) (by simp only [SZ]; omega) bx.2.1 by_
   rw [if_pos (by rw [vb, vy]; rfl)] at hc
   rw [show aE (List.getD (FV.ses (List.getD (List.getD (FTs (.mk 5 xs xn [b] :: y :: r)) 0 []) 3 FV.nils)) 0 []) = aT b from zdp b]
   refine ⟨el0 _ _, el0 b [], el1 _ _ _, (_, _), hc, rfl, ⟨by omega, len 2 (by omega), Int.le_refl _⟩, _, z3t (conF b y) r ?_, ?_⟩
   · unfold conF
     split
     · rename_i hr
       have h5 := (zkk ob hl.2.1 hr (by simp only [SZ]; omega)).1
       have hz := suT_sz 0 y b 0
       have h6 := Tm.szs_length (suT 0 y b 0).l
       have h7 := (suT 0 y b 0).sz_eq
       simp only [B] at h5
       omega
     · simp only [Tm.l, List.length_nil]; omega
   · refine ⟨?_, rfl⟩
     show TV.Le (.tup [(true, cT (applyF (conF b y) r)), (false, [.a (.fz (.bool true))]), (false, [.a (.fz (.int .i64 (conE b y)))])]) (aSt (applyF (conF b y) r) (if z3v b y = true then 1 else 2))
     unfold conE
     by_cases q : z3v b y = true
     · rw [if_pos q, if_pos q]; exact .refl _
     · rw [if_neg q, if_neg q]; exact .refl _
end Go.AM

set_option maxRecDepth 100000
open Go Go.Proofs
namespace Go.AM
theorem z8c {F : Nat} {s : Sto} {t : Tm} (hs : OKS s) (hv : validB t = true) (hf : Fit (F + 1) t) (h : (z0b s t).2 = 1) : validB (z0b s t).1 = true ∧ Fit F (z0b s t).1 := by
 have hM : (2199023255552 : Int) ≤ M61 - SZ - SZ * F := by have := hf.2.2.2; simp only [M61, SZ]; omega
 have hval : ∀ u, valB s u = true → validB (valS s u) = true ∧ okB (valS s u) = true ∧ lvB (valS s u) = true ∧ (valS s u).sz ≤ 40000 ∧ bd (M61 - SZ - SZ * F) (valS s u) := fun u hu => by
  have := hs.val hu
  exact ⟨this.1, z02 _ this.1, z26 this.1, this.2.1, z5d hM _ this.2.2⟩
 have hF := hf.2.1
 have hF4 := hf.2.2.2
 unfold z0b at h ⊢
 split
 · rename_i q
   obtain ⟨v1, v2, v3, v4, v5⟩ := hval _ q
   exact ⟨v1, v2, by simp only; omega, v5, by omega⟩
 rename_i q
 rw [if_neg q] at h
 split
 · rename_i q2; rw [if_pos q2] at h; simp at h
 rename_i q2
 rw [if_neg q2] at h
 have ok := z02 t hv
 obtain ⟨k, str, n, l⟩ := t
 have h6 : k = 6 := by
  by_cases e : k = 6
  · exact e
  · exact absurd e q2
 obtain ⟨x, y, r, rfl, hx6, hl⟩ := okB6 ok h6
 subst h6
 simp only [okL, Bool.and_eq_true] at hl
 have kv := z06 hv (.inr rfl)
 have hb := z5d (M' := M61 - SZ - SZ * F) (by simp only [SZ]; omega) _ hf.2.2.1
 simp only [Tm.sz, Tm.szs] at hF
 have lvr : lvL r = true := zbi fun u hu => z26 (kv u (List.mem_cons_of_mem _ (List.mem_cons_of_mem _ hu)))
 have ey : Tm.l (.mk 6 str n (x :: y :: r)) = x :: y :: r := rfl
 have eh : hd (x :: y :: r) = x := rfl
 have e1 : List.drop 1 (x :: y :: r) = y :: r := rfl
 have e2 : List.drop 2 (x :: y :: r) = r := rfl
 have ehy : hd (y :: r) = y := rfl
 simp only [ey, eh, e1, e2, ehy] at h ⊢
 split
 · rename_i q3
   obtain ⟨v1, v2, v3, v4, v5⟩ := hval _ q3
   have ok2 : okB (applyF (valS s x) (y :: r)) = true := z4i v2 (by simp only [okL, hl.2.1, hl.2.2, Bool.and_self])
   have lv2 : lvB (applyF (valS s x) (y :: r)) = true := z46 v3 (by simp only [lvL, lvr, z26 (kv y (List.mem_cons_of_mem _ List.mem_cons_self)), Bool.and_self])
   have z := z2m (valS s x) (y :: r)
   simp only [Tm.szs] at z
   refine ⟨by rw [z1p, ok2, lv2]; rfl, ok2, by simp only; omega, z2n v5 (show bds _ (y :: r) from ⟨hb.2.2.1, hb.2.2.2⟩), by omega⟩
 rename_i q3
 rw [if_neg q3] at h
 split
 · rename_i q4; rw [if_pos q4] at h; simp at h
 rename_i q4
 rw [if_neg q4] at h
 obtain ⟨xk, xs, xn, xl⟩ := x
 have h5 : xk = 5 := by
  by_cases e : xk = 5
  · exact e
  · exact absurd e q4
 subst h5
 obtain ⟨b, rfl, ob⟩ := okB5 hl.1 rfl
 have room : z3v b y = true := by
  by_cases e : z3v b y = true
  · exact e
  · exfalso
    have h : (if z3v b y = true then (1 : Int) else 2) = 1 := h
    rw [if_neg e] at h; cases h
 have hst : z3y (.mk 6 str n (.mk 5 xs xn [b] :: y :: r)) = (applyF (suT 0 y b 0) r, 1) := by
  rw [z3y, if_pos (zn4 str xs n xn b y r)]; exact if_pos room
 have e3 : conF (hd (Tm.l (.mk 5 xs xn [b]))) y = suT 0 y b 0 := by show conF b y = _; rw [conF, if_pos room]
 rw [e3]
 have hn := hf.next (by rw [hst])
 have hlv := zmp (M61 - SZ - SZ * ((F + 1 : Nat) : Int)) (by simp only [M61, SZ]; omega) _ ok hf.sz hf.2.2.1 (z26 hv) (by rw [hst])
 rw [hst] at hn hlv
 exact ⟨by rw [z1p, hn.1, hlv]; rfl, hn⟩
def runH (s : Sto) : Nat → Tm → Tm × Int × Nat
 | 0, t => if (z0b s t).2 = 0 then (t, 0, 0) else (noT, 80, 0)
 | F + 1, t => if (z0b s t).2 = 0 then (t, 0, 0) else if (z0b s t).2 = 2 then (noT, 80, 0) else ((runH s F (z0b s t).1).1, (runH s F (z0b s t).1).2.1, (runH s F (z0b s t).1).2.2 + 1)
theorem z50 {s : Sto} (hs : OKS s) : ∀ {F : Nat} {t : Tm}, validB t = true → Fit F t → (runH s F t).2.2 ≤ F ∧ ((runH s F t).2.1 = 0 ∧ validB (runH s F t).1 = true ∧ Fit (F - (runH s F t).2.2) (runH s F t).1 ∧ (z0b s (runH s F t).1).2 = 0 ∨ (runH s F t).2.1 = 80 ∧ (runH s F t).1 = noT)
 | 0, t, hv, hf => by
  rw [runH]
  split
  · rename_i h; exact ⟨Nat.le_refl _, .inl ⟨rfl, hv, hf, h⟩⟩
  · exact ⟨Nat.le_refl _, .inr ⟨rfl, rfl⟩⟩
 | F + 1, t, hv, hf => by
  rw [runH]
  split
  · rename_i h; exact ⟨Nat.zero_le _, .inl ⟨rfl, hv, hf, h⟩⟩
  · rename_i h0
    split
    · exact ⟨Nat.zero_le _, .inr ⟨rfl, rfl⟩⟩
    · rename_i h2
      have h1 : (z0b s t).2 = 1 := by rcases zfv s t with q | q | q; · exact absurd q h0
                                      · exact q
                                      · exact absurd q h2
      obtain ⟨v, f⟩ := z8c hs hv hf h1
      have := z50 hs v f
      refine ⟨by simp only; omega, ?_⟩
      rcases this.2 with ⟨a, b, c, d⟩ | ⟨a, b⟩
      · exact .inl ⟨a, b, by simp only; rw [show F + 1 - ((runH s F (z0b s t).1).2.2 + 1) = F - (runH s F (z0b s t).1).2.2 by omega]; exact c, d⟩
      · exact .inr ⟨a, b⟩
theorem l_shead (s : Sto) (hs : OKS s) : ∀ (F : Nat) (f : Int) (t : Tm), f.toNat = F → 0 - 9223372036854775808 ≤ f → validB t = true → Fit F t →
  RPt Tryz.prog 101 4 (aTE (runH s F t).1 (runH s F t).2.1) (oSf s (f - ((runH s F t).2.2 : Int))) 1
   ⟨[(0, aS 0), (2, .c (.a (.ep 3 1 0 0))), (4, .c (.a (.ep 4 4 0 0))), (6, .c (.a (.ep 5 4 0 0)))], [(0, sto2 1 2 s), (1, .arz 6 (SR s.V)), (2, .arz 1 (IR s.T)), (3, obj1 f), (4, .arr 4 [cT t]), (5, .arr 4 [zT])], 6⟩ := by
 intro F
 induction F with
 | zero =>
  intro f t hf hf0 hv hfit
  have hc := zsj s hs t hv hfit.sz hfit.bd
  have hr : runH s 0 t = if (z0b s t).2 = 0 then (t, 0, 0) else (noT, 80, 0) := rfl
  rw [hr]
  obtain ⟨k, str, n, l⟩ := t
  refine RPt.vc hP sh ztw (Eq.mpr (zvb s.V.length s.T.length (SR s.V) (IR s.T) f k str n (FTs l) 0 [] 0 _ _) ?_)
  refine ⟨(_, _, _), hc, z00 (fun h => ?_) (fun h => z00 (fun h2 => ?_) (fun h2 => z00 (fun h3 => ?_) (fun h3 => absurd (of_decide_eq_false h3) (by omega))))⟩
  · have h : (z0b s (.mk k str n l)).2 = 0 := by have h : (!((z0b s (.mk k str n l)).2 != 0)) = true := h; simpa using h
    rw [if_pos h]
    exact ⟨.refl _, by simp⟩
  · have h : ¬ (z0b s (.mk k str n l)).2 = 0 := by have h : (!((z0b s (.mk k str n l)).2 != 0)) = false := h; simpa using h
    rw [if_neg h]
    exact ⟨leTE (l := []) z0r, by simp⟩
  · have h : ¬ (z0b s (.mk k str n l)).2 = 0 := by have h : (!((z0b s (.mk k str n l)).2 != 0)) = false := h; simpa using h
    rw [if_neg h]
    exact ⟨leTE (l := []) z0r, by simp⟩
 | succ F ih =>
  intro f t hf hf0 hv hfit
  have hc := zsj s hs t hv hfit.sz hfit.bd
  have hr : runH s (F + 1) t = if (z0b s t).2 = 0 then (t, 0, 0) else if (z0b s t).2 = 2 then (noT, 80, 0) else ((runH s F (z0b s t).1).1, (runH s F (z0b s t).1).2.1, (runH s F (z0b s t).1).2.2 + 1) := rfl
  rw [hr]
  have hF4 := hfit.2.2.2
  have next : ¬ (z0b s t).2 = 0 → ¬ (z0b s t).2 = 2 → _ := fun h0 h2 => by
   have h1 : (z0b s t).2 = 1 := by rcases zfv s t with q | q | q; · exact absurd q h0
                                   · exact q
                                   · exact absurd q h2
   obtain ⟨v, ff⟩ := z8c hs hv hfit h1
   exact ih (f - 1) (z0b s t).1 (by omega) (by omega) v ff
  obtain ⟨k, str, n, l⟩ := t
  refine RPt.vc hP sh ztw (Eq.mpr (zvb s.V.length s.T.length (SR s.V) (IR s.T) f k str n (FTs l) 0 [] 0 _ _) ?_)
  rw [w64 (x := f - 1) (by omega) (by omega)]
  refine ⟨(_, _, _), hc, z00 (fun h => ?_) (fun h => z00 (fun h2 => ?_) (fun h2 => z00 (fun h3 => absurd (of_decide_eq_true h3) (by omega)) (fun h3 => ?_)))⟩
  · have h : (z0b s (.mk k str n l)).2 = 0 := by have h : (!((z0b s (.mk k str n l)).2 != 0)) = true := h; simpa using h
    rw [if_pos h]
    exact ⟨.refl _, by simp⟩
  · have h : ¬ (z0b s (.mk k str n l)).2 = 0 := by have h : (!((z0b s (.mk k str n l)).2 != 0)) = false := h; simpa using h
    have h2 : (z0b s (.mk k str n l)).2 = 2 := by
     by_cases q : (z0b s (.mk k str n l)).2 = 2
     · exact q
     · have h2 : ((if (z0b s (.mk k str n l)).2 = 2 then (80 : Int) else 0) != 0) = true := h2
       rw [if_neg q] at h2; cases h2
    rw [if_neg h, if_pos h2]
    exact ⟨leTE (l := []) z0r, by simp⟩
  · have h : ¬ (z0b s (.mk k str n l)).2 = 0 := by have h : (!((z0b s (.mk k str n l)).2 != 0)) = false := h; simpa using h
    have h2 : ¬ (z0b s (.mk k str n l)).2 = 2 := fun q => by
     have h2 : ((if (z0b s (.mk k str n l)).2 = 2 then (80 : Int) else 0) != 0) = false := h2
     rw [if_pos q] at h2; cases h2
    rw [if_neg h, if_neg h2]
    have := next h h2
    rw [show f - 1 - (((runH s F (z0b s (.mk k str n l)).1).2.2 : Nat) : Int) = f - (((runH s F (z0b s (.mk k str n l)).1).2.2 + 1 : Nat) : Int) by omega] at this
    exact this
theorem zrc (s : Sto) (hs : OKS s) (F : Nat) (f : Int) (t : Tm) (hF : f.toNat = F) (h0 : 0 - 9223372036854775808 ≤ f) (hv : validB t = true) (hf : Fit F t) :
  AC Tryz.prog 101 [aS 0, aT t, .c (.a (.ep 3 1 0 0))] (oSf s f) (aTE (runH s F t).1 (runH s F t).2.1) (oSf s (f - ((runH s F t).2.2 : Int))) := by
 have h := l_shead s hs F f t hF h0 hv hf
 obtain ⟨k, str, n, l⟩ := t
 exact AC.vc hP sh ztw (Nat.le_refl _) (by simp [isLive]) (by simp) (Eq.mpr (v101 k str n (FTs l) ..) h)
def z1l (s : Sto) (f : Int) (t : Tm) : Tm × Int × Int :=
 if validB t = true then (if (runH s f.toNat t).2.1 = 0 then ((runH s f.toNat t).1, f - ((runH s f.toNat t).2.2 : Int), 0) else (noT, 0, (runH s f.toNat t).2.1)) else (noT, 0, 1)
abbrev aHd (z : Tm × Int × Int) : TV := .tup [(true, cT z.1), (false, [.a (.fz (.int .i64 z.2.1))]), (false, [.a (.fz (.int .i64 z.2.2))])]
theorem leHd {k n a e : Int} {s : List UInt8} {x : FV} {l : List Tm} (h : FV.Le x (.sl false 4 (FTs l))) : TV.Le (.tup [(true, [.a (.fz (.int .i64 k)), .a (.fz (.str s)), .a (.fz (.int .i64 n)), .a (.fz x)]), (false, [.a (.fz (.int .i64 a))]), (false, [.a (.fz (.int .i64 e))])]) (aHd (.mk k s n l, a, e)) :=
 zt0 ⟨lwT h, lwR _, lwR _, trivial⟩
theorem zl7 (s : Sto) (hs : OKS s) (f : Int) (t : Tm) (h0 : 0 - 9223372036854775808 ≤ f) (hz : t.sz ≤ B) (hf : validB t = true → Fit f.toNat t) :
  AC Tryz.prog 67 [aT t, ci f, .c (.fn (.func 101) [(false, [.ep 0 2 0 0])] [])] (oS s) (aHd (z1l s f t)) (oS s) := by
 have h1 := z36 t hz
 have h2 := fun hv => zrc s hs f.toNat f t rfl h0 hv (hf hv)
 have h3 := fun hv => z50 hs hv (hf hv)
 have hV : z1l s f t = if validB t = true then (if (runH s f.toNat t).2.1 = 0 then ((runH s f.toNat t).1, f - ((runH s f.toNat t).2.2 : Int), 0) else (noT, 0, (runH s f.toNat t).2.1)) else (noT, 0, 1) := rfl
 rw [hV]
 obtain ⟨k, str, n, l⟩ := t
 refine AC.vc hP sh lv67 (Nat.le_refl _) (by simp [isLive]) (by simp) (Eq.mpr (v67_F101 k str n (FTs l) ..) ?_)
 refine ⟨_, h1, z00 (fun h => ?_) (fun h => ⟨(_, _, _), h2 (by simpa using h), z00 (fun h' => ?_) (fun h' => ?_)⟩)⟩
 · rw [if_neg (by simpa using h)]; exact ⟨leHd (l := []) z0r, rfl⟩
 · have h : validB (.mk k str n l) = true := by simpa using h
   have h' : ((runH s f.toNat (.mk k str n l)).2.1 != 0) = true := h'
   rw [if_pos h, if_neg (by simpa using h')]; exact ⟨leHd (l := []) z0r, rfl⟩
 · have h : validB (.mk k str n l) = true := by simpa using h
   have h' : ((runH s f.toNat (.mk k str n l)).2.1 != 0) = false := h'
   rw [if_pos h, if_pos (by simpa using h')]; exact ⟨.refl _, rfl⟩
theorem c_sHead (s : Sto) (hs : OKS s) (f : Int) (t : Tm) (h0 : 0 - 9223372036854775808 ≤ f) (hz : t.sz ≤ B) (hf : validB t = true → Fit f.toNat t) : AC Tryz.prog 91 [aS 0, aT t, ci f] (oS s) (aHd (z1l s f t)) (oS s) := by
 have h := zl7 s hs f t h0 hz hf
 obtain ⟨k, str, n, l⟩ := t
 refine AC.vc hP sh lv91 (Nat.le_refl _) (by simp [isLive]) (by simp) (Eq.mpr (v91 k str n (FTs l) ..) ?_)
 exact ⟨(_, _, _), h, .refl _, rfl⟩
theorem stepS_sz {F : Nat} {s : Sto} {t : Tm} (hs : OKS s) (hv : validB t = true) (hf : Fit (F + 1) t) (h : (z0b s t).2 = 1) : (z0b s t).1.sz ≤ t.sz + 42000 := by
 unfold z0b at h ⊢
 split
 · rename_i q
   have := (hs.val q).2.1
   simp only; omega
 rename_i q
 rw [if_neg q] at h
 split
 · rename_i q2; rw [if_pos q2] at h; simp at h
 rename_i q2
 rw [if_neg q2] at h
 have ok := z02 t hv
 obtain ⟨k, str, n, l⟩ := t
 have h6 : k = 6 := by
  by_cases e : k = 6
  · exact e
  · exact absurd e q2
 obtain ⟨x, y, r, rfl, hx6, hl⟩ := okB6 ok h6
 subst h6
 simp only [okL, Bool.and_eq_true] at hl
 have ey : Tm.l (.mk 6 str n (x :: y :: r)) = x :: y :: r := rfl
 have eh : hd (x :: y :: r) = x := rfl
 have e1 : List.drop 1 (x :: y :: r) = y :: r := rfl
 have e2 : List.drop 2 (x :: y :: r) = r := rfl
 have ehy : hd (y :: r) = y := rfl
 simp only [ey, eh, e1, e2, ehy] at h ⊢
 split
 · rename_i q3
   have v4 := (hs.val q3).2.1
   have z := z2m (valS s x) (y :: r)
   have zx := x.sz_pos
   simp only [Tm.szs, Tm.sz] at z ⊢
   omega
 rename_i q3
 rw [if_neg q3] at h
 split
 · rename_i q4; rw [if_pos q4] at h; simp at h
 rename_i q4
 rw [if_neg q4] at h
 obtain ⟨xk, xs, xn, xl⟩ := x
 have h5 : xk = 5 := by
  by_cases e : xk = 5
  · exact e
  · exact absurd e q4
 subst h5
 obtain ⟨b, rfl, ob⟩ := okB5 hl.1 rfl
 have room : z3v b y = true := by
  by_cases e : z3v b y = true
  · exact e
  · exfalso
    have h : (if z3v b y = true then (1 : Int) else 2) = 1 := h
    rw [if_neg e] at h; cases h
 have hst : z3y (.mk 6 str n (.mk 5 xs xn [b] :: y :: r)) = (applyF (suT 0 y b 0) r, 1) := by
  rw [z3y, if_pos (zn4 str xs n xn b y r)]; exact if_pos room
 have e3 : conF (hd (Tm.l (.mk 5 xs xn [b]))) y = suT 0 y b 0 := by show conF b y = _; rw [conF, if_pos room]
 rw [e3]
 have := (zdh M61 (by simp only [M61]; omega) _ hf.ok hf.sz hf.bd (by rw [hst])).2.1
 rw [hst] at this
 exact this
def z03 (t : Tm) : Tm × List Tm := if t.k = 6 ∧ validB t = true then (hd t.l, t.l.drop 1) else (t, [])
theorem zt6 (t : Tm) (hz : t.sz ≤ B) (h : ¬ (t.k = 6 ∧ validB t = true)) : AC Tryz.prog 92 [aT t] [] (.tup [(true, cT t), (false, [.a (.fz .nils)])]) [] := by
 have h1 := z36 t hz
 obtain ⟨k, str, n, l⟩ := t
 refine AC.vc hP sh lv92 (Nat.le_refl _) (by simp) (by simp) (Eq.mpr (v92 k str n (FTs l) _ _) ?_)
 refine z00 (fun _ => ⟨.refl _, rfl⟩) (fun h6 => ⟨_, h1, z00 (fun _ => ⟨.refl _, rfl⟩) (fun h' => absurd ⟨?_, ?_⟩ h)⟩)
 · have h6 : (k != 6) = false := h6
   show k = 6
   simpa using h6
 · simpa using h'
theorem zqq (t : Tm) (hz : t.sz ≤ B) (h6 : t.k = 6) (hv : validB t = true) : AC Tryz.prog 92 [aT t] [] (.tup [(true, cT (hd t.l)), (false, [.a (.osl 0 4 0 (t.l.drop 1).length)])]) [.arz 4 (FTs (t.l.drop 1))] := by
 have h1 := z36 t hz
 have hlen := Tm.szs_length t.l
 have hsz := t.sz_eq
 obtain ⟨k, str, n, l⟩ := t
 have h6 : k = 6 := h6
 subst h6
 obtain ⟨x, y, r, rfl, hx6, hl⟩ := okB6 (z02 _ hv) rfl
 simp only [Tm.l, List.length_cons, B] at hlen hsz hz
 have hcl := zk9.1 (FTs (y :: r)) (by simp [FTs]) (by rw [z01]; simp only [List.length_cons, B]; omega)
 have e1 : List.drop 1 (List.take (Int.toNat (((FTs (x :: y :: r)).length : Nat) : Int)) (FTs (x :: y :: r))) = FTs (y :: r) := by rw [zfx]; rfl
 refine AC.vc hP sh lv92 (by simp) (by simp) (by simp [isLive]) (Eq.mpr (v92 6 str n (FTs (x :: y :: r)) _ _) ?_)
 rw [e1]
 refine z00 (fun h => by cases h) (fun _ => ⟨_, h1, z00 (fun h' => absurd hv (by simpa using h')) (fun _ => ?_)⟩)
 refine ⟨el0 x (y :: r), rfl, ⟨by omega, by rw [z01]; simp only [List.length_cons]; omega, Int.le_refl _⟩, .inr ⟨_, hcl, ?_, rfl⟩⟩
 rw [show cE (List.getD (FTs (x :: y :: r)) 0 []) = cT x from cE_FT x, z01]
 exact .refl _
end Go.AM

set_option maxRecDepth 100000
open Go Go.Proofs
namespace Go.AM
abbrev oS' (s : Sto) : List AObj := [sto2 3 4 s, .gone, .gone, .arz 6 (SR s.V), .arz 1 (IR s.T)]
def freshS (s : Sto) (lv : Int) : Sto := ⟨s.V ++ [⟨z0i [lv, 0], false, noT⟩], s.T⟩
theorem z6x (l : List Int) : (IR l).length = l.length := by simp [IR]
theorem zp4 (a b : List Int) : IR (a ++ b) = IR a ++ IR b := by simp [IR]
theorem zmz {n : Nat} {fs gs : List (List FV)} (hl : gs.length = fs.length) (h : ∀ (i : Nat) (e e' : List FV), fs[i]? = some e → gs[i]? = some e' → LeR e e') : OLe (.arz n fs) (.arz n gs) :=
 .rows n fs gs (by omega) (fun i e e' he he' => (h i e e' he he').length) (fun i j e e' f f' he he' hf hf' => (h i e e' he he').get j f f' hf hf')
theorem zsz {n : Nat} {a : List (List FV)} {x y : List FV} (h : LeR x y) : OLe (.arz n (a ++ [x])) (.arz n (a ++ [y])) := by
 refine zmz (by simp) fun i e e' he he' => ?_
 by_cases q : i < a.length
 · rw [List.getElem?_append_left q] at he he'
   rw [he] at he'; injection he' with he'; subst he'; exact LeR.refl _
 · rw [List.getElem?_append_right (by omega)] at he he'
   cases hi : i - a.length with
   | zero => rw [hi] at he he'; simp at he he'; subst he; subst he'; exact h
   | succ k => rw [hi] at he; simp at he
theorem ole_set {n i : Nat} {a : List (List FV)} {x y : List FV} (h : LeR x y) : OLe (.arz n (a.set i x)) (.arz n (a.set i y)) := by
 refine zmz (by simp) fun j e e' he he' => ?_
 rw [List.getElem?_set] at he he'
 split at he
 · rename_i q
   rw [if_pos q] at he'
   split at he
   · rename_i q2; rw [if_pos q2] at he'; injection he with he; injection he' with he'; subst he; subst he'; exact h
   · cases he
 · rename_i q
   rw [if_neg q] at he'
   rw [he] at he'; injection he' with he'; subst he'; exact LeR.refl _
theorem zmf (s : Sto) (lv : Int) (h : s.V.length ≤ 1073741824) : AC Tryz.prog 35 [aS 0, ci lv] (oS s) (ci (s.V.length : Int)) (oS' (freshS s lv)) := by
 have hrow : LeR [.int .i64 (z0i [lv, 0]), .bool false, .int .i64 0, .str [], .int .i64 0, .nils] (Inf.c ⟨z0i [lv, 0], false, noT⟩) := ⟨.refl _, .refl _, .refl _, .refl _, .refl _, z0r, trivial⟩
 have hV : (freshS s lv).V.length = s.V.length + 1 := by simp [freshS]
 refine AC.obj (Hs' := [.arr 2 [[.a (.osl 3 6 0 (s.V.length + 1)), .a (.osl 4 1 0 s.T.length)]], .gone, .gone, .arz 6 (SR s.V ++ [[.int .i64 (z0i [lv, 0]), .bool false, .int .i64 0, .str [], .int .i64 0, .nils]]), .arz 1 (IR s.T)]) ?_ ⟨by rw [sto2, hV]; exact .refl _, .refl _, .refl _, ?_, .refl _, trivial⟩
 · refine AC.vc hP sh lv35 (by simp) (by simp [isLive]) (by simp [isLive]) (Eq.mpr (v35 ..) ?_)
   rw [w64 (x := (((s.V.length + 1 : Nat) : Int) - 1)) (by omega) (by omega), List.take_of_length_le (by rw [z3l]; omega)]
   exact ⟨by omega, ⟨by rw [z3l]; omega, by unfold z0k; omega⟩, by rw [show (((s.V.length + 1 : Nat) : Int) - 1) = (s.V.length : Int) by omega]; exact .refl _, rfl⟩
 · show OLe _ (.arz 6 (SR (s.V ++ [⟨z0i [lv, 0], false, noT⟩])))
   rw [zhs]
   exact zsz hrow
theorem c_rfresh (s : Sto) (lv : Int) (h : s.V.length ≤ 1073741824) : AC Tryz.prog 46 [aS 0, ci lv] (oS s) (ci (s.V.length : Int)) (oS' (freshS s lv)) := by
 have hrow : LeR [.int .i64 (z0i [lv, 0]), .bool false, .int .i64 0, .str [], .int .i64 0, .nils] (Inf.c ⟨z0i [lv, 0], false, noT⟩) := ⟨.refl _, .refl _, .refl _, .refl _, .refl _, z0r, trivial⟩
 have hV : (freshS s lv).V.length = s.V.length + 1 := by simp [freshS]
 refine AC.obj (Hs' := [.arr 2 [[.a (.osl 3 6 0 (s.V.length + 1)), .a (.osl 4 1 0 s.T.length)]], .gone, .gone, .arz 6 (SR s.V ++ [[.int .i64 (z0i [lv, 0]), .bool false, .int .i64 0, .str [], .int .i64 0, .nils]]), .arz 1 (IR s.T)]) ?_ ⟨by rw [sto2, hV]; exact .refl _, .refl _, .refl _, ?_, .refl _, trivial⟩
 · refine AC.vc hP sh lv46 (by simp) (by simp [isLive]) (by simp [isLive]) (Eq.mpr (v46 ..) ?_)
   rw [w64 (x := (((s.V.length + 1 : Nat) : Int) - 1)) (by omega) (by omega), List.take_of_length_le (by rw [z3l]; omega)]
   exact ⟨by omega, ⟨by rw [z3l]; omega, by unfold z0k; omega⟩, by rw [show (((s.V.length + 1 : Nat) : Int) - 1) = (s.V.length : Int) by omega]; exact .refl _, rfl⟩
 · show OLe _ (.arz 6 (SR (s.V ++ [⟨z0i [lv, 0], false, noT⟩])))
   rw [zhs]
   exact zsz hrow
def z3z (s : Sto) (x : Int) (t : Tm) : Bool := inB s.V x && (!(infOf s.V x).bd && (validB t && decide (looseF t 0 0 ≤ 0)))
def bindS (s : Sto) (x : Int) (t : Tm) : Sto := if z3z s x t = true then ⟨s.V.set x.toNat ⟨(infOf s.V x).lv, true, t⟩, s.T ++ [x]⟩ else s
def zox (s : Sto) (x : Int) (t : Tm) : Int := if z3z s x t = true then 0 else 1
theorem z49 {s : Sto} {x : Int} {t : Tm} (h : z3z s x t = false) : bindS s x t = s ∧ zox s x t = 1 := by
 unfold bindS zox; rw [h]; exact ⟨rfl, rfl⟩
theorem z25 {s : Sto} {x : Int} {t : Tm} (h : z3z s x t = true) : bindS s x t = ⟨s.V.set x.toNat ⟨(infOf s.V x).lv, true, t⟩, s.T ++ [x]⟩ ∧ zox s x t = 0 := by
 unfold bindS zox; rw [h]; exact ⟨rfl, rfl⟩
theorem inB_of {V : List Inf} {x : Int} (h0 : 0 ≤ x) (h1 : x < (V.length : Int)) : inB V x = true := by simp [inB]; omega
theorem zm5 {s : Sto} {x : Int} {t : Tm} (hb : z3z s x t = true) (h0 : 0 ≤ x) (h1 : x < (s.V.length : Int)) {e : List FV} (he : LeR e (Inf.c ⟨(infOf s.V x).lv, true, t⟩)) :
  All2 OLe [.arr 2 [[.a (.osl 3 6 0 s.V.length), .a (.osl 4 1 0 (s.T.length + 1))]], .gone, .gone, .arz 6 (List.set (SR s.V) (0 + x.toNat) e), .arz 1 (IR s.T ++ [[.int .i64 x]])] (oS' (bindS s x t)) := by
 rw [(z25 hb).1]
 refine ⟨by rw [sto2, List.length_set, List.length_append]; exact .refl _, .refl _, .refl _, ?_, ?_, trivial⟩
 · show OLe _ (.arz 6 (SR (s.V.set x.toNat _)))
   rw [show SR (s.V.set x.toNat ⟨(infOf s.V x).lv, true, t⟩) = List.set (SR s.V) (0 + x.toNat) (Inf.c ⟨(infOf s.V x).lv, true, t⟩) by rw [Nat.zero_add, SR, SR, List.map_set]]
   exact ole_set he
 · show OLe _ (.arz 1 (IR (s.T ++ [x])))
   rw [zp4]; exact .refl _
theorem zsd (s : Sto) (x : Int) (t : Tm) (hT : s.T.length ≤ 1073741824) (hz : t.sz ≤ B) (hb : bd M61 t) : AC Tryz.prog 47 [aS 0, ci x, aT t] (oS s) (ci (zox s x t)) (oS' (bindS s x t)) := by
 have h1 := z7r s x
 have h2 := z36 t hz
 have h3 := zqz t hz hb
 have hB : z3z s x t = (inB s.V x && (!(infOf s.V x).bd && (validB t && decide (looseF t 0 0 ≤ 0)))) := rfl
 cases hq : z3z s x t with
 | false =>
  rw [(z49 hq).1, (z49 hq).2]
  rw [hq] at hB
  obtain ⟨k, str, n, l⟩ := t
  refine AC.vc hP sh lv47 (by simp) (by simp [isLive]) (by simp [isLive]) (Eq.mpr (v47 x k str n (FTs l) ..) ?_)
  refine ⟨(_, _, _, _), h1, z00 (fun _ => ⟨.refl _, rfl⟩) (fun e1 => z00 (fun _ => ⟨.refl _, rfl⟩) (fun e2 => ⟨_, h2, z00 (fun _ => ⟨.refl _, rfl⟩) (fun e3 => ⟨_, h3, z00 (fun _ => ⟨.refl _, rfl⟩) (fun e4 => ?_)⟩)⟩))⟩
  exfalso
  have e1 : (!(inB s.V x)) = false := e1
  have e1 : inB s.V x = true := by cases h : inB s.V x; · rw [h] at e1; cases e1
                                   · rfl
  have e2 : (infOf s.V x).bd = false := e2
  have e3 : validB (.mk k str n l) = true := by simpa using e3
  rw [e1, e2, e3, decide_eq_true (by have := of_decide_eq_false e4; omega)] at hB
  cases hB
 | true =>
  rw [(z25 hq).2]
  have hq' := hq
  rw [hB] at hq'
  simp only [Bool.and_eq_true, Bool.not_eq_true', decide_eq_true_eq] at hq'
  obtain ⟨g1, g2, g3, g4⟩ := hq'
  have g1' : 0 ≤ x ∧ x < (s.V.length : Int) := by simp [inB] at g1; omega
  refine AC.obj (Hs' := [.arr 2 [[.a (.osl 3 6 0 s.V.length), .a (.osl 4 1 0 (s.T.length + 1))]], .gone, .gone, .arz 6 (List.set (SR s.V) (0 + x.toNat) [.int .i64 (infOf s.V x).lv, .bool true, .int .i64 t.k, .str t.s, .int .i64 t.n, .sl false 4 (FTs t.l)]), .arz 1 (IR s.T ++ [[.int .i64 x]])]) ?_ (zm5 hq g1'.1 g1'.2 (show LeR [.int .i64 (infOf s.V x).lv, .bool true, .int .i64 t.k, .str t.s, .int .i64 t.n, .sl false 4 (FTs t.l)] (Inf.c ⟨(infOf s.V x).lv, true, t⟩) from LeR.refl _))
  obtain ⟨hl, ei⟩ := z1k g1'.1 g1'.2
  obtain ⟨k, str, n, l⟩ := t
  refine AC.vc hP sh lv47 (by simp) (by simp [isLive]) (by simp [isLive]) (Eq.mpr (v47 x k str n (FTs l) ..) ?_)
  refine ⟨(_, _, _, _), h1, z00 (fun e => by have e : (!(inB s.V x)) = true := e; rw [g1] at e; cases e) (fun _ => z00 (fun e => by have e : (infOf s.V x).bd = true := e; rw [g2] at e; cases e) (fun _ => ⟨_, h2, z00 (fun e => by rw [g3] at e; cases e) (fun _ => ⟨_, h3, z00 (fun e => absurd (of_decide_eq_true e) (by omega)) (fun _ => ⟨g1', ⟨by rw [z3l]; omega, ?_⟩, by omega, ⟨by rw [z6x]; omega, by unfold z0k; omega⟩, .refl _, ?_⟩)⟩)⟩))⟩
  · rw [Nat.zero_add, zoq hl]; rfl
  · rw [List.take_of_length_le (by rw [z6x]; omega)]; rfl
theorem zpa (t : Tm) (k : Int) : 0 ≤ z61 t k := by
 obtain ⟨kd, s, n, l⟩ := t
 rw [z61]
 split
 · unfold maxI; split <;> omega
 · split
   · exact za5 _ _
   · exact Int.le_refl _
theorem c_rbind (s : Sto) (x : Int) (t : Tm) (hT : s.T.length ≤ 1073741824) (hz : t.bk ≤ B) (hb : bd M61 t) : AC Tryz.prog 48 [aS 0, ci x, aT t] (oS s) (ci (zox s x t)) (oS' (bindS s x t)) := by
 have h2 := c_rvalid t hz
 have hz' : t.sz ≤ B := Nat.le_trans (Tm.sz_bk t) hz
 have h3 := c_rloose t hz' hb 0 (Int.le_refl _) (by simp only [B] at hz'; omega)
 have hB : z3z s x t = (inB s.V x && (!(infOf s.V x).bd && (validB t && decide (looseF t 0 0 ≤ 0)))) := rfl
 have hloose : looseF t 0 0 = z61 t 0 := by
  rw [zjp t 0 0 (Int.le_refl _)]
  have := zpa t 0
  unfold maxI; split <;> omega
 rw [hloose] at hB
 cases hq : z3z s x t with
 | false =>
  rw [(z49 hq).1, (z49 hq).2]
  rw [hq] at hB
  obtain ⟨k, str, n, l⟩ := t
  refine AC.vc hP sh lv48 (by simp) (by simp [isLive]) (by simp [isLive]) (Eq.mpr (v48 x k str n (FTs l) ..) ?_)
  refine ⟨_, h2, z00 (fun _ => ⟨.refl _, rfl⟩) (fun e1 => z00 (fun _ => ⟨.refl _, rfl⟩) (fun e2 => z00 (fun _ => ⟨.refl _, rfl⟩) (fun e3 => ?_)))⟩
  have e1 := of_decide_eq_false e1
  have e2 := of_decide_eq_false e2
  have g1' : 0 ≤ x ∧ x < (s.V.length : Int) := by omega
  obtain ⟨hl, ei⟩ := z1k g1'.1 g1'.2
  rw [show List.getD (SR s.V) (0 + Int.toNat x) [] = Inf.c s.V[x.toNat] by rw [Nat.zero_add, zoq hl], ← ei]
  refine ⟨g1', ⟨by rw [z3l]; omega, rfl, rfl⟩, z00 (fun _ => ⟨.refl _, rfl⟩) (fun e4 => ⟨_, h3, z00 (fun _ => ⟨.refl _, rfl⟩) (fun e5 => ?_)⟩)⟩
  exfalso
  have e3 : validB (.mk k str n l) = true := by simpa using e3
  have e4 : (infOf s.V x).bd = false := e4
  rw [inB_of g1'.1 g1'.2, e4, e3, decide_eq_true (by have := of_decide_eq_false e5; omega)] at hB
  cases hB
 | true =>
  rw [(z25 hq).2]
  have hq' := hq
  rw [hB] at hq'
  simp only [Bool.and_eq_true, Bool.not_eq_true', decide_eq_true_eq] at hq'
  obtain ⟨g1, g2, g3, g4⟩ := hq'
  have g1' : 0 ≤ x ∧ x < (s.V.length : Int) := by simp [inB] at g1; omega
  refine AC.obj (Hs' := [.arr 2 [[.a (.osl 3 6 0 s.V.length), .a (.osl 4 1 0 (s.T.length + 1))]], .gone, .gone, .arz 6 (List.set (SR s.V) (0 + x.toNat) [.int .i64 (infOf s.V x).lv, .bool true, .int .i64 t.k, .str t.s, .int .i64 t.n, .sl false 4 (FTs t.l)]), .arz 1 (IR s.T ++ [[.int .i64 x]])]) ?_ (zm5 hq g1'.1 g1'.2 (show LeR [.int .i64 (infOf s.V x).lv, .bool true, .int .i64 t.k, .str t.s, .int .i64 t.n, .sl false 4 (FTs t.l)] (Inf.c ⟨(infOf s.V x).lv, true, t⟩) from LeR.refl _))
  obtain ⟨hl, ei⟩ := z1k g1'.1 g1'.2
  obtain ⟨k, str, n, l⟩ := t
  refine AC.vc hP sh lv48 (by simp) (by simp [isLive]) (by simp [isLive]) (Eq.mpr (v48 x k str n (FTs l) ..) ?_)
  rw [show List.getD (SR s.V) (0 + Int.toNat x) [] = Inf.c s.V[x.toNat] by rw [Nat.zero_add, zoq hl], ← ei]
  have hm : (0 + x.toNat) < (SR s.V).length := by rw [z3l]; omega
  refine ⟨_, h2, z00 (fun e => absurd (of_decide_eq_true e) (by omega)) (fun _ => z00 (fun e => absurd (of_decide_eq_true e) (by omega)) (fun _ => z00 (fun e => by rw [g3] at e; cases e) (fun _ => ⟨g1', ⟨hm, rfl, rfl⟩, z00 (fun e => by rw [show (infOf s.V x).bd = true from e] at g2; cases g2) (fun _ => ⟨_, h3, z00 (fun e => absurd (of_decide_eq_true e) (by omega)) (fun _ => ⟨g1', ⟨hm, rfl, rfl⟩, g1', ⟨hm, rfl⟩, by omega, ⟨by rw [z6x]; omega, by unfold z0k; omega⟩, .refl _, ?_⟩)⟩)⟩)))⟩
  rw [List.take_of_length_le (by rw [z6x]; omega)]; rfl
end Go.AM

set_option maxRecDepth 100000
open Go Go.Proofs
namespace Go.AM
def OKT (s : Sto) : Prop := ∀ x ∈ s.T, 0 ≤ x ∧ x < (s.V.length : Int)
end Go.AM

set_option maxRecDepth 100000
open Go Go.Proofs
namespace Go.AM
def z0h (fu : Int → Tm → Tm × Int × Int) : Bool → List Tm → Int → List Tm × Int × Int
 | _, [], g => ([], 0, g)
 | true, t :: l, g => (t :: (z0h fu false l g).1, (z0h fu false l g).2)
 | false, t :: l, g => if (fu g t).2.1 ≠ 0 then ([], (fu g t).2) else ((fu g t).1 :: (z0h fu false l (fu g t).2.2).1, (z0h fu false l (fu g t).2.2).2)
def z7a (h : Tm) (r : List Tm × Int × Int) : Tm × Int × Int := if r.2.1 ≠ 0 then (noT, r.2) else (.mk h.k h.s h.n r.1, r.2)
def zce (fu : Int → Tm → Tm × Int × Int) (q : Tm × Int × Int) : Tm × Int × Int := if q.2.1 ≠ 0 then (noT, q.2) else z7a q.1 (z0h fu (q.1.k == 6) q.1.l q.2.2)
def z5h (s : Sto) (f : Int) (t : Tm) : Tm × Int × Int := ((runH s f.toNat t).1, (runH s f.toNat t).2.1, f - ((runH s f.toNat t).2.2 : Int))
def z08 (s : Sto) : Nat → Int → Tm → Tm × Int × Int
 | 0, f, _ => (noT, 80, f)
 | D + 1, f, t => if f ≤ 0 then (noT, 80, f) else zce (z08 s D) (z5h s (f - 1) t)
theorem zg7 (s : Sto) : ∀ (F : Nat) (t : Tm), (runH s F t).2.2 ≤ F
 | 0, t => by
  have hr : runH s 0 t = if (z0b s t).2 = 0 then (t, 0, 0) else (noT, 80, 0) := rfl
  rw [hr]; split <;> exact Nat.le_refl _
 | F + 1, t => by
  have hr : runH s (F + 1) t = if (z0b s t).2 = 0 then (t, 0, 0) else if (z0b s t).2 = 2 then (noT, 80, 0) else ((runH s F (z0b s t).1).1, (runH s F (z0b s t).1).2.1, (runH s F (z0b s t).1).2.2 + 1) := rfl
  rw [hr]
  split
  · exact Nat.zero_le _
  · split
    · exact Nat.zero_le _
    · have := zg7 s F (z0b s t).1; simp only; omega
theorem z73 {fu : Int → Tm → Tm × Int × Int} (h : ∀ g t, 0 ≤ g → 0 ≤ (fu g t).2.2 ∧ (fu g t).2.2 ≤ g) : ∀ (l : List Tm) (sk : Bool) (g : Int), 0 ≤ g → 0 ≤ (z0h fu sk l g).2.2 ∧ (z0h fu sk l g).2.2 ≤ g
 | [], _, g, hg => ⟨hg, Int.le_refl _⟩
 | t :: l, true, g, hg => z73 h l false g hg
 | t :: l, false, g, hg => by
  have h1 := h g t hg
  rw [z0h]
  split
  · exact h1
  · have := z73 h l false _ h1.1
    exact ⟨this.1, by simp only; omega⟩
theorem z22 (s : Sto) : ∀ (D : Nat) (f : Int) (t : Tm), 0 ≤ f → 0 ≤ (z08 s D f t).2.2 ∧ (z08 s D f t).2.2 ≤ f
 | 0, f, t, h => ⟨h, Int.le_refl _⟩
 | D + 1, f, t, h => by
  rw [z08]
  split
  · exact ⟨h, Int.le_refl _⟩
  · have h1 := zg7 s (f - 1).toNat t
    have h2 : 0 ≤ (z5h s (f - 1) t).2.2 ∧ (z5h s (f - 1) t).2.2 ≤ f - 1 := by simp only [z5h]; omega
    unfold zce
    split
    · exact ⟨h2.1, by simp only; omega⟩
    · have h3 := z73 (z22 s D) (z5h s (f - 1) t).1.l ((z5h s (f - 1) t).1.k == 6) _ h2.1
      unfold z7a
      split <;> exact ⟨h3.1, by simp only; omega⟩
abbrev aFT (z : Tm × Int × Int) : TV := aTE z.1 z.2.1
abbrev aEP3 : TV := .c (.a (.ep 3 1 0 0))
abbrev stF (s : Sto) (k : Int) (str : List UInt8) (n : Int) (l0 : List Tm) (g : Int) (l : List Tm) (i : Int) : St :=
 ⟨[(0, aS 0), (2, aEP3), (4, .c (.a (.ep 4 4 0 0))), (6, .c (.a (.ep 5 4 0 0))), (9, .c (.a (.osl 6 4 0 l0.length))), (36, ci l0.length), (37, ci i)],
  [(0, sto2 1 2 s), (1, .arz 6 (SR s.V)), (2, .arz 1 (IR s.T)), (3, obj1 g), (4, .arr 4 [cT (.mk k str n l0)]), (5, .arr 4 [zT]), (6, .arz 4 (FTs l))], 7⟩
theorem zl1 (s : Sto) (k : Int) (str : List UInt8) (n : Int) (l0 : List Tm) (hl0 : l0.length ≤ SZ) (fu : Int → Tm → Tm × Int × Int) (hfu : ∀ g t, 0 ≤ g → 0 ≤ (fu g t).2.2 ∧ (fu g t).2.2 ≤ g) :
  ∀ (b a : List Tm) (sk : Bool) (g : Int), sk = ((k == 6) && (a.length == 0)) → a.length + b.length = l0.length → 0 ≤ g →
  (∀ u ∈ b, ∀ g' : Int, 0 ≤ g' → g' ≤ g → AC Tryz.prog 68 [aS 0, aT u, aEP3] (oSf s g') (aFT (fu g' u)) (oSf s (fu g' u).2.2)) →
  RPt Tryz.prog 68 4 (aFT (z7a (.mk k str n l0) (a ++ (z0h fu sk b g).1, (z0h fu sk b g).2))) (oSf s (z0h fu sk b g).2.2) 1 (stF s k str n l0 g (a ++ b) a.length)
 | [], a, sk, g, hsk, hlen, hg, _ => by
  refine RPt.vc hP sh lv68 (Eq.mpr (v68_1b l0.length l0.length a.length s.V.length s.T.length (SR s.V) (IR s.T) g k str n (FTs l0) 0 [] 0 (FTs (a ++ [])) _ _) ?_)
  simp only [List.length_nil, Nat.add_zero] at hlen
  refine z00 (fun h => absurd (of_decide_eq_true h) (by omega)) (fun _ => ⟨⟨⟨rfl, by rw [z01]; simp; omega⟩, trivial⟩, ?_, rfl⟩)
  rw [List.drop_zero, List.take_of_length_le (by rw [z01]; simp; omega)]
  exact leTE leSl
 | t :: b, a, sk, g, hsk, hlen, hg, ih => by
  simp only [List.length_cons, SZ] at hlen hl0
  have em := z4x a t b
  have h3 := ltI' a t b
  have el : (0 + Int.toNat (a.length : Int)) < (FTs (a ++ t :: b)).length ∧ ((rE (List.getD (FTs (a ++ t :: b)) (0 + Int.toNat (a.length : Int)) []) : List FV) = List.take 4 (List.drop 0 (List.getD (FTs (a ++ t :: b)) (0 + Int.toNat (a.length : Int)) [])) ∧ (4 : Nat) = 4) := by
   rw [Nat.zero_add, em]
   refine ⟨by omega, ?_, rfl⟩
   rw [midI, List.drop_zero, List.take_of_length_le (by rw [z2k]; exact Nat.le_refl _)]
  have el2 : (0 + Int.toNat (a.length : Int)) < (FTs (a ++ t :: b)).length ∧ (List.getD (FTs (a ++ t :: b)) (0 + Int.toNat (a.length : Int)) []).length = 4 := ⟨el.1, by rw [Nat.zero_add, midI]; exact z2k t⟩
  have ea : aE (List.getD (FTs (a ++ t :: b)) (0 + Int.toNat (a.length : Int)) []) = aT t := by rw [Nat.zero_add, z65]
  refine RPt.vc hP sh lv68 (Eq.mpr (v68_1b l0.length l0.length a.length s.V.length s.T.length (SR s.V) (IR s.T) g k str n (FTs l0) 0 [] 0 (FTs (a ++ t :: b)) _ _) ?_)
  rw [ea, w64 (x := (a.length : Int) + 1) (by omega) (by omega)]
  refine z00 (fun _ => ?_) (fun h => absurd (of_decide_eq_false h) (by omega))
  cases sk with
  | true =>
   have hsk : (k == 6) = true ∧ (a.length == 0) = true := by rw [← Bool.and_eq_true]; exact hsk.symm
   have ha : a = [] := List.eq_nil_of_length_eq_zero (by simpa using hsk.2)
   subst ha
   have h2 := zl1 s k str n l0 (by simp only [SZ]; omega) fu hfu b [t] false g (by simp) (by simp at hlen ⊢; omega) hg (fun u hu => ih u (List.mem_cons_of_mem _ hu))
   exact z00 (fun _ => z00 (fun _ => h2) (fun h => by cases h)) (fun h => absurd hsk.1 (by rw [h]; simp))
  | false =>
   have hc := ih t List.mem_cons_self g hg (Int.le_refl _)
   have hq := hfu g t hg
   have go : ((0 : Int) ≤ (a.length : Int) ∧ (a.length : Int) < ((l0.length : Nat) : Int)) := by omega
   have eK : z0h fu false (t :: b) g = if (fu g t).2.1 ≠ 0 then ([], (fu g t).2) else ((fu g t).1 :: (z0h fu false b (fu g t).2.2).1, (z0h fu false b (fu g t).2.2).2) := rfl
   have next := zl1 s k str n l0 (by simp only [SZ]; omega) fu hfu b (a ++ [(fu g t).1]) false (fu g t).2.2 (by simp) (by simp; omega) hq.1 (fun u hu g' h0 h1 => ih u (List.mem_cons_of_mem _ hu) g' h0 (by omega))
   generalize fu g t = z at *
   obtain ⟨z1, z2, z3⟩ := z
   simp only at hc hq eK next
   have step : br (z2 != 0) (TV.Le (.tup [(true, [.a (.fz (.int .i64 0)), .a (.fz (.str [])), .a (.fz (.int .i64 0)), .a (.fz .nils)]), (false, [.a (.fz (.int .i64 z2))])]) (aFT (z7a (.mk k str n l0) (a ++ (z0h fu false (t :: b) g).1, (z0h fu false (t :: b) g).2))) ∧ oSf s z3 = oSf s (z0h fu false (t :: b) g).2.2)
     (RPt Tryz.prog 68 4 (aFT (z7a (.mk k str n l0) (a ++ (z0h fu false (t :: b) g).1, (z0h fu false (t :: b) g).2))) (oSf s (z0h fu false (t :: b) g).2.2) 1 (stF s k str n l0 z3 (a ++ z1 :: b) ((a.length : Int) + 1))) := by
    refine z00 (fun h => ?_) (fun h => ?_)
    · have h : z2 ≠ 0 := by simpa using h
      rw [if_pos h] at eK
      rw [eK, z7a, if_pos h]
      exact ⟨leTE (l := []) z0r, rfl⟩
    · have h : ¬ z2 ≠ 0 := by simpa using h
      rw [if_neg h] at eK
      rw [eK]
      rw [List.append_assoc, ap a z1 b, nx] at next
      exact next
   have tail := step
   rw [show stF s k str n l0 z3 (a ++ z1 :: b) ((a.length : Int) + 1) = ⟨[(0, aS 0), (2, aEP3), (4, .c (.a (.ep 4 4 0 0))), (6, .c (.a (.ep 5 4 0 0))), (9, .c (.a (.osl 6 4 0 l0.length))), (36, ci l0.length), (37, ci ((a.length : Int) + 1))],
  [(0, sto2 1 2 s), (1, .arz 6 (SR s.V)), (2, .arz 1 (IR s.T)), (3, obj1 z3), (4, .arr 4 [cT (.mk k str n l0)]), (5, .arr 4 [zT]), (6, .arz 4 (List.set (FTs (a ++ t :: b)) (0 + Int.toNat (a.length : Int)) (FT4 z1)))], 7⟩ by rw [zsb]] at tail
   have hsk : ((k == 6) && (a.length == 0)) = false := hsk.symm
   refine z00 (fun h6 => z00 (fun h0 => ?_) (fun _ => ⟨go, el, (z1, z2, z3), hc, go, el2, tail⟩)) (fun _ => ⟨go, el, (z1, z2, z3), hc, go, el2, tail⟩)
   exfalso
   have h6 : (k == 6) = true := h6
   have h0 : ((a.length : Int) == 0) = true := h0
   rw [h6, Bool.true_and] at hsk
   simp at hsk h0
   exact hsk h0
theorem c_sfull (s : Sto) (hs : OKS s) : ∀ (D : Nat) (f : Int) (t : Tm), f.toNat ≤ D → 0 - 9223372036854775808 ≤ f → validB t = true → Fit f.toNat t → AC Tryz.prog 68 [aS 0, aT t, aEP3] (oSf s f) (aFT (z08 s D f t)) (oSf s (z08 s D f t).2.2) := by
 intro D
 induction D with
 | zero =>
  intro f t hD h0 hv hf
  obtain ⟨k, str, n, l⟩ := t
  refine AC.vc hP sh lv68 (Nat.le_refl _) (by simp [isLive]) (by simp) (Eq.mpr (v68 k str n (FTs l) ..) ?_)
  exact z00 (fun _ => ⟨leTE (l := []) z0r, rfl⟩) (fun h => absurd (of_decide_eq_false h) (by omega))
 | succ D ihD =>
  intro f t hD h0 hv hf
  by_cases hf0 : f ≤ 0
  · have e : z08 s (D + 1) f t = (noT, 80, f) := by rw [z08, if_pos hf0]
    rw [e]
    obtain ⟨k, str, n, l⟩ := t
    refine AC.vc hP sh lv68 (Nat.le_refl _) (by simp [isLive]) (by simp) (Eq.mpr (v68 k str n (FTs l) ..) ?_)
    exact z00 (fun _ => ⟨leTE (l := []) z0r, rfl⟩) (fun h => absurd (of_decide_eq_false h) (by omega))
  · have hfit := hf.mono (show (f - 1).toNat ≤ f.toNat by omega)
    have hf5 := hf.2.2.2
    have hh := zrc s hs (f - 1).toNat (f - 1) t rfl (by omega) hv hfit
    have hq := z50 hs hv hfit
    have e : z08 s (D + 1) f t = zce (z08 s D) (z5h s (f - 1) t) := by rw [z08, if_neg hf0]
    rw [e]
    have eh : z5h s (f - 1) t = ((runH s (f - 1).toNat t).1, (runH s (f - 1).toNat t).2.1, f - 1 - ((runH s (f - 1).toNat t).2.2 : Int)) := rfl
    rw [eh]
    generalize runH s (f - 1).toNat t = q at *
    obtain ⟨h, er, u⟩ := q
    simp only at hh hq ⊢
    obtain ⟨hu, hq⟩ := hq
    have start : ∀ (r : TV) (o : Int), br (er != 0) (TV.Le (.tup [(true, [.a (.fz (.int .i64 0)), .a (.fz (.str [])), .a (.fz (.int .i64 0)), .a (.fz .nils)]), (false, [.a (.fz (.int .i64 er))])]) r ∧ oSf s (f - 1 - (u : Int)) = oSf s o)
      ((∃ b : Bool, AC Tryz.prog 102 [.c (.a (.fz (.sl false 4 (FTs h.l))))] [] (.c (.a (.fz (.sl b 4 [])))) [] ∧ FV.isSl 4 (.sl b 4 []) = true ∧ RPt Tryz.prog 68 4 r (oSf s o) 1 ⟨[(0, aS 0), (2, aEP3), (4, .c (.a (.ep 4 4 0 0))), (6, .c (.a (.ep 5 4 0 0))), (9, .c (.a (.fz (.sl b 4 [])))), (36, ci 0), (37, ci 0)],
        [(0, sto2 1 2 s), (1, .arz 6 (SR s.V)), (2, .arz 1 (IR s.T)), (3, obj1 (f - 1 - (u : Int))), (4, .arr 4 [cT h]), (5, .arr 4 [zT])], 6⟩) ∨
       (∃ z : List (List FV), AC Tryz.prog 102 [.c (.a (.fz (.sl false 4 (FTs h.l))))] [] (.c (.a (.osl 0 4 0 z.length))) [.arz 4 z] ∧ RPt Tryz.prog 68 4 r (oSf s o) 1 ⟨[(0, aS 0), (2, aEP3), (4, .c (.a (.ep 4 4 0 0))), (6, .c (.a (.ep 5 4 0 0))), (9, .c (.a (.osl 6 4 0 z.length))), (36, ci z.length), (37, ci 0)],
          [(0, sto2 1 2 s), (1, .arz 6 (SR s.V)), (2, .arz 1 (IR s.T)), (3, obj1 (f - 1 - (u : Int))), (4, .arr 4 [cT h]), (5, .arr 4 [zT]), (6, .arz 4 z)], 7⟩)) →
      AC Tryz.prog 68 [aS 0, aT t, aEP3] (oSf s f) r (oSf s o) := fun r o hb => by
     obtain ⟨tk, ts, tn, tl⟩ := t
     refine AC.vc hP sh lv68 (Nat.le_refl _) (by simp [isLive]) (by simp) (Eq.mpr (v68 tk ts tn (FTs tl) ..) ?_)
     rw [w64 (x := f - 1) (by omega) (by omega)]
     exact z00 (fun h => absurd (of_decide_eq_true h) (by omega)) (fun _ => ⟨(h, er, f - 1 - (u : Int)), hh, hb⟩)
    refine start _ _ (z00 (fun he => ?_) (fun he => ?_))
    · have he : er ≠ 0 := by simpa using he
      rw [zce, if_pos he]
      exact ⟨leTE (l := []) z0r, rfl⟩
    · have he : er = 0 := by simpa using he
      subst he
      rcases hq with ⟨_, hvh, hfh, _⟩ | ⟨h80, _⟩
      · have hls : h.l.length ≤ SZ := by have := hfh.sz; have := h.sz_eq; have := Tm.szs_length h.l; omega
        rw [zce, if_neg (by simp)]
        have hg0 : 0 ≤ f - 1 - (u : Int) := by omega
        have kid : ∀ x ∈ h.l, ∀ g' : Int, 0 ≤ g' → g' ≤ f - 1 - (u : Int) → AC Tryz.prog 68 [aS 0, aT x, aEP3] (oSf s g') (aFT (z08 s D g' x)) (oSf s (z08 s D g' x).2.2) := fun x hx g' h0 h1 => by
         have hvx : validB x = true := by
          obtain ⟨hk, hst, hn, hl⟩ := h
          by_cases h5 : hk = 5 ∨ hk = 6
          · exact z06 hvh h5 x hx
          · rw [not_or] at h5
            have := okB0 (z02 _ hvh) h5.1 h5.2
            have hx : x ∈ hl := hx
            rw [this] at hx; cases hx
         exact ihD g' x (by omega) (by omega) hvx ((hfh.kid hx).mono (by omega))
        have loop := zl1 s h.k h.s h.n h.l hls (z08 s D) (z22 s D) h.l [] (h.k == 6) (f - 1 - (u : Int)) (by simp) (by simp) hg0 kid
        obtain ⟨hk, hst, hn, hl⟩ := h
        simp only [Tm.l, Tm.k, Tm.s, Tm.n, List.nil_append] at loop hls ⊢
        have e9 : z7a (.mk hk hst hn hl) ((z0h (z08 s D) (hk == 6) hl (f - 1 - (u : Int))).1, (z0h (z08 s D) (hk == 6) hl (f - 1 - (u : Int))).2) = z7a (.mk hk hst hn hl) (z0h (z08 s D) (hk == 6) hl (f - 1 - (u : Int))) := rfl
        have e8 : (z7a (.mk hk hst hn hl) (z0h (z08 s D) (hk == 6) hl (f - 1 - (u : Int)))).2.2 = (z0h (z08 s D) (hk == 6) hl (f - 1 - (u : Int))).2.2 := by unfold z7a; split <;> rfl
        rw [e8]
        by_cases hnil : hl = []
        · subst hnil
          refine .inl ⟨false, zk9.2, rfl, ?_⟩
          refine RPt.vc hP sh lv68 (Eq.mpr (v68_1a false [] 0 0 s.V.length s.T.length (SR s.V) (IR s.T) (f - 1 - (u : Int)) hk hst hn (FTs []) 0 [] 0 _ _) ?_)
          exact z00 (fun h => by cases h) (fun _ => ⟨.refl _, rfl⟩)
        · refine .inr ⟨FTs hl, zk9.1 (FTs hl) (by rw [z2c]; simp [hnil]) (by rw [z01]; simp only [SZ, B] at *; omega), ?_⟩
          rw [z01]
          exact loop
      · cases h80
end Go.AM
