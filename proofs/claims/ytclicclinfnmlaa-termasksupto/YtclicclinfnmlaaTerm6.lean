/- Contracts: lams, valid. No conditions. -/
import Derived.Test.YtclicclinfnmlaaTerm5
set_option maxRecDepth 100000
open Go Go.Proofs
namespace Go.AM
/-! ### Below abstractions -/
def lamsF : Nat → Tm → Tm
  | 0, t => t
  | n + 1, t => lamsF n (.mk 5 [] 0 [t])
theorem l_lamsb (N : Int) (hN : N ≤ 4294967296) : ∀ (m : Nat) (i k : Int) (s : List UInt8) (n : Int) (rows : List (List FV)) (l : List Tm), 0 ≤ i → i + m = N → FV.Le (.sl true 4 rows) (.sl false 4 (FTs l)) →
    RPt Try.prog 22 0 (aT (lamsF m (.mk k s n l))) [] 1 ⟨[(3, .c (.a (.ep 0 4 0 0))), (4, .c (.a (.ep 1 4 0 0))), (6, ci N), (7, ci i)], [(0, .arr 4 [[.a (.fz (.int .i64 k)), .a (.fz (.str s)), .a (.fz (.int .i64 n)), .a (.fz (.sl true 4 rows))]]), (1, .arr 4 [[.a (.fz (.int .i64 0)), .a (.fz (.str [])), .a (.fz (.int .i64 0)), .a (.fz .nils)]])], 2⟩
  | 0, i, k, s, n, rows, l, h0, hi, hle => by
    refine RPt.vc hP sh lv22 (Eq.mpr (v22_1b ..) ?_)
    refine br_of (fun h => absurd (of_decide_eq_true h) (by omega)) (fun _ => ⟨leT hle, rfl⟩)
  | m + 1, i, k, s, n, rows, l, h0, hi, hle => by
    refine RPt.vc hP sh lv22 (Eq.mpr (v22_1b ..) ?_)
    have h2 := l_lamsb N hN m (i + 1) 5 [] 0 [[.int .i64 k, .str s, .int .i64 n, .sl true 4 rows]] [.mk k s n l] (by omega) (by omega) (leRows rfl fun j r t hr ht => by
      match j, hr, ht with
      | 0, hr, ht =>
        simp only [List.getElem?_cons_zero, Option.some.injEq] at hr ht
        subst hr; subst ht
        exact leFT hle
      | j + 1, hr, _ => simp at hr)
    rw [w64 (x := i + 1) (by omega) (by omega)]
    refine br_of (fun _ => ⟨⟨rfl, by omega⟩, ?_⟩) (fun h => absurd (of_decide_eq_false h) (by omega))
    exact h2
theorem foldMax0 {n : Int} (h : 0 ≤ n) : foldMax [n, 0] = n := by
  rw [foldMax2]; unfold maxI; split <;> omega
theorem c_lams (m : Nat) (t : Tm) (hm : m ≤ 4294967296) : AC Try.prog 22 [ci m, aT t] [] (aT (lamsF m t)) [] := by
  obtain ⟨k, s, n, l⟩ := t
  refine AC.vc hP sh lv22 (Nat.le_refl _) (by simp) (by simp) (Eq.mpr (v22 m k s n (FTs l) _ _) ?_)
  rw [foldMax0 (by omega)]
  refine RPt.vc hP sh lv22 (Eq.mpr (v22_1a ..) ?_)
  match m, hm with
  | 0, _ => exact br_of (fun h => absurd (of_decide_eq_true h) (by omega)) (fun _ => ⟨.refl _, rfl⟩)
  | m + 1, hm =>
    refine br_of (fun _ => ⟨⟨rfl, by omega⟩, ?_⟩) (fun h => absurd (of_decide_eq_false h) (by omega))
    exact l_lamsb ((m + 1 : Nat) : Int) (by omega) m 1 5 [] 0 [[.int .i64 k, .str s, .int .i64 n, .sl false 4 (FTs l)]] [.mk k s n l] (by omega) (by omega) (leRows rfl fun j r t hr ht => by
      match j, hr, ht with
      | 0, hr, ht =>
        simp only [List.getElem?_cons_zero, Option.some.injEq] at hr ht
        subst hr; subst ht
        exact leFT (.refl _)
      | j + 1, hr, _ => simp at hr)

/-! ### What may be -/
mutual
def validB : Tm → Bool
  | .mk k s n l =>
    if (k == 0) = true then (isName s || isSym s) && n == 0 && (((FTs l).length : Nat) : Int) == 0
    else if (k == 1) = true then decide (n ≥ 1) && s == [] && (((FTs l).length : Nat) : Int) == 0 && validL l
    else if (k == 2) = true then s == [] && (((FTs l).length : Nat) : Int) == 0 && validL l
    else if (k == 3) = true then decide (n ≥ 0) && decide (n ≤ 4611686018427387904) && s == [] && (((FTs l).length : Nat) : Int) == 0 && validL l
    else if (k == 4) = true then decide (n ≥ 0) && decide (n ≤ 4611686018427387904) && s == [] && (((FTs l).length : Nat) : Int) == 0 && validL l
    else if (k == 5) = true then n == 0 && s == [] && (((FTs l).length : Nat) : Int) == 1 && validL l
    else if (k == 6) = true then n == 0 && decide ((((FTs l).length : Nat) : Int) ≥ 2) && ((l.headD default).k != 6) && s == [] && validL l
    else false
def validL : List Tm → Bool
  | [] => true
  | t :: l => validB t && validL l
end
def badAt : List Tm → Int → Int
  | [], _ => -1
  | t :: l, i => if validB t = true then badAt l (i + 1) else i
theorem badAt_ge : ∀ (l : List Tm) (i : Int), 0 ≤ i → decide (badAt l i ≥ 0) = !validL l
  | [], _, _ => rfl
  | t :: l, i, h => by
    rw [badAt, validL]
    split
    · rename_i e; rw [badAt_ge l (i + 1) (by omega), e, Bool.true_and]
    · rename_i e; rw [show validB t = false by simpa using e]; simp; omega
theorem l_index : ∀ (b a : List Tm), (∀ u ∈ b, AC Try.prog 61 [aT u] [] (cb (!validB u)) []) → (a ++ b).length ≤ B →
    RPt Try.prog 101 0 (ci (badAt b a.length)) [] 1 ⟨[(0, aL (a ++ b)), (1, .c (.fn (.func 61) [] [])), (7, ci (((FTs (a ++ b)).length : Nat) : Int)), (8, ci a.length)], [], 0⟩
  | [], a, _, _ => by
    refine RPt.vc hP sh lv101 (Eq.mpr (v101_1a ..) ?_)
    exact br_of (fun h => absurd (of_decide_eq_true h) (geI' a)) (fun _ => ret_i rfl)
  | t :: b, a, ih, hl => by
    refine RPt.vc hP sh lv101 (Eq.mpr (v101_1a ..) ?_)
    have hl' := hl
    simp only [List.length_append, List.length_cons, B] at hl'
    have h1 := ih t List.mem_cons_self
    have h2 := l_index b (a ++ [t]) (fun u hu => ih u (List.mem_cons_of_mem _ hu)) (by rw [ap]; exact hl)
    have h3 := ltI' a t b
    rw [ap, nx] at h2
    rw [midI, w64 (x := (a.length : Int) + 1) (by omega) (by omega)]
    refine br_of (fun _ => ?_) (fun h => absurd h3 (of_decide_eq_false h))
    obtain ⟨k', s', n', l'⟩ := t
    refine ⟨⟨rfl, by omega, h3, rfl⟩, _, h1, br_of (fun h => ?_) (fun h => ?_)⟩
    · rw [badAt, if_neg (by simpa using h)]; exact ret_i rfl
    · rw [badAt, if_pos (by simpa using h)]; exact h2
theorem c_contf (l : List Tm) (hl : l.length ≤ B) (ih : ∀ u ∈ l, AC Try.prog 15 [aT u] [] (cb (validB u)) []) : AC Try.prog 60 [aL l, .c (.fn (.func 61) [] [])] [] (cb (!validL l)) [] := by
  have h1 : ∀ u ∈ l, AC Try.prog 61 [aT u] [] (cb (!validB u)) [] := fun u hu => by
    have h := ih u hu
    obtain ⟨k, s, n, l⟩ := u
    refine AC.vc hP sh lv61 (Nat.le_refl _) (by simp) (by simp) (Eq.mpr (v61 k s n (FTs l) _ _) ?_)
    exact ⟨_, h, ret_b rfl⟩
  have h2 : AC Try.prog 101 [aL l, .c (.fn (.func 61) [] [])] [] (ci (badAt l 0)) [] := by
    refine AC.vc hP sh lv101 (Nat.le_refl _) (by simp) (by simp) (Eq.mpr (v101 ..) ?_)
    exact ⟨rfl, l_index l [] h1 hl⟩
  refine AC.vc hP sh lv60 (Nat.le_refl _) (by simp) (by simp) (Eq.mpr (v60 ..) ?_)
  exact ⟨_, h2, ret_b (badAt_ge l 0 (Int.le_refl _))⟩
theorem head0 : ∀ {l : List Tm}, 2 ≤ (((FTs l).length : Nat) : Int) → List.getD (FTs l) 0 [] = FT (l.headD default)
  | [], h => by simp [FTs] at h
  | t :: l, _ => rfl
theorem c_valid : ∀ t : Tm, t.sz ≤ B → AC Try.prog 15 [aT t] [] (cb (validB t)) [] := by
  refine Tm.ind fun t ih hs => ?_
  have hlen := Tm.szs_length t.l
  obtain ⟨k, s, n, l⟩ := t
  simp only [Tm.sz, Tm.l] at hs hlen
  have hc := c_contf l (by omega) fun u hu => ih u hu (by have := Tm.szs_mem hu; omega)
  refine AC.vc hP sh lv15 (Nat.le_refl _) (by simp) (by simp) (Eq.mpr (v15 k s n (FTs l) _ _) ?_)
  refine br_of (fun h0 => ⟨_, c_isname s, br_of (fun h1 => br_of (fun h2 => ⟨rfl, ret_b ?_⟩) (fun h2 => ret_b ?_)) (fun h1 => ⟨_, c_issym s, br_of (fun h1' => br_of (fun h2 => ⟨rfl, ret_b ?_⟩) (fun h2 => ret_b ?_)) (fun h1' => ret_b ?_)⟩)⟩)
    (fun h0 => br_of (fun h1 => br_of (fun h2 => br_of (fun h3 => ⟨rfl, br_of (fun h4 => ⟨_, hc, ret_b ?_⟩) (fun h4 => ret_b ?_)⟩) (fun h3 => ret_b ?_)) (fun h2 => ret_b ?_))
    (fun h1 => br_of (fun h2 => br_of (fun h3 => ⟨rfl, br_of (fun h4 => ⟨_, hc, ret_b ?_⟩) (fun h4 => ret_b ?_)⟩) (fun h3 => ret_b ?_))
    (fun h2 => br_of (fun h3 => br_of (fun h4 => br_of (fun h5 => br_of (fun h6 => ⟨rfl, br_of (fun h7 => ⟨_, hc, ret_b ?_⟩) (fun h7 => ret_b ?_)⟩) (fun h6 => ret_b ?_)) (fun h5 => ret_b ?_)) (fun h4 => ret_b ?_))
    (fun h3 => br_of (fun h3' => br_of (fun h4 => br_of (fun h5 => br_of (fun h6 => ⟨rfl, br_of (fun h7 => ⟨_, hc, ret_b ?_⟩) (fun h7 => ret_b ?_)⟩) (fun h6 => ret_b ?_)) (fun h5 => ret_b ?_)) (fun h4 => ret_b ?_))
    (fun h3' => br_of (fun h5 => br_of (fun h6 => br_of (fun h7 => ⟨rfl, br_of (fun h8 => ⟨_, hc, ret_b ?_⟩) (fun h8 => ret_b ?_)⟩) (fun h7 => ret_b ?_)) (fun h6 => ret_b ?_))
    (fun h5 => br_of (fun h6 => br_of (fun h7 => ⟨rfl, br_of (fun h8 => ?app) (fun h8 => ⟨rfl, ret_b ?_⟩)⟩) (fun h7 => ⟨rfl, ret_b ?_⟩)) (fun h6 => ret_b ?_)))))))
  case app =>
    have h8' := of_decide_eq_true h8
    rw [head0 h8', FT_eta]
    refine ⟨⟨rfl, by omega, by omega, rfl⟩, rfl, br_of (fun h9 => br_of (fun h10 => ⟨rfl, br_of (fun h11 => ⟨_, hc, ret_b ?_⟩) (fun h11 => ret_b ?_)⟩) (fun h10 => ret_b ?_)) (fun h9 => ret_b ?_)⟩
    all_goals (have h9' : ((l.headD default).k != 6) = _ := h9; simp_all [validB])
  all_goals first
    | (simp_all [validB]; done)
    | (simp_all [validB]; intros; omega)
end Go.AM
