/- The contracts of law functions, and the plain laws behind them (Term13). No conditions. -/
import Derived.Test.YtclicclinfnmlaaTerm12
set_option maxRecDepth 100000
open Go Go.Proofs
namespace Go.AM
/-! Size, looseness, variables. -/
theorem l_rsize (kd : Int) (s : List UInt8) (n : Int) (is : Bool) : ∀ (b a : List Tm) (acc : Nat), (∀ u ∈ b, AC Try.prog 29 [aT u] [] (ci (sizeF u)) []) → (a ++ b).length ≤ B → acc + sizeL b ≤ 2 * B →
    RPt Try.prog 29 0 (ci ((acc + (if is = true then sizeL b else 0) : Nat) : Int)) [] 1 ⟨[(1, .c (.a (.ep 0 4 0 0))), (3, ci acc), (4, cb is), (5, ci a.length)], [(0, .arr 4 [fzs (FT (.mk kd s n (a ++ b)))])], 1⟩
  | [], a, acc, _, _, _ => by
    refine RPt.vc hP sh lv29 (Eq.mpr (v29_1a ..) ?_)
    exact ⟨rfl, br_of (fun h => absurd (of_decide_eq_true h) (geI' a)) (fun _ => ret_i (by cases is <;> simp [sizeL]))⟩
  | t :: b, a, acc, ih, hl, ha => by
    have hl' := hl
    simp only [List.length_append, List.length_cons, B] at hl'
    simp only [sizeL, B] at ha
    have h1 := ih t List.mem_cons_self
    have h2 := l_rsize kd s n is b (a ++ [t]) (acc + sizeF t) (fun u hu => ih u (List.mem_cons_of_mem _ hu)) (by rw [ap]; exact hl) (by simp only [B]; omega)
    have h3 := ltI' a t b
    rw [ap, nx] at h2
    refine RPt.vc hP sh lv29 (Eq.mpr (v29_1a ..) ?_)
    rw [midI, w64 (x := (a.length : Int) + 1) (by omega) (by omega)]
    refine ⟨rfl, br_of (fun _ => br_of (fun hk => ?_) (fun hk => ret_i (by rw [hk]; simp))) (fun h => absurd h3 (of_decide_eq_false h))⟩
    rw [hk] at h2 ⊢
    rw [if_pos rfl, sizeL, ← Nat.add_assoc]
    rw [if_pos rfl] at h2
    obtain ⟨k', s', n', l'⟩ := t
    refine ⟨⟨rfl, by omega, h3, rfl⟩, _, h1, ?_⟩
    rw [w64 (by omega) (by omega), show (acc : Int) + ((sizeF (.mk k' s' n' l') : Nat) : Int) = ((acc + sizeF (.mk k' s' n' l') : Nat) : Int) by omega]
    exact h2
theorem c_rsize : ∀ t : Tm, t.sz ≤ B → AC Try.prog 29 [aT t] [] (ci (sizeF t)) [] := by
  refine Tm.ind fun t ih hs => ?_
  have hlen := Tm.szs_length t.l
  have hi := c_rinner t
  obtain ⟨k, s, n, l⟩ := t
  simp only [Tm.sz, Tm.l] at hs hlen
  have hsz := sizeL_le l
  have h := l_rsize k s n (Tm.inner (.mk k s n l)) l [] 1 (fun u hu => ih u hu (by have := Tm.szs_mem hu; omega)) (by simp only [List.nil_append]; omega) (by simp only [B] at hs ⊢; omega)
  rw [show 1 + (if Tm.inner (.mk k s n l) = true then sizeL l else 0) = sizeF (.mk k s n l) from rfl] at h
  refine AC.vc hP sh lv29 (Nat.le_refl _) (by simp) (by simp) (Eq.mpr (v29 k s n (FTs l) _ _) ?_)
  exact ⟨_, hi, h⟩
mutual
def looseR : Tm → Int → Int
  | .mk kd _ n l, k => if (kd == 3) = true then maxI 0 (n - k + 1) else if (kd == 5 || kd == 6) = true then looseRL l (k + if (kd == 5) = true then 1 else 0) else 0
def looseRL : List Tm → Int → Int
  | [], _ => 0
  | t :: l, k => maxI (looseR t k) (looseRL l k)
end
theorem maxI_assoc (a b c : Int) : maxI (maxI a b) c = maxI a (maxI b c) := by
  unfold maxI; (repeat' split) <;> omega
theorem maxI0 {a : Int} (h : 0 ≤ a) : maxI a 0 = a := by unfold maxI; split <;> omega
theorem maxI_ge2 (a b : Int) : b ≤ maxI a b := by unfold maxI; split <;> omega
theorem looseRL_ge : ∀ (l : List Tm) (k : Int), 0 ≤ looseRL l k
  | [], _ => Int.le_refl _
  | t :: l, k => by rw [looseRL]; exact Int.le_trans (looseRL_ge l k) (maxI_ge2 _ _)
theorem maxI_ge (a b : Int) : a ≤ maxI a b := by unfold maxI; split <;> omega
mutual
theorem loose_acc : ∀ (t : Tm) (k acc : Int), 0 ≤ acc → looseF t k acc = maxI acc (looseR t k)
  | .mk kd _ n l, k, acc, h => by
    simp only [looseF, looseR]
    by_cases h5 : (kd == 5) = true
    · have e : kd = 5 := by simpa using h5
      subst e
      simp [loose_accs l _ acc h]
    · by_cases h6 : (kd == 6) = true
      · have e : kd = 6 := by simpa using h6
        subst e
        simp [loose_accs l _ acc h]
      · have e5 : (kd == 5) = false := by simpa using h5
        have e6 : (kd == 6) = false := by simpa using h6
        rw [if_neg h5, if_neg h6]
        by_cases h3 : (kd == 3) = true
        · rw [if_pos h3, if_pos h3, ← maxI_assoc, maxI0 h]
        · rw [if_neg h3, if_neg h3, if_neg (by rw [e5, e6]; simp), maxI0 h]
theorem loose_accs : ∀ (l : List Tm) (k acc : Int), 0 ≤ acc → looseL l k acc = maxI acc (looseRL l k)
  | [], _, acc, h => by rw [looseL, looseRL, maxI0 h]
  | t :: l, k, acc, h => by
    have h1 := loose_acc t k acc h
    rw [looseL, looseRL, h1, loose_accs l k _ (Int.le_trans h (maxI_ge _ _)), maxI_assoc]
end
theorem l_rloose (kd : Int) (s : List UInt8) (n : Int) (is : Bool) (k : Int) (h0 : 0 ≤ k) (hk : k ≤ 2305843009213693952) : ∀ (b a : List Tm) (acc : Int), (∀ u ∈ b, AC Try.prog 30 [aT u, ci (k + Tm.by (.mk kd s n []))] [] (ci (looseR u (k + Tm.by (.mk kd s n [])))) []) → (a ++ b).length ≤ B → 0 ≤ acc →
    RPt Try.prog 30 0 (ci (maxI acc (if is = true then looseRL b (k + Tm.by (.mk kd s n [])) else 0))) [] 1 ⟨[(1, ci k), (2, .c (.a (.ep 0 4 0 0))), (5, ci acc), (6, cb is), (7, ci a.length)], [(0, .arr 4 [fzs (FT (.mk kd s n (a ++ b)))])], 1⟩
  | [], a, acc, _, _, ha => by
    refine RPt.vc hP sh lv30 (Eq.mpr (v30_1a ..) ?_)
    exact ⟨rfl, br_of (fun h => absurd (of_decide_eq_true h) (geI' a)) (fun _ => ret_i (by cases is <;> simp [looseRL, maxI0 ha]))⟩
  | t :: b, a, acc, ih, hl, ha => by
    have hl' := hl
    simp only [List.length_append, List.length_cons, B] at hl'
    have h1 := ih t List.mem_cons_self
    have hu := c_runder (.mk kd s n (a ++ t :: b)) k h0 (by omega)
    have h2 := l_rloose kd s n is k h0 hk b (a ++ [t]) (maxI acc (looseR t (k + Tm.by (.mk kd s n [])))) (fun u hu => ih u (List.mem_cons_of_mem _ hu)) (by rw [ap]; exact hl) (Int.le_trans ha (maxI_ge _ _))
    have h3 := ltI' a t b
    rw [ap, nx] at h2
    refine RPt.vc hP sh lv30 (Eq.mpr (v30_1a ..) ?_)
    rw [midI, w64 (x := (a.length : Int) + 1) (by omega) (by omega)]
    refine ⟨rfl, br_of (fun _ => br_of (fun hk => ?_) (fun hk => ret_i (by rw [hk]; simp [maxI0 ha]))) (fun h => absurd h3 (of_decide_eq_false h))⟩
    rw [hk] at h2 ⊢
    rw [if_pos rfl] at h2
    rw [if_pos rfl, looseRL, ← maxI_assoc]
    obtain ⟨k', s', n', l'⟩ := t
    refine ⟨⟨rfl, by omega, h3, rfl⟩, _, hu, _, h1, ?_⟩
    rw [foldMax2]
    exact h2
theorem c_rloose : ∀ t : Tm, t.sz ≤ B → bd 2305843009213693952 t → ∀ k : Int, 0 ≤ k → k + t.sz ≤ 2305843009213693952 → AC Try.prog 30 [aT t, ci k] [] (ci (looseR t k)) [] := by
  refine Tm.ind fun t ih hs hb k h0 h1 => ?_
  have hlen := Tm.szs_length t.l
  have hi := c_rinner t
  obtain ⟨kd, s, n, l⟩ := t
  simp only [Tm.sz, Tm.l] at hs hlen h1
  refine AC.vc hP sh lv30 (Nat.le_refl _) (by simp) (by simp) (Eq.mpr (v30 kd s n (FTs l) k _ _) ?_)
  refine br_of (fun h => ret_i ?_) (fun h => ⟨_, hi, ?_⟩)
  · have := hb.1 (by simpa using h)
    rw [w64 (x := n - k) (by omega) (by omega), w64 (x := n - k + 1) (by omega) (by omega), foldMax2, looseR, if_pos h]
  · have hby : 0 ≤ Tm.by (.mk kd s n []) ∧ Tm.by (.mk kd s n []) ≤ 1 := by unfold Tm.by; split <;> omega
    have := l_rloose kd s n (Tm.inner (.mk kd s n l)) k h0 (by omega) l [] 0 (fun u hu => ih u hu (by have := Tm.szs_mem hu; omega) (bds_mem hb.2 hu) _ (by omega) (by have := Tm.szs_mem hu; omega)) (by simp only [List.nil_append]; omega) (Int.le_refl _)
    rw [show looseR (.mk kd s n l) k = maxI 0 (if Tm.inner (.mk kd s n l) = true then looseRL l (k + Tm.by (.mk kd s n [])) else 0) from ?_]
    · exact this
    · rw [looseR, if_neg (by rw [h]; simp)]
      have e : Tm.by (.mk kd s n []) = if (kd == 5) = true then 1 else 0 := rfl
      rw [e]
      show (if (kd == 5 || kd == 6) = true then _ else _) = maxI 0 (if (kd == 5 || kd == 6) = true then _ else _)
      split
      · have := looseRL_ge l (k + if (kd == 5) = true then 1 else 0)
        unfold maxI; rw [if_pos this]
      · unfold maxI; rfl
end Go.AM
