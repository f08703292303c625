/- The contracts of law functions, and the plain laws behind them (Term12). No conditions. -/
import Derived.Test.YtclicclinfnmlaaTerm11
set_option maxRecDepth 100000
open Go Go.Proofs
namespace Go.AM
/-! ### The document's answers: terms -/
theorem c_rinner (t : Tm) : AC Try.prog 73 [aT t] [] (cb t.inner) [] := by
  obtain ⟨k, s, n, l⟩ := t
  refine AC.vc hP sh lv73 (Nat.le_refl _) (by simp) (by simp) (Eq.mpr (v73 k s n (FTs l) _ _) ?_)
  refine br_of (fun h => ret_b ?_) (fun h => ret_b ?_)
  · unfold Tm.inner; simp only [Tm.k, h, Bool.true_or]
  · unfold Tm.inner; simp only [Tm.k, h, Bool.false_or]
theorem c_runder (t : Tm) (k : Int) (h0 : 0 ≤ k) (h1 : k ≤ 4611686018427387904) : AC Try.prog 77 [aT t, ci k] [] (ci (k + t.by)) [] := by
  obtain ⟨kd, s, n, l⟩ := t
  refine AC.vc hP sh lv77 (Nat.le_refl _) (by simp) (by simp) (Eq.mpr (v77 kd s n (FTs l) k _ _) ?_)
  rw [w64 (x := k + 1) (by omega) (by omega)]
  refine br_of (fun h => ret_i ?_) (fun h => ret_i ?_)
  · unfold Tm.by; simp only [Tm.k, h, if_true]
  · unfold Tm.by; simp only [Tm.k, h, Bool.false_eq_true, if_false]; omega
/-! Valid. -/
theorem l_rvalid (kd : Int) (s : List UInt8) (n : Int) : ∀ (b a : List Tm) (ok : Bool), (∀ u ∈ b, AC Try.prog 27 [aT u] [] (cb (validB u)) []) → (a ++ b).length ≤ B →
    RPt Try.prog 27 0 (cb (ok && validL b)) [] 3 ⟨[(1, .c (.a (.ep 0 4 0 0))), (3, cb ok), (7, ci a.length)], [(0, .arr 4 [fzs (FT (.mk kd s n (a ++ b)))])], 1⟩
  | [], a, ok, _, _ => by
    refine RPt.vc hP sh lv27 (Eq.mpr (v27_3a ..) ?_)
    exact ⟨rfl, br_of (fun h => absurd (of_decide_eq_true h) (geI' a)) (fun _ => ret_b (by simp [validL]))⟩
  | t :: b, a, ok, ih, hl => by
    refine RPt.vc hP sh lv27 (Eq.mpr (v27_3a ..) ?_)
    have hl' := hl
    simp only [List.length_append, List.length_cons, B] at hl'
    have h1 := ih t List.mem_cons_self
    have h2 := l_rvalid kd s n b (a ++ [t]) (validB t) (fun u hu => ih u (List.mem_cons_of_mem _ hu)) (by rw [ap]; exact hl)
    have h3 := ltI' a t b
    rw [ap, nx] at h2
    rw [midI, w64 (x := (a.length : Int) + 1) (by omega) (by omega)]
    refine ⟨rfl, br_of (fun _ => br_of (fun hk => ?_) (fun hk => ret_b (by rw [hk]; rfl))) (fun h => absurd h3 (of_decide_eq_false h))⟩
    rw [hk, validL, Bool.true_and]
    obtain ⟨k', s', n', l'⟩ := t
    exact ⟨⟨rfl, by omega, h3, rfl⟩, _, h1, h2⟩
theorem c_rvalid : ∀ t : Tm, t.sz ≤ B → AC Try.prog 27 [aT t] [] (cb (validB t)) [] := by
  refine Tm.ind fun t ih hs => ?_
  have hlen := Tm.szs_length t.l
  obtain ⟨k, s, n, l⟩ := t
  simp only [Tm.sz, Tm.l] at hs hlen
  have loop : ∀ ok : Bool, (ok && validL l) = validB (.mk k s n l) → RPt Try.prog 27 0 (cb (validB (.mk k s n l))) [] 3 ⟨[(1, .c (.a (.ep 0 4 0 0))), (3, cb ok), (7, ci 0)], [(0, .arr 4 [fzs (FT (.mk k s n l))])], 1⟩ := fun ok h => by
    have := l_rvalid k s n l [] ok (fun u hu => ih u hu (by have := Tm.szs_mem hu; omega)) (by simp only [List.nil_append]; omega)
    rw [h] at this
    exact this
  refine AC.vc hP sh lv27 (Nat.le_refl _) (by simp) (by simp) (Eq.mpr (v27 k s n (FTs l) _ _) ?_)
  refine br_of (fun h0 => ⟨_, c_risname s, _, c_rissym s (by omega), br_of (fun h1 => br_of (fun h2 => ⟨rfl, ret_b ?_⟩) (fun h2 => ret_b ?_)) (fun h1 => br_of (fun h1' => br_of (fun h2 => ⟨rfl, ret_b ?_⟩) (fun h2 => ret_b ?_)) (fun h1' => ret_b ?_))⟩)
    (fun h0 => br_of (fun h1 => br_of (fun h2 => br_of (fun h3 => ⟨rfl, loop _ ?_⟩) (fun h3 => loop _ ?_)) (fun h2 => loop _ ?_))
    (fun h1 => br_of (fun h2 => br_of (fun h3 => ⟨rfl, loop _ ?_⟩) (fun h3 => loop _ ?_))
    (fun h2 => br_of (fun h3 => br_of (fun h4 => br_of (fun h5 => br_of (fun h6 => ⟨rfl, loop _ ?_⟩) (fun h6 => loop _ ?_)) (fun h5 => loop _ ?_)) (fun h4 => loop _ ?_))
    (fun h3 => br_of (fun h3' => br_of (fun h4 => br_of (fun h5 => br_of (fun h6 => ⟨rfl, loop _ ?_⟩) (fun h6 => loop _ ?_)) (fun h5 => loop _ ?_)) (fun h4 => loop _ ?_))
    (fun h3' => br_of (fun h5 => br_of (fun h6 => br_of (fun h7 => ⟨rfl, loop _ ?_⟩) (fun h7 => loop _ ?_)) (fun h6 => loop _ ?_))
    (fun h5 => br_of (fun h6 => br_of (fun h7 => ⟨rfl, br_of (fun h8 => ?app) (fun h8 => ⟨rfl, loop _ ?_⟩)⟩) (fun h7 => ⟨rfl, loop _ ?_⟩)) (fun h6 => loop _ ?_)))))))
  case app =>
    have h8' := of_decide_eq_true h8
    rw [head0 h8', FT_eta]
    refine ⟨⟨rfl, by omega, by omega, rfl⟩, rfl, br_of (fun h9 => br_of (fun h10 => ⟨rfl, loop _ ?_⟩) (fun h10 => loop _ ?_)) (fun h9 => loop _ ?_)⟩
    all_goals (have h9' : ((l.headD default).k != 6) = _ := h9; clear loop ih hs hlen h9; simp_all [validB])
  all_goals clear loop ih hs hlen
  all_goals first
    | (simp_all [validB]; done)
    | (simp_all [validB]; intros; omega)
/-! Same. -/
theorem l_equalf : ∀ (b a b' a' : List Tm), (∀ u ∈ b, ∀ v : Tm, AC Try.prog 28 [aT u, aT v] [] (cb (sameB u v)) []) → (a ++ b).length ≤ B → a.length = a'.length → b.length = b'.length →
    RPt Try.prog 76 0 (cb (sameL b b')) [] 1 ⟨[(1, aL (a' ++ b')), (2, .c (.fn (.func 28) [] [])), (15, aL (a ++ b)), (16, ci (((FTs (a ++ b)).length : Nat) : Int)), (17, ci a.length)], [], 0⟩
  | [], a, [], a', _, _, _, _ => by
    refine RPt.vc hP sh lv76 (Eq.mpr (v76_1a ..) ?_)
    exact br_of (fun h => absurd (of_decide_eq_true h) (geI' a)) (fun _ => ret_b rfl)
  | t :: b, a, t' :: b', a', ih, hl, ha, hb => by
    refine RPt.vc hP sh lv76 (Eq.mpr (v76_1a ..) ?_)
    have hl' := hl
    simp only [List.length_append, List.length_cons, B] at hl'
    simp only [List.length_cons] at hb
    have h1 := ih t List.mem_cons_self t'
    have h2 := l_equalf b (a ++ [t]) b' (a' ++ [t']) (fun u hu => ih u (List.mem_cons_of_mem _ hu)) (by rw [ap]; exact hl) (by simp [ha]) (by omega)
    have h3 := ltI' a t b
    have h4 := ltI' a' t' b'
    rw [← ha] at h4
    rw [ap, ap, nx] at h2
    rw [midI, midI' a a' ha, w64 (x := (a.length : Int) + 1) (by omega) (by omega)]
    refine br_of (fun _ => ?_) (fun h => absurd h3 (of_decide_eq_false h))
    obtain ⟨k1, s1, n1, l1⟩ := t
    obtain ⟨k2, s2, n2, l2⟩ := t'
    refine ⟨⟨rfl, by omega, h3, rfl⟩, ⟨rfl, by omega, h4, rfl⟩, _, h1, br_of (fun h => ret_b ?_) (fun h => ?_)⟩
    · rw [sameL, show sameB (.mk k1 s1 n1 l1) (.mk k2 s2 n2 l2) = false by simpa using h]; rfl
    · rw [sameL, show sameB (.mk k1 s1 n1 l1) (.mk k2 s2 n2 l2) = true by simpa using h]; exact h2
theorem c_same : ∀ a : Tm, a.sz ≤ B → ∀ b : Tm, AC Try.prog 28 [aT a, aT b] [] (cb (sameB a b)) [] := by
  refine Tm.ind fun a ih hs b => ?_
  have hlen := Tm.szs_length a.l
  obtain ⟨k1, s1, n1, l1⟩ := a
  obtain ⟨k2, s2, n2, l2⟩ := b
  simp only [Tm.sz, Tm.l] at hs hlen
  have he : AC Try.prog 76 [aL l1, aL l2, .c (.fn (.func 28) [] [])] [] (cb (sameL l1 l2)) [] := by
    refine AC.vc hP sh lv76 (Nat.le_refl _) (by simp) (by simp) (Eq.mpr (v76 ..) ?_)
    refine ⟨rfl, rfl, br_of (fun h => ret_b ?_) (fun h => ⟨rfl, ?_⟩)⟩
    · rw [FTs_length, FTs_length] at h
      exact (sameL_len (fun e => by rw [e] at h; simp at h)).symm
    · rw [FTs_length, FTs_length] at h
      exact l_equalf l1 [] l2 [] (fun u hu v => ih u hu (by have := Tm.szs_mem hu; omega) v) (by simp only [List.nil_append]; omega) rfl (by have : (l1.length : Int) = l2.length := by simpa using h
                                                                                                                                             omega)
  refine AC.vc hP sh lv28 (Nat.le_refl _) (by simp) (by simp) (Eq.mpr (v28 k1 s1 n1 (FTs l1) k2 s2 n2 (FTs l2) _ _) ?_)
  refine br_of (fun h => br_of (fun h1 => br_of (fun h2 => ⟨_, he, ret_b ?_⟩) (fun h2 => ret_b ?_)) (fun h1 => ret_b ?_)) (fun h => ret_b ?_)
  all_goals simp only [sameB]
  all_goals simp_all
end Go.AM
