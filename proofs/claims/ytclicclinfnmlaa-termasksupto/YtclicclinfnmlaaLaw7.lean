/- The contracts of law functions, and the plain laws behind them (Law7). No conditions. -/
import Derived.Test.YtclicclinfnmlaaTerm13
set_option maxRecDepth 100000
open Go Go.Proofs
namespace Go.AM
theorem hasI_in {v : Int} {l : List Int} (h : v ∈ l) : hasI v l = true := by
  simp only [hasI, List.any_eq_true, beq_iff_eq]
  exact ⟨v, h, rfl⟩
/-! Variables. -/
theorem ret_l {x y : List Int} (h : x = y) : TV.Le (aI x) (aI y) ∧ ([] : List AObj) = [] := ⟨by rw [h]; exact .refl _, rfl⟩
theorem l_rvars1 (s : List UInt8) (n : Int) (kl : List Tm) (l : List Int) (hl : l.length ≤ B) : ∀ (b a : List Int), a ++ b = l → hasI n a = false →
    RPt Try.prog 26 0 (aI (varsLeaf (.mk 4 s n kl) l)) [] 1 ⟨[(1, aI l), (2, .c (.a (.ep 0 4 0 0))), (5, ci a.length)], [(0, .arr 4 [fzs (FT (.mk 4 s n kl))])], 1⟩
  | [], a, hab, ha => by
    rw [List.append_nil] at hab
    subst hab
    simp only [B] at hl
    have e : varsLeaf (.mk 4 s n kl) a = a ++ [n] := if_pos (by rw [show hasI (Tm.n (.mk 4 s n kl)) a = false from ha]; rfl)
    have hno : ¬ (a.length : Int) < (((IR a).length : Nat) : Int) := by rw [IR_length]; omega
    rw [e]
    refine RPt.vc hP sh lv26 (Eq.mpr (v26_1a ..) ?_)
    refine ⟨rfl, br_of (fun h => absurd (of_decide_eq_true h) hno) (fun _ => ⟨rfl, br_of (fun h => ⟨by omega, roomN (by omega), ⟨rfl, by omega⟩, ?_, rfl⟩) (fun h => ⟨by rw [IR_length]; exact roomN (by omega), by omega, ⟨Nat.le_refl _, by rw [IR_length]; exact roomN (by omega)⟩, ⟨rfl, ?_⟩, ?_, rfl⟩)⟩)⟩
    · have : a = [] := by cases a with
        | nil => rfl
        | cons x a => simp [IR] at h
      subst this
      exact le_c (.nn _ _ _)
    · rw [List.take_length, List.length_append]; simp
    · rw [List.drop_zero, List.take_length, List.take_of_length_le (by rw [List.length_append]; simp), show IR a ++ [[.int .i64 n]] = IR (a ++ [n]) by rw [IR_append]; rfl]
      exact le_c (.nn _ _ _)
  | x :: b, a, hab, ha => by
    have h3 := ltN a x b
    have hm := midN a x b
    have hlen : a.length ≤ l.length := by rw [← hab]; simp
    have h2 := l_rvars1 s n kl l hl b (a ++ [x]) (by rw [ap]; exact hab)
    rw [hab] at h3 hm
    rw [nx] at h2
    simp only [B] at hl
    refine RPt.vc hP sh lv26 (Eq.mpr (v26_1a ..) ?_)
    rw [hm, w64 (x := (a.length : Int) + 1) (by omega) (by omega)]
    refine ⟨rfl, br_of (fun _ => ⟨⟨rfl, by omega, h3, rfl⟩, br_of (fun h => ?_) (fun h => h2 ?_)⟩) (fun h => absurd h3 (of_decide_eq_false h))⟩
    · have h : (x == n) = true := h
      have hx : x = n := by simpa using h
      have hin : hasI n l = true := hasI_in (by rw [← hab, hx]; simp)
      rw [show varsLeaf (.mk 4 s n kl) l = l from if_neg (by rw [show hasI (Tm.n (.mk 4 s n kl)) l = true from hin]; simp)]
      exact ret_l rfl
    · have h : (x == n) = false := h
      have hx : ¬ x = n := by simpa using h
      simp only [hasI, List.any_append, List.any_cons, List.any_nil, Bool.or_false] at ha ⊢
      rw [ha]; simp; omega
theorem l_rvars5 (kd : Int) (s : List UInt8) (n : Int) (is : Bool) : ∀ (b a : List Tm) (acc : List Int), (∀ u ∈ b, ∀ acc : List Int, acc.length + u.sz ≤ B → AC Try.prog 26 [aT u, aI acc] [] (aI (varsF u acc)) []) → (a ++ b).length ≤ B → acc.length + Tm.szs b ≤ B →
    RPt Try.prog 26 0 (aI (if is = true then varsL b acc else acc)) [] 5 ⟨[(1, aI acc), (2, .c (.a (.ep 0 4 0 0))), (7, cb is), (8, ci a.length)], [(0, .arr 4 [fzs (FT (.mk kd s n (a ++ b)))])], 1⟩
  | [], a, acc, _, _, _ => by
    refine RPt.vc hP sh lv26 (Eq.mpr (v26_5b ..) ?_)
    exact ⟨rfl, br_of (fun h => absurd (of_decide_eq_true h) (geI' a)) (fun _ => ret_l (by cases is <;> simp [varsL]))⟩
  | t :: b, a, acc, ih, hl, ha => by
    have hl' := hl
    simp only [List.length_append, List.length_cons, B] at hl'
    simp only [Tm.szs] at ha
    have h1 := ih t List.mem_cons_self acc (by omega)
    have hlen := varsF_len t acc
    have h2 := l_rvars5 kd s n is b (a ++ [t]) (varsF t acc) (fun u hu => ih u (List.mem_cons_of_mem _ hu)) (by rw [ap]; exact hl) (by omega)
    have h3 := ltI' a t b
    rw [ap, nx] at h2
    refine RPt.vc hP sh lv26 (Eq.mpr (v26_5b ..) ?_)
    rw [midI, w64 (x := (a.length : Int) + 1) (by omega) (by omega)]
    refine ⟨rfl, br_of (fun _ => br_of (fun hk => ?_) (fun hk => ret_l (by rw [hk]; simp))) (fun h => absurd h3 (of_decide_eq_false h))⟩
    rw [hk] at h2 ⊢
    rw [if_pos rfl] at h2
    rw [if_pos rfl, varsL]
    obtain ⟨k', s', n', l'⟩ := t
    exact ⟨⟨rfl, by omega, h3, rfl⟩, _, h1, h2⟩
theorem c_rvars : ∀ t : Tm, t.sz ≤ B → ∀ acc : List Int, acc.length + t.sz ≤ B → AC Try.prog 26 [aT t, aI acc] [] (aI (varsF t acc)) [] := by
  refine Tm.ind fun t ih hs acc ha => ?_
  have hlen := Tm.szs_length t.l
  have hi := c_rinner t
  obtain ⟨k, s, n, l⟩ := t
  simp only [Tm.sz, Tm.l] at hs hlen ha
  refine AC.vc hP sh lv26 (Nat.le_refl _) (by simp) (by simp) (Eq.mpr (v26 k s n (FTs l) (IR acc) _ _) ?_)
  refine br_of (fun h => ?_) (fun h => ⟨_, hi, ?_⟩)
  · have e : k = 4 := by simpa using h
    subst e
    rw [show varsF (.mk 4 s n l) acc = varsLeaf (.mk 4 s n l) acc by rw [varsF, if_neg (by decide)]]
    exact l_rvars1 s n l acc (by omega) acc [] rfl rfl
  · have := l_rvars5 k s n (Tm.inner (.mk k s n l)) l [] acc (fun u hu acc ha => ih u hu (by have := Tm.szs_mem hu; omega) acc ha) (by simp only [List.nil_append]; omega) (by omega)
    rw [show varsF (.mk k s n l) acc = if Tm.inner (.mk k s n l) = true then varsL l acc else acc from ?_]
    · exact this
    · rw [varsF]
      show (if (k == 5 || k == 6) = true then _ else _) = if (k == 5 || k == 6) = true then _ else _
      split
      · rfl
      · exact if_neg (by rw [show (Tm.k (.mk k s n l) == 4) = false from h]; simp)

/-! ### THE LAW: asks -/
theorem l_asks (tk : Int) (ts : List UInt8) (tn : Int) (tl : List Tm) (uk : Int) (us : List UInt8) (un : Int) (ul : List Tm) (vs : List Int) (hvs : vs.length ≤ B)
    (ht : (Tm.mk tk ts tn tl).sz ≤ B) (hb : bd 2305843009213693952 (.mk tk ts tn tl)) : ∀ (b a : List Int), a ++ b = vs →
    RPt Try.prog 7 0 (cb true) [] 1 ⟨[(2, .c (.a (.ep 0 4 0 0))), (3, .c (.a (.ep 1 4 0 0))), (5, cb true), (8, aI vs), (9, aI vs), (10, ci a.length)], [(0, .arr 4 [fzs (FT (.mk tk ts tn tl))]), (1, .arr 4 [fzs (FT (.mk uk us un ul))])], 2⟩
  | [], a, hab => by
    rw [List.append_nil] at hab
    subst hab
    have hno : ¬ (a.length : Int) < (((IR a).length : Nat) : Int) := by rw [IR_length]; omega
    have ll := c_loose _ ht hb
    have rl := c_rloose _ ht hb 0 (Int.le_refl _) (by simp only [B] at ht; omega)
    have e : looseF (.mk tk ts tn tl) 0 0 = looseR (.mk tk ts tn tl) 0 := by
      have h1 := loose_acc (.mk tk ts tn tl) 0 0 (Int.le_refl _)
      have h2 := loose_ge (.mk tk ts tn tl) 0 0
      have h3 : 0 ≤ looseR (.mk tk ts tn tl) 0 := by
        rw [looseR]
        split
        · exact maxI_ge _ _
        · split
          · exact looseRL_ge _ _
          · exact Int.le_refl _
      rw [h1]; unfold maxI; rw [if_pos h3]
    refine RPt.vc hP sh lv7 (Eq.mpr (v7_1a ..) ?_)
    refine ⟨rfl, br_of (fun h => absurd (of_decide_eq_true h) hno) (fun _ => ⟨_, c_valid _ ht, _, c_rvalid _ ht, _, c_same _ ht (.mk uk us un ul), _, c_rsame _ ht (.mk uk us un ul), br_of (fun _ => br_of (fun _ => br_of (fun _ => ⟨_, c_size _ ht, _, c_rsize _ ht, br_of (fun _ => ⟨_, ll, _, rl, ret1 ?_⟩) (fun h => ?_)⟩) (fun h => ?_)) (fun h => ?_)) (fun h => by cases h)⟩)⟩
    · rw [e]; simp
    · simp at h
    · simp at h
    · simp at h
  | x :: b, a, hab => by
    have h3 := ltN a x b
    have hm := midN a x b
    have hlen : a.length ≤ vs.length := by rw [← hab]; simp
    have h2 := l_asks tk ts tn tl uk us un ul vs hvs ht hb b (a ++ [x]) (by rw [ap]; exact hab)
    rw [hab] at h3 hm
    rw [nx] at h2
    simp only [B] at hvs
    refine RPt.vc hP sh lv7 (Eq.mpr (v7_1a ..) ?_)
    rw [show FV.ses (.sl false 1 (IR vs)) = IR vs from rfl, hm, w64 (x := (a.length : Int) + 1) (by omega) (by omega)]
    refine ⟨rfl, br_of (fun _ => ⟨⟨rfl, by omega, h3, rfl⟩, ⟨rfl, by omega, h3, rfl⟩, br_of (fun h => ?_) (fun _ => h2)⟩) (fun h => absurd h3 (of_decide_eq_false h))⟩
    have h : (x != x) = true := h
    simp at h
theorem c_asks (t u : Tm) (ht : t.sz ≤ B) (hu : u.sz ≤ B) : AC Try.prog 7 [aT t, aT u] [] (cb true) [] := by
  have ot := c_over t ht
  have ou := c_over u hu
  have cv := c_vars t ht
  have rv := c_rvars t ht [] (by simpa using ht)
  have lv := varsF_len t []
  have loop := l_asks
  obtain ⟨tk, ts, tn, tl⟩ := t
  obtain ⟨uk, us, un, ul⟩ := u
  refine AC.vc hP sh lv7 (Nat.le_refl _) (by simp) (by simp) (Eq.mpr (v7 tk ts tn (FTs tl) uk us un (FTs ul) _ _) ?_)
  refine ⟨_, c_works, br_of (fun h => by cases h) (fun _ => ⟨_, ot, _, ou, br_of (fun _ => ret1 rfl) (fun h1 => br_of (fun _ => ret1 rfl) (fun h2 => ⟨_, cv, _, rv.args ⟨.refl _, le_c (.nils 1), trivial⟩, rfl, rfl, br_of (fun h => ?_) (fun _ => ?_)⟩))⟩)⟩
  · simp at h
  · exact loop tk ts tn tl uk us un ul _ (by simp only [List.length_nil] at lv; omega) ht (bd_le (by omega) _ (okay h1).nums) _ [] rfl
end Go.AM
