/- The contracts of law functions, and the plain laws behind them (Law3). No conditions. -/
import Derived.Test.YtclicclinfnmlaaTerm7
set_option maxRecDepth 100000
open Go Go.Proofs
namespace Go.AM
/-! ### Plain laws: shifts -/
theorem by_ite (k : Int) : (0 : Int) ≤ if (k == 5) = true then 1 else 0 := by split <;> omega
theorem shT_in (fr by_ : Int) (k : Int) (s : List UInt8) (n : Int) (l : List Tm) (d : Int) (hk : (k == 5 || k == 6) = true) : shT fr by_ (.mk k s n l) d = .mk k s n (walkL (shLeaf fr by_) l (d + if (k == 5) = true then 1 else 0)) := walkF_keep _ (shLeaf_k fr by_) k s n l d hk
theorem shT_leaf (fr by_ : Int) (k : Int) (s : List UInt8) (n : Int) (l : List Tm) (d : Int) (hk : (k == 5 || k == 6) = false) : shT fr by_ (.mk k s n l) d = shLeaf fr by_ (.mk k s n l) d := walkF_leaf _ k s n l d hk
mutual
theorem sh_both (i a b : Int) (ha : 0 ≤ a) : ∀ (t : Tm) (d : Int), shT i b (shT i a t d) d = shT i (a + b) t d
  | .mk k s n l, d => by
    cases hk : (k == 5 || k == 6) with
    | true => rw [shT_in _ _ _ _ _ _ _ hk, shT_in _ _ _ _ _ _ _ hk, shT_in _ _ _ _ _ _ _ hk, sh_boths i a b ha l]
    | false =>
      rw [shT_leaf _ _ _ _ _ _ _ hk, shT_leaf _ _ _ _ _ _ _ hk]
      unfold shLeaf
      by_cases h : (k == 3) = true ∧ d + i ≤ n
      · have h' : ((Tm.mk k s n l).k == 3) = true ∧ d + i ≤ (Tm.mk k s n l).n := h
        rw [if_pos h', if_pos h']
        show shT i b (.mk k s (n + a) l) d = .mk k s (n + (a + b)) l
        rw [shT_leaf _ _ _ _ _ _ _ hk, shLeaf, if_pos ⟨h.1, show d + i ≤ n + a by omega⟩]
        show Tm.mk k s (n + a + b) l = _
        rw [Int.add_assoc]
      · have h' : ¬ (((Tm.mk k s n l).k == 3) = true ∧ d + i ≤ (Tm.mk k s n l).n) := h
        rw [if_neg h', if_neg h', shT_leaf _ _ _ _ _ _ _ hk, shLeaf, if_neg h']
theorem sh_boths (i a b : Int) (ha : 0 ≤ a) : ∀ (l : List Tm) (d : Int), walkL (shLeaf i b) (walkL (shLeaf i a) l d) d = walkL (shLeaf i (a + b)) l d
  | [], _ => rfl
  | t :: l, d => by
    have h1 := sh_both i a b ha t d
    simp only [shT] at h1
    simp only [walkL, h1, sh_boths i a b ha l d]
end
theorem suLeaf_lt {i : Int} {s' : Tm} {k : Int} {s : List UInt8} {n : Int} {l : List Tm} {d : Int} (h3 : (k == 3) = true) (h : n < d + i) : suLeaf i s' (.mk k s n l) d = .mk k s n l := by
  unfold suLeaf
  rw [if_pos (show (Tm.k (.mk k s n l) == 3) = true from h3), if_pos (show Tm.n (.mk k s n l) < d + i from h)]
theorem suLeaf_eq {i : Int} {s' : Tm} {k : Int} {s : List UInt8} {n : Int} {l : List Tm} {d : Int} (h3 : (k == 3) = true) (h : n = d + i) : suLeaf i s' (.mk k s n l) d = shT 0 d s' 0 := by
  unfold suLeaf
  rw [if_pos (show (Tm.k (.mk k s n l) == 3) = true from h3), if_neg (show ¬ Tm.n (.mk k s n l) < d + i from fun e => by have e : n < d + i := e; omega), if_pos (show (Tm.n (.mk k s n l) == d + i) = true from by rw [← h]; simp [Tm.n])]
theorem suLeaf_gt {i : Int} {s' : Tm} {k : Int} {s : List UInt8} {n : Int} {l : List Tm} {d : Int} (h3 : (k == 3) = true) (h : d + i < n) : suLeaf i s' (.mk k s n l) d = .mk k s (n - 1) l := by
  unfold suLeaf
  rw [if_pos (show (Tm.k (.mk k s n l) == 3) = true from h3), if_neg (show ¬ Tm.n (.mk k s n l) < d + i from fun e => by have e : n < d + i := e; omega), if_neg (show ¬ (Tm.n (.mk k s n l) == d + i) = true from fun e => absurd (show n = d + i by simpa [Tm.n] using e) (by omega))]
  rfl
theorem suLeaf_ne {i : Int} {s' : Tm} {k : Int} {s : List UInt8} {n : Int} {l : List Tm} {d : Int} (h3 : ¬ (k == 3) = true) : suLeaf i s' (.mk k s n l) d = .mk k s n l := by
  unfold suLeaf
  rw [if_neg (show ¬ (Tm.k (.mk k s n l) == 3) = true from h3)]
theorem withF_id (k : Int) (s : List UInt8) (n : Int) (m l : List Tm) (h : (m.headD default).k = (l.headD default).k) : withF (.mk k s n m) l = .mk k s n l := by
  unfold withF
  refine if_neg fun e => ?_
  have e1 : ((l.headD default).k == 6) = true := e.2.2.1
  have e2 : ((m.headD default).k != 6) = true := e.2.2.2
  rw [h, bne, e1] at e2; cases e2
/-- Where no leaf changes, nothing does. -/
theorem walk_id (lf : Tm → Int → Tm) (Q : Tm → Int → Prop) (hq : ∀ k s n l d, Q (.mk k s n l) d → (k == 5 || k == 6) = true → ∀ u ∈ l, Q u (d + if (k == 5) = true then 1 else 0))
    (h : ∀ k s n l d, (k == 5 || k == 6) = false → Q (.mk k s n l) d → lf (.mk k s n l) d = .mk k s n l) : ∀ t d, Q t d → walkF lf t d = t := by
  refine Tm.ind fun t ih d hQ => ?_
  obtain ⟨k, s, n, l⟩ := t
  cases hk : (k == 5 || k == 6) with
  | false => rw [walkF_leaf _ _ _ _ _ _ hk]; exact h _ _ _ _ _ hk hQ
  | true =>
    have key : ∀ (m : List Tm) (e : Int), (∀ u ∈ m, walkF lf u e = u) → walkL lf m e = m := by
      intro m e
      induction m with
      | nil => intro _; rfl
      | cons x m im => intro hm; simp only [walkL, hm x List.mem_cons_self, im fun u hu => hm u (List.mem_cons_of_mem _ hu)]
    have hm := key l (d + if (k == 5) = true then 1 else 0) fun u hu => ih u hu _ (hq k s n l d hQ hk u hu)
    rw [walkF, if_pos hk, hm, withF_id _ _ _ _ _ rfl]
theorem sh_none (i : Int) (t : Tm) : shT i 0 t 0 = t := walk_id _ (fun _ _ => True) (fun _ _ _ _ _ _ _ _ _ => trivial) (fun k s n l d _ _ => by
  unfold shLeaf; split
  · simp [Tm.k, Tm.s, Tm.n, Tm.l]
  · rfl) t 0 trivial
mutual
theorem su_back (i : Int) (s' : Tm) : ∀ (t : Tm) (d : Int), suT i s' (shT i 1 t d) d = t
  | .mk k s n l, d => by
    cases hk : (k == 5 || k == 6) with
    | true =>
      rw [shT_in _ _ _ _ _ _ _ hk, suT, walkF, if_pos hk, su_backs i s' l, withF_id]
      cases l with
      | nil => rfl
      | cons x l => exact walkF_k _ (shLeaf_k i 1) x _
    | false =>
      rw [shT_leaf _ _ _ _ _ _ _ hk]
      unfold shLeaf
      by_cases h : (k == 3) = true ∧ d + i ≤ n
      · have h' : ((Tm.mk k s n l).k == 3) = true ∧ d + i ≤ (Tm.mk k s n l).n := h
        rw [if_pos h']
        show walkF _ (.mk k s (n + 1) l) d = _
        rw [walkF_leaf _ _ _ _ _ _ hk, suLeaf_gt h.1 (by omega)]
        rw [show n + 1 - 1 = n by omega]
      · have h' : ¬ (((Tm.mk k s n l).k == 3) = true ∧ d + i ≤ (Tm.mk k s n l).n) := h
        rw [if_neg h', suT, walkF_leaf _ _ _ _ _ _ hk]
        by_cases h3 : (k == 3) = true
        · exact suLeaf_lt h3 (Int.not_le.mp fun e => h ⟨h3, e⟩)
        · exact suLeaf_ne h3
theorem su_backs (i : Int) (s' : Tm) : ∀ (l : List Tm) (d : Int), walkL (suLeaf i s') (walkL (shLeaf i 1) l d) d = l
  | [], _ => rfl
  | t :: l, d => by
    have h1 := su_back i s' t d
    simp only [shT, suT] at h1
    simp only [walkL, h1, su_backs i s' l d]
end
mutual
theorem loose_ge : ∀ (t : Tm) (d acc : Int), acc ≤ looseF t d acc
  | .mk k s n l, d, acc => by
    simp only [looseF]
    split
    · exact loose_ges l _ _
    · split
      · exact loose_ges l _ _
      · split
        · unfold maxI; split <;> omega
        · omega
theorem loose_ges : ∀ (l : List Tm) (d acc : Int), acc ≤ looseL l d acc
  | [], _, _ => Int.le_refl _
  | t :: l, d, acc => Int.le_trans (loose_ge t d acc) (loose_ges l d _)
end
theorem loose_mem (d : Int) : ∀ {l : List Tm} {acc : Int} {t : Tm}, t ∈ l → ∃ acc', looseF t d acc' ≤ looseL l d acc
  | x :: l, acc, t, h => by
    rcases List.mem_cons.1 h with rfl | h
    · exact ⟨acc, loose_ges l d _⟩
    · exact loose_mem d (l := l) (acc := looseF x d acc) h
theorem su_closed (i : Int) (s' t : Tm) (h : looseF t 0 0 ≤ i) : suT i s' t 0 = t := by
  refine walk_id _ (fun t d => ∃ acc, looseF t d acc ≤ i) (fun k s n l d ⟨acc, hq⟩ hk u hu => ?_) (fun k s n l d hk ⟨acc, hq⟩ => ?_) t 0 ⟨0, h⟩
  · simp only [looseF] at hq
    by_cases h5 : (k == 5) = true
    · rw [if_pos h5] at hq ⊢
      obtain ⟨acc', h'⟩ := loose_mem (d + 1) (acc := acc) hu
      exact ⟨acc', by omega⟩
    · have h6 : (k == 6) = true := by rw [show (k == 5) = false by simpa using h5] at hk; simpa using hk
      rw [if_neg h5, if_pos h6] at hq
      rw [if_neg h5, Int.add_zero]
      obtain ⟨acc', h'⟩ := loose_mem d (acc := acc) hu
      exact ⟨acc', by omega⟩
  · simp only [Bool.or_eq_false_iff] at hk
    by_cases h3 : (k == 3) = true
    · simp only [looseF, hk.1, hk.2, h3, Bool.false_eq_true, if_false, if_true] at hq
      exact suLeaf_lt h3 (by unfold maxI at hq; split at hq <;> omega)
    · exact suLeaf_ne h3

/-! ### THE LAW: shifts -/
theorem ret1 {b : Bool} (h : b = true) : TV.Le (cb b) (cb true) ∧ ([] : List AObj) = [] := ret_b h
theorem same_ok {x y : Tm} (hx : x.sz ≤ B) (e : x = y) : AC Try.prog 16 [aT x, aT y] [] (cb true) [] := by
  have := c_rsame x hx y
  rw [(sameB_iff x y).2 e] at this; exact this
theorem Okay.shift {t : Tm} (kt : Okay t) (i a : Int) (h1 : 0 ≤ i) (h2 : i ≤ 2000) (h3 : 0 ≤ a) (h4 : a ≤ 2000) : AC Try.prog 17 [aT t, ci i, ci a] [] (aT (shT i a t 0)) [] ∧ (shT i a t 0).sz ≤ 4880 ∧ nd (shT i a t 0) ≤ 80 ∧ bd 1099511629776 (shT i a t 0) := by
  have := kt.size
  have := shT_sz i a t 0
  have := shT_nd i a t 0
  have := kt.nodes
  refine ⟨c_shift t i a (by simp only [B]; omega) (bd_le (by simp only [M61]; omega) t kt.nums) h1 (by simp only [M61]; omega) h3 (by simp only [M61]; omega), by omega, by omega, bd_le (by omega) _ (shT_bd h3 t 0 kt.nums (Int.le_refl _))⟩
theorem mul80 {a b : Nat} (h : a ≤ 80) (hb : b ≤ 4880) : a * b ≤ 390400 := Nat.mul_le_mul h hb
theorem shifts_calls (t s : Tm) (kt : Okay t) (ks : Okay s) (i a b : Int) (i0 : 0 ≤ i) (i1 : i ≤ 1000) (a0 : 0 ≤ a) (a1 : a ≤ 1000) (b0 : 0 ≤ b) (b1 : b ≤ 1000) :
    AC Try.prog 17 [aT t, ci i, ci a] [] (aT (shT i a t 0)) [] ∧ AC Try.prog 17 [aT (shT i a t 0), ci i, ci b] [] (aT (shT i b (shT i a t 0) 0)) [] ∧ AC Try.prog 17 [aT t, ci i, ci (a + b)] [] (aT (shT i (a + b) t 0)) [] ∧
    AC Try.prog 16 [aT (shT i b (shT i a t 0) 0), aT (shT i (a + b) t 0)] [] (cb true) [] ∧ AC Try.prog 17 [aT t, ci i, ci 1] [] (aT (shT i 1 t 0)) [] ∧ AC Try.prog 18 [aT (shT i 1 t 0), ci i, aT s] [] (aT (suT i s (shT i 1 t 0) 0)) [] ∧
    AC Try.prog 16 [aT (suT i s (shT i 1 t 0) 0), aT t] [] (cb true) [] ∧ AC Try.prog 17 [aT t, ci i, ci 0] [] (aT (shT i 0 t 0)) [] ∧ AC Try.prog 16 [aT (shT i 0 t 0), aT t] [] (cb true) [] ∧ AC Try.prog 19 [aT t] [] (ci (looseF t 0 0)) [] ∧
    AC Try.prog 18 [aT t, ci i, aT s] [] (aT (suT i s t 0)) [] ∧ (looseF t 0 0 ≤ i → AC Try.prog 16 [aT (suT i s t 0), aT t] [] (cb true) []) := by
  have ht := kt.size
  have hs := ks.size
  have g1 := kt.shift i a i0 (by omega) a0 (by omega)
  have g3 := kt.shift i (a + b) i0 (by omega) (by omega) (by omega)
  have g4 := kt.shift i 1 i0 (by omega) (by omega) (by omega)
  have g5 := kt.shift i 0 i0 (by omega) (by omega) (by omega)
  have m1 := mul80 g4.2.2.1 hs
  have m2 := mul80 kt.nodes hs
  have z1 := shT_sz i b (shT i a t 0) 0
  have z2 := suT_sz i s (shT i 1 t 0) 0
  have z3 := suT_sz i s t 0
  have bs : bd M61 s := bd_le (by simp only [M61]; omega) s ks.nums
  have bt : bd M61 t := bd_le (by simp only [M61]; omega) t kt.nums
  refine ⟨g1.1, c_shift _ i b (by simp only [B]; omega) (bd_le (by simp only [M61]; omega) _ g1.2.2.2) i0 (by simp only [M61]; omega) b0 (by simp only [M61]; omega), g3.1, same_ok (by simp only [B]; omega) (sh_both i a b a0 t 0), g4.1,
    c_subst _ s i (by simp only [B]; omega) (by simp only [B]; omega) (bd_le (by simp only [M61]; omega) _ g4.2.2.2) bs i0 (by simp only [M61]; omega), same_ok (by simp only [B]; omega) (su_back i s t 0), g5.1, same_ok (by simp only [B]; omega) (sh_none i t),
    c_loose t (by simp only [B]; omega) bt, c_subst t s i (by simp only [B]; omega) (by simp only [B]; omega) bt bs i0 (by simp only [M61]; omega), fun h => same_ok (by simp only [B]; omega) (su_closed i s t h)⟩
theorem c_shifts (t s : Tm) (i a b : Int) (ht : t.sz ≤ B) (hs : s.sz ≤ B) : AC Try.prog 3 [aT t, aT s, ci i, ci a, ci b] [] (cb true) [] := by
  have ot := c_over t ht
  have os := c_over s hs
  have vt := c_valid t ht
  have vs := c_valid s hs
  obtain ⟨tk, ts, tn, tl⟩ := t
  obtain ⟨sk, ss, sn, sl⟩ := s
  refine AC.vc hP sh lv3 (Nat.le_refl _) (by simp) (by simp) (Eq.mpr (v3 tk ts tn (FTs tl) sk ss sn (FTs sl) i a b _ _) ?_)
  refine ⟨_, c_works, br_of (fun h => by cases h) (fun _ => ⟨_, ot, _, os, _, vt, _, vs, br_of (fun _ => ret1 rfl) (fun h1 => br_of (fun _ => ret1 rfl) (fun h2 => br_of (fun _ => ret1 rfl) (fun h3 => br_of (fun _ => ret1 rfl) (fun h4 =>
    br_of (fun _ => ret1 rfl) (fun h5 => br_of (fun _ => ret1 rfl) (fun h6 => br_of (fun _ => ret1 rfl) (fun h7 => br_of (fun _ => ret1 rfl) (fun h8 => br_of (fun _ => ret1 rfl) (fun h9 => br_of (fun _ => ret1 rfl) (fun h10 => ?_))))))))))⟩)⟩
  have kt := okay h1
  have ks := okay h2
  have h5 := of_decide_eq_false h5
  have h6 := of_decide_eq_false h6
  have h7 := of_decide_eq_false h7
  have h8 := of_decide_eq_false h8
  have h9 := of_decide_eq_false h9
  have h10 := of_decide_eq_false h10
  obtain ⟨c1, c2, c3, c4, c5, c6, c7, c8, c9, c10, c11, c12⟩ := shifts_calls _ _ kt ks i a b (by omega) (by omega) (by omega) (by omega) (by omega) (by omega)
  rw [w64 (x := a + b) (by omega) (by omega)]
  refine ⟨_, _, _, _, c1, _, _, _, _, c2, _, _, _, _, c3, _, c4, _, _, _, _, c5, _, _, _, _, c6, _, c7, _, _, _, _, c8, _, c9, _, c10, br_of (fun _ => ?_) (fun h => ?_)⟩
  · exact br_of (fun _ => br_of (fun _ => br_of (fun _ => br_of (fun _ => ret1 rfl) (fun h => by cases h)) (fun h => by cases h)) (fun h => by cases h)) (fun h => by cases h)
  · have hl := of_decide_eq_false h
    exact ⟨_, _, _, _, c11, _, c12 (by omega), br_of (fun _ => br_of (fun _ => br_of (fun _ => br_of (fun _ => ret1 rfl) (fun h => by cases h)) (fun h => by cases h)) (fun h => by cases h)) (fun h => by cases h)⟩
end Go.AM
