/- The contracts of law functions, and the plain laws behind them (Law5). No conditions. -/
import Derived.Test.YtclicclinfnmlaaLaw3
set_option maxRecDepth 100000
open Go Go.Proofs
namespace Go.AM
/-! ### Plain laws: apply, lams -/
theorem applyF_nil (f : Tm) : applyF f [] = f := rfl
theorem applyF6 (l : List Tm) (y : Tm) (b : List Tm) (h : l ≠ []) : applyF (.mk 6 [] 0 l) (y :: b) = .mk 6 [] 0 (l ++ y :: b) := if_pos ⟨rfl, h⟩
theorem applyF_both (f : Tm) : ∀ a b : List Tm, applyF (applyF f a) b = applyF f (a ++ b)
  | [], b => rfl
  | x :: a, [] => by rw [List.append_nil]; rfl
  | x :: a, y :: b => by
    by_cases h : (f.k == 6) = true ∧ f.l ≠ []
    · rw [show applyF f (x :: a) = .mk 6 [] 0 (f.l ++ (x :: a)) from if_pos h, show applyF f (x :: a ++ y :: b) = .mk 6 [] 0 (f.l ++ (x :: a ++ y :: b)) from if_pos h]
      rw [applyF6 _ _ _ (by simp)]
      simp
    · rw [show applyF f (x :: a) = .mk 6 [] 0 (f :: (x :: a)) from if_neg h, show applyF f (x :: a ++ y :: b) = .mk 6 [] 0 (f :: (x :: a ++ y :: b)) from if_neg h]
      rw [applyF6 _ _ _ (by simp)]
      simp
theorem applyF_len (f : Tm) : ∀ a : List Tm, (applyF f a).l.length ≤ 1 + f.l.length + a.length
  | [] => by rw [applyF_nil]; omega
  | x :: a => by
    by_cases h : (f.k == 6) = true ∧ f.l ≠ []
    · rw [show applyF f (x :: a) = .mk 6 [] 0 (f.l ++ (x :: a)) from if_pos h]
      simp only [Tm.l, List.length_append]; omega
    · rw [show applyF f (x :: a) = .mk 6 [] 0 (f :: (x :: a)) from if_neg h]
      simp only [Tm.l, List.length_cons]; omega
theorem lamsF_both (n : Nat) : ∀ (m : Nat) (f : Tm), lamsF n (lamsF m f) = lamsF (n + m) f
  | 0, _ => rfl
  | m + 1, f => by rw [lamsF, lamsF_both n m]; rfl
theorem lamsF_size : ∀ (n : Nat) (f : Tm), sizeF (lamsF n f) = n + sizeF f
  | 0, f => by rw [lamsF]; omega
  | n + 1, f => by
    rw [lamsF, lamsF_size n]
    have : sizeF (.mk 5 [] 0 [f]) = 1 + sizeF f := by simp [sizeF, sizeL]
    omega
theorem lamsF_sz : ∀ (n : Nat) (f : Tm), (lamsF n f).sz = n + f.sz
  | 0, f => by rw [lamsF]; omega
  | n + 1, f => by
    rw [lamsF, lamsF_sz n]
    simp only [Tm.sz, Tm.szs, List.length_nil]; omega

/-! ### THE LAW: applies -/
theorem applies_calls (f : Tm) (kf : Okay f) (n m : Nat) (hn : n ≤ 20) (hm : m ≤ 20) :
    AC Try.prog 22 [ci m, aT f] [] (aT (lamsF m f)) [] ∧ AC Try.prog 22 [ci n, aT (lamsF m f)] [] (aT (lamsF n (lamsF m f))) [] ∧ AC Try.prog 22 [ci ((n + m : Nat) : Int), aT f] [] (aT (lamsF (n + m) f)) [] ∧
    AC Try.prog 16 [aT (lamsF n (lamsF m f)), aT (lamsF (n + m) f)] [] (cb true) [] ∧ AC Try.prog 22 [ci n, aT f] [] (aT (lamsF n f)) [] ∧ AC Try.prog 23 [aT (lamsF n f)] [] (ci (sizeF (lamsF n f))) [] ∧ AC Try.prog 23 [aT f] [] (ci (sizeF f)) [] ∧
    ((sizeF (lamsF n f) : Int) == IntKind.wrap .i64 ((n : Int) + (sizeF f : Int))) = true := by
  have := kf.size
  have := sizeF_le f
  have h1 := lamsF_sz m f
  have h2 := lamsF_sz n (lamsF m f)
  have h3 := lamsF_sz n f
  have h4 := lamsF_size n f
  refine ⟨c_lams m f (by omega), c_lams n _ (by omega), c_lams (n + m) f (by omega), same_ok (by simp only [B]; omega) (lamsF_both n m f), c_lams n f (by omega), c_size _ (by simp only [B]; omega), c_size _ (by simp only [B]; omega), ?_⟩
  rw [w64 (by omega) (by omega), h4]
  simp
theorem applies_app (f : Tm) (a b : List Tm) (kf : Okay f) (ha : a.length ≤ 8) (hb : b.length ≤ 8) (hza : Tm.szs a ≤ 1048576) (hzb : Tm.szs b ≤ 1048576) :
    AC Try.prog 21 [aT f, aL a] [] (aT (applyF f a)) [] ∧ AC Try.prog 21 [aT (applyF f a), aL b] [] (aT (applyF (applyF f a) b)) [] ∧ AC Try.prog 21 [aT f, aL (a ++ b)] [] (aT (applyF f (a ++ b))) [] ∧
    AC Try.prog 16 [aT (applyF (applyF f a) b), aT (applyF f (a ++ b))] [] (cb true) [] ∧ AC Try.prog 21 [aT f, .c (.a (.fz .nils))] [] (aT f) [] ∧ AC Try.prog 16 [aT f, aT f] [] (cb true) [] := by
  have h0 := kf.size
  have h1 := Tm.szs_length f.l
  have h2 := f.sz_eq
  have h3 := applyF_sz f a
  have h4 := applyF_len f a
  have h5 : (applyF (applyF f a) b).sz ≤ 1 + (1 + f.sz + Tm.szs a) + Tm.szs b := Nat.le_trans (applyF_sz _ _) (by omega)
  have hs : AC Try.prog 16 [aT (applyF (applyF f a) b), aT (applyF f (a ++ b))] [] (cb true) [] := same_ok (by simp only [B] at *; omega) (applyF_both f a b)
  exact ⟨c_apply f a (by omega), c_apply _ b (by omega), c_apply f (a ++ b) (by rw [List.length_append]; omega), hs, (c_apply f [] (by simp only [List.length_nil]; omega)).args ⟨.refl _, le_c leNil, trivial⟩, same_ok (by simp only [B]; omega) rfl⟩
theorem row_len {l : List Tm} (h : rowL l = false) : l.length ≤ 8 := by
  simp only [rowL, Bool.or_eq_false_iff] at h
  have := of_decide_eq_false h.1
  omega
theorem c_applies (f : Tm) (a b : List Tm) (n m : Int) (hf : f.sz ≤ B) (ha : Tm.szs a ≤ 1048576) (hb : Tm.szs b ≤ 1048576) : AC Try.prog 5 [aT f, aL a, aL b, ci n, ci m] [] (cb true) [] := by
  have of := c_over f hf
  have oa := c_row a (by simp only [B]; omega)
  have ob := c_row b (by simp only [B]; omega)
  have vf := c_valid f hf
  obtain ⟨fk, fs, fn, fl⟩ := f
  refine AC.vc hP sh lv5 (Nat.le_refl _) (by simp) (by simp) (Eq.mpr (v5 fk fs fn (FTs fl) (FTs a) (FTs b) n m _ _) ?_)
  refine ⟨_, c_works, br_of (fun h => by cases h) (fun _ => ⟨_, of, _, oa, _, ob, _, vf, br_of (fun _ => ret1 rfl) (fun h1 => br_of (fun _ => ret1 rfl) (fun h2 => br_of (fun _ => ret1 rfl) (fun h3 => br_of (fun _ => ret1 rfl) (fun _ =>
    br_of (fun _ => ret1 rfl) (fun h5 => br_of (fun _ => ret1 rfl) (fun h6 => br_of (fun _ => ret1 rfl) (fun h7 => br_of (fun _ => ret1 rfl) (fun h8 => ⟨rfl, ?_⟩))))))))⟩)⟩
  have kf := okay h1
  have la := row_len h2
  have lb := row_len h3
  have h5 := of_decide_eq_false h5
  have h6 := of_decide_eq_false h6
  have h7 := of_decide_eq_false h7
  have h8 := of_decide_eq_false h8
  obtain ⟨n, rfl⟩ := Int.eq_ofNat_of_zero_le (a := n) (by omega)
  obtain ⟨m, rfl⟩ := Int.eq_ofNat_of_zero_le (a := m) (by omega)
  obtain ⟨l1, l2, l3, l4, l5, l6, l7, l8⟩ := applies_calls _ kf n m (by omega) (by omega)
  obtain ⟨p1, p2, p3, p4, p5, p6⟩ := applies_app _ a b kf la lb ha hb
  rw [w64 (x := (n : Int) + (m : Int)) (by omega) (by omega), show (n : Int) + (m : Int) = ((n + m : Nat) : Int) by omega]
  have ea : List.take (FTs b).length (List.drop 0 (FTs b)) = FTs b := by rw [List.drop_zero, List.take_length]
  have eb : List.take ((FTs a).length + (FTs b).length) (List.drop 0 (List.take (FTs a).length (FTs a) ++ FTs b)) = FTs (a ++ b) := by
    rw [List.drop_zero, List.take_length, ← List.length_append, List.take_length, FTs_append]
  have ra : roomB (FTs a).length 56 := by rw [FTs_length]; exact roomI (by omega)
  have rb : roomB (FTs b).length 56 := by rw [FTs_length]; exact roomI (by omega)
  have rab : roomB ((FTs a).length + (FTs b).length) 56 := by rw [FTs_length, FTs_length]; exact roomI (by omega)
  refine br_of (fun ha0 => ⟨rfl, br_of (fun hb0 => ?_) (fun _ => ⟨rb, ?_⟩)⟩) (fun _ => ⟨ra, rfl, ⟨Nat.le_refl _, rab⟩, ?_⟩)
  · have e1 : a = [] := by cases a with
      | nil => rfl
      | cons x a => simp [FTs] at ha0
    have e2 : b = [] := by cases b with
      | nil => rfl
      | cons x a => simp [FTs] at hb0
    subst e1; subst e2
    exact ⟨_, _, _, _, p1, _, _, _, _, p2, _, _, _, _, p5, _, p4, _, _, _, _, p5, _, p6, _, _, _, _, l1, _, _, _, _, l2, _, _, _, _, l3, _, l4,
      br_of (fun _ => br_of (fun _ => br_of (fun _ => br_of (fun _ => ⟨_, _, _, _, l5, _, l6, _, l7, ret1 l8⟩) (fun h => by cases h)) (fun h => by cases h)) (fun h => by cases h)) (fun h => by cases h)⟩
  · have e1 : a = [] := by cases a with
      | nil => rfl
      | cons x a => simp [FTs] at ha0
    subst e1
    rw [ea]
    exact ⟨_, _, _, _, p1, _, _, _, _, p2, ⟨rfl, by omega⟩, _, _, _, _, p3.args ⟨.refl _, le_c leSl, trivial⟩, _, p4, _, _, _, _, p5, _, p6, _, _, _, _, l1, _, _, _, _, l2, _, _, _, _, l3, _, l4,
      br_of (fun _ => br_of (fun _ => br_of (fun _ => br_of (fun _ => ⟨_, _, _, _, l5, _, l6, _, l7, ret1 l8⟩) (fun h => by cases h)) (fun h => by cases h)) (fun h => by cases h)) (fun h => by cases h)⟩
  · have el : (FTs a).length + (FTs b).length ≤ (List.take (FTs a).length (FTs a) ++ FTs b).length := by rw [List.take_length, List.length_append]; omega
    rw [eb]
    exact ⟨_, _, _, _, p1, _, _, _, _, p2, ⟨rfl, by omega⟩, _, _, _, _, p3.args ⟨.refl _, le_c leSl, trivial⟩, _, p4, _, _, _, _, p5, _, p6, _, _, _, _, l1, _, _, _, _, l2, _, _, _, _, l3, _, l4,
      br_of (fun _ => br_of (fun _ => br_of (fun _ => br_of (fun _ => ⟨_, _, _, _, l5, _, l6, _, l7, ret1 l8⟩) (fun h => by cases h)) (fun h => by cases h)) (fun h => by cases h)) (fun h => by cases h)⟩
end Go.AM
