/- The contracts of law functions, and the plain laws behind them (Term11). No conditions. -/
import Derived.Test.YtclicclinfnmlaaTerm9
set_option maxRecDepth 100000
open Go Go.Proofs
namespace Go.AM
/-! ### The document's answers: letters -/
theorem c_rsmall (c : Int) : AC Try.prog 104 [c8 c] [] (cb (smallB c)) [] := by
  refine AC.vc hP sh lv104 (Nat.le_refl _) (by simp) (by simp) (Eq.mpr (v104 ..) ?_)
  refine br_of (fun h => ret_b ?_) (fun h => ret_b ?_) <;> simp_all [smallB] <;> omega
theorem c_rdigit (c : Int) : AC Try.prog 120 [c8 c] [] (cb (digitB c)) [] := by
  refine AC.vc hP sh lv120 (Nat.le_refl _) (by simp) (by simp) (Eq.mpr (v120 ..) ?_)
  refine br_of (fun h => ret_b ?_) (fun h => ret_b ?_) <;> simp_all [digitB] <;> omega
theorem c_rin (c : Int) : AC Try.prog 105 [c8 c] [] (cb (insideB c)) [] := by
  refine AC.vc hP sh lv105 (Nat.le_refl _) (by simp) (by simp) (Eq.mpr (v105 ..) ?_)
  have key : (decide (c ≥ 65) && decide (c ≤ 90)) = false → (c == 95) = false → smallB c = false → digitB c = false → (c == 39) = insideB c := fun h1 h2 h3 h4 => by
    have e : greatB c = false := by unfold greatB; rw [h2, show (decide (65 ≤ c) && decide (c ≤ 90)) = false from h1]; rfl
    simp only [insideB, h3, h4, e, Bool.false_or]
  have k1 : smallB c = true → true = insideB c := fun h => by simp only [insideB, h, Bool.true_or]
  have k2 : greatB c = true → true = insideB c := fun h => by simp only [insideB, h, Bool.true_or, Bool.or_true]
  have k3 : digitB c = true → true = insideB c := fun h => by simp only [insideB, h, Bool.true_or, Bool.or_true]
  have k4 : (c == 95) = true → greatB c = true := fun h => by unfold greatB; rw [h]; simp
  refine ⟨_, c_rsmall c, br_of (fun h => ret_b (k1 h)) (fun h => br_of (fun h1 => br_of (fun h2 => ret_b (k2 ?_)) (fun h2 => ⟨_, c_rdigit c, br_of (fun h3 => ret_b (k3 h3)) (fun h3 => br_of (fun h4 => ret_b (k2 (k4 h4))) (fun h4 => ret_b (key ?_ h4 h h3)))⟩)) (fun h1 => ⟨_, c_rdigit c, br_of (fun h3 => ret_b (k3 h3)) (fun h3 => br_of (fun h4 => ret_b (k2 (k4 h4))) (fun h4 => ret_b (key ?_ h4 h h3)))⟩))⟩
  · unfold greatB; rw [show decide (65 ≤ c) = true from h1, h2]; rfl
  · rw [h2]; simp
  · rw [h1]; simp
theorem sign_any (c : UInt8) : signB (c.toNat : Int) = signs.any fun x => ((x.toNat : Int) == (c.toNat : Int)) := by
  have key : ∀ n : Fin 256, signB (n.val : Int) = signs.any fun x => ((x.toNat : Int) == (n.val : Int)) := by decide +kernel
  exact key ⟨c.toNat, c.toNat_lt⟩
theorem l_rsign (c : Int) : ∀ (b a : List UInt8), a ++ b = signs → (a.any fun x => ((x.toNat : Int) == c)) = false →
    RPt Try.prog 106 0 (cb (signs.any fun x => ((x.toNat : Int) == c))) [] 1 ⟨[(0, c8 c), (3, ci a.length)], [], 0⟩
  | [], a, hab, ha => by
    rw [List.append_nil] at hab
    subst hab
    refine RPt.vc hP sh lv106 (Eq.mpr (v106_1a ..) ?_)
    exact br_of (fun h => absurd (of_decide_eq_true h) (by decide)) (fun _ => ret_b ha.symm)
  | x :: b, a, hab, ha => by
    have hl : a.length < 16 := by
      have : (a ++ x :: b).length = 16 := by rw [hab]; rfl
      simp at this; omega
    have hg : List.getD signs (Int.toNat (a.length : Int)) 0 = x := by rw [← hab]; exact gD_mid8 a x b
    refine RPt.vc hP sh lv106 (Eq.mpr (v106_1a ..) ?_)
    rw [w64 (x := (a.length : Int) + 1) (by omega) (by omega)]
    refine br_of (fun _ => ⟨⟨by omega, by omega⟩, br_of (fun h => ret_b ?_) (fun h => ?_)⟩) (fun h => absurd (of_decide_eq_false h) (by omega))
    · have h : (((List.getD signs (Int.toNat (a.length : Int)) 0).toNat : Int) == c) = true := h
      rw [hg] at h
      rw [← hab]; simp only [List.any_append, List.any_cons, h, Bool.true_or, Bool.or_true]
    · have h : (((List.getD signs (Int.toNat (a.length : Int)) 0).toNat : Int) == c) = false := h
      rw [hg] at h
      have := l_rsign c b (a ++ [x]) (by rw [ap]; exact hab) (by simp only [List.any_append, List.any_cons, List.any_nil, ha, h, Bool.or_self])
      rw [nx] at this; exact this
theorem c_rsign (c : UInt8) : AC Try.prog 106 [c8 (c.toNat : Int)] [] (cb (signB (c.toNat : Int))) [] := by
  rw [sign_any]
  refine AC.vc hP sh lv106 (Nat.le_refl _) (by simp) (by simp) (Eq.mpr (v106 ..) ?_)
  exact l_rsign _ signs [] rfl rfl
theorem l_risname : ∀ (b a : List UInt8), (a ++ b).length ≤ B → RPt Try.prog 74 0 (cb (b.all fun c => insideB (c.toNat : Int))) [] 1 ⟨[(0, cs (a ++ b)), (3, ci a.length)], [], 0⟩
  | [], a, _ => by
    refine RPt.vc hP sh lv74 (Eq.mpr (v74_1a ..) ?_)
    exact br_of (fun h => absurd (of_decide_eq_true h) (by simp)) (fun _ => ret_b rfl)
  | x :: b, a, hl => by
    have hl' := hl
    simp only [List.length_append, List.length_cons, B] at hl'
    have h2 := l_risname b (a ++ [x]) (by rw [ap]; exact hl)
    rw [ap, nx] at h2
    refine RPt.vc hP sh lv74 (Eq.mpr (v74_1a ..) ?_)
    rw [gD_mid8, w64 (x := (a.length : Int) + 1) (by omega) (by omega)]
    refine br_of (fun _ => ⟨⟨by omega, ltI a x b⟩, _, c_rin _, br_of (fun h => ret_b ?_) (fun h => ?_)⟩) (fun h => absurd (ltI a x b) (of_decide_eq_false h))
    · rw [List.all_cons, show insideB (x.toNat : Int) = false by simpa using h]; rfl
    · rw [List.all_cons, show insideB (x.toNat : Int) = true by simpa using h]; exact h2
theorem c_risname (s : List UInt8) : AC Try.prog 74 [cs s] [] (cb (isName s)) [] := by
  refine AC.vc hP sh lv74 (Nat.le_refl _) (by simp) (by simp) (Eq.mpr (v74 ..) ?_)
  refine br_of (fun h => ret_b ?_) (fun h => br_of (fun h1 => ret_b ?_) (fun h1 => ?_))
  · have h := of_decide_eq_true h
    cases s with
    | nil => rfl
    | cons c s => simp at h; omega
  · have h1 := of_decide_eq_true h1
    have : fitsB s = false := by simp only [fitsB]; rw [show decide ((s.length : Int) ≤ 32) = false by simp; omega]; simp
    simp only [isName, this, Bool.false_and]
  · have h := of_decide_eq_false h
    have h1 := of_decide_eq_false h1
    have hf : fitsB s = true := by
      simp only [fitsB]
      cases s with
      | nil => simp at h
      | cons c s => simp at h1 ⊢; omega
    refine ⟨⟨by omega, by omega⟩, _, c_rsmall _, br_of (fun h2 => ret_b ?_) (fun h2 => ?_)⟩
    · simp only [isName, show smallB ((s.getD 0 0).toNat : Int) = false by simpa using h2, Bool.and_false, Bool.false_and]
    · have := l_risname s [] (by simp only [List.nil_append, B]; omega)
      rw [show isName s = s.all fun c => insideB (c.toNat : Int) by simp only [isName, hf, show smallB ((s.getD 0 0).toNat : Int) = true by simpa using h2, Bool.true_and]]
      exact this
theorem l_rissym (s : List UInt8) : ∀ (b a : List UInt8), a ++ b = s → (s.length ≤ B) →
    RPt Try.prog 75 0 (cb ((b.all fun c => signB (c.toNat : Int)) && decide ((s.length : Int) ≥ 1) && decide ((s.length : Int) ≤ 32))) [] 1 ⟨[(0, cs s), (3, ci a.length)], [], 0⟩
  | [], a, hab, _ => by
    rw [List.append_nil] at hab
    subst hab
    refine RPt.vc hP sh lv75 (Eq.mpr (v75_1a ..) ?_)
    refine br_of (fun h => absurd (of_decide_eq_true h) (by omega)) (fun _ => br_of (fun h => ret_b ?_) (fun h => ret_b ?_))
    · rw [h]; simp
    · rw [h]; simp
  | x :: b, a, hab, hl => by
    have h3 := ltI a x b
    have hg := gD_mid8 a x b
    rw [hab] at h3 hg
    have h2 := l_rissym s b (a ++ [x]) (by rw [ap]; exact hab) hl
    rw [nx] at h2
    simp only [B] at hl
    refine RPt.vc hP sh lv75 (Eq.mpr (v75_1a ..) ?_)
    rw [hg, w64 (x := (a.length : Int) + 1) (by omega) (by omega)]
    refine br_of (fun _ => ⟨⟨by omega, h3⟩, _, c_rsign x, br_of (fun h => ret_b ?_) (fun h => ?_)⟩) (fun h => absurd h3 (of_decide_eq_false h))
    · rw [List.all_cons, show signB (x.toNat : Int) = false by simpa using h]; rfl
    · rw [List.all_cons, show signB (x.toNat : Int) = true by simpa using h]; exact h2
theorem sym_eq (s : List UInt8) : isSym s = (s == [44] || s == [59] || s == [33] || ((s.all fun c => signB (c.toNat : Int)) && decide ((s.length : Int) ≥ 1) && decide ((s.length : Int) ≤ 32))) := by
  match s with
  | [] => rfl
  | [c] =>
    have key : ∀ n : Fin 256, isSym [n.val.toUInt8] = ([n.val.toUInt8] == [44] || [n.val.toUInt8] == [59] || [n.val.toUInt8] == [33] || (([n.val.toUInt8].all fun c => signB (c.toNat : Int)) && decide ((([n.val.toUInt8].length : Nat) : Int) ≥ 1) && decide ((([n.val.toUInt8].length : Nat) : Int) ≤ 32))) := by decide +kernel
    have e : c.toNat.toUInt8 = c := by simp
    have := key ⟨c.toNat, c.toNat_lt⟩
    simp only [e] at this
    exact this
  | c :: d :: s =>
    have h2 : ∀ x : UInt8, ((c :: d :: s : List UInt8) == [x]) = false := fun x => by simp
    simp only [isSym, fitsB, h2, Bool.false_or]
    rw [show (((c :: d :: s).length : Int) == 1) = false by simp; omega, show decide (((c :: d :: s).length : Int) ≥ 1) = true by simp; omega]
    simp [Bool.and_comm]
theorem c_rissym (s : List UInt8) (hl : s.length ≤ B) : AC Try.prog 75 [cs s] [] (cb (isSym s)) [] := by
  rw [sym_eq]
  refine AC.vc hP sh lv75 (Nat.le_refl _) (by simp) (by simp) (Eq.mpr (v75 ..) ?_)
  refine br_of (fun h => ret_b ?_) (fun h => br_of (fun h1 => ret_b ?_) (fun h1 => br_of (fun h2 => ret_b ?_) (fun h2 => ?_)))
  · rw [h]; rfl
  · rw [h, h1]; rfl
  · rw [h, h1, h2]; rfl
  · rw [h, h1, h2, Bool.false_or, Bool.false_or, Bool.false_or]
    exact l_rissym s s [] rfl hl
end Go.AM
