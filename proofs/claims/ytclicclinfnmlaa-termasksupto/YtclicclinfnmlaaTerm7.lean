/- What is looked at is small; the contract of the document's example (works). No conditions. -/
import Derived.Test.YtclicclinfnmlaaTerm6
set_option maxRecDepth 100000
open Go Go.Proofs
namespace Go.AM
/-! ### What is not more than is looked at -/
mutual
theorem left_sz : ∀ (t : Tm) (m : Int), 0 ≤ leftF t m → longB t = false → (nd t : Int) ≤ m - leftF t m ∧ t.sz ≤ 61 * nd t
  | .mk _ s _ l, m, h, hl => by
    simp only [longB, Bool.or_eq_false_iff] at hl
    simp only [leftF] at h ⊢
    have := left_szs l (m - 1) h hl.2
    have := of_decide_eq_false hl.1
    simp only [nd, Tm.sz]; omega
theorem left_szs : ∀ (l : List Tm) (m : Int), 0 ≤ leftL l m → longL l = false → (nds l : Int) ≤ m - leftL l m ∧ Tm.szs l ≤ 61 * nds l
  | [], m, h, _ => by simp [nds, leftL, Tm.szs]
  | t :: l, m, h, hl => by
    simp only [longL, Bool.or_eq_false_iff] at hl
    simp only [leftL] at h ⊢
    split at h
    · rename_i h0
      rw [if_pos h0]
      have h1 := left_szs l _ h hl.2
      have h3 := (leftL_le l (leftF t m)).1
      have h2 := left_sz t m (by omega) hl.1
      simp only [nds, Tm.szs]; omega
    · rename_i h0; exact absurd h h0
end
mutual
theorem near_bd {M : Int} : ∀ t : Tm, near M t = true → bd M t
  | .mk k s n l, h => by
    simp only [near, Bool.and_eq_true] at h
    refine ⟨fun e => ?_, nears_bd l h.2⟩
    have := h.1
    rw [e] at this
    simp at this; omega
theorem nears_bd {M : Int} : ∀ l : List Tm, nears M l = true → bds M l
  | [], _ => trivial
  | t :: l, h => by
    simp only [nears, Bool.and_eq_true] at h
    exact ⟨near_bd t h.1, nears_bd l h.2⟩
end
/-- What is looked at. -/
structure Okay (t : Tm) : Prop where
  nodes : nd t ≤ 80
  size : t.sz ≤ 4880
  nums : bd 1099511627776 t
theorem okay {t : Tm} (h : overB t = false) : Okay t := by
  simp only [overB, Bool.or_eq_false_iff, large] at h
  have h1 := of_decide_eq_false h.1.1
  have h2 := left_sz t 80 (by omega) h.1.2
  exact ⟨by omega, by omega, near_bd t (by simpa using h.2)⟩

/-! ### The document's example -/
abbrev exF : Tm := .mk 0 [102] 0 []
abbrev exA : Tm := .mk 0 [97] 0 []
abbrev exB : Tm := applyF exF [.mk 3 [] 0 [], lamsF 1 (.mk 3 [] 1 [])]
theorem c_works : AC Try.prog 13 [] [] (cb true) [] := by
  have e0 : ∀ {k n : Int} {s : List UInt8}, TV.Le (.agg [.a (.fz (.int .i64 k)), .a (.fz (.str s)), .a (.fz (.int .i64 n)), .a (.fz .nils)]) (aT (.mk k s n [])) := leT leNil
  have args : ∀ {a b : List FV} {x y : Tm}, LeR a (FT x) → LeR b (FT y) → TV.Le (.c (.a (.fz (.sl true 4 [a, b])))) (aL [x, y]) := fun ha hb => le_c (leRows rfl fun i r t hr ht => by
    match i, hr, ht with
    | 0, hr, ht => simp only [List.getElem?_cons_zero, Option.some.injEq] at hr ht; subst hr; subst ht; exact ha
    | 1, hr, ht => simp only [List.getElem?_cons_zero, List.getElem?_cons_succ, Option.some.injEq] at hr ht; subst hr; subst ht; exact hb
    | i + 2, hr, _ => simp at hr)
  refine AC.vc hP sh lv13 (Nat.le_refl _) (by simp) (by simp) (Eq.mpr (v13 ..) ?_)
  refine ⟨_, _, _, _, (c_lams 1 (.mk 3 [] 1 []) (by omega)).args ⟨.refl _, e0, trivial⟩, ⟨rfl, by omega⟩,
    _, _, _, _, (c_apply exF [.mk 3 [] 0 [], lamsF 1 (.mk 3 [] 1 [])] (by decide)).args ⟨e0, args (leFT leNil) (LeR.refl _), trivial⟩,
    _, _, _, _, (c_subst exB exA 0 (by decide) (by decide) ?_ ?_ (by omega) (by decide)).args ⟨.refl _, .refl _, e0, trivial⟩,
    _, _, _, _, (c_lams 1 exA (by omega)).args ⟨.refl _, e0, trivial⟩, ⟨rfl, by omega⟩,
    _, _, _, _, (c_apply exF [exA, lamsF 1 exA] (by decide)).args ⟨e0, args (leFT leNil) (LeR.refl _), trivial⟩,
    _, c_valid exB (by decide), _, c_rsame (suT 0 exA exB 0) (by decide) (applyF exF [exA, lamsF 1 exA]), rfl, ?_⟩
  · simp [bd, bds, exB, applyF, lamsF, exF, Tm.k, M61]
  · simp [bd, bds, exA, M61]
  have v1 : validB exB = true := by decide
  have v2 : sameB (suT 0 exA exB 0) (applyF exF [exA, lamsF 1 exA]) = true := by decide
  refine br_of (fun _ => ⟨rfl, br_of (fun _ => ?_) (fun h => by cases h)⟩) (fun h => by cases h)
  rw [v1, v2]
  exact ⟨_, c_size exB (by decide), _, c_loose exB (by decide) (by simp [bd, bds, exB, applyF, lamsF, exF, Tm.k, M61]), ret_b (by decide)⟩
end Go.AM
