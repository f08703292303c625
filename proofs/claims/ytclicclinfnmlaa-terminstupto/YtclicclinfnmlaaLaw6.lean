/- The contracts of law functions, and the plain laws behind them (Law6). No conditions. -/
import Derived.Test.YtclicclinfnmlaaTerm10
set_option maxRecDepth 100000
open Go Go.Proofs
namespace Go.AM
/-! ### Plain laws: terms in the place of variables -/
theorem inLeaf_no {bl : List Tm} {k : Int} {s : List UInt8} {n : Int} {l : List Tm} {d : Int} (h : ¬ ((k == 4) = true ∧ 0 ≤ n ∧ n < (bl.length : Int))) : inLeaf bl (.mk k s n l) d = .mk k s n l := if_neg h
theorem inLeaf_at {bl : List Tm} {k : Int} {s : List UInt8} {n : Int} {l : List Tm} {d : Int} (h : (k == 4) = true ∧ 0 ≤ n ∧ n < (bl.length : Int)) : inLeaf bl (.mk k s n l) d = shT 0 d (bl.getD n.toNat default) 0 := if_pos h
theorem inT_in (bl : List Tm) (k : Int) (s : List UInt8) (n : Int) (l : List Tm) (d : Int) (hk : (k == 5 || k == 6) = true) : inT bl (.mk k s n l) d = withF (.mk k s n l) (walkL (inLeaf bl) l (d + byI k)) := by rw [inT, walkF, if_pos hk]
theorem inT_leaf (bl : List Tm) (k : Int) (s : List UInt8) (n : Int) (l : List Tm) (d : Int) (hk : (k == 5 || k == 6) = false) : inT bl (.mk k s n l) d = inLeaf bl (.mk k s n l) d := walkF_leaf _ k s n l d hk
mutual
theorem in_sh (b : List Tm) (d : Int) (hd : 0 ≤ d) : ∀ (t : Tm) (e : Int), 0 ≤ e → inT b (shT 0 d t e) (d + e) = shT 0 d (inT b t e) e
  | .mk k s n l, e, he => by
    cases hk : (k == 5 || k == 6) with
    | true => rw [shT_in _ _ _ _ _ _ _ hk, inT_in _ _ _ _ _ _ hk, inT_in _ _ _ _ _ _ hk, sh_with _ _ _ _ _ _ _ _ hk, Int.add_assoc, in_shs b d hd l _ (by have := by_ite k; omega)]
    | false =>
      rw [shT_leaf _ _ _ _ _ _ _ hk, inT_leaf _ _ _ _ _ _ hk]
      by_cases h3 : (k == 3) = true
      · have hno : ∀ m : Int, ¬ ((k == 4) = true ∧ 0 ≤ m ∧ m < (b.length : Int)) := fun m h => by
          have e3 : k = 3 := by simpa using h3
          rw [e3] at h; exact absurd h.1 (by decide)
        rw [inLeaf_no (hno n), shT_leaf _ _ _ _ _ _ _ hk]
        by_cases h : e + 0 ≤ n
        · rw [shLeaf_ge h3 h, inT_leaf _ _ _ _ _ _ hk, inLeaf_no (hno _)]
        · rw [shLeaf_no (fun e' => h e'.2), inT_leaf _ _ _ _ _ _ hk, inLeaf_no (hno _)]
      · have hs : ∀ f : Int, ¬ ((k == 3) = true ∧ f + 0 ≤ n) := fun f h => h3 h.1
        rw [shLeaf_no (hs e), inT_leaf _ _ _ _ _ _ hk]
        by_cases h4 : (k == 4) = true ∧ 0 ≤ n ∧ n < (b.length : Int)
        · rw [inLeaf_at h4, inLeaf_at h4]
          have := sh_sh d e he (b.getD n.toNat default) 0
          rw [Int.add_zero] at this; exact this.symm
        · rw [inLeaf_no h4, inLeaf_no h4, shT_leaf _ _ _ _ _ _ _ hk, shLeaf_no (hs e)]
theorem in_shs (b : List Tm) (d : Int) (hd : 0 ≤ d) : ∀ (l : List Tm) (e : Int), 0 ≤ e → walkL (inLeaf b) (walkL (shLeaf 0 d) l e) (d + e) = walkL (shLeaf 0 d) (walkL (inLeaf b) l e) e
  | [], _, _ => rfl
  | t :: l, e, he => by
    have h1 := in_sh b d hd t e he
    simp only [shT, inT] at h1
    simp only [walkL, h1, in_shs b d hd l e he]
end
theorem validL_mem : ∀ {l : List Tm} {u : Tm}, validL l = true → u ∈ l → validB u = true
  | x :: l, u, h, hu => by
    simp only [validL, Bool.and_eq_true] at h
    rcases List.mem_cons.1 hu with rfl | hu
    · exact h.1
    · exact validL_mem h.2 hu
theorem valid_kids {k : Int} {s : List UInt8} {n : Int} {l : List Tm} (h : validB (.mk k s n l) = true) (hk : (k == 5 || k == 6) = true) : ∀ u ∈ l, validB u = true := by
  refine fun u hu => validL_mem ?_ hu
  rcases Bool.or_eq_true_iff.1 hk with h5 | h6
  · have e : k = 5 := by simpa using h5
    subst e; simp [validB] at h; exact h.2
  · have e : k = 6 := by simpa using h6
    subst e; simp [validB] at h; exact h.2
theorem valid_top {t : Tm} (h : validB t = true) : topF t := by have := valid_flat t h; cases t; exact this.1
theorem valid_var {k : Int} {s : List UInt8} {n : Int} {l : List Tm} (h : validB (.mk k s n l) = true) (h4 : (k == 4) = true) : 0 ≤ n ∧ s = [] ∧ l = [] := by
  have e : k = 4 := by simpa using h4
  subst e
  simp [validB] at h
  exact ⟨h.1.1.1.1, h.1.1.2, by
    have h2 := h.1.2
    cases l with
    | nil => rfl
    | cons x l => simp [FTs] at h2⟩
theorem leaf_top {k : Int} {s : List UInt8} {n : Int} {l : List Tm} (hk : (k == 5 || k == 6) = false) : topF (.mk k s n l) := by
  intro h6
  have h6 : (k == 6) = true := h6
  rw [h6] at hk; simp at hk
/-- No walk. -/
def idLeaf (u : Tm) (_ : Int) : Tm := u
theorem walk_idLeaf (t : Tm) (d : Int) : walkF idLeaf t d = t := walk_id _ (fun _ _ => True) (fun _ _ _ _ _ _ _ _ _ => trivial) (fun _ _ _ _ _ _ _ => rfl) t d trivial
theorem hasI_mem {v : Int} {l : List Int} : hasI v l = true ↔ v ∈ l := by
  simp only [hasI, List.any_eq_true, beq_iff_eq]
  exact ⟨fun ⟨x, h, e⟩ => by rw [e]; exact h, fun h => ⟨v, h, rfl⟩⟩
theorem varsL_mem : ∀ {l : List Tm} {acc : List Int} {t : Tm}, t ∈ l → ∃ acc', ∀ v ∈ varsF t acc', v ∈ varsL l acc
  | x :: l, acc, t, h => by
    rcases List.mem_cons.1 h with rfl | h
    · refine ⟨acc, fun v hv => ?_⟩
      obtain ⟨e, he⟩ := varsL_ext l (varsF t acc)
      rw [varsL, he]; exact List.mem_append_left _ hv
    · exact varsL_mem (l := l) (acc := varsF x acc) h
theorem walk_top0 (lf : Tm → Int → Tm) (x : Tm) (d : Int) (hx : (x.k == 6) = false) (hl : (x.k == 5 || x.k == 6) = false → topF (lf x d)) : topF (walkF lf x d) := by
  obtain ⟨k, s, n, l⟩ := x
  cases hk : (k == 5 || k == 6) with
  | true =>
    rw [walkF, if_pos hk]
    intro h6
    rw [withF_k] at h6
    have hx : (k == 6) = false := hx
    have h6 : (k == 6) = true := h6
    rw [hx] at h6; cases h6
  | false => rw [walkF_leaf _ _ _ _ _ _ hk]; exact hl hk
theorem walk_top (lf : Tm → Int → Tm) (hl : ∀ k s n l d, (k == 5 || k == 6) = false → topF (lf (.mk k s n l) d)) (t : Tm) (d : Int) (ht : topF t) : topF (walkF lf t d) := by
  by_cases h6 : (t.k == 6) = true
  · obtain ⟨h2, h3⟩ := ht h6
    obtain ⟨k, s, n, l⟩ := t
    have e : k = 6 := by simpa [Tm.k] using h6
    subst e
    simp only [Tm.l] at h2 h3
    match l, h2, h3 with
    | x :: y :: l, _, h3 =>
      have h3' : (x.k == 6) = false := h3
      have hx : topF (walkF lf x d) := walk_top0 lf x d h3' (fun e => by obtain ⟨a1, a2, a3, a4⟩ := x; exact hl _ _ _ _ _ e)
      have in6 : walkF lf (.mk 6 s n (x :: y :: l)) d = withF (.mk 6 s n (x :: y :: l)) (walkL lf (x :: y :: l) d) := by
        rw [walkF, if_pos (show ((6 : Int) == 5 || (6 : Int) == 6) = true from rfl)]; simp
      have ew : walkL lf (x :: y :: l) d = walkF lf x d :: walkF lf y d :: walkL lf l d := rfl
      rw [in6, ew]
      generalize walkF lf x d = X at hx ⊢
      by_cases hX : (X.k == 6) = true
      · rw [withF_pos rfl (by simp) hX h3]
        obtain ⟨g2, g3⟩ := hx hX
        obtain ⟨k', s', n', q⟩ := X
        simp only [Tm.l] at g2 g3
        match q, g2, g3 with
        | z :: w :: q, _, g3 =>
          rw [applyF_in (k := k') _ _ hX (by simp)]
          exact fun _ => ⟨by simp [Tm.l], g3⟩
      · rw [withF_neg (o := X :: walkF lf y d :: walkL lf l d) (fun e => hX e.2.2.1)]
        exact fun _ => ⟨by simp [Tm.l], by simpa [Tm.l] using hX⟩
  · exact walk_top0 lf t d (by simpa using h6) (fun e => by obtain ⟨a1, a2, a3, a4⟩ := t; exact hl _ _ _ _ _ e)
theorem inLeaf_top {bl : List Tm} (hb : ∀ u ∈ bl, topF u) (k : Int) (s : List UInt8) (n : Int) (l : List Tm) (d : Int) (hk : (k == 5 || k == 6) = false) : topF (inLeaf bl (.mk k s n l) d) := by
  by_cases h4 : (k == 4) = true ∧ 0 ≤ n ∧ n < (bl.length : Int)
  · rw [inLeaf_at h4]; exact sh_top (hb _ (getD_n h4.2.1 h4.2.2).2)
  · rw [inLeaf_no h4]; exact leaf_top hk
theorem suLeaf_top {i : Int} {s' : Tm} (hs : topF s') (k : Int) (s : List UInt8) (n : Int) (l : List Tm) (d : Int) (hk : (k == 5 || k == 6) = false) : topF (suLeaf i s' (.mk k s n l) d) := by
  by_cases h3 : (k == 3) = true
  · rcases Int.lt_trichotomy n (d + i) with h | h | h
    · rw [suLeaf_lt h3 h]; exact leaf_top hk
    · rw [suLeaf_eq h3 h]; exact sh_top hs
    · rw [suLeaf_gt h3 h]; exact leaf_top hk
  · rw [suLeaf_ne h3]; exact leaf_top hk
/-- Both at once. -/
theorem in_both (a b : List Tm) (t : Tm) (ha : ∀ u ∈ a, validB u = true) (hb : ∀ u ∈ b, validB u = true) (ht : validB t = true) (hv : ∀ v ∈ varsF t [], v < (a.length : Int)) :
    inT b (inT a t 0) 0 = inT (a.map fun u => inT b u 0) t 0 := by
  have C : Comp (inLeaf b) (inLeaf a) idLeaf (inLeaf (a.map fun u => inT b u 0)) (fun t d => validB t = true ∧ 0 ≤ d ∧ ∃ acc, ∀ v ∈ varsF t acc, v < (a.length : Int)) := by
    refine ⟨fun k s n l d ⟨h1, h2, acc, h3⟩ hk u hu => ⟨valid_kids h1 hk u hu, by have := by_ite k; unfold byI; omega, ?_⟩, fun t d h => h.2.1, fun k s n l d h => valid_top h.1, fun k s n l d hk ⟨h1, h2, acc, h3⟩ => ?_, fun k s n l d hk ⟨h1, _, _⟩ => ?_⟩
    · rw [varsF, if_pos hk] at h3
      obtain ⟨acc', h4⟩ := varsL_mem (acc := acc) hu
      exact ⟨acc', fun v hv => h3 v (h4 v hv)⟩
    · rw [walk_idLeaf]
      by_cases h4 : (k == 4) = true
      · have hn := (valid_var h1 h4).1
        have hlt : n < (a.length : Int) := by
          refine h3 n ?_
          rw [varsF, if_neg (by rw [hk]; simp), varsLeaf]
          by_cases hh : hasI n acc = true
          · rw [if_neg (by rw [show Tm.n (.mk k s n l) = n from rfl, hh]; simp)]; exact hasI_mem.1 hh
          · rw [if_pos (by rw [show Tm.n (.mk k s n l) = n from rfl, show Tm.k (.mk k s n l) = k from rfl, h4, show hasI n acc = false by simpa using hh]; rfl)]
            exact List.mem_append_right _ List.mem_cons_self
        rw [inLeaf_at ⟨h4, hn, hlt⟩, inLeaf_at ⟨h4, hn, by simpa using hlt⟩]
        have hi : n.toNat < a.length := by omega
        rw [show (a.map fun u => inT b u 0).getD n.toNat default = inT b (a.getD n.toNat default) 0 by simp [List.getD, hi]]
        have := in_sh b d h2 (a.getD n.toNat default) 0 (Int.le_refl _)
        rw [Int.add_zero] at this; exact this
      · rw [inLeaf_no (fun e => h4 e.1), inLeaf_no (fun e => h4 e.1), walkF_leaf _ _ _ _ _ _ hk, inLeaf_no (fun e => h4 e.1)]
    · refine ⟨inLeaf_top (fun u hu => valid_top (ha u hu)) _ _ _ _ _ hk, inLeaf_top (fun u hu => ?_) _ _ _ _ _ hk⟩
      obtain ⟨x, hx, rfl⟩ := List.mem_map.1 hu
      exact walk_top _ (inLeaf_top (fun u hu => valid_top (hb u hu))) x 0 (valid_top (ha x hx))
  have := walk_comp C t 0 ⟨ht, Int.le_refl _, [], hv⟩
  rw [walk_idLeaf] at this
  exact this
/-- Themselves. -/
def ownF (m : Nat) : List Tm := (List.range m).map fun i : Nat => .mk 4 [] (i : Int) []
theorem ownF_len (m : Nat) : (ownF m).length = m := by simp [ownF]
theorem in_own (m : Nat) (t : Tm) (ht : validB t = true) : inT (ownF m) t 0 = t := by
  refine walk_id _ (fun t _ => validB t = true) (fun k s n l d h hk u hu => valid_kids h hk u hu) (fun k s n l d hk h => ?_) t 0 ht
  by_cases h4 : (k == 4) = true ∧ 0 ≤ n ∧ n < ((ownF m).length : Int)
  · rw [inLeaf_at h4]
    obtain ⟨h1, h2, h3⟩ := h4
    rw [ownF_len] at h3
    obtain ⟨_, e1, e2⟩ := valid_var h h1
    subst e1; subst e2
    have hi : n.toNat < m := by omega
    rw [show (ownF m).getD n.toNat default = .mk 4 [] n [] by simp [ownF, List.getD, hi]; omega]
    have e : k = 4 := by simpa using h1
    subst e
    rw [shT_leaf _ _ _ _ _ _ _ rfl, shLeaf_no (fun e => absurd e.1 (by decide))]
  · exact inLeaf_no h4
theorem in_none (t : Tm) : inT [] t 0 = t := walk_id _ (fun _ _ => True) (fun _ _ _ _ _ _ _ _ _ => trivial) (fun k s n l d _ _ => inLeaf_no (fun e => by have := e.2; simp at this; omega)) t 0 trivial
/-- What is bound first, or variables first. -/
theorem in_su (a : List Tm) (s0 t : Tm) (ha : ∀ u ∈ a, validB u = true) (hs : validB s0 = true) (ht : validB t = true) :
    inT a (suT 0 s0 t 0) 0 = suT 0 (inT a s0 0) (inT (a.map fun u => shT 0 1 u 0) t 0) 0 := by
  have C : Comp (inLeaf a) (suLeaf 0 s0) (suLeaf 0 (inT a s0 0)) (inLeaf (a.map fun u => shT 0 1 u 0)) (fun t d => validB t = true ∧ 0 ≤ d) := by
    refine ⟨fun k s n l d ⟨h1, h2⟩ hk u hu => ⟨valid_kids h1 hk u hu, by have := by_ite k; unfold byI; omega⟩, fun t d h => h.2, fun k s n l d h => valid_top h.1, fun k s n l d hk ⟨h1, h2⟩ => ?_, fun k s n l d hk ⟨h1, _⟩ => ?_⟩
    · by_cases h3 : (k == 3) = true
      · have hno : ∀ (bl : List Tm) (m : Int), ¬ ((k == 4) = true ∧ 0 ≤ m ∧ m < (bl.length : Int)) := fun bl m h => by
          have e3 : k = 3 := by simpa using h3
          rw [e3] at h; exact absurd h.1 (by decide)
        rw [inLeaf_no (hno _ n), walkF_leaf (suLeaf 0 _) _ _ _ _ _ hk]
        rcases Int.lt_trichotomy n (d + 0) with h | h | h
        · rw [suLeaf_lt h3 h, suLeaf_lt h3 h, walkF_leaf _ _ _ _ _ _ hk, inLeaf_no (hno _ n)]
        · rw [suLeaf_eq h3 h, suLeaf_eq h3 h]
          have := in_sh a d h2 s0 0 (Int.le_refl _)
          rw [Int.add_zero] at this; exact this
        · rw [suLeaf_gt h3 h, suLeaf_gt h3 h, walkF_leaf _ _ _ _ _ _ hk, inLeaf_no (hno _ _)]
      · rw [suLeaf_ne h3, walkF_leaf _ _ _ _ _ _ hk]
        by_cases h4 : (k == 4) = true ∧ 0 ≤ n ∧ n < (a.length : Int)
        · have hi : n.toNat < a.length := by omega
          rw [inLeaf_at h4, inLeaf_at ⟨h4.1, h4.2.1, by simpa using h4.2.2⟩]
          rw [show (a.map fun u => shT 0 1 u 0).getD n.toNat default = shT 0 1 (a.getD n.toNat default) 0 by simp [List.getD, hi]]
          have := su_sh d 0 h2 (Int.le_refl _) (inT a s0 0) (shT 0 1 (a.getD n.toNat default) 0) 0 (Int.le_refl _)
          rw [Int.add_zero, su_back] at this
          exact this.symm
        · rw [inLeaf_no h4, inLeaf_no (fun e => h4 ⟨e.1, e.2.1, by have := e.2.2; simpa using this⟩), walkF_leaf _ _ _ _ _ _ hk, suLeaf_ne h3]
    · refine ⟨suLeaf_top (valid_top hs) _ _ _ _ _ hk, inLeaf_top (fun u hu => ?_) _ _ _ _ _ hk⟩
      obtain ⟨x, hx, rfl⟩ := List.mem_map.1 hu
      exact sh_top (valid_top (ha x hx))
  exact walk_comp C t 0 ⟨ht, Int.le_refl _⟩
end Go.AM
