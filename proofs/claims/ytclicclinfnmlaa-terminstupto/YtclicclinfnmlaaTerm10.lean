/- The contracts of law functions, and the plain laws behind them (Term10). No conditions. -/
import Derived.Test.YtclicclinfnmlaaTerm4b
set_option maxRecDepth 100000
open Go Go.Proofs
namespace Go.AM
/-! ### Inst -/
def inLeaf (bl : List Tm) (u : Tm) (d : Int) : Tm := if (u.k == 4) = true ∧ 0 ≤ u.n ∧ u.n < (bl.length : Int) then shT 0 d (bl.getD u.n.toNat default) 0 else u
def inT (bl : List Tm) (t : Tm) (d : Int) : Tm := walkF (inLeaf bl) t d
theorem getD_n {bl : List Tm} {n : Int} (h0 : 0 ≤ n) (h1 : n < (bl.length : Int)) : List.getD (FTs bl) (Int.toNat n) [] = FT (bl.getD n.toNat default) ∧ bl.getD n.toNat default ∈ bl := by
  have h : n.toNat < bl.length := by omega
  have e : bl.getD n.toNat default = bl[n.toNat] := by simp [List.getD, h]
  rw [e]
  exact ⟨getD_i h, List.getElem_mem h⟩
theorem inLeaf_sz (bl : List Tm) (S : Nat) (hS : ∀ x ∈ bl, x.sz ≤ S) (u : Tm) (d : Int) : (inLeaf bl u d).sz ≤ u.sz + S := by
  unfold inLeaf
  split
  · rename_i h
    have h1 := shT_sz 0 d (bl.getD u.n.toNat default) 0
    have h2 := hS _ (getD_n h.2.1 h.2.2).2
    omega
  · omega
theorem inT_sz (bl : List Tm) (S : Nat) (hS : ∀ x ∈ bl, x.sz ≤ S) (t : Tm) (d : Int) : (inT bl t d).sz ≤ t.sz + nd t * S := walkF_sz _ _ (inLeaf_sz bl S hS) t d
theorem inLeaf_nd (bl : List Tm) (N : Nat) (hN : 1 ≤ N) (h : ∀ x ∈ bl, nd x ≤ N) (u : Tm) (d : Int) : nd (inLeaf bl u d) ≤ nd u * N := by
  unfold inLeaf
  split
  · rename_i h'
    have h1 := shT_nd 0 d (bl.getD u.n.toNat default) 0
    have h2 := h _ (getD_n h'.2.1 h'.2.2).2
    have h3 : N ≤ nd u * N := Nat.le_mul_of_pos_left _ (nd_pos u)
    omega
  · exact Nat.le_mul_of_pos_right _ hN
theorem inT_nd (bl : List Tm) (N : Nat) (hN : 1 ≤ N) (h : ∀ x ∈ bl, nd x ≤ N) (t : Tm) (d : Int) : nd (inT bl t d) ≤ nd t * N := walkF_nd _ _ hN (inLeaf_nd bl N hN h) t d
theorem inT_bd {M M' D : Int} (bl : List Tm) (t : Tm) (d : Int) (hb : bd M t) (hs : bds M' bl) (hM : M' + D ≤ M) (hd : 0 ≤ d) (hD : d + t.sz ≤ D) : bd M (inT bl t d) := by
  refine walkF_bd (inLeaf bl) M M D (fun u d' hu h0 h1 => ?_) t d hb hd hD
  unfold inLeaf
  split
  · rename_i h
    exact bd_le (by omega) _ (shT_bd h0 _ 0 (bds_mem hs (getD_n h.2.1 h.2.2).2) (Int.le_refl _))
  · exact hu
theorem c_inst1 (bl : List Tm) (u : Tm) (d : Int) (hs : ∀ x ∈ bl, x.sz ≤ B) (hb : bds M61 bl) (hd0 : 0 ≤ d) (hd1 : d ≤ M61) :
    AC Try.prog 72 [aT u, ci d, .c (.a (.ep 0 1 0 0))] [.arr 1 [[.a (.fz (.sl false 4 (FTs bl)))]]] (aT (inLeaf bl u d)) [.arr 1 [[.a (.fz (.sl false 4 (FTs bl)))]]] := by
  obtain ⟨k, s, n, l⟩ := u
  refine AC.vc hP sh lv72 (Nat.le_refl _) (by simp [isLive]) (by simp) (Eq.mpr (v72 k s n (FTs l) d (FTs bl) _ _) ?_)
  have no : ¬ ((k == 4) = true ∧ 0 ≤ n ∧ n < (bl.length : Int)) → inLeaf bl (.mk k s n l) d = .mk k s n l := fun h => if_neg h
  refine br_of (fun h => br_of (fun h2 => ⟨rfl, br_of (fun h3 => ?_) (fun h3 => ?_)⟩) (fun h2 => ?_)) (fun h => ?_)
  · have h2 := of_decide_eq_true h2
    have h3 : n < (bl.length : Int) := by have := of_decide_eq_true h3; rwa [FTs_length] at this
    obtain ⟨g1, g2⟩ := getD_n h2 h3
    have e : inLeaf bl (.mk k s n l) d = shT 0 d (bl.getD n.toNat default) 0 := if_pos ⟨h, h2, h3⟩
    have hc := c_shift (bl.getD n.toNat default) 0 d (hs _ g2) (bds_mem hb g2) (Int.le_refl _) (by simp only [M61]; omega) hd0 hd1
    rw [g1, e]
    generalize bl.getD n.toNat default = x at hc ⊢
    obtain ⟨k', s', n', l'⟩ := x
    exact ⟨⟨rfl, h2, by rw [FTs_length]; exact h3, rfl⟩, _, _, _, _, hc, .refl _, rfl⟩
  · rw [no (fun e => absurd e.2.2 (by have := of_decide_eq_false h3; rwa [FTs_length] at this))]; exact ⟨.refl _, rfl⟩
  · rw [no (fun e => absurd e.2.1 (of_decide_eq_false h2))]; exact ⟨.refl _, rfl⟩
  · rw [no (fun e => by rw [e.1] at h; cases h)]; exact ⟨.refl _, rfl⟩
theorem c_inst (t : Tm) (bl : List Tm) (S : Nat) (hS : ∀ x ∈ bl, x.sz ≤ S) (ht : t.sz + nd t * S ≤ B) (hb : bds M61 bl) : AC Try.prog 25 [aT t, aL bl] [] (aT (inT bl t 0)) [] := by
  have hSB : S ≤ B := by have := Nat.le_mul_of_pos_left S (nd_pos t); omega
  have h := c_wIn bl (inLeaf bl) (fun u _ => u.sz + nd u * S ≤ B) (fun kd s n l d hq hk u hu => by have h2 := hq; have := Nat.mul_le_mul_right S (nds_mem hu); have := Tm.szs_mem hu; rw [Tm.sz_eq (.mk kd s n l), nd_eq (.mk kd s n l), Nat.add_mul] at h2; simp only [Tm.l, Tm.s] at h2; omega)
    (fun u d hk hq h0 h1 => c_inst1 bl u d (fun x hx => Nat.le_trans (hS x hx) hSB) hb h0 h1)
    (fun u d hq => by have := inT_sz bl S hS u d; have h1 := (inT bl u d).sz_eq; have := Tm.szs_length (inT bl u d).l; show (inT bl u d).l.length ≤ _; omega)
    t (by omega) 0 ht (Int.le_refl _) (by simp only [B] at ht; omega)
  obtain ⟨k, s, n, l⟩ := t
  refine AC.vc hP sh lv25 (Nat.le_refl _) (by simp) (by simp) (Eq.mpr (v25 k s n (FTs l) (FTs bl) _ _) ?_)
  exact ⟨_, _, _, _, h, .refl _, rfl⟩

/-! ### One walk behind another -/
theorem walk_flat (lf : Tm → Int → Tm) (s : List UInt8) (n : Int) (l : List Tm) (x : Tm) (r : List Tm) (d : Int) (hr : r ≠ []) (hl : ((l.headD default).k == 6) = false) (hx : topF x) :
    walkF lf (withF (.mk 6 s n l) (x :: r)) d = flatX s n (walkL lf (x :: r) d) := by
  have hr' : walkL lf r d ≠ [] := by cases r with
    | nil => exact absurd rfl hr
    | cons y r => simp [walkL]
  have in6 : ∀ (s : List UInt8) (n : Int) (q : List Tm), walkF lf (.mk 6 s n q) d = withF (.mk 6 s n q) (walkL lf q d) := fun s n q => by
    rw [walkF, if_pos (show ((6 : Int) == 5 || (6 : Int) == 6) = true from rfl)]; simp
  by_cases hx6 : (x.k == 6) = true
  · rw [withF_pos rfl hr hx6 hl]
    obtain ⟨k, t, m, q⟩ := x
    have e : k = 6 := by simpa [Tm.k] using hx6
    subst e
    obtain ⟨h2, h3⟩ := hx hx6
    simp only [Tm.l] at h2 h3
    match q, h2, h3 with
    | y :: q, h2, h3 =>
      have hq : q ≠ [] := by intro e; rw [e] at h2; simp at h2
      have h3 : (y.k == 6) = false := h3
      match r, hr with
      | z :: r, hr =>
      rw [applyF_in z r rfl (by simp), in6, walkL_append]
      have eh : walkF lf (.mk 6 t m (y :: q)) d = withF (.mk 6 t m (y :: q)) (walkL lf (y :: q) d) := in6 t m (y :: q)
      have hq' : walkL lf q d ≠ [] := by cases q with
        | nil => exact absurd rfl hq
        | cons y q => simp [walkL]
      have ew : walkL lf (.mk 6 t m (y :: q) :: z :: r) d = walkF lf (.mk 6 t m (y :: q)) d :: walkL lf (z :: r) d := rfl
      have ey : walkL lf (y :: q) d = walkF lf y d :: walkL lf q d := rfl
      rw [flatX, ew, List.headD_cons, List.tail_cons, eh, ey]
      generalize hR : walkL lf (z :: r) d = R at hr' ⊢
      generalize hY : walkF lf y d = Y
      generalize hQ : walkL lf q d = Q at hq' ⊢
      have hQR : Q ++ R ≠ [] := by simp [hq']
      by_cases hY6 : (Y.k == 6) = true
      · have g1 : withF (.mk 6 [] 0 (y :: q ++ z :: r)) (Y :: (Q ++ R)) = applyF Y (Q ++ R) := withF_pos rfl hQR hY6 h3
        have g2 : withF (.mk 6 t m (y :: q)) (Y :: Q) = applyF Y Q := withF_pos rfl hq' hY6 h3
        refine Eq.trans (show _ = withF (.mk 6 [] 0 (y :: q ++ z :: r)) (Y :: (Q ++ R)) from rfl) ?_
        rw [g1, g2, if_pos (by rw [applyF_k _ hY6]; rfl), applyF_both]
      · have g1 : withF (.mk 6 [] 0 (y :: q ++ z :: r)) (Y :: (Q ++ R)) = .mk 6 [] 0 (Y :: (Q ++ R)) := withF_neg (fun e => hY6 e.2.2.1)
        have g2 : withF (.mk 6 t m (y :: q)) (Y :: Q) = .mk 6 t m (Y :: Q) := withF_neg (fun e => hY6 e.2.2.1)
        refine Eq.trans (show _ = withF (.mk 6 [] 0 (y :: q ++ z :: r)) (Y :: (Q ++ R)) from rfl) ?_
        rw [g1, g2, if_pos (show ((Tm.mk 6 t m (Y :: Q)).k == 6) = true from rfl)]
        match R, hr' with
        | w :: R, _ => rw [applyF_in w R rfl (by simp)]; rfl
  · rw [withF_neg (o := x :: r) (fun e => hx6 e.2.2.1), in6, flatX, walkL, List.headD_cons, List.tail_cons]
    by_cases hX : ((walkF lf x d).k == 6) = true
    · rw [if_pos hX, withF_pos rfl hr' hX (by simpa using hx6)]
    · rw [if_neg hX, withF_neg (o := walkF lf x d :: walkL lf r d) (fun e => hX e.2.2.1)]
section
variable (f g f' g' : Tm → Int → Tm) (Q : Tm → Int → Prop)
/-- Two walks, one behind the other, are two others, where they are so at the leaves. -/
structure Comp : Prop where
  kids : ∀ k s n l d, Q (.mk k s n l) d → (k == 5 || k == 6) = true → ∀ u ∈ l, Q u (d + byI k)
  dep : ∀ t d, Q t d → 0 ≤ d
  flat : ∀ k s n l d, Q (.mk k s n l) d → topF (.mk k s n l)
  leaf : ∀ k s n l d, (k == 5 || k == 6) = false → Q (.mk k s n l) d → walkF f (g (.mk k s n l) d) d = walkF f' (g' (.mk k s n l) d) d
  top : ∀ k s n l d, (k == 5 || k == 6) = false → Q (.mk k s n l) d → topF (g (.mk k s n l) d) ∧ topF (g' (.mk k s n l) d)
end
theorem walk_comp {f g f' g' : Tm → Int → Tm} {Q : Tm → Int → Prop} (h : Comp f g f' g' Q) : ∀ (t : Tm) (d : Int), Q t d → walkF f (walkF g t d) d = walkF f' (walkF g' t d) d := by
  have top : ∀ (lf : Tm → Int → Tm) (x : Tm) (d : Int), (x.k == 6) = false → ((x.k == 5 || x.k == 6) = false → topF (lf x d)) → topF (walkF lf x d) := by
    intro lf x d hx hl
    obtain ⟨k, s, n, l⟩ := x
    cases hk : (k == 5 || k == 6) with
    | true =>
      rw [walkF, if_pos hk]
      intro h6
      rw [withF_k] at h6
      have hx : (k == 6) = false := hx
      have h6 : (k == 6) = true := h6
      rw [hx] at h6; cases h6
    | false => rw [walkF_leaf _ _ _ _ _ _ hk]; exact hl hk
  refine Tm.ind fun t ih d hQ => ?_
  obtain ⟨k, s, n, l⟩ := t
  cases hk : (k == 5 || k == 6) with
  | false => rw [walkF_leaf _ _ _ _ _ _ hk, walkF_leaf _ _ _ _ _ _ hk]; exact h.leaf _ _ _ _ _ hk hQ
  | true =>
    have hkids := h.kids _ _ _ _ _ hQ hk
    have key : ∀ (m : List Tm) (e : Int), (∀ u ∈ m, walkF f (walkF g u e) e = walkF f' (walkF g' u e) e) → walkL f (walkL g m e) e = walkL f' (walkL g' m e) e := by
      intro m e
      induction m with
      | nil => intro _; rfl
      | cons x m im => intro hm; simp only [walkL, hm x List.mem_cons_self, im fun u hu => hm u (List.mem_cons_of_mem _ hu)]
    have hX := key l (d + byI k) fun u hu => ih u hu _ (hkids u hu)
    have win : ∀ (lf : Tm → Int → Tm) (m : List Tm), walkF lf (.mk k s n m) d = withF (.mk k s n m) (walkL lf m (d + byI k)) := fun lf m => by rw [walkF, if_pos hk]
    rw [win, win]
    by_cases h6 : (k == 6) = true
    · have e : k = 6 := by simpa using h6
      subst e
      obtain ⟨h2, h3⟩ := h.flat _ _ _ _ _ hQ rfl
      simp only [Tm.l] at h2 h3
      rw [show byI 6 = 0 from rfl, Int.add_zero] at hX hkids ⊢
      match l, h2, h3, hX, hkids with
      | x :: y :: l, _, h3, hX, hkids =>
        have h3' : (x.k == 6) = false := h3
        have hx := hkids x List.mem_cons_self
        have t1 : topF (walkF g x d) := top g x d h3' (fun e => by obtain ⟨a1, a2, a3, a4⟩ := x; exact (h.top _ _ _ _ _ e hx).1)
        have t2 : topF (walkF g' x d) := top g' x d h3' (fun e => by obtain ⟨a1, a2, a3, a4⟩ := x; exact (h.top _ _ _ _ _ e hx).2)
        have g1 := walk_flat f s n (x :: y :: l) (walkF g x d) (walkL g (y :: l) d) d (by simp [walkL]) h3 t1
        have g2 := walk_flat f' s n (x :: y :: l) (walkF g' x d) (walkL g' (y :: l) d) d (by simp [walkL]) h3 t2
        exact Eq.trans g1 (Eq.trans (congrArg _ hX) g2.symm)
    · rw [withF_neg (fun e => h6 e.1), withF_neg (fun e => h6 e.1), win, win, withF_neg (fun e => h6 e.1), withF_neg (fun e => h6 e.1), hX]
end Go.AM
