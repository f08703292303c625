/- The contracts of law functions, and the plain laws behind them (Law4). No conditions. -/
import Derived.Test.YtclicclinfnmlaaLaw5
set_option maxRecDepth 100000
open Go Go.Proofs
namespace Go.AM
/-! ### Plain laws: two substitutions -/
abbrev byI (k : Int) : Int := if (k == 5) = true then 1 else 0
theorem suT_in (i : Int) (s' : Tm) (k : Int) (s : List UInt8) (n : Int) (l : List Tm) (d : Int) (hk : (k == 5 || k == 6) = true) : suT i s' (.mk k s n l) d = withF (.mk k s n l) (walkL (suLeaf i s') l (d + byI k)) := by
  rw [suT, walkF, if_pos hk]
theorem suT_leaf (i : Int) (s' : Tm) (k : Int) (s : List UInt8) (n : Int) (l : List Tm) (d : Int) (hk : (k == 5 || k == 6) = false) : suT i s' (.mk k s n l) d = suLeaf i s' (.mk k s n l) d := walkF_leaf _ k s n l d hk
theorem shLeaf_ge {fr by_ : Int} {k : Int} {s : List UInt8} {n : Int} {l : List Tm} {d : Int} (h3 : (k == 3) = true) (h : d + fr ≤ n) : shLeaf fr by_ (.mk k s n l) d = .mk k s (n + by_) l := by
  unfold shLeaf
  rw [if_pos (show (Tm.k (.mk k s n l) == 3) = true ∧ d + fr ≤ Tm.n (.mk k s n l) from ⟨h3, h⟩)]; rfl
theorem shLeaf_no {fr by_ : Int} {k : Int} {s : List UInt8} {n : Int} {l : List Tm} {d : Int} (h : ¬ ((k == 3) = true ∧ d + fr ≤ n)) : shLeaf fr by_ (.mk k s n l) d = .mk k s n l := by
  unfold shLeaf
  rw [if_neg (show ¬ ((Tm.k (.mk k s n l) == 3) = true ∧ d + fr ≤ Tm.n (.mk k s n l)) from h)]
theorem walkL_append (lf : Tm → Int → Tm) : ∀ (a b : List Tm) (d : Int), walkL lf (a ++ b) d = walkL lf a d ++ walkL lf b d
  | [], _, _ => rfl
  | t :: a, b, d => by simp only [List.cons_append, walkL, walkL_append lf a b d]
/-! Shifts of shifts. -/
mutual
theorem sh_sh (d e : Int) (he : 0 ≤ e) : ∀ (u : Tm) (f : Int), shT 0 d (shT 0 e u f) (e + f) = shT 0 (d + e) u f
  | .mk k s n l, f => by
    cases hk : (k == 5 || k == 6) with
    | true => rw [shT_in _ _ _ _ _ _ _ hk, shT_in _ _ _ _ _ _ _ hk, shT_in _ _ _ _ _ _ _ hk, Int.add_assoc, sh_shs d e he l]
    | false =>
      rw [shT_leaf _ _ _ _ _ _ _ hk, shT_leaf _ _ _ _ _ _ _ hk]
      by_cases h : (k == 3) = true ∧ f + 0 ≤ n
      · rw [shLeaf_ge h.1 h.2, shLeaf_ge h.1 h.2, shT_leaf _ _ _ _ _ _ _ hk, shLeaf_ge h.1 (by omega), show n + e + d = n + (d + e) by omega]
      · rw [shLeaf_no h, shLeaf_no h, shT_leaf _ _ _ _ _ _ _ hk, shLeaf_no fun e' => h ⟨e'.1, by omega⟩]
theorem sh_shs (d e : Int) (he : 0 ≤ e) : ∀ (l : List Tm) (f : Int), walkL (shLeaf 0 d) (walkL (shLeaf 0 e) l f) (e + f) = walkL (shLeaf 0 (d + e)) l f
  | [], _ => rfl
  | t :: l, f => by
    have h1 := sh_sh d e he t f
    simp only [shT] at h1
    simp only [walkL, h1, sh_shs d e he l f]
end
/-! A shift of what is made flat. -/
theorem headD_walk (lf : Tm → Int → Tm) (h : ∀ u d, (lf u d).k = u.k) (l : List Tm) (d : Int) : ((walkL lf l d).headD default).k = (l.headD default).k := by
  cases l with
  | nil => rfl
  | cons x l => exact walkF_k _ h x _
theorem withF_pos {k : Int} {s : List UInt8} {n : Int} {l : List Tm} {x : Tm} {r : List Tm} (h6 : (k == 6) = true) (hr : r ≠ []) (hx : (x.k == 6) = true) (hl : ((l.headD default).k == 6) = false) : withF (.mk k s n l) (x :: r) = applyF x r := by
  unfold withF
  exact if_pos ⟨h6, by cases r with
    | nil => exact absurd rfl hr
    | cons y r => simp, hx, show ((l.headD default).k != 6) = true by rw [bne, hl]; rfl⟩
theorem withF_neg {k : Int} {s : List UInt8} {n : Int} {l o : List Tm} (h : ¬ ((k == 6) = true ∧ 1 < o.length ∧ ((o.headD default).k == 6) = true ∧ ((l.headD default).k == 6) = false)) : withF (.mk k s n l) o = .mk k s n o := by
  unfold withF
  refine if_neg fun e => h ⟨e.1, e.2.1, e.2.2.1, ?_⟩
  have : ((l.headD default).k != 6) = true := e.2.2.2
  simpa [bne] using this
theorem applyF_in {k : Int} {s : List UInt8} {n : Int} {m : List Tm} (y : Tm) (b : List Tm) (h6 : (k == 6) = true) (hm : m ≠ []) : applyF (.mk k s n m) (y :: b) = .mk 6 [] 0 (m ++ y :: b) := if_pos ⟨h6, hm⟩
theorem applyF_out {k : Int} {s : List UInt8} {n : Int} (y : Tm) (b : List Tm) : applyF (.mk k s n []) (y :: b) = .mk 6 [] 0 (.mk k s n [] :: y :: b) := if_neg (fun e => e.2 rfl)
theorem sh_apply (fr by_ : Int) (x : Tm) (r : List Tm) (d : Int) (hx : (x.k == 6) = true) : shT fr by_ (applyF x r) d = applyF (shT fr by_ x d) (walkL (shLeaf fr by_) r d) := by
  match r with
  | [] => rfl
  | y :: r =>
    obtain ⟨k, s, n, m⟩ := x
    have h6 : (k == 6) = true := hx
    have h5 : (k == 5) = false := by have : k = 6 := by simpa using h6
                                     subst this; rfl
    have hk : (k == 5 || k == 6) = true := by rw [h6]; simp
    have e6 : ∀ (q : List Tm), shT fr by_ (.mk 6 [] 0 q) d = .mk 6 [] 0 (walkL (shLeaf fr by_) q d) := fun q => by
      rw [shT_in _ _ _ _ _ _ _ rfl]; simp
    have ex : shT fr by_ (.mk k s n m) d = .mk k s n (walkL (shLeaf fr by_) m d) := by rw [shT_in _ _ _ _ _ _ _ hk, h5]; simp
    match m with
    | [] =>
      have ex : shT fr by_ (.mk k s n []) d = .mk k s n [] := ex
      rw [applyF_out, e6, ex]
      show Tm.mk 6 [] 0 (shT fr by_ (.mk k s n []) d :: walkL _ (y :: r) d) = _
      rw [ex, walkL, applyF_out]
    | z :: m =>
      rw [applyF_in y r h6 (by simp), e6, ex, walkL_append]
      rw [show walkL (shLeaf fr by_) (y :: r) d = walkF (shLeaf fr by_) y d :: walkL (shLeaf fr by_) r d from rfl, applyF_in _ _ h6 (by simp [walkL])]
theorem sh_with (fr by_ : Int) (k : Int) (s : List UInt8) (n : Int) (l o : List Tm) (d : Int) (hk : (k == 5 || k == 6) = true) :
    shT fr by_ (withF (.mk k s n l) o) d = withF (.mk k s n (walkL (shLeaf fr by_) l (d + byI k))) (walkL (shLeaf fr by_) o (d + byI k)) := by
  by_cases h : (k == 6) = true ∧ 1 < o.length ∧ ((o.headD default).k == 6) = true ∧ ((l.headD default).k == 6) = false
  · obtain ⟨h6, hlen, ho, hl⟩ := h
    match o, hlen, ho with
    | x :: r, hlen, ho =>
      have hr : r ≠ [] := by intro e; rw [e] at hlen; simp at hlen
      have h5 : (k == 5) = false := by have : k = 6 := by simpa using h6
                                       subst this; rfl
      have ho : (x.k == 6) = true := ho
      rw [withF_pos h6 hr ho hl, sh_apply _ _ _ _ _ ho, show byI k = 0 by unfold byI; rw [h5]; rfl, Int.add_zero, walkL]
      rw [withF_pos h6 (by cases r with
        | nil => exact absurd rfl hr
        | cons y r => simp [walkL]) (by rw [walkF_k _ (shLeaf_k fr by_)]; exact ho) (by rw [headD_walk _ (shLeaf_k fr by_)]; exact hl)]
      rfl
  · rw [withF_neg h, shT_in _ _ _ _ _ _ _ hk, withF_neg]
    intro e
    refine h ⟨e.1, by have := e.2.1; rw [walkL_length] at this; exact this, ?_, ?_⟩
    · have := e.2.2.1; rw [headD_walk _ (shLeaf_k fr by_)] at this; exact this
    · have := e.2.2.2; rw [headD_walk _ (shLeaf_k fr by_)] at this; exact this
/-! A substitution in what is shifted. -/
mutual
theorem su_sh (d j : Int) (hd : 0 ≤ d) (hj : 0 ≤ j) (u : Tm) : ∀ (t : Tm) (e : Int), 0 ≤ e → suT j u (shT 0 d t e) (d + e) = shT 0 d (suT j u t e) e
  | .mk k s n l, e, he => by
    cases hk : (k == 5 || k == 6) with
    | true =>
      rw [shT_in _ _ _ _ _ _ _ hk, suT_in _ _ _ _ _ _ _ hk, suT_in _ _ _ _ _ _ _ hk, sh_with _ _ _ _ _ _ _ _ hk, Int.add_assoc, su_shs d j hd hj u l _ (by have := by_ite k; omega)]
    | false =>
      rw [shT_leaf _ _ _ _ _ _ _ hk, suT_leaf _ _ _ _ _ _ _ hk]
      by_cases h3 : (k == 3) = true
      · by_cases h : e ≤ n
        · rw [shLeaf_ge h3 (by omega), suT_leaf _ _ _ _ _ _ _ hk]
          rcases Int.lt_trichotomy n (e + j) with h' | h' | h'
          · rw [suLeaf_lt h3 (by omega), suLeaf_lt h3 h', shT_leaf _ _ _ _ _ _ _ hk, shLeaf_ge h3 (by omega)]
          · rw [suLeaf_eq h3 (by omega), suLeaf_eq h3 h']
            have := sh_sh d e he u 0
            rw [Int.add_zero] at this; exact this.symm
          · rw [suLeaf_gt h3 (by omega), suLeaf_gt h3 h', shT_leaf _ _ _ _ _ _ _ hk, shLeaf_ge h3 (by omega), show n + d - 1 = n - 1 + d by omega]
        · have hn : ¬ ((k == 3) = true ∧ e + 0 ≤ n) := fun e' => h (by omega)
          rw [shLeaf_no hn, suT_leaf _ _ _ _ _ _ _ hk, suLeaf_lt h3 (by omega), suLeaf_lt h3 (by omega), shT_leaf _ _ _ _ _ _ _ hk, shLeaf_no hn]
      · have hn : ¬ ((k == 3) = true ∧ e + 0 ≤ n) := fun e' => h3 e'.1
        rw [shLeaf_no hn, suT_leaf _ _ _ _ _ _ _ hk, suLeaf_ne h3, suLeaf_ne h3, shT_leaf _ _ _ _ _ _ _ hk, shLeaf_no hn]
theorem su_shs (d j : Int) (hd : 0 ≤ d) (hj : 0 ≤ j) (u : Tm) : ∀ (l : List Tm) (e : Int), 0 ≤ e → walkL (suLeaf j u) (walkL (shLeaf 0 d) l e) (d + e) = walkL (shLeaf 0 d) (walkL (suLeaf j u) l e) e
  | [], _, _ => rfl
  | t :: l, e, he => by
    have h1 := su_sh d j hd hj u t e he
    simp only [shT, suT] at h1
    simp only [walkL, h1, su_shs d j hd hj u l e he]
end
/-! What is flat. -/
/-- An application's first one is none; there are two at least. -/
def topF (t : Tm) : Prop := (t.k == 6) = true → 2 ≤ t.l.length ∧ ((t.l.headD default).k == 6) = false
mutual
def flatF : Tm → Prop
  | .mk k s n l => topF (.mk k s n l) ∧ ((k == 5 || k == 6) = true → flatL l)
def flatL : List Tm → Prop
  | [] => True
  | t :: l => flatF t ∧ flatL l
end
mutual
theorem valid_flat : ∀ t : Tm, validB t = true → flatF t
  | .mk k s n l, h => by
    refine ⟨fun h6 => ?_, fun hk => valid_flats l ?_⟩
    · have e : k = 6 := by simpa [Tm.k] using h6
      subst e
      simp [validB] at h
      simp only [Tm.l]
      rw [FTs_length] at h
      refine ⟨by omega, ?_⟩
      simp [h]
    · rcases Bool.or_eq_true_iff.1 hk with h5 | h6
      · have e : k = 5 := by simpa using h5
        subst e
        simp [validB] at h
        exact h.2
      · have e : k = 6 := by simpa using h6
        subst e
        simp [validB] at h
        exact h.2
theorem valid_flats : ∀ l : List Tm, validL l = true → flatL l
  | [], _ => trivial
  | t :: l, h => by
    simp only [validL, Bool.and_eq_true] at h
    exact ⟨valid_flat t h.1, valid_flats l h.2⟩
end
theorem sh_top {fr by_ : Int} {t : Tm} {d : Int} (h : topF t) : topF (shT fr by_ t d) := by
  intro h6
  unfold shT at h6 ⊢
  rw [walkF_k _ (shLeaf_k fr by_)] at h6
  have h' := h h6
  obtain ⟨k, s, n, l⟩ := t
  have hk : (k == 5 || k == 6) = true := by rw [show (k == 6) = true from h6]; simp
  rw [walkF_keep _ (shLeaf_k fr by_) _ _ _ _ _ hk]
  simp only [Tm.l] at h' ⊢
  rw [walkL_length, headD_walk _ (shLeaf_k fr by_)]
  exact h'
/-- What a list of an application comes to. -/
def flatX (s : List UInt8) (n : Int) (X : List Tm) : Tm := if ((X.headD default).k == 6) = true then applyF (X.headD default) X.tail else .mk 6 s n X
theorem applyF_assoc (h : Tm) (p q : List Tm) (h6 : (h.k == 6) = true) (hp : p ≠ []) : applyF (applyF h p) q = applyF h (p ++ q) := applyF_both h p q
theorem su_flat (i : Int) (s' : Tm) (s : List UInt8) (n : Int) (l : List Tm) (x : Tm) (r : List Tm) (d : Int) (hr : r ≠ []) (hl : ((l.headD default).k == 6) = false) (hx : topF x) :
    suT i s' (withF (.mk 6 s n l) (x :: r)) d = flatX s n (walkL (suLeaf i s') (x :: r) d) := by
  have hr' : walkL (suLeaf i s') r d ≠ [] := by cases r with
    | nil => exact absurd rfl hr
    | cons y r => simp [walkL]
  have in6 : ∀ (s : List UInt8) (n : Int) (q : List Tm), suT i s' (.mk 6 s n q) d = withF (.mk 6 s n q) (walkL (suLeaf i s') q d) := fun s n q => by
    rw [suT_in _ _ _ _ _ _ _ rfl]; simp [byI]
  by_cases hx6 : (x.k == 6) = true
  · rw [withF_pos rfl hr hx6 hl]
    obtain ⟨k, t, m, q⟩ := x
    have e : k = 6 := by simpa [Tm.k] using hx6
    subst e
    obtain ⟨h2, h3⟩ := hx hx6
    simp only [Tm.l] at h2 h3
    match q, h2, h3 with
    | y :: q, h2, h3 =>
      have hq : q ≠ [] := by intro e; rw [e] at h2; simp at h2
      have h3 : (y.k == 6) = false := h3
      match r, hr with
      | z :: r, hr =>
      rw [applyF_in z r rfl (by simp), in6, walkL_append]
      have eh : walkF (suLeaf i s') (.mk 6 t m (y :: q)) d = withF (.mk 6 t m (y :: q)) (walkL (suLeaf i s') (y :: q) d) := in6 t m (y :: q)
      have hq' : walkL (suLeaf i s') q d ≠ [] := by cases q with
        | nil => exact absurd rfl hq
        | cons y q => simp [walkL]
      have ew : walkL (suLeaf i s') (.mk 6 t m (y :: q) :: z :: r) d = walkF (suLeaf i s') (.mk 6 t m (y :: q)) d :: walkL (suLeaf i s') (z :: r) d := rfl
      have ey : walkL (suLeaf i s') (y :: q) d = walkF (suLeaf i s') y d :: walkL (suLeaf i s') q d := rfl
      rw [flatX, ew, List.headD_cons, List.tail_cons, eh, ey]
      generalize hR : walkL (suLeaf i s') (z :: r) d = R at hr' ⊢
      generalize hY : walkF (suLeaf i s') y d = Y
      generalize hQ : walkL (suLeaf i s') q d = Q at hq' ⊢
      have hQR : Q ++ R ≠ [] := by simp [hq']
      by_cases hY6 : (Y.k == 6) = true
      · have g1 : withF (.mk 6 [] 0 (y :: q ++ z :: r)) (Y :: (Q ++ R)) = applyF Y (Q ++ R) := withF_pos rfl hQR hY6 h3
        have g2 : withF (.mk 6 t m (y :: q)) (Y :: Q) = applyF Y Q := withF_pos rfl hq' hY6 h3
        refine Eq.trans (show _ = withF (.mk 6 [] 0 (y :: q ++ z :: r)) (Y :: (Q ++ R)) from rfl) ?_
        rw [g1, g2, if_pos (by rw [applyF_k _ hY6]; rfl), applyF_both]
      · have g1 : withF (.mk 6 [] 0 (y :: q ++ z :: r)) (Y :: (Q ++ R)) = .mk 6 [] 0 (Y :: (Q ++ R)) := withF_neg (fun e => hY6 e.2.2.1)
        have g2 : withF (.mk 6 t m (y :: q)) (Y :: Q) = .mk 6 t m (Y :: Q) := withF_neg (fun e => hY6 e.2.2.1)
        refine Eq.trans (show _ = withF (.mk 6 [] 0 (y :: q ++ z :: r)) (Y :: (Q ++ R)) from rfl) ?_
        rw [g1, g2, if_pos (show ((Tm.mk 6 t m (Y :: Q)).k == 6) = true from rfl)]
        match R, hr' with
        | w :: R, _ => rw [applyF_in w R rfl (by simp)]; rfl
  · rw [withF_neg (o := x :: r) (fun e => hx6 e.2.2.1), in6, flatX, walkL, List.headD_cons, List.tail_cons]
    by_cases hX : ((walkF (suLeaf i s') x d).k == 6) = true
    · rw [if_pos hX, withF_pos rfl hr' hX (by simpa using hx6)]
    · rw [if_neg hX, withF_neg (o := walkF (suLeaf i s') x d :: walkL (suLeaf i s') r d) (fun e => hX e.2.2.1)]
theorem su_top {i : Int} {s' t : Tm} {d : Int} (hs : topF s') (ht : (t.k == 6) = false) : topF (suT i s' t d) := by
  obtain ⟨k, s, n, l⟩ := t
  have ht : (k == 6) = false := ht
  cases hk : (k == 5 || k == 6) with
  | true =>
    rw [suT_in _ _ _ _ _ _ _ hk]
    intro h6
    rw [withF_k] at h6
    have h6 : (k == 6) = true := h6
    rw [ht] at h6; cases h6
  | false =>
    rw [suT_leaf _ _ _ _ _ _ _ hk]
    by_cases h3 : (k == 3) = true
    · rcases Int.lt_trichotomy n (d + i) with h | h | h
      · rw [suLeaf_lt h3 h]; intro h6; have h6 : (k == 6) = true := h6; rw [ht] at h6; cases h6
      · rw [suLeaf_eq h3 h]; exact sh_top hs
      · rw [suLeaf_gt h3 h]; intro h6; have h6 : (k == 6) = true := h6; rw [ht] at h6; cases h6
    · rw [suLeaf_ne h3]; intro h6; have h6 : (k == 6) = true := h6; rw [ht] at h6; cases h6
mutual
theorem su_swap (i j : Int) (s u : Tm) (hi : 0 ≤ i) (hj : i ≤ j) (hs : topF s) (hu : topF u) : ∀ (t : Tm) (d : Int), 0 ≤ d → flatF t → suT j u (suT i s t d) d = suT i (suT j u s 0) (suT (j + 1) (shT i 1 u 0) t d) d
  | .mk k c n l, d, hd, hf => by
    cases hk : (k == 5 || k == 6) with
    | true =>
      have hX := su_swaps i j s u hi hj hs hu l (d + byI k) (by have := by_ite k; unfold byI; omega) (hf.2 hk)
      rw [suT_in _ _ _ _ _ _ _ hk, suT_in _ _ _ _ _ _ _ hk]
      by_cases h6 : (k == 6) = true
      · have e : k = 6 := by simpa using h6
        subst e
        obtain ⟨h2, h3⟩ := hf.1 rfl
        simp only [Tm.l] at h2 h3
        rw [show byI 6 = 0 from rfl, Int.add_zero] at hX ⊢
        match l, h2, h3, hX with
        | x :: y :: l, _, h3, hX =>
          have h3' : (x.k == 6) = false := h3
          have g1 := su_flat j u c n (x :: y :: l) (walkF (suLeaf i s) x d) (walkL (suLeaf i s) (y :: l) d) d (by simp [walkL]) h3 (su_top hs h3')
          have g2 := su_flat i (suT j u s 0) c n (x :: y :: l) (walkF (suLeaf (j + 1) (shT i 1 u 0)) x d) (walkL (suLeaf (j + 1) (shT i 1 u 0)) (y :: l) d) d (by simp [walkL]) h3 (su_top (sh_top hu) h3')
          exact Eq.trans g1 (Eq.trans (congrArg _ hX) g2.symm)
      · rw [withF_neg (fun e => h6 e.1), withF_neg (fun e => h6 e.1), suT_in _ _ _ _ _ _ _ hk, suT_in _ _ _ _ _ _ _ hk, withF_neg (fun e => h6 e.1), withF_neg (fun e => h6 e.1), hX]
    | false =>
      rw [suT_leaf _ _ _ _ _ _ _ hk, suT_leaf _ _ _ _ _ _ _ hk]
      by_cases h3 : (k == 3) = true
      · rcases Int.lt_trichotomy n (d + i) with h | h | h
        · rw [suLeaf_lt h3 h, suLeaf_lt h3 (by omega), suT_leaf _ _ _ _ _ _ _ hk, suT_leaf _ _ _ _ _ _ _ hk, suLeaf_lt h3 (by omega), suLeaf_lt h3 h]
        · rw [suLeaf_eq h3 h, suLeaf_lt h3 (by omega), suT_leaf _ _ _ _ _ _ _ hk, suLeaf_eq h3 h]
          have := su_sh d j hd (by omega) u s 0 (Int.le_refl _)
          rw [Int.add_zero] at this; exact this
        · rw [suLeaf_gt h3 h, suT_leaf _ _ _ _ _ _ _ hk]
          rcases Int.lt_trichotomy (n - 1) (d + j) with h' | h' | h'
          · rw [suLeaf_lt h3 h', suLeaf_lt h3 (by omega), suT_leaf _ _ _ _ _ _ _ hk, suLeaf_gt h3 h]
          · rw [suLeaf_eq h3 h', suLeaf_eq h3 (by omega)]
            have := su_sh d i hd hi (suT j u s 0) (shT i 1 u 0) 0 (Int.le_refl _)
            rw [Int.add_zero] at this
            rw [this, su_back]
          · rw [suLeaf_gt h3 h', suLeaf_gt h3 (by omega), suT_leaf _ _ _ _ _ _ _ hk, suLeaf_gt h3 (by omega)]
      · rw [suLeaf_ne h3, suLeaf_ne h3, suT_leaf _ _ _ _ _ _ _ hk, suT_leaf _ _ _ _ _ _ _ hk, suLeaf_ne h3, suLeaf_ne h3]
theorem su_swaps (i j : Int) (s u : Tm) (hi : 0 ≤ i) (hj : i ≤ j) (hs : topF s) (hu : topF u) : ∀ (l : List Tm) (d : Int), 0 ≤ d → flatL l → walkL (suLeaf j u) (walkL (suLeaf i s) l d) d = walkL (suLeaf i (suT j u s 0)) (walkL (suLeaf (j + 1) (shT i 1 u 0)) l d) d
  | [], _, _, _ => rfl
  | t :: l, d, hd, hf => by
    have h1 := su_swap i j s u hi hj hs hu t d hd hf.1
    simp only [suT] at h1 ⊢
    simp only [walkL, h1]
    have h2 := su_swaps i j s u hi hj hs hu l d hd hf.2
    simp only [suT] at h2
    rw [h2]
end

/-! ### THE LAW: swaps -/
theorem swaps_calls (t s u : Tm) (kt : Okay t) (ks : Okay s) (ku : Okay u) (vt : validB t = true) (vs : validB s = true) (vu : validB u = true) (i j : Int) (i0 : 0 ≤ i) (ij : i ≤ j) (j1 : j ≤ 1000) :
    AC Try.prog 18 [aT t, ci i, aT s] [] (aT (suT i s t 0)) [] ∧ AC Try.prog 18 [aT (suT i s t 0), ci j, aT u] [] (aT (suT j u (suT i s t 0) 0)) [] ∧ AC Try.prog 17 [aT u, ci i, ci 1] [] (aT (shT i 1 u 0)) [] ∧
    AC Try.prog 18 [aT t, ci (j + 1), aT (shT i 1 u 0)] [] (aT (suT (j + 1) (shT i 1 u 0) t 0)) [] ∧ AC Try.prog 18 [aT s, ci j, aT u] [] (aT (suT j u s 0)) [] ∧
    AC Try.prog 18 [aT (suT (j + 1) (shT i 1 u 0) t 0), ci i, aT (suT j u s 0)] [] (aT (suT i (suT j u s 0) (suT (j + 1) (shT i 1 u 0) t 0) 0)) [] ∧
    AC Try.prog 16 [aT (suT j u (suT i s t 0) 0), aT (suT i (suT j u s 0) (suT (j + 1) (shT i 1 u 0) t 0) 0)] [] (cb true) [] := by
  have bt := kt.size
  have bs := ks.size
  have bu := ku.size
  have g := ku.shift i 1 i0 (by omega) (by omega) (by omega)
  have ft : flatF t := valid_flat t vt
  have fs : topF s := by have := valid_flat s vs; cases s; exact this.1
  have fu : topF u := by have := valid_flat u vu; cases u; exact this.1
  -- sizes
  have z1 := suT_sz i s t 0
  have m1 := mul80 kt.nodes bs
  have n1 := suT_nd i s t 0
  have k1 : nd t * nd s ≤ 6400 := Nat.mul_le_mul kt.nodes ks.nodes
  have z2 := suT_sz j u (suT i s t 0) 0
  have m2 : nd (suT i s t 0) * u.sz ≤ 6400 * 4880 := Nat.mul_le_mul (by omega) bu
  have z3 := suT_sz (j + 1) (shT i 1 u 0) t 0
  have m3 := mul80 kt.nodes g.2.1
  have n3 := suT_nd (j + 1) (shT i 1 u 0) t 0
  have k3 : nd t * nd (shT i 1 u 0) ≤ 6400 := Nat.mul_le_mul kt.nodes g.2.2.1
  have z4 := suT_sz j u s 0
  have m4 := mul80 ks.nodes bu
  have m5 : nd (suT (j + 1) (shT i 1 u 0) t 0) * (suT j u s 0).sz ≤ 6400 * 395280 := Nat.mul_le_mul (by omega) (by omega)
  -- numbers
  have up : ∀ {x : Tm}, bd 2199023255552 x → bd M61 x := fun h => bd_le (by simp only [M61]; omega) _ h
  have b0 : ∀ {x : Tm}, bd 1099511627776 x → bd 2199023255552 x := fun h => bd_le (by omega) _ h
  have dt := b0 kt.nums
  have c1 : bd 2199023255552 (suT i s t 0) := suT_bd (M' := 1099511627776) (D := 4880) s t 0 dt ks.nums (by omega) (by omega) (by omega) i0 (by omega)
  have c3 : bd 2199023255552 (suT (j + 1) (shT i 1 u 0) t 0) := suT_bd (M' := 1099511629776) (D := 4880) _ t 0 dt g.2.2.2 (by omega) (by omega) (by omega) (by omega) (by omega)
  have c4 : bd 2199023255552 (suT j u s 0) := suT_bd (M' := 1099511627776) (D := 4880) u s 0 (b0 ks.nums) ku.nums (by omega) (by omega) (by omega) (by omega) (by omega)
  have cu := up (b0 ku.nums)
  refine ⟨c_subst t s i (by simp only [B]; omega) (by simp only [B]; omega) (up dt) (up (b0 ks.nums)) i0 (by simp only [M61]; omega),
    c_subst _ u j (by simp only [B]; omega) (by simp only [B]; omega) (up c1) cu (by omega) (by simp only [M61]; omega), g.1,
    c_subst t _ (j + 1) (by simp only [B]; omega) (by simp only [B]; omega) (up dt) (bd_le (by simp only [M61]; omega) _ g.2.2.2) (by omega) (by simp only [M61]; omega),
    c_subst s u j (by simp only [B]; omega) (by simp only [B]; omega) (up (b0 ks.nums)) cu (by omega) (by simp only [M61]; omega),
    c_subst _ _ i (by simp only [B]; omega) (by simp only [B]; omega) (up c3) (up c4) i0 (by simp only [M61]; omega),
    same_ok (by simp only [B]; omega) (su_swap i j s u i0 ij fs fu t 0 (Int.le_refl _) ft)⟩
theorem c_swaps (t s u : Tm) (i j : Int) (ht : t.sz ≤ B) (hs : s.sz ≤ B) (hu : u.sz ≤ B) : AC Try.prog 4 [aT t, aT s, aT u, ci i, ci j] [] (cb true) [] := by
  have ot := c_over t ht
  have os := c_over s hs
  have ou := c_over u hu
  have vt := c_valid t ht
  have vs := c_valid s hs
  have vu := c_valid u hu
  have calls := swaps_calls t s u
  obtain ⟨tk, ts, tn, tl⟩ := t
  obtain ⟨sk, ss, sn, sl⟩ := s
  obtain ⟨uk, us, un, ul⟩ := u
  refine AC.vc hP sh lv4 (Nat.le_refl _) (by simp) (by simp) (Eq.mpr (v4 tk ts tn (FTs tl) sk ss sn (FTs sl) uk us un (FTs ul) i j _ _) ?_)
  refine ⟨_, c_works, br_of (fun h => by cases h) (fun _ => ⟨_, ot, _, os, _, ou, _, vt, _, vs, _, vu, br_of (fun _ => ret1 rfl) (fun h1 => br_of (fun _ => ret1 rfl) (fun h2 => br_of (fun _ => ret1 rfl) (fun h3 => br_of (fun _ => ret1 rfl) (fun h4 =>
    br_of (fun _ => ret1 rfl) (fun h5 => br_of (fun _ => ret1 rfl) (fun h6 => br_of (fun _ => ret1 rfl) (fun h7 => br_of (fun _ => ret1 rfl) (fun h8 => br_of (fun _ => ret1 rfl) (fun h9 => ?_)))))))))⟩)⟩
  have h7 := of_decide_eq_false h7
  have h8 := of_decide_eq_false h8
  have h9 := of_decide_eq_false h9
  obtain ⟨c1, c2, c3, c4, c5, c6, c7⟩ := calls (okay h1) (okay h2) (okay h3) (by simpa using h4) (by simpa using h5) (by simpa using h6) i j (by omega) (by omega) (by omega)
  rw [w64 (x := j + 1) (by omega) (by omega)]
  exact ⟨_, _, _, _, c1, _, _, _, _, c2, _, _, _, _, c3, _, _, _, _, c4, _, _, _, _, c5, _, _, _, _, c6, _, c7, br_of (fun _ => ret1 rfl) (fun h => by cases h)⟩
end Go.AM
