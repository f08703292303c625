/- A calculus of plain values for the model's code, what the code of each function asks (computed by the kernel), contracts of the functions, and plain laws (part 6). No conditions. -/
import Derived.Test.YtdpjhpfjmjhhkaaPart5
import Derived.Test.YtdpjhpfjmjhhkaaRows
import Derived.Test.YtdpjhpfjmjhhkaaPart3
import Derived.Test.YtdpjhpfjmjhhkaaPart4
set_option maxRecDepth 100000
open Go Go.Proofs
namespace Go.AM

/-! ### What is in full is valid, and not too large -/
theorem runH_sz {s : Sto} (hs : OKS s) : ∀ (F : Nat) (t : Tm), validB t = true → Fit F t → (runH s F t).2.1 = 0 → (runH s F t).1.sz + 4200 * (F - (runH s F t).2.2) ≤ t.sz + 4200 * F := by
  intro F
  induction F with
  | zero => intro t hv hf h; rw [runH] at h ⊢; split <;> rename_i q
            · exact Nat.le_refl _
            · rw [if_neg q] at h; cases h
  | succ F ih =>
    intro t hv hf h
    rw [runH] at h ⊢
    split
    · exact Nat.le_refl _
    · rename_i q
      rw [if_neg q] at h
      split
      · rename_i q2; rw [if_pos q2] at h; cases h
      · rename_i q2
        rw [if_neg q2] at h
        have q1 : (stepS s t).2 = 1 := by rcases stepS_n s t with q' | q' | q'; · exact absurd q' q
                                          · exact q'
                                          · exact absurd q' q2
        obtain ⟨v, ff⟩ := stepS_fit hs hv hf q1
        have h1 := ih _ v ff h
        have h2 := stepS_sz hs hv hf q1
        simp only
        omega
/-- The rows within, done in full. -/
theorem kidsF_ok {fu : Int → Tm → Tm × Int × Int} (hfu : ∀ g t, 0 ≤ g → 0 ≤ (fu g t).2.2 ∧ (fu g t).2.2 ≤ g) {A : Tm → Tm → Prop} :
    ∀ (l : List Tm) (sk : Bool) (g : Int), 0 ≤ g → (∀ u ∈ (if sk = true then l.drop 1 else l), ∀ g' : Int, 0 ≤ g' → g' ≤ g → (fu g' u).2.1 = 0 → A u (fu g' u).1 ∧ (fu g' u).1.sz + 4200 * (fu g' u).2.2.toNat ≤ u.sz + 4200 * g'.toNat) →
    (kidsF fu sk l g).2.1 = 0 → Tm.szs (kidsF fu sk l g).1 + 4200 * (kidsF fu sk l g).2.2.toNat ≤ Tm.szs l + 4200 * g.toNat ∧ (kidsF fu sk l g).1.length = l.length ∧ (sk = true → hd (kidsF fu sk l g).1 = hd l) ∧ All2 A (if sk = true then l.drop 1 else l) (if sk = true then (kidsF fu sk l g).1.drop 1 else (kidsF fu sk l g).1)
  | [], sk, g, _, _, _ => by
    refine ⟨Nat.le_refl _, rfl, fun _ => rfl, ?_⟩
    cases sk <;> trivial
  | t :: l, true, g, hg, h, h0 => by
    have := kidsF_ok hfu l false g hg h h0
    refine ⟨?_, by rw [kidsF, List.length_cons, this.2.1]; rfl, fun _ => rfl, this.2.2.2⟩
    have h1 := this.1
    show t.sz + Tm.szs _ + _ ≤ t.sz + Tm.szs l + _
    have e : (kidsF fu true (t :: l) g).2.2 = (kidsF fu false l g).2.2 := rfl
    rw [e]; omega
  | t :: l, false, g, hg, h, h0 => by
    have eK : kidsF fu false (t :: l) g = if (fu g t).2.1 ≠ 0 then ([], (fu g t).2) else ((fu g t).1 :: (kidsF fu false l (fu g t).2.2).1, (kidsF fu false l (fu g t).2.2).2) := rfl
    rw [eK] at h0 ⊢
    by_cases q : (fu g t).2.1 ≠ 0
    · rw [if_pos q] at h0; exact absurd h0 q
    · rw [if_neg q] at h0 ⊢
      have q : (fu g t).2.1 = 0 := by simpa using q
      have h1 := hfu g t hg
      have h2 := h t List.mem_cons_self g hg (Int.le_refl _) q
      have h3 := kidsF_ok hfu l false (fu g t).2.2 h1.1 (fun u hu g' a b c => h u (List.mem_cons_of_mem _ hu) g' a (by omega) c) h0
      refine ⟨?_, by simp only [List.length_cons, h3.2.1], fun e => (by cases e), ⟨h2.1, h3.2.2.2⟩⟩
      have h4 := h3.1
      have h5 := h2.2
      simp only [Tm.szs]
      omega
theorem all2_mem {α β : Type} {R : α → β → Prop} {Q : β → Prop} (h : ∀ x y, R x y → Q y) : ∀ {a : List α} {b : List β}, All2 R a b → ∀ y ∈ b, Q y
  | [], [], _, y, hy => by cases hy
  | x :: a, z :: b, hr, y, hy => by
    rcases List.mem_cons.1 hy with rfl | hy
    · exact h _ _ hr.1
    · exact all2_mem h hr.2 y hy
  | [], _ :: _, h, _, _ => h.elim
  | _ :: _, [], h, _, _ => h.elim
theorem mem_hd {l : List Tm} {y : Tm} (h : y ∈ l) : y = hd l ∨ y ∈ l.drop 1 := by
  cases l with
  | nil => cases h
  | cons x l => exact (List.mem_cons.1 h).imp id id
theorem validL_iff {l : List Tm} : validL l = true ↔ ∀ u ∈ l, validB u = true := by
  induction l with
  | nil => exact ⟨(fun _ u hu => nomatch hu), fun _ => rfl⟩
  | cons x l ih =>
    rw [validL, Bool.and_eq_true, ih]
    exact ⟨fun h u hu => (List.mem_cons.1 hu).elim (fun e => e ▸ h.1) (h.2 u), fun h => ⟨h x List.mem_cons_self, fun u hu => h u (List.mem_cons_of_mem _ hu)⟩⟩
/-- New rows within what is valid. -/
theorem valid_node {k n : Int} {s : List UInt8} {l us : List Tm} (hv : validB (.mk k s n l) = true) (hl : us.length = l.length) (hk : k = 6 → hd us = hd l) (hu : k = 5 ∨ k = 6 → ∀ u ∈ us, validB u = true) : validB (.mk k s n us) = true := by
  by_cases h5 : k = 5
  · subst h5
    rw [valid5] at hv ⊢
    simp only [Bool.and_eq_true] at hv ⊢
    exact ⟨⟨hv.1.1, by rw [hl]; exact hv.1.2⟩, validL_iff.2 (hu (.inl rfl))⟩
  · by_cases h6 : k = 6
    · subst h6
      rw [valid6] at hv ⊢
      simp only [Bool.and_eq_true] at hv ⊢
      rw [hk rfl, hl]
      exact ⟨hv.1, validL_iff.2 (hu (.inr rfl))⟩
    · have := okB0 (valid_ok _ hv) h5 h6
      subst this
      have : us = [] := List.eq_nil_of_length_eq_zero hl
      subst this; exact hv
theorem bds_iff {M : Int} {l : List Tm} (h : ∀ u ∈ l, bd M u) : bds M l := bds_of h
theorem fullF_ok {s : Sto} (hs : OKS s) : ∀ (D : Nat) (f : Int) (t : Tm), f.toNat ≤ D → 0 ≤ f → validB t = true → Fit f.toNat t → (fullF s D f t).2.1 = 0 →
    (validB (fullF s D f t).1 = true ∧ bd M61 (fullF s D f t).1) ∧ (fullF s D f t).1.sz + 4200 * (fullF s D f t).2.2.toNat ≤ t.sz + 4200 * f.toNat
  | 0, f, t, _, _, _, _, h => by rw [fullF] at h; cases h
  | D + 1, f, t, hD, h0, hv, hf, h => by
    rw [fullF] at h ⊢
    split
    · rename_i q; rw [if_pos q] at h; cases h
    rename_i q
    rw [if_neg q] at h
    have hfit := hf.mono (show (f - 1).toNat ≤ f.toNat by omega)
    have hq := runH_fit hs hv hfit
    have hz := runH_sz hs (f - 1).toNat t hv hfit
    have eh : headP s (f - 1) t = ((runH s (f - 1).toNat t).1, (runH s (f - 1).toNat t).2.1, f - 1 - ((runH s (f - 1).toNat t).2.2 : Int)) := rfl
    rw [eh] at h ⊢
    generalize runH s (f - 1).toNat t = q at *
    obtain ⟨x, er, u⟩ := q
    simp only at hq hz h ⊢
    obtain ⟨hu, hq⟩ := hq
    rw [fullK] at h ⊢
    split
    · rename_i q2; rw [if_pos q2] at h; exact absurd h q2
    rename_i q2
    rw [if_neg q2] at h
    have he : er = 0 := by simpa using q2
    subst he
    rcases hq with ⟨_, hvx, hfx, _⟩ | ⟨h80, _⟩
    · have hz := hz rfl
      obtain ⟨k, str, n, l⟩ := x
      simp only [Tm.l, Tm.k, Tm.s, Tm.n] at h ⊢
      have hg0 : 0 ≤ f - 1 - (u : Int) := by omega
      have hkid : ∀ x ∈ l, k = 5 ∨ k = 6 := fun x hx => by
        by_cases h5 : k = 5 ∨ k = 6
        · exact h5
        · rw [not_or] at h5
          have := okB0 (valid_ok _ hvx) h5.1 h5.2
          rw [this] at hx; cases hx
      have kid : ∀ x ∈ l, ∀ g' : Int, 0 ≤ g' → g' ≤ f - 1 - (u : Int) → (fullF s D g' x).2.1 = 0 → (validB (fullF s D g' x).1 = true ∧ bd M61 (fullF s D g' x).1) ∧ (fullF s D g' x).1.sz + 4200 * (fullF s D g' x).2.2.toNat ≤ x.sz + 4200 * g'.toNat := fun x hx g' a b c =>
        fullF_ok hs D g' x (by omega) a (kid_valid hvx (hkid x hx) x hx) ((hfx.kid (show x ∈ Tm.l (.mk k str n l) from hx)).mono (by omega)) c
      unfold fullN at h ⊢
      split
      · rename_i q3; rw [if_pos q3] at h; exact absurd h q3
      rename_i q3
      have h9 : (kidsF (fullF s D) (k == 6) l (f - 1 - (u : Int))).2.1 = 0 := by simpa using q3
      have sub : ∀ x ∈ (if (k == 6) = true then l.drop 1 else l), x ∈ l := fun x hx => by
        split at hx
        · exact List.mem_of_mem_drop hx
        · exact hx
      have hk := kidsF_ok (A := fun _ y => validB y = true ∧ bd M61 y) (fullF_left s D) l (k == 6) (f - 1 - (u : Int)) hg0 (fun x hx g' a b c => kid x (sub x hx) g' a b c) h9
      generalize kidsF (fullF s D) (k == 6) l (f - 1 - (u : Int)) = r at *
      obtain ⟨us, er2, g2⟩ := r
      simp only at hk ⊢
      obtain ⟨k1, k2, k3, k4⟩ := hk
      have k5 := all2_mem (Q := fun y => validB y = true ∧ bd M61 y) (fun _ _ h => h) k4
      have all : ∀ y ∈ us, validB y = true ∧ bd M61 y := fun y hy => by
        by_cases h6 : (k == 6) = true
        · rcases mem_hd hy with e | e
          · rw [k3 h6] at e
            have hl : l ≠ [] := fun e2 => by rw [e2] at k2; rw [List.eq_nil_of_length_eq_zero k2] at hy; cases hy
            have hm : y ∈ l := by cases l with
              | nil => exact absurd rfl hl
              | cons z l => rw [e]; exact List.mem_cons_self
            exact ⟨kid_valid hvx (hkid y hm) y hm, bds_mem hfx.bd.2 hm⟩
          · exact k5 y (by rw [if_pos h6]; exact e)
        · exact k5 y (by rw [if_neg h6]; exact hy)
      refine ⟨⟨valid_node hvx k2 (fun e => k3 (by have e : k = 6 := e; rw [e]; rfl)) (fun _ y hy => (all y hy).1), ⟨hfx.bd.1, bds_of fun y hy => (all y hy).2⟩⟩, ?_⟩
      simp only [Tm.sz] at hz ⊢
      omega
    · cases h80
/-- Full: the term, what is left, what is wrong. -/
def FullV (s : Sto) (f : Int) (t : Tm) : Tm × Int × Int :=
  if validB t = true then (if (fullF s f.toNat f t).2.1 = 0 then (shortF (fullF s f.toNat f t).1, (fullF s f.toNat f t).2.2, 0) else (noT, 0, (fullF s f.toNat f t).2.1)) else (noT, 0, 1)
theorem fullF_neg (s : Sto) (D : Nat) {f : Int} (t : Tm) (h : f ≤ 0) : fullF s D f t = (noT, 80, f) := by
  cases D with
  | zero => rfl
  | succ D => rw [fullF, if_pos h]
def fullR (s : Sto) (f : Int) (t : Tm) : Tm × Int × Int :=
  if validB t = true then (if (fullF s f.toNat f t).2.1 = 0 then ((fullF s f.toNat f t).1, (fullF s f.toNat f t).2.2, 0) else (noT, 0, (fullF s f.toNat f t).2.1)) else (noT, 0, 1)
theorem c_srun_full (s : Sto) (hs : OKS s) (f : Int) (t : Tm) (h0 : 0 - 9223372036854775808 ≤ f) (hz : t.sz ≤ B) (hf : validB t = true → Fit f.toNat t) :
    AC Try.prog 54 [aT t, ci f, .c (.fn (.func 55) [(false, [.ep 0 2 0 0])] [])] (oS s) (aHd (fullR s f t)) (oS s) := by
  have h1 := c_valid t hz
  have h2 := fun hv => c_sfull s hs f.toNat f t (Nat.le_refl _) h0 hv (hf hv)
  have hV : fullR s f t = if validB t = true then (if (fullF s f.toNat f t).2.1 = 0 then ((fullF s f.toNat f t).1, (fullF s f.toNat f t).2.2, 0) else (noT, 0, (fullF s f.toNat f t).2.1)) else (noT, 0, 1) := rfl
  rw [hV]
  generalize fullF s f.toNat f t = z at *
  obtain ⟨z1, z2, z3⟩ := z
  obtain ⟨k, str, n, l⟩ := t
  refine AC.vc hP sh lv54 (Nat.le_refl _) (by simp [isLive]) (by simp) (Eq.mpr (v54_F55 k str n (FTs l) ..) ?_)
  refine ⟨_, h1, br_of (fun h => ?_) (fun h => ⟨(z1, z2, z3), h2 (by simpa using h), br_of (fun h' => ?_) (fun h' => ?_)⟩)⟩
  · rw [if_neg (by simpa using h)]; exact ⟨leHd (l := []) leNil, rfl⟩
  · have h : validB (.mk k str n l) = true := by simpa using h
    rw [if_pos h, if_neg (by simpa using h')]; exact ⟨leHd (l := []) leNil, rfl⟩
  · have h : validB (.mk k str n l) = true := by simpa using h
    rw [if_pos h, if_pos (by simpa using h')]; exact ⟨.refl _, rfl⟩
theorem c_sFull (s : Sto) (hs : OKS s) (f : Int) (t : Tm) (h0 : 0 - 9223372036854775808 ≤ f) (hz : t.sz ≤ B) (hf : validB t = true → Fit f.toNat t) : AC Try.prog 31 [aS 0, aT t, ci f] (oS s) (aHd (FullV s f t)) (oS s) := by
  have h := c_srun_full s hs f t h0 hz hf
  have hsh : validB t = true → (fullF s f.toNat f t).2.1 = 0 → AC Try.prog 56 [aT (fullF s f.toNat f t).1] [] (aT (shortF (fullF s f.toNat f t).1)) [] := fun hv he => by
    have h0 : 0 ≤ f := by
      rcases Int.le_total 0 f with q | q
      · exact q
      · rw [fullF_neg s _ t q] at he; cases he
    obtain ⟨⟨a, b⟩, c⟩ := fullF_ok hs f.toNat f t (Nat.le_refl _) h0 hv (hf hv) he
    have := (hf hv).2.1
    have h3 := c_eShort (fullF s f.toNat f t).1 (by omega) b
    rw [if_pos a] at h3
    exact h3
  have e1 : FullV s f t = if validB t = true then (if (fullF s f.toNat f t).2.1 = 0 then (shortF (fullF s f.toNat f t).1, (fullF s f.toNat f t).2.2, 0) else (noT, 0, (fullF s f.toNat f t).2.1)) else (noT, 0, 1) := rfl
  have e2 : fullR s f t = if validB t = true then (if (fullF s f.toNat f t).2.1 = 0 then ((fullF s f.toNat f t).1, (fullF s f.toNat f t).2.2, 0) else (noT, 0, (fullF s f.toNat f t).2.1)) else (noT, 0, 1) := rfl
  have go : ∀ z : Tm × Int × Int, AC Try.prog 54 [aT t, ci f, .c (.fn (.func 55) [(false, [.ep 0 2 0 0])] [])] (oS s) (aHd z) (oS s) → ∀ r : TV, br (z.2.2 != 0) (TV.Le (.tup [(true, [.a (.fz (.int .i64 0)), .a (.fz (.str [])), .a (.fz (.int .i64 0)), .a (.fz .nils)]), (false, [.a (.fz (.int .i64 0))]), (false, [.a (.fz (.int .i64 z.2.2))])]) r ∧ oS s = oS s)
      (∃ u : Tm, AC Try.prog 56 [aT z.1] [] (aT u) [] ∧ TV.Le (.tup [(true, cT u), (false, [.a (.fz (.int .i64 z.2.1))]), (false, [.a (.fz (.int .i64 0))])]) r ∧ oS s = oS s) → AC Try.prog 31 [aS 0, aT t, ci f] (oS s) r (oS s) := fun z hz r hb => by
    obtain ⟨k, str, n, l⟩ := t
    refine AC.vc hP sh lv31 (Nat.le_refl _) (by simp [isLive]) (by simp) (Eq.mpr (v31 k str n (FTs l) ..) ?_)
    exact ⟨z, hz, hb⟩
  refine go _ h _ ?_
  rw [e1, e2]
  by_cases hv : validB t = true
  · rw [if_pos hv, if_pos hv]
    by_cases he : (fullF s f.toNat f t).2.1 = 0
    · rw [if_pos he, if_pos he]
      exact br_of (fun h => by cases h) (fun _ => ⟨_, hsh hv he, .refl _, rfl⟩)
    · rw [if_neg he, if_neg he]
      exact br_of (fun _ => ⟨leHd (l := []) leNil, rfl⟩) (fun h => absurd (by simpa using h) he)
  · rw [if_neg hv, if_neg hv]
    exact br_of (fun _ => ⟨leHd (l := []) leNil, rfl⟩) (fun h => by cases h)
/-! ### Stores of acts -/
abbrev aV7 (l : List I3T) : TV := .c (.a (.fz (.sl false 7 (l.map FI3T))))
def badT (t : Tm) : Bool := large t 30 || !near 1099511627776 t
theorem FI3T_get {l : List I3T} {i : Nat} (h : i < l.length) : List.getD (l.map FI3T) i [] = FI3T l[i] := by simp [List.getD, h]
def overV (l : List I3T) : Bool := decide ((l.length : Int) > 40) || l.any fun a => badT a.2.1
theorem over_no {l : List I3T} (h : overV l = false) : l.length ≤ 40 ∧ ∀ v ∈ l, v.2.1.sz ≤ 30 ∧ bd 1099511627776 v.2.1 := by
  rw [overV, Bool.or_eq_false_iff] at h
  refine ⟨by have := of_decide_eq_false h.1; omega, fun v hv => ?_⟩
  have := List.any_eq_false.1 h.2 v hv
  simp only [badT, Bool.or_eq_true, Bool.not_eq_true', not_or, Bool.not_eq_true, Bool.not_eq_false] at this
  exact ⟨by have := large_sz this.1; omega, near_bd _ this.2⟩
/-- One act. -/
def actS (s : Sto) (a : I3T) : Sto := if (a.1.1.1.tmod 2 == 0) = true then freshS s a.1.1.2.1 else bindS s a.1.1.2.1 a.2.1
def laidV (s : Sto) (l : List I3T) : Sto := l.foldl actS s
/-- What stays so for a store of acts. -/
structure OKA (s : Sto) (n : Nat) : Prop where
  ok : OKS s
  V : s.V.length ≤ n
  T : s.T.length ≤ n
  tr : OKT s
  wf : ∀ i ∈ s.V, i.bd = false → i.v = noT
  nn : ∀ i ∈ s.V, i.bd = true → i.v.bk ≤ B
theorem bindV_length (s : Sto) (x : Int) (t : Tm) : (bindS s x t).V.length = s.V.length := by unfold bindS; split <;> simp
theorem OKS.bindA {s : Sto} {x : Int} {t : Tm} (h : OKS s) (hz : t.sz ≤ 4000) (hb : bd 2199023255552 t) : OKS (bindS s x t) := by
  by_cases q : bindB s x t = true
  · rw [(bind_yes q).1]
    intro i hi hbd
    rcases List.mem_or_eq_of_mem_set hi with hi | rfl
    · exact h i hi hbd
    · refine ⟨?_, hz, hb⟩
      simp only [bindB, Bool.and_eq_true] at q
      exact q.2.2.1
  · rw [(bind_no (by simpa using q)).1]; exact h
theorem bindB_in {s : Sto} {x : Int} {t : Tm} (q : bindB s x t = true) : 0 ≤ x ∧ x < (s.V.length : Int) := by
  simp only [bindB, Bool.and_eq_true, inB, decide_eq_true_eq] at q
  exact q.1
theorem OKA.bind {s : Sto} {n : Nat} {x : Int} {t : Tm} (h : OKA s n) (hz : t.sz ≤ 4000) (hb : bd 2199023255552 t) (hk : t.bk ≤ B) : OKA (bindS s x t) (n + 1) := by
  have h1 := h.V
  have h2 := h.T
  by_cases q : bindB s x t = true
  · have hx := bindB_in q
    refine ⟨h.ok.bindA hz hb, by rw [bindV_length]; omega, by rw [(bind_yes q).1]; simp; omega, fun y hy => ?_, fun i hi hbd => ?_, fun i hi hbd => ?_⟩
    · rw [bindV_length]
      rw [(bind_yes q).1] at hy
      rcases List.mem_append.1 hy with hy | hy
      · exact h.tr y hy
      · simp at hy; subst hy; exact hx
    · rw [(bind_yes q).1] at hi
      rcases List.mem_or_eq_of_mem_set hi with hi | rfl
      · exact h.wf i hi hbd
      · cases hbd
    · rw [(bind_yes q).1] at hi
      rcases List.mem_or_eq_of_mem_set hi with hi | rfl
      · exact h.nn i hi hbd
      · exact hk
  · rw [(bind_no (by simpa using q)).1]
    exact ⟨h.ok, by omega, by omega, h.tr, h.wf, h.nn⟩
theorem OKA.fresh {s : Sto} {n : Nat} (h : OKA s n) (lv : Int) : OKA (freshS s lv) (n + 1) := by
  have h1 := h.V
  have h2 := h.T
  have hl : (freshS s lv).V.length = s.V.length + 1 := by simp [freshS]
  refine ⟨fun i hi hb => ?_, by omega, by simp only [freshS]; omega, fun y hy => ?_, fun i hi hbd => ?_, fun i hi hbd => ?_⟩
  · rcases List.mem_append.1 hi with hi | hi
    · exact h.ok i hi hb
    · simp at hi; subst hi; cases hb
  · rw [hl]; have := h.tr y hy; omega
  · rcases List.mem_append.1 hi with hi | hi
    · exact h.wf i hi hbd
    · simp at hi; subst hi; rfl
  · rcases List.mem_append.1 hi with hi | hi
    · exact h.nn i hi hbd
    · simp at hi; subst hi; cases hbd
theorem OKA.act {s : Sto} {n : Nat} (h : OKA s n) {a : I3T} (hz : a.2.1.sz ≤ 30) (hb : bd 1099511627776 a.2.1) (hk : a.2.1.bk ≤ B) : OKA (actS s a) (n + 1) := by
  unfold actS
  split
  · exact h.fresh _
  · exact h.bind (by omega) (bd_le (by omega) _ hb) hk
theorem OKA.nil : OKA ⟨[], []⟩ 0 := ⟨(fun i hi => nomatch hi), Nat.le_refl _, Nat.le_refl _, (fun i hi => nomatch hi), (fun i hi => nomatch hi), (fun i hi => nomatch hi)⟩
theorem OKA.more {s : Sto} {n m : Nat} (h : OKA s n) (hm : n ≤ m) : OKA s m := ⟨h.ok, Nat.le_trans h.V hm, Nat.le_trans h.T hm, h.tr, h.wf, h.nn⟩
theorem OKA.acts : ∀ {l : List I3T} {s : Sto} {n : Nat}, OKA s n → (∀ v ∈ l, v.2.1.sz ≤ 30 ∧ bd 1099511627776 v.2.1) → (∀ v ∈ l, v.2.1.bk ≤ B) → OKA (laidV s l) (n + l.length)
  | [], s, n, h, _, _ => h
  | a :: l, s, n, h, h1, h2 => by
    have := OKA.acts (l := l) (h.act (h1 a List.mem_cons_self).1 (h1 a List.mem_cons_self).2 (h2 a List.mem_cons_self)) (fun v hv => h1 v (List.mem_cons_of_mem _ hv)) (fun v hv => h2 v (List.mem_cons_of_mem _ hv))
    exact this.more (by simp only [List.length_cons]; omega)

end Go.AM

set_option maxRecDepth 100000
open Go Go.Proofs
namespace Go.AM

/-! ### Stores of acts: the law's -/
abbrev rI3 (l : List I3T) (i : Nat) (e : I3T) : Prop := (FV.isSl 7 (.sl false 7 (l.map FI3T)) = true) ∧ ((0 : Int) ≤ (i : Int)) ∧ ((i : Int) < (l.length : Int)) ∧ (FI3T e = FI3T e)
abbrev sNil : Sto := ⟨[], []⟩
/-! ### What is undone is as it was -/
def Ext (s0 s : Sto) : Prop := ∃ xs, s.T = s0.T ++ xs ∧ s0.V.length ≤ s.V.length ∧ ∀ j, j < s0.V.length → (xs.foldl clrV s.V)[j]? = s0.V[j]?
theorem Ext.refl (s : Sto) : Ext s s := ⟨[], by simp, Nat.le_refl _, fun _ _ => rfl⟩
theorem Ext.fresh {s0 s : Sto} (h : Ext s0 s) (lv : Int) : Ext s0 (freshS s lv) := by
  obtain ⟨xs, h1, h2, h3⟩ := h
  refine ⟨xs, h1, by simp only [freshS, List.length_append]; omega, fun j hj => ?_⟩
  rw [← h3 j hj, clrs_get, clrs_get]
  show (s.V ++ _)[j]?.map _ = _
  rw [List.getElem?_append_left (by omega)]
theorem Ext.bind {s0 s : Sto} (h : Ext s0 s) (wf : ∀ i ∈ s.V, i.bd = false → i.v = noT) (x : Int) (t : Tm) : Ext s0 (bindS s x t) := by
  by_cases q : bindB s x t = true
  · obtain ⟨xs, h1, h2, h3⟩ := h
    have hx := bindB_in q
    obtain ⟨hl, ei⟩ := infOf_in hx.1 hx.2
    have hub : (infOf s.V x).bd = false := by
      simp only [bindB, Bool.and_eq_true, Bool.not_eq_true'] at q; exact q.2.1
    rw [ei] at hub
    have hw := wf _ (List.getElem_mem hl) hub
    rw [(bind_yes q).1, ei]
    refine ⟨xs ++ [x], by rw [h1, List.append_assoc], by rw [List.length_set]; exact h2, fun j hj => ?_⟩
    rw [← h3 j hj, clrs_get, clrs_get, List.getElem?_set]
    by_cases e : x.toNat = j
    · subst e
      rw [if_pos rfl, if_pos hl, List.getElem?_eq_getElem hl]
      simp only [Option.map_some, List.any_append, List.any_cons, beq_self_eq_true, Bool.true_or, Bool.or_true, if_true]
      congr 1
      generalize s.V[x.toNat] = v at *
      obtain ⟨lv, bd, v⟩ := v
      simp only at hub hw
      subst hub; subst hw
      unfold clrI; split <;> rfl
    · rw [if_neg e]
      congr 1
      funext v
      simp [List.any_append, e]
  · rw [(bind_no (by simpa using q)).1]; exact h
theorem Ext.act {s0 s : Sto} (h : Ext s0 s) (wf : ∀ i ∈ s.V, i.bd = false → i.v = noT) (a : I3T) : Ext s0 (actS s a) := by
  unfold actS; split
  · exact h.fresh _
  · exact h.bind wf _ _
theorem Ext.undo {s0 s : Sto} (h : Ext s0 s) : undoS s s0.T.length s0.V.length = s0 := by
  obtain ⟨xs, h1, h2, h3⟩ := h
  obtain ⟨V0, T0⟩ := s0
  have e1 : s.T.drop T0.length = xs := by rw [h1, List.drop_left]
  have e2 : s.T.take T0.length = T0 := by rw [h1, List.take_left]
  show (⟨((s.T.drop T0.length).foldl clrV s.V).take V0.length, s.T.take T0.length⟩ : Sto) = _
  rw [e1, e2]
  congr 1
  apply List.ext_getElem?
  intro j
  rw [List.getElem?_take]
  split
  · rename_i hj; exact h3 j hj
  · rename_i hj; rw [List.getElem?_eq_none (by omega)]
theorem Ext.cut {s0 s : Sto} (h : Ext s0 s) (h0 : OKT s0) : s0.T.length ≤ s.T.length ∧ s0.V.length ≤ s.V.length ∧ ∀ x ∈ s.T.take s0.T.length, x < (s0.V.length : Int) := by
  obtain ⟨xs, h1, h2, h3⟩ := h
  refine ⟨by rw [h1, List.length_append]; omega, h2, fun x hx => ?_⟩
  rw [h1, List.take_left] at hx
  exact (h0 x hx).2
/-! ### The law: what is undone is as it was -/
abbrev hpU (u : Sto) (m n : Nat) : AHeap := [(0, sto2 1 2 u), (1, .arz 6 (SR u.V)), (2, .arz 1 (IR u.T)), (3, .arr 2 [[.a (.fz (.int .i64 (m : Int))), .a (.fz (.int .i64 (n : Int)))]])]
theorem info_at (s : Sto) {i : Nat} (h : i < s.V.length) : infOf s.V (i : Int) = s.V[i] ∧ inB s.V (i : Int) = true := by
  obtain ⟨hl, e⟩ := infOf_in (V := s.V) (x := (i : Int)) (by omega) (by omega)
  exact ⟨e, inB_of (by omega) (by omega)⟩
theorem val_sz {s : Sto} {n : Nat} (h : OKA s n) {i : Nat} (hi : i < s.V.length) : (s.V[i]).v.sz ≤ B := by
  have hm := List.getElem_mem hi
  cases hb : (s.V[i]).bd with
  | true => exact Nat.le_trans (Tm.sz_bk _) (h.nn _ hm hb)
  | false => rw [h.wf _ hm hb]; simp only [Tm.sz, Tm.szs, B]; omega
end Go.AM

set_option maxRecDepth 100000
open Go Go.Proofs
namespace Go.AM

/-! ### The document's example -/
abbrev vx1 (n : Int) : Tm := .mk 4 [] n []
abbrev w15S : Sto := freshS (freshS sNil 0) 0
abbrev w15B : Sto := bindS w15S 0 (.mk 6 [] 0 [exF, vx1 1])
abbrev exG : Tm := .mk 0 [103] 0 []
theorem okS2 : OKA w15S 2 := (OKA.nil.fresh 0).fresh 0
theorem okB2 : OKA w15B 3 := okS2.bind (by decide) (near_bd _ (by decide)) (by simp only [B]; decide)
theorem full_is {s : Sto} {f : Int} {t u : Tm} {n : Int} (h : sameB (FullV s f t).1 u = true) (h2 : (FullV s f t).2 = (n, 0)) : FullV s f t = (u, n, 0) := by
  exact Prod.ext ((sameB_iff _ _).1 h) h2
/-! ### The law: what is undone is as it was -/
theorem SR_take_succ {V : List Inf} {i : Nat} (h : i < V.length) : List.take i (SR (V.take i)) ++ [Inf.c V[i]] = SR (V.take (i + 1)) := by
  rw [List.take_of_length_le (by rw [SR_length, List.length_take]; omega), List.take_succ_eq_append_getElem h, SR_append]; rfl
end Go.AM

set_option maxRecDepth 100000
open Go Go.Proofs
namespace Go.Proofs.Ytdpjhpfjmjhhkaa.base
open Go.ChangeShapes Go.WideShapes Go.ChangeAt Go.RowKit Go.AM

theorem one_le {H : Type} (d : DataW H) : 1 ≤ Rows.uptoBulk d := by
  cases d with
  | lit l => cases l <;> simp [Rows.uptoBulk]
  | _ => simp [Rows.uptoBulk]
theorem bulk {H : Type} : Bulk (H := H) Rows.uptoBulk Rows.uptoBulkAll :=
  ⟨rfl, fun _ _ => rfl, one_le, fun es sp => by simp only [Rows.uptoBulk]; omega, fun l => by simp [Rows.uptoBulk], fun l => by simp [Rows.uptoBulk]⟩
theorem own : ownKnob Try.prog.godebug = none := by kernel_rfl
theorem laidOut : laidOutB Try.prog = true := by kernel_rfl
theorem tmTy : ∃ f0 f1 f2 f3 : Field, TmTy Try.prog 25 f0 f1 f2 f3 :=
  ⟨_, _, _, _, Try.underlying25, Try.underlying22, Try.underlying9, Try.underlying3, Try.underlying23, rfl, rfl, rfl, rfl, by kernel_rfl, by kernel_rfl, by kernel_rfl, by kernel_rfl, by kernel_rfl⟩
theorem rec3 : Try.prog.readableRec 3 = true := by kernel_rfl
theorem lt3 : 3 < Try.prog.types.size := of_decide_eq_true (by kernel_rfl)
theorem rec9 : Try.prog.readableRec 9 = true := by kernel_rfl
theorem lt9 : 9 < Try.prog.types.size := of_decide_eq_true (by kernel_rfl)
theorem rec23 : Try.prog.readableRec 23 = true := by kernel_rfl
theorem lt23 : 23 < Try.prog.types.size := of_decide_eq_true (by kernel_rfl)
theorem rec25 : Try.prog.readableRec 25 = true := by kernel_rfl
theorem lt25 : 25 < Try.prog.types.size := of_decide_eq_true (by kernel_rfl)
theorem rec28 : Try.prog.readableRec 28 = true := by kernel_rfl
theorem lt28 : 28 < Try.prog.types.size := of_decide_eq_true (by kernel_rfl)
theorem rec30 : Try.prog.readableRec 30 = true := by kernel_rfl
theorem lt30 : 30 < Try.prog.types.size := of_decide_eq_true (by kernel_rfl)
theorem rec34 : Try.prog.readableRec 34 = true := by kernel_rfl
theorem lt34 : 34 < Try.prog.types.size := of_decide_eq_true (by kernel_rfl)
theorem rec44 : Try.prog.readableRec 44 = true := by kernel_rfl
theorem lt44 : 44 < Try.prog.types.size := of_decide_eq_true (by kernel_rfl)
theorem rec53 : Try.prog.readableRec 53 = true := by kernel_rfl
theorem lt53 : 53 < Try.prog.types.size := of_decide_eq_true (by kernel_rfl)
theorem rec54 : Try.prog.readableRec 54 = true := by kernel_rfl
theorem lt54 : 54 < Try.prog.types.size := of_decide_eq_true (by kernel_rfl)
theorem noGl (g : Nat) (h : Try.prog.globalNamed "internal/strconv.uint64pow10" = some g) : False := by
  rw [show Try.prog.globalNamed "internal/strconv.uint64pow10" = none by kernel_rfl] at h; cases h
theorem num_range {n : Int} (h : (Lit.int .i64 n).wf = true) : -9223372036854775808 ≤ n ∧ n ≤ 9223372036854775807 := by
  simp only [Lit.wf, IntKind.min, IntKind.max, IntKind.signed, IntKind.bits, Bool.and_eq_true, decide_eq_true_eq, if_true] at h; omega
theorem upto {H : Type} {l : List (DataW H)} (hk : Rows.uptoSmall H l = true) : Rows.uptoBulkAll l ≤ 1048576 := of_decide_eq_true hk
end Go.Proofs.Ytdpjhpfjmjhhkaa.base

set_option maxRecDepth 100000
open Go Go.Proofs
namespace Go.AM

/-! ### Variables that are laid -/
abbrev aV6 (l : List IBT) : TV := .c (.a (.fz (.sl false 6 (l.map FIBT))))
theorem FIBT_get {l : List IBT} {i : Nat} (h : i < l.length) : List.getD (l.map FIBT) i [] = FIBT l[i] := by simp [List.getD, h]
def badV (t : Tm) : Bool := large t 12 || !near 1000 t
def badW (t : Tm) : Bool := large t 24 || !near 1000 t
def overI (l : List IBT) : Bool := decide ((l.length : Int) > 8) || l.any fun a => badV a.2.2.1
def rowW (m : Int) (l : List Tm) : Bool := decide ((l.length : Int) > m) || l.any badW
abbrev rIB (l : List IBT) (i : Nat) (e : IBT) : Prop := (FV.isSl 6 (.sl false 6 (l.map FIBT)) = true) ∧ ((0 : Int) ≤ (i : Int)) ∧ ((i : Int) < (l.length : Int)) ∧ (FIBT e = FIBT e)
theorem overI_no {l : List IBT} (h : overI l = false) : l.length ≤ 8 ∧ ∀ v ∈ l, v.2.2.1.sz ≤ 12 ∧ bd 1000 v.2.2.1 := by
  rw [overI, Bool.or_eq_false_iff] at h
  refine ⟨by have := of_decide_eq_false h.1; omega, fun v hv => ?_⟩
  have := List.any_eq_false.1 h.2 v hv
  simp only [badV, Bool.or_eq_true, Bool.not_eq_true', not_or, Bool.not_eq_true, Bool.not_eq_false] at this
  exact ⟨by have := large_sz this.1; omega, near_bd _ this.2⟩
theorem badW_no {t : Tm} (h : badW t = false) : t.sz ≤ 24 ∧ bd 1000 t := by
  simp only [badW, Bool.or_eq_false_iff, Bool.not_eq_false'] at h
  exact ⟨by have := large_sz h.1; omega, near_bd _ h.2⟩
theorem rowW_no {m : Int} {l : List Tm} (h : rowW m l = false) : (l.length : Int) ≤ m ∧ ∀ t ∈ l, t.sz ≤ 24 ∧ bd 1000 t := by
  rw [rowW, Bool.or_eq_false_iff] at h
  refine ⟨by have := of_decide_eq_false h.1; omega, fun t ht => badW_no (by simpa using List.any_eq_false.1 h.2 t ht)⟩
def frS (l : List IBT) (u : Sto) : Sto := l.foldl (fun u v => freshS u v.1.1) u
def bnS : List IBT → Int → Sto → Sto
  | [], _, u => u
  | v :: l, i, u => bnS l (i + 1) (if v.2.1 = true then bindS u i v.2.2.1 else u)
/-- The store of such variables. -/
def layS (l : List IBT) : Sto := bnS l 0 (frS l ⟨[], []⟩)
theorem l_over16 (l : List IBT) (hl : l.length ≤ 8) (hb : ∀ v ∈ l, v.2.2.1.bk ≤ B) : ∀ (n i : Nat), i + n = l.length → RPt Try.prog 24 0 (cb ((l.drop i).any fun a => badV a.2.2.1)) [] 1 ⟨[(0, aV6 l), (3, ci (i : Int))], [], 0⟩
  | 0, i, hi => by
    refine RPt.vc hP sh lv24 (Eq.mpr (v24_1a ..) ?_)
    refine ⟨rfl, br_of (fun h => ?_) (fun _ => ?_)⟩
    · have h := of_decide_eq_true h
      rw [List.length_map] at h; omega
    · rw [List.drop_eq_nil_of_le (by omega)]; exact ret_b rfl
  | n + 1, i, hi => by
    have hlt : i < l.length := by omega
    have hmem := hb _ (List.getElem_mem hlt)
    have hg := FIBT_get hlt
    have next := l_over16 l hl hb n (i + 1) (by omega)
    rw [List.drop_eq_getElem_cons hlt, List.any_cons]
    refine RPt.vc hP sh lv24 (Eq.mpr (v24_1a ..) ?_)
    refine ⟨rfl, br_of (fun _ => ?_) (fun h => ?_)⟩
    · rw [Int.toNat_natCast, List.length_map, hg, w64 (x := (i : Int) + 1) (by omega) (by omega)]
      generalize l[i] = e at *
      obtain ⟨⟨a1, aI⟩, a2, ⟨⟨ek, es, en, el⟩, eI⟩⟩ := e
      have hmem : Tm.bk (.mk ek es en el) ≤ B := hmem
      have zb := Tm.sz_bk (.mk ek es en el)
      have c1 := c_large (.mk ek es en el) (by omega) 12 (by omega) (by omega)
      have c2 := c_near 1000 (by omega) (by omega) (.mk ek es en el) (by omega)
      have op : rIB l i (⟨a1, aI⟩, a2, ⟨.mk ek es en el, eI⟩) := ⟨rfl, by omega, by omega, rfl⟩
      have eb : badV (.mk ek es en el) = (large (.mk ek es en el) 12 || !near 1000 (.mk ek es en el)) := rfl
      show _ ∧ _
      refine ⟨op, _, c1, op, _, c2, br_of (fun e1 => ?_) (fun e1 => br_of (fun e2 => ?_) (fun e2 => ?_))⟩
      · rw [eb, e1]; exact ret_b rfl
      · rw [eb, e1, e2]; exact ret_b rfl
      · rw [eb, e1, e2, Bool.false_or, Bool.false_or]; exact next
    · have h := of_decide_eq_false h
      rw [List.length_map] at h; omega
theorem c_over16 (l : List IBT) (hb : ∀ v ∈ l, v.2.2.1.bk ≤ B) : AC Try.prog 24 [aV6 l] [] (cb (overI l)) [] := by
  refine AC.vc hP sh lv24 (Nat.le_refl _) (by simp) (by simp) (Eq.mpr (v24 ..) ?_)
  rw [List.length_map]
  refine ⟨rfl, br_of (fun h => ?_) (fun h => ?_)⟩
  · rw [overI, h]; exact ret_b rfl
  · rw [overI, h, Bool.false_or]
    have h := of_decide_eq_false h
    exact l_over16 l (by omega) hb l.length 0 (by omega)
theorem l_row16 (l : List Tm) (hl : l.length ≤ 6) (hb : ∀ t ∈ l, t.bk ≤ B) : ∀ (b a : List Tm), a ++ b = l → RPt Try.prog 25 0 (cb (b.any badW)) [] 1 ⟨[(0, aL l), (3, ci (a.length : Int))], [], 0⟩
  | [], a, hi => by
    refine RPt.vc hP sh lv25 (Eq.mpr (v25_1a ..) ?_)
    refine ⟨rfl, br_of (fun h => ?_) (fun _ => ?_)⟩
    · have h := of_decide_eq_true h
      rw [FTs_length] at h; rw [List.append_nil] at hi; subst hi; omega
    · exact ret_b rfl
  | t :: b, a, hi => by
    have next := l_row16 l hl hb b (a ++ [t]) (by rw [← hi]; simp)
    have hmem := hb t (by rw [← hi]; simp)
    have zb := Tm.sz_bk t
    have hal : a.length < 8 := by have := congrArg List.length hi; simp at this; omega
    have c1 := c_large t (by omega) 24 (by omega) (by omega)
    have c2 := c_near 1000 (by omega) (by omega) t (by omega)
    have eb : badW t = (large t 24 || !near 1000 t) := rfl
    rw [List.any_cons]
    refine RPt.vc hP sh lv25 (Eq.mpr (v25_1a ..) ?_)
    rw [show FTs l = FTs (a ++ t :: b) by rw [hi], aE_mid, w64 (x := (a.length : Int) + 1) (by omega) (by omega)]
    have op : (FV.isSl 4 (.sl false 4 (FTs (a ++ t :: b))) = true) ∧ ((0 : Int) ≤ (a.length : Int)) ∧ ((a.length : Int) < (((FTs (a ++ t :: b)).length : Nat) : Int)) ∧ ((rE (List.getD (FTs (a ++ t :: b)) (Int.toNat (a.length : Int)) []) : List FV) = List.getD (FTs (a ++ t :: b)) (Int.toNat (a.length : Int)) []) := ⟨rfl, by omega, ltI' a t b, rE_mid a t b⟩
    refine ⟨rfl, br_of (fun _ => ⟨op, _, c1, op, _, c2, br_of (fun e1 => ?_) (fun e1 => br_of (fun e2 => ?_) (fun e2 => ?_))⟩) (fun h => absurd (ltI' a t b) (of_decide_eq_false h))⟩
    · rw [eb, e1]; exact ret_b rfl
    · rw [eb, e1, e2]; exact ret_b rfl
    · rw [eb, e1, e2, Bool.false_or, Bool.false_or]
      rw [hi]
      simpa using next
theorem c_row16 (l : List Tm) (hb : ∀ t ∈ l, t.bk ≤ B) : AC Try.prog 25 [aL l] [] (cb (rowW 6 l)) [] := by
  refine AC.vc hP sh lv25 (Nat.le_refl _) (by simp) (by simp) (Eq.mpr (v25 ..) ?_)
  rw [FTs_length]
  refine ⟨rfl, br_of (fun h => ?_) (fun h => ?_)⟩
  · rw [rowW, h]; exact ret_b rfl
  · rw [rowW, h, Bool.false_or]
    have h := of_decide_eq_false h
    exact l_row16 l (by omega) hb l [] rfl
end Go.AM

set_option maxRecDepth 100000
open Go Go.Proofs
namespace Go.AM

/-! ### Two stores of the same variables -/
theorem OKA.fr : ∀ {l : List IBT} {s : Sto} {n : Nat}, OKA s n → OKA (frS l s) (n + l.length)
  | [], s, n, h => h
  | v :: l, s, n, h => (OKA.fr (l := l) (h.fresh v.1.1)).more (by simp only [List.length_cons]; omega)
theorem OKA.bn : ∀ {l : List IBT} {i : Int} {s : Sto} {n : Nat}, OKA s n → (∀ v ∈ l, v.2.2.1.sz ≤ 12 ∧ bd 1000 v.2.2.1) → (∀ v ∈ l, v.2.2.1.bk ≤ B) → OKA (bnS l i s) (n + l.length)
  | [], _, s, n, h, _, _ => h
  | v :: l, i, s, n, h, h1, h2 => by
    have hv := h1 v List.mem_cons_self
    have hb := h2 v List.mem_cons_self
    have step : OKA (if v.2.1 = true then bindS s i v.2.2.1 else s) (n + 1) := by
      split
      · exact h.bind (by omega) (bd_le (by omega) _ hv.2) hb
      · exact h.more (by omega)
    exact (OKA.bn (l := l) (i := i + 1) step (fun v hv => h1 v (List.mem_cons_of_mem _ hv)) (fun v hv => h2 v (List.mem_cons_of_mem _ hv))).more (by simp only [List.length_cons]; omega)
theorem OKA.lay {l : List IBT} (h1 : ∀ v ∈ l, v.2.2.1.sz ≤ 12 ∧ bd 1000 v.2.2.1) (h2 : ∀ v ∈ l, v.2.2.1.bk ≤ B) : OKA (layS l) (l.length + l.length) := by
  have := OKA.bn (l := l) (i := 0) (OKA.fr (l := l) OKA.nil) h1 h2
  rwa [Nat.zero_add] at this
/-- Levels are not below nought. -/
def LV0 (s : Sto) : Prop := ∀ i ∈ s.V, 0 ≤ i.lv
theorem foldMax_nn (a : Int) : 0 ≤ foldMax [a, 0] := by simp only [foldMax, List.foldl]; omega
theorem foldMax_of {a : Int} (h : 0 ≤ a) : foldMax [a, 0] = a := by simp only [foldMax, List.foldl]; omega
theorem LV0.fresh {s : Sto} (h : LV0 s) (lv : Int) : LV0 (freshS s lv) := fun i hi => by
  rcases List.mem_append.1 hi with hi | hi
  · exact h i hi
  · simp at hi; subst hi; exact foldMax_nn lv
theorem LV0.bind {s : Sto} (h : LV0 s) (x : Int) (t : Tm) : LV0 (bindS s x t) := fun i hi => by
  by_cases q : bindB s x t = true
  · rw [(bind_yes q).1] at hi
    rcases List.mem_or_eq_of_mem_set hi with hi | rfl
    · exact h i hi
    · obtain ⟨hl, e⟩ := infOf_in (bindB_in q).1 (bindB_in q).2
      show 0 ≤ (infOf s.V x).lv
      rw [e]; exact h _ (List.getElem_mem hl)
  · rw [(bind_no (by simpa using q)).1] at hi; exact h i hi
theorem LV0.fr : ∀ {l : List IBT} {s : Sto}, LV0 s → LV0 (frS l s)
  | [], _, h => h
  | v :: l, _, h => LV0.fr (l := l) (h.fresh v.1.1)
theorem LV0.bn : ∀ {l : List IBT} {i : Int} {s : Sto}, LV0 s → LV0 (bnS l i s)
  | [], _, _, h => h
  | v :: l, i, s, h => LV0.bn (l := l) (i := i + 1) (s := if v.2.1 = true then bindS s i v.2.2.1 else s) (if q : v.2.1 = true then by rw [if_pos q]; exact h.bind _ _ else by rw [if_neg q]; exact h)
theorem LV0.lay (l : List IBT) : LV0 (layS l) := LV0.bn (LV0.fr (fun i hi => nomatch hi))
theorem LV0.of {s : Sto} (h : LV0 s) (x : Int) : 0 ≤ (infOf s.V x).lv := by
  by_cases q : 0 ≤ x ∧ x < (s.V.length : Int)
  · obtain ⟨hl, e⟩ := infOf_in q.1 q.2
    rw [e]; exact h _ (List.getElem_mem hl)
  · rw [infOf_out q]; exact Int.le_refl _
abbrev oS2 (a b : Sto) : List AObj := [sto2 1 2 a, .arz 6 (SR a.V), .arz 1 (IR a.T), sto2 4 5 b, .arz 6 (SR b.V), .arz 1 (IR b.T)]
abbrev hpS2 (a b : Sto) : AHeap := [(0, sto2 1 2 a), (1, .arz 6 (SR a.V)), (2, .arz 1 (IR a.T)), (3, sto2 4 5 b), (4, .arz 6 (SR b.V)), (5, .arz 1 (IR b.T))]
abbrev tS2 : TV := .tup [(false, [.a (.ep 0 2 0 0)]), (false, [.a (.ep 3 2 0 0)])]
theorem l_laid16b (l : List IBT) (h1 : ∀ v ∈ l, v.2.2.1.sz ≤ 12 ∧ bd 1000 v.2.2.1) (h2 : ∀ v ∈ l, v.2.2.1.bk ≤ B) (h8 : l.length ≤ 8) :
    ∀ (n i : Nat) (u : Sto), i + n = l.length → OKA u (l.length + i) → RPt Try.prog 27 0 tS2 (oS2 (bnS (l.drop i) (i : Int) u) (bnS (l.drop i) (i : Int) u)) 5 ⟨[(0, aV6 l), (4, aS 0), (5, aS 3), (7, ci (i : Int))], hpS2 u u, 6⟩
  | 0, i, u, hi, ha => by
    refine RPt.vc hP sh lv27 (Eq.mpr (v27_5a ..) ?_)
    refine ⟨rfl, br_of (fun h => ?_) (fun _ => ?_)⟩
    · have h := of_decide_eq_true h
      rw [List.length_map] at h; omega
    · rw [List.drop_eq_nil_of_le (by omega)]; exact ⟨.refl _, rfl⟩
  | n + 1, i, u, hi, ha => by
    have hlt : i < l.length := by omega
    have hm := List.getElem_mem hlt
    have hz := h1 _ hm
    have hmk := h2 _ hm
    have hg := FIBT_get hlt
    have next := l_laid16b l h1 h2 h8 n (i + 1)
    rw [List.drop_eq_getElem_cons hlt, bnS]
    refine RPt.vc hP sh lv27 (Eq.mpr (v27_5a ..) ?_)
    refine ⟨rfl, br_of (fun _ => ?_) (fun h => ?_)⟩
    · rw [Int.toNat_natCast, List.length_map, hg, w64 (x := (i : Int) + 1) (by omega) (by omega)]
      generalize l[i] = e at *
      have hT := ha.T
      have zb := Tm.sz_bk e.2.2.1
      have hb1 := c_sbind u (i : Int) e.2.2.1 (by omega) (by omega) (bd_le (by simp only [M61]; omega) _ hz.2)
      have hb2 := c_rbind u (i : Int) e.2.2.1 (by omega) (by omega) (bd_le (by simp only [M61]; omega) _ hz.2)
      have hbn := ha.bind (x := (i : Int)) (t := e.2.2.1) (by omega) (bd_le (by omega) _ hz.2) hmk
      obtain ⟨⟨a1, aI⟩, a2, ⟨⟨ek, es, en, el⟩, eI⟩⟩ := e
      have op : rIB l i (⟨a1, aI⟩, a2, ⟨.mk ek es en el, eI⟩) := ⟨rfl, by omega, by omega, rfl⟩
      refine ⟨op, br_of (fun h => ?_) (fun h => ?_)⟩
      · have h : a2 = true := h
        rw [if_pos h]
        exact ⟨op, (_, bindS u (i : Int) (.mk ek es en el)), hb1, op, (_, bindS u (i : Int) (.mk ek es en el)), hb2, next _ (by omega) hbn⟩
      · have h : a2 = false := h
        rw [if_neg (by rw [h]; simp)]
        exact next u (by omega) (ha.more (by omega))
    · have h := of_decide_eq_false h
      rw [List.length_map] at h; omega
theorem l_laid16a (l : List IBT) (h1 : ∀ v ∈ l, v.2.2.1.sz ≤ 12 ∧ bd 1000 v.2.2.1) (h2 : ∀ v ∈ l, v.2.2.1.bk ≤ B) (h8 : l.length ≤ 8) :
    ∀ (n i : Nat) (u : Sto), i + n = l.length → OKA u i → RPt Try.prog 27 0 tS2 (oS2 (bnS l 0 (frS (l.drop i) u)) (bnS l 0 (frS (l.drop i) u))) 1 ⟨[(0, aV6 l), (4, aS 0), (5, aS 3), (6, ci (i : Int))], hpS2 u u, 6⟩
  | 0, i, u, hi, ha => by
    refine RPt.vc hP sh lv27 (Eq.mpr (v27_1a ..) ?_)
    refine ⟨rfl, br_of (fun h => ?_) (fun _ => ?_)⟩
    · have h := of_decide_eq_true h
      rw [List.length_map] at h; omega
    · rw [List.drop_eq_nil_of_le (by omega)]
      have := l_laid16b l h1 h2 h8 l.length 0 u (by omega) (ha.more (by omega))
      rw [List.drop_zero] at this
      exact this
  | n + 1, i, u, hi, ha => by
    have hlt : i < l.length := by omega
    have hg := FIBT_get hlt
    have next := l_laid16a l h1 h2 h8 n (i + 1)
    rw [List.drop_eq_getElem_cons hlt, frS, List.foldl_cons]
    refine RPt.vc hP sh lv27 (Eq.mpr (v27_1a ..) ?_)
    refine ⟨rfl, br_of (fun _ => ?_) (fun h => ?_)⟩
    · rw [Int.toNat_natCast, List.length_map, hg, w64 (x := (i : Int) + 1) (by omega) (by omega)]
      generalize l[i] = e at *
      have hV := ha.V
      have hf1 := c_sfresh u e.1.1 (by omega)
      have hf2 := c_rfresh u e.1.1 (by omega)
      have hfr := ha.fresh e.1.1
      obtain ⟨⟨a1, aI⟩, a2, ⟨⟨ek, es, en, el⟩, eI⟩⟩ := e
      have op : rIB l i (⟨a1, aI⟩, a2, ⟨.mk ek es en el, eI⟩) := ⟨rfl, by omega, by omega, rfl⟩
      exact ⟨op, (_, freshS u a1), hf1, op, (_, freshS u a1), hf2, next _ (by omega) hfr⟩
    · have h := of_decide_eq_false h
      rw [List.length_map] at h; omega
theorem c_laid16 (l : List IBT) (h1 : ∀ v ∈ l, v.2.2.1.sz ≤ 12 ∧ bd 1000 v.2.2.1) (h2 : ∀ v ∈ l, v.2.2.1.bk ≤ B) (h8 : l.length ≤ 8) : AC Try.prog 27 [aV6 l] [] tS2 (oS2 (layS l) (layS l)) := by
  refine AC.vc hP sh lv27 (by simp) (by simp) (by simp [isLive]) (Eq.mpr (v27 ..) ?_)
  have := l_laid16a l h1 h2 h8 l.length 0 ⟨[], []⟩ (by omega) OKA.nil
  rw [List.drop_zero] at this
  exact ⟨(), c_snew, this⟩
end Go.AM

set_option maxRecDepth 100000
open Go Go.Proofs
namespace Go.AM

/-! ### Plain laws: apply, lams -/
theorem applyF_nil (f : Tm) : applyF f [] = f := rfl
theorem applyF6 (l : List Tm) (y : Tm) (b : List Tm) (h : l ≠ []) : applyF (.mk 6 [] 0 l) (y :: b) = .mk 6 [] 0 (l ++ y :: b) := if_pos ⟨rfl, h⟩
theorem applyF_both (f : Tm) : ∀ a b : List Tm, applyF (applyF f a) b = applyF f (a ++ b)
  | [], b => rfl
  | x :: a, [] => by rw [List.append_nil]; rfl
  | x :: a, y :: b => by
    by_cases h : (f.k == 6) = true ∧ f.l ≠ []
    · rw [show applyF f (x :: a) = .mk 6 [] 0 (f.l ++ (x :: a)) from if_pos h, show applyF f (x :: a ++ y :: b) = .mk 6 [] 0 (f.l ++ (x :: a ++ y :: b)) from if_pos h]
      rw [applyF6 _ _ _ (by simp)]
      simp
    · rw [show applyF f (x :: a) = .mk 6 [] 0 (f :: (x :: a)) from if_neg h, show applyF f (x :: a ++ y :: b) = .mk 6 [] 0 (f :: (x :: a ++ y :: b)) from if_neg h]
      rw [applyF6 _ _ _ (by simp)]
      simp
theorem applyF_len (f : Tm) : ∀ a : List Tm, (applyF f a).l.length ≤ 1 + f.l.length + a.length
  | [] => by rw [applyF_nil]; omega
  | x :: a => by
    by_cases h : (f.k == 6) = true ∧ f.l ≠ []
    · rw [show applyF f (x :: a) = .mk 6 [] 0 (f.l ++ (x :: a)) from if_pos h]
      simp only [Tm.l, List.length_append]; omega
    · rw [show applyF f (x :: a) = .mk 6 [] 0 (f :: (x :: a)) from if_neg h]
      simp only [Tm.l, List.length_cons]; omega
theorem lamsF_both (n : Nat) : ∀ (m : Nat) (f : Tm), lamsF n (lamsF m f) = lamsF (n + m) f
  | 0, _ => rfl
  | m + 1, f => by rw [lamsF, lamsF_both n m]; rfl
theorem lamsF_size : ∀ (n : Nat) (f : Tm), sizeF (lamsF n f) = n + sizeF f
  | 0, f => by rw [lamsF]; omega
  | n + 1, f => by
    rw [lamsF, lamsF_size n]
    have : sizeF (.mk 5 [] 0 [f]) = 1 + sizeF f := by simp [sizeF, sizeL]
    omega
theorem lamsF_sz : ∀ (n : Nat) (f : Tm), (lamsF n f).sz = n + f.sz
  | 0, f => by rw [lamsF]; omega
  | n + 1, f => by
    rw [lamsF, lamsF_sz n]
    simp only [Tm.sz, Tm.szs, List.length_nil]; omega


end Go.AM

set_option maxRecDepth 100000
open Go Go.Proofs
namespace Go.AM

/-! ### What a variable that was pruned stands for -/
/-- What has no part, and no place: a constant. -/
def isK (t : Tm) : Prop := t.k = 0 ∧ t.l = []
def keptT : List Bool → List Tm → List Tm
  | b :: bs, t :: ts => if b = true then t :: keptT bs ts else keptT bs ts
  | _, _ => []
theorem lamsS : ∀ (n : Nat) (t : Tm), lamsF (n + 1) t = .mk 5 [] 0 [lamsF n t]
  | 0, _ => rfl
  | n + 1, t => by rw [lamsF, lamsS n (.mk 5 [] 0 [t])]; rfl
theorem walk_lams (lf : Tm → Int → Tm) : ∀ (n : Nat) (t : Tm) (d : Int), walkF lf (lamsF n t) d = lamsF n (walkF lf t (d + n))
  | 0, t, d => by simp [lamsF]
  | n + 1, t, d => by
    rw [lamsS, walkF, if_pos (show ((5 : Int) == 5 || (5 : Int) == 6) = true from rfl), walkL, walkL]
    have e : ∀ u, withF (.mk 5 [] 0 [lamsF n t]) [u] = .mk 5 [] 0 [u] := fun u => by unfold withF; rw [if_neg (by simp [Tm.k])]; rfl
    rw [e, walk_lams lf n t, lamsS, show d + (if ((5 : Int) == 5) = true then (1 : Int) else 0) + (n : Int) = d + ((n + 1 : Nat) : Int) by simp; omega]
abbrev vN (n : Int) : Tm := .mk 4 [] n []
theorem app_v (n : Int) : ∀ l : List Tm, l ≠ [] → applyF (vN n) l = .mk 6 [] 0 (vN n :: l)
  | [], h => absurd rfl h
  | x :: l, _ => show (if ((vN n).k == 6) = true ∧ (vN n).l ≠ [] then Tm.mk 6 [] 0 ((vN n).l ++ x :: l) else Tm.mk 6 [] 0 (vN n :: x :: l)) = _ from if_neg (fun e => e.2 rfl)
/-- One place is taken by a term. -/
def subA (d : Int) (c a : Tm) : Tm := suLeaf 0 c a d
theorem walkL_atoms (lf : Tm → Int → Tm) (d : Int) : ∀ l : List Tm, (∀ t ∈ l, t.k ≠ 5 ∧ t.k ≠ 6) → walkL lf l d = l.map fun t => lf t d
  | [], _ => rfl
  | .mk k s n l :: r, h => by
    have h0 := h _ List.mem_cons_self
    have h0 : k ≠ 5 ∧ k ≠ 6 := h0
    rw [walkL, walkF, if_neg (by simpa using h0), walkL_atoms lf d r fun t ht => h t (List.mem_cons_of_mem _ ht), List.map_cons]
theorem walk_app (i d n : Int) (c : Tm) (l : List Tm) (h : ∀ t ∈ l, t.k ≠ 5 ∧ t.k ≠ 6) : walkF (suLeaf i c) (applyF (vN n) l) d = applyF (vN n) (l.map fun t => suLeaf i c t d) := by
  have hv : suLeaf i c (vN n) d = vN n := by unfold suLeaf; rw [if_neg (by simp [Tm.k])]
  by_cases hl : l = []
  · subst hl
    rw [applyF_nil, List.map_nil, applyF_nil, walkF, if_neg (by simp)]; exact hv
  · rw [app_v n l hl, app_v n _ (by simpa using hl), walkF, if_pos (show ((6 : Int) == 5 || (6 : Int) == 6) = true from rfl), walkL, walkL_atoms _ _ l h]
    rw [show d + (if ((6 : Int) == 5) = true then (1 : Int) else 0) = d by simp, walkF, if_neg (by simp), hv]
    unfold withF
    rw [if_neg (by simp [Tm.k])]; rfl
theorem sub_const {d : Int} {c t : Tm} (h : isK t) : suLeaf 0 c t d = t := by unfold suLeaf; rw [if_neg (by rw [h.1]; simp)]
theorem shT_const {c : Tm} (h : isK c) (d : Int) : shT 0 d c 0 = c := by
  obtain ⟨k, s, n, l⟩ := c
  have h1 : k = 0 := h.1
  subst h1
  rw [shT, walkF, if_neg (by simp), shLeaf, if_neg (by simp [Tm.k])]
theorem su3_lt {n d : Int} (h : n < d) (c : Tm) : suLeaf 0 c (.mk 3 [] n []) d = .mk 3 [] n [] := by
  unfold suLeaf; rw [if_pos (show (Tm.k (.mk 3 [] n []) == 3) = true from rfl), if_pos (show Tm.n (.mk 3 [] n []) < d + 0 by show n < d + 0; omega)]
theorem su3_eq (d : Int) (c : Tm) : suLeaf 0 c (.mk 3 [] d []) d = shT 0 d c 0 := by
  unfold suLeaf; rw [if_pos (show (Tm.k (.mk 3 [] d []) == 3) = true from rfl), if_neg (show ¬ Tm.n (.mk 3 [] d []) < d + 0 by show ¬ d < d + 0; omega), if_pos (show (Tm.n (.mk 3 [] d []) == d + 0) = true by show (d == d + 0) = true; simp)]
theorem app_lam (t c : Tm) (ts : List Tm) : applyF (.mk 5 [] 0 [t]) (c :: ts) = .mk 6 [] 0 (.mk 5 [] 0 [t] :: c :: ts) := by
  show (if (Tm.k (.mk 5 [] 0 [t]) == 6) = true ∧ Tm.l (.mk 5 [] 0 [t]) ≠ [] then Tm.mk 6 [] 0 (Tm.l (.mk 5 [] 0 [t]) ++ c :: ts) else Tm.mk 6 [] 0 (.mk 5 [] 0 [t] :: c :: ts)) = _
  exact if_neg (fun e => absurd e.1 (by show ¬ ((5 : Int) == 6) = true; decide))
theorem onK_ne (m : Int) : ∀ (bs : List Bool) (i : Int), ∀ t ∈ onK m bs i, t.k ≠ 5 ∧ t.k ≠ 6
  | [], _, t, h => nomatch h
  | b :: bs, i, t, h => by
    rw [onK] at h
    split at h
    · rcases List.mem_cons.1 h with rfl | h
      · exact ⟨by simp [Tm.k], by simp [Tm.k]⟩
      · exact onK_ne m bs (i + 1) t h
    · exact onK_ne m bs (i + 1) t h
theorem onK_sub (m : Int) (c : Tm) : ∀ (bs : List Bool) (i d : Int), m - 1 - i < d → (onK m bs i).map (fun t => suLeaf 0 c t d) = onK m bs i
  | [], _, _, _ => rfl
  | b :: bs, i, d, h => by
    have ih := onK_sub m c bs (i + 1) d (by omega)
    rw [onK]
    split
    · rw [List.map_cons, ih, su3_lt h]
    · exact ih
theorem constK {l : List Tm} (h : ∀ t ∈ l, isK t) : ∀ t ∈ l, t.k ≠ 5 ∧ t.k ≠ 6 := fun t ht => by rw [(h t ht).1]; simp
/-- A row of such places with one more taken. -/
theorem onK_next (m i : Int) (pre : List Tm) (hp : ∀ t ∈ pre, isK t) (b : Bool) (bs : List Bool) (c : Tm) (hc : isK c) :
    (pre ++ onK m (b :: bs) i).map (fun t => suLeaf 0 c t (m - 1 - i)) = (pre ++ if b = true then [c] else []) ++ onK m bs (i + 1) := by
  have e1 : pre.map (fun t => suLeaf 0 c t (m - 1 - i)) = pre := by
    conv => rhs; rw [← List.map_id pre]
    exact List.map_congr_left fun t ht => sub_const (hp t ht)
  have e2 := onK_sub m c bs (i + 1) (m - 1 - i) (by omega)
  rw [List.map_append, e1, onK]
  split
  · rw [List.map_cons, e2, su3_eq, shT_const hc]; simp
  · rw [e2]; simp
theorem szs_const : ∀ {l : List Tm}, (∀ t ∈ l, t.sz ≤ 24) → Tm.szs l ≤ 24 * l.length
  | [], _ => Nat.le_refl _
  | t :: l, h => by
    have h1 := h t List.mem_cons_self
    have h2 := szs_const (l := l) fun u hu => h u (List.mem_cons_of_mem _ hu)
    simp only [Tm.szs, List.length_cons]; omega
theorem onK_sz (m : Int) : ∀ (bs : List Bool) (i : Int), ∀ t ∈ onK m bs i, t.sz ≤ 24
  | [], _, t, h => nomatch h
  | b :: bs, i, t, h => by
    rw [onK] at h
    split at h
    · rcases List.mem_cons.1 h with rfl | h
      · simp [Tm.sz, Tm.szs]
      · exact onK_sz m bs (i + 1) t h
    · exact onK_sz m bs (i + 1) t h
theorem onK_len (m : Int) : ∀ (bs : List Bool) (i : Int), (onK m bs i).length ≤ bs.length
  | [], _ => Nat.le_refl _
  | b :: bs, i => by
    have := onK_len m bs (i + 1)
    rw [onK]; split <;> simp only [List.length_cons] <;> omega
/-- What is contracted is not too large. -/
theorem room_small (d : Nat) (n : Int) (l : List Tm) (c : Tm) (hd : d ≤ 6) (hl : ∀ t ∈ l, t.sz ≤ 24) (h6 : l.length ≤ 6) (hc : c.sz ≤ 24) : roomT (lamsF d (applyF (vN n) l)) c = true := by
  have h1 := sizeF_le (lamsF d (applyF (vN n) l))
  have h2 := occF_le (lamsF d (applyF (vN n) l)) 0
  have h3 := sizeF_le c
  have h4 := lamsF_sz d (applyF (vN n) l)
  have h5 := applyF_sz (vN n) l
  have h7 := szs_const hl
  have h8 : (vN n).sz = 1 := by simp [Tm.sz, Tm.szs]
  have h9 : (lamsF d (applyF (vN n) l)).sz ≤ 6 + 2 + 24 * 6 := by omega
  have h10 : occF (lamsF d (applyF (vN n) l)) 0 * sizeF c ≤ 152 * 24 := Nat.mul_le_mul (by omega) (by omega)
  unfold roomT
  have h11 : ((sizeF (lamsF d (applyF (vN n) l)) : Int) + (occF (lamsF d (applyF (vN n) l)) 0 : Int) * (sizeF c : Int)) ≤ 4096 := by
    have : (occF (lamsF d (applyF (vN n) l)) 0 : Int) * (sizeF c : Int) = ((occF (lamsF d (applyF (vN n) l)) 0 * sizeF c : Nat) : Int) := by simp
    rw [this]; omega
  rw [decide_eq_false (by omega)]; rfl
/-- A variable that stands for nothing, applied: nothing can be done. -/
theorem stepS_free {s : Sto} {n : Int} (hn : (infOf s.V n).bd = false) (l : List Tm) : stepS s (applyF (vN n) l) = (applyF (vN n) l, 0) := by
  have hv : valB s (vN n) = false := by show ((4 : Int) == 4 && (infOf s.V n).bd) = false; rw [hn, Bool.and_false]
  by_cases hl : l = []
  · subst hl
    rw [applyF_nil, stepS, if_neg (by rw [hv]; simp), if_pos (by simp [Tm.k])]
  · rw [app_v n l hl, stepS, if_neg (by simp [valB, Tm.k]), if_neg (by simp [Tm.k]), if_neg (by rw [show hd (Tm.l (.mk 6 [] 0 (vN n :: l))) = vN n from rfl, hv]; simp), if_pos (by show (4 : Int) ≠ 5; omega)]
theorem runH_zero {s : Sto} {t : Tm} (h : (stepS s t).2 = 0) : ∀ F, runH s F t = (t, 0, 0)
  | 0 => by show (if (stepS s t).2 = 0 then (t, 0, 0) else (noT, 80, 0)) = _; rw [if_pos h]
  | F + 1 => by show (if (stepS s t).2 = 0 then (t, 0, 0) else _) = _; rw [if_pos h]
theorem runH_one {s : Sto} {t u : Tm} (h : stepS s t = (u, 1)) (F : Nat) : runH s (F + 1) t = ((runH s F u).1, (runH s F u).2.1, (runH s F u).2.2 + 1) := by
  show (if (stepS s t).2 = 0 then (t, 0, 0) else if (stepS s t).2 = 2 then (noT, 80, 0) else ((runH s F (stepS s t).1).1, (runH s F (stepS s t).1).2.1, (runH s F (stepS s t).1).2.2 + 1)) = _
  rw [h, if_neg (by simp), if_neg (by simp)]
/-- All abstractions of it are contracted. -/
theorem run_lams {s : Sto} {n : Int} (hn : (infOf s.V n).bd = false) (m : Int) : ∀ (bs : List Bool) (ts pre : List Tm) (i : Int) (F : Nat), bs.length = ts.length → i + bs.length = m → pre.length + bs.length ≤ 6 → (∀ t ∈ pre, isK t ∧ t.sz ≤ 24) → (∀ t ∈ ts, isK t ∧ t.sz ≤ 24) → bs.length ≤ F →
    runH s F (applyF (lamsF bs.length (applyF (vN n) (pre ++ onK m bs i))) ts) = (applyF (vN n) (pre ++ keptT bs ts), 0, bs.length)
  | [], ts, pre, i, F, hlen, _, _, _, _, _ => by
    have : ts = [] := List.eq_nil_of_length_eq_zero (by simpa using hlen.symm)
    subst this
    rw [applyF_nil]
    show runH s F (applyF (vN n) (pre ++ [])) = (applyF (vN n) (pre ++ []), 0, 0)
    exact runH_zero (by rw [stepS_free hn]) F
  | b :: bs, [], pre, i, F, hlen, _, _, _, _, _ => by simp at hlen
  | b :: bs, c :: ts, pre, i, 0, hlen, _, _, _, _, hF => by simp at hF
  | b :: bs, c :: ts, pre, i, F + 1, hlen, hm, h6, hp, ht, hF => by
    simp only [List.length_cons] at hlen hm h6 hF
    have hc := ht c List.mem_cons_self
    have hall : ∀ t ∈ pre ++ onK m (b :: bs) i, t.sz ≤ 24 := fun t h => by
      rcases List.mem_append.1 h with h | h
      · exact (hp t h).2
      · exact onK_sz m _ i t h
    have hkind : ∀ t ∈ pre ++ onK m (b :: bs) i, t.k ≠ 5 ∧ t.k ≠ 6 := fun t h => by
      rcases List.mem_append.1 h with h | h
      · exact constK (fun u hu => (hp u hu).1) t h
      · exact onK_ne m _ i t h
    have hroom : roomT (lamsF bs.length (applyF (vN n) (pre ++ onK m (b :: bs) i))) c = true := by
      refine room_small _ n _ c (by omega) hall ?_ hc.2
      have := onK_len m (b :: bs) i
      simp only [List.length_append, List.length_cons] at this ⊢; omega
    have e1 : suT 0 c (lamsF bs.length (applyF (vN n) (pre ++ onK m (b :: bs) i))) 0 = lamsF bs.length (applyF (vN n) ((pre ++ if b = true then [c] else []) ++ onK m bs (i + 1))) := by
      rw [suT, walk_lams, walk_app _ _ _ _ _ hkind, show (0 : Int) + (bs.length : Int) = m - 1 - i by omega, onK_next m i pre (fun t h => (hp t h).1) b bs c hc.1]
    have st : stepS s (applyF (lamsF (bs.length + 1) (applyF (vN n) (pre ++ onK m (b :: bs) i))) (c :: ts)) = (applyF (lamsF bs.length (applyF (vN n) ((pre ++ if b = true then [c] else []) ++ onK m bs (i + 1)))) ts, 1) := by
      have e2 : applyF (lamsF (bs.length + 1) (applyF (vN n) (pre ++ onK m (b :: bs) i))) (c :: ts) = .mk 6 [] 0 (lamsF (bs.length + 1) (applyF (vN n) (pre ++ onK m (b :: bs) i)) :: c :: ts) := by
        rw [lamsS, app_lam]
      rw [e2]
      generalize hX : applyF (vN n) (pre ++ onK m (b :: bs) i) = X at *
      rw [stepS, if_neg (by simp [valB, Tm.k]), if_neg (by simp [Tm.k]), show hd (Tm.l (.mk 6 [] 0 (lamsF (bs.length + 1) X :: c :: ts))) = lamsF (bs.length + 1) X from rfl, lamsS, if_neg (by simp [valB, Tm.k]), if_neg (by simp [Tm.k])]
      show (applyF (conF (lamsF bs.length X) c) ts, if roomT (lamsF bs.length X) c = true then (1 : Int) else 2) = _
      rw [if_pos hroom, conF, if_pos hroom, e1]
    rw [List.length_cons, runH_one st]
    have ih := run_lams hn m bs ts (pre ++ if b = true then [c] else []) (i + 1) F (by omega) (by omega) ?_ ?_ (fun t h => ht t (List.mem_cons_of_mem _ h)) (by omega)
    · rw [ih]
      have e3 : (pre ++ if b = true then [c] else []) ++ keptT bs ts = pre ++ keptT (b :: bs) (c :: ts) := by
        rw [keptT]; cases b <;> simp
      rw [e3]
    · cases b <;> simp <;> omega
    · intro t h
      rcases List.mem_append.1 h with h | h
      · exact hp t h
      · cases b with
        | true => simp at h; subst h; exact hc
        | false => simp at h
/-- A constant, in full. -/
theorem full_const (s : Sto) (D : Nat) {g : Int} (hg : 0 < g) {c : Tm} (hc : isK c) : fullF s (D + 1) g c = (c, 0, g - 1) := by
  obtain ⟨k, st, n, l⟩ := c
  obtain ⟨h1, h2⟩ := hc
  have h1 : k = 0 := h1
  have h2 : l = [] := h2
  subst h1; subst h2
  have hs : (stepS s (.mk 0 st n [])).2 = 0 := by rw [stepS, if_neg (by simp [valB, Tm.k]), if_pos (by simp [Tm.k])]
  rw [fullF, if_neg (by omega), headP, runH_zero hs, fullK, if_neg (by simp)]
  simp only [Tm.k, Tm.l, kidsF, fullN]
  rw [if_neg (by simp)]
  simp [Tm.s, Tm.n, Tm.k]
theorem kids_const (s : Sto) (D : Nat) : ∀ (l : List Tm) (g : Int), (l.length : Int) ≤ g → (∀ t ∈ l, isK t) → kidsF (fullF s (D + 1)) false l g = (l, 0, g - l.length)
  | [], g, _, _ => by simp [kidsF]
  | t :: l, g, hg, h => by
    simp only [List.length_cons] at hg
    have e := full_const s D (g := g) (by omega) (h t List.mem_cons_self)
    have ih := kids_const s D l (g - 1) (by omega) fun u hu => h u (List.mem_cons_of_mem _ hu)
    rw [kidsF, e, if_neg (by simp), ih]
    simp only [List.length_cons]
    rw [show g - 1 - (l.length : Int) = g - ((l.length + 1 : Nat) : Int) by omega]
theorem short_const {c : Tm} (hc : isK c) : shortF c = c := by
  obtain ⟨k, s, n, l⟩ := c
  have h1 : k = 0 := hc.1
  subst h1
  rw [shortF]; simp
theorem shortL_const : ∀ {l : List Tm}, (∀ t ∈ l, isK t) → shortL l = l
  | [], _ => rfl
  | t :: l, h => by rw [shortL, short_const (h t List.mem_cons_self), shortL_const (l := l) fun u hu => h u (List.mem_cons_of_mem _ hu)]
theorem short_app (n : Int) (l : List Tm) (h : ∀ t ∈ l, isK t) : shortF (applyF (vN n) l) = applyF (vN n) l := by
  have e0 : shortF (vN n) = vN n := by rw [shortF]; simp
  by_cases hl : l = []
  · subst hl; rw [applyF_nil, e0]
  · rw [app_v n l hl, shortF, if_neg (by simp), if_pos (by simp), shortL, e0, shortL_const h]
    show applyF (vN n) l = _
    rw [app_v n l hl]
theorem kept_const : ∀ {bs : List Bool} {ts : List Tm}, (∀ t ∈ ts, isK t) → ∀ t ∈ keptT bs ts, isK t
  | [], _, _, t, h => by rw [keptT] at h; cases h; all_goals simp
  | b :: bs, [], _, t, h => by rw [keptT] at h; cases h; all_goals simp
  | b :: bs, c :: ts, hc, t, h => by
    rw [keptT] at h
    split at h
    · rcases List.mem_cons.1 h with rfl | h
      · exact hc _ List.mem_cons_self
      · exact kept_const (fun u hu => hc u (List.mem_cons_of_mem _ hu)) t h
    · exact kept_const (fun u hu => hc u (List.mem_cons_of_mem _ hu)) t h
theorem kept_len : ∀ (bs : List Bool) (ts : List Tm), (keptT bs ts).length ≤ bs.length
  | [], ts => by rw [keptT]; exact Nat.le_refl _; simp
  | b :: bs, [] => by rw [keptT]; exact Nat.zero_le _; simp
  | b :: bs, c :: ts => by
    have := kept_len bs ts
    rw [keptT]; split <;> simp only [List.length_cons] <;> omega
/-- THE PLAIN LAW: in full, x applied to constants is the new variable applied to those that are kept. -/
theorem prunes_full {s : Sto} {x n : Int} {bs : List Bool} {ts : List Tm} (hlen : bs.length = ts.length) (h6 : bs.length ≤ 6) (hts : ∀ t ∈ ts, isK t ∧ t.sz ≤ 24) (hn : (infOf s.V n).bd = false)
    (hx : (infOf s.V x).bd = true) (hv : (infOf s.V x).v = lamsF bs.length (applyF (vN n) (onK (bs.length : Int) bs 0))) (hval : validB (applyF (vN x) ts) = true) :
    ∃ g : Int, FullV s 500 (applyF (vN x) ts) = (applyF (vN n) (keptT bs ts), g, 0) := by
  have st : stepS s (applyF (vN x) ts) = (applyF (lamsF bs.length (applyF (vN n) ([] ++ onK (bs.length : Int) bs 0))) ts, 1) := by
    have hb : valB s (vN x) = true := by show ((4 : Int) == 4 && (infOf s.V x).bd) = true; rw [hx]; rfl
    have hw : valS s (vN x) = lamsF bs.length (applyF (vN n) ([] ++ onK (bs.length : Int) bs 0)) := hv
    by_cases hl : ts = []
    · subst hl
      rw [applyF_nil, applyF_nil, stepS, if_pos hb, hw]
    · rw [app_v x ts hl, stepS, if_neg (by simp [valB, Tm.k]), if_neg (by simp [Tm.k]), show hd (Tm.l (.mk 6 [] 0 (vN x :: ts))) = vN x from rfl, if_pos hb, hw]; rfl
  have hk : ∀ t ∈ keptT bs ts, isK t := kept_const fun t h => (hts t h).1
  have hkl := kept_len bs ts
  have hr := run_lams hn (bs.length : Int) bs ts [] 0 498 hlen (by omega) (by simpa using h6) (fun t h => nomatch h) hts (by omega)
  have hr2 := runH_one st 498
  rw [hr, List.nil_append] at hr2
  simp only at hr2
  have hH : headP s 499 (applyF (vN x) ts) = (applyF (vN n) (keptT bs ts), 0, 499 - ((bs.length + 1 : Nat) : Int)) := by
    rw [headP, show Int.toNat (499 : Int) = 498 + 1 from rfl, hr2]
  have hfull : ∃ g : Int, fullF s 500 500 (applyF (vN x) ts) = (applyF (vN n) (keptT bs ts), 0, g) := by
    rw [show fullF s 500 500 (applyF (vN x) ts) = fullK (fullF s 499) (headP s 499 (applyF (vN x) ts)) from by rw [fullF, if_neg (by omega)]; rfl, hH, fullK, if_neg (by simp)]
    by_cases hl : keptT bs ts = []
    · rw [hl, applyF_nil]
      refine ⟨499 - ((bs.length + 1 : Nat) : Int), ?_⟩
      simp only [Tm.k, Tm.l, kidsF, fullN]
      rw [if_neg (by simp)]; rfl
    · have hkids := kids_const s 498 (keptT bs ts) (499 - ((bs.length + 1 : Nat) : Int)) (by omega) hk
      rw [app_v n _ hl]
      refine ⟨499 - ((bs.length + 1 : Nat) : Int) - ((keptT bs ts).length : Int), ?_⟩
      show fullN (.mk 6 [] 0 (vN n :: keptT bs ts)) (kidsF (fullF s 499) true (vN n :: keptT bs ts) (499 - ((bs.length + 1 : Nat) : Int))) = _
      rw [kidsF, hkids, fullN, if_neg (by simp)]; rfl
  obtain ⟨g, hg⟩ := hfull
  refine ⟨g, ?_⟩
  rw [FullV, if_pos hval, show Int.toNat (500 : Int) = 500 from rfl, hg, if_pos rfl, short_app n _ hk]

end Go.AM

namespace Go.AM

/-! ### Values, laid open -/
section
variable {β : Type}
def oN (n : Nat) (K : Nat → β) : β := match n with
  | 0 => K 0
  | k + 1 => K (k + 1)
def oI (n : Int) (K : Int → β) : β := match n with
  | .ofNat k => oN k fun k => K (.ofNat k)
  | .negSucc k => oN k fun k => K (.negSucc k)
def oL {α : Type} (f : α → (α → β) → β) : List α → (List α → β) → β
  | [], K => K []
  | x :: l, K => f x fun x => oL f l fun l => K (x :: l)
def o1 {α : Type} (x : α) (K : α → β) : β := K x
def oB (b : Bool) (K : Bool → β) : β := match b with
  | true => K true
  | false => K false
def oF (x : FV) (K : FV → β) : β := match x with
  | .int k n => oI n fun n => K (.int k n)
  | .bool b => oB b fun b => K (.bool b)
  | .str l => oL o1 l fun l => K (.str l)
  | .sl nn n es => oB nn fun nn => oN n fun n => oL (oL o1) es fun es => K (.sl nn n es)
  | .pt cs => oL o1 cs fun cs => K (.pt cs)
  | .z0 nn => oB nn fun nn => K (.z0 nn)
  | .nils => K .nils
  | .cst v => K (.cst v)
def oA (x : AV) (K : AV → β) : β := match x with
  | .fz x => oF x fun x => K (.fz x)
  | .ep o n i j => oN o fun o => oN n fun n => oN i fun i => oN j fun j => K (.ep o n i j)
  | .osl o n i j => oN o fun o => oN n fun n => oN i fun i => oN j fun j => K (.osl o n i j)
  | .mp o => oN o fun o => K (.mp o)
  | .any => K .any
def oP {α γ : Type} (f : α → (α → β) → β) (g : γ → (γ → β) → β) (p : α × γ) (K : α × γ → β) : β := match p with
  | (a, b) => f a fun a => g b fun b => K (a, b)
def oW (x : WV) (K : WV → β) : β := match x with
  | .a x => oA x fun x => K (.a x)
  | .fn f a b => oL (oP oB (oL oA)) a fun a => oL (oP oB (oL oA)) b fun b => K (.fn f a b)
def oT (x : TV) (K : TV → β) : β := match x with
  | .any => K .any
  | .c x => oW x fun x => K (.c x)
  | .agg cs => oL oW cs fun cs => K (.agg cs)
  | .tup vs => oL (oP oB (oL oW)) vs fun vs => K (.tup vs)
def oO (x : AObj) (K : AObj → β) : β := match x with
  | .gone => K .gone
  | .arr n es => oN n fun n => oL (oL oW) es fun es => K (.arr n es)
  | .arz n fs => oN n fun n => oL (oL oF) fs fun fs => K (.arz n fs)
  | .mapo es => oL (oP (oP oB (oL oF)) (oP oB (oL oW))) es fun es => K (.mapo es)
  | .mapz es => oL (oP (oP oB (oL oF)) (oP oB (oL oF))) es fun es => K (.mapz es)
/-- To lay open changes nothing. -/
def Opens {α : Type} (f : α → (α → β) → β) : Prop := ∀ x K, f x K = K x
theorem opens_N : Opens (oN (β := β)) := fun x K => by cases x <;> rfl
theorem opens_I : Opens (oI (β := β)) := fun x K => by cases x <;> (simp only [oI]; rw [opens_N])
theorem opens_1 {α : Type} : Opens (o1 (α := α) (β := β)) := fun _ _ => rfl
theorem opens_B : Opens (oB (β := β)) := fun x K => by cases x <;> rfl
theorem opens_L {α : Type} {f : α → (α → β) → β} (h : Opens f) : Opens (oL f) := fun l => by
  induction l with
  | nil => exact fun _ => rfl
  | cons x l ih => intro K; simp only [oL]; rw [h, ih]
theorem opens_P {α γ : Type} {f : α → (α → β) → β} {g : γ → (γ → β) → β} (hf : Opens f) (hg : Opens g) : Opens (oP f g) := fun p K => by
  obtain ⟨a, b⟩ := p
  simp only [oP]; rw [hf, hg]
theorem opens_F : Opens (oF (β := β)) := fun x K => by
  cases x <;> simp only [oF]
  · rw [opens_I]
  · rw [opens_B]
  · rw [opens_L opens_1]
  · rw [opens_B, opens_N, opens_L (opens_L opens_1)]
  · rw [opens_B]
  · rw [opens_L opens_1]
theorem opens_A : Opens (oA (β := β)) := fun x K => by
  cases x <;> simp only [oA]
  · rw [opens_F]
  · rw [opens_N, opens_N, opens_N, opens_N]
  · rw [opens_N, opens_N, opens_N, opens_N]
  · rw [opens_N]
theorem opens_W : Opens (oW (β := β)) := fun x K => by
  cases x <;> simp only [oW]
  · rw [opens_A]
  · rw [opens_L (opens_P opens_B (opens_L opens_A)), opens_L (opens_P opens_B (opens_L opens_A))]
theorem opens_T : Opens (oT (β := β)) := fun x K => by
  cases x <;> simp only [oT]
  · rw [opens_W]
  · rw [opens_L opens_W]
  · rw [opens_L (opens_P opens_B (opens_L opens_W))]
theorem opens_O : Opens (oO (β := β)) := fun x K => by
  cases x <;> simp only [oO]
  · rw [opens_N, opens_L (opens_L opens_W)]
  · rw [opens_N, opens_L (opens_L opens_F)]
  · rw [opens_L (opens_P (opens_P opens_B (opens_L opens_F)) (opens_P opens_B (opens_L opens_W)))]
  · rw [opens_L (opens_P (opens_P opens_B (opens_L opens_F)) (opens_P opens_B (opens_L opens_F)))]
end

abbrev RunF := FuncId → List TV → List AObj → Option (TV × List AObj)
def RunOK (P : Program) (run : RunF) : Prop := ∀ f args Hs r Hs', run f args Hs = some (r, Hs') → AC P f args Hs r Hs'

/-! ### Calls -/
/-- A call, its slices handed over. -/
def callCX (run : RunF) (f : FuncId) (args : List TV) (h : Nat → AObj) (fr : Nat) : Option (TV × AHeap × List Nat) :=
  match reach h 400 (args.flatMap TV.ids) [] with
  | ids => match nodupB ids && ids.all (fun o => liveB (h o) && (h o).inn ids) && args.all (TV.inn ids) && ids.all (fun o => Nat.blt o fr) with
    | true => match run f (args.map (TV.ren (inv ids))) (ids.map fun o => (h o).ren (inv ids)) with
      | some (r, Hs') => match Nat.ble Hs'.length (ids.length + 32) with
        | true => some (r.ren (sub ids fr), oldObjs (sub ids fr) ids Hs' ++ newObjs (sub ids fr) fr (Hs'.drop ids.length), ids)
        | false => none
      | none => none
    | false => none
theorem callCX_ok {P : Program} {run : RunF} (hr : RunOK P run) {f : FuncId} {args : List TV} {h : Nat → AObj} {fr : Nat} {r : TV} {u : AHeap} {rd : List Nat} (hc : callCX run f args h fr = some (r, u, rd)) :
    CallK P f args h fr fun r' u' rd' => r' = r ∧ u' = u ∧ rd' = rd := by
  unfold callCX at hc
  generalize reach h 400 (args.flatMap TV.ids) [] = ids at hc
  simp only at hc
  split at hc
  · rename_i hb
    simp only [Bool.and_eq_true] at hb
    obtain ⟨⟨⟨h1, h2⟩, h3⟩, h0⟩ := hb
    have h0 : ∀ i ∈ ids, i < fr := fun i hi => Nat.le_of_ble_eq_true (List.all_eq_true.1 h0 i hi)
    have ha := map_ren_ids (fr := fr) h3
    have ho := objs_ren_ids (fr := fr) h2
    split at hc
    · rename_i r0 Hs' hrun
      split at hc
      · rename_i hlen
        simp only [Option.some.injEq, Prod.mk.injEq] at hc
        refine ⟨ids, [], _, _, _, _, hr _ _ _ _ _ hrun, ⟨nodupB_iff h1, h0⟩, Nat.le_of_ble_eq_true hlen, ho.1, ?_, ha.2, ho.2, .inl rfl, by simpa using hc⟩
        rw [map_lend_nil, ha.1]; exact all2_refl
      · cases hc
    · cases hc
  · cases hc
/-- A call: 1: its slices are handed over, 3: they are given up. -/
def callX (run : RunF) (mode : FuncId → Nat) (f : FuncId) (args : List TV) (h : Nat → AObj) (fr : Nat) : Option (TV × AHeap × List Nat) :=
  match Nat.ble (mode f) 1 with
  | true => callCX run f args h fr
  | false => match args.flatMap (lentT h) with
    | L => match callCX run f (args.map (TV.lend L)) (over (L.map fun p => (p.1, AObj.gone)) h) fr with
      | some (r, u, rd) => some (r, u ++ L.map (fun p => (p.1, AObj.gone)), rd ++ L.map Prod.fst)
      | none => none
theorem callX_ok {P : Program} {run : RunF} {mode : FuncId → Nat} (hr : RunOK P run) {f : FuncId} {args : List TV} {h : Nat → AObj} {fr : Nat} {r : TV} {u : AHeap} {rd : List Nat} (hc : callX run mode f args h fr = some (r, u, rd)) :
    CallE P f args h fr fun r' u' rd' => r' = r ∧ u' = u ∧ rd' = rd := by
  unfold callX at hc
  split at hc
  · refine ⟨[], (fun p hp => by cases hp), ?_⟩
    rw [map_lend_nil]
    have e : over (([] : Lent).map fun p => (p.1, AObj.gone)) h = h := by funext o; rfl
    rw [e]
    exact (callCX_ok hr hc).imp fun r u rd hk => by simpa using hk
  · refine ⟨args.flatMap (lentT h), lents_ok.ok, ?_⟩
    generalize args.flatMap (lentT h) = L at hc ⊢
    simp only at hc
    split at hc
    · rename_i r1 u1 rd1 hk
      simp only [Option.some.injEq, Prod.mk.injEq] at hc
      refine (callCX_ok hr hk).imp fun r u rd hk => ?_
      obtain ⟨rfl, rfl, rfl⟩ := hk
      exact hc
    · cases hc

/-! ### Regions -/
section
variable (P : Program) (run : RunF) (mode : FuncId → Nat)
def stepX (fr : Nat) (o : Oper) (e : Env) (h : AHeap) (tr : Track) : Option (Env × AHeap × Track) :=
  match goCall o.op with
  | some c => match calleeOf (ev e) c with
    | some (f, args) => match callX run mode f args (hook h) fr with
      | some (r, u, rd) => oT r fun r => some (putE o.dst r e, u ++ h, (rd, u.map Prod.fst) :: tr)
      | none => none
    | none => none
  | none => match aopS P o fr (ev e) (hook h) with
    | some r => oT r.val fun v => some (putE o.dst v e, r.upd ++ h, (r.rd, r.upd.map Prod.fst) :: tr)
    | none => none
def lexX (ops : Array Oper) (nx : Nat) : List Oper → Nat → Env → AHeap → Track → Option (Env × AHeap × Track)
  | [], _, e, h, tr => some (e, h, tr)
  | o :: rest, i, e, h, tr => match want ops o (look e) with
    | none => none
    | some w => match (match w with | true => stepX P run mode (nx + 32 * i) o e h tr | false => some (putE o.dst (.tup []) e, h, ([], []) :: tr)) with
      | some (e, h, tr) => lexX ops nx rest (i + 1) e h tr
      | none => none
variable {P run mode}
theorem lexX_ok (hr : RunOK P run) {ops : Array Oper} {nx : Nat} : ∀ {l : List Oper} {i : Nat} {e : Env} {h : AHeap} {tr : Track} {e1 : Env} {h1 : AHeap} {tr1 : Track},
    lexX P run mode ops nx l i e h tr = some (e1, h1, tr1) → lex P ops nx l i e h tr fun e h tr => e = e1 ∧ h = h1 ∧ tr = tr1
  | [], _, _, _, _, _, _, _, hl => by
    simp only [lexX, Option.some.injEq, Prod.mk.injEq] at hl
    exact hl
  | o :: rest, i, e, h, tr, e1, h1, tr1, hl => by
    unfold lexX at hl
    unfold lex guardK
    split at hl
    · cases hl
    · rename_i w hw
      rw [hw]
      simp only
      split at hl
      · rename_i e2 h2 tr2 he
        have ih := lexX_ok hr hl
        cases w with
        | false =>
          simp only [Option.some.injEq, Prod.mk.injEq] at he
          obtain ⟨rfl, rfl, rfl⟩ := he
          simpa using ih
        | true =>
          simp only at he
          rw [if_pos rfl]
          unfold stepX at he
          unfold stepK
          cases hg : goCall o.op with
          | some c =>
            rw [hg] at he
            simp only at he ⊢
            split at he
            · rename_i f args hcl
              rw [hcl]
              simp only
              split at he
              · rename_i r u rd hcall
                rw [opens_T] at he
                simp only [Option.some.injEq, Prod.mk.injEq] at he
                obtain ⟨rfl, rfl, rfl⟩ := he
                refine (callX_ok hr hcall).imp fun r' u' rd' hk => ?_
                obtain ⟨rfl, rfl, rfl⟩ := hk
                exact ih
              · cases he
            · cases he
          | none =>
            rw [hg] at he
            simp only at he ⊢
            split at he
            · rename_i r ha
              rw [ha]
              rw [opens_T] at he
              simp only [Option.some.injEq, Prod.mk.injEq] at he
              obtain ⟨rfl, rfl, rfl⟩ := he
              exact ih
            · cases he
      · cases hl
end

/-! ### Code -/
/-- A state with what is live alone, under new numbers, laid open. -/
def tidyX (m : Nat) (U live : List Nat) (s : St) : Option St :=
  match reachU m U (hook s.heap) (live.flatMap fun t => (look s.env t).ids) with
  | rest => match okU m U rest && (keep m U ++ rest).all (fun o => (hook s.heap o).inn (keep m U ++ rest)) && live.all (fun t => (look s.env t).inn (keep m U ++ rest)) with
    | true => oL (oP oN oT) (live.map fun t => (t, (look s.env t).ren (invU m rest))) fun env => oL oO (objsU m U rest (hook s.heap)) fun obs => some ⟨env, objHeap 0 obs, m + rest.length⟩
    | false => none
theorem tidyX_ok {m : Nat} {U live : List Nat} {s s' : St} (h : tidyX m U live s = some s') : Sle m s s' := by
  have hg : gotoV m [(0, live), (1000001, U)] (fun _ s1 => s1 = s') 0 s := by
    unfold tidyX at h
    unfold gotoV
    simp only [find2, if_true, lvU, show ¬ ((0 : Nat) = 1000001) by decide, if_false]
    generalize reachU m U (hook s.heap) (live.flatMap fun t => (look s.env t).ids) = rest at h ⊢
    simp only at h ⊢
    split at h
    · rename_i hb
      rw [hb]
      rw [opens_L (opens_P opens_N opens_T), opens_L opens_O, Option.some.injEq] at h
      exact h
    · cases h
  obtain ⟨s1, h1, h2⟩ := gotoV_inv hg
  rw [← h2]; exact h1
/-- The objects among the first that were given up. -/
def goneX (m : Nat) (s : St) : List Nat := (List.range m).filter fun o => !liveB (hook s.heap o)

section
variable (P : Program) (run : RunF) (mode : FuncId → Nat) (n m lf : Nat)
def regX (ops : Array Oper) (d : Bool) (s : St) : Option St :=
  match dstB ops n with
  | true => match lexX P run mode ops s.nx ops.toList 0 s.env s.heap [] with
    | some (e, h, tr) => match !d || drawB ops tr with
      | true => some ⟨e, h, s.nx + 32 * ops.size⟩
      | false => none
    | none => none
  | false => none
def loopX (F : St → Option (AExit × St)) : Nat → St → Option (AExit × St)
  | 0, _ => none
  | k + 1, s => match tidyX m (goneX m s) (List.range n) s with
    | some s => match F s with
      | some (.normal, s) => loopX F k s
      | r => r
    | none => none
def codeX : Code → St → Option (AExit × St)
  | .skip, s => some (.normal, s)
  | .ret, s => some (.ret, s)
  | .exit i, s => some (.exit i, s)
  | .seq a b, s => match codeX a s with
    | some (.normal, s) => codeX b s
    | r => r
  | .cond x a b, s => match ev s.env x with
    | .c (.a (.fz (.bool t))) => match t with
      | true => codeX a s
      | false => codeX b s
    | _ => none
  | .block i c, s => match codeX c s with
    | some (.exit j, s) => match Nat.beq j i with
      | true => some (.normal, s)
      | false => some (.exit j, s)
    | r => r
  | .region _ ops d, s => match regX P run mode n ops d s with
    | some s => some (.normal, s)
    | none => none
  | .loop c, s => loopX n m (codeX c) lf s
  | _, _ => none
variable {P run mode n m lf}
theorem Awp.le {c : Code} {Q : AExit → St → Prop} {s s' : St} (hs : Sle m s s') (h : Awp P n m c Q s') : Awp P n m c Q s := Awp.weak hs h
theorem loopX_ok {c : Code} {F : St → Option (AExit × St)} (hF : ∀ s e s', F s = some (e, s') → Awp P n m c (fun e1 s1 => e1 = e ∧ s1 = s') s) : ∀ {k : Nat} {s : St} {e : AExit} {s' : St},
    loopX n m F k s = some (e, s') → Alwp P n m c (fun e1 s1 => e1 = e ∧ s1 = s') s
  | 0, _, _, _, h => by cases h
  | k + 1, s, e, s', h => by
    unfold loopX at h
    split at h
    · rename_i s1 hs1
      refine Alwp.weak (tidyX_ok hs1) (Alwp.unroll ?_)
      split at h
      · rename_i s2 h2
        refine (hF _ _ _ h2).mono fun e1 s1 hk => ?_
        obtain ⟨rfl, rfl⟩ := hk
        exact loopX_ok hF h
      · rename_i hne
        refine (hF _ _ _ h).mono fun e1 s1 hk => ?_
        obtain ⟨rfl, rfl⟩ := hk
        cases e1 with
        | normal => exact absurd h (hne _)
        | _ => exact ⟨rfl, rfl⟩
    · cases h
theorem codeX_ok (hP : P.follows .mixedOrders = true) (hr : RunOK P run) : ∀ {c : Code} {s : St} {e : AExit} {s' : St}, codeX P run mode n m lf c s = some (e, s') → Awp P n m c (fun e1 s1 => e1 = e ∧ s1 = s') s
  | .skip, s, e, s', h => by
    simp only [codeX, Option.some.injEq, Prod.mk.injEq] at h; exact Awp.skip ⟨h.1, h.2⟩
  | .ret, s, e, s', h => by
    simp only [codeX, Option.some.injEq, Prod.mk.injEq] at h; exact Awp.ret ⟨h.1, h.2⟩
  | .exit i, s, e, s', h => by
    simp only [codeX, Option.some.injEq, Prod.mk.injEq] at h; exact Awp.exit ⟨h.1, h.2⟩
  | .seq a b, s, e, s', h => by
    unfold codeX at h
    refine Awp.seq ?_
    split at h
    · rename_i s1 h1
      refine (codeX_ok hP hr h1).mono fun e1 s2 hk => ?_
      obtain ⟨rfl, rfl⟩ := hk
      exact codeX_ok hP hr h
    · rename_i hne
      refine (codeX_ok hP hr h).mono fun e1 s2 hk => ?_
      obtain ⟨rfl, rfl⟩ := hk
      cases e1 with
      | normal => exact absurd h (hne _)
      | _ => exact ⟨rfl, rfl⟩
  | .cond x a b, s, e, s', h => by
    unfold codeX at h
    split at h
    · rename_i t ht
      cases t with
      | true => exact Awp.cond ht (fun _ => codeX_ok hP hr h) (fun e => by cases e)
      | false => exact Awp.cond ht (fun e => by cases e) (fun _ => codeX_ok hP hr h)
    · cases h
  | .block i c, s, e, s', h => by
    unfold codeX at h
    refine Awp.block ?_
    split at h
    · rename_i j s1 h1
      refine (codeX_ok hP hr h1).mono fun e1 s2 hk => ?_
      obtain ⟨rfl, rfl⟩ := hk
      simp only [inBlockQ]
      split at h
      · rename_i hb
        rw [if_pos (Nat.eq_of_beq_eq_true hb)]
        simp only [Option.some.injEq, Prod.mk.injEq] at h; exact ⟨h.1, h.2⟩
      · rename_i hb
        rw [if_neg (Nat.ne_of_beq_eq_false hb)]
        simp only [Option.some.injEq, Prod.mk.injEq] at h; exact ⟨h.1, h.2⟩
    · rename_i hne
      refine (codeX_ok hP hr h).mono fun e1 s2 hk => ?_
      obtain ⟨rfl, rfl⟩ := hk
      cases e1 with
      | exit j => exact absurd h (hne _ _)
      | _ => exact ⟨rfl, rfl⟩
  | .region i ops d, s, e, s', h => by
    unfold codeX at h
    split at h
    · rename_i s1 h1
      simp only [Option.some.injEq, Prod.mk.injEq] at h
      obtain ⟨rfl, rfl⟩ := h
      unfold regX at h1
      split at h1
      · rename_i hd
        refine Awp.region hP hd ?_
        split at h1
        · rename_i e2 h2 tr2 hl
          split at h1
          · rename_i hb
            rw [Option.some.injEq] at h1
            subst h1
            have mono : ∀ {K1 K2 : Env → AHeap → Track → Prop}, (∀ e h tr, K1 e h tr → K2 e h tr) → ∀ {l : List Oper} {i : Nat} {e : Env} {h : AHeap} {tr : Track}, lex P ops s.nx l i e h tr K1 → lex P ops s.nx l i e h tr K2 := by
              intro K1 K2 hk l
              induction l with
              | nil => exact fun h => hk _ _ _ h
              | cons o rest ih =>
                intro i e h tr hl
                unfold lex guardK at hl ⊢
                split
                · rename_i hw; rw [hw] at hl; exact hl
                · rename_i w hw
                  rw [hw] at hl
                  simp only at hl
                  split
                  · rename_i hw1
                    rw [if_pos hw1] at hl
                    unfold stepK at hl ⊢
                    cases hg : goCall o.op with
                    | some c =>
                      rw [hg] at hl
                      simp only at hl ⊢
                      cases hcl : calleeOf (ev e) c with
                      | some fa => rw [hcl] at hl; simp only at hl ⊢; exact hl.imp fun r u rd hk => ih hk
                      | none => rw [hcl] at hl; exact hl.elim
                    | none =>
                      rw [hg] at hl
                      simp only at hl ⊢
                      cases ha : aopS P o (s.nx + 32 * i) (ev e) (hook h) with
                      | some r => rw [ha] at hl; simp only at hl ⊢; exact ih hl
                      | none => rw [ha] at hl; exact hl.elim
                  · rename_i hw1; rw [if_neg hw1] at hl; exact ih hl
            refine mono ?_ (lexX_ok hr hl)
            rintro e1 h1 tr1 ⟨rfl, rfl, rfl⟩
            refine ⟨fun hd2 => ?_, rfl, rfl⟩
            subst hd2; simpa using hb
          · cases h1
        · cases h1
      · cases h1
    · cases h
  | .loop c, s, e, s', h => by
    unfold codeX at h
    exact Alwp.loop (loopX_ok (fun s e s' hs => codeX_ok hP hr hs) h)
  | .rangeFunc .., _, _, _, h => by cases h
  | .scope _, _, _, _, h => by cases h
  | .label _, _, _, _, h => by cases h
  | .goto _, _, _, _, h => by cases h
  | .refuse _, _, _, _, h => by cases h
end

/-! ### Functions -/
def lentR (fz : Bool) (h : Nat → AObj) (rs : List TV) : Lent := match fz with | true => rs.flatMap (lentT h) | false => []
theorem lentR_ok {fz : Bool} {h : Nat → AObj} {rs : List TV} : LentOK h (lentR fz h rs) := by
  cases fz with
  | true => exact lents_ok
  | false => exact fun p hp => nomatch hp
/-- What is handed back; its slices are given up, or not. -/
def retX (P : Program) (fz : Bool) (rl : List ResultVar) (m : Nat) (U : List Nat) (s : St) : Option (TV × List AObj) :=
  match resAs P s rl with
  | none => none
  | some rs => match lentR fz (hook s.heap) rs with
    | E => match U ++ (E.map Prod.fst).filter (fun o => Nat.blt o m) with
      | U => match reachU m U (hook s.heap) ((rs.map (TV.lend E)).flatMap TV.ids) with
        | rest => match okU m U rest && (keep m U ++ rest).all (fun o => (hook s.heap o).inn (keep m U ++ rest)) && (rs.map (TV.lend E)).all (TV.inn (keep m U ++ rest)) && E.all (fun p => !(keep m U ++ rest).contains p.1) with
          | true => match packA ((rs.map (TV.lend E)).map (TV.ren (invU m rest))) with
            | some r0 => oT r0 fun r0 => oL oO (objsU m U rest (hook s.heap)) fun Hs => some (r0, Hs)
            | none => none
          | false => none
theorem retX_ok {P : Program} {fz : Bool} {rl : List ResultVar} {m : Nat} {U : List Nat} {s : St} {r : TV} {Hs' : List AObj} (h : retX P fz rl m U s = some (r, Hs')) : RetOK P rl m r Hs' s := by
  unfold retX at h
  split at h
  · cases h
  · rename_i rs hrs
    dsimp only at h
    split at h
    · rename_i hb
      simp only [Bool.and_eq_true] at hb
      obtain ⟨⟨⟨h1, h2⟩, h3⟩, h5⟩ := hb
      split at h
      · rename_i r0 hr0
        rw [opens_T, opens_L opens_O] at h
        simp only [Option.some.injEq, Prod.mk.injEq] at h
        obtain ⟨rfl, rfl⟩ := h
        refine ret_core (E := lentR fz (hook s.heap) rs) hrs rfl lentR_ok.ok h1 h2 h3 (fun p hp hm => ?_) hr0 (.refl _)
        have := List.all_eq_true.1 h5 p hp
        simp only [Bool.not_eq_true', List.contains_eq_mem, decide_eq_false_iff_not] at this
        exact this hm
      · cases h
    · cases h

def runX (P : Program) (mode : FuncId → Nat) (lf : Nat) : Nat → RunF
  | 0, _, _, _ => none
  | k + 1, f, args, Hs => match P.funcs[f]? with
    | some fn => match fn.body with
      | some c => match enterable P f && Nat.ble args.length fn.ntmps && Hs.all liveB with
        | true => oL oT args fun args => oL oO Hs fun Hs => match codeX P (runX P mode lf k) mode fn.ntmps Hs.length lf c ⟨argEnv 0 args, objHeap 0 Hs, Hs.length⟩ with
          | some (.exit _, _) => none
          | some (_, s) => match retX P (Nat.ble 1 (mode f) && Nat.ble (mode f) 2) fn.results.toList Hs.length (goneX Hs.length s) s with
            | some (r, Hs') => match Nat.ble Hs.length Hs'.length && (Hs'.drop Hs.length).all liveB with
              | true => some (r, Hs')
              | false => none
            | none => none
          | none => none
        | false => none
      | none => none
    | none => none
/-- WHAT IS COMPUTED IS A CONTRACT. -/
theorem runX_ok {P : Program} {mode : FuncId → Nat} {lf : Nat} (hP : P.follows .mixedOrders = true) : ∀ k, RunOK P (runX P mode lf k)
  | 0 => fun f args Hs r Hs' h => by cases h
  | k + 1 => fun f args Hs r Hs' h => by
    unfold runX at h
    split at h
    · rename_i fn hf
      split at h
      · rename_i c hc
        split at h
        · rename_i hb
          simp only [Bool.and_eq_true] at hb
          rw [opens_L opens_T, opens_L opens_O] at h
          have key : ∀ {e : AExit} {s : St}, codeX P (runX P mode lf k) mode fn.ntmps Hs.length lf c ⟨argEnv 0 args, objHeap 0 Hs, Hs.length⟩ = some (e, s) → (∀ i, e ≠ .exit i) →
              (match retX P (Nat.ble 1 (mode f) && Nat.ble (mode f) 2) fn.results.toList Hs.length (goneX Hs.length s) s with
              | some (r, Hs') => match Nat.ble Hs.length Hs'.length && (Hs'.drop Hs.length).all liveB with
                | true => some (r, Hs')
                | false => none
              | none => none) = some (r, Hs') → AC P f args Hs r Hs' := by
            intro e s hs he h
            split at h
            · rename_i r1 Hs1 hret
              split at h
              · rename_i hb2
                simp only [Bool.and_eq_true] at hb2
                simp only [Option.some.injEq, Prod.mk.injEq] at h
                obtain ⟨rfl, rfl⟩ := h
                refine AC.intro hf hc rfl rfl hb.1.1 (Nat.le_of_ble_eq_true hb.1.2) (Nat.le_of_ble_eq_true hb2.1) (fun x hx => liveB_iff (List.all_eq_true.1 hb.2 x hx)) (fun x hx => liveB_iff (List.all_eq_true.1 hb2.2 x hx)) ?_
                refine (codeX_ok hP (runX_ok hP k) hs).mono fun e1 s1 hk => ?_
                obtain ⟨rfl, rfl⟩ := hk
                cases e1 with
                | exit i => exact absurd rfl (he i)
                | normal => exact retX_ok hret
                | ret => exact retX_ok hret
              · cases h
            · cases h
          cases hs : codeX P (runX P mode lf k) mode fn.ntmps Hs.length lf c ⟨argEnv 0 args, objHeap 0 Hs, Hs.length⟩ with
          | none => rw [hs] at h; cases h
          | some q =>
            obtain ⟨e, s⟩ := q
            rw [hs] at h
            cases e with
            | exit i => cases h
            | normal => exact key hs (fun i hi => by cases hi) h
            | ret => exact key hs (fun i hi => by cases hi) h
        · cases h
      · cases h
    · cases h
theorem runX_AC {P : Program} (hP : P.follows .mixedOrders = true) (mode : FuncId → Nat) (lf k : Nat) {f : FuncId} {args : List TV} {Hs : List AObj} {r : TV} {Hs' : List AObj} (h : runX P mode lf k f args Hs = some (r, Hs')) : AC P f args Hs r Hs' := runX_ok hP k _ _ _ _ _ h
end Go.AM

set_option maxRecDepth 100000
open Go Go.Proofs
namespace Go.AM

/-! ### The document's example (by the kernel) -/
theorem c_works16 : AC Try.prog 23 [] [] (cb true) [] := runX_AC hP (fun f => bif List.contains [81, 83, 88] f then 0 else 1) 200 60 (by kernel_rfl)

end Go.AM

set_option maxRecDepth 100000
open Go Go.Proofs
namespace Go.AM

/-! ### What hangs is bound -/
theorem valid4 {s : List UInt8} {n : Int} {l : List Tm} : validB (.mk 4 s n l) = true ↔ 0 ≤ n ∧ n ≤ 4611686018427387904 ∧ s = [] ∧ l = [] := by
  rw [validB, lenI]
  simp only [show ((4 : Int) == 0) = false from rfl, show ((4 : Int) == 1) = false from rfl, show ((4 : Int) == 2) = false from rfl, show ((4 : Int) == 3) = false from rfl, Bool.false_eq_true, if_false, show ((4 : Int) == 4) = true from rfl, if_true]
  simp only [Bool.and_eq_true, decide_eq_true_eq, beq_iff_eq]
  constructor
  · rintro ⟨⟨⟨⟨h1, h2⟩, h3⟩, h4⟩, _⟩
    exact ⟨h1, h2, h3, List.eq_nil_of_length_eq_zero (by omega)⟩
  · rintro ⟨h1, h2, h3, rfl⟩
    exact ⟨⟨⟨⟨h1, h2⟩, h3⟩, rfl⟩, rfl⟩
theorem onK_in (m : Int) : ∀ (bs : List Bool) (i : Int), 0 ≤ i → i + bs.length ≤ m → ∀ t ∈ onK m bs i, ∃ n : Int, t = .mk 3 [] n [] ∧ 0 ≤ n ∧ n < m
  | [], _, _, _, t, h => nomatch h
  | b :: bs, i, h0, hm, t, h => by
    simp only [List.length_cons] at hm
    rw [onK] at h
    split at h
    · rcases List.mem_cons.1 h with rfl | h
      · exact ⟨m - 1 - i, rfl, by omega, by omega⟩
      · exact onK_in m bs (i + 1) (by omega) (by omega) t h
    · exact onK_in m bs (i + 1) (by omega) (by omega) t h
theorem lams_valid : ∀ (n : Nat) (t : Tm), validB (lamsF n t) = validB t
  | 0, _ => rfl
  | n + 1, t => by
    rw [lamsF, lams_valid n, valid5]
    simp [validL]
theorem lams_bd {M : Int} : ∀ (n : Nat) {t : Tm}, bd M t → bd M (lamsF n t)
  | 0, _, h => h
  | n + 1, t, h => by
    rw [lamsF]
    exact lams_bd n ⟨fun e => absurd e (by decide), h, trivial⟩
theorem lams_loose : ∀ (n : Nat) (t : Tm) (d : Int), looseR (lamsF n t) d = looseR t (d + n)
  | 0, t, d => by simp [lamsF]
  | n + 1, t, d => by
    rw [lamsS, looseR, if_neg (by decide), if_pos (by decide), looseRL, looseRL, lams_loose n t]
    rw [maxI0 (looseR_pos _ _), show d + (if ((5 : Int) == 5) = true then (1 : Int) else 0) + (n : Int) = d + ((n + 1 : Nat) : Int) by simp; omega]
theorem looseRL_0 : ∀ {l : List Tm} {d : Int}, (∀ t ∈ l, looseR t d = 0) → looseRL l d = 0
  | [], _, _ => rfl
  | t :: l, d, h => by rw [looseRL, h t List.mem_cons_self, looseRL_0 fun u hu => h u (List.mem_cons_of_mem _ hu)]; rfl
theorem app_loose (n : Int) (l : List Tm) (d : Int) (h : ∀ t ∈ l, looseR t d = 0) : looseR (applyF (vN n) l) d = 0 := by
  have hv : looseR (vN n) d = 0 := by rw [looseR, if_neg (by decide), if_neg (by decide)]
  by_cases hl : l = []
  · subst hl; rw [applyF_nil]; exact hv
  · rw [app_v n l hl, looseR, if_neg (by decide), if_pos (by decide), show d + (if ((6 : Int) == 5) = true then (1 : Int) else 0) = d by simp]
    exact looseRL_0 fun t ht => by
      rcases List.mem_cons.1 ht with rfl | ht
      · exact hv
      · exact h t ht
theorem app_valid {n : Int} (h0 : 0 ≤ n) (h1 : n ≤ 4611686018427387904) {l : List Tm} (h : ∀ t ∈ l, validB t = true) : validB (applyF (vN n) l) = true := by
  have hv : validB (vN n) = true := valid4.2 ⟨h0, h1, rfl, rfl⟩
  rw [valid_iff, applyF_ok (valid_ok _ hv) (okL_of fun t ht => valid_ok _ (h t ht)), applyF_lv (valid_lv hv) (lvL_of fun t ht => valid_lv (h t ht))]; rfl
/-- The facts of such a term. -/
theorem hang_ok (s : Sto) (bs : List Bool) (h6 : bs.length ≤ 6) (hV : s.V.length ≤ 1000) : validB (hangT s bs.length (onK (bs.length : Int) bs 0)) = true ∧ (hangT s bs.length (onK (bs.length : Int) bs 0)).sz ≤ 200 ∧ bd 1000 (hangT s bs.length (onK (bs.length : Int) bs 0)) ∧ looseF (hangT s bs.length (onK (bs.length : Int) bs 0)) 0 0 ≤ 0 := by
  have hin := onK_in (bs.length : Int) bs 0 (by omega) (by omega)
  have hz := szs_const (onK_sz (bs.length : Int) bs 0)
  have hl := onK_len (bs.length : Int) bs 0
  have ha := applyF_sz (vN (s.V.length : Int)) (onK (bs.length : Int) bs 0)
  have h8 : (vN (s.V.length : Int)).sz = 1 := by simp [Tm.sz, Tm.szs]
  refine ⟨?_, ?_, ?_, ?_⟩
  · rw [hangT, lams_valid]
    refine app_valid (by omega) (by omega) fun t ht => ?_
    obtain ⟨n, rfl, h0, h1⟩ := hin t ht
    exact valid3.2 ⟨h0, by omega, rfl, rfl⟩
  · rw [hangT, lamsF_sz]
    show bs.length + (applyF (vN (s.V.length : Int)) (onK (bs.length : Int) bs 0)).sz ≤ 200
    omega
  · refine lams_bd _ (applyF_bd ⟨fun e => absurd e (by decide), trivial⟩ (bds_of fun t ht => ?_))
    obtain ⟨n, rfl, h0, h1⟩ := hin t ht
    exact ⟨fun _ => ⟨by omega, by omega⟩, trivial⟩
  · rw [loose_acc _ _ _ (Int.le_refl _), hangT, lams_loose, app_loose]
    · decide
    · intro t ht
      obtain ⟨n, rfl, h0, h1⟩ := hin t ht
      rw [looseR, if_pos (by decide)]
      unfold maxI; split <;> omega
theorem fresh_old {s : Sto} {x : Int} (lv : Int) (h : inB s.V x = true) : inB (freshS s lv).V x = true ∧ infOf (freshS s lv).V x = infOf s.V x := by
  simp only [inB, Bool.and_eq_true, decide_eq_true_eq] at h
  have hl : (freshS s lv).V.length = s.V.length + 1 := by simp [freshS]
  refine ⟨inB_of h.1 (by omega), ?_⟩
  obtain ⟨g1, e1⟩ := infOf_in (V := s.V) h.1 h.2
  obtain ⟨g2, e2⟩ := infOf_in (V := (freshS s lv).V) (x := x) h.1 (by omega)
  rw [e1, e2]
  simp only [freshS]
  exact List.getElem_append_left g1
/-- What is known behind it: of the variable, of the new one. -/
theorem hang_inf {s : Sto} {x : Int} {bs : List Bool} (h6 : bs.length ≤ 6) (hV : s.V.length ≤ 1000) (hin : inB s.V x = true) (hb : (infOf s.V x).bd = false) (lv : Int) (u : Sto) (hu : u = hangS s x lv bs.length (onK (bs.length : Int) bs 0)) :
    infOf u.V x = ⟨(infOf s.V x).lv, true, hangT s bs.length (onK (bs.length : Int) bs 0)⟩ ∧ infOf u.V (s.V.length : Int) = ⟨foldMax [lv, 0], false, noT⟩ ∧ u.V.length = s.V.length + 1 ∧ inB u.V (s.V.length : Int) = true ∧ u.T.length = s.T.length + 1 := by
  obtain ⟨a1, a2, a3, a4⟩ := hang_ok s bs h6 hV
  obtain ⟨f1, f2⟩ := fresh_old lv hin
  have hq : bindB (freshS s lv) x (hangT s bs.length (onK (bs.length : Int) bs 0)) = true := by
    unfold bindB; rw [f1, f2, hb, a1, decide_eq_true a4]; rfl
  have hl : (freshS s lv).V.length = s.V.length + 1 := by simp [freshS]
  simp only [inB, Bool.and_eq_true, decide_eq_true_eq] at hin
  have e := (bind_yes hq).1
  have hu' : u = ⟨(freshS s lv).V.set x.toNat ⟨(infOf (freshS s lv).V x).lv, true, hangT s bs.length (onK (bs.length : Int) bs 0)⟩, (freshS s lv).T ++ [x]⟩ := by rw [hu, hangS, e]
  have hlen : u.V.length = s.V.length + 1 := by rw [hu']; simp [freshS]
  refine ⟨?_, ?_, hlen, inB_of (by omega) (by omega), by rw [hu']; simp [freshS]⟩
  · obtain ⟨g, e2⟩ := infOf_in (V := u.V) (x := x) hin.1 (by omega)
    rw [e2]
    simp only [hu', List.getElem_set_self, f2]
  · obtain ⟨g, e2⟩ := infOf_in (V := u.V) (x := (s.V.length : Int)) (by omega) (by omega)
    rw [e2]
    have hne : x.toNat ≠ Int.toNat (s.V.length : Int) := by omega
    simp only [hu']
    rw [List.getElem_set_ne hne]
    simp [freshS]
/-! ### THE LAW: Prunes -/
abbrev stR (u : Sto) (x : Int) (bs : List Bool) (ts : List Tm) (n : Int) (w h : Inf) (i : Int) (k : TV) (more : List (Nat × AObj)) (nx : Nat) : St :=
  ⟨[(1, ci x), (2, .c (.a (.fz (.sl false 1 (BR bs))))), (3, aL ts), (9, cb true), (13, aS 0), (15, .c (.a (.ep 3 6 0 0))), (17, ci n), (18, ci 0), (19, .c (.a (.ep 4 6 0 0))), (20, cb true), (21, k), (22, ci i)],
    (0, sto2 1 2 u) :: (1, .arz 6 (SR u.V)) :: (2, .arz 1 (IR u.T)) :: (3, .arr 6 [fzs (Inf.c w)]) :: (4, .arr 6 [fzs (Inf.c h)]) :: more, nx⟩
/-- What is shown of the end. -/
structure EndR (u : Sto) (x : Int) (bs : List Bool) (ts : List Tm) (n : Int) (w h : Inf) : Prop where
  a1 : AC Try.prog 32 [aT (vN x), aL ts] [] (aT (applyF (vN x) ts)) []
  f : ∃ g : Int, AC Try.prog 31 [aS 0, aT (applyF (vN x) ts), ci 500] (oS u) (aHd (applyF (vN n) (keptT bs ts), g, 0)) (oS u)
  a2 : AC Try.prog 32 [aT (vN n), aL (keptT bs ts)] [] (aT (applyF (vN n) (keptT bs ts))) []
  sm : AC Try.prog 33 [aT (applyF (vN n) (keptT bs ts)), aT (applyF (vN n) (keptT bs ts))] [] (cb true) []
  n0 : 0 ≤ n ∧ n ≤ 1000
  len : (u.V.length : Int) = n + 1
  hb : h.bd = false
  hl : h.lv = w.lv
  ln : bs.length = ts.length ∧ ts.length ≤ 6
/-- How it ends. -/
theorem tail_prn {u : Sto} {x : Int} {bs : List Bool} {ts : List Tm} {n : Int} {w h : Inf} (E : EndR u x bs ts n w h) : br true (br ((0 : Int) == 0) (br true (br (!h.bd) (br ((h.lv : Int) == w.lv) (∃ n5 : Int, AC Try.prog 29 [aS 0] (oS u) (ci n5) (oS u) ∧ br ((n5 : Int) == n + 1) (br ((0 : Int) == 0) (TV.Le (cb true) (cb true) ∧ ([] : List AObj) = []) (TV.Le (cb false) (cb true) ∧ ([] : List AObj) = [])) (TV.Le (cb false) (cb true) ∧ ([] : List AObj) = [])) (TV.Le (cb false) (cb true) ∧ ([] : List AObj) = [])) (TV.Le (cb false) (cb true) ∧ ([] : List AObj) = [])) (TV.Le (cb false) (cb true) ∧ ([] : List AObj) = [])) (TV.Le (cb false) (cb true) ∧ ([] : List AObj) = [])) (TV.Le (cb false) (cb true) ∧ ([] : List AObj) = []) := by
  have el := E.len
  rw [E.hb, E.hl]
  refine br_of (fun _ => br_of (fun _ => br_of (fun _ => br_of (fun _ => br_of (fun _ => ⟨(u.V.length : Int), c_slen u, br_of (fun _ => br_of (fun _ => ⟨.refl _, rfl⟩) (fun q => by cases q)) (fun q => ?_)⟩) (fun q => by simp at q)) (fun q => by cases q)) (fun q => by cases q)) (fun q => by cases q)) (fun q => by cases q)
  rw [el] at q; simp at q
theorem hr_end {bs : List Bool} {ts o : List Tm} {i : Nat} (hi : ts.length ≤ i) (hr : o ++ keptT (bs.drop i) (ts.drop i) = keptT bs ts) : o = keptT bs ts := by
  rw [List.drop_eq_nil_of_le hi] at hr
  rw [← hr]
  cases bs.drop i <;> rw [keptT] <;> simp
theorem l_prnb {u : Sto} {x : Int} {bs : List Bool} {ts : List Tm} {n : Int} {w h : Inf} (E : EndR u x bs ts n w h) : ∀ (j i : Nat) (o : List Tm), i + j = ts.length → o.length ≤ i → o ++ keptT (bs.drop i) (ts.drop i) = keptT bs ts →
    RPt Try.prog 6 0 (cb true) [] 5 (stR u x bs ts n w h (i : Int) (.c (.a (.osl 5 4 0 o.length))) [(5, .arz 4 (FTs o))] 6)
  | 0, i, o, hi, ho, hr => by
    obtain ⟨g, hF⟩ := E.f
    have n0 := E.n0
    refine RPt.vc hP sh lv6 (Eq.mpr (v6_5b ..) ?_)
    have hr := hr_end (by omega) hr
    rw [w64 (x := n + 1) (by omega) (by omega)]
    refine ⟨rfl, br_of (fun q => absurd (of_decide_eq_true q) (by rw [FTs_length]; omega)) (fun _ => ⟨_, E.a1.args ⟨leT (l := []) leNil, .refl _, trivial⟩, (_, g, 0), hF, ⟨rfl, by rw [FTs_length]; omega⟩, _, ?_, _, E.sm, tail_prn E⟩)⟩
    rw [List.drop_zero, List.take_of_length_le (by rw [FTs_length]; exact Nat.le_refl _), hr]
    exact E.a2.args ⟨leT (l := []) leNil, .refl _, trivial⟩
  | j + 1, i, o, hi, ho, hr => by
    have ln := E.ln
    have hlen := BR_length bs
    have hi2 : i < ts.length := by omega
    have hi3 : i < bs.length := by omega
    have eg : List.getD (BR bs) (Int.toNat (i : Int)) [] = [.bool bs[i]] := by rw [Int.toNat_natCast]; simp [BR, List.getD, hi3]
    have et : List.getD (FTs ts) (Int.toNat (i : Int)) [] = FT ts[i] := by rw [Int.toNat_natCast, FTs_map]; simp [List.getD, hi2]
    rw [List.drop_eq_getElem_cons hi3, List.drop_eq_getElem_cons hi2, keptT] at hr
    refine RPt.vc hP sh lv6 (Eq.mpr (v6_5b ..) ?_)
    rw [eg, et, rE_FT, w64 (x := (i : Int) + 1) (by omega) (by omega), hlen, FTs_length]
    refine ⟨rfl, br_of (fun _ => ⟨⟨rfl, by omega, by omega, rfl⟩, br_of (fun hb => ?_) (fun hb => ?_)⟩) (fun q => absurd (of_decide_eq_false q) (by omega))⟩
    · have hb : bs[i] = true := hb
      rw [if_pos hb] at hr
      refine ⟨⟨rfl, by omega, by omega, rfl⟩, Nat.le_refl _, ⟨by rw [FTs_length]; omega, by simp only [roomB]; omega⟩, ?_⟩
      have nx := l_prnb E j (i + 1) (o ++ [ts[i]]) (by omega) (by simp; omega) (by rw [List.append_assoc]; exact hr)
      rw [show List.take o.length (FTs o) ++ [FT ts[i]] = FTs (o ++ [ts[i]]) by rw [List.take_of_length_le (by rw [FTs_length]; exact Nat.le_refl _), FTs_append]; rfl]
      simp only [stR, List.length_append, List.length_singleton] at nx
      exact nx
    · have hb : bs[i] = false := hb
      rw [if_neg (by rw [hb]; simp)] at hr
      exact l_prnb E j (i + 1) o (by omega) (by omega) hr
theorem l_prna {u : Sto} {x : Int} {bs : List Bool} {ts : List Tm} {n : Int} {w h : Inf} (E : EndR u x bs ts n w h) : ∀ (j i : Nat), i + j = ts.length → keptT (bs.drop i) (ts.drop i) = keptT bs ts →
    RPt Try.prog 6 0 (cb true) [] 5 (stR u x bs ts n w h (i : Int) (.c (.a (.fz .nils))) [] 5)
  | 0, i, hi, hr => by
    obtain ⟨g, hF⟩ := E.f
    have n0 := E.n0
    refine RPt.vc hP sh lv6 (Eq.mpr (v6_5a ..) ?_)
    have hr := hr_end (o := []) (by omega) hr
    rw [w64 (x := n + 1) (by omega) (by omega)]
    refine ⟨rfl, br_of (fun q => absurd (of_decide_eq_true q) (by rw [FTs_length]; omega)) (fun _ => ⟨_, E.a1.args ⟨leT (l := []) leNil, .refl _, trivial⟩, (_, g, 0), hF, _, ?_, _, E.sm, tail_prn E⟩)⟩
    have a2 := E.a2
    rw [← hr] at a2 ⊢
    exact a2.args ⟨leT (l := []) leNil, .c _ _ (.a _ _ (.fz _ _ leNil)), trivial⟩
  | j + 1, i, hi, hr => by
    have ln := E.ln
    have hlen := BR_length bs
    have hi2 : i < ts.length := by omega
    have hi3 : i < bs.length := by omega
    have eg : List.getD (BR bs) (Int.toNat (i : Int)) [] = [.bool bs[i]] := by rw [Int.toNat_natCast]; simp [BR, List.getD, hi3]
    have et : List.getD (FTs ts) (Int.toNat (i : Int)) [] = FT ts[i] := by rw [Int.toNat_natCast, FTs_map]; simp [List.getD, hi2]
    rw [List.drop_eq_getElem_cons hi3, List.drop_eq_getElem_cons hi2, keptT] at hr
    refine RPt.vc hP sh lv6 (Eq.mpr (v6_5a ..) ?_)
    rw [eg, et, rE_FT, w64 (x := (i : Int) + 1) (by omega) (by omega), hlen, FTs_length]
    refine ⟨rfl, br_of (fun _ => ⟨⟨rfl, by omega, by omega, rfl⟩, br_of (fun hb => ?_) (fun hb => ?_)⟩) (fun q => absurd (of_decide_eq_false q) (by omega))⟩
    · have hb : bs[i] = true := hb
      rw [if_pos hb] at hr
      refine ⟨⟨rfl, by omega, by omega, rfl⟩, Nat.le_refl _, by simp only [roomB]; omega, ?_⟩
      exact l_prnb E j (i + 1) [ts[i]] (by omega) (by simp) hr
    · have hb : bs[i] = false := hb
      rw [if_neg (by rw [hb]; simp)] at hr
      exact l_prna E j (i + 1) (by omega) hr

end Go.AM

set_option maxRecDepth 100000
open Go Go.Proofs
namespace Go.AM

theorem const_of {t : Tm} (h0 : t.k = 0) (hv : validB t = true) : isK t := by
  obtain ⟨k, s, n, l⟩ := t
  have h0 : k = 0 := h0
  subst h0
  exact ⟨rfl, okB0 (valid_ok _ hv) (by decide) (by decide)⟩
theorem p_prn (v : List IBT) (x : Int) (bs : List Bool) (ts : List Tm) (h8 : v.length ≤ 8) (h1 : ∀ a ∈ v, a.2.2.1.sz ≤ 12 ∧ bd 1000 a.2.2.1) (h2 : ∀ a ∈ v, a.2.2.1.bk ≤ B) (hl : bs.length = ts.length) (h6 : ts.length ≤ 6)
    (ht : ∀ t ∈ ts, isK t ∧ validB t = true ∧ t.sz ≤ 24 ∧ bd 1000 t) (r : TV) (hr : r = cb true) :
    ∃ z2 : Sto × Sto, AC Try.prog 27 [aV6 v] [] tS2 (oS2 z2.1 z2.2) ∧ ∃ z3 : Int × Bool × Tm × Bool, AC Try.prog 28 [aS 0, ci x] (oS z2.1) (tI ⟨z3.1, z3.2.1, z3.2.2.1⟩ z3.2.2.2) (oS z2.1) ∧ ∃ n4 : Int, AC Try.prog 29 [aS 0] (oS z2.1) (ci n4) (oS z2.1) ∧
      ∃ z5 : Int × Sto, AC Try.prog 30 [aS 0, ci x, .c (.a (.fz (.sl false 1 (BR bs))))] (oS z2.1) (ci z5.1) (oS' z5.2) ∧
      br (!z3.2.2.2) (br true (br ((z5.1 : Int) == 1) (∃ n6 : Int, AC Try.prog 29 [aS 0] (oS z5.2) (ci n6) (oS z5.2) ∧ TV.Le (.c (.a (.fz (.bool ((n6 : Int) == n4))))) r ∧ ([] : List AObj) = []) (TV.Le (cb false) r ∧ ([] : List AObj) = [])) (TV.Le (cb false) r ∧ ([] : List AObj) = []))
        (br z3.2.1 (br true (br ((z5.1 : Int) == 1) (∃ n6 : Int, AC Try.prog 29 [aS 0] (oS z5.2) (ci n6) (oS z5.2) ∧ TV.Le (.c (.a (.fz (.bool ((n6 : Int) == n4))))) r ∧ ([] : List AObj) = []) (TV.Le (cb false) r ∧ ([] : List AObj) = [])) (TV.Le (cb false) r ∧ ([] : List AObj) = []))
          (∃ z8 : Int × Bool × Tm × Bool, AC Try.prog 28 [aS 0, ci n4] (oS z5.2) (tI ⟨z8.1, z8.2.1, z8.2.2.1⟩ z8.2.2.2) (oS z5.2) ∧
            RPt Try.prog 6 0 r [] 5 ⟨[(1, ci x), (2, .c (.a (.fz (.sl false 1 (BR bs))))), (3, aL ts), (9, cb true), (13, aS 0), (15, .c (.a (.ep 3 6 0 0))), (17, ci n4), (18, ci z5.1), (19, .c (.a (.ep 4 6 0 0))), (20, cb z8.2.2.2), (21, .c (.a (.fz .nils))), (22, ci 0)],
              [(0, sto2 1 2 z5.2), (1, .arz 6 (SR z5.2.V)), (2, .arz 1 (IR z5.2.T)), (3, .arr 6 [fzs (Inf.c ⟨z3.1, z3.2.1, z3.2.2.1⟩)]), (4, .arr 6 [fzs (Inf.c ⟨z8.1, z8.2.1, z8.2.2.1⟩)])], 5⟩)) := by
  subst hr
  have hA := OKA.lay h1 h2
  have hL := LV0.lay v
  have c1 := c_laid16 v h1 h2 h8
  generalize layS v = s at *
  have hV := hA.V
  have hT := hA.T
  have hO := hang_ok s bs (by omega) (by omega)
  have hh := c_hang s x (infOf s.V x).lv bs.length (onK (bs.length : Int) bs 0) (by omega) (by have := onK_len (bs.length : Int) bs 0; omega) (by omega) (by omega) (by simp only [B]; omega) (bd_le (by simp only [M61]; omega) _ hO.2.2.1)
  have hp := c_iprune s x bs (by omega) hh
  refine ⟨(s, s), c1, ((infOf s.V x).lv, (infOf s.V x).bd, (infOf s.V x).v, inB s.V x), c_sinfo s x, (s.V.length : Int), c_slen s, (pruneE s x, pruneS s x bs), hp, ?_⟩
  have no : ¬ (inB s.V x = true ∧ (infOf s.V x).bd = false) → br true (br ((pruneE s x : Int) == 1) (∃ n6 : Int, AC Try.prog 29 [aS 0] (oS (pruneS s x bs)) (ci n6) (oS (pruneS s x bs)) ∧ TV.Le (.c (.a (.fz (.bool ((n6 : Int) == (s.V.length : Int)))))) (cb true) ∧ ([] : List AObj) = []) (TV.Le (cb false) (cb true) ∧ ([] : List AObj) = [])) (TV.Le (cb false) (cb true) ∧ ([] : List AObj) = []) := fun hq => by
    rw [show pruneE s x = 1 from if_neg hq, show pruneS s x bs = s from if_neg hq]
    exact br_of (fun _ => br_of (fun _ => ⟨_, c_slen s, ret_b (by simp)⟩) (fun q => by cases q)) (fun q => by cases q)
  refine br_of (fun q => no (fun e => ?_)) (fun q => br_of (fun q2 => no (fun e => ?_)) (fun q2 => ?_))
  · rw [e.1] at q; cases q
  · rw [e.2] at q2; cases q2
  have hin : inB s.V x = true := by simpa using q
  have hbd : (infOf s.V x).bd = false := q2
  have hq : inB s.V x = true ∧ (infOf s.V x).bd = false := ⟨hin, hbd⟩
  simp only
  rw [show pruneE s x = 0 from if_pos hq, show pruneS s x bs = hangS s x (infOf s.V x).lv bs.length (onK (bs.length : Int) bs 0) from if_pos hq]
  obtain ⟨u, hu⟩ : ∃ u, u = hangS s x (infOf s.V x).lv bs.length (onK (bs.length : Int) bs 0) := ⟨_, rfl⟩
  have hOK : OKS u := by
    rw [hu, hangS]
    exact (hA.fresh _).ok.bindA (by omega) (bd_le (by omega) _ hO.2.2.1)
  obtain ⟨i1, i2, i3, i4, i5⟩ := hang_inf (by omega) (by omega) hin hbd (infOf s.V x).lv u hu
  rw [← hu]
  have hn : (infOf u.V (s.V.length : Int)).bd = false := by rw [i2]
  have hx : (infOf u.V x).bd = true := by rw [i1]
  have hv : (infOf u.V x).v = lamsF bs.length (applyF (vN (s.V.length : Int)) (onK (bs.length : Int) bs 0)) := by rw [i1]; rfl
  have hx0 : 0 ≤ x ∧ x < (s.V.length : Int) := by simpa [inB] using hin
  have hval : validB (applyF (vN x) ts) = true := app_valid hx0.1 (by omega) fun t h => (ht t h).2.1
  obtain ⟨g, hF⟩ := prunes_full hl (by omega) (fun t h => ⟨(ht t h).1, (ht t h).2.2.1⟩) hn hx hv hval
  have hz := applyF_sz (vN x) ts
  have hzs := szs_const (l := ts) fun t h => (ht t h).2.2.1
  have h8' : (vN x).sz = 1 := by simp [Tm.sz, Tm.szs]
  have hbdT : bd 1000 (applyF (vN x) ts) := applyF_bd ⟨fun e => absurd e (by decide), trivial⟩ (bds_of fun t h => (ht t h).2.2.2)
  have hcF := c_sFull u hOK 500 (applyF (vN x) ts) (by omega) (by simp only [B]; omega) (fun hvv => ⟨valid_ok _ hvv, by simp only [SZ]; omega, bd_le (by simp only [M61, SZ]; omega) _ hbdT, by omega⟩)
  rw [hF] at hcF
  have hkl := kept_len bs ts
  have hkz := applyF_sz (vN (s.V.length : Int)) (keptT bs ts)
  have hks : Tm.szs (keptT bs ts) ≤ 24 * (keptT bs ts).length := szs_const fun t h => by
    have key : ∀ (bs : List Bool) (ts : List Tm), (∀ t ∈ ts, t.sz ≤ 24) → ∀ t ∈ keptT bs ts, t.sz ≤ 24 := by
      intro bs
      induction bs with
      | nil => intro ts _ t h; rw [keptT] at h; cases h; simp
      | cons b bs ih =>
        intro ts hts t h
        cases ts with
        | nil => rw [keptT] at h; cases h; simp
        | cons c ts =>
          rw [keptT] at h
          split at h
          · rcases List.mem_cons.1 h with rfl | h
            · exact hts _ List.mem_cons_self
            · exact ih ts (fun u hu => hts u (List.mem_cons_of_mem _ hu)) t h
          · exact ih ts (fun u hu => hts u (List.mem_cons_of_mem _ hu)) t h
    exact key bs ts (fun t h => (ht t h).2.2.1) t h
  have h9 : (vN (s.V.length : Int)).sz = 1 := by simp [Tm.sz, Tm.szs]
  refine ⟨((infOf u.V (s.V.length : Int)).lv, (infOf u.V (s.V.length : Int)).bd, (infOf u.V (s.V.length : Int)).v, inB u.V (s.V.length : Int)), c_sinfo u _, ?_⟩
  have E : EndR u x bs ts (s.V.length : Int) (infOf s.V x) (infOf u.V (s.V.length : Int)) := by
    refine ⟨c_apply _ _ (by simp only [Tm.l, List.length_nil]; omega), ⟨g, hcF⟩, c_apply _ _ (by simp only [Tm.l, List.length_nil]; omega), ?_, ⟨by omega, by omega⟩, by omega, hn, ?_, hl, h6⟩
    · have := c_rsame (applyF (vN (s.V.length : Int)) (keptT bs ts)) (by simp only [B]; omega) (applyF (vN (s.V.length : Int)) (keptT bs ts))
      rwa [(sameB_iff _ _).2 rfl] at this
    · rw [i2]; exact foldMax_of (hL.of x)
  have := l_prna E ts.length 0 (by omega) (by rw [List.drop_zero, List.drop_zero])
  simp only [stR] at this
  rw [i4]
  exact this
theorem l_prn1 (v : List IBT) (x : Int) (bs : List Bool) (ts : List Tm) (h8 : v.length ≤ 8) (h1 : ∀ a ∈ v, a.2.2.1.sz ≤ 12 ∧ bd 1000 a.2.2.1) (h2 : ∀ a ∈ v, a.2.2.1.bk ≤ B) (hl : bs.length = ts.length) (h6 : ts.length ≤ 6) (hts : ∀ t ∈ ts, t.sz ≤ 24 ∧ bd 1000 t) :
    ∀ (b a : List Tm), a ++ b = ts → (∀ t ∈ a, isK t ∧ validB t = true) → RPt Try.prog 6 0 (cb true) [] 1 ⟨[(0, aV6 v), (1, ci x), (2, .c (.a (.fz (.sl false 1 (BR bs))))), (3, aL ts), (9, cb true), (12, ci (a.length : Int))], [], 0⟩
  | [], a, ha, hk => by
    rw [List.append_nil] at ha
    subst ha
    refine RPt.vc hP sh lv6 (Eq.mpr (v6_1a ..) ?_)
    refine ⟨rfl, br_of (fun q => absurd (of_decide_eq_true q) (by rw [FTs_length]; omega)) (fun _ => ?_)⟩
    exact p_prn v x bs a h8 h1 h2 hl h6 (fun t h => ⟨(hk t h).1, (hk t h).2, hts t h⟩) _ rfl
  | t :: b, a, ha, hk => by
    have next := l_prn1 v x bs ts h8 h1 h2 hl h6 hts b (a ++ [t]) (by rw [← ha]; simp)
    have hmem := hts t (by rw [← ha]; simp)
    have hal : a.length < 8 := by have := congrArg List.length ha; simp at this; omega
    have c1 := c_valid t (by simp only [B]; omega)
    refine RPt.vc hP sh lv6 (Eq.mpr (v6_1a ..) ?_)
    rw [show FTs ts = FTs (a ++ t :: b) by rw [ha], aE_mid, midI, w64 (x := (a.length : Int) + 1) (by omega) (by omega)]
    have op : (FV.isSl 4 (.sl false 4 (FTs (a ++ t :: b))) = true) ∧ ((0 : Int) ≤ (a.length : Int)) ∧ ((a.length : Int) < (((FTs (a ++ t :: b)).length : Nat) : Int)) ∧ ((rE (FT t) : List FV) = FT t) := ⟨rfl, by omega, ltI' a t b, rE_FT t⟩
    have ek : FV.asI (List.getD (FT t) 0 FV.nils) = t.k := by cases t; rfl
    rw [ek]
    refine ⟨rfl, br_of (fun _ => ⟨op, br_of (fun _ => ret_b rfl) (fun q => ⟨op, _, c1, br_of (fun _ => ret_b rfl) (fun q2 => ?_)⟩)⟩) (fun h => absurd (ltI' a t b) (of_decide_eq_false h))⟩
    have h0 : t.k = 0 := by simpa using q
    have hv : validB t = true := by simpa using q2
    rw [ha]
    have := next fun w hw => by
      rcases List.mem_append.1 hw with hw | hw
      · exact hk w hw
      · simp at hw; subst hw; exact ⟨const_of h0 hv, hv⟩
    simpa using this
theorem c_invertprunes (v : List IBT) (x : Int) (bs : List Bool) (ts : List Tm) (h2 : ∀ a ∈ v, a.2.2.1.bk ≤ B) (ht : ∀ t ∈ ts, t.bk ≤ B) : AC Try.prog 6 [aV6 v, ci x, .c (.a (.fz (.sl false 1 (BR bs)))), aL ts] [] (cb true) [] := by
  have c0 := c_works16
  have c1 := c_over16 v h2
  have c2 := c_row16 ts ht
  refine AC.vc hP sh lv6 (Nat.le_refl _) (by simp) (by simp) (Eq.mpr (v6 ..) ?_)
  rw [BR_length, FTs_length]
  refine ⟨_, c0, br_of (fun q => by cases q) (fun _ => ⟨_, c1, _, c2, br_of (fun _ => ret_b rfl) (fun q1 => br_of (fun _ => ret_b rfl) (fun q2 => ⟨rfl, br_of (fun _ => ret_b rfl) (fun q3 => ⟨rfl, rfl, br_of (fun _ => ret_b rfl) (fun q4 => ?_)⟩)⟩))⟩)⟩
  have o := overI_no q1
  have w := rowW_no q2
  have q4 : (ts.length : Int) = (bs.length : Int) := by simpa using q4
  exact l_prn1 v x bs ts o.1 o.2 h2 (by omega) (by omega) w.2 ts [] rfl (fun t h => nomatch h)

end Go.AM
