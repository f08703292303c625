/- A calculus of plain values for the model's code, what the code of each function asks (computed by the kernel), contracts of the functions, and plain laws (part 6). No conditions. -/
import Derived.Test.YtdpjhpfjmjhhkaaGreatPart5
import Derived.Test.YtdpjhpfjmjhhkaaGreatPart4
import Derived.Test.YtdpjhpfjmjhhkaaGreatPart3
set_option maxRecDepth 100000
open Go Go.Proofs
namespace Go.AM
def gB (p : Int → Int → Bool) (k n d : Int) : Bool := if k = 3 then decide (n < d) else (decide (k ≠ 4) && decide (k ≠ 1)) || p k n
mutual
def wG (p : Int → Int → Bool) : Tm → Int → Bool
 | .mk k _ n l, d => gB p k n d && (if (k == 5 || k == 6) = true then wGL p l (d + if (k == 5) = true then 1 else 0) else true)
def wGL (p : Int → Int → Bool) : List Tm → Int → Bool
 | [], _ => true
 | t :: l, d => wG p t d && wGL p l d
end
section
variable {p : Int → Int → Bool}
theorem zvc : ∀ {l : List Tm} {d : Int}, wGL p l d = true ↔ ∀ t ∈ l, wG p t d = true
 | [], _ => ⟨fun _ t h => (by cases h), fun _ => rfl⟩
 | t :: l, d => by
  rw [wGL, Bool.and_eq_true, zvc (l := l)]
  exact ⟨fun h u hu => (List.mem_cons.1 hu).elim (fun e => e ▸ h.1) (h.2 u), fun h => ⟨h t List.mem_cons_self, fun u hu => h u (List.mem_cons_of_mem _ hu)⟩⟩
theorem z53 {k n d : Int} {s : List UInt8} {l : List Tm} : wG p (.mk k s n l) d = true ↔ gB p k n d = true ∧ (k = 5 ∨ k = 6 → ∀ t ∈ l, wG p t (d + if (k == 5) = true then 1 else 0) = true) := by
 rw [wG, Bool.and_eq_true]
 by_cases h : k = 5 ∨ k = 6
 · rw [if_pos (by simpa using h), zvc]
   exact ⟨fun x => ⟨x.1, fun _ => x.2⟩, fun x => ⟨x.1, x.2 h⟩⟩
 · rw [if_neg (by simpa using h)]
   exact ⟨fun x => ⟨x.1, fun q => absurd q h⟩, fun x => ⟨x.1, rfl⟩⟩
theorem zn2 {k n d : Int} (h3 : k ≠ 3) (h4 : k ≠ 4) (h1 : k ≠ 1) : gB p k n d = true := by simp [gB, h3, h4, h1]
theorem gB_mono {k n d e : Int} (h : gB p k n d = true) (hd : d ≤ e) : gB p k n e = true := by
 unfold gB at h ⊢
 split
 · rename_i h3; rw [if_pos h3] at h; have := of_decide_eq_true h; exact decide_eq_true (by omega)
 · rename_i h3; rw [if_neg h3] at h; exact h
theorem gB_imp {q : Int → Int → Bool} (hpq : ∀ k n, p k n = true → q k n = true) {k n d : Int} (h : gB p k n d = true) : gB q k n d = true := by
 unfold gB at h ⊢
 split
 · rename_i h3; rw [if_pos h3] at h; exact h
 · rename_i h3
   rw [if_neg h3, Bool.or_eq_true] at h
   rw [Bool.or_eq_true]
   exact h.imp id (hpq k n)
theorem z8n {q : Int → Int → Bool} (hpq : ∀ k n, p k n = true → q k n = true) : ∀ (t : Tm) {d e : Int}, d ≤ e → wG p t d = true → wG q t e = true := by
 refine Tm.ind fun t ih => ?_
 intro d e hd h
 obtain ⟨k, s, n, l⟩ := t
 rw [z53] at h ⊢
 exact ⟨gB_imp hpq (gB_mono h.1 hd), fun hk u hu => ih u hu (by omega) (h.2 hk u hu)⟩
theorem ztm {t : Tm} {d e : Int} (h : wG p t d = true) (hd : d ≤ e) : wG p t e = true := z8n (fun _ _ h => h) t hd h
theorem zfl {t u : Tm} {d : Int} (h : wG p t d = true) (h5 : t.k = 5) (hu : u ∈ t.l) : wG p u (d + 1) = true := by
 obtain ⟨k, s, n, l⟩ := t
 have h5 : k = 5 := h5
 subst h5
 exact (z53.1 h).2 (.inl rfl) u hu
theorem z4m {t u : Tm} {d : Int} (h : wG p t d = true) (h6 : t.k = 6) (hu : u ∈ t.l) : wG p u d = true := by
 obtain ⟨k, s, n, l⟩ := t
 have h6 : k = 6 := h6
 subst h6
 have := (z53.1 h).2 (.inr rfl) u hu
 rwa [if_neg (by decide), Int.add_zero] at this
theorem zlt {t : Tm} {d : Int} (h : wG p t d = true) (hk : t.k = 4 ∨ t.k = 1) : p t.k t.n = true := by
 obtain ⟨k, s, n, l⟩ := t
 have hk : k = 4 ∨ k = 1 := hk
 have := (z53.1 h).1
 unfold gB at this
 rw [if_neg (by omega)] at this
 show p k n = true
 rcases hk with rfl | rfl <;> simpa using this
theorem wG_six {s : List UInt8} {n d : Int} {l : List Tm} (h : ∀ t ∈ l, wG p t d = true) : wG p (.mk 6 s n l) d = true := by
 rw [z53]
 exact ⟨zn2 (by decide) (by decide) (by decide), fun _ t ht => by rw [if_neg (by decide), Int.add_zero]; exact h t ht⟩
theorem zqv {s : List UInt8} {n d : Int} {t : Tm} (h : wG p t (d + 1) = true) : wG p (.mk 5 s n [t]) d = true := by
 rw [z53]
 exact ⟨zn2 (by decide) (by decide) (by decide), fun _ u hu => by rw [List.mem_singleton.1 hu]; exact h⟩
theorem z4h {d : Int} : wG p noT d = true := rfl
theorem wG_dflt {d : Int} : wG p default d = true := rfl
theorem wG_bV {n d : Int} (h : n < d) : wG p (bV3 n) d = true := by
 show wG p (.mk 3 [] n []) d = true
 rw [z53]; exact ⟨by unfold gB; rw [if_pos rfl]; exact decide_eq_true h, fun _ t ht => nomatch ht⟩
theorem zi8 {n d : Int} (h : p 4 n = true) : wG p (.mk 4 [] n []) d = true := by
 rw [z53]; exact ⟨by unfold gB; rw [if_neg (by decide), h, Bool.or_true], fun _ t ht => nomatch ht⟩
theorem z1x {f : Tm} {l : List Tm} {d : Int} (hf : wG p f d = true) (hl : ∀ t ∈ l, wG p t d = true) : wG p (applyF f l) d = true := by
 cases l with
 | nil => exact hf
 | cons x a =>
  by_cases h : (f.k == 6) = true ∧ f.l ≠ []
  · rw [show applyF f (x :: a) = .mk 6 [] 0 (f.l ++ (x :: a)) from if_pos h]
    have h6 : f.k = 6 := by simpa using h.1
    exact wG_six fun t ht => (List.mem_append.1 ht).elim (z4m hf h6) (hl t)
  · rw [show applyF f (x :: a) = .mk 6 [] 0 (f :: (x :: a)) from if_neg h]
    exact wG_six fun t ht => (List.mem_cons.1 ht).elim (fun e => e ▸ hf) (hl t)
theorem zgx {l : List Tm} {d : Int} (h : ∀ t ∈ l, wG p t d = true) : wG p (hd l) d = true := by
 cases l with
 | nil => exact wG_dflt
 | cons a b => exact h _ List.mem_cons_self
theorem zo2 {t : Tm} {out : List Tm} {d : Int} (hk : t.k = 5 ∨ t.k = 6) (h : ∀ u ∈ out, wG p u (d + if (t.k == 5) = true then 1 else 0) = true) : wG p (z24 t out) d = true := by
 unfold z24
 split
 · rename_i q
   have h6 : t.k = 6 := by simpa using q.1
   rw [h6, if_neg (by decide), Int.add_zero] at h
   exact z1x (show wG p (hd out) d = true from zgx h) fun u hu => h u (List.mem_of_mem_tail hu)
 · rw [z53]
   exact ⟨zn2 (by omega) (by omega) (by omega), fun _ => h⟩
theorem z8o {k n m d e : Int} {s s' : List UInt8} {l : List Tm} (h : wG p (.mk k s n l) d = true) (hk : ¬ (k = 5 ∨ k = 6)) (h3 : k = 3 → n < d → m < e) (hn : k ≠ 3 → m = n) : wG p (.mk k s' m l) e = true := by
 rw [z53] at h ⊢
 refine ⟨?_, fun q => absurd q hk⟩
 have h := h.1
 unfold gB at h ⊢
 split
 · rename_i q; rw [if_pos q] at h; exact decide_eq_true (h3 q (of_decide_eq_true h))
 · rename_i q; rw [if_neg q] at h; rw [hn q]; exact h
mutual
theorem sh_wG (by_ : Int) {d : Int} (hb : 0 ≤ d + by_) : ∀ (t : Tm) (e : Int), 0 ≤ e → wG p t (d + e) = true → wG p (shT 0 by_ t e) (d + by_ + e) = true
 | .mk k s n l, e, he, h => by
  unfold shT
  rw [z0d]
  split
  · rename_i hk
    have hk : k = 5 ∨ k = 6 := by simpa using hk
    rw [z53] at h
    exact zo2 hk (sh_wGs by_ hb l e _ (by split <;> simp) he (h.2 hk))
  · rename_i hk
    have hk : ¬ (k = 5 ∨ k = 6) := by simpa using hk
    unfold z0g
    split
    · rename_i q
      have q2 : e + 0 ≤ n := q.2
      exact z8o h hk (fun _ g => by show n + by_ < _; omega) (fun q3 => absurd (by simpa using q.1) q3)
    · rename_i q
      refine z8o h hk (fun q1 g => ?_) (fun _ => rfl)
      have : ¬ (e + 0 ≤ n) := fun q2 => q ⟨beq_iff_eq.2 (show k = 3 from q1), q2⟩
      omega
theorem sh_wGs (by_ : Int) {d : Int} (hb : 0 ≤ d + by_) : ∀ (l : List Tm) (e x : Int), (x = 0 ∨ x = 1) → 0 ≤ e → (∀ t ∈ l, wG p t (d + e + x) = true) → ∀ t ∈ z07 (z0g 0 by_) l (e + x), wG p t (d + by_ + e + x) = true
 | [], _, _, _, _, _ => fun t ht => by rw [z07] at ht; cases ht
 | t :: l, e, x, hx, he, h => by
  rw [z07]
  intro u hu
  rcases List.mem_cons.1 hu with rfl | hu
  · have := sh_wG by_ hb t (e + x) (by omega) (by rw [← Int.add_assoc]; exact h t List.mem_cons_self)
    rw [← Int.add_assoc] at this
    exact this
  · exact sh_wGs by_ hb l e x hx he (fun u hu => h u (List.mem_cons_of_mem _ hu)) u hu
end
mutual
theorem su_wG {c : Tm} {d : Int} (hd : 0 ≤ d) (hc : wG p c d = true) : ∀ (t : Tm) (e : Int), 0 ≤ e → wG p t (d + e + 1) = true → wG p (suT 0 c t e) (d + e) = true
 | .mk k s n l, e, he, h => by
  unfold suT
  rw [z0d]
  split
  · rename_i hk
    have hk : k = 5 ∨ k = 6 := by simpa using hk
    rw [z53] at h
    refine zo2 hk (su_wGs hd hc l e _ (by split <;> simp) he fun t ht => ?_)
    have := h.2 hk t ht
    rw [Int.add_right_comm] at this
    exact this
  · rename_i hk
    have hk : ¬ (k = 5 ∨ k = 6) := by simpa using hk
    unfold z1r
    split
    · rename_i q3
      have q3 : k = 3 := beq_iff_eq.1 q3
      split
      · rename_i q
        have q : n < e + 0 := q
        exact z8o h hk (fun _ g => by omega) (fun _ => rfl)
      · rename_i q
        have q : ¬ n < e + 0 := q
        split
        · have := sh_wG (p := p) e (d := d) (by omega) c 0 (Int.le_refl _) (by rw [Int.add_zero]; exact hc)
          rw [Int.add_zero] at this
          exact this
        · rename_i q2
          have q2 : ¬ n = e + 0 := fun e => q2 (beq_iff_eq.2 e)
          exact z8o h hk (fun _ g => by show n - 1 < _; omega) (fun g => absurd q3 g)
    · rename_i q3
      have q3 : k ≠ 3 := fun e => q3 (beq_iff_eq.2 e)
      exact z8o h hk (fun g => absurd g q3) (fun _ => rfl)
theorem su_wGs {c : Tm} {d : Int} (hd : 0 ≤ d) (hc : wG p c d = true) : ∀ (l : List Tm) (e x : Int), (x = 0 ∨ x = 1) → 0 ≤ e → (∀ t ∈ l, wG p t (d + e + x + 1) = true) → ∀ t ∈ z07 (z1r 0 c) l (e + x), wG p t (d + e + x) = true
 | [], _, _, _, _, _ => fun t ht => by rw [z07] at ht; cases ht
 | t :: l, e, x, hx, he, h => by
  rw [z07]
  intro u hu
  rcases List.mem_cons.1 hu with rfl | hu
  · have := su_wG hd hc t (e + x) (by omega) (by rw [← Int.add_assoc]; exact h t List.mem_cons_self)
    rw [← Int.add_assoc] at this
    exact this
  · exact su_wGs hd hc l e x hx he (fun u hu => h u (List.mem_cons_of_mem _ hu)) u hu
end
theorem con_wG {b a : Tm} {d : Int} (hd : 0 ≤ d) (hb : wG p b (d + 1) = true) (ha : wG p a d = true) : wG p (conF b a) d = true := by
 unfold conF
 split
 · have := su_wG hd ha b 0 (Int.le_refl _) (by rw [Int.add_zero]; exact hb)
   rw [Int.add_zero] at this
   exact this
 · exact z4h
def SG (p : Int → Int → Bool) (s : Sto) : Prop := ∀ x : Int, p 4 x = true → (infOf s.V x).bd = true → wG p (infOf s.V x).v 0 = true
theorem SG.val {s : Sto} (h : SG p s) {t : Tm} {d : Int} (ht : wG p t d = true) (hb : valB s t = true) : wG p (valS s t) 0 = true := by
 simp only [valB, Bool.and_eq_true, beq_iff_eq] at hb
 have := zlt ht (.inl hb.1)
 rw [hb.1] at this
 exact h t.n this hb.2
theorem step_wG {s : Sto} (h : SG p s) {t : Tm} {d : Int} (h0 : 0 ≤ d) (ht : wG p t d = true) : wG p (z0b s t).1 d = true := by
 unfold z0b
 split
 · rename_i q; exact ztm (h.val ht q) h0
 · split
   · exact ht
   · rename_i q6
     have q6 : t.k = 6 := by simpa using q6
     have hh : wG p (hd t.l) d = true := zgx fun u hu => z4m ht q6 hu
     split
     · rename_i q
       exact z1x (ztm (h.val hh q) h0) fun u hu => z4m ht q6 (List.mem_of_mem_drop hu)
     · split
       · exact ht
       · rename_i q5
         have q5 : (hd t.l).k = 5 := by simpa using q5
         exact z1x (con_wG h0 (zgx fun u hu => zfl hh q5 hu) (zgx fun u hu => z4m ht q6 (List.mem_of_mem_drop hu))) fun u hu => z4m ht q6 (List.mem_of_mem_drop hu)
theorem zll {s : Sto} (h : SG p s) {d : Int} (hd : 0 ≤ d) : ∀ (F : Nat) (t : Tm), wG p t d = true → wG p (runH s F t).1 d = true
 | 0, t, ht => by
  rw [runH]
  split
  · exact ht
  · exact z4h
 | F + 1, t, ht => by
  rw [runH]
  split
  · exact ht
  · split
    · exact z4h
    · exact zll h hd F _ (step_wG h hd ht)
theorem headV_wG {s : Sto} (h : SG p s) {f : Int} {t : Tm} {d : Int} (hd : 0 ≤ d) (ht : wG p t d = true) : wG p (z1l s f t).1 d = true := by
 unfold z1l
 split
 · split
   · exact zll h hd _ t ht
   · exact z4h
 · exact z4h
theorem split_wG {t : Tm} {d : Int} (ht : wG p t d = true) : wG p (z03 t).1 d = true ∧ ∀ u ∈ (z03 t).2, wG p u d = true := by
 unfold z03
 split
 · rename_i q
   exact ⟨zgx fun u hu => z4m ht q.1 hu, fun u hu => z4m ht q.1 (List.mem_of_mem_drop hu)⟩
 · exact ⟨ht, fun u hu => nomatch hu⟩
theorem zfm {fu : Int → Tm → Tm × Int × Int} {d : Int} (hfu : ∀ g t, wG p t d = true → wG p (fu g t).1 d = true) : ∀ (l : List Tm) (sk : Bool) (g : Int), (∀ t ∈ l, wG p t d = true) → ∀ t ∈ (z0h fu sk l g).1, wG p t d = true
 | [], _, _, _ => fun t ht => by rw [z0h] at ht; cases ht
 | t :: l, true, g, h => by
  rw [z0h]
  intro u hu
  rcases List.mem_cons.1 hu with rfl | hu
  · exact h _ List.mem_cons_self
  · exact zfm hfu l false g (fun u hu => h u (List.mem_cons_of_mem _ hu)) u hu
 | t :: l, false, g, h => by
  rw [z0h]
  split
  · intro u hu; cases hu
  · intro u hu
    rcases List.mem_cons.1 hu with rfl | hu
    · exact hfu _ _ (h _ List.mem_cons_self)
    · exact zfm hfu l false _ (fun u hu => h u (List.mem_cons_of_mem _ hu)) u hu
theorem zn9 {s : Sto} (h : SG p s) : ∀ (D : Nat) (f : Int) (t : Tm) {d : Int}, 0 ≤ d → wG p t d = true → wG p (z08 s D f t).1 d = true
 | 0, f, t, d, hd, ht => z4h
 | D + 1, f, t, d, hd, ht => by
  rw [z08]
  split
  · exact z4h
  · have hh : wG p (z5h s (f - 1) t).1 d = true := zll h hd _ t ht
    generalize z5h s (f - 1) t = q at *
    obtain ⟨⟨k, str, n, l⟩, e, g⟩ := q
    dsimp only at hh
    unfold zce
    split
    · exact z4h
    · unfold z7a
      split
      · exact z4h
      · rw [z53] at hh
        show wG p (.mk k str n _) d = true
        rw [z53]
        exact ⟨hh.1, fun hk => zfm (fun g u hu => zn9 h D g u (by split <;> omega) hu) l _ _ (hh.2 hk)⟩
theorem zfz : ∀ {l : List Tm}, l ≠ [] → z5j l ∈ l
 | [], h => absurd rfl h
 | [a], _ => List.mem_cons_self
 | a :: b :: l, _ => by
  have := zfz (l := b :: l) (by simp)
  show z5j (a :: b :: l) ∈ a :: b :: l
  exact List.mem_cons_of_mem _ this
theorem rest_wG {b : Tm} (h6 : b.k = 6) {d : Int} (h : wG p b d = true) : wG p (z51 b) d = true :=
 z1x (zgx fun u hu => z4m h h6 hu) fun u hu => z4m h h6 (List.mem_of_mem_tail ((List.dropLast_sublist _).subset hu))
mutual
theorem zmq : ∀ (t : Tm) {d : Int}, 0 ≤ d → wG p t d = true → wG p (z04 t) d = true
 | .mk k s n l, d, hd, h => by
  rw [z53] at h
  rw [z04]
  split
  · rename_i h5
    have h5 : k = 5 := by simpa using h5
    subst h5
    have hl : ∀ u ∈ z09 l, wG p u (d + 1) = true := zc7 l (by omega) (h.2 (.inl rfl))
    split
    · rename_i q
      unfold z5w
      rw [if_pos q]
      have h6 : (Go.AM.hd (z09 l)).k = 6 := by
       simp only [z1g, Bool.and_eq_true, beq_iff_eq] at q
       exact q.1.1.1
      have := sh_wG (p := p) (-1) (d := d + 1) (by omega) (z51 (Go.AM.hd (z09 l))) 0 (Int.le_refl _) (by rw [Int.add_zero]; exact rest_wG h6 (zgx hl))
      rw [show d + 1 + -1 + 0 = d by omega] at this
      exact this
    · exact zqv (zgx hl)
  · split
    · rename_i h6
      have h6 : k = 6 := by simpa using h6
      subst h6
      have hl : ∀ u ∈ z09 l, wG p u d = true := zc7 l hd (fun u hu => by
       have := h.2 (.inr rfl) u hu
       rwa [if_neg (by decide), Int.add_zero] at this)
      exact z1x (zgx hl) fun u hu => hl u (List.mem_of_mem_tail hu)
    · rw [z53]; exact h
theorem zc7 : ∀ (l : List Tm) {d : Int}, 0 ≤ d → (∀ t ∈ l, wG p t d = true) → ∀ t ∈ z09 l, wG p t d = true
 | [], _, _, _ => fun t ht => by rw [z09] at ht; cases ht
 | t :: l, d, hd, h => by
  rw [z09]
  intro u hu
  rcases List.mem_cons.1 hu with rfl | hu
  · exact zmq t hd (h _ List.mem_cons_self)
  · exact zc7 l hd (fun u hu => h u (List.mem_cons_of_mem _ hu)) u hu
end
theorem FullV_wG {s : Sto} (h : SG p s) {f : Int} {t : Tm} {d : Int} (hd : 0 ≤ d) (ht : wG p t d = true) : wG p (FullV s f t).1 d = true := by
 unfold FullV
 split
 · split
   · exact zmq _ hd (zn9 h _ _ _ hd ht)
   · exact z4h
 · exact z4h
mutual
theorem zgb : ∀ (t : Tm) (d acc : Int), wG p t d = true → 0 ≤ acc → looseF t d acc = acc
 | .mk k s n l, d, acc, h, ha => by
  rw [z53] at h
  rw [looseF]
  split
  · rename_i h5
    have h5 : k = 5 := by simpa using h5
    subst h5
    exact zda l (d + 1) acc (h.2 (.inl rfl)) ha
  · split
    · rename_i h6
      have h6 : k = 6 := by simpa using h6
      subst h6
      exact zda l d acc (fun u hu => by
       have := h.2 (.inr rfl) u hu
       rwa [if_neg (by decide), Int.add_zero] at this) ha
    · split
      · rename_i h3
        have h3 : k = 3 := by simpa using h3
        have := h.1
        unfold gB at this
        rw [if_pos h3] at this
        have := of_decide_eq_true this
        unfold maxI
        split <;> omega
      · rfl
theorem zda : ∀ (l : List Tm) (d acc : Int), (∀ t ∈ l, wG p t d = true) → 0 ≤ acc → z4v l d acc = acc
 | [], _, _, _, _ => rfl
 | t :: l, d, acc, h, ha => by
  rw [z4v, zgb t d acc (h _ List.mem_cons_self) ha]
  exact zda l d acc (fun u hu => h u (List.mem_cons_of_mem _ hu)) ha
end
end
end Go.AM

set_option maxRecDepth 100000
open Go Go.Proofs
namespace Go.AM
theorem zej : ∀ {l : List Tm}, l ≠ [] → l = l.dropLast ++ [z5j l]
 | [], h => absurd rfl h
 | [a], _ => rfl
 | a :: b :: l, _ => by
  have := zej (l := b :: l) (by simp)
  show a :: b :: l = a :: ((b :: l).dropLast ++ [z5j (b :: l)])
  rw [← this]
theorem ze4 {b : Tm} (hv : validB b = true) (h6 : b.k = 6) : validB (z51 b) = true ∧ toL b = .app (toL (z51 b)) (toL (z5j b.l)) := by
 obtain ⟨k, s, n, l⟩ := b
 have h6 : k = 6 := h6
 subst h6
 obtain ⟨x, y, r, rfl, hx, _⟩ := okB6 (z02 _ hv) rfl
 have vl := z06 hv (.inr rfl)
 constructor
 · have ok := z4i (f := x) (args := (y :: r).dropLast) (z02 _ (vl x List.mem_cons_self)) (zj fun u hu => z02 _ (vl u (List.mem_cons_of_mem _ ((List.dropLast_sublist _).subset hu))))
   have lv := z46 (f := x) (args := (y :: r).dropLast) (z26 (vl x List.mem_cons_self)) (zbi fun u hu => z26 (vl u (List.mem_cons_of_mem _ ((List.dropLast_sublist _).subset hu))))
   show validB (applyF x (y :: r).dropLast) = true
   rw [z1p, ok, lv]; rfl
 · show _ = La.app (toL (applyF x (y :: r).dropLast)) (toL (z5j (x :: y :: r)))
   rw [z2e, z2h]
   show apps (toL x) (toLs (y :: r)) = _
   have e : y :: r = (y :: r).dropLast ++ [z5j (y :: r)] := zej (by simp)
   have e2 : z5j (x :: y :: r) = z5j (y :: r) := rfl
   rw [e2]
   rw [show toLs (y :: r) = toLs (y :: r).dropLast ++ [toL (z5j (y :: r))] by
    have := congrArg toLs e
    rw [z76] at this
    exact this]
   rw [zbd]
   rfl
mutual
theorem zho : ∀ (t : Tm) (e : Nat), validB t = true → occF t (e : Int) = 0 → (toL (shT 0 (-1) t (e : Int))).lift e = toL t
 | .mk k s n l, e, hv, ho => by
  unfold shT
  rw [z0d]
  split
  · rename_i hk
    have hk : k = 5 ∨ k = 6 := by simpa using hk
    rw [occF, if_neg (by rcases hk with rfl | rfl <;> simp)] at ho
    rw [zg4 (t := .mk k s n l) hk]
    show (mkL k n s _).lift e = _
    rw [zlz (fun t => t.lift e) (fun t => t.lift (e + 1)) (fun _ => rfl) (fun f l => zcs e l f) rfl rfl hk, toL]
    congr 1
    by_cases h5 : k = 5
    · rw [if_pos h5, if_pos (by simpa using h5)]
      rw [if_pos (by simpa using h5)] at ho
      exact z9q l (e + 1) (z06 hv hk) ho
    · rw [if_neg h5, if_neg (by simpa using h5), Int.add_zero]
      rw [if_neg (by simpa using h5), Int.add_zero] at ho
      exact z9q l e (z06 hv hk) ho
  · rename_i hk
    have hk : ¬ (k = 5 ∨ k = 6) := by simpa using hk
    rw [not_or] at hk
    have hl : l = [] := okB0 (z02 _ hv) hk.1 hk.2
    subst hl
    unfold z0g
    by_cases h3 : k = 3
    · have hn := z9h hv h3
      subst h3
      rw [occF] at ho
      have hne : n ≠ (e : Int) := fun q => by rw [if_pos ⟨rfl, by simpa using q⟩] at ho; cases ho
      by_cases q : (e : Int) + 0 ≤ n
      · rw [if_pos (show ((Tm.mk 3 s n []).k == 3) = true ∧ (e : Int) + 0 ≤ (Tm.mk 3 s n []).n from ⟨rfl, q⟩)]
        show (toL (.mk 3 s (n + -1) [])).lift e = _
        rw [z1s, z1s, La.lift, if_neg (by omega)]
        congr 1; omega
      · rw [if_neg (show ¬ (((Tm.mk 3 s n []).k == 3) = true ∧ (e : Int) + 0 ≤ (Tm.mk 3 s n []).n) from fun e => q e.2), z1s, La.lift, if_pos (by omega)]
    · rw [if_neg (show ¬ (((Tm.mk k s n []).k == 3) = true ∧ (e : Int) + 0 ≤ (Tm.mk k s n []).n) from fun e => h3 (beq_iff_eq.1 e.1))]
      rcases z5t (k := k) (n := n) (s := s) (l := []) hk.1 hk.2 h3 with e | e <;> rw [e] <;> rfl
theorem z9q : ∀ (l : List Tm) (e : Nat), (∀ u ∈ l, validB u = true) → occL l (e : Int) = 0 → (toLs (z07 (z0g 0 (-1)) l (e : Int))).map (fun t => t.lift e) = toLs l
 | [], _, _, _ => rfl
 | t :: l, e, h, ho => by
  rw [occL] at ho
  rw [z07, toLs, toLs, List.map_cons, z9q l e (fun u hu => h u (List.mem_cons_of_mem _ hu)) (by omega)]
  congr 1
  exact zho t e (h t List.mem_cons_self) (by omega)
end
theorem zcj {t : Tm} (hv : validB t = true) : validB (z04 t) = true := by
 have so := z1o t (z02 _ hv)
 rw [z1p, so.1, so.2.1 (z26 hv)]; rfl
theorem lastv {t : Tm} (hv : validB t = true) (h3 : t.k = 3) (hn : t.n = 0) : toL t = .bv 0 := by
 obtain ⟨k, s, n, l⟩ := t
 have h3 : k = 3 := h3
 have hn : n = 0 := hn
 subst h3; subst hn
 rw [z1s]; rfl
mutual
theorem z6c {V : Int → Option La} : ∀ t : Tm, validB t = true → Sts V (toL t) (toL (z04 t))
 | .mk k s n l, hv => by
  rw [z04]
  split
  · rename_i h5
    have h5 : k = 5 := by simpa using h5
    subst h5
    obtain ⟨b, rfl, _⟩ := okB5 (z02 _ hv) rfl
    have vb := z06 hv (.inl rfl) b List.mem_cons_self
    have ih := z6c (V := V) b vb
    have vs := zcj vb
    show Sts V _ (toL (if z1g (z04 b) = true then z5w (z04 b) else .mk 5 [] 0 [z04 b]))
    rw [z1c]
    refine ih.lam.trans ?_
    split
    · rename_i q
      unfold z5w
      rw [if_pos q]
      simp only [z1g, Bool.and_eq_true, beq_iff_eq] at q
      obtain ⟨⟨⟨q1, q2⟩, q3⟩, q4⟩ := q
      have rv := ze4 vs q1
      have vlast : validB (z5j (z04 b).l) = true := by
       generalize z04 b = w at *
       obtain ⟨wk, ws, wn, wl⟩ := w
       obtain ⟨x, y, r, rfl, _, _⟩ := okB6 (z02 _ vs) q1
       exact z06 vs (.inr q1) _ (zfz (by simp))
      have dl := zho (z51 (z04 b)) 0 rv.1 q4
      rw [rv.2, lastv vlast q2 q3, ← dl]
      exact Sts.eta _
    · rw [z1c]; exact .refl _
  · split
    · rename_i h6
      have h6 : k = 6 := by simpa using h6
      subst h6
      rw [z2e, z2h]
      obtain ⟨x, y, r, rfl, _, _⟩ := okB6 (z02 _ hv) rfl
      have vl := z06 hv (.inr rfl)
      have h1 := z6c (V := V) x (vl x List.mem_cons_self)
      have h2 := ze7 (V := V) (y :: r) fun u hu => vl u (List.mem_cons_of_mem _ hu)
      exact zb4 _ _ _ _ h1 (zb6 h2)
    · exact .refl _
theorem ze7 {V : Int → Option La} : ∀ l : List Tm, (∀ u ∈ l, validB u = true) → All2 (fun x y => Sts V (toL x) (toL y)) l (z09 l)
 | [], _ => trivial
 | t :: l, h => ⟨z6c t (h t List.mem_cons_self), ze7 l fun u hu => h u (List.mem_cons_of_mem _ hu)⟩
end
theorem zcm {s : Sto} (hs : OKS s) {f : Int} {t : Tm} (h0 : 0 ≤ f) (hf : validB t = true → Fit f.toNat t) (he : (FullV s f t).2.2 = 0) : Sts (VS s) (toL t) (toL (FullV s f t).1) := by
 unfold FullV at he ⊢
 split at he
 · rename_i hv
   rw [if_pos hv]
   split at he
   · rename_i h1
     rw [if_pos h1]
     exact (zji hs f.toNat f t (Nat.le_refl _) h0 hv (hf hv) h1).trans (z6c _ (z3h hs f.toNat f t (Nat.le_refl _) h0 hv (hf hv) h1).1.1)
   · rename_i h1; exact absurd he h1
 · cases he
def Neu (V : Int → Option La) (f : La) : Prop := (∀ b, f ≠ .lam b) ∧ NfL V f
theorem Neu.app {V : Int → Option La} {f a : La} (h : Neu V f) (ha : NfL V a) : Neu V (.app f a) := by
 refine ⟨fun b e => (by cases e), fun b hb => ?_⟩
 rcases hb with hb | hb
 · rcases zdb hb with ⟨f', a', rfl, h1, h2⟩ | ⟨s, s', a', rfl, _, _, _⟩
   · rw [h.2 f' (.inl h1), ha a' (.inl h2)]
   · exact absurd rfl (h.1 s)
 · obtain ⟨f', a', rfl, h1, h2⟩ := zeu hb
   rw [h.2 f' (.inr h1), ha a' (.inr h2)]
theorem Neu.apps {V : Int → Option La} : ∀ {l : List La} {f : La}, Neu V f → (∀ a ∈ l, NfL V a) → Neu V (apps f l)
 | [], _, h, _ => h
 | a :: l, _, h, hl => Neu.apps (l := l) (h.app (hl a List.mem_cons_self)) fun b hb => hl b (List.mem_cons_of_mem _ hb)
theorem neu_con {V : Int → Option La} (k n : Int) (s : List UInt8) : Neu V (.con k n s) := ⟨fun b e => (by cases e), fun b h => h.elim zhc ziy⟩
theorem neu_bv {V : Int → Option La} (n : Nat) : Neu V (.bv n) := ⟨fun b e => (by cases e), fun b h => h.elim zj2 zls⟩
theorem neu_var {V : Int → Option La} {x : Int} (h : V x = none) : Neu V (.var x) := ⟨fun b e => (by cases e), fun b hb => by
 rcases hb with hb | hb
 · rcases zo4 hb with e | e
   · exact e
   · rw [h] at e; cases e
 · exact zhu hb⟩
theorem zie (f : La) : ∀ l : List La, l ≠ [] → ∃ l' a, l = l' ++ [a] ∧ apps f l = .app (apps f l') a := fun l h => by
 obtain ⟨l', a, rfl⟩ : ∃ l' a, l = l' ++ [a] := ⟨l.dropLast, l.getLast h, (List.dropLast_concat_getLast h).symm⟩
 exact ⟨l', a, rfl, by rw [zbd]; rfl⟩
theorem zmt (i : Int) : ∀ a b : List Tm, occL (a ++ b) i = occL a i + occL b i
 | [], b => by rw [List.nil_append, occL]; omega
 | t :: a, b => by rw [List.cons_append, occL, occL, zmt i a b]; omega
theorem zid (e : Nat) (x : Tm) : ∀ (N : Nat) (m : List Tm) (w : La), m.length = N → (∀ v ∈ x :: m, ∀ u : La, toL v = u.lift e → occF v (e : Int) = 0) → apps (toL x) (toLs m) = w.lift e → occF x (e : Int) + occL m (e : Int) = 0
 | 0, m, w, hlen, h, hw => by
  have : m = [] := List.eq_nil_of_length_eq_zero hlen
  subst this
  rw [h x List.mem_cons_self w hw]; rfl
 | N + 1, m, w, hlen, h, hw => by
  have hne : m ≠ [] := fun q => by subst q; cases hlen
  obtain ⟨m', a, rfl⟩ : ∃ m' a, m = m' ++ [a] := ⟨m.dropLast, m.getLast hne, (List.dropLast_concat_getLast hne).symm⟩
  rw [z76, zbd] at hw
  have hw : La.app (apps (toL x) (toLs m')) (toL a) = w.lift e := hw
  cases w with
  | con _ _ _ => cases hw
  | var _ => cases hw
  | bv m => rw [La.lift] at hw; split at hw <;> cases hw
  | lam _ => cases hw
  | app f b =>
   rw [La.lift] at hw
   injection hw with h1 h2
   have i1 := zid e x N m' f (by simpa using hlen) (fun v hv => h v (by
    rcases List.mem_cons.1 hv with rfl | hv
    · exact List.mem_cons_self
    · exact List.mem_cons_of_mem _ (List.mem_append_left _ hv))) h1
   have i2 := h a (List.mem_cons_of_mem _ (by simp)) b h2
   rw [zmt, occL, occL, i2]
   omega
theorem occ_lift : ∀ (t : Tm) (e : Nat) (u : La), validB t = true → toL t = u.lift e → occF t (e : Int) = 0 := by
 refine Tm.ind fun t ih => ?_
 intro e u hv h
 obtain ⟨k, s, n, l⟩ := t
 rw [occF]
 by_cases h3 : k = 3
 · have hn := z9h hv h3
   subst h3
   have hl : l = [] := okB0 (z02 _ hv) (by decide) (by decide)
   subst hl
   rw [z1s] at h
   have hne : n ≠ (e : Int) := fun q => by
    cases u with
    | con _ _ _ => cases h
    | var _ => cases h
    | lam _ => cases h
    | app _ _ => cases h
    | bv m =>
     rw [La.lift] at h
     split at h <;> (injection h with h; omega)
   rw [if_neg (fun q => hne (by simpa using q.2))]
   rfl
 · rw [if_neg (fun q => h3 (by simpa using q.1))]
   by_cases h5 : k = 5
   · subst h5
     obtain ⟨b, rfl, _⟩ := okB5 (z02 _ hv) rfl
     rw [z1c] at h
     cases u with
     | con _ _ _ => cases h
     | var _ => cases h
     | bv m => rw [La.lift] at h; split at h <;> cases h
     | app _ _ => cases h
     | lam w =>
      rw [La.lift] at h
      injection h with h
      have := ih b List.mem_cons_self (e + 1) w (z06 hv (.inl rfl) b List.mem_cons_self) h
      rw [if_pos (by decide), occL, occL]
      rw [show ((e : Int) + 1) = ((e + 1 : Nat) : Int) by omega, this]
   · rw [if_neg (by simpa using h5), Int.add_zero]
     by_cases h6 : k = 6
     · subst h6
       obtain ⟨x, y, r, rfl, _, _⟩ := okB6 (z02 _ hv) rfl
       have vl := z06 hv (.inr rfl)
       rw [z2e] at h
       rw [occL]
       exact zid e x _ (y :: r) u rfl (fun v hv w hw => ih v hv e w (vl v hv) hw) h
     · have hl : l = [] := okB0 (z02 _ hv) h5 h6
       subst hl; rfl
theorem nf_of {s : Sto} : ∀ t : Tm, validB t = true → z2r t = true → ubB s t = true → shB t = true → NfL (VS s) (toL t) ∧ (t.k ≠ 5 → Neu (VS s) (toL t)) := by
 refine Tm.ind fun t ih => ?_
 intro hv hn hu hs
 obtain ⟨k, str, n, l⟩ := t
 rw [z2r, Bool.and_eq_true] at hn
 rw [ubB, Bool.and_eq_true] at hu
 rw [shB, Bool.and_eq_true] at hs
 have nl := zhh.1 hn.2
 have ul := zup.1 hu.2
 have kids : (k = 5 ∨ k = 6) → ∀ u ∈ l, NfL (VS s) (toL u) ∧ (u.k ≠ 5 → Neu (VS s) (toL u)) := fun hk u hm => ih u hm (z06 hv hk u hm) (nl u hm) (ul u hm) (z9z hs.2 hm)
 by_cases h5 : k = 5
 · subst h5
   obtain ⟨b, rfl, _⟩ := okB5 (z02 _ hv) rfl
   have vb := z06 hv (.inl rfl) b List.mem_cons_self
   have kb := (kids (.inl rfl) b List.mem_cons_self).1
   rw [z1c]
   show NfL _ (.lam (toL b)) ∧ _
   refine ⟨fun c hc => ?_, fun q => absurd rfl q⟩
   rcases hc with hc | hc
   · obtain ⟨b', rfl, h1⟩ := zam hc
     rw [kb b' (.inl h1)]
   · rcases zbx hc with ⟨b', rfl, h1⟩ | ⟨u, e, h1⟩
     · rw [kb b' (.inr h1)]
     · exfalso
       have hd0 : z1g b = false := by have h1 := hs.1; rw [if_pos (by decide)] at h1; have h1 : (!z1g b) = true := h1; simpa using h1
       have vb0 := vb
       have h6 : b.k = 6 := by
        obtain ⟨bk, bs, bn, bl⟩ := b
        by_cases g6 : bk = 6
        · exact g6
        · exfalso
          by_cases g5 : bk = 5
          · subst g5
            rw [z1c] at e; cases e
          · by_cases g3 : bk = 3
            · subst g3; rw [z1s] at e; cases e
            · rcases z5t (k := bk) (n := bn) (s := bs) (l := bl) g5 g6 g3 with q | q <;> (rw [q] at e; cases e)
       have rv := ze4 vb h6
       rw [rv.2] at e
       injection e with e1 e2
       have vlast : validB (z5j b.l) = true := by
        obtain ⟨wk, ws, wn, wl⟩ := b
        obtain ⟨x, y, r, rfl, _, _⟩ := okB6 (z02 _ vb) h6
        exact z06 vb (.inr h6) _ (zfz (by simp))
       have l3 : (z5j b.l).k = 3 ∧ (z5j b.l).n = 0 := by
        generalize z5j b.l = w at *
        obtain ⟨wk, ws, wn, wl⟩ := w
        by_cases g3 : wk = 3
        · subst g3
          have := z9h vlast rfl
          rw [z1s] at e2
          injection e2 with e2
          exact ⟨rfl, by show wn = 0; omega⟩
        · exfalso
          by_cases g5 : wk = 5
          · subst g5; rw [z1c] at e2; cases e2
          · by_cases g6 : wk = 6
            · subst g6
              rw [z2e] at e2
              obtain ⟨x, y, r, rfl, _, _⟩ := okB6 (z02 _ vlast) rfl
              obtain ⟨l', a, _, h2⟩ := zie (toL x) (toLs (y :: r)) (by simp [toLs])
              rw [show (hd (x :: y :: r)) = x from rfl, show (x :: y :: r).tail = y :: r from rfl, h2] at e2
              cases e2
            · rcases z5t (k := wk) (n := wn) (s := ws) (l := wl) g5 g6 g3 with q | q <;> (rw [q] at e2; cases e2)
       have ho := occ_lift (z51 b) 0 u rv.1 e1
       have : z1g b = true := by
        unfold z1g
        have ho : occF (z51 b) 0 = 0 := ho
        rw [h6, l3.1, l3.2, ho]
        rfl
       rw [this] at hd0; cases hd0
 · by_cases h6 : k = 6
   · subst h6
     obtain ⟨x, y, r, rfl, hx6, _⟩ := okB6 (z02 _ hv) rfl
     have kk := kids (.inr rfl)
     have hx5 : x.k ≠ 5 := fun q => by
      have := hn.1
      unfold z32 at this
      rw [show (hd (Tm.l (.mk 6 str n (x :: y :: r)))) = x from rfl, q] at this
      simp [Tm.k] at this
     have N := Neu.apps (l := toLs (y :: r)) ((kk x List.mem_cons_self).2 hx5) fun a ha => by
      rw [z6o] at ha
      obtain ⟨u, hu, rfl⟩ := List.mem_map.1 ha
      exact (kk u (List.mem_cons_of_mem _ hu)).1
     rw [z2e]
     exact ⟨N.2, fun _ => N⟩
   · have N : Neu (VS s) (toL (.mk k str n l)) := by
      by_cases h3 : k = 3
      · subst h3; rw [z1s]; exact neu_bv _
      · by_cases h4 : k = 4
        · subst h4
          rw [z9r]
          refine neu_var ?_
          unfold VS
          rw [if_neg]
          have := hu.1
          simpa using this
        · have : toL (.mk k str n l) = .con k n str := by rw [toL, mkL, if_neg h5, if_neg h6, if_neg h3, if_neg h4]
          rw [this]; exact neu_con _ _ _
     exact ⟨N.2, fun _ => N⟩
def spA : La → List La → La × List La
 | .app f a, acc => spA f (a :: acc)
 | t, acc => (t, acc)
theorem spA_apps : ∀ (l : List La) (f : La) (acc : List La), spA (apps f l) acc = spA f (l ++ acc) := fun l => by
 induction l with
 | nil => intro f acc; rfl
 | cons a l ih => intro f acc; rw [z2x, ih, spA]; rfl
theorem apps_inj {f g : La} {a b : List La} (hf : ∀ x y, f ≠ .app x y) (hg : ∀ x y, g ≠ .app x y) (h : apps f a = apps g b) : f = g ∧ a = b := by
 have := congrArg (fun t => spA t []) h
 simp only [spA_apps, List.append_nil] at this
 have uf : ∀ {f : La}, (∀ x y, f ≠ .app x y) → ∀ l, spA f l = (f, l) := fun {f} hf l => by
  cases f with
  | app x y => exact absurd rfl (hf x y)
  | _ => rfl
 rw [uf hf, uf hg] at this
 injection this with h1 h2
 exact ⟨h1, h2⟩
theorem z5o {k n : Int} {s : List UInt8} {l : List Tm} (hv : validB (.mk k s n l) = true) (h : k = 3 ∨ k = 4 ∨ k = 5 ∨ k = 6) : s = [] ∧ (k = 3 ∨ k = 4 → 0 ≤ n) ∧ (k = 5 ∨ k = 6 → n = 0) := by
 rcases h with rfl | rfl | rfl | rfl
 · rw [validB, if_neg (by decide), if_neg (by decide), if_neg (by decide), if_pos (by decide)] at hv
   simp only [Bool.and_eq_true, decide_eq_true_eq, beq_iff_eq] at hv
   exact ⟨hv.1.1.2, fun _ => hv.1.1.1.1, fun q => by omega⟩
 · rw [validB, if_neg (by decide), if_neg (by decide), if_neg (by decide), if_neg (by decide), if_pos (by decide)] at hv
   simp only [Bool.and_eq_true, decide_eq_true_eq, beq_iff_eq] at hv
   exact ⟨hv.1.1.2, fun _ => hv.1.1.1.1, fun q => by omega⟩
 · rw [validB, if_neg (by decide), if_neg (by decide), if_neg (by decide), if_neg (by decide), if_neg (by decide), if_pos (by decide)] at hv
   simp only [Bool.and_eq_true, decide_eq_true_eq, beq_iff_eq] at hv
   exact ⟨hv.1.1.2, fun q => by omega, fun _ => hv.1.1.1⟩
 · rw [validB, if_neg (by decide), if_neg (by decide), if_neg (by decide), if_neg (by decide), if_neg (by decide), if_neg (by decide), if_pos (by decide)] at hv
   simp only [Bool.and_eq_true, decide_eq_true_eq, beq_iff_eq] at hv
   exact ⟨hv.1.2, fun q => by omega, fun _ => hv.1.1.1.1⟩
theorem zc1 {s : List UInt8} {n : Int} {l : List Tm} (hv : validB (.mk 6 s n l) = true) : ∃ f a, toL (.mk 6 s n l) = .app f a := by
 obtain ⟨x, y, r, rfl, _, _⟩ := okB6 (z02 _ hv) rfl
 rw [z2e]
 obtain ⟨l', a, _, h2⟩ := zie (toL x) (toLs (y :: r)) (by simp [toLs])
 exact ⟨_, _, h2⟩
theorem zbb {t : Tm} (h6 : t.k ≠ 6) : ∀ x y, toL t ≠ .app x y := fun x y e => by
 obtain ⟨k, s, n, l⟩ := t
 have h6 : k ≠ 6 := h6
 by_cases h5 : k = 5
 · subst h5; rw [z1c] at e; cases e
 · by_cases h3 : k = 3
   · subst h3; rw [z1s] at e; cases e
   · rcases z5t (k := k) (n := n) (s := s) (l := l) h5 h6 h3 with q | q <;> (rw [q] at e; cases e)
theorem toL_inj : ∀ t u : Tm, validB t = true → validB u = true → toL t = toL u → t = u := by
 refine Tm.ind fun t ih => ?_
 intro u hv hw h
 obtain ⟨k, s, n, l⟩ := t
 obtain ⟨j, q, m, r⟩ := u
 have lists : (k = 5 ∨ k = 6) → (j = 5 ∨ j = 6) → ∀ (a b : List Tm), (∀ x ∈ a, x ∈ l) → (∀ x ∈ b, x ∈ r) → toLs a = toLs b → a = b := by
  intro hk hj a
  induction a with
  | nil => intro b _ _ e; cases b with
   | nil => rfl
   | cons _ _ => cases e
  | cons x a iha =>
   intro b ha hb e
   cases b with
   | nil => cases e
   | cons y b =>
    rw [toLs, toLs] at e
    injection e with e1 e2
    rw [ih x (ha x List.mem_cons_self) y (z06 hv hk x (ha x List.mem_cons_self)) (z06 hw hj y (hb y List.mem_cons_self)) e1, iha b (fun z hz => ha z (List.mem_cons_of_mem _ hz)) (fun z hz => hb z (List.mem_cons_of_mem _ hz)) e2]
 by_cases k6 : k = 6
 · subst k6
   by_cases j6 : j = 6
   · subst j6
     have s1 := z5o hv (by omega)
     have s2 := z5o hw (by omega)
     obtain ⟨x, y, a, rfl, hx, _⟩ := okB6 (z02 _ hv) rfl
     obtain ⟨x2, y2, a2, rfl, hx2, _⟩ := okB6 (z02 _ hw) rfl
     rw [z2e, z2e] at h
     obtain ⟨h1, h2⟩ := apps_inj (zbb hx) (zbb hx2) h
     have e1 := ih x List.mem_cons_self x2 (z06 hv (.inr rfl) x List.mem_cons_self) (z06 hw (.inr rfl) x2 List.mem_cons_self) h1
     have e2 := lists (.inr rfl) (.inr rfl) (y :: a) (y2 :: a2) (fun z hz => List.mem_cons_of_mem _ hz) (fun z hz => List.mem_cons_of_mem _ hz) h2
     rw [e1, e2, s1.1, s2.1, s1.2.2 (by omega), s2.2.2 (by omega)]
   · obtain ⟨f, a, e⟩ := zc1 hv
     rw [e] at h
     exact absurd h.symm (zbb (t := .mk j q m r) j6 f a)
 · by_cases j6 : j = 6
   · subst j6
     obtain ⟨f, a, e⟩ := zc1 hw
     rw [e] at h
     exact absurd h (zbb (t := .mk k s n l) k6 f a)
   · by_cases k5 : k = 5
     · subst k5
       by_cases j5 : j = 5
       · subst j5
         have s1 := z5o hv (by omega)
         have s2 := z5o hw (by omega)
         obtain ⟨b, rfl, _⟩ := okB5 (z02 _ hv) rfl
         obtain ⟨c, rfl, _⟩ := okB5 (z02 _ hw) rfl
         rw [z1c, z1c] at h
         injection h with h
         have e1 := ih b List.mem_cons_self c (z06 hv (.inl rfl) b List.mem_cons_self) (z06 hw (.inl rfl) c List.mem_cons_self) h
         rw [e1, s1.1, s2.1, s1.2.2 (by omega), s2.2.2 (by omega)]
       · rw [z1c] at h
         exfalso
         by_cases j3 : j = 3
         · subst j3; rw [z1s] at h; cases h
         · rcases z5t (k := j) (n := m) (s := q) (l := r) j5 j6 j3 with e | e <;> (rw [e] at h; cases h)
     · by_cases j5 : j = 5
       · subst j5
         rw [z1c] at h
         exfalso
         by_cases k3 : k = 3
         · subst k3; rw [z1s] at h; cases h
         · rcases z5t (k := k) (n := n) (s := s) (l := l) k5 k6 k3 with e | e <;> (rw [e] at h; cases h)
       · have l0 : l = [] := okB0 (z02 _ hv) k5 k6
         have r0 : r = [] := okB0 (z02 _ hw) j5 j6
         subst l0; subst r0
         rw [toL, mkL, if_neg k5, if_neg k6, toL, mkL, if_neg j5, if_neg j6] at h
         by_cases k3 : k = 3
         · subst k3
           rw [if_pos rfl] at h
           by_cases j3 : j = 3
           · subst j3
             rw [if_pos rfl] at h
             injection h with h
             have s1 := z5o hv (by omega)
             have s2 := z5o hw (by omega)
             have := s1.2.1 (by omega)
             have := s2.2.1 (by omega)
             rw [s1.1, s2.1, show n = m by omega]
           · rw [if_neg j3] at h; split at h <;> cases h
         · rw [if_neg k3] at h
           by_cases j3 : j = 3
           · rw [if_pos j3] at h; split at h <;> cases h
           · rw [if_neg j3] at h
             by_cases k4 : k = 4
             · rw [if_pos k4] at h
               by_cases j4 : j = 4
               · rw [if_pos j4] at h
                 injection h with h
                 have s1 := z5o hv (by omega)
                 have s2 := z5o hw (by omega)
                 rw [s1.1, s2.1, h, k4, j4]
               · rw [if_neg j4] at h; cases h
             · rw [if_neg k4] at h
               by_cases j4 : j = 4
               · rw [if_pos j4] at h; cases h
               · rw [if_neg j4] at h
                 injection h with h1 h2 h3
                 rw [h1, h2, h3]
theorem zsc {s : Sto} (hs : OKS s) (hc : ClV (VS s)) {t u : Tm} {f g : Int} (f0 : 0 ≤ f) (g0 : 0 ≤ g) (ft : validB t = true → Fit f.toNat t) (fu : validB u = true → Fit g.toNat u) (h1 : (FullV s f t).2.2 = 0) (h2 : (FullV s g u).2.2 = 0) (h : Eqv (VS s) (toL t) (toL u)) :
  (FullV s f t).1 = (FullV s g u).1 := by
 have key : ∀ {t : Tm} {f : Int}, 0 ≤ f → (validB t = true → Fit f.toNat t) → (FullV s f t).2.2 = 0 → NfL (VS s) (toL (FullV s f t).1) := fun {t f} f0 ft he => by
  have ok := z3g hs ft he
  unfold FullV at he ⊢
  split at he
  · rename_i hv
    rw [if_pos hv]
    split at he
    · rename_i q
      rw [if_pos q]
      have nf := zno hs f.toNat f t (Nat.le_refl _) f0 hv (ft hv) q
      have fo := z3h hs f.toNat f t (Nat.le_refl _) f0 hv (ft hv) q
      have ok2 := z02 _ fo.1.1
      exact (nf_of _ (zcj fo.1.1) (z9d _ ok2 nf.1) (znz s _ ok2 nf.1 nf.2.1).1 (zf9 _ ok2)).1
    · rename_i q; exact absurd he q
  · cases he
 refine toL_inj _ _ (z3g hs ft h1).2.1 (z3g hs fu h2).2.1 ?_
 have e1 := Eqv.of (zcm hs f0 ft h1)
 have e2 := Eqv.of (zcm hs g0 fu h2)
 exact ((e1.symm.trans hc h).trans hc e2).nf (key f0 ft h1) (key g0 fu h2)
end Go.AM

set_option maxRecDepth 100000
open Go Go.Proofs
namespace Go.AM
def inP (s : Sto) (k n : Int) : Bool := decide (k ≠ 4) || inB s.V n
def lvP (s : Sto) (L : Int) (k n : Int) : Bool := if k = 4 then inB s.V n && decide ((infOf s.V n).lv ≤ L) else decide (n ≤ L)
structure LvS (s : Sto) : Prop where
 val : ∀ x : Int, (infOf s.V x).bd = true → wG (lvP s (infOf s.V x).lv) (infOf s.V x).v 0 = true
 nn : LV0 s
theorem lvP_in {s : Sto} {L : Int} (k n : Int) (h : k = 4 → lvP s L k n = true) : inP s k n = true := by
 unfold inP
 by_cases q : k = 4
 · have := h q
   unfold lvP at this
   rw [if_pos q, Bool.and_eq_true] at this
   rw [this.1, Bool.or_true]
 · simp [q]
theorem wG_in {s : Sto} {L : Int} {t : Tm} {d e : Int} (hd : d ≤ e) (h : wG (lvP s L) t d = true) : wG (inP s) t e = true := z8n (fun k n h => lvP_in k n fun _ => h) t hd h
theorem lvP_le {s : Sto} {L M : Int} (h : L ≤ M) (k n : Int) (hk : lvP s L k n = true) : lvP s M k n = true := by
 unfold lvP at hk ⊢
 split
 · rename_i q
   rw [if_pos q, Bool.and_eq_true] at hk
   rw [hk.1, Bool.true_and]
   have := of_decide_eq_true hk.2
   exact decide_eq_true (by omega)
 · rename_i q
   rw [if_neg q] at hk
   have := of_decide_eq_true hk
   exact decide_eq_true (by omega)
theorem LvS.sgL {s : Sto} (h : LvS s) (L : Int) : SG (lvP s L) s := fun x hx hb => by
 unfold lvP at hx
 rw [if_pos rfl, Bool.and_eq_true] at hx
 have := of_decide_eq_true hx.2
 exact z8n (lvP_le this) _ (Int.le_refl _) (h.val x hb)
theorem LvS.sgI {s : Sto} (h : LvS s) : SG (inP s) s := fun x _ hb => wG_in (Int.le_refl _) (h.val x hb)
theorem z3a {V : List Inf} {x : Int} : inB V x = true ↔ 0 ≤ x ∧ x < (V.length : Int) := by simp [inB]
def Keeps (s s' : Sto) : Prop := ∀ x : Int, inB s.V x = true → inB s'.V x = true ∧ (infOf s'.V x).lv = (infOf s.V x).lv
theorem Keeps.refl (s : Sto) : Keeps s s := fun _ h => ⟨h, rfl⟩
theorem Keeps.trans {a b c : Sto} (h1 : Keeps a b) (h2 : Keeps b c) : Keeps a c := fun x h => by
 have a1 := h1 x h
 have a2 := h2 x a1.1
 exact ⟨a2.1, a2.2.trans a1.2⟩
theorem Keeps.fresh (s : Sto) (lv : Int) : Keeps s (freshS s lv) := fun x h => by
 have h0 := z3a.1 h
 exact ⟨z3a.2 ⟨h0.1, by rw [(zai s lv).1]; omega⟩, by rw [z4k h0.1 h0.2]⟩
theorem Keeps.bind (s : Sto) (x : Int) (t : Tm) : Keeps s (bindS s x t) := fun y h => by
 have h0 := z3a.1 h
 refine ⟨z3a.2 ⟨h0.1, by rw [z1y]; exact h0.2⟩, ?_⟩
 rcases z9y (s := s) (y := x) (t := t) h0.1 h0.2 with h2 | ⟨h2, h3⟩
 · rw [h2]
 · rw [h3, h2]
theorem Chg.keeps {s s' : Sto} (h : Chg s s') : Keeps s s' := by
 induction h with
 | refl => exact .refl _
 | fresh lv _ ih => exact ih.trans (.fresh _ _)
 | bind x t _ ih => exact ih.trans (.bind _ _ _)
theorem Keeps.lvP {s s' : Sto} (h : Keeps s s') (L k n : Int) (hk : lvP s L k n = true) : lvP s' L k n = true := by
 unfold Go.AM.lvP at hk ⊢
 split
 · rename_i q
   rw [if_pos q, Bool.and_eq_true] at hk
   have := h n hk.1
   rw [this.1, this.2, hk.2]; rfl
 · rename_i q; rw [if_neg q] at hk; exact hk
theorem Keeps.inP {s s' : Sto} (h : Keeps s s') (k n : Int) (hk : inP s k n = true) : inP s' k n = true := by
 unfold Go.AM.inP at hk ⊢
 rw [Bool.or_eq_true] at hk ⊢
 exact hk.imp id fun q => (h n q).1
theorem LvS.fresh {s : Sto} (h : LvS s) (lv : Int) : LvS (freshS s lv) := by
 refine ⟨fun x hb => ?_, h.nn.fresh lv⟩
 by_cases hx : inB s.V x = true
 · have h0 := z3a.1 hx
   rw [z4k h0.1 h0.2] at hb ⊢
   exact z8n ((Keeps.fresh s lv).lvP _) _ (Int.le_refl _) (h.val x hb)
 · exfalso
   by_cases q : 0 ≤ x ∧ x < ((freshS s lv).V.length : Int)
   · obtain ⟨hl, e⟩ := z1k q.1 q.2
     have hq : x = (s.V.length : Int) := by
      have h1 := (zai s lv).1
      have : ¬ (0 ≤ x ∧ x < (s.V.length : Int)) := fun w => hx (z3a.2 w)
      omega
     have : (infOf (freshS s lv).V x) = ⟨z0i [lv, 0], false, noT⟩ := by
      rw [e]
      simp only [freshS] at hl ⊢
      have e2 : x.toNat = s.V.length := by omega
      simp [e2]
     rw [this] at hb; cases hb
   · rw [z1n q] at hb; cases hb
theorem LvS.bind {s : Sto} (h : LvS s) (x : Int) (t : Tm) (ht : z3z s x t = true → wG (lvP s (infOf s.V x).lv) t 0 = true) : LvS (bindS s x t) := by
 refine ⟨fun y hb => ?_, h.nn.bind x t⟩
 by_cases hy : inB s.V y = true
 · have h0 := z3a.1 hy
   by_cases q : z3z s x t = true
   · rcases z9y (s := s) (y := x) (t := t) h0.1 h0.2 with h2 | ⟨h2, h3⟩
     · rw [h2] at hb ⊢
       exact z8n ((Keeps.bind s x t).lvP _) _ (Int.le_refl _) (h.val y hb)
     · rw [h3]
       exact z8n ((Keeps.bind s x t).lvP _) _ (Int.le_refl _) (ht q)
   · rw [(z49 (by simpa using q)).1] at hb ⊢; exact h.val y hb
 · exfalso
   rw [z1n (by rw [z1y]; exact fun w => hy (z3a.2 w))] at hb; cases hb
theorem z98 {p : Int → Int → Bool} : ∀ (n : Nat) {t : Tm} {d : Int}, wG p t (d + (n : Int)) = true → wG p (z3w n t) d = true
 | 0, t, d, h => by rw [z3w]; rw [show d + ((0 : Nat) : Int) = d by omega] at h; exact h
 | n + 1, t, d, h => by
  rw [z3w]
  refine z98 n (zqv ?_)
  rw [show d + (n : Int) + 1 = d + ((n + 1 : Nat) : Int) by omega]; exact h
theorem zjf (s : Sto) (lv : Int) : infOf (freshS s lv).V (s.V.length : Int) = ⟨z0i [lv, 0], false, noT⟩ ∧ inB (freshS s lv).V (s.V.length : Int) = true := by
 have h1 := (zai s lv).1
 obtain ⟨hl, e⟩ := z1k (V := (freshS s lv).V) (x := (s.V.length : Int)) (by omega) (by omega)
 refine ⟨?_, z3a.2 ⟨by omega, by omega⟩⟩
 rw [e]
 simp [freshS]
theorem LvS.hang {s : Sto} (h : LvS s) (y lv : Int) (m : Nat) {on : List Tm} (hl : z0i [lv, 0] ≤ (infOf s.V y).lv) (ho : ∀ t ∈ on, ∀ s' : Sto, wG (lvP s' (infOf s.V y).lv) t (m : Int) = true) : LvS (z7o s y lv m on) := by
 refine (h.fresh lv).bind y _ fun q => ?_
 have hy := z77 q
 have fi := zjf s lv
 by_cases hn : y < (s.V.length : Int)
 · rw [z4k hy.1 hn]
   refine z98 m ?_
   rw [Int.zero_add]
   refine z1x (zi8 ?_) fun t ht => ho t ht _
   unfold lvP
   rw [if_pos rfl, fi.1, fi.2, Bool.true_and]
   exact decide_eq_true hl
 · have : y = (s.V.length : Int) := by rw [(zai s lv).1] at hy; omega
   subst this
   rw [fi.1]
   have hb : (infOf s.V (s.V.length : Int)) = noI := z1n (by omega)
   refine z98 m ?_
   rw [Int.zero_add]
   refine z1x (zi8 ?_) fun t ht => ?_
   · unfold lvP
     rw [if_pos rfl, fi.1, fi.2, Bool.true_and]
     exact decide_eq_true (Int.le_refl _)
   · have := ho t ht (freshS s lv)
     rw [hb] at this
     exact z8n (lvP_le (by simp only [z0i, List.foldl]; omega)) _ (Int.le_refl _) this
theorem zpw (a b : Int) : z1f [a, b] ≤ a ∧ z1f [a, b] ≤ b := by
 simp only [z1f, List.foldl, min, minOfLe]; split <;> omega
theorem zfe {p : Int → Int → Bool} {t : Tm} {d : Int} (hl : t.k = 3 ∨ t.k = 1) (h3 : t.k = 3 → t.n < d) (h1 : t.k = 1 → p 1 t.n = true) : wG p t d = true := by
 obtain ⟨k, s, n, l⟩ := t
 have hl : k = 3 ∨ k = 1 := hl
 rw [z53]
 refine ⟨?_, fun q => by omega⟩
 unfold gB
 split
 · rename_i q; exact decide_eq_true (h3 q)
 · rename_i q
   have : k = 1 := by omega
   subst this
   rw [show p 1 n = true from h1 rfl, Bool.or_true]
theorem zrj {p : Int → Int → Bool} {lv : Int} {L : List Tm} {t : Tm} {k : Int} (hl : t.k = 3 ∨ t.k = 1) (hk : 0 ≤ k) (hp : ∀ n : Int, n ≤ lv → p 1 n = true) (h : (imgT lv L t k).2 = true) : wG p (imgT lv L t k).1 (k + (L.length : Int)) = true := by
 unfold imgT at h ⊢
 split
 · rename_i q
   exact zfe hl (fun _ => by show t.n < _; omega) (fun e => absurd (q.1.symm.trans e) (by decide))
 · rename_i q
   rw [if_neg q] at h
   split
   · rename_i q2; exact wG_bV (by omega)
   · rename_i q2
     rw [if_neg q2] at h
     simp only [Bool.and_eq_true, beq_iff_eq, decide_eq_true_eq] at h
     exact zfe hl (fun e => absurd (e.symm.trans h.1) (by decide)) (fun _ => hp _ h.2)
theorem zlc {p : Int → Int → Bool} (lv : Int) (L : List Tm) (k : Int) (m : Nat) (hk : 0 ≤ k) (hp : ∀ n : Int, n ≤ lv → p 1 n = true) : ∀ (l : List Tm) (i : Nat) (a : List Tm × List Tm), (∀ t ∈ l, t.k = 3 ∨ t.k = 1) → (∀ t ∈ a.2, wG p t (k + (L.length : Int)) = true) → ∀ t ∈ (imgs lv L k m l i a).2, wG p t (k + (L.length : Int)) = true
 | [], _, _, _, h => h
 | t :: l, i, a, hl, h => by
  rw [imgs]
  refine zlc lv L k m hk hp l (i + 1) _ (fun u hu => hl u (List.mem_cons_of_mem _ hu)) ?_
  split
  · rename_i q
    intro u hu
    rcases List.mem_append.1 hu with hu | hu
    · exact h u hu
    · rw [List.mem_singleton.1 hu]; exact zrj (hl t List.mem_cons_self) hk hp q
  · exact h
theorem zof {p : Int → Int → Bool} (lv : Int) (L : List Tm) (k : Int) (m : Nat) : ∀ (l : List Tm) (i : Nat) (a : List Tm × List Tm), i + l.length ≤ m → (∀ t ∈ a.1, wG p t (m : Int) = true) → ∀ t ∈ (imgs lv L k m l i a).1, wG p t (m : Int) = true
 | [], _, _, _, h => h
 | t :: l, i, a, hi, h => by
  rw [imgs]
  simp only [List.length_cons] at hi
  refine zof lv L k m l (i + 1) _ (by omega) ?_
  split
  · intro u hu
    rcases List.mem_append.1 hu with hu | hu
    · exact h u hu
    · rw [List.mem_singleton.1 hu]; exact wG_bV (by omega)
  · exact h
theorem zn5 {p : Int → Int → Bool} (c : Bool) (lvy k : Int) (n : Nat) {d : Int} (hd : k + (n : Int) ≤ d) : ∀ (l : List Tm) (i : Nat) (a : List Tm × List Tm), (∀ t ∈ a.2, wG p t d = true) → ∀ t ∈ (z4b c lvy k n l i a).2, wG p t d = true
 | [], _, _, h => h
 | t :: l, i, a, h => by
  rw [z4b]
  refine zn5 c lvy k n hd l (i + 1) _ ?_
  split
  · intro u hu
    rcases List.mem_append.1 hu with hu | hu
    · exact h u hu
    · rw [List.mem_singleton.1 hu]; exact wG_bV (by omega)
  · exact h
theorem zo {p : Int → Int → Bool} (c : Bool) (lvy k : Int) (n : Nat) {d : Int} (hp : ∀ n : Int, n ≤ lvy → p 1 n = true) : ∀ (l : List Tm) (i : Nat) (a : List Tm × List Tm), (∀ t ∈ a.1, wG p t d = true) → ∀ t ∈ (z4b c lvy k n l i a).1, wG p t d = true
 | [], _, _, h => h
 | t :: l, i, a, h => by
  rw [z4b]
  refine zo c lvy k n hp l (i + 1) _ ?_
  split
  · rename_i q
    simp only [Bool.and_eq_true, beq_iff_eq, decide_eq_true_eq] at q
    intro u hu
    rcases List.mem_append.1 hu with hu | hu
    · exact h u hu
    · rw [List.mem_singleton.1 hu]; exact zfe (.inr q.2.1) (fun e => absurd (e.symm.trans q.2.1) (by decide)) (fun _ => hp _ q.2.2)
  · exact h
theorem zo9 {s : Sto} {L : Int} (n : Int) (h : n ≤ L) : lvP s L 1 n = true := by unfold lvP; rw [if_neg (by decide)]; exact decide_eq_true h
section
variable {C : Nat} (hC : C ≤ 1073741824) {L : List Tm} (hL : LP L) (x : Int) {lv : Int} (hlv : 0 ≤ lv)
include hlv
theorem lv_flexG {q : IS} (h : LvS q.s) {y k : Int} (hk : 0 ≤ k) (hy : inB q.s.V y = true) {ls : List Tm} (hls : ∀ t ∈ ls, t.k = 3 ∨ t.k = 1) (f : Int) : LvS (z57 lv L q y k ls f).2.s ∧ wG (lvP (z57 lv L q y k ls f).2.s lv) (z57 lv L q y k ls f).1 (k + (L.length : Int)) = true := by
 unfold z57
 split
 · rename_i q1
   refine ⟨h, z1x (zi8 ?_) (zlc lv L k ls.length hk (fun n hn => zo9 n hn) ls 0 ([], []) hls (fun t h => nomatch h))⟩
   unfold lvP
   rw [if_pos rfl, hy, Bool.true_and]
   exact decide_eq_true q1.2
 · have hmin := zpw lv (infOf q.s.V y).lv
   have hy0 := h.nn.of y
   have hle : ∀ L : Int, z1f [lv, (infOf q.s.V y).lv] ≤ L → 0 ≤ L → z0i [z1f [lv, (infOf q.s.V y).lv], 0] ≤ L := fun L h1 h2 => by
    simp only [z0i, List.foldl, max, maxOfLe]; split <;> omega
   refine ⟨h.hang y _ ls.length (hle _ hmin.2 hy0) (fun t ht s' => ?_), ?_⟩
   · exact zo _ _ _ _ (fun n hn => zo9 n hn) L 0 _ (zof lv L k ls.length ls 0 ([], []) (by omega) (fun t h => nomatch h)) t ht
   · have fi := zjf q.s (z1f [lv, (infOf q.s.V y).lv])
     have kb := Keeps.bind (freshS q.s (z1f [lv, (infOf q.s.V y).lv])) y (z79 q.s ls.length (onF lv (infOf q.s.V y).lv L k ls).1) (q.s.V.length : Int) fi.2
     refine z1x (zi8 ?_) (zn5 _ _ _ _ (Int.le_refl _) L 0 _ (zlc lv L k ls.length hk (fun n hn => zo9 n hn) ls 0 ([], []) hls (fun t h => nomatch h)))
     unfold lvP
     rw [if_pos rfl]
     show (inB (z7o q.s y _ ls.length _).V _ && _) = true
     rw [z7o, kb.1, kb.2, fi.1, Bool.true_and]
     exact decide_eq_true (hle lv hmin.1 hlv)
include hC hL
omit hC hL hlv in
theorem ztk {tm : IS → Tm → Tm × IS} {f0 d : Int} (hgi : ∀ q t, GI C q → 0 ≤ q.f → q.f ≤ f0 → (q.e = 0 → validB t = true → Fit q.f.toNat t) → GI C (tm q t).2 ∧ (tm q t).2.f ≤ q.f ∧ 0 ≤ (tm q t).2.f)
  (hch : ∀ q t, Keeps q.s (tm q t).2.s)
  (htm : ∀ q t, GI C q → 0 ≤ q.f → q.f ≤ f0 → (q.e = 0 → validB t = true → Fit q.f.toNat t) → LvS q.s → (∃ e, 0 ≤ e ∧ wG (inP q.s) t e = true) → LvS (tm q t).2.s ∧ wG (lvP (tm q t).2.s lv) (tm q t).1 d = true) :
  ∀ (l : List Tm) (q : IS), GI C q → 0 ≤ q.f → q.f ≤ f0 → (∀ t ∈ l, validB t = true → Fit q.f.toNat t) → LvS q.s → (∀ t ∈ l, ∃ e, 0 ≤ e ∧ wG (inP q.s) t e = true) →
   LvS (z1i tm l q).2.s ∧ Keeps q.s (z1i tm l q).2.s ∧ ∀ t ∈ (z1i tm l q).1, wG (lvP (z1i tm l q).2.s lv) t d = true
 | [], q, _, _, _, _, h, _ => ⟨h, .refl _, fun t ht => nomatch ht⟩
 | t :: l, q, h, h0, h1, hl, ho, hv => by
  have a := hgi q t h h0 h1 (fun _ => hl t List.mem_cons_self)
  have b := htm q t h h0 h1 (fun _ => hl t List.mem_cons_self) ho (hv t List.mem_cons_self)
  have c := hch q t
  have r := ztk hgi hch htm l (tm q t).2 a.1 a.2.2 (by omega) (fun u hu hv => (hl u (List.mem_cons_of_mem _ hu) hv).mono (by omega)) b.1 (fun u hu => by
   obtain ⟨e, he, hw⟩ := hv u (List.mem_cons_of_mem _ hu)
   exact ⟨e, he, z8n c.inP _ (Int.le_refl _) hw⟩)
  refine ⟨r.1, c.trans r.2.1, fun u hu => ?_⟩
  rcases List.mem_cons.1 hu with rfl | hu
  · exact z8n (r.2.1.lvP lv) _ (Int.le_refl _) b.2
  · exact r.2.2 u hu
theorem zr0 : ∀ (D : Nat) (q : IS) (t : Tm) (k : Int), GI C q → 0 ≤ q.f → (q.e = 0 → validB t = true → Fit q.f.toNat t) → LvS q.s → (∃ e, 0 ≤ e ∧ wG (inP q.s) t e = true) → 0 ≤ k →
  LvS (z0c x lv L D q t k).2.s ∧ wG (lvP (z0c x lv L D q t k).2.s lv) (z0c x lv L D q t k).1 (k + (L.length : Int)) = true
 | 0, q, t, k, h, h0, _, ho, _, _ => by
  rw [z0c]
  split
  · exact ⟨ho, z4h⟩
  · unfold z2f; split <;> exact ⟨ho, z4h⟩
 | D + 1, q, t, k, h, h0, hf, ho, ht, hk => by
  have bad : ∀ q : IS, LvS q.s → ∀ e : Int, LvS (z2f q e).s ∧ wG (lvP (z2f q e).s lv) noT (k + (L.length : Int)) = true := fun q hq e => by
   unfold z2f; split <;> exact ⟨hq, z4h⟩
  rw [z0c]
  split
  · exact ⟨ho, z4h⟩
  rename_i q1
  have e0 : q.e = 0 := by simpa using q1
  split
  · exact bad q ho _
  rename_i hf0
  have hfit : validB t = true → Fit (q.f - 1).toNat t := fun hv => (hf e0 hv).mono (by omega)
  unfold zdo
  split
  · exact bad q ho _
  rename_i hz
  obtain ⟨e, he, hw⟩ := ht
  have ok := z5z h.ok (by omega) hfit (by simpa using hz)
  have hv := split_wG (headV_wG ho.sgI (f := q.f - 1) he hw)
  generalize z1l q.s (q.f - 1) t = z at *
  obtain ⟨z1, z2, z3⟩ := z
  dsimp only at ok hv ⊢
  obtain ⟨hval, hfz, hz0, hz1⟩ := ok
  have sp := z85 ⟨hval, hfz⟩
  have g : GI C ⟨q.s, z2, q.e⟩ := h.less hz0 (by omega)
  have ih := fun q' t' k' => zr0 D q' t' k'
  have gi := fun q' t' k' => z6n hC hL x lv D q' t' k'
  unfold z4r
  split
  · rename_i h5
    have hne : (z03 z1).1.l ≠ [] := fun e => by
     have o := z02 _ sp.1.1
     generalize (z03 z1).1 = w at *
     obtain ⟨wk, ws, wn, wl⟩ := w
     obtain ⟨u, hu, _⟩ := okB5 o h5
     rw [hu] at e; cases e
    have hm : hd (z03 z1).1.l ∈ (z03 z1).1.l := zn0 hne
    have r := ih ⟨q.s, z2, q.e⟩ (hd (z03 z1).1.l) (k + 1) g hz0 (fun _ _ => sp.1.2.kid hm) ho ⟨e + 1, by omega, zfl hv.1 h5 hm⟩ (by omega)
    exact ⟨r.1, z98 1 (by rw [show k + (L.length : Int) + ((1 : Nat) : Int) = k + 1 + (L.length : Int) by omega]; exact r.2)⟩
  split
  · rename_i h4
    split
    · exact bad ⟨q.s, z2, q.e⟩ ho _
    have ha := z40 g.ok (z03 z1).1.n (z03 z1).2 z2 (fun t ht _ => (sp.2.1 t ht).2)
    unfold z2s
    split
    · exact bad ⟨q.s, z2, q.e⟩ ho _
    rename_i hr
    have hr : (z0o q.s (z03 z1).1.n (z03 z1).2 z2).2.2 = 0 := by simpa using hr
    exact lv_flexG hlv (q := ⟨q.s, z2, q.e⟩) ho hk (ha.2.1 hz0 hr).2.2 (fun t ht => (ha.1 t ht).2.1) _
  · rename_i h4
    unfold zd1
    split
    · exact bad ⟨q.s, z2, q.e⟩ ho _
    rename_i hi
    have kk := ztk (C := C) (lv := lv) (d := k + (L.length : Int)) (tm := fun q t => z0c x lv L D q t k) (f0 := z2) (fun q' t' a b _ d => gi q' t' k a b d) (fun q' t' => (z4y x lv L D q' t' k .refl).keeps) (fun q' t' a b _ d e f => ih q' t' k a b d e f hk) (z03 z1).2 ⟨q.s, z2, q.e⟩ g hz0 (Int.le_refl _) (fun t ht _ => (sp.2.1 t ht).2) ho (fun t ht => ⟨e, he, hv.2 t ht⟩)
    refine ⟨kk.1, z1x ?_ kk.2.2⟩
    split
    · rename_i h31
      refine zrj h31 hk (fun n hn => zo9 n hn) ?_
      by_cases c : (imgT lv L (z03 z1).1 k).2 = true
      · exact c
      · exact absurd ⟨h31, by simpa using c⟩ hi
    · rename_i h5 h31
      have h6 : (z03 z1).1.k ≠ 6 := by
       unfold z03
       split
       · rename_i h6
         obtain ⟨zk, zs, zn, zl⟩ := z1
         obtain ⟨a, b, r, rfl, ha6, _⟩ := okB6 (z02 _ hval) h6.1
         exact ha6
       · rename_i h6
         exact fun q => h6 ⟨q, hval⟩
      generalize (z03 z1).1 = w at *
      obtain ⟨wk, ws, wn, wl⟩ := w
      have h5 : ¬ wk = 5 := h5
      have h4 : ¬ wk = 4 := h4
      have h6 : ¬ wk = 6 := h6
      have h31 : ¬ (wk = 3 ∨ wk = 1) := h31
      rw [z53]
      exact ⟨zn2 (by omega) h4 (by omega), fun q => by omega⟩
end
end Go.AM

set_option maxRecDepth 100000
open Go Go.Proofs
namespace Go.AM
def PV (s : Sto) (t : Tm) : Prop := ∃ e : Int, 0 ≤ e ∧ wG (inP s) t e = true
theorem zue {C : Nat} (hC : C ≤ 1073741824) {s : Sto} (hs : OKS s) {f : Int} (h0 : 0 ≤ f) (hf : f ≤ 157) (hV : s.V.length + f.toNat ≤ C) (hT : s.T.length + f.toNat ≤ C) (h : LvS s) (x : Int) {l : List Tm} (hl : l.length ≤ 157) {t : Tm} (hfit : validB t = true → Fit f.toNat t) (ht : PV s t) : LvS (invertF s x l t f).2 ∧ ((invertF s x l t f).1.2.2 = 0 → wG (lvP (invertF s x l t f).2 (infOf (invertF s x l t f).2.V x).lv) (invertF s x l t f).1.1 0 = true) := by
 have kp := (zpz (Chg.refl (s0 := s)) x l t f).keeps
 unfold invertF at kp ⊢
 split
 · exact ⟨h, fun e => by cases e⟩
 · rename_i hc
   simp only [Bool.or_eq_true, not_or] at hc
   have hx : inB s.V x = true := by have := hc.1.1.1; simpa using this
   have hlf : ∀ u ∈ l, z2b u = true := fun u hu => by have := List.any_eq_false.1 (by simpa using hc.2 : (l.any fun u => !z2b u) = false) u hu; simpa using this
   have hL : LP l := ⟨by omega, fun u hu => (z35 (hlf u hu)).1⟩
   have r := zr0 hC hL x (lv := (infOf s.V x).lv) (h.nn.of x) f.toNat ⟨s, f, 0⟩ t 0 ⟨hs, hV, hT, by simp only; omega, by simp only; omega⟩ h0 (fun _ => hfit) h ht (Int.le_refl _)
   rw [if_neg (by simp only [Bool.or_eq_true, not_or]; exact hc)] at kp
   split
   · exact ⟨r.1, fun e => absurd e (by assumption)⟩
   · rename_i q
     rw [if_neg q] at kp
     refine ⟨r.1, fun _ => z98 _ ?_⟩
     rw [(kp x hx).2]
     exact r.2
end Go.AM

set_option maxRecDepth 100000
open Go Go.Proofs
namespace Go.AM
def La.wk (g : Nat → Nat → La) : La → Nat → La
 | .con k n s, _ => .con k n s
 | .var x, _ => .var x
 | .bv n, d => g n d
 | .lam b, d => .lam (La.wk g b (d + 1))
 | .app f a, d => .app (La.wk g f d) (La.wk g a d)
def gs (ys : List La) (n d : Nat) : La := if n < d then .bv n else if n < d + ys.length then (ys.getD (ys.length - 1 - (n - d)) laD).sh d 0 else .bv (n - ys.length)
theorem zc0 (g : Nat → Nat → La) (d : Nat) : ∀ (l : List La) (f : La), (apps f l).wk g d = apps (f.wk g d) (l.map fun a => a.wk g d)
 | [], f => rfl
 | a :: l, f => by rw [z2x, zc0 g d l, List.map_cons, z2x]; rfl
theorem wk_sh (r : List La) : ∀ (a : La) (d e : Nat), (a.sh (d + r.length) e).wk (gs r) (d + e) = a.sh d e
 | .con _ _ _, _, _ => rfl
 | .var _, _, _ => rfl
 | .bv n, d, e => by
  by_cases h : n < e
  · rw [La.sh, if_pos h, La.wk, La.sh, if_pos h, gs, if_pos (by omega)]
  · rw [La.sh, if_neg h, La.wk, La.sh, if_neg h, gs, if_neg (by omega), if_neg (by omega)]
    congr 1; omega
 | .lam b, d, e => by rw [La.sh, La.wk, La.sh, show d + e + 1 = d + (e + 1) by omega, wk_sh r b d (e + 1)]
 | .app f a, d, e => by rw [La.sh, La.wk, La.sh, wk_sh r f d e, wk_sh r a d e]
theorem zmg (a : La) (r : List La) : ∀ (b : La) (d : Nat), (b.sub (a.sh (d + r.length) 0) (d + r.length)).wk (gs r) d = b.wk (gs (a :: r)) d
 | .con _ _ _, _ => rfl
 | .var _, _ => rfl
 | .bv n, d => by
  rw [La.sub, La.wk]
  by_cases h1 : n < d + r.length
  · rw [if_pos h1, La.wk, gs, gs]
    by_cases h2 : n < d
    · rw [if_pos h2, if_pos h2]
    · rw [if_neg h2, if_neg h2, if_pos h1, if_pos (by rw [List.length_cons]; omega)]
      congr 1
      rw [List.length_cons, show r.length + 1 - 1 - (n - d) = (r.length - 1 - (n - d)) + 1 by omega, List.getD_cons_succ]
  · rw [if_neg h1]
    by_cases h2 : n = d + r.length
    · rw [if_pos h2, gs, if_neg (by omega), if_pos (by rw [List.length_cons]; omega)]
      have := wk_sh r a d 0
      rw [Nat.add_zero] at this
      rw [this, List.length_cons, show r.length + 1 - 1 - (n - d) = 0 by omega, List.getD_cons_zero]
    · rw [if_neg h2, La.wk, gs, gs, if_neg (by omega), if_neg (by omega), if_neg (by omega), if_neg (by rw [List.length_cons]; omega)]
      congr 1
      rw [List.length_cons]; omega
 | .lam b, d => by
  rw [La.sub, La.wk, La.wk, La.sh_succ a (d + r.length) 0 0 (Nat.le_refl _) (by omega)]
  have := zmg a r b (d + 1)
  rw [show d + 1 + r.length = d + r.length + 1 by omega] at this
  rw [this]
 | .app f x, d => by rw [La.sub, La.wk, La.wk, zmg a r f d, zmg a r x d]
theorem zo3 : ∀ (b : La) (d : Nat), b.wk (gs []) d = b
 | .con _ _ _, _ => rfl
 | .var _, _ => rfl
 | .bv n, d => by
  rw [La.wk, gs]
  split
  · rfl
  · rw [if_neg (by simp; omega)]; rfl
 | .lam b, d => by rw [La.wk, zo3 b]
 | .app f a, d => by rw [La.wk, zo3 f, zo3 a]
def za : Nat → La → La
 | 0, b => b
 | n + 1, b => .lam (za n b)
theorem zma : ∀ (n : Nat) (b : La), za n (.lam b) = .lam (za n b)
 | 0, _ => rfl
 | n + 1, b => by rw [za, zma n]; rfl
theorem zbg : ∀ (n : Nat) (t : Tm), toL (z3w n t) = za n (toL t)
 | 0, _ => rfl
 | n + 1, t => by
  rw [z3w, zbg n, z1c, zma]; rfl
theorem zmw (u : La) : ∀ (m : Nat) (b : La) (k : Nat), (za m b).sub (u.sh k 0) k = za m (b.sub (u.sh (k + m) 0) (k + m))
 | 0, _, _ => rfl
 | m + 1, b, k => by
  rw [za, La.sub, La.sh_succ u k 0 0 (Nat.le_refl _) (by omega), zmw u m b (k + 1), za]
  rw [show k + 1 + m = k + (m + 1) by omega]
theorem zdj {V : Int → Option La} : ∀ (ys : List La) (b : La), Sts V (apps (za ys.length b) ys) (b.wk (gs ys) 0)
 | [], b => by rw [zo3]; exact .refl _
 | a :: r, b => by
  have h1 : Sts V (.app (.lam (za r.length b)) a) (za r.length (b.sub (a.sh r.length 0) r.length)) := by
   have := Sts.beta (V := V) (za r.length b) a
   have e := zmw a r.length b 0
   rw [La.sh_zero, Nat.zero_add] at e
   rw [e] at this; exact this
  have h2 := zdj (V := V) r (b.sub (a.sh r.length 0) r.length)
  have e := zmg a r b 0
  rw [Nat.zero_add] at e
  rw [e] at h2
  exact (Sts.apps r h1).trans h2
def SubV (V W : Int → Option La) : Prop := ∀ x v, V x = some v → W x = some v
theorem SubV.refl (V : Int → Option La) : SubV V V := fun _ _ h => h
theorem SubV.trans {U V W : Int → Option La} (h1 : SubV U V) (h2 : SubV V W) : SubV U W := fun x v h => h2 x v (h1 x v h)
theorem Be.more {V W : Int → Option La} (h : SubV V W) {a b : La} (hb : Be V a b) : Be W a b := by
 induction hb with
 | con => exact .con _ _ _
 | var => exact .var _
 | bv => exact .bv _
 | del hx => exact .del (h _ _ hx)
 | lam _ ih => exact .lam ih
 | app _ _ h1 h2 => exact .app h1 h2
 | beta _ _ h1 h2 => exact .beta h1 h2
theorem Sts.more {V W : Int → Option La} (h : SubV V W) {a b : La} (hs : Sts V a b) : Sts W a b := by
 induction hs with
 | refl => exact .refl _
 | step h1 _ ih => exact .step (h1.imp (fun x => x.more h) id) ih
theorem zst (s : Sto) (lv : Int) : SubV (VS s) (VS (freshS s lv)) := fun x v h => by
 unfold VS at h ⊢
 by_cases hb : (infOf s.V x).bd = true
 · rw [if_pos hb] at h
   have hx : 0 ≤ x ∧ x < (s.V.length : Int) := by
    by_cases q : 0 ≤ x ∧ x < (s.V.length : Int)
    · exact q
    · rw [z1n q] at hb; cases hb
   rw [z4k hx.1 hx.2, if_pos hb]; exact h
 · rw [if_neg hb] at h; cases h
theorem sub_bind (s : Sto) (x : Int) (t : Tm) : SubV (VS s) (VS (bindS s x t)) := fun y v h => by
 unfold VS at h ⊢
 by_cases hb : (infOf s.V y).bd = true
 · rw [if_pos hb] at h
   have hy : 0 ≤ y ∧ y < (s.V.length : Int) := by
    by_cases q : 0 ≤ y ∧ y < (s.V.length : Int)
    · exact q
    · rw [z1n q] at hb; cases hb
   by_cases q : z3z s x t = true
   · rcases z9y (s := s) (y := x) (t := t) hy.1 hy.2 with h2 | ⟨h2, _⟩
     · rw [h2, if_pos hb]; exact h
     · exfalso
       have q' := q
       simp only [z3z, Bool.and_eq_true] at q'
       rw [h2] at hb
       have := q'.2.1
       rw [hb] at this; cases this
   · rw [(z49 (by simpa using q)).1, if_pos hb]; exact h
 · rw [if_neg hb] at h; cases h
theorem Chg.sub {s s' : Sto} (h : Chg s s') : SubV (VS s) (VS s') := by
 induction h with
 | refl => exact .refl _
 | fresh lv _ ih => exact ih.trans (zst _ _)
 | bind x t _ ih => exact ih.trans (sub_bind _ _ _)
theorem VS_bind {s : Sto} {x : Int} {t : Tm} (h : z3z s x t = true) : VS (bindS s x t) x = some (toL t) := by
 have hx := z77 h
 obtain ⟨hl, e⟩ := z1k (V := (bindS s x t).V) hx.1 (by rw [z1y]; exact hx.2)
 unfold VS
 have : infOf (bindS s x t).V x = ⟨(infOf s.V x).lv, true, t⟩ := by
  rw [e]
  simp only [(z25 h).1, List.getElem_set_self]
 rw [this]; rfl
theorem zkc (p : Tm → Bool) : ∀ (l : List Tm) (i : Nat), ixF p l i ≥ 0 → ∃ j : Nat, ∃ h : j < l.length, ixF p l i = (i : Int) + (j : Int) ∧ p l[j] = true
 | [], i, h => by simp only [ixF] at h; omega
 | t :: l, i, h => by
  rw [ixF] at h ⊢
  split at h
  · rename_i q
    rw [if_pos q]
    exact ⟨0, by simp, by omega, q⟩
  · rename_i q
    rw [if_neg q]
    obtain ⟨j, hj, e, hp⟩ := zkc p l (i + 1) h
    exact ⟨j + 1, by simp only [List.length_cons]; omega, by rw [e]; omega, hp⟩
def IsLf (t : Tm) : Prop := ∃ n : Int, t = .mk 3 [] n [] ∧ 0 ≤ n ∨ t = .mk 1 [] n []
theorem zki {t : Tm} (hv : validB t = true) (hk : t.k = 3 ∨ t.k = 1) : IsLf t := by
 obtain ⟨k, s, n, l⟩ := t
 have hk : k = 3 ∨ k = 1 := hk
 have hl : l = [] := okB0 (z02 _ hv) (by omega) (by omega)
 subst hl
 rcases hk with rfl | rfl
 · have := z5o hv (by omega)
   exact ⟨n, .inl ⟨by rw [this.1], this.2.1 (by omega)⟩⟩
 · rw [validB, if_neg (by decide), if_pos (by decide)] at hv
   simp only [Bool.and_eq_true, beq_iff_eq] at hv
   exact ⟨n, .inr (by rw [hv.1.1.2])⟩
theorem zfn {n : Int} : toL (.mk 1 [] n []) = .con 1 n [] := by
 rw [toL, mkL, if_neg (by decide), if_neg (by decide), if_neg (by decide), if_neg (by decide)]
theorem gs_at {L : List Tm} {j k : Nat} (hj : j < L.length) : gs (toLs L) (k + L.length - 1 - j) k = (toL L[j]).sh k 0 := by
 have hl : (toLs L).length = L.length := by rw [z6o, List.length_map]
 rw [gs, hl, if_neg (by omega), if_pos (by omega), show L.length - 1 - (k + L.length - 1 - j - k) = j by omega, z6o]
 congr 1
 simp [List.getD, hj]
theorem wk_img {lv : Int} {L : List Tm} (hL : ∀ u ∈ L, IsLf u) {t : Tm} (ht : IsLf t) (k : Nat) (h : (imgT lv L t (k : Int)).2 = true) : (toL (imgT lv L t (k : Int)).1).wk (gs (toLs L)) k = toL t := by
 unfold imgT at h ⊢
 split
 · rename_i q
   obtain ⟨n, ⟨rfl, h0⟩ | rfl⟩ := ht
   · have q2 : n < (k : Int) := q.2
     show (toL (.mk 3 [] n [])).wk _ _ = toL (.mk 3 [] n [])
     rw [z1s, La.wk, gs, if_pos (by omega)]
   · exact absurd q.1 (by show ¬ (1 : Int) = 3; decide)
 · rename_i q
   rw [if_neg q] at h
   split
   · rename_i q2
     obtain ⟨j, hj, e, hp⟩ := zkc _ L 0 q2
     rw [e]
     show (toL (.mk 3 [] ((k : Int) + (L.length : Int) - 1 - (((0 : Nat) : Int) + (j : Int))) [])).wk _ _ = _
     rw [z1s, La.wk, show ((k : Int) + (L.length : Int) - 1 - (((0 : Nat) : Int) + (j : Int))).toNat = k + L.length - 1 - j by omega, gs_at hj]
     simp only [lfB, Bool.and_eq_true, beq_iff_eq] at hp
     obtain ⟨m, hm⟩ := hL L[j] (List.getElem_mem hj)
     obtain ⟨n, hn⟩ := ht
     rcases hn with ⟨rfl, h0⟩ | rfl
     · have eo : outT (.mk 3 [] n []) (k : Int) = .mk 3 [] (n - k) [] := if_pos rfl
       rw [eo] at hp
       rcases hm with ⟨hm, _⟩ | hm
       · rw [hm] at hp ⊢
         have e2 : m = n - (k : Int) := hp.2
         have q3 : ¬ n < (k : Int) := fun w => q ⟨rfl, w⟩
         rw [z1s, z1s, La.sh, if_neg (by omega)]
         congr 1; omega
       · rw [hm] at hp
         exact absurd hp.1 (by show ¬ (1 : Int) = 3; decide)
     · have eo : outT (.mk 1 [] n []) (k : Int) = .mk 1 [] n [] := if_neg (by show ¬ (1 : Int) = 3; decide)
       rw [eo] at hp
       rcases hm with ⟨hm, _⟩ | hm
       · rw [hm] at hp
         exact absurd hp.1 (by show ¬ (3 : Int) = 1; decide)
       · rw [hm] at hp ⊢
         have e2 : m = n := hp.2
         subst e2
         rw [zfn]; rfl
   · rename_i q2
     rw [if_neg q2] at h
     simp only [Bool.and_eq_true, beq_iff_eq] at h
     obtain ⟨n, ⟨rfl, _⟩ | rfl⟩ := ht
     · exact absurd h.1 (by show ¬ (3 : Int) = 1; decide)
     · rw [zfn]; rfl
def im1 (lv : Int) (L : List Tm) (k : Int) (m : Nat) : List Tm → Nat → List Tm
 | [], _ => []
 | t :: l, i => if (imgT lv L t k).2 = true then bV3 ((m : Int) - 1 - (i : Int)) :: im1 lv L k m l (i + 1) else im1 lv L k m l (i + 1)
def im2 (lv : Int) (L : List Tm) (k : Int) : List Tm → List Tm
 | [] => []
 | t :: l => if (imgT lv L t k).2 = true then (imgT lv L t k).1 :: im2 lv L k l else im2 lv L k l
def kpt (lv : Int) (L : List Tm) (k : Int) (l : List Tm) : List Tm := l.filter fun t => (imgT lv L t k).2
theorem zcv (lv : Int) (L : List Tm) (k : Int) (m : Nat) : ∀ (l : List Tm) (i : Nat) (a : List Tm × List Tm), imgs lv L k m l i a = (a.1 ++ im1 lv L k m l i, a.2 ++ im2 lv L k l)
 | [], i, a => by rw [imgs, im1, im2, List.append_nil, List.append_nil]
 | t :: l, i, a => by
  rw [imgs, zcv lv L k m l, im1, im2]
  split
  · simp
  · rfl
theorem zle (lv : Int) (L : List Tm) (k : Int) (m : Nat) : ∀ (l : List Tm) (i : Nat), (im1 lv L k m l i).length = (kpt lv L k l).length
 | [], _ => rfl
 | t :: l, i => by
  rw [im1, kpt, List.filter_cons]
  split
  · rw [List.length_cons, List.length_cons, zle lv L k m l (i + 1)]; rfl
  · exact zle lv L k m l (i + 1)
theorem zut {lv : Int} {L : List Tm} (hL : ∀ u ∈ L, IsLf u) (k : Nat) : ∀ l : List Tm, (∀ t ∈ l, IsLf t) → (toLs (im2 lv L (k : Int) l)).map (fun a => a.wk (gs (toLs L)) k) = toLs (kpt lv L (k : Int) l)
 | [], _ => rfl
 | t :: l, h => by
  have ih := zut (lv := lv) hL k l fun u hu => h u (List.mem_cons_of_mem _ hu)
  rw [im2, kpt, List.filter_cons]
  split
  · rename_i q
    rw [toLs, List.map_cons, ih, wk_img hL (h t List.mem_cons_self) k q, toLs]; rfl
  · exact ih
theorem wk_im1 (lv : Int) (L : List Tm) (k : Int) (ls : List Tm) : ∀ (l pre : List Tm), ls = pre ++ l → (toLs (im1 lv L k ls.length l pre.length)).map (fun a => a.wk (gs (toLs ls)) 0) = toLs (kpt lv L k l)
 | [], _, _ => rfl
 | t :: l, pre, hl => by
  have ih := wk_im1 lv L k ls l (pre ++ [t]) (by rw [hl]; simp)
  rw [show (pre ++ [t]).length = pre.length + 1 by simp] at ih
  rw [im1, kpt, List.filter_cons]
  split
  · have hj : pre.length < ls.length := by rw [hl]; simp
    have e := gs_at (L := ls) (k := 0) hj
    rw [La.sh_zero, Nat.zero_add] at e
    rw [toLs, List.map_cons, ih, toLs]
    congr 1
    show (toL (.mk 3 [] ((ls.length : Int) - 1 - (pre.length : Int)) [])).wk _ _ = _
    rw [z1s, La.wk, show ((ls.length : Int) - 1 - (pre.length : Int)).toNat = ls.length - 1 - pre.length by omega, e]
    congr 1
    simp [hl]
  · exact ih
def mo1 (c : Bool) (lvy : Int) (l : List Tm) : List Tm := l.filter fun t => c && (t.k == 1 && decide (t.n ≤ lvy))
def mo2 (c : Bool) (lvy k : Int) (n : Nat) : List Tm → Nat → List Tm
 | [], _ => []
 | t :: l, i => if (c && (t.k == 1 && decide (t.n ≤ lvy))) = true then bV3 (k + (n : Int) - 1 - (i : Int)) :: mo2 c lvy k n l (i + 1) else mo2 c lvy k n l (i + 1)
theorem zfg (c : Bool) (lvy k : Int) (n : Nat) : ∀ (l : List Tm) (i : Nat) (a : List Tm × List Tm), z4b c lvy k n l i a = (a.1 ++ mo1 c lvy l, a.2 ++ mo2 c lvy k n l i)
 | [], i, a => by rw [z4b, mo1, mo2, List.filter_nil, List.append_nil, List.append_nil]
 | t :: l, i, a => by
  rw [z4b, zfg c lvy k n l, mo1, mo1, List.filter_cons, mo2]
  split
  · simp
  · rfl
theorem wk_mo2 {L : List Tm} (hL : ∀ u ∈ L, IsLf u) (c : Bool) (lvy : Int) (k : Nat) : ∀ (l pre : List Tm), L = pre ++ l → (toLs (mo2 c lvy (k : Int) L.length l pre.length)).map (fun a => a.wk (gs (toLs L)) k) = toLs (mo1 c lvy l)
 | [], _, _ => rfl
 | t :: l, pre, hl => by
  have ih := wk_mo2 hL c lvy k l (pre ++ [t]) (by rw [hl]; simp)
  rw [show (pre ++ [t]).length = pre.length + 1 by simp] at ih
  rw [mo2, mo1, List.filter_cons]
  split
  · rename_i q
    simp only [Bool.and_eq_true, beq_iff_eq] at q
    have hj : pre.length < L.length := by rw [hl]; simp
    have e := gs_at (L := L) (k := k) hj
    rw [toLs, List.map_cons, ih, toLs]
    congr 1
    show (toL (.mk 3 [] ((k : Int) + (L.length : Int) - 1 - (pre.length : Int)) [])).wk _ _ = _
    rw [z1s, La.wk, show ((k : Int) + (L.length : Int) - 1 - (pre.length : Int)).toNat = k + L.length - 1 - pre.length by omega, e]
    have et : L[pre.length] = t := by simp [hl]
    rw [et]
    obtain ⟨n, ⟨rfl, _⟩ | rfl⟩ := hL t (by rw [hl]; simp)
    · exact absurd q.2.1 (by show ¬ (3 : Int) = 1; decide)
    · rw [zfn]; rfl
  · exact ih
theorem wk_mo1 (c : Bool) (lvy : Int) (g : Nat → Nat → La) (d : Nat) : ∀ l : List Tm, (∀ u ∈ l, IsLf u) → (toLs (mo1 c lvy l)).map (fun a => a.wk g d) = toLs (mo1 c lvy l)
 | [], _ => rfl
 | t :: l, h => by
  have ih := wk_mo1 c lvy g d l fun u hu => h u (List.mem_cons_of_mem _ hu)
  unfold mo1 at ih ⊢
  rw [List.filter_cons]
  split
  · rename_i q
    simp only [Bool.and_eq_true, beq_iff_eq] at q
    rw [toLs, List.map_cons, ih]
    obtain ⟨n, ⟨rfl, _⟩ | rfl⟩ := h t List.mem_cons_self
    · exact absurd q.2.1 (by show ¬ (3 : Int) = 1; decide)
    · rw [zfn]; rfl
  · exact ih
end Go.AM

set_option maxRecDepth 100000
open Go Go.Proofs
namespace Go.AM
theorem znn {s : Sto} : ∀ (F : Nat) (t : Tm), (runH s F t).2.1 = 0 → (z0b s (runH s F t).1).2 = 0
 | 0, t, h => by
  rw [runH] at h ⊢
  split
  · rename_i q; exact q
  · rename_i q; rw [if_neg q] at h; cases h
 | F + 1, t, h => by
  rw [runH] at h ⊢
  split
  · rename_i q; exact q
  · rename_i q
    rw [if_neg q] at h
    split
    · rename_i q2; rw [if_pos q2] at h; cases h
    · rename_i q2
      rw [if_neg q2] at h
      exact znn F _ h
theorem zud {s : Sto} {f : Int} {t : Tm} (h : (z1l s f t).2.2 = 0) : (z0b s (z1l s f t).1).2 = 0 := by
 unfold z1l at h ⊢
 split at h
 · rename_i hv
   rw [if_pos hv]
   split at h
   · rename_i h1; rw [if_pos h1]; exact znn _ _ h1
   · rename_i h1; exact absurd h h1
 · cases h
theorem zsl {z : Tm} (hv : validB z = true) : toL z = apps (toL (z03 z).1) (toLs (z03 z).2) := by
 unfold z03
 split
 · rename_i h
   obtain ⟨k, s, n, l⟩ := z
   have h6 : k = 6 := h.1
   subst h6
   rw [z2e, ← List.drop_one]; rfl
 · rfl
theorem zqw {s : Sto} {z : Tm} (hv : validB z = true) (h : (z0b s z).2 = 0) : ((z03 z).1.k = 5 → (z03 z).2 = [] ∧ (z03 z).1 = z) ∧ ((z03 z).1.k = 4 → (infOf s.V (z03 z).1.n).bd = false) ∧ (z03 z).1.k ≠ 6 := by
 obtain ⟨k, str, n, l⟩ := z
 have h0 := step0 h
 unfold z03
 split
 · rename_i q
   have q6 : k = 6 := q.1
   have h6 := h0.2 q6
   obtain ⟨x, y, r, rfl, hx6, _⟩ := okB6 (z02 _ hv) q6
   refine ⟨fun e => absurd e h6.2, fun e => ?_, hx6⟩
   have := h6.1
   unfold valB at this
   rw [show (hd (x :: y :: r)).k = 4 from e] at this
   have this : (((4 : Int) == 4) && (infOf s.V x.n).bd) = false := this
   have this : (infOf s.V x.n).bd = false := by simpa using this
   exact this
 · rename_i q
   refine ⟨fun e => ⟨rfl, rfl⟩, fun e => ?_, fun e => q ⟨e, hv⟩⟩
   have := h0.1
   unfold valB at this
   rw [show (Tm.mk k str n l).k = 4 from e] at this
   simpa using this
theorem ziu {s : Sto} (hs : OKS s) (lv : Int) : ∀ (l out : List Tm) (f : Int), 0 ≤ f → (∀ t ∈ l, validB t = true → Fit f.toNat t) → (z2i s lv out l f).2.2 = 0 → ∃ ws, (z2i s lv out l f).1 = out ++ ws ∧ All2 (fun t w => Sts (VS s) (toL t) (toL w)) l ws
 | [], out, f, _, _, _ => ⟨[], by rw [z2i, List.append_nil], trivial⟩
 | t :: l, out, f, h0, hf, h => by
  rw [z2i] at h ⊢
  split at h
  · rename_i h1; exact absurd h h1
  · rename_i h1
    rw [if_neg h1]
    split at h
    · cases h
    · rename_i h2
      rw [if_neg h2]
      have h1 : (FullV s f t).2.2 = 0 := by simpa using h1
      have ft := hf t List.mem_cons_self
      have ok := z3g hs ft h1
      obtain ⟨ws, e, ha⟩ := ziu hs lv l (out ++ [z0s (FullV s f t).1]) (FullV s f t).2.1 ok.2.2.2.2.2.1 (fun u hu hv => (hf u (List.mem_cons_of_mem _ hu) hv).mono (by have := ok.2.2.2.2.2.2; omega)) h
      refine ⟨z0s (FullV s f t).1 :: ws, by rw [e]; simp, ?_, ha⟩
      have hb : z3s (FullV s f t).1 = true := by
       unfold z66 at h2
       simp only [Bool.or_eq_true, Bool.not_eq_true', not_or] at h2
       simpa using h2.1.1
      rw [z0s, if_pos hb]
      exact (zcm hs h0 ft h1).trans (z6c _ ok.2.1)
theorem ztc {s : Sto} (hs : OKS s) {x : Int} {l : List Tm} {f : Int} (h0 : 0 ≤ f) (hf : ∀ t ∈ l, validB t = true → Fit f.toNat t) (h : (z0o s x l f).2.2 = 0) : All2 (fun t w => Sts (VS s) (toL t) (toL w)) l (z0o s x l f).1 := by
 unfold z0o at h ⊢
 split
 · rename_i q; rw [if_pos q] at h; cases h
 · rename_i q
   rw [if_neg q] at h
   obtain ⟨ws, e, ha⟩ := ziu hs _ l [] f h0 hf h
   rw [e]; exact ha
theorem z6z : ∀ (n : Nat) {t : Tm}, validB t = true → validB (z3w n t) = true
 | 0, _, h => h
 | n + 1, t, h => by
  rw [z3w]
  refine z6z n ?_
  rw [z1p] at h ⊢
  rw [Bool.and_eq_true] at h ⊢
  refine ⟨?_, by rw [z2t (.inl rfl)]; exact zbi fun u hu => by rw [List.mem_singleton.1 hu]; exact h.2⟩
  rw [okB, if_neg (by decide), if_pos (by decide)]
  simp [okL, h.1]
theorem z4o {f : Tm} {l : List Tm} (hf : validB f = true) (hl : ∀ t ∈ l, validB t = true) : validB (applyF f l) = true := by
 have a := z4i (args := l) (z02 _ hf) (zj fun u hu => z02 _ (hl u hu))
 have b := z46 (args := l) (z26 hf) (zbi fun u hu => z26 (hl u hu))
 rw [z1p, a, b]; rfl
theorem zgj {n : Int} (h0 : 0 ≤ n) (h1 : n ≤ 1000000) : validB (bV3 n) = true := by
 show validB (.mk 3 [] n []) = true
 rw [validB, if_neg (by decide), if_neg (by decide), if_neg (by decide), if_pos (by decide)]
 simp only [Bool.and_eq_true, decide_eq_true_eq, beq_iff_eq]
 exact ⟨⟨⟨⟨h0, by omega⟩, trivial⟩, by simp [FTs]⟩, rfl⟩
theorem zcb {n : Int} (h0 : 0 ≤ n) (h1 : n ≤ 1073741824) : validB (.mk 4 [] n []) = true := by
 rw [validB, if_neg (by decide), if_neg (by decide), if_neg (by decide), if_neg (by decide), if_pos (by decide)]
 simp only [Bool.and_eq_true, decide_eq_true_eq, beq_iff_eq]
 exact ⟨⟨⟨⟨h0, by omega⟩, trivial⟩, by simp [FTs]⟩, rfl⟩
theorem im1_P (lv : Int) (L : List Tm) (k : Int) (m : Nat) (hm : m ≤ 900) : ∀ (l : List Tm) (i : Nat), i + l.length ≤ m → ∀ t ∈ im1 lv L k m l i, validB t = true ∧ ∀ p, wG p t (m : Int) = true
 | [], _, _, t, h => by rw [im1] at h; cases h
 | u :: l, i, hi, t, h => by
  simp only [List.length_cons] at hi
  rw [im1] at h
  split at h
  · rcases List.mem_cons.1 h with rfl | h
    · exact ⟨zgj (by omega) (by omega), fun p => wG_bV (by omega)⟩
    · exact im1_P lv L k m hm l (i + 1) (by omega) t h
  · exact im1_P lv L k m hm l (i + 1) (by omega) t h
theorem mo1_P (c : Bool) (lvy : Int) {l : List Tm} (hl : ∀ u ∈ l, validB u = true) : ∀ t ∈ mo1 c lvy l, validB t = true ∧ ∀ d, wG (fun _ _ => true) t d = true := fun t h => by
 unfold mo1 at h
 rw [List.mem_filter] at h
 simp only [Bool.and_eq_true, beq_iff_eq] at h
 exact ⟨hl t h.1, fun d => zfe (.inr h.2.2.1) (fun e => absurd (e.symm.trans h.2.2.1) (by decide)) (fun _ => rfl)⟩
theorem zpv {s : Sto} {y lv : Int} {m : Nat} {on : List Tm} (hy : inB s.V y = true) (hf : (infOf s.V y).bd = false) (hV : s.V.length ≤ 1073741824) (ho : ∀ t ∈ on, validB t = true ∧ wG (fun _ _ => true) t (m : Int) = true) : z3z (freshS s lv) y (z79 s m on) = true := by
 have h0 := z3a.1 hy
 have hv : validB (z79 s m on) = true := z6z m (z4o (zcb (by omega) (by omega)) fun t ht => (ho t ht).1)
 have hw : wG (fun _ _ => true) (z79 s m on) 0 = true := z98 m (by rw [Int.zero_add]; exact z1x (zi8 rfl) fun t ht => (ho t ht).2)
 have hl := zgb _ 0 0 hw (Int.le_refl _)
 unfold z3z
 rw [hv, hl, z4k h0.1 h0.2, hf, z3a.2 ⟨h0.1, by rw [(zai s lv).1]; omega⟩]
 rfl
section
variable {C : Nat} (hC : C ≤ 1073741824) {L : List Tm} (hL : LP L) (hLf : ∀ u ∈ L, IsLf u) (hLv : ∀ u ∈ L, validB u = true) (x lv : Int)
include hC hL hLf hLv
omit hC hL in
theorem zt1 {q : IS} {y : Int} {k : Nat} {ls : List Tm} {f : Int} (hV : q.s.V.length ≤ 1073741824) (hy : inB q.s.V y = true) (hf : (infOf q.s.V y).bd = false) (hls : ∀ t ∈ ls, IsLf t) (hll : ls.length ≤ 900) {S : Int → Option La} (hS : SubV (VS (z57 lv L q y (k : Int) ls f).2.s) S) :
  Eqv S (.wk (gs (toLs L)) (toL (z57 lv L q y (k : Int) ls f).1) k) (apps (.var y) (toLs ls)) := by
 unfold z57 at hS ⊢
 rw [zcv, List.nil_append, List.nil_append] at *
 dsimp only at *
 split
 · rename_i h1
   rw [zle] at h1
   have ek : kpt lv L (k : Int) ls = ls := by
    refine List.filter_eq_self.2 fun t ht => ?_
    have := List.length_filter_eq_length_iff.1 h1.1
    exact this t ht
   rw [z2h, z9r, zc0, zut hLf k ls hls, ek]
   exact .refl _
 · rename_i h1
   rw [if_neg h1] at hS
   unfold onF at hS ⊢
   rw [zcv, List.nil_append, List.nil_append, zfg] at *
   dsimp only at *
   have ho : ∀ t ∈ im1 lv L (k : Int) ls.length ls 0 ++ mo1 (decide ((infOf q.s.V y).lv > lv)) (infOf q.s.V y).lv L, validB t = true ∧ wG (fun _ _ => true) t (ls.length : Int) = true := fun t ht => by
    rcases List.mem_append.1 ht with ht | ht
    · have := im1_P lv L (k : Int) ls.length hll ls 0 (by omega) t ht
      exact ⟨this.1, this.2 _⟩
    · have := mo1_P _ _ hLv t ht
      exact ⟨this.1, this.2 _⟩
   have hb := VS_bind (zpv (lv := z1f [lv, (infOf q.s.V y).lv]) hy hf hV ho)
   have hy' : S y = some (toL (z79 q.s ls.length (im1 lv L (k : Int) ls.length ls 0 ++ mo1 (decide ((infOf q.s.V y).lv > lv)) (infOf q.s.V y).lv L))) := hS _ _ hb
   have e1 : Sts S (apps (.var y) (toLs ls)) (apps (.var (q.s.V.length : Int)) (toLs (kpt lv L (k : Int) ls) ++ toLs (mo1 (decide ((infOf q.s.V y).lv > lv)) (infOf q.s.V y).lv L))) := by
    refine (Sts.apps _ (Sts.del hy')).trans ?_
    have hl : (toLs ls).length = ls.length := by rw [z6o, List.length_map]
    have := zdj (V := S) (toLs ls) (apps (.var (q.s.V.length : Int)) (toLs (im1 lv L (k : Int) ls.length ls 0 ++ mo1 (decide ((infOf q.s.V y).lv > lv)) (infOf q.s.V y).lv L)))
    have w1 := wk_im1 lv L (k : Int) ls ls [] rfl
    rw [List.length_nil] at w1
    rw [hl, zc0, z76, List.map_append, w1, wk_mo1 _ _ _ _ L hLf] at this
    rw [z79, zbg, z2h, z9r, z76]
    exact this
   have w2 := wk_mo2 hLf (decide ((infOf q.s.V y).lv > lv)) (infOf q.s.V y).lv k L [] rfl
   rw [List.length_nil] at w2
   rw [z2h, z9r, zc0, z76, List.map_append, zut hLf k ls hls, w2]
   exact (Eqv.of e1).symm
omit hC hL hLf hLv in
theorem zuu {tm : IS → Tm → Tm × IS} (he : ∀ q t, q.e ≠ 0 → (tm q t).2.e ≠ 0) : ∀ (l : List Tm) (q : IS), (z1i tm l q).2.e = 0 → q.e = 0
 | [], _, h => h
 | t :: l, q, h => by
  have := zuu he l (tm q t).2 h
  by_cases q0 : q.e = 0
  · exact q0
  · exact absurd this (he q t q0)
omit hC hL hLf hLv in
theorem znr {tm : IS → Tm → Tm × IS} {f0 : Int} {k : Nat} {S : Int → Option La} (he : ∀ q t, q.e ≠ 0 → (tm q t).2.e ≠ 0) (hch : ∀ q t, SubV (VS q.s) (VS (tm q t).2.s))
  (hgi : ∀ q t, GI C q → 0 ≤ q.f → q.f ≤ f0 → (q.e = 0 → validB t = true → Fit q.f.toNat t) → GI C (tm q t).2 ∧ (tm q t).2.f ≤ q.f ∧ 0 ≤ (tm q t).2.f)
  (htm : ∀ q t, GI C q → 0 ≤ q.f → q.f ≤ f0 → (q.e = 0 → validB t = true → Fit q.f.toNat t) → (tm q t).2.e = 0 → SubV (VS (tm q t).2.s) S → Eqv S (.wk (gs (toLs L)) (toL (tm q t).1) k) (toL t)) :
  ∀ (l : List Tm) (q : IS), GI C q → 0 ≤ q.f → q.f ≤ f0 → (∀ t ∈ l, validB t = true → Fit q.f.toNat t) → (z1i tm l q).2.e = 0 → SubV (VS (z1i tm l q).2.s) S →
   SubV (VS q.s) (VS (z1i tm l q).2.s) ∧ All2 (Eqv S) ((toLs (z1i tm l q).1).map fun a => a.wk (gs (toLs L)) k) (toLs l)
 | [], q, _, _, _, _, _, _ => ⟨.refl _, trivial⟩
 | t :: l, q, h, h0, h1, hl, hz, hS => by
  have a := hgi q t h h0 h1 (fun _ => hl t List.mem_cons_self)
  have r := znr he hch hgi htm l (tm q t).2 a.1 a.2.2 (by omega) (fun u hu hv => (hl u (List.mem_cons_of_mem _ hu) hv).mono (by omega)) hz hS
  have ez := zuu he l (tm q t).2 hz
  have b := htm q t h h0 h1 (fun _ => hl t List.mem_cons_self) ez (r.1.trans hS)
  exact ⟨(hch q t).trans r.1, b, r.2⟩
omit hC hL hLf hLv in
theorem zm1 {S : Int → Option La} : ∀ (a b : List La) (f g : La), Eqv S f g → All2 (Eqv S) a b → Eqv S (apps f a) (apps g b)
 | [], [], _, _, h, _ => h
 | x :: a, y :: b, f, g, h, h2 => zm1 a b (.app f x) (.app g y) (h.app h2.1) h2.2
 | [], _ :: _, _, _, _, h2 => h2.elim
 | _ :: _, [], _, _, _, h2 => h2.elim
theorem zov {S : Int → Option La} (hcl : ClV S) : ∀ (D : Nat) (q : IS) (t : Tm) (k : Nat), GI C q → 0 ≤ q.f → (q.e = 0 → validB t = true → Fit q.f.toNat t) → (z0c x lv L D q t (k : Int)).2.e = 0 → SubV (VS (z0c x lv L D q t (k : Int)).2.s) S →
  Eqv S (.wk (gs (toLs L)) (toL (z0c x lv L D q t (k : Int)).1) k) (toL t)
 | 0, q, t, k, h, h0, _, he, _ => by
  rw [z0c] at he
  split at he
  · rename_i q1; exact absurd he q1
  · exact absurd he (z0v _ (by decide))
 | D + 1, q, t, k, h, h0, hf, he, hS => by
  rw [z0c] at he hS ⊢
  split at he
  · rename_i q1; exact absurd he q1
  rename_i q1
  rw [if_neg q1] at hS ⊢
  have e0 : q.e = 0 := by simpa using q1
  split at he
  · exact absurd he (z0v _ (by decide))
  rename_i hf0
  rw [if_neg hf0] at hS ⊢
  have hfit : validB t = true → Fit (q.f - 1).toNat t := fun hv => (hf e0 hv).mono (by omega)
  unfold zdo at he hS ⊢
  split at he
  · rename_i hz; exact absurd he (z0v _ hz)
  rename_i hz
  rw [if_neg hz] at hS ⊢
  have hz0 : (z1l q.s (q.f - 1) t).2.2 = 0 := by simpa using hz
  have ok := z5z h.ok (by omega) hfit hz0
  have st := zsk h.ok hfit hz0
  have en := zud hz0
  have hV := h.V
  generalize z1l q.s (q.f - 1) t = z at *
  obtain ⟨z1, z2, z3⟩ := z
  dsimp only at ok st en he hS ⊢
  obtain ⟨hval, hfz, hz0', hz1⟩ := ok
  have sp := z85 ⟨hval, hfz⟩
  have se := zqw hval en
  have g : GI C ⟨q.s, z2, q.e⟩ := h.less hz0' (by omega)
  have ih := fun q' t' k' => zov hcl D q' t' k'
  have gi := fun q' t' k' => z6n hC hL x lv D q' t' k'
  have tot : SubV (VS q.s) S := by
   have c := (z4y (s0 := q.s) x lv L (D + 1) q t (k : Int) .refl).sub
   rw [z0c, if_neg q1, if_neg hf0] at c
   unfold zdo at c
   refine SubV.trans ?_ hS
   have c2 : Chg q.s (z4r x lv L (z0c x lv L D) ⟨q.s, z2, q.e⟩ (z03 z1) (k : Int)).2.s := by
    unfold z4r
    split
    · exact z4y x lv L D ⟨q.s, z2, q.e⟩ _ _ .refl
    · split
      · split
        · exact Chg.fail (q := ⟨q.s, z2, q.e⟩) .refl _
        · exact zk2 lv L (q := ⟨q.s, z2, q.e⟩) .refl _ _ _
      · unfold zd1
        split
        · exact Chg.fail (q := ⟨q.s, z2, q.e⟩) .refl _
        · exact zfq (fun q' t' a => z4y x lv L D q' t' (k : Int) a) _ ⟨q.s, z2, q.e⟩ .refl
   exact c2.sub
  have e1 : Eqv S (toL t) (toL z1) := Eqv.of (st.more tot)
  refine Eqv.trans hcl ?_ e1.symm
  rw [zsl hval]
  unfold z4r at he hS ⊢
  split at he
  · rename_i h5
    rw [if_pos h5] at hS ⊢
    obtain ⟨s1, s2⟩ := se.1 h5
    have h5 : z1.k = 5 := by have := h5; rw [s2] at this; exact this
    rw [s2, show (k : Int) + 1 = ((k + 1 : Nat) : Int) by omega] at he hS ⊢
    rw [s1]
    have hne : z1.l ≠ [] := fun e => by
     obtain ⟨wk, ws, wn, wl⟩ := z1
     obtain ⟨u, hu, _⟩ := okB5 (z02 _ hval) h5
     rw [hu] at e; cases e
    have hm : hd z1.l ∈ z1.l := zn0 hne
    have r := ih ⟨q.s, z2, q.e⟩ (hd z1.l) (k + 1) g hz0' (fun _ _ => hfz.kid hm) he hS
    show Eqv S (.wk _ (toL (z3w 1 _)) k) (toL z1)
    rw [zbg]
    clear se sp st en e1
    obtain ⟨wk, ws, wn, wl⟩ := z1
    have h5 : wk = 5 := h5
    subst h5
    rw [z1c]
    exact r.lam
  rename_i h5
  rw [if_neg h5] at hS ⊢
  split at he
  · rename_i h4
    rw [if_pos h4] at hS ⊢
    split at he
    · exact absurd he (z0v _ (by decide))
    rename_i hx
    rw [if_neg hx] at hS ⊢
    have hfa : ∀ t ∈ (z03 z1).2, validB t = true → Fit z2.toNat t := fun t ht _ => (sp.2.1 t ht).2
    have ha := z40 g.ok (z03 z1).1.n (z03 z1).2 z2 hfa
    unfold z2s at he hS ⊢
    split at he
    · rename_i hr; exact absurd he (z0v _ hr)
    rename_i hr
    rw [if_neg hr] at hS ⊢
    have hr0 : (z0o q.s (z03 z1).1.n (z03 z1).2 z2).2.2 = 0 := by simpa using hr
    have a2 := ha.2.1 hz0' hr0
    have as_ := ztc g.ok hz0' hfa hr0
    have f1 := g.f1
    have r := zt1 (lv := lv) hLf hLv (q := ⟨q.s, z2, q.e⟩) (y := (z03 z1).1.n) (k := k) (ls := (z0o q.s (z03 z1).1.n (z03 z1).2 z2).1) (f := (z0o q.s (z03 z1).1.n (z03 z1).2 z2).2.1) (by dsimp only; omega) a2.2.2 (se.2.1 h4) (fun t ht => zki (ha.1 t ht).2.2.2.2 (ha.1 t ht).2.1) (by dsimp only at *; omega) hS
    refine r.trans hcl ?_
    have ev : toL (z03 z1).1 = .var (z03 z1).1.n := by
     have hv1 := sp.1.1
     generalize (z03 z1).1 = w at *
     obtain ⟨wk, ws, wn, wl⟩ := w
     have h4 : wk = 4 := h4
     subst h4
     rw [z9r]; rfl
    rw [ev]
    exact (Eqv.of ((zb4 _ _ _ _ (.refl _) (zb6 as_)).more tot)).symm
  rename_i h4
  rw [if_neg h4] at hS ⊢
  unfold zd1 at he hS ⊢
  split at he
  · exact absurd he (z0v _ (by decide))
  rename_i hi
  rw [if_neg hi] at hS ⊢
  have hch : ∀ (q' : IS) (t' : Tm), SubV (VS q'.s) (VS (z0c x lv L D q' t' (k : Int)).2.s) := fun q' t' => (z4y (s0 := q'.s) x lv L D q' t' (k : Int) .refl).sub
  have kk := znr (C := C) (L := L) (k := k) (S := S) (tm := fun q t => z0c x lv L D q t (k : Int)) (f0 := z2) (fun q' t' a => by rw [zjx x lv L D t' (k : Int) a]; exact a) hch (fun q' t' a b _ d => gi q' t' (k : Int) a b d) (fun q' t' a b _ d e f => ih q' t' k a b d e f) (z03 z1).2 ⟨q.s, z2, q.e⟩ g hz0' (Int.le_refl _) (fun t ht _ => (sp.2.1 t ht).2) he hS
  rw [z2h, zc0]
  refine zm1 _ _ _ _ ?_ kk.2
  split
  · rename_i h31
    have c : (imgT lv L (z03 z1).1 (k : Int)).2 = true := by
     by_cases c : (imgT lv L (z03 z1).1 (k : Int)).2 = true
     · exact c
     · exact absurd ⟨h31, by simpa using c⟩ hi
    rw [wk_img hLf (zki sp.1.1 h31) k c]
    exact .refl _
  · rename_i h31
    have h6 := se.2.2
    generalize (z03 z1).1 = w at *
    obtain ⟨wk, ws, wn, wl⟩ := w
    have h5 : ¬ wk = 5 := h5
    have h4 : ¬ wk = 4 := h4
    have h6 : ¬ wk = 6 := h6
    have h31 : ¬ (wk = 3 ∨ wk = 1) := h31
    have : toL (.mk wk ws wn wl) = .con wk wn ws := by rw [toL, mkL, if_neg h5, if_neg h6, if_neg (by omega), if_neg h4]
    rw [this]
    exact .refl _
end
theorem zpy {C : Nat} (hC : C ≤ 1073741824) {s : Sto} (hs : OKS s) {x : Int} {l : List Tm} {t : Tm} {f : Int} (h0 : 0 ≤ f) (hf : f ≤ 157) (hV : s.V.length + f.toNat ≤ C) (hT : s.T.length + f.toNat ≤ C) (hl : l.length ≤ 157) (hfit : validB t = true → Fit f.toNat t) (he : (invertF s x l t f).1.2.2 = 0)
  {S : Int → Option La} (hcl : ClV S) (hS : SubV (VS (invertF s x l t f).2) S) : Eqv S (apps (toL (invertF s x l t f).1.1) (toLs l)) (toL t) := by
 unfold invertF at he hS ⊢
 split
 · rename_i q; rw [if_pos q] at he; cases he
 · rename_i hc
   rw [if_neg hc] at he hS
   simp only [Bool.or_eq_true, not_or] at hc
   have hlf : ∀ u ∈ l, z2b u = true := fun u hu => by have := List.any_eq_false.1 (by simpa using hc.2 : (l.any fun u => !z2b u) = false) u hu; simpa using this
   have hL : LP l := ⟨by omega, fun u hu => (z35 (hlf u hu)).1⟩
   have hLv : ∀ u ∈ l, validB u = true := fun u hu => by have := hlf u hu; unfold z2b at this; rw [Bool.and_eq_true] at this; exact this.1
   have hLf : ∀ u ∈ l, IsLf u := fun u hu => zki (hLv u hu) (z35 (hlf u hu)).2.1
   split
   · rename_i q; rw [if_pos q] at he; exact absurd he q
   · rename_i q
     rw [if_neg q] at he hS
     have q : (z0c x (infOf s.V x).lv l f.toNat ⟨s, f, 0⟩ t 0).2.e = 0 := by simpa using q
     have r := zov hC hL hLf hLv x (infOf s.V x).lv hcl f.toNat ⟨s, f, 0⟩ t 0 ⟨hs, hV, hT, by simp only; omega, by simp only; omega⟩ h0 (fun _ => hfit) q hS
     rw [zbg]
     have hl2 : (toLs l).length = l.length := by rw [z6o, List.length_map]
     have b := zdj (V := S) (toLs l) (toL (z0c x (infOf s.V x).lv l f.toNat ⟨s, f, 0⟩ t 0).1)
     rw [hl2] at b
     exact (Eqv.of b).trans hcl r
end Go.AM

set_option maxRecDepth 100000
open Go Go.Proofs
namespace Go.AM
theorem zm9 {s : Sto} (hs : OKS s) (E : Nat) : ∀ (D : Nat) (f : Int) (t : Tm), f.toNat ≤ D → 0 ≤ f → validB t = true → Fit (f.toNat + E) t → (z08 s D f t).2.1 = 0 → bd (M61 - SZ - SZ * E) (z08 s D f t).1
 | 0, f, t, _, _, _, _, h => by rw [z08] at h; cases h
 | D + 1, f, t, hD, h0, hv, hf, h => by
  have hok := z3h hs
  rw [z08] at h ⊢
  split
  · rename_i q; rw [if_pos q] at h; cases h
  rename_i q
  rw [if_neg q] at h
  have hfit := hf.mono (show (f - 1).toNat + E ≤ f.toNat + E by omega)
  have hq := z50 hs hv hfit
  have hm := ze5 s (f - 1).toNat t E
  have hle := zg7 s (f - 1).toNat t
  have eh : z5h s (f - 1) t = ((runH s (f - 1).toNat t).1, (runH s (f - 1).toNat t).2.1, f - 1 - ((runH s (f - 1).toNat t).2.2 : Int)) := rfl
  rw [eh, zce] at h ⊢
  split
  · rename_i q2; rw [if_pos q2] at h; exact absurd h q2
  rename_i q2
  rw [if_neg q2] at h
  have he : (runH s (f - 1).toNat t).2.1 = 0 := by simpa using q2
  rw [hm he] at hq
  generalize runH s (f - 1).toNat t = q at *
  obtain ⟨x, er, u⟩ := q
  simp only at hq h hle he ⊢
  obtain ⟨hu, hq⟩ := hq
  rcases hq with ⟨_, hvx, hfx, _⟩ | ⟨h80, _⟩
  · obtain ⟨k, str, n, l⟩ := x
    simp only [Tm.l, Tm.k, Tm.s, Tm.n] at h ⊢
    have hg0 : 0 ≤ f - 1 - (u : Int) := by omega
    have hfb : bd (M61 - SZ - SZ * E) (.mk k str n l) := z5d (by
     have : SZ * E ≤ SZ * ((f - 1).toNat + E - u) := Nat.mul_le_mul_left _ (by omega)
     have h2 : ((SZ * E : Nat) : Int) ≤ ((SZ * ((f - 1).toNat + E - u) : Nat) : Int) := by exact_mod_cast this
     push_cast at h2 ⊢
     omega) _ hfx.2.2.1
    have hkid : ∀ x ∈ l, k = 5 ∨ k = 6 := fun x hx => by
     by_cases h5 : k = 5 ∨ k = 6
     · exact h5
     · rw [not_or] at h5
       have := okB0 (z02 _ hvx) h5.1 h5.2
       rw [this] at hx; cases hx
    have kid : ∀ x ∈ l, ∀ g' : Int, 0 ≤ g' → g' ≤ f - 1 - (u : Int) → (z08 s D g' x).2.1 = 0 → bd (M61 - SZ - SZ * E) (z08 s D g' x).1 ∧ (z08 s D g' x).1.sz + 42000 * (z08 s D g' x).2.2.toNat ≤ x.sz + 42000 * g'.toNat := fun x hx g' a b c =>
     ⟨zm9 hs E D g' x (by omega) a (z06 hvx (hkid x hx) x hx) ((hfx.kid (show x ∈ Tm.l (.mk k str n l) from hx)).mono (by omega)) c,
      (hok D g' x (by omega) a (z06 hvx (hkid x hx) x hx) ((hfx.kid (show x ∈ Tm.l (.mk k str n l) from hx)).mono (by omega)) c).2⟩
    unfold z7a at h ⊢
    split
    · rename_i q3; rw [if_pos q3] at h; exact absurd h q3
    rename_i q3
    have h9 : (z0h (z08 s D) (k == 6) l (f - 1 - (u : Int))).2.1 = 0 := by simpa using q3
    have sub : ∀ x ∈ (if (k == 6) = true then l.drop 1 else l), x ∈ l := fun x hx => by
     split at hx
     · exact List.mem_of_mem_drop hx
     · exact hx
    have hk := z70 (A := fun _ y => bd (M61 - SZ - SZ * E) y) (z22 s D) l (k == 6) (f - 1 - (u : Int)) hg0 (fun x hx g' a b c => kid x (sub x hx) g' a b c) h9
    generalize z0h (z08 s D) (k == 6) l (f - 1 - (u : Int)) = r at *
    obtain ⟨us, er2, g2⟩ := r
    simp only at hk ⊢
    obtain ⟨k1, k2, k3, k4⟩ := hk
    have k5 := zba (Q := fun y => bd (M61 - SZ - SZ * E) y) (fun _ _ h => h) k4
    refine ⟨hfb.1, z63 fun y hy => ?_⟩
    by_cases h6 : (k == 6) = true
    · rcases zsh hy with e | e
      · rw [k3 h6] at e
        have hl : l ≠ [] := fun e2 => by rw [e2] at k2; rw [List.eq_nil_of_length_eq_zero k2] at hy; cases hy
        have hm : y ∈ l := by cases l with
         | nil => exact absurd rfl hl
         | cons z l => rw [e]; exact List.mem_cons_self
        exact z1v hfb.2 hm
      · exact k5 y (by rw [if_pos h6]; exact e)
    · exact k5 y (by rw [if_neg h6]; exact hy)
  · rw [he] at h80; cases h80
end Go.AM

set_option maxRecDepth 100000
open Go Go.Proofs
namespace Go.AM
theorem zek {lv : Int} {L : List Tm} {t : Tm} {k : Int} (h : validB t = true) (hL : L.length ≤ 900) (hk0 : 0 ≤ k) (hk1 : k ≤ 6000) : validB (imgT lv L t k).1 = true := by
 unfold imgT
 split
 · exact h
 · split
   · rename_i q
     obtain ⟨j, hj, e, _⟩ := zkc _ L 0 q
     rw [e]
     exact zgj (by omega) (by omega)
   · exact h
theorem zic {lv : Int} {L : List Tm} {k : Int} (hL : L.length ≤ 900) (hk0 : 0 ≤ k) (hk1 : k ≤ 6000) : ∀ l : List Tm, (∀ t ∈ l, validB t = true) → ∀ t ∈ im2 lv L k l, validB t = true
 | [], _, t, h => by rw [im2] at h; cases h
 | u :: l, hl, t, h => by
  have ih := zic (lv := lv) hL hk0 hk1 l fun w hw => hl w (List.mem_cons_of_mem _ hw)
  rw [im2] at h
  split at h
  · rcases List.mem_cons.1 h with rfl | h
    · exact zek (hl u List.mem_cons_self) hL hk0 hk1
    · exact ih t h
  · exact ih t h
theorem zc8 (c : Bool) (lvy : Int) {k : Int} {n : Nat} (hn : n ≤ 900) (hk0 : 0 ≤ k) (hk1 : k ≤ 6000) : ∀ (l : List Tm) (i : Nat), i + l.length ≤ n → ∀ t ∈ mo2 c lvy k n l i, validB t = true
 | [], _, _, t, h => by rw [mo2] at h; cases h
 | u :: l, i, hi, t, h => by
  simp only [List.length_cons] at hi
  rw [mo2] at h
  split at h
  · rcases List.mem_cons.1 h with rfl | h
    · exact zgj (by omega) (by omega)
    · exact zc8 c lvy hn hk0 hk1 l (i + 1) (by omega) t h
  · exact zc8 c lvy hn hk0 hk1 l (i + 1) (by omega) t h
section
variable {C : Nat} (hC : C ≤ 1073741824) {L : List Tm} (hL : LP L) (x lv : Int)
include hC hL
omit hC hL in
theorem zet {tm : IS → Tm → Tm × IS} {f0 : Int} (he : ∀ q t, q.e ≠ 0 → (tm q t).2.e ≠ 0) (hgi : ∀ q t, GI C q → 0 ≤ q.f → q.f ≤ f0 → (q.e = 0 → validB t = true → Fit q.f.toNat t) → GI C (tm q t).2 ∧ (tm q t).2.f ≤ q.f ∧ 0 ≤ (tm q t).2.f)
  (htm : ∀ q t, GI C q → 0 ≤ q.f → q.f ≤ f0 → (q.e = 0 → validB t = true → Fit q.f.toNat t) → (tm q t).2.e = 0 → validB (tm q t).1 = true) :
  ∀ (l : List Tm) (q : IS), GI C q → 0 ≤ q.f → q.f ≤ f0 → (∀ t ∈ l, validB t = true → Fit q.f.toNat t) → (z1i tm l q).2.e = 0 → ∀ t ∈ (z1i tm l q).1, validB t = true
 | [], q, h, h0, _, _, _ => fun t ht => nomatch ht
 | t :: l, q, h, h0, h1, hl, hz => by
  have a := hgi q t h h0 h1 (fun _ => hl t List.mem_cons_self)
  intro u hu
  rcases List.mem_cons.1 hu with rfl | hu
  · exact htm q t h h0 h1 (fun _ => hl t List.mem_cons_self) (zuu he l (tm q t).2 hz)
  · exact zet he hgi htm l (tm q t).2 a.1 a.2.2 (by omega) (fun u hu hv => (hl u (List.mem_cons_of_mem _ hu) hv).mono (by omega)) hz u hu
theorem zes : ∀ (D : Nat) (q : IS) (t : Tm) (k : Int), GI C q → 0 ≤ q.f → (q.e = 0 → validB t = true → Fit q.f.toNat t) → 0 ≤ k → k + (D : Int) ≤ 6000 → (z0c x lv L D q t k).2.e = 0 → validB (z0c x lv L D q t k).1 = true
 | 0, q, t, k, h, h0, _, _, _, he => by
  rw [z0c] at he
  split at he
  · rename_i q1; exact absurd he q1
  · exact absurd he (z0v _ (by decide))
 | D + 1, q, t, k, h, h0, hf, hk0, hk1, he => by
  rw [z0c] at he ⊢
  split at he
  · rename_i q1; exact absurd he q1
  rename_i q1
  rw [if_neg q1]
  have e0 : q.e = 0 := by simpa using q1
  split at he
  · exact absurd he (z0v _ (by decide))
  rename_i hf0
  rw [if_neg hf0]
  have hfit : validB t = true → Fit (q.f - 1).toNat t := fun hv => (hf e0 hv).mono (by omega)
  unfold zdo at he ⊢
  split at he
  · rename_i hz; exact absurd he (z0v _ hz)
  rename_i hz
  rw [if_neg hz]
  have ok := z5z h.ok (by omega) hfit (by simpa using hz)
  have hV := h.V
  have hf1 := h.f1
  have hV' : q.s.V.length ≤ 1073741824 := by omega
  generalize z1l q.s (q.f - 1) t = z at *
  obtain ⟨z1, z2, z3⟩ := z
  dsimp only at ok he ⊢
  obtain ⟨hv, hfz, hz0, hz1⟩ := ok
  have sp := z85 ⟨hv, hfz⟩
  have g : GI C ⟨q.s, z2, q.e⟩ := h.less hz0 (by omega)
  have ih := fun q' t' k' => zes D q' t' k'
  have gi := fun q' t' k' => z6n hC hL x lv D q' t' k'
  unfold z4r at he ⊢
  split at he
  · rename_i h5
    rw [if_pos h5]
    have hne : (z03 z1).1.l ≠ [] := fun e => by
     have o := z02 _ sp.1.1
     generalize (z03 z1).1 = w at *
     obtain ⟨wk, ws, wn, wl⟩ := w
     obtain ⟨u, hu, _⟩ := okB5 o h5
     rw [hu] at e; cases e
    have hm : hd (z03 z1).1.l ∈ (z03 z1).1.l := zn0 hne
    exact z6z 1 (ih ⟨q.s, z2, q.e⟩ _ (k + 1) g hz0 (fun _ _ => sp.1.2.kid hm) (by omega) (by omega) he)
  rename_i h5
  rw [if_neg h5]
  split at he
  · rename_i h4
    rw [if_pos h4]
    split at he
    · exact absurd he (z0v _ (by decide))
    rename_i hx
    rw [if_neg hx]
    have ha := z40 g.ok (z03 z1).1.n (z03 z1).2 z2 (fun t ht _ => (sp.2.1 t ht).2)
    unfold z2s at he ⊢
    split at he
    · rename_i hr; exact absurd he (z0v _ hr)
    rename_i hr
    rw [if_neg hr]
    have a2 := ha.2.1 hz0 (by simpa using hr)
    have hin : 0 ≤ (z03 z1).1.n ∧ (z03 z1).1.n < (q.s.V.length : Int) := z3a.1 a2.2.2
    have vi := zic (lv := lv) (L := L) (k := k) hL.1 hk0 (by omega) (z0o q.s (z03 z1).1.n (z03 z1).2 z2).1 fun t ht => (ha.1 t ht).2.2.2.2
    unfold z57
    rw [zcv, List.nil_append, List.nil_append]
    dsimp only
    split
    · exact z4o (zcb hin.1 (by omega)) vi
    · unfold onF
      rw [zcv, List.nil_append, List.nil_append, zfg]
      refine z4o (zcb (by omega) (by omega)) fun t ht => ?_
      rcases List.mem_append.1 ht with ht | ht
      · exact vi t ht
      · exact zc8 _ _ hL.1 hk0 (by omega) L 0 (by omega) t ht
  rename_i h4
  rw [if_neg h4]
  unfold zd1 at he ⊢
  split at he
  · exact absurd he (z0v _ (by decide))
  rename_i hi
  rw [if_neg hi]
  have kk := zet (C := C) (tm := fun q t => z0c x lv L D q t k) (f0 := z2) (fun q' t' a => by rw [zjx x lv L D t' k a]; exact a) (fun q' t' a b _ d => gi q' t' k a b d) (fun q' t' a b _ d e => ih q' t' k a b d hk0 (by omega) e) (z03 z1).2 ⟨q.s, z2, q.e⟩ g hz0 (Int.le_refl _) (fun t ht _ => (sp.2.1 t ht).2) he
  refine z4o ?_ kk
  split
  · exact zek sp.1.1 hL.1 hk0 (by omega)
  · exact sp.1.1
end
theorem zib {C : Nat} (hC : C ≤ 1073741824) {s : Sto} (hs : OKS s) {x : Int} {l : List Tm} {t : Tm} {f : Int} (h0 : 0 ≤ f) (hf : f ≤ 157) (hV : s.V.length + f.toNat ≤ C) (hT : s.T.length + f.toNat ≤ C) (hl : l.length ≤ 157) (hfit : validB t = true → Fit f.toNat t) (he : (invertF s x l t f).1.2.2 = 0) : validB (invertF s x l t f).1.1 = true := by
 unfold invertF at he ⊢
 split
 · rename_i q; rw [if_pos q] at he; cases he
 · rename_i hc
   rw [if_neg hc] at he
   simp only [Bool.or_eq_true, not_or] at hc
   have hlf : ∀ u ∈ l, z2b u = true := fun u hu => by have := List.any_eq_false.1 (by simpa using hc.2 : (l.any fun u => !z2b u) = false) u hu; simpa using this
   have hL : LP l := ⟨by omega, fun u hu => (z35 (hlf u hu)).1⟩
   split
   · rename_i q; rw [if_pos q] at he; exact absurd he q
   · rename_i q
     have q : (z0c x (infOf s.V x).lv l f.toNat ⟨s, f, 0⟩ t 0).2.e = 0 := by simpa using q
     exact z6z _ (zes hC hL x (infOf s.V x).lv f.toNat ⟨s, f, 0⟩ t 0 ⟨hs, hV, hT, by simp only; omega, by simp only; omega⟩ h0 (fun _ => hfit) (Int.le_refl _) (by omega) q)
theorem zn7 {s : Sto} (hs : OKS s) (E : Nat) (hE : E ≤ 4000) (lv : Int) : ∀ (l out : List Tm) (f : Int), 0 ≤ f → (∀ t ∈ l, validB t = true → Fit (f.toNat + E) t) → (z2i s lv out l f).2.2 = 0 → (∀ t ∈ out, bd (M61 - SZ - SZ * E) t) → ∀ t ∈ (z2i s lv out l f).1, bd (M61 - SZ - SZ * E) t
 | [], out, f, _, _, _, ho => by rw [z2i]; exact ho
 | t :: l, out, f, h0, hf, h, ho => by
  rw [z2i] at h ⊢
  split at h
  · rename_i h1; exact absurd h h1
  · rename_i h1
    rw [if_neg h1]
    split at h
    · cases h
    · rename_i h2
      rw [if_neg h2]
      have h1 : (FullV s f t).2.2 = 0 := by simpa using h1
      have ft := hf t List.mem_cons_self
      have ok := z3g hs (fun hv => (ft hv).mono (by omega)) h1
      refine zn7 hs E hE lv l _ (FullV s f t).2.1 ok.2.2.2.2.2.1 (fun u hu hv => (hf u (List.mem_cons_of_mem _ hu) hv).mono (by have := ok.2.2.2.2.2.2; omega)) h fun w hw => ?_
      rcases List.mem_append.1 hw with hw | hw
      · exact ho w hw
      · rw [List.mem_singleton.1 hw]
        have hb : z3s (FullV s f t).1 = true := by
         unfold z66 at h2
         simp only [Bool.or_eq_true, Bool.not_eq_true', not_or] at h2
         simpa using h2.1.1
        rw [z0s, if_pos hb]
        have M1 : (1 : Int) ≤ M61 - SZ - SZ * E := by simp only [M61, SZ]; omega
        refine (z1o _ (z02 _ ok.2.1)).2.2.2 _ M1 ?_
        unfold FullV at h1 ⊢
        split at h1
        · rename_i hv
          rw [if_pos hv]
          split at h1
          · rename_i q
            rw [if_pos q]
            have fo := z3h hs f.toNat f t (Nat.le_refl _) h0 hv ((ft hv).mono (by omega)) q
            exact (z1o _ (z02 _ fo.1.1)).2.2.2 _ M1 (zm9 hs E f.toNat f t (Nat.le_refl _) h0 hv (ft hv) q)
          · rename_i q; exact absurd h1 q
        · cases h1
theorem argsF_bd {s : Sto} (hs : OKS s) (E : Nat) (hE : E ≤ 4000) {x : Int} {l : List Tm} {f : Int} (h0 : 0 ≤ f) (hf : ∀ t ∈ l, validB t = true → Fit (f.toNat + E) t) (h : (z0o s x l f).2.2 = 0) : ∀ t ∈ (z0o s x l f).1, bd (M61 - SZ - SZ * E) t := by
 unfold z0o at h ⊢
 split
 · intro t ht; cases ht
 · rename_i q
   rw [if_neg q] at h
   exact zn7 hs E hE _ l [] f h0 hf h (fun t ht => nomatch ht)
theorem wG_lift {p : Int → Int → Bool} : ∀ (t : Tm) (d : Nat), validB t = true → wG p t (d : Int) = true → ∀ k : Nat, d ≤ k → (toL t).lift k = toL t := by
 refine Tm.ind fun t ih => ?_
 intro d hv hw k hk
 have h5k := fun h u hu => zfl (u := u) hw h hu
 have h6k := fun h u hu => z4m (u := u) hw h hu
 obtain ⟨j, s, n, l⟩ := t
 by_cases h5 : j = 5
 · subst h5
   obtain ⟨b, rfl, _⟩ := okB5 (z02 _ hv) rfl
   rw [z1c, La.lift]
   congr 1
   exact ih b List.mem_cons_self (d + 1) (z06 hv (.inl rfl) b List.mem_cons_self) (h5k rfl b List.mem_cons_self) (k + 1) (by omega)
 · by_cases h6 : j = 6
   · subst h6
     obtain ⟨x, y, r, rfl, _, _⟩ := okB6 (z02 _ hv) rfl
     have vl := z06 hv (.inr rfl)
     rw [z2e, zcs]
     have all : ∀ u ∈ x :: y :: r, (toL u).lift k = toL u := fun u hu => ih u hu d (vl u hu) (h6k rfl u hu) k hk
     congr 1
     · exact all x List.mem_cons_self
     · rw [z6o, List.map_map]
       exact List.map_congr_left fun u hu => all u (List.mem_cons_of_mem _ hu)
   · by_cases h3 : j = 3
     · subst h3
       have := (z53.1 hw).1
       unfold gB at this
       rw [if_pos rfl] at this
       have := of_decide_eq_true this
       have := z9h hv rfl
       rw [z1s, La.lift, if_pos (by omega)]
     · rcases z5t (k := j) (n := n) (s := s) (l := l) h5 h6 h3 with e | e <;> rw [e] <;> rfl
theorem clV_of {s : Sto} (hs : OKS s) (h : LvS s) : ClV (VS s) := fun x v hv k => by
 unfold VS at hv
 split at hv
 · rename_i hb
   injection hv with hv
   subst hv
   have hx : 0 ≤ x ∧ x < (s.V.length : Int) := by
    by_cases q : 0 ≤ x ∧ x < (s.V.length : Int)
    · exact q
    · rw [z1n q] at hb; cases hb
   obtain ⟨hl, e⟩ := z1k hx.1 hx.2
   have ok : OKV (infOf s.V x).v := by
    rw [e] at hb ⊢
    exact hs _ (List.getElem_mem hl) hb
   exact wG_lift _ 0 ok.1 (h.val x hb) k (Nat.zero_le _)
 · cases hv
end Go.AM

set_option maxRecDepth 100000
open Go Go.Proofs
namespace Go.AM
theorem zdz (s : Sto) (L k n : Int) (str : List UInt8) (l0 : List Tm) (hl0 : l0.length ≤ B) : ∀ b a : List Tm, l0 = a ++ b → (∀ u ∈ b, AC Tryz.prog 23 [aS 0, aT u, ci L] (oS s) (cb true) (oS s)) →
  RPt Tryz.prog 23 3 (cb true) (oS s) 1 ⟨[(0, aS 0), (2, ci L), (4, .c (.a (.ep 3 4 0 0))), (9, ci (a.length : Int))], [(0, sto2 1 2 s), (1, .arz 6 (SR s.V)), (2, .arz 1 (IR s.T)), (3, .arr 4 [cT (.mk k str n l0)])], 4⟩
 | [], a, hl, _ => by
  rw [List.append_nil] at hl
  subst hl
  refine RPt.vc hP sh lv23 (Eq.mpr (v23_1a ..) ?_)
  exact ⟨rfl, z00 (fun h => absurd (of_decide_eq_true h) (by rw [z01]; exact Int.lt_irrefl _)) (fun _ => ⟨.refl _, rfl⟩)⟩
 | t :: b, a, hl, hb => by
  have next := zdz s L k n str l0 hl0 b (a ++ [t]) (by rw [hl]; simp) (fun u hu => hb u (List.mem_cons_of_mem _ hu))
  have hc := hb t List.mem_cons_self
  have hlen : l0.length = a.length + (b.length + 1) := by rw [hl]; simp
  simp only [B] at hl0
  rw [show (((a ++ [t]).length : Nat) : Int) = (a.length : Int) + 1 by simp] at next
  refine RPt.vc hP sh lv23 (Eq.mpr (v23_1a ..) ?_)
  subst hl
  have hlb : (a ++ t :: b).length ≤ 549755813888 := hl0
  show _ ∧ br _ (_ ∧ ∃ b1, AC Tryz.prog 23 [aS 0, aE (List.getD (FTs (a ++ t :: b)) (Int.toNat (a.length : Int)) []), ci L] _ _ _ ∧ _) _
  rw [z65, w64 (x := (a.length : Int) + 1) (by omega) (by omega)]
  exact ⟨rfl, z00 (fun _ => ⟨⟨rfl, by omega, ltI' a t b, z4x a t b⟩, true, hc, z00 (fun h => by cases h) (fun _ => next)⟩) (fun h => absurd (ltI' a t b) (of_decide_eq_false h))⟩
theorem zqb (s : Sto) (L : Int) : ∀ t : Tm, okB t = true → t.sz ≤ B → ∀ d : Int, wG (lvP s L) t d = true → AC Tryz.prog 23 [aS 0, aT t, ci L] (oS s) (cb true) (oS s) := by
 refine Tm.ind fun t ih => ?_
 intro ok hz d hw
 have hI := z7r s t.n
 have leaf1 : t.k = 1 → t.n ≤ L := fun h => by
  have := zlt hw (.inr h)
  rw [h] at this
  unfold lvP at this
  rw [if_neg (by decide)] at this
  exact of_decide_eq_true this
 have leaf4 : t.k = 4 → inB s.V t.n = true ∧ (infOf s.V t.n).lv ≤ L := fun h => by
  have := zlt hw (.inl h)
  rw [h] at this
  unfold lvP at this
  rw [if_pos rfl, Bool.and_eq_true] at this
  exact ⟨this.1, of_decide_eq_true this.2⟩
 have kids : ∀ u ∈ t.l, AC Tryz.prog 23 [aS 0, aT u, ci L] (oS s) (cb true) (oS s) := fun u hu => by
  have hk : t.k = 5 ∨ t.k = 6 := by
   by_cases h : t.k = 5 ∨ t.k = 6
   · exact h
   · obtain ⟨k, str, n, l⟩ := t
     have h : ¬ (k = 5 ∨ k = 6) := h
     have : l = [] := okB0 ok (by omega) (by omega)
     subst this; cases hu
  have hm := Tm.szs_mem hu
  have he := t.sz_eq
  rcases hk with h5 | h6
  · exact ih u hu (z3c (z78 ok) hu) (by omega) _ (zfl hw h5 hu)
  · exact ih u hu (z3c (z78 ok) hu) (by omega) _ (z4m hw h6 hu)
 obtain ⟨k, str, n, l⟩ := t
 have hlen : l.length ≤ B := by have := Tm.szs_length l; simp only [Tm.sz] at hz; omega
 have next := zdz s L k n str l hlen l [] rfl kids
 have leaf1 : k = 1 → n ≤ L := leaf1
 have leaf4 : k = 4 → inB s.V n = true ∧ (infOf s.V n).lv ≤ L := leaf4
 have hI : AC Tryz.prog 19 [aS 0, ci n] (oS s) (tI (infOf s.V n) (inB s.V n)) (oS s) := hI
 refine AC.vc hP sh lv23 (Nat.le_refl _) (by simp [isLive]) (by simp) (Eq.mpr (v23 k str n (FTs l) ..) ?_)
 refine z00 (fun h1 => z00 (fun h => ?_) (fun _ => z00 (fun h4 => ?_) (fun _ => next))) (fun h1 => z00 (fun h4 => ?_) (fun _ => next))
 · have := leaf1 (eq_of_beq h1)
   exact absurd (of_decide_eq_true h) (by omega)
 · have h1 : k = 1 := eq_of_beq h1
   have h4 : k = 4 := eq_of_beq h4
   omega
 · have h4 : k = 4 := eq_of_beq h4
   have lf := leaf4 h4
   refine ⟨((infOf s.V n).lv, (infOf s.V n).bd, (infOf s.V n).v, inB s.V n), hI, z00 (fun _ => z00 (fun h => ?_) (fun _ => next)) (fun _ => next)⟩
   exact absurd (of_decide_eq_true h) (by have := lf.2; dsimp only; omega)
theorem wG_of {p : Int → Bool} {q : Int → Int → Bool} (h4 : ∀ n, p n = true → q 4 n = true) (h1 : ∀ n, q 1 n = true) {M : Int} : ∀ (t : Tm), bd M t → vP p t = true → ∀ d : Int, M < d → wG q t d = true := by
 refine Tm.ind fun t ih => ?_
 intro hb hv d hd
 have kids : ∀ u ∈ t.l, ∀ e : Int, M < e → wG q u e = true := fun u hu e he => ih u hu (by obtain ⟨k, s, n, l⟩ := t; exact z1v hb.2 hu) (vP_kid hv hu) e he
 have h4' := fun h => h4 _ (vP_var hv h)
 obtain ⟨k, s, n, l⟩ := t
 rw [z53]
 refine ⟨?_, fun _ u hu => kids u hu _ (by split <;> omega)⟩
 unfold gB
 split
 · rename_i h3
   have := (hb.1 h3).2
   exact decide_eq_true (by omega)
 · by_cases e4 : k = 4
   · subst e4; rw [show q 4 n = true from h4' rfl, Bool.or_true]
   · by_cases e1 : k = 1
     · subst e1; rw [h1 n, Bool.or_true]
     · simp [e4, e1]
theorem PV_of {s : Sto} {n : Int} (hn : n ≤ (s.V.length : Int)) {t : Tm} (hv : validB t = true) (hz : t.sz ≤ 24) (hb : bd 1000 t) (h : ((z0z t []).all fun v => !decide (v ≥ n)) = true) : PV s t := by
 have x := varsV t hv hz
 refine ⟨2000, by omega, wG_of (p := fun i => inB s.V i) (M := 1000) (fun n h => by unfold inP; rw [h, Bool.or_true]) (fun n => rfl) t hb (vP_imp (fun i hi => ?_) t x.2.2) _ (by omega)⟩
 have hi := of_decide_eq_true hi
 have h0 := x.1 i hi
 have h1 := List.all_eq_true.1 h i hi
 simp only [Bool.not_eq_true', decide_eq_false_iff_not] at h1
 exact z3a.2 ⟨h0, by omega⟩
theorem zrb : ∀ (a : List IBT) (u : Sto), (frS a u).V.length = u.V.length + a.length ∧ (frS a u).T = u.T
 | [], u => ⟨rfl, rfl⟩
 | v :: a, u => by
  have := zrb a (freshS u v.1.1)
  have f := zai u v.1.1
  exact ⟨by show (frS a (freshS u v.1.1)).V.length = _; rw [this.1, f.1, List.length_cons]; omega, by show (frS a (freshS u v.1.1)).T = _; rw [this.2, f.2]⟩
structure SJ (n : Nat) (j : Nat) (s : Sto) : Prop where
 ok : OKS s
 wf : WF s
 ot : OKT s
 lv : LvS s
 V : s.V.length ≤ 8 + 150 * j
 T : s.T.length ≤ 8 + 150 * j
 n : n ≤ s.V.length
theorem sj_fr (a : List IBT) (h8 : a.length ≤ 8) : SJ a.length 0 (frS a sNil) := by
 have key : ∀ (a : List IBT) (s : Sto), OKS s → WF s → OKT s → LvS s → OKS (frS a s) ∧ WF (frS a s) ∧ OKT (frS a s) ∧ LvS (frS a s) := by
  intro a
  induction a with
  | nil => intro s h1 h2 h3 h4; exact ⟨h1, h2, h3, h4⟩
  | cons v a ih =>
   intro s h1 h2 h3 h4
   refine ih (freshS s v.1.1) (fun i hi hb => ?_) (h2.fresh _) (h3.fresh _) (h4.fresh _)
   rcases List.mem_append.1 hi with hi | hi
   · exact h1 i hi hb
   · simp at hi; subst hi; cases hb
 have k := key a sNil (fun i hi => nomatch hi) (fun i hi => nomatch hi) (fun i hi => nomatch hi) ⟨fun x hb => absurd hb (by rw [z1n (by simp [sNil]; try omega)]; simp [noI]), fun i hi => nomatch hi⟩
 have l := zrb a sNil
 exact ⟨k.1, k.2.1, k.2.2.1, k.2.2.2, by rw [l.1]; simp [sNil]; omega, by rw [l.2]; simp [sNil], by rw [l.1]; omega⟩
end Go.AM

set_option maxRecDepth 100000
open Go Go.Proofs

set_option maxRecDepth 100000
open Go Go.Proofs
namespace Go.AM
theorem zrk : AC Tryz.prog 9 [] [] (cb true) [] := runX_AC hP (fun f => bif List.contains [102, 103, 92] f then 0 else 1) 200 60 (by kernel_rfl)
end Go.AM

set_option maxRecDepth 100000
open Go Go.Proofs
namespace Go.AM
theorem zf4 (t : Tm) : z9f t t = true := (zgz t t).2 rfl
theorem zrf : ∀ (l : List IBT) (i : Int) (u : Sto), (∀ e ∈ l, e.2.1 = false) → bnS l i u = u
 | [], _, _, _ => rfl
 | e :: l, i, u, h => by
  rw [bnS, if_neg (by rw [h e List.mem_cons_self]; decide)]
  exact zrf l _ u fun e he => h e (List.mem_cons_of_mem _ he)
theorem lay_free {l : List IBT} (h : ∀ e ∈ l, e.2.1 = false) : layS l = frS l sNil := zrf l 0 _ h
theorem zla {s : Sto} (hs : OKS s) {f : Int} {t : Tm} (h0 : 0 ≤ f) (hf : validB t = true → Fit f.toNat t) (he : (FullV s f t).2.2 = 0) : z04 (FullV s f t).1 = (FullV s f t).1 := by
 unfold FullV at he ⊢
 split at he
 · rename_i hv
   rw [if_pos hv]
   split at he
   · rename_i q
     rw [if_pos q]
     exact zlj (z02 _ (z3h hs f.toNat f t (Nat.le_refl _) h0 hv (hf hv) q).1.1)
   · rename_i q; exact absurd he q
 · cases he
theorem fitS {F : Nat} (hF : F ≤ 2000) {t : Tm} (hv : validB t = true) (hz : t.sz ≤ 24) (hb : bd 1000 t) : Fit F t := by
 refine ⟨z02 _ hv, by simp only [SZ]; omega, z5d ?_ _ hb, by omega⟩
 simp only [M61, SZ]
 omega
structure IH (s : Sto) (x : Int) (L : List Tm) (t : Tm) : Prop where
 ok : OKS (invertF s x L t 80).2
 vt : validB t = true
 vu : validB (invertF s x L t 80).1.1 = true
 lo : looseF (invertF s x L t 80).1.1 0 0 = 0
 su : (invertF s x L t 80).1.1.sz ≤ 40000
 fu : Fit 500 (invertF s x L t 80).1.1
 fa : Fit 1000 (applyF (invertF s x L t 80).1.1 L)
 la : L.length ≤ 80
 wi : ∀ f : Int, (FullV (invertF s x L t 80).2 f (invertF s x L t 80).1.1).2.2 = 0 → wG (lvP (invertF s x L t 80).2 (infOf (invertF s x L t 80).2.V x).lv) (FullV (invertF s x L t 80).2 f (invertF s x L t 80).1.1).1 0 = true
 eq : (FullV (invertF s x L t 80).2 1000 (applyF (invertF s x L t 80).1.1 L)).2.2 = 0 → (FullV (invertF s x L t 80).2 1000 t).2.2 = 0 → (FullV (invertF s x L t 80).2 1000 (applyF (invertF s x L t 80).1.1 L)).1 = (FullV (invertF s x L t 80).2 1000 t).1
theorem ih_of {n : Nat} {s : Sto} (sj : SJ n 0 s) {x : Int} {l : List Tm} {t : Tm} (hl : ∀ u ∈ l, u.sz ≤ 24 ∧ bd 1000 u) (hz : t.sz ≤ 24) (hb : bd 1000 t) (hvs : ((z0z t []).all fun w => !decide (w ≥ (n : Int))) = true)
  (ha : (z0o s x l 80).2.2 = 0) (hi : (invertF s x (z0o s x l 80).1 t 80).1.2.2 = 0) : IH s x (z0o s x l 80).1 t := by
 have hV := sj.V
 have hT := sj.T
 have hn := sj.n
 have a1 := z40 sj.ok x l 80 (fun u hu hv => fitS (F := (80 : Int).toNat) (by decide) hv (hl u hu).1 (hl u hu).2)
 have a2 := a1.2.1 (by decide) ha
 have a3 := argsF_bd sj.ok 1000 (by decide) (x := x) (l := l) (f := 80) (by decide) (fun u hu hv => fitS (F := (80 : Int).toNat + 1000) (by decide) hv (hl u hu).1 (hl u hu).2) ha
 generalize (z0o s x l 80).1 = L at *
 have hL80 : L.length ≤ 80 := by omega
 have hf : validB t = true → Fit (80 : Int).toNat t := fun hv => fitS (by decide) hv hz hb
 have vt : validB t = true ∧ ∀ u ∈ L, z2b u = true := by
  unfold invertF at hi
  split at hi
  · cases hi
  · rename_i hc
    simp only [Bool.or_eq_true, not_or] at hc
    exact ⟨by simpa using hc.1.2, fun u hu => by have := List.any_eq_false.1 (by simpa using hc.2 : (L.any fun u => !z2b u) = false) u hu; simpa using this⟩
 have pv : PV s t := PV_of (n := (n : Int)) (by omega) vt.1 hz hb hvs
 have k := zuo (C := 8 + 150) (by decide) sj.ok x (l := L) (t := t) (f := 80) (by decide) (by decide) (by simp only [Int.reduceToNat]; omega) (by simp only [Int.reduceToNat]; omega) (by omega) hf
 have kz := k.2.2.2 hi
 have vu := zib (C := 8 + 150) (by decide) sj.ok (x := x) (l := L) (t := t) (f := 80) (by decide) (by decide) (by simp only [Int.reduceToNat]; omega) (by simp only [Int.reduceToNat]; omega) (by omega) hf hi
 have lv := zue (C := 8 + 150) (by decide) sj.ok (f := 80) (by decide) (by decide) (by simp only [Int.reduceToNat]; omega) (by simp only [Int.reduceToNat]; omega) sj.lv x (l := L) (by omega) (t := t) hf pv
 have wg := lv.2 hi
 have cl := clV_of k.1 lv.1
 have ev := zpy (C := 8 + 150) (by decide) sj.ok (x := x) (l := L) (t := t) (f := 80) (by decide) (by decide) (by simp only [Int.reduceToNat]; omega) (by simp only [Int.reduceToNat]; omega) (by omega) hf hi cl (.refl _)
 have lvS := lv.1
 have ok := k.1
 have lo := zgb _ 0 0 wg (Int.le_refl _)
 have su := kz.2.2.2.2.1
 generalize hq : invertF s x L t 80 = q at *
 obtain ⟨⟨u, f', er⟩, S⟩ := q
 dsimp only at *
 have szl : Tm.szs L ≤ 80 := by
  have key : ∀ L : List Tm, (∀ u ∈ L, z2b u = true) → Tm.szs L = L.length := by
   intro L
   induction L with
   | nil => intro _; rfl
   | cons a r ih => intro h; rw [Tm.szs, (z35 (h a List.mem_cons_self)).1, ih fun u hu => h u (List.mem_cons_of_mem _ hu), List.length_cons]; omega
  rw [key L vt.2]; exact hL80
 have bu : ∀ M : Int, 40000 ≤ M → bd M u := fun M hM => zn3 M u 0 0 vu (Int.le_refl _) (by omega) (by omega)
 have fu : Fit 500 u := ⟨z02 _ vu, by simp only [SZ]; omega, bu _ (by simp only [M61, SZ]; omega), by decide⟩
 have va : validB (applyF u L) = true := z4o vu fun w hw => by have := vt.2 w hw; unfold z2b at this; rw [Bool.and_eq_true] at this; exact this.1
 have sa := z2m u L
 have fa : Fit 1000 (applyF u L) := ⟨z02 _ va, by simp only [SZ]; omega, z2n (bu _ (by simp only [M61, SZ]; omega)) (z63 fun w hw => z5d (by simp only [M61, SZ]; omega) _ (a3 w hw)), by decide⟩
 have fa' : Fit (1000 : Int).toNat (applyF u L) := fa
 refine ⟨by rw [hq]; exact ok, vt.1, by rw [hq]; exact vu, by rw [hq]; exact lo, by rw [hq]; exact su, by rw [hq]; exact fu, by rw [hq]; exact fa, hL80, ?_, ?_⟩
 · rw [hq]
   intro f _
   exact FullV_wG (lvS.sgL _) (Int.le_refl _) wg
 · rw [hq]
   intro h1 h2
   refine zsc ok cl (by decide) (by decide) (fun _ => fa') (fun hv => fitS (F := (1000 : Int).toNat) (by decide) hv hz hb) h1 h2 ?_
   rw [z2h]
   exact ev
section
variable (v : List IBT) (x : Int) (l : List Tm) (t : Tm) (h8 : v.length ≤ 8) (hr : l.length ≤ 6) (hlz : ∀ u ∈ l, u.sz ≤ 24 ∧ bd 1000 u) (hz : t.sz ≤ 24) (hb : bd 1000 t)
include h8 hr hlz hz hb
theorem l_ih5 (hvs : ((z0z t []).all fun w => !decide (w ≥ (v.length : Int))) = true) : ∀ (m i : Nat), i + m = v.length → (∀ e ∈ v.take i, e.2.1 = false) →
  RPt Tryz.prog 4 0 (cb true) [] 5 ⟨[(0, aV6 v), (1, ci x), (2, aL l), (7, .c (.a (.ep 0 4 0 0))), (9, cb true), (13, .c (.a (.ep 1 2 0 0))), (17, ci (i : Int))], [(0, obT t), (1, sto2 2 3 (layS v)), (2, .arz 6 (SR (layS v).V)), (3, .arz 1 (IR (layS v).T))], 4⟩
 | 0, i, hi, hn => by
  rw [List.take_of_length_le (by omega)] at hn
  have sj := sj_fr v h8
  rw [← lay_free hn] at sj
  have law := fun a b => ih_of sj (x := x) hlz hz hb hvs a b
  generalize layS v = s at *
  have hV := sj.V
  have hT := sj.T
  have hA := zu6 s sj.ok x 80 l (by omega) (by decide) (fun u hu => ⟨by have := (hlz u hu).1; simp only [B]; omega, fun hv => fitS (F := (80 : Int).toNat) (by decide) hv (hlz u hu).1 (hlz u hu).2⟩)
  have a1 := z40 sj.ok x l 80 (fun u hu hv => fitS (F := (80 : Int).toNat) (by decide) hv (hlz u hu).1 (hlz u hu).2)
  have hI := fun hL => zuq (C := 8 + 150) (by decide) s x (z0o s x l 80).1 t 80 (by decide) (by decide) sj.ok (by simp only [Int.reduceToNat]; omega) (by simp only [Int.reduceToNat]; omega) hL (fun u hu => by have := (a1.1 u hu).1; simp only [B]; omega) (by simp only [B]; omega) (fun hv => fitS (by decide) hv hz hb)
  have a2 := a1.2.1 (by decide)
  obtain ⟨tk, ts, tn, tl⟩ := t
  refine RPt.vc hP sh lv4 (Eq.mpr (v4_5a ..) ?_)
  rw [List.length_map]
  refine ⟨rfl, z00 (fun h => absurd (of_decide_eq_true h) (by omega)) (fun _ => ⟨z0o s x l 80, hA, z00 (fun _ => z05 rfl) (fun ha => ?_)⟩)⟩
  have ha : (z0o s x l 80).2.2 = 0 := by simpa using ha
  have a3 := a2 ha
  have hI := hI (by omega)
  refine ⟨invertF s x (z0o s x l 80).1 _ 80, hI, z00 (fun _ => z05 rfl) (fun hi => ?_)⟩
  have hi : (invertF s x (z0o s x l 80).1 (.mk tk ts tn tl) 80).1.2.2 = 0 := by simpa using hi
  have law := law ha hi
  generalize (z0o s x l 80).1 = L at *
  obtain ⟨ok, vt, vu, lo, su, fu, fa, la, wi, eq⟩ := law
  generalize invertF s x L (.mk tk ts tn tl) 80 = q at *
  obtain ⟨⟨u, f', er⟩, S⟩ := q
  dsimp only at *
  have fz := fa.sz
  have fu' : Fit (500 : Int).toNat u := fu
  have fa' : Fit (1000 : Int).toNat (applyF u L) := fa
  have k1 := z7r S x
  have k2 := z36 u (by simp only [B]; omega)
  have k3 := zc6 S ok 500 u (by decide) (by simp only [B]; omega) (fun _ => fu')
  have k4 := zqz u (by simp only [B]; omega) (z5d (by simp only [M61, SZ]; omega) _ fu.bd)
  have k5 := z3t u L (by have := Tm.szs_length u.l; have := u.sz_eq; omega)
  have k6 := zc6 S ok 1000 (applyF u L) (by decide) (by simp only [B, SZ] at *; omega) (fun _ => fa')
  have k7 := zc6 S ok 1000 (.mk tk ts tn tl) (by decide) (by simp only [B]; omega) (fun hv => fitS (F := (1000 : Int).toNat) (by decide) hv hz hb)
  rw [vu] at k2
  rw [lo] at k4
  refine ⟨((infOf S.V x).lv, (infOf S.V x).bd, (infOf S.V x).v, inB S.V x), k1, true, k2, FullV S 500 u, k3, z00 (fun h => by cases h) (fun _ => ⟨0, k4, z00 (fun h => by cases h) (fun _ => z00 (fun _ => z05 rfl) (fun h5 => ?_))⟩)⟩
  have h5 : (FullV S 500 u).2.2 = 0 := by simpa using h5
  have o5 := z3g ok (fun _ => fu') h5
  have k8 := zqb S (infOf S.V x).lv (FullV S 500 u).1 (z02 _ o5.2.1) (by have := o5.2.2.2.1; simp only [B, SZ] at *; omega) 0 (wi 500 h5)
  have k9 := zmr (FullV S 500 u).1 o5.2.2.2.1 o5.2.2.1
  rw [if_pos o5.2.1, zla ok (by decide) (fun _ => fu') h5] at k9
  have k10 := zu3 (FullV S 500 u).1 (by have := o5.2.2.2.1; simp only [B, SZ] at *; omega) (FullV S 500 u).1
  rw [zf4] at k10
  have k11 : (FullV S 1000 (applyF u L)).1.sz ≤ B := by
   by_cases e : (FullV S 1000 (applyF u L)).2.2 = 0
   · have := (z3g ok (fun _ => fa') e).2.2.2.1; simp only [B, SZ] at *; omega
   · unfold FullV at e ⊢
     split
     · rename_i q
       rw [if_pos q] at e
       split
       · rename_i q2; rw [if_pos q2] at e; exact absurd rfl e
       · show noT.sz ≤ B
         decide
     · decide
  have k12 := zu3 (FullV S 1000 (applyF u L)).1 k11 (FullV S 1000 (.mk tk ts tn tl)).1
  refine ⟨true, k8, applyF u L, k5, FullV S 1000 (applyF u L), k6, FullV S 1000 (.mk tk ts tn tl), k7, _, k12, (FullV S 500 u).1, k9, true, k10, z00 (fun _ => z00 (fun _ => z00 (fun _ => z00 (fun _ => z05 rfl) (fun e1 => z00 (fun _ => z05 rfl) (fun e2 => ?_))) (fun h => by cases h)) (fun h => by cases h)) (fun h => by cases h)⟩
  rw [eq (by simpa using e1) (by simpa using e2), zf4]
  exact z05 rfl
 | m + 1, i, hi, hn => by
  have hlt : i < v.length := by omega
  have hg := zbh hlt
  have next := fun h => l_ih5 hvs m (i + 1) (by omega) h
  rw [List.take_succ_eq_append_getElem hlt] at next
  obtain ⟨tk, ts, tn, tl⟩ := t
  refine RPt.vc hP sh lv4 (Eq.mpr (v4_5a ..) ?_)
  rw [List.length_map, Int.toNat_natCast, hg, w64 (x := (i : Int) + 1) (by omega) (by omega)]
  generalize v[i] = e at *
  obtain ⟨⟨a1, aI⟩, a2, ⟨⟨ek, es, en, el⟩, eI⟩⟩ := e
  have op : rIB v i (⟨a1, aI⟩, a2, ⟨.mk ek es en el, eI⟩) := ⟨rfl, by omega, by omega, rfl⟩
  refine ⟨rfl, z00 (fun _ => ⟨op, z00 (fun _ => z05 rfl) (fun h => ?_)⟩) (fun h => absurd (of_decide_eq_false h) (by omega))⟩
  have h : a2 = false := h
  refine next fun e he => ?_
  rcases List.mem_append.1 he with he | he
  · exact hn e he
  · rw [List.mem_singleton.1 he]; exact h
theorem l_ih1 (vs : List Int) (hvs : vs = z0z t []) (hvl : vs.length ≤ 1000) : ∀ (b a : List Int), vs = a ++ b → (∀ w ∈ a, w < (v.length : Int)) →
  RPt Tryz.prog 4 0 (cb true) [] 1 ⟨[(0, aV6 v), (1, ci x), (2, aL l), (7, .c (.a (.ep 0 4 0 0))), (9, cb true), (13, .c (.a (.ep 1 2 0 0))), (15, aI vs), (16, ci (a.length : Int))], [(0, obT t), (1, sto2 2 3 (layS v)), (2, .arz 6 (SR (layS v).V)), (3, .arz 1 (IR (layS v).T))], 4⟩
 | [], a, ha, hin => by
  rw [List.append_nil] at ha
  have next := l_ih5 v x l t h8 hr hlz hz hb (List.all_eq_true.2 fun w hw => by
   have := hin w (by rw [← ha, hvs]; exact hw)
   simp only [Bool.not_eq_true', decide_eq_false_iff_not]; omega) v.length 0 (by omega) (fun e he => by simp at he)
  obtain ⟨tk, ts, tn, tl⟩ := t
  refine RPt.vc hP sh lv4 (Eq.mpr (v4_1a ..) ?_)
  exact ⟨rfl, z00 (fun h => absurd (of_decide_eq_true h) (by rw [show FV.ses (.sl false 1 (IR vs)) = IR vs from rfl, IR_len, ha]; omega)) (fun _ => next)⟩
 | w :: b, a, ha, hin => by
  have em : List.getD (FV.ses (.sl false 1 (IR vs))) (Int.toNat (a.length : Int)) [] = [.int .i64 w] := by rw [ha]; exact IR_mid a w b
  have el : (FV.ses (.sl false 1 (IR vs))).length = vs.length := IR_len vs
  have hlen : vs.length = a.length + (b.length + 1) := by rw [ha]; simp
  have next := fun h => l_ih1 vs hvs hvl b (a ++ [w]) (by rw [ha]; simp) h
  rw [show (((a ++ [w]).length : Nat) : Int) = (a.length : Int) + 1 by simp] at next
  obtain ⟨tk, ts, tn, tl⟩ := t
  refine RPt.vc hP sh lv4 (Eq.mpr (v4_1a ..) ?_)
  rw [em, el, List.length_map, w64 (x := (a.length : Int) + 1) (by omega) (by omega)]
  have op : FV.isSl 1 (.sl false 1 (IR vs)) = true ∧ ((0 : Int) ≤ (a.length : Int) ∧ (((a.length : Int) < ((vs.length : Nat) : Int)) ∧ (([.int .i64 (FV.asI (List.getD [FV.int .i64 w] 0 FV.nils))] : List FV) = [.int .i64 w]))) := ⟨rfl, by omega, by omega, rfl⟩
  refine ⟨rfl, z00 (fun _ => ⟨op, rfl, z00 (fun _ => z05 rfl) (fun h => ?_)⟩) (fun h => absurd (of_decide_eq_false h) (by omega))⟩
  have h : ¬ w ≥ (v.length : Int) := of_decide_eq_false h
  refine next fun y hy => ?_
  rcases List.mem_append.1 hy with hy | hy
  · exact hin y hy
  · rw [List.mem_singleton.1 hy]; omega
end
theorem zfu (v : List IBT) (x : Int) (l : List Tm) (t : Tm) (hv : ∀ e ∈ v, e.2.2.1.bk ≤ B) (hl : ∀ u ∈ l, u.bk ≤ B) (ht : t.bk ≤ B) : AC Tryz.prog 4 [aV6 v, ci x, aL l, aT t] [] (cb true) [] := by
 have c0 := zrk
 have c1 := c_over16 v hv
 have c2 := zt5 l hl
 have c3 := zt5 [t] (fun u hu => by simp at hu; subst hu; exact ht)
 have zb := Tm.sz_bk t
 have c4 := fun a b => c_laid16 v a hv b
 have c5 := c_vars t (by omega)
 have next := fun h8 hr hlz hz hb hvl => l_ih1 v x l t h8 hr hlz hz hb (z0z t []) rfl hvl (z0z t []) [] rfl (fun w hw => nomatch hw)
 have lenv := z59 t []
 obtain ⟨tk, ts, tn, tl⟩ := t
 refine AC.vc hP sh lv4 (Nat.le_refl _) (by simp) (by simp) (Eq.mpr (v4 (v.map FIBT) x (FTs l) tk ts tn (FTs tl) ..) ?_)
 refine ⟨_, c0, z00 (fun q => by cases q) (fun _ => ⟨_, c1, _, c2, ⟨rfl, Nat.le_refl _⟩, _, c3, rfl, z00 (fun _ => z05 rfl) (fun q1 => z00 (fun _ => z05 rfl) (fun q2 => z00 (fun _ => z05 rfl) (fun q3 => ?_)))⟩)⟩
 have w1 := overI_no q1
 have w2 := zsx q2
 have w3 := (zsx q3).2 _ List.mem_cons_self
 exact ⟨(layS v, layS v), c4 w1.2 w1.1, _, c5, next w1.1 (by omega) w2.2 w3.1 w3.2 (by simp only [List.length_nil] at lenv; omega)⟩
end Go.AM
