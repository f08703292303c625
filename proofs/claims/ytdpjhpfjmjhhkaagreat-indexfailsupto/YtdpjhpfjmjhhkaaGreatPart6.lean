/- A calculus of plain values for the model's code, what the code of each function asks (computed by the kernel), contracts of the functions, and plain laws (part 6). No conditions. -/
import Derived.Test.YtdpjhpfjmjhhkaaGreatPart5
import Derived.Test.YtdpjhpfjmjhhkaaGreatPart4
import Derived.Test.YtdpjhpfjmjhhkaaGreatPart3
set_option maxRecDepth 100000
open Go Go.Proofs
namespace Go.AM
theorem zoo {s : Sto} {D : Nat} {f : Int} {t : Tm} (h : (z0g s D f t).2.1 = 0) : 1 ≤ f ∧ 0 ≤ (z0g s D f t).2.2 ∧ (z0g s D f t).2.2 ≤ f - 1 := by
 cases D with
 | zero => cases h
 | succ D =>
  rw [z0g] at h ⊢
  split at h
  · cases h
  · rename_i hf
    rw [if_neg hf]
    have h1 := zic s (f - 1).toNat t
    have h2 : 0 ≤ (z8c s (f - 1) t).2.2 ∧ (z8c s (f - 1) t).2.2 ≤ f - 1 := by simp only [z8c]; omega
    have h3 := z6k (z4q s D) (z8c s (f - 1) t).1.l ((z8c s (f - 1) t).1.k == 6) _ h2.1
    refine ⟨by omega, ?_⟩
    unfold zio
    split
    · exact ⟨h2.1, by simp only; omega⟩
    · unfold za8
      split <;> exact ⟨h3.1, by simp only; omega⟩
theorem zpt {s : Sto} {f : Int} {t : Tm} (h : (z1v s f t).2.2 = 0) : 1 ≤ f ∧ 0 ≤ (z1v s f t).2.1 ∧ (z1v s f t).2.1 ≤ f - 1 := by
 unfold z1v at h ⊢
 split at h
 · rename_i hv
   rw [if_pos hv]
   split at h
   · rename_i h1; rw [if_pos h1]; exact zoo h1
   · rename_i h1; exact absurd h h1
 · cases h
theorem zg8 {s : Sto} (lv : Int) : ∀ (l out : List Tm) (f : Int), 0 ≤ f → (z3y s lv out l f).2.2 = 0 → 0 ≤ (z3y s lv out l f).2.1 ∧ ((z3y s lv out l f).1.length : Int) + (z3y s lv out l f).2.1 ≤ (out.length : Int) + f
 | [], out, f, h0, _ => ⟨h0, Int.le_refl _⟩
 | t :: l, out, f, h0, h => by
  rw [z3y] at h ⊢
  split at h
  · rename_i h1; exact absurd h h1
  · rename_i h1
    rw [if_neg h1]
    split at h
    · cases h
    · rename_i h2
      rw [if_neg h2]
      have hd := zpt (by simpa using h1 : (z1v s f t).2.2 = 0)
      have := zg8 lv l (out ++ [z1c (z1v s f t).1]) (z1v s f t).2.1 hd.2.1 h
      simp only [List.length_append, List.length_cons, List.length_nil] at this
      omega
def lfP (t : Tm) : Prop := t.sz = 1 ∧ (t.k = 3 ∨ t.k = 1) ∧ t.l = [] ∧ bd M61 t ∧ z02 t = true
theorem leafF_P {u : Tm} (hv : z02 u = true) (hb : bd M61 u) (h : z4a u = true) : lfP (z1c u) := by
 have so := z5k _ (z09 _ hv)
 have vs : z02 (z08 u) = true := by rw [z2t, so.1, so.2.1 (z3u hv)]; rfl
 have bs := so.2.2.2 _ (by simp only [M61]; omega) hb
 have e : z1c u = z08 u := by rw [z1c, if_pos h]
 rw [e]
 have hk : (z08 u).k = 3 ∨ (z08 u).k = 1 := by
  unfold z4a at h
  simpa using h
 generalize z08 u = w at *
 obtain ⟨k, s, n, l⟩ := w
 have hk : k = 3 ∨ k = 1 := hk
 have hl : l = [] := okB0 (z09 _ vs) (by omega) (by omega)
 subst hl
 exact ⟨rfl, hk, rfl, bs, vs⟩
theorem zny {s : Sto} (hs : OKS s) (lv : Int) : ∀ (l out : List Tm) (f : Int), (∀ t ∈ l, z02 t = true → Fit f.toNat t) → (∀ t ∈ out, lfP t) → ∀ t ∈ (z3y s lv out l f).1, lfP t
 | [], out, f, _, ho => ho
 | t :: l, out, f, hl, ho => by
  rw [z3y]
  split
  · exact fun t h => nomatch h
  · rename_i he
    have ok := zew hs (hl t List.mem_cons_self) (by simpa using he)
    split
    · exact fun t h => nomatch h
    · rename_i hb
      have hlb : z4a (z1v s f t).1 = true := by
       rw [z6o] at hb
       simp only [Bool.or_eq_true, not_or, Bool.not_eq_true', Bool.not_eq_false] at hb
       exact hb.1.1
      exact zny hs lv l _ _ (fun u hu hv => (hl u (List.mem_cons_of_mem _ hu) hv).mono (by have := ok.2.2.2.2.2; omega)) (fun u hu => by
       rcases List.mem_append.1 hu with hu | hu
       · exact ho u hu
       · simp at hu; subst hu; exact leafF_P ok.2.1 ok.2.2.1 hlb)
theorem z86 {s : Sto} (hs : OKS s) (x : Int) (l : List Tm) (f : Int) (hl : ∀ t ∈ l, z02 t = true → Fit f.toNat t) : (∀ t ∈ (z1f s x l f).1, lfP t) ∧ (0 ≤ f → (z1f s x l f).2.2 = 0 → 0 ≤ (z1f s x l f).2.1 ∧ ((z1f s x l f).1.length : Int) + (z1f s x l f).2.1 ≤ f ∧ inB s.V x = true) ∧ ((z1f s x l f).2.2 ≠ 0 → (z1f s x l f).1 = []) := by
 unfold z1f
 split
 · exact ⟨(fun t h => by cases h), (fun _ h => by cases h), fun _ => rfl⟩
 · rename_i hc
   refine ⟨zny hs _ l [] f hl (fun t h => nomatch h), fun h0 he => ?_, fun he => ?_⟩
   · have := zg8 (s := s) (infOf s.V x).lv l [] f h0 he
     simp only [List.length_nil] at this
     refine ⟨this.1, by omega, ?_⟩
     simp only [Bool.or_eq_true, not_or, Bool.not_eq_true', Bool.not_eq_false] at hc
     exact hc.1
   · have key : ∀ (l out : List Tm) (f : Int), (z3y s (infOf s.V x).lv out l f).2.2 ≠ 0 → (z3y s (infOf s.V x).lv out l f).1 = [] := by
      intro l
      induction l with
      | nil => exact fun out f h => absurd rfl h
      | cons t l ih =>
       intro out f h
       rw [z3y] at h ⊢
       split
       · rfl
       · rename_i h1
         rw [if_neg h1] at h
         split
         · rfl
         · rename_i h2; rw [if_neg h2] at h; exact ih _ _ h
     exact key l [] f he
theorem z7k {s : Sto} (hs : OKS s) {f : Int} {t : Tm} (h0 : 0 ≤ f) (hf : z02 t = true → Fit f.toNat t) (he : (z0w s f t).2.2 = 0) : z02 (z0w s f t).1 = true ∧ Fit (z0w s f t).2.1.toNat (z0w s f t).1 ∧ 0 ≤ (z0w s f t).2.1 ∧ (z0w s f t).2.1 ≤ f := by
 unfold z0w at he ⊢
 split at he
 · rename_i hv
   rw [if_pos hv]
   have hq := z87 hs hv (hf hv)
   split at he
   · rename_i h1
     rw [if_pos h1]
     obtain ⟨hu, hq⟩ := hq
     rcases hq with ⟨_, a, b, _⟩ | ⟨h80, _⟩
     · refine ⟨a, ?_, by simp only; omega, by simp only; omega⟩
       have : (f - ((runH s f.toNat t).2.2 : Int)).toNat = f.toNat - (runH s f.toNat t).2.2 := by omega
       simp only [this]; exact b
     · rw [h80] at h1; cases h1
   · rename_i h1; exact absurd he h1
 · cases he
theorem zam : ∀ (n : Nat) (f : Tm), (z5j n f).sz = n + f.sz
 | 0, f => by rw [z5j]; omega
 | n + 1, f => by
  rw [z5j, zam n]
  simp only [Tm.sz, Tm.szs, List.length_nil]; omega
theorem zf1 {M : Int} : ∀ (n : Nat) {t : Tm}, bd M t → bd M (z5j n t)
 | 0, _, h => h
 | n + 1, t, h => by
  rw [z5j]
  exact zf1 n ⟨fun e => absurd e (by decide), h, trivial⟩
def LP (L : List Tm) : Prop := L.length ≤ 900 ∧ ∀ t ∈ L, t.sz = 1
theorem ze0 : ∀ {l : List Tm}, (∀ t ∈ l, t.sz = 1) → Tm.szs l = l.length
 | [], _ => rfl
 | t :: l, h => by rw [Tm.szs, h t List.mem_cons_self, ze0 fun u hu => h u (List.mem_cons_of_mem _ hu), List.length_cons]; omega
theorem bnd_P {n : Int} (h0 : 0 ≤ n) (h1 : n ≤ 2199023255552) : (bV3 n).sz = 1 ∧ bd 2199023255552 (bV3 n) := by
 refine ⟨rfl, fun _ => ⟨?_, ?_⟩, trivial⟩
 · show -2199023255552 ≤ n; omega
 · show n ≤ 2199023255552; omega
theorem imgs_P (lv : Int) (L : List Tm) (k : Int) (m : Nat) (hm : m ≤ 100000) : ∀ (l : List Tm) (i : Nat) (a : List Tm × List Tm), i + l.length ≤ m → (∀ t ∈ a.1, t.sz = 1 ∧ bd 2199023255552 t) → ∀ t ∈ (imgs lv L k m l i a).1, t.sz = 1 ∧ bd 2199023255552 t
 | [], _, _, _, h => h
 | t :: l, i, a, hi, h => by
  rw [imgs]
  simp only [List.length_cons] at hi
  refine imgs_P lv L k m hm l (i + 1) _ (by omega) ?_
  split
  · intro u hu
    rcases List.mem_append.1 hu with hu | hu
    · exact h u hu
    · simp at hu; subst hu; exact bnd_P (by omega) (by omega)
  · exact h
theorem one_bd {t : Tm} {M : Int} (h : t.sz = 1) (hk : t.k = 1) : t.sz = 1 ∧ bd M t := by
 refine ⟨h, ?_⟩
 obtain ⟨k, s, n, l⟩ := t
 have hk : k = 1 := hk
 have hl : l = [] := by
  cases l with
  | nil => rfl
  | cons a b =>
   have := a.sz_pos
   simp only [Tm.sz, Tm.szs] at h; omega
 subst hl
 exact ⟨fun q => by omega, trivial⟩
theorem znn (c : Bool) (lvy k : Int) (n : Nat) : ∀ (l : List Tm) (i : Nat) (a : List Tm × List Tm), (∀ t ∈ l, t.sz = 1) → (∀ t ∈ a.1, t.sz = 1 ∧ bd 2199023255552 t) → ∀ t ∈ (z6n c lvy k n l i a).1, t.sz = 1 ∧ bd 2199023255552 t
 | [], _, _, _, h => h
 | t :: l, i, a, hl, h => by
  rw [z6n]
  refine znn c lvy k n l (i + 1) _ (fun u hu => hl u (List.mem_cons_of_mem _ hu)) ?_
  split
  · rename_i hq
    simp only [Bool.and_eq_true, beq_iff_eq] at hq
    intro u hu
    rcases List.mem_append.1 hu with hu | hu
    · exact h u hu
    · simp at hu; subst hu; exact one_bd (hl _ List.mem_cons_self) hq.2.1
  · exact h
theorem onF_P {L : List Tm} (hL : LP L) (lv lvy k : Int) (ls : List Tm) (hls : ls.length ≤ 900) : (onF lv lvy L k ls).1.length ≤ 1800 ∧ (onF lv lvy L k ls).1.length = (onF lv lvy L k ls).2.length ∧ ∀ t ∈ (onF lv lvy L k ls).1, t.sz = 1 ∧ bd 2199023255552 t := by
 have il := z88 lv L k ls.length ls 0 ([], []) rfl
 have ml := z5l (decide (lvy > lv)) lvy k L.length L 0 _ il.1
 have h1 := hL.1
 simp only [List.length_nil, Nat.zero_add] at il ml
 refine ⟨?_, ml.1, znn _ _ _ _ L 0 _ hL.2 (imgs_P lv L k ls.length (by omega) ls 0 ([], []) (by omega) (fun t h => nomatch h))⟩
 have := ml.2
 unfold onF
 omega
theorem zjb {s : Sto} {m : Nat} {on : List Tm} (hV : s.V.length ≤ 1073741824) (hm : m ≤ 900) (ho : on.length ≤ 1800) (h : ∀ t ∈ on, t.sz = 1 ∧ bd 2199023255552 t) : (z5t s m on).sz ≤ 40000 ∧ bd 2199023255552 (z5t s m on) := by
 have h1 := z2g (.mk 4 [] (s.V.length : Int) []) on
 have h2 := ze0 fun t ht => (h t ht).1
 have h3 : (Tm.mk 4 [] (s.V.length : Int) []).sz = 1 := rfl
 refine ⟨by rw [z5t, zam]; omega, zf1 _ (z2j ⟨fun _ => ⟨?_, ?_⟩, trivial⟩ (z71 fun t ht => (h t ht).2))⟩
 · show -2199023255552 ≤ ((s.V.length : Nat) : Int); omega
 · show ((s.V.length : Nat) : Int) ≤ 2199023255552; omega
structure GI (C : Nat) (q : IS) : Prop where
 ok : OKS q.s
 V : q.s.V.length + q.f.toNat ≤ C
 T : q.s.T.length + q.f.toNat ≤ C
 f0 : -9223372036854775808 ≤ q.f
 f1 : q.f ≤ 900
theorem GI.fail {C : Nat} {q : IS} (h : GI C q) (e : Int) : GI C (z2y q e) := by
 unfold z2y
 split
 · exact ⟨h.ok, h.V, h.T, h.f0, h.f1⟩
 · exact h
theorem z6c (q : IS) (e : Int) : (z2y q e).f = q.f := by unfold z2y; split <;> rfl
theorem GI.less {C : Nat} {q : IS} (h : GI C q) {f : Int} (h0 : 0 ≤ f) (h1 : f ≤ q.f) : GI C ⟨q.s, f, q.e⟩ := ⟨h.ok, by have := h.V; simp only; omega, by have := h.T; simp only; omega, by simp only; omega, by have := h.f1; simp only; omega⟩
theorem zhj (s : Sto) (lv : Int) : (freshS s lv).V.length = s.V.length + 1 ∧ (freshS s lv).T = s.T := by
 constructor
 · simp [freshS]
 · rfl
theorem z61 (s : Sto) (x : Int) (t : Tm) : (bindS s x t).T.length ≤ s.T.length + 1 := by
 by_cases q : z45 s x t = true
 · rw [(z1l q).1]; simp
 · rw [(z39 (by simpa using q)).1]; omega
theorem OKS.hang {s : Sto} (h : OKS s) (y lv : Int) {m : Nat} {on : List Tm} (hp : (z5t s m on).sz ≤ 40000 ∧ bd 2199023255552 (z5t s m on)) : OKS (z31 s y lv m on) := by
 refine OKS.bindA (fun i hi hb => ?_) hp.1 hp.2
 rcases List.mem_append.1 hi with hi | hi
 · exact h i hi hb
 · simp at hi; subst hi; cases hb
theorem zii (lv : Int) (L : List Tm) (q : IS) (y k : Int) (ls : List Tm) (f : Int) : (za4 lv L q y k ls f).2.f = f := by unfold za4; split <;> rfl
theorem gi_flexG {C : Nat} (hC : C ≤ 1073741824) {L : List Tm} (hL : LP L) {lv : Int} {q : IS} (h : GI C q) (y k : Int) (ls : List Tm) {f : Int} (h0 : 0 ≤ f) (h1 : f ≤ q.f) (hV : q.s.V.length + f.toNat + 1 ≤ C) (hT : q.s.T.length + f.toNat + 1 ≤ C) (hls : ls.length ≤ 900) : GI C (za4 lv L q y k ls f).2 := by
 have hf1 := h.f1
 unfold za4
 split
 · exact h.less h0 h1
 · have o := onF_P hL lv (infOf q.s.V y).lv k ls hls
   have hp := zjb (s := q.s) (m := ls.length) (by omega) hls o.1 o.2.2
   have e1 := zhj q.s (z0t [lv, (infOf q.s.V y).lv])
   refine ⟨h.ok.hang y _ hp, ?_, ?_, by simp only; omega, by simp only; omega⟩
   · show (z31 _ _ _ _ _).V.length + f.toNat ≤ C
     rw [z31, z1b, e1.1]; omega
   · show (z31 _ _ _ _ _).T.length + f.toNat ≤ C
     have := z61 (freshS q.s (z0t [lv, (infOf q.s.V y).lv])) y (z5t q.s ls.length (onF lv (infOf q.s.V y).lv L k ls).1)
     rw [e1.2] at this
     rw [z31]; omega
theorem gi_flexF {C : Nat} (hC : C ≤ 1073741824) {L : List Tm} (hL : LP L) {lv : Int} {q : IS} (h : GI C q) (h0 : 0 ≤ q.f) (hV : q.s.V.length + q.f.toNat + 1 ≤ C) (hT : q.s.T.length + q.f.toNat + 1 ≤ C) (y : Int) (l : List Tm) (k : Int) (hl : ∀ t ∈ l, z02 t = true → Fit q.f.toNat t) :
  GI C (z30 lv L q y l k).2 ∧ (z30 lv L q y l k).2.f ≤ q.f ∧ 0 ≤ (z30 lv L q y l k).2.f := by
 have ha := z86 h.ok y l q.f hl
 unfold z30
 split
 · exact ⟨h.fail _, by rw [z6c]; exact Int.le_refl _, by rw [z6c]; exact h0⟩
 · rename_i he
   have ha2 := ha.2.1 h0 (by simpa using he)
   have hf1 := h.f1
   exact ⟨gi_flexG hC hL h y k _ ha2.1 (by omega) (by omega) (by omega) (by omega), by rw [zii]; omega, by rw [zii]; exact ha2.1⟩
theorem lfP_n {t : Tm} (hb : bd M61 t) (hk : t.k = 3) : -4611686018427387904 ≤ t.n ∧ t.n ≤ 4611686018427387904 := by
 obtain ⟨k, s, n, l⟩ := t
 have hk : k = 3 := hk
 have := hb.1 hk
 simp only [M61] at this
 exact ⟨by show -4611686018427387904 ≤ n; omega, by show n ≤ 4611686018427387904; omega⟩
theorem zjl {C : Nat} (hC : C ≤ 1073741824) {L : List Tm} (hL : LP L) (x : Int) {lv : Int} {q : IS} (h : GI C q) (h0 : 0 ≤ q.f) (hV : q.s.V.length + q.f.toNat + 1 ≤ C) (hT : q.s.T.length + q.f.toNat + 1 ≤ C) (y : Int) (l : List Tm) (k : Int) (hlen : l.length ≤ 1000000000) (hl : ∀ t ∈ l, t.sz ≤ B ∧ (z02 t = true → Fit q.f.toNat t)) (hk0 : 0 ≤ k) (hk1 : k ≤ 1099511627776) :
  AC Tryz.prog 93 [aIV, ci y, aL l, ci k] (oIs x lv L q.f q.e q.s) (aT (z30 lv L q y l k).1) (oIt x lv L (z30 lv L q y l k).2.f (z30 lv L q y l k).2.e (z30 lv L q y l k).2.s) := by
 have ha := z86 h.ok y l q.f (fun t ht => (hl t ht).2)
 have hf1 := h.f1
 have hL1 := hL.1
 have hls : (z1f q.s y l q.f).1.length ≤ 900 := by
  by_cases he : (z1f q.s y l q.f).2.2 = 0
  · have := ha.2.1 h0 he; omega
  · rw [ha.2.2 he]; simp
 refine c_iflex x lv L q y l k (by omega) hk0 hk1 (zq7 q.s h.ok y q.f l (by omega) (by omega) hl) (by omega) (fun t ht => ?_) (fun _ => ?_)
 · exact zld x lv L _ _ _ t k (by omega) (lfP_n (ha.1 t ht).2.2.2.1) hk0 hk1
 · have o := onF_P hL lv (infOf q.s.V y).lv k (z1f q.s y l q.f).1 hls
   have hp := zjb (s := q.s) (m := (z1f q.s y l q.f).1.length) (by omega) hls o.1 o.2.2
   exact c_hang q.s y _ _ _ (by omega) (by omega) (by omega) (by omega) (by have := hp.1; simp only [B]; omega) (z6m (by simp only [M61]; omega) _ hp.2)
end Go.AM

set_option maxRecDepth 100000
open Go Go.Proofs
namespace Go.AM
def z2n (tm : IS → Tm → Tm × IS) : List Tm → IS → List Tm × IS
 | [], q => ([], q)
 | t :: l, q => ((tm q t).1 :: (z2n tm l (tm q t).2).1, (z2n tm l (tm q t).2).2)
def zhv (lv : Int) (L : List Tm) (tm : IS → Tm → Tm × IS) (q : IS) (h : Tm) (l : List Tm) (k : Int) : Tm × IS :=
 if (h.k = 3 ∨ h.k = 1) ∧ (imgT lv L h k).2 = false then (noT, z2y q 170)
 else (z07 (if h.k = 3 ∨ h.k = 1 then (imgT lv L h k).1 else h) (z2n tm l q).1, (z2n tm l q).2)
def z63 (x lv : Int) (L : List Tm) (tm : IS → Tm → Int → Tm × IS) (q : IS) (h : Tm × List Tm) (k : Int) : Tm × IS :=
 if h.1.k = 5 then (z5j 1 (tm q (hd h.1.l) (k + 1)).1, (tm q (hd h.1.l) (k + 1)).2)
 else if h.1.k = 4 then (if h.1.n = x then (noT, z2y q 170) else z30 lv L q h.1.n h.2 k)
 else zhv lv L (fun q t => tm q t k) q h.1 h.2 k
def zma (x lv : Int) (L : List Tm) (tm : IS → Tm → Int → Tm × IS) (q : IS) (z : Tm × Int × Int) (k : Int) : Tm × IS :=
 if z.2.2 ≠ 0 then (noT, z2y q z.2.2) else z63 x lv L tm ⟨q.s, z.2.1, q.e⟩ (z04 z.1) k
def z0x (x lv : Int) (L : List Tm) : Nat → IS → Tm → Int → Tm × IS
 | 0, q, _, _ => if q.e ≠ 0 then (noT, q) else (noT, z2y q 80)
 | D + 1, q, t, k => if q.e ≠ 0 then (noT, q) else if q.f ≤ 0 then (noT, z2y q 80) else zma x lv L (z0x x lv L D) q (z0w q.s (q.f - 1) t) k
theorem zaa {z : Tm} {F : Nat} (hv : z02 z = true) (hf : Fit F z) : (z02 (z04 z).1 = true ∧ Fit F (z04 z).1) ∧ (∀ t ∈ (z04 z).2, t.sz ≤ SZ ∧ (z02 t = true → Fit F t)) ∧ (z04 z).2.length ≤ SZ ∧ ∀ u ∈ (z04 z).1.l, u.sz ≤ SZ ∧ (z02 u = true → Fit F u) := by
 have hsz := hf.sz
 have hlen := Tm.szs_length z.l
 have hse := z.sz_eq
 have kids : ∀ w : Tm, Fit F w → ∀ u ∈ w.l, u.sz ≤ SZ ∧ (z02 u = true → Fit F u) := fun w hw u hu => ⟨(hw.kid hu).sz, fun _ => hw.kid hu⟩
 unfold z04
 split
 · rename_i h6
   obtain ⟨k, s, n, l⟩ := z
   have h6k : k = 6 := h6.1
   obtain ⟨x, y, r, rfl, hx6, _⟩ := okB6 (z09 _ hv) h6k
   have hx := z24 hv (.inr h6k) x List.mem_cons_self
   have hfx : Fit F x := hf.kid (show x ∈ Tm.l (.mk k s n (x :: y :: r)) from List.mem_cons_self)
   refine ⟨⟨hx, hfx⟩, fun t ht => kids _ hf t (List.mem_of_mem_drop ht), ?_, fun u hu => kids x hfx u hu⟩
   simp only [Tm.l, List.length_cons, List.length_drop] at hlen hse ⊢
   omega
 · exact ⟨⟨hv, hf⟩, (fun t h => nomatch h), Nat.zero_le _, fun u hu => kids z hf u hu⟩
section
variable {C : Nat} (hC : C ≤ 1073741824) {L : List Tm} (hL : LP L) (x lv : Int)
include hC hL
omit hC hL in
theorem zqb {tm : IS → Tm → Tm × IS} {f0 : Int} (htm : ∀ q t, GI C q → 0 ≤ q.f → q.f ≤ f0 → (q.e = 0 → z02 t = true → Fit q.f.toNat t) → GI C (tm q t).2 ∧ (tm q t).2.f ≤ q.f ∧ 0 ≤ (tm q t).2.f) :
  ∀ (l : List Tm) (q : IS), GI C q → 0 ≤ q.f → q.f ≤ f0 → (∀ t ∈ l, z02 t = true → Fit q.f.toNat t) → GI C (z2n tm l q).2 ∧ (z2n tm l q).2.f ≤ q.f ∧ 0 ≤ (z2n tm l q).2.f
 | [], q, h, h0, _, _ => ⟨h, Int.le_refl _, h0⟩
 | t :: l, q, h, h0, h1, hl => by
  have a := htm q t h h0 h1 (fun _ => hl t List.mem_cons_self)
  have b := zqb htm l (tm q t).2 a.1 a.2.2 (by omega) (fun u hu hv => (hl u (List.mem_cons_of_mem _ hu) hv).mono (by omega))
  exact ⟨b.1, by show (z2n tm l (tm q t).2).2.f ≤ q.f; omega, b.2.2⟩
theorem zas : ∀ (D : Nat) (q : IS) (t : Tm) (k : Int), GI C q → 0 ≤ q.f → (q.e = 0 → z02 t = true → Fit q.f.toNat t) → GI C (z0x x lv L D q t k).2 ∧ (z0x x lv L D q t k).2.f ≤ q.f ∧ 0 ≤ (z0x x lv L D q t k).2.f
 | 0, q, t, k, h, h0, _ => by
  rw [z0x]
  split
  · exact ⟨h, Int.le_refl _, h0⟩
  · exact ⟨h.fail _, by rw [z6c]; exact Int.le_refl _, by rw [z6c]; exact h0⟩
 | D + 1, q, t, k, h, h0, hf => by
  rw [z0x]
  have hfl : ∀ e, GI C (z2y q e) ∧ (z2y q e).f ≤ q.f ∧ 0 ≤ (z2y q e).f := fun e => ⟨h.fail _, by rw [z6c]; exact Int.le_refl _, by rw [z6c]; exact h0⟩
  split
  · exact ⟨h, Int.le_refl _, h0⟩
  · rename_i he
    have he : q.e = 0 := by simpa using he
    split
    · exact hfl _
    · rename_i hf0
      have hV := h.V
      have hT := h.T
      have hfit : z02 t = true → Fit (q.f - 1).toNat t := fun hv => (hf he hv).mono (by omega)
      unfold zma
      split
      · exact hfl _
      · rename_i hz
        have ok := z7k h.ok (by omega) hfit (by simpa using hz)
        generalize z0w q.s (q.f - 1) t = z at *
        obtain ⟨z1, z2, z3⟩ := z
        simp only at ok ⊢
        obtain ⟨hv, hfz, hz0, hz1⟩ := ok
        have sp := zaa hv hfz
        have g : GI C ⟨q.s, z2, q.e⟩ := h.less hz0 (by omega)
        have hfl : ∀ e, GI C (z2y ⟨q.s, z2, q.e⟩ e) ∧ (z2y ⟨q.s, z2, q.e⟩ e).f ≤ q.f ∧ 0 ≤ (z2y ⟨q.s, z2, q.e⟩ e).f := fun e => ⟨g.fail _, by rw [z6c]; simp only; omega, by rw [z6c]; exact hz0⟩
        have ih := fun q' t' k' => zas D q' t' k'
        unfold z63
        split
        · rename_i h5
          have hne : (z04 z1).1.l ≠ [] := fun e => by
           have o := z09 _ sp.1.1
           generalize (z04 z1).1 = w at *
           obtain ⟨wk, ws, wn, wl⟩ := w
           obtain ⟨u, hu, _⟩ := okB5 o h5
           rw [hu] at e; cases e
          have hm : hd (z04 z1).1.l ∈ (z04 z1).1.l := by
           cases hl : (z04 z1).1.l with
           | nil => exact absurd hl hne
           | cons a b => exact List.mem_cons_self
          have := ih ⟨q.s, z2, q.e⟩ (hd (z04 z1).1.l) (k + 1) g hz0 (fun _ hv => (sp.2.2.2 _ hm).2 hv)
          simp only at this
          exact ⟨this.1, by simp only; omega, this.2.2⟩
        · split
          · split
            · exact hfl _
            · have := gi_flexF hC hL (lv := lv) g hz0 (by simp only; omega) (by simp only; omega) (z04 z1).1.n (z04 z1).2 k (fun t ht => (sp.2.1 t ht).2)
              simp only at this
              exact ⟨this.1, by omega, this.2.2⟩
          · unfold zhv
            split
            · exact hfl _
            · have := zqb (tm := fun q t => z0x x lv L D q t k) (f0 := z2) (fun q' t' a b _ d => ih q' t' k a b d) (z04 z1).2 ⟨q.s, z2, q.e⟩ g hz0 (Int.le_refl _) (fun t ht => (sp.2.1 t ht).2)
              simp only at this
              exact ⟨this.1, by simp only; omega, this.2.2⟩
end
end Go.AM

set_option maxRecDepth 100000
open Go Go.Proofs
namespace Go.AM
abbrev tmH (x lv : Int) (L : List Tm) (q : IS) (h : Tm) : AHeap := [(0, oIV x lv L q.f q.e), (1, sto2 4 5 q.s), (2, .gone), (3, .gone), (4, .arz 6 (SR q.s.V)), (5, .arz 1 (IR q.s.T)), (6, .arr 4 [zT]), (7, .arr 4 [cT h])]
section
variable {C : Nat} (hC : C ≤ 1073741824) {L : List Tm} (hL : LP L) (x lv : Int)
theorem zjz {tm : IS → Tm → Tm × IS} {f0 k : Int} (h : Tm) (n : Nat) (hn : n ≤ 1000000000) (hhl : h.l.length ≤ 1000000000)
  (htm : ∀ q t, GI C q → 0 ≤ q.f → q.f ≤ f0 → (q.e = 0 → z02 t = true → Fit q.f.toNat t) → GI C (tm q t).2 ∧ (tm q t).2.f ≤ q.f ∧ 0 ≤ (tm q t).2.f)
  (hk : ∀ q t, GI C q → 0 ≤ q.f → q.f ≤ f0 → t.sz ≤ B → (q.e = 0 → z02 t = true → Fit q.f.toNat t) → AC Tryz.prog 63 [aIV, aT t, ci k] (oIs x lv L q.f q.e q.s) (aT (tm q t).1) (oIt x lv L (tm q t).2.f (tm q t).2.e (tm q t).2.s)) :
  ∀ (b a : List Tm) (q : IS), a.length + b.length = n → GI C q → 0 ≤ q.f → q.f ≤ f0 → (∀ t ∈ b, t.sz ≤ B ∧ (z02 t = true → Fit q.f.toNat t)) →
  RPt Tryz.prog 63 4 (aT (z07 h (a ++ (z2n tm b q).1))) (oIt x lv L (z2n tm b q).2.f (z2n tm b q).2.e (z2n tm b q).2.s) 3
   ⟨[(0, aIV), (2, ci k), (6, .c (.a (.ep 6 4 0 0))), (9, .c (.a (.ep 7 4 0 0))), (10, .c (.a (.osl 8 4 0 n))), (102, .c (.a (.osl 8 4 0 n))), (103, ci (n : Int)), (104, ci (a.length : Int))], tmH x lv L q h ++ [(8, .arz 4 (FTs (a ++ b)))], 9⟩
 | [], a, q, hl, _, _, _, _ => by
  rw [List.length_nil, Nat.add_zero] at hl
  rw [List.append_nil, show (z2n tm [] q).1 = [] from rfl, List.append_nil, show (z2n tm [] q).2 = q from rfl]
  have ha := z3p h a (by omega)
  obtain ⟨hk', hs, hn', hl'⟩ := h
  refine RPt.vc hP sh lv63 (Eq.mpr (v63_3b ..) ?_)
  refine z01 (fun h => absurd (of_decide_eq_true h) (by omega)) (fun _ => ⟨⟨rfl, by rw [z00]; omega⟩, _, ?_, .refl _, rfl⟩)
  rw [List.drop_zero, List.take_of_length_le (by rw [z00]; omega)]
  exact ha
 | t :: b, a, q, hl, hg, h0, h1, hb => by
  have hlen : (a ++ t :: b).length = n := by simp only [List.length_append, List.length_cons] at hl ⊢; omega
  have h3 := ltI' a t b
  have hbt := hb t List.mem_cons_self
  have ht := htm q t hg h0 h1 (fun _ => hbt.2)
  have hc := hk q t hg h0 h1 hbt.1 (fun _ => hbt.2)
  have next := zjz h n hn hhl htm hk b (a ++ [(tm q t).1]) (tm q t).2 (by simp only [List.length_append, List.length_cons, List.length_nil] at hl ⊢; omega) ht.1 ht.2.2 (by omega) (fun u hu => ⟨(hb u (List.mem_cons_of_mem _ hu)).1, fun hv => ((hb u (List.mem_cons_of_mem _ hu)).2 hv).mono (by omega)⟩)
  have eK : z2n tm (t :: b) q = ((tm q t).1 :: (z2n tm b (tm q t).2).1, (z2n tm b (tm q t).2).2) := rfl
  rw [eK]
  simp only
  rw [List.append_assoc, show [(tm q t).1] ++ (z2n tm b (tm q t).2).1 = (tm q t).1 :: (z2n tm b (tm q t).2).1 from rfl, ap, nx] at next
  simp only [List.length_cons] at hl
  have em := z5g a t b
  have hsz : (0 + Int.toNat (a.length : Int)) < (FTs (a ++ t :: b)).length := by omega
  obtain ⟨hk', hs, hn', hl'⟩ := h
  refine RPt.vc hP sh lv63 (Eq.mpr (v63_3b ..) ?_)
  rw [w64 (x := (a.length : Int) + 1) (by omega) (by omega)]
  refine z01 (fun _ => ⟨by omega, ⟨hsz, by rw [Nat.zero_add, em, midI, List.drop_zero, List.take_of_length_le (by rw [z2s]; exact Nat.le_refl _)], rfl⟩, ((tm q t).1, (tm q t).2.s, x, lv, L, (tm q t).2.f, (tm q t).2.e), ?_, by omega, ⟨hsz, by rw [Nat.zero_add, midI]; exact z2s t⟩, ?_⟩) (fun h => absurd (of_decide_eq_false h) (by omega))
  · rw [Nat.zero_add, z4v]; exact hc
  · rw [zqm]; exact next
omit hC hL
abbrev FAILP (x lv : Int) (L : List Tm) (q : IS) (er : Int) (r : TV) (Hs' : List AObj) : Prop :=
 ∃ z : Int × Int × List Tm × Int × Int, AC Tryz.prog 90 [aIV, ci er] (oIs x lv L q.f q.e q.s) (.agg [.a (.fz (.int .i64 0)), .a (.fz (.str [])), .a (.fz (.int .i64 0)), .a (.fz (.sl false 4 []))]) (oIs z.1 z.2.1 z.2.2.1 z.2.2.2.1 z.2.2.2.2 q.s) ∧
  TV.Le (.agg [.a (.fz (.int .i64 0)), .a (.fz (.str [])), .a (.fz (.int .i64 0)), .a (.fz (.sl false 4 []))]) r ∧ oIt z.1 z.2.1 z.2.2.1 z.2.2.2.1 z.2.2.2.2 q.s = Hs'
theorem zfu (q : IS) (er : Int) : FAILP x lv L q er (aT noT) (oIt x lv L (z2y q er).f (z2y q er).e (z2y q er).s) := by
 have hf := zpd x lv L q.f q.e er q.s
 refine ⟨(x, lv, L, q.f, if q.e = 0 then er else q.e), hf, .refl _, ?_⟩
 unfold z2y
 split <;> rfl
abbrev IMGP (x lv : Int) (L : List Tm) (q : IS) (h : Tm) (k : Int) (r : TV) (Hs' : List AObj) (R : Tm → Prop) : Prop :=
 ∃ z : Tm × Bool, AC Tryz.prog 94 [aIV, aT h, ci k] (oIs x lv L q.f q.e q.s) (zdk z.1 z.2) (oIs x lv L q.f q.e q.s) ∧ br (!z.2) (FAILP x lv L q 170 r Hs') (R z.1)
abbrev TREE (x lv : Int) (L : List Tm) (q : IS) (h : Tm) (k : Int) (r : TV) (Hs' : List AObj) (F : Prop) (R : Tm → Prop) : Prop :=
 br (h.k == 5) ((FV.isSl 4 (.sl false 4 (FTs h.l)) = true ∧ ((0 : Int) ≤ 0 ∧ ((0 : Int) < (((FTs h.l).length : Nat) : Int) ∧ (rE (List.getD (FTs h.l) 0 []) : List FV) = List.getD (FTs h.l) 0 []))) ∧
  ∃ z : Tm × Sto × Int × Int × List Tm × Int × Int, AC Tryz.prog 63 [aIV, aE (List.getD (FTs h.l) 0 []), ci (IntKind.wrap .i64 (k + 1))] (oIs x lv L q.f q.e q.s) (aT z.1) (oIt z.2.2.1 z.2.2.2.1 z.2.2.2.2.1 z.2.2.2.2.2.1 z.2.2.2.2.2.2 z.2.1) ∧
   ∃ z6 : Tm, AC Tryz.prog 45 [ci 1, aT z.1] [] (aT z6) [] ∧ TV.Le (aT z6) r ∧ oIt z.2.2.1 z.2.2.2.1 z.2.2.2.2.1 z.2.2.2.2.2.1 z.2.2.2.2.2.2 z.2.1 = Hs')
 (br (h.k == 4) (br (h.n == x) (FAILP x lv L q 170 r Hs') F) (br (h.k == 3) (IMGP x lv L q h k r Hs' R) (br (h.k == 1) (IMGP x lv L q h k r Hs' R) (R h))))
theorem imgT_l (lv : Int) (L : List Tm) (t : Tm) (k : Int) : (imgT lv L t k).1.l.length ≤ t.l.length := by
 unfold imgT
 split
 · exact Nat.le_refl _
 · split
   · exact Nat.zero_le _
   · exact Nat.le_refl _
theorem tree_p {C : Nat} {tm : IS → Tm → Int → Tm × IS} (hLl : L.length ≤ 100000) (q : IS) (h : Tm × List Tm) (k : Int) (hk0 : 0 ≤ k) (hk1 : k + 1 ≤ 1099511627776) (hv : z02 h.1 = true) (hb : bd M61 h.1)
  (ht : h.1.k = 5 → AC Tryz.prog 63 [aIV, aT (hd h.1.l), ci (k + 1)] (oIs x lv L q.f q.e q.s) (aT (tm q (hd h.1.l) (k + 1)).1) (oIt x lv L (tm q (hd h.1.l) (k + 1)).2.f (tm q (hd h.1.l) (k + 1)).2.e (tm q (hd h.1.l) (k + 1)).2.s))
  (F : Prop) (R : Tm → Prop) (hF : h.1.k = 4 → h.1.n ≠ x → z63 x lv L tm q h k = z30 lv L q h.1.n h.2 k → F)
  (hR : ∀ h', h'.l.length ≤ h.1.l.length → z63 x lv L tm q h k = (z07 h' (z2n (fun q t => tm q t k) h.2 q).1, (z2n (fun q t => tm q t k) h.2 q).2) → R h') :
  TREE x lv L q h.1 k (aT (z63 x lv L tm q h k).1) (oIt x lv L (z63 x lv L tm q h k).2.f (z63 x lv L tm q h k).2.e (z63 x lv L tm q h k).2.s) F R := by
 have hT : z63 x lv L tm q h k = if h.1.k = 5 then (z5j 1 (tm q (hd h.1.l) (k + 1)).1, (tm q (hd h.1.l) (k + 1)).2)
  else if h.1.k = 4 then (if h.1.n = x then (noT, z2y q 170) else z30 lv L q h.1.n h.2 k) else zhv lv L (fun q t => tm q t k) q h.1 h.2 k := rfl
 have hA : zhv lv L (fun q t => tm q t k) q h.1 h.2 k = if (h.1.k = 3 ∨ h.1.k = 1) ∧ (imgT lv L h.1 k).2 = false then (noT, z2y q 170)
  else (z07 (if h.1.k = 3 ∨ h.1.k = 1 then (imgT lv L h.1 k).1 else h.1) (z2n (fun q t => tm q t k) h.2 q).1, (z2n (fun q t => tm q t k) h.2 q).2) := rfl
 have img : h.1.k ≠ 5 → h.1.k ≠ 4 → (h.1.k = 3 ∨ h.1.k = 1) → IMGP x lv L q h.1 k (aT (z63 x lv L tm q h k).1) (oIt x lv L (z63 x lv L tm q h k).2.f (z63 x lv L tm q h k).2.e (z63 x lv L tm q h k).2.s) R := fun h5 h4 h31 => by
  rw [if_neg h5, if_neg h4, hA] at hT
  have hi := zld x lv L q.f q.e q.s h.1 k hLl (lfP_n hb) hk0 (by omega)
  refine ⟨imgT lv L h.1 k, hi, z01 (fun c => ?_) (fun c => ?_)⟩
  · have c : (imgT lv L h.1 k).2 = false := by simpa using c
    rw [if_pos ⟨h31, c⟩] at hT
    rw [hT]
    exact zfu x lv q 170
  · have c : (imgT lv L h.1 k).2 = true := by simpa using c
    rw [if_neg (fun e => by rw [c] at e; cases e.2), if_pos h31] at hT
    exact hR _ (imgT_l lv L h.1 k) hT
 refine z01 (fun h5 => ?_) (fun h5 => z01 (fun h4 => z01 (fun hx => ?_) (fun hx => ?_)) (fun h4 => z01 (fun h3 => ?_) (fun h3 => z01 (fun h1 => ?_) (fun h1 => ?_))))
 · have h5 : h.1.k = 5 := by simpa using h5
   rw [if_pos h5] at hT
   have ht := ht h5
   rw [hT]
   have hne : ∃ u l', h.1.l = u :: l' := by
    have o := z09 _ hv
    generalize h.1 = w at *
    obtain ⟨wk, ws, wn, wl⟩ := w
    obtain ⟨u, hu, _⟩ := okB5 o h5
    exact ⟨u, [], hu⟩
   obtain ⟨u, l', hul⟩ := hne
   rw [hul] at ht ⊢
   have hl := zk6 1 (tm q u (k + 1)).1 (by omega)
   refine ⟨⟨rfl, Int.le_refl _, ltI' [] u l', z5g [] u l'⟩, ((tm q u (k + 1)).1, (tm q u (k + 1)).2.s, x, lv, L, (tm q u (k + 1)).2.f, (tm q u (k + 1)).2.e), ?_, _, hl, .refl _, rfl⟩
   rw [show aE (List.getD (FTs (u :: l')) 0 []) = aT u from zc6 u, w64 (x := k + 1) (by omega) (by omega)]
   exact ht
 · have h5 : h.1.k ≠ 5 := by simpa using h5
   have h4 : h.1.k = 4 := by simpa using h4
   have hx : h.1.n = x := by simpa using hx
   rw [if_neg h5, if_pos h4, if_pos hx] at hT
   rw [hT]
   exact zfu x lv q 170
 · have h5 : h.1.k ≠ 5 := by simpa using h5
   have h4 : h.1.k = 4 := by simpa using h4
   have hx : h.1.n ≠ x := by simpa using hx
   rw [if_neg h5, if_pos h4, if_neg hx] at hT
   exact hF h4 hx hT
 · exact img (by simpa using h5) (by simpa using h4) (.inl (by simpa using h3))
 · exact img (by simpa using h5) (by simpa using h4) (.inr (by simpa using h1))
 · have h5 : h.1.k ≠ 5 := by simpa using h5
   have h4 : h.1.k ≠ 4 := by simpa using h4
   have h3 : h.1.k ≠ 3 := by simpa using h3
   have h1 : h.1.k ≠ 1 := by simpa using h1
   have hno : ¬ (h.1.k = 3 ∨ h.1.k = 1) := fun e => e.elim h3 h1
   rw [if_neg h5, if_neg h4, hA, if_neg (fun e => hno e.1), if_neg hno] at hT
   exact hR _ (Nat.le_refl _) hT
end
theorem zqi {C : Nat} (hC : C ≤ 1073741824) {L : List Tm} (hL : LP L) (x lv : Int) : ∀ (D : Nat) (q : IS) (t : Tm) (k : Int), q.f.toNat ≤ D → GI C q → 0 ≤ q.f → t.sz ≤ B → (q.e = 0 → z02 t = true → Fit q.f.toNat t) → 0 ≤ k → k + q.f ≤ 549755813888 →
  AC Tryz.prog 63 [aIV, aT t, ci k] (oIs x lv L q.f q.e q.s) (aT (z0x x lv L D q t k).1) (oIt x lv L (z0x x lv L D q t k).2.f (z0x x lv L D q t k).2.e (z0x x lv L D q t k).2.s)
 | 0, q, t, k, hD, hg, h0, hz, hf, hk0, hk1 => by
  obtain ⟨tk, ts, tn, tl⟩ := t
  refine AC.vc hP sh lv63 (by simp) (by simp [isLive]) (by simp [isLive]) (Eq.mpr (v63 tk ts tn (FTs tl) k ..) ?_)
  rw [z0x]
  refine z01 (fun he => ?_) (fun he => z01 (fun hf0 => ?_) (fun hf0 => absurd (of_decide_eq_false hf0) (by omega)))
  · have he : q.e ≠ 0 := by have he : (q.e != 0) = true := he; simpa using he
    rw [if_pos he]; exact ⟨leT (l := []) z0l, rfl⟩
  · have he : q.e = 0 := by have he : (q.e != 0) = false := he; simpa using he
    rw [if_neg (by simp [he])]
    exact zfu x lv q 80
 | D + 1, q, t, k, hD, hg, h0, hz, hf, hk0, hk1 => by
  have ih := fun q' t' k' => zqi hC hL x lv D q' t' k'
  have hL1 := hL.1
  have hf1 := hg.f1
  have hV := hg.V
  have hT := hg.T
  rw [z0x]
  by_cases he : q.e ≠ 0
  · rw [if_pos he]
    obtain ⟨tk, ts, tn, tl⟩ := t
    refine AC.vc hP sh lv63 (by simp) (by simp [isLive]) (by simp [isLive]) (Eq.mpr (v63 tk ts tn (FTs tl) k ..) ?_)
    exact z01 (fun _ => ⟨leT (l := []) z0l, rfl⟩) (fun h => absurd (by have h : (q.e != 0) = false := h; simpa using h) he)
  rw [if_neg he]
  have he : q.e = 0 := by simpa using he
  by_cases hf0 : q.f ≤ 0
  · rw [if_pos hf0]
    obtain ⟨tk, ts, tn, tl⟩ := t
    refine AC.vc hP sh lv63 (by simp) (by simp [isLive]) (by simp [isLive]) (Eq.mpr (v63 tk ts tn (FTs tl) k ..) ?_)
    exact z01 (fun h => absurd he (by have h : (q.e != 0) = true := h; simpa using h)) (fun _ => z01 (fun _ => zfu x lv q 80) (fun h => absurd hf0 (of_decide_eq_false h)))
  rw [if_neg hf0]
  have hfit : z02 t = true → Fit (q.f - 1).toNat t := fun hv => (hf he hv).mono (by omega)
  have hh := zql q.s hg.ok (q.f - 1) t (by omega) hz hfit
  have ok := z7k hg.ok (t := t) (f := q.f - 1) (by omega) hfit
  have enter : ∀ (r : TV) (Hs' : List AObj), br ((z0w q.s (q.f - 1) t).2.2 != 0) (FAILP x lv L q (z0w q.s (q.f - 1) t).2.2 r Hs')
    ((∃ z4 : Tm, AC Tryz.prog 92 [aT (z0w q.s (q.f - 1) t).1] [] (.tup [(true, cT z4), (false, [.a (.fz .nils)])]) [] ∧ TREE x lv L ⟨q.s, (z0w q.s (q.f - 1) t).2.1, q.e⟩ z4 k r Hs'
      (∃ z8 : Tm × Sto × Int × Int × List Tm × Int × Int, AC Tryz.prog 93 [aIV, ci z4.n, .c (.a (.fz .nils)), ci k] (oIs x lv L (z0w q.s (q.f - 1) t).2.1 q.e q.s) (aT z8.1) (oIt z8.2.2.1 z8.2.2.2.1 z8.2.2.2.2.1 z8.2.2.2.2.2.1 z8.2.2.2.2.2.2 z8.2.1) ∧ TV.Le (aT z8.1) r ∧ oIt z8.2.2.1 z8.2.2.2.1 z8.2.2.2.2.1 z8.2.2.2.2.2.1 z8.2.2.2.2.2.2 z8.2.1 = Hs')
      (fun h' => FV.isSl 4 .nils = true ∧ RPt Tryz.prog 63 4 r Hs' 3 ⟨[(0, aIV), (2, ci k), (6, .c (.a (.ep 6 4 0 0))), (9, .c (.a (.ep 7 4 0 0))), (10, .c (.a (.fz .nils))), (102, .c (.a (.fz .nils))), (103, ci 0), (104, ci 0)], tmH x lv L ⟨q.s, (z0w q.s (q.f - 1) t).2.1, q.e⟩ h', 8⟩)) ∨
     (∃ z13 : Tm × List Tm, AC Tryz.prog 92 [aT (z0w q.s (q.f - 1) t).1] [] (.tup [(true, cT z13.1), (false, [.a (.osl 0 4 0 z13.2.length)])]) [.arz 4 (FTs z13.2)] ∧ TREE x lv L ⟨q.s, (z0w q.s (q.f - 1) t).2.1, q.e⟩ z13.1 k r Hs'
        (((4 : Nat) = 4 ∧ (0 + z13.2.length) ≤ (FTs z13.2).length) ∧ ∃ z8 : Tm × Sto × Int × Int × List Tm × Int × Int, AC Tryz.prog 93 [aIV, ci z13.1.n, .c (.a (.fz (.sl false 4 (List.take z13.2.length (List.drop 0 (FTs z13.2)))))), ci k] (oIs x lv L (z0w q.s (q.f - 1) t).2.1 q.e q.s) (aT z8.1) (oIt z8.2.2.1 z8.2.2.2.1 z8.2.2.2.2.1 z8.2.2.2.2.2.1 z8.2.2.2.2.2.2 z8.2.1) ∧ TV.Le (aT z8.1) r ∧ oIt z8.2.2.1 z8.2.2.2.1 z8.2.2.2.2.1 z8.2.2.2.2.2.1 z8.2.2.2.2.2.2 z8.2.1 = Hs')
        (fun h' => RPt Tryz.prog 63 4 r Hs' 3 ⟨[(0, aIV), (2, ci k), (6, .c (.a (.ep 6 4 0 0))), (9, .c (.a (.ep 7 4 0 0))), (10, .c (.a (.osl 8 4 0 z13.2.length))), (102, .c (.a (.osl 8 4 0 z13.2.length))), (103, ci (z13.2.length : Int)), (104, ci 0)], tmH x lv L ⟨q.s, (z0w q.s (q.f - 1) t).2.1, q.e⟩ h' ++ [(8, .arz 4 (FTs z13.2))], 9⟩))) →
    Hs'.length = 6 → (∀ o ∈ Hs'.drop 4, isLive o) → AC Tryz.prog 63 [aIV, aT t, ci k] (oIs x lv L q.f q.e q.s) r Hs' := fun r Hs' hb hl hlv => by
   obtain ⟨tk, ts, tn, tl⟩ := t
   refine AC.vc hP sh lv63 (by simp [hl]) (by simp [isLive]) hlv (Eq.mpr (v63 tk ts tn (FTs tl) k ..) ?_)
   rw [w64 (x := q.f - 1) (by omega) (by omega)]
   exact z01 (fun h => absurd he (by have h : (q.e != 0) = true := h; simpa using h)) (fun _ => z01 (fun h => absurd (of_decide_eq_true h) hf0) (fun _ => ⟨_, hh, hb⟩))
  refine enter _ _ ?_ rfl (by simp [isLive])
  have eH : ∀ z : Tm × Int × Int, zma x lv L (z0x x lv L D) q z k = if z.2.2 ≠ 0 then (noT, z2y q z.2.2) else z63 x lv L (z0x x lv L D) ⟨q.s, z.2.1, q.e⟩ (z04 z.1) k := fun z => rfl
  rw [eH]
  clear enter hh
  generalize z0w q.s (q.f - 1) t = z at *
  obtain ⟨z1, z2, z3⟩ := z
  simp only at ok ⊢
  refine z01 (fun h3 => ?_) (fun h3 => ?_)
  · have h3 : z3 ≠ 0 := by have h3 : (z3 != 0) = true := h3; simpa using h3
    rw [if_pos h3]
    exact zfu x lv q z3
  have h3 : z3 = 0 := by have h3 : (z3 != 0) = false := h3; simpa using h3
  subst h3
  rw [if_neg (by simp)]
  obtain ⟨hv, hfz, hz0, hz1⟩ := ok rfl
  have sp := zaa hv hfz
  have g : GI C ⟨q.s, z2, q.e⟩ := hg.less hz0 (by omega)
  have hzs := hfz.sz
  have hkids := fun q' t' (a : GI C q') (b : 0 ≤ q'.f) (c : q'.f ≤ z2) (d : t'.sz ≤ B) e => ih q' t' k (by omega) a b d e hk0 (by omega)
  have htm := fun q' t' (a : GI C q') (b : 0 ≤ q'.f) (_ : q'.f ≤ z2) e => zas hC hL x lv D q' t' k a b e
  have hlam : (z04 z1).1.k = 5 → AC Tryz.prog 63 [aIV, aT (hd (z04 z1).1.l), ci (k + 1)] (oIs x lv L z2 q.e q.s) (aT (z0x x lv L D ⟨q.s, z2, q.e⟩ (hd (z04 z1).1.l) (k + 1)).1) (oIt x lv L (z0x x lv L D ⟨q.s, z2, q.e⟩ (hd (z04 z1).1.l) (k + 1)).2.f (z0x x lv L D ⟨q.s, z2, q.e⟩ (hd (z04 z1).1.l) (k + 1)).2.e (z0x x lv L D ⟨q.s, z2, q.e⟩ (hd (z04 z1).1.l) (k + 1)).2.s) := fun h5 => by
   have hm : hd (z04 z1).1.l ∈ (z04 z1).1.l := by
    have o := z09 _ sp.1.1
    generalize (z04 z1).1 = w at *
    obtain ⟨wk, ws, wn, wl⟩ := w
    obtain ⟨u, hu, _⟩ := okB5 o h5
    have hu : wl = [u] := hu
    subst hu
    exact List.mem_cons_self
   have := sp.2.2.2 _ hm
   exact ih ⟨q.s, z2, q.e⟩ _ (k + 1) (by simp only; omega) g hz0 (by have := this.1; simp only [SZ, B] at *; omega) (fun _ => this.2) (by omega) (by simp only; omega)
  by_cases h6 : z1.k = 6 ∧ z02 z1 = true
  · have esp : z04 z1 = (hd z1.l, z1.l.drop 1) := if_pos h6
    have hcs := zg2 z1 (by simp only [SZ, B] at *; omega) h6.1 h6.2
    rw [esp] at sp hlam ⊢
    simp only at sp hlam
    refine .inr ⟨(hd z1.l, z1.l.drop 1), hcs, tree_p (C := C) x lv (by omega) ⟨q.s, z2, q.e⟩ (hd z1.l, z1.l.drop 1) k hk0 (by omega) sp.1.1 sp.1.2.bd hlam _ _ (fun h4 hx hs => ?_) (fun h' hle hs => ?_)⟩
    · rw [hs]
      have hc := zjl hC hL x (lv := lv) g hz0 (by simp only; omega) (by simp only; omega) (hd z1.l).n (z1.l.drop 1) k (by have := sp.2.2.1; simp only [SZ] at this; omega) (fun t ht => ⟨by have := (sp.2.1 t ht).1; simp only [SZ, B] at *; omega, (sp.2.1 t ht).2⟩) hk0 (by omega)
      refine ⟨⟨by trivial, by rw [z00]; omega⟩, ((z30 lv L ⟨q.s, z2, q.e⟩ (hd z1.l).n (z1.l.drop 1) k).1, (z30 lv L ⟨q.s, z2, q.e⟩ (hd z1.l).n (z1.l.drop 1) k).2.s, x, lv, L, (z30 lv L ⟨q.s, z2, q.e⟩ (hd z1.l).n (z1.l.drop 1) k).2.f, (z30 lv L ⟨q.s, z2, q.e⟩ (hd z1.l).n (z1.l.drop 1) k).2.e), ?_, .refl _, rfl⟩
      rw [List.drop_zero, List.take_of_length_le (by rw [z00]; exact Nat.le_refl _)]
      exact hc
    · rw [hs]
      have hh' : h'.l.length ≤ 1000000000 := by
       have h1 := sp.1.2.sz
       have h2 := (hd z1.l).sz_eq
       have h3 := Tm.szs_length (hd z1.l).l
       have hle : h'.l.length ≤ (hd z1.l).l.length := hle
       simp only [SZ] at h1; omega
      exact zjz (C := C) x lv h' (z1.l.drop 1).length (by have := sp.2.2.1; simp only [SZ] at this; omega) hh' htm hkids (z1.l.drop 1) [] ⟨q.s, z2, q.e⟩ (by simp) g hz0 (Int.le_refl _) (fun t ht => ⟨by have := (sp.2.1 t ht).1; simp only [SZ, B] at *; omega, (sp.2.1 t ht).2⟩)
  · have esp : z04 z1 = (z1, []) := if_neg h6
    have hcs := zhc z1 (by simp only [SZ, B] at *; omega) h6
    rw [esp] at sp hlam ⊢
    simp only at sp hlam
    refine .inl ⟨z1, hcs, tree_p (C := C) x lv (by omega) ⟨q.s, z2, q.e⟩ (z1, []) k hk0 (by omega) sp.1.1 sp.1.2.bd hlam _ _ (fun h4 hx hs => ?_) (fun h' hle hs => ?_)⟩
    · rw [hs]
      have hc := zjl hC hL x (lv := lv) g hz0 (by simp only; omega) (by simp only; omega) z1.n [] k (by simp) (fun t ht => nomatch ht) hk0 (by omega)
      exact ⟨((z30 lv L ⟨q.s, z2, q.e⟩ z1.n [] k).1, (z30 lv L ⟨q.s, z2, q.e⟩ z1.n [] k).2.s, x, lv, L, (z30 lv L ⟨q.s, z2, q.e⟩ z1.n [] k).2.f, (z30 lv L ⟨q.s, z2, q.e⟩ z1.n [] k).2.e), hc.args ⟨.refl _, .refl _, .c _ _ (.a _ _ (.fz _ _ z0l)), .refl _, trivial⟩, .refl _, rfl⟩
    · rw [hs]
      have hle : h'.l.length ≤ z1.l.length := hle
      have ha := z3p h' [] (by have h1 := sp.1.2.sz; have h2 := z1.sz_eq; have h3 := Tm.szs_length z1.l; simp only [SZ, List.length_nil] at *; omega)
      refine ⟨rfl, ?_⟩
      obtain ⟨hk', hs', hn', hl'⟩ := h'
      refine RPt.vc hP sh lv63 (Eq.mpr (v63_3a ..) ?_)
      exact z01 (fun h => by cases h) (fun _ => ⟨_, ha.args ⟨.refl _, .c _ _ (.a _ _ (.fz _ _ z0l)), trivial⟩, .refl _, rfl⟩)
end Go.AM

set_option maxRecDepth 100000
open Go Go.Proofs
namespace Go.AM
def z5z (t : Tm) : Bool := z02 t && (t.k == 3 || t.k == 1)
theorem c_ileaf (t : Tm) (hz : t.sz ≤ B) : AC Tryz.prog 62 [aT t] [] (cb (z5z t)) [] := by
 have hv := z1x t hz
 have e : z5z t = (z02 t && (t.k == 3 || t.k == 1)) := rfl
 rw [e]
 generalize z02 t = v at *
 obtain ⟨k, s, n, l⟩ := t
 refine AC.vc hP sh lv62 (Nat.le_refl _) (by simp) (by simp) (Eq.mpr (v62 k s n (FTs l) ..) ?_)
 refine ⟨_, hv, z01 (fun h => z01 (fun h3 => ?_) (fun h3 => ?_)) (fun h => ?_)⟩
 · have h3 : (k == 3) = true := h3
   rw [h, show ((Tm.mk k s n l).k == 3) = true from h3]; exact z06 rfl
 · have h3 : (k == 3) = false := h3
   rw [h, show ((Tm.mk k s n l).k == 3) = false from h3]; exact z06 rfl
 · rw [h]; exact z06 rfl
theorem zqr (t : Tm) (hz : t.sz ≤ B) : AC Tryz.prog 61 [aT t] [] (cb (!z5z t)) [] := by
 have h := c_ileaf t hz
 obtain ⟨k, s, n, l⟩ := t
 refine AC.vc hP sh lv61 (Nat.le_refl _) (by simp) (by simp) (Eq.mpr (v61 k s n (FTs l) ..) ?_)
 exact ⟨_, h, z06 rfl⟩
def z05 (s : Sto) (x : Int) (l : List Tm) (t : Tm) (f : Int) : (Tm × Int × Int) × Sto :=
 if (!inB s.V x || (infOf s.V x).bd || !z02 t || l.any fun u => !z5z u) = true then ((noT, 0, 1), s)
 else if (z0x x (infOf s.V x).lv l f.toNat ⟨s, f, 0⟩ t 0).2.e ≠ 0 then ((noT, 0, (z0x x (infOf s.V x).lv l f.toNat ⟨s, f, 0⟩ t 0).2.e), (z0x x (infOf s.V x).lv l f.toNat ⟨s, f, 0⟩ t 0).2.s)
 else ((z5j l.length (z0x x (infOf s.V x).lv l f.toNat ⟨s, f, 0⟩ t 0).1, (z0x x (infOf s.V x).lv l f.toNat ⟨s, f, 0⟩ t 0).2.f, 0), (z0x x (infOf s.V x).lv l f.toNat ⟨s, f, 0⟩ t 0).2.s)
theorem zcv {t : Tm} (h : z5z t = true) : t.sz = 1 ∧ (t.k = 3 ∨ t.k = 1) ∧ t.l = [] := by
 simp only [z5z, Bool.and_eq_true, Bool.or_eq_true, beq_iff_eq] at h
 obtain ⟨k, s, n, l⟩ := t
 have hk : k = 3 ∨ k = 1 := h.2
 have : l = [] := okB0 (z09 _ h.1) (by omega) (by omega)
 subst this
 exact ⟨rfl, hk, rfl⟩
theorem znl {C : Nat} (hC : C ≤ 1073741824) (s : Sto) (x : Int) (l : List Tm) (t : Tm) (f : Int) (h0 : 0 ≤ f) (hf : f ≤ 900) (hs : OKS s) (hV : s.V.length + f.toNat ≤ C) (hT : s.T.length + f.toNat ≤ C)
  (hl : l.length ≤ 900) (hlz : ∀ u ∈ l, u.sz ≤ B) (hz : t.sz ≤ B) (hfit : z02 t = true → Fit f.toNat t) :
  AC Tryz.prog 18 [aS 0, ci x, aL l, aT t, ci f] (oS s) (aHd (z05 s x l t f).1) (oS' (z05 s x l t f).2) := by
 have hI := z9f s x
 have ho := c_iodd t hz
 have ha := zfk (fun u => !z5z u) l (by simp only [B]; omega) (fun u hu => zqr u (hlz u hu))
 have eF : z05 s x l t f = if (!inB s.V x || (infOf s.V x).bd || !z02 t || l.any fun u => !z5z u) = true then ((noT, 0, 1), s)
  else if (z0x x (infOf s.V x).lv l f.toNat ⟨s, f, 0⟩ t 0).2.e ≠ 0 then ((noT, 0, (z0x x (infOf s.V x).lv l f.toNat ⟨s, f, 0⟩ t 0).2.e), (z0x x (infOf s.V x).lv l f.toNat ⟨s, f, 0⟩ t 0).2.s)
  else ((z5j l.length (z0x x (infOf s.V x).lv l f.toNat ⟨s, f, 0⟩ t 0).1, (z0x x (infOf s.V x).lv l f.toNat ⟨s, f, 0⟩ t 0).2.f, 0), (z0x x (infOf s.V x).lv l f.toNat ⟨s, f, 0⟩ t 0).2.s) := rfl
 have hterm : (l.any fun u => !z5z u) = false → AC Tryz.prog 63 [aIV, aT t, ci 0] (oIs x (infOf s.V x).lv l f 0 s) (aT (z0x x (infOf s.V x).lv l f.toNat ⟨s, f, 0⟩ t 0).1) (oIt x (infOf s.V x).lv l (z0x x (infOf s.V x).lv l f.toNat ⟨s, f, 0⟩ t 0).2.f (z0x x (infOf s.V x).lv l f.toNat ⟨s, f, 0⟩ t 0).2.e (z0x x (infOf s.V x).lv l f.toNat ⟨s, f, 0⟩ t 0).2.s) := fun h => by
  have hL : LP l := ⟨hl, fun u hu => (zcv (by have := List.any_eq_false.1 h u hu; simpa using this)).1⟩
  exact zqi hC hL x (infOf s.V x).lv f.toNat ⟨s, f, 0⟩ t 0 (Nat.le_refl _) ⟨hs, hV, hT, by simp only; omega, hf⟩ h0 hz (fun _ => hfit) (Int.le_refl _) (by simp only; omega)
 rw [eF]
 generalize infOf s.V x = i at *
 generalize inB s.V x = ib at *
 generalize (l.any fun u => !z5z u) = an at *
 obtain ⟨ilv, ibd, iv⟩ := i
 simp only at hterm ⊢
 generalize z0x x ilv l f.toNat ⟨s, f, 0⟩ t 0 = w at *
 obtain ⟨w1, ws, wf, we⟩ := w
 simp only at hterm ⊢
 generalize z02 t = vt at *
 have bad : (!ib || ibd || !vt || an) = true → (TV.Le (.tup [(true, [.a (.fz (.int .i64 0)), .a (.fz (.str [])), .a (.fz (.int .i64 0)), .a (.fz .nils)]), (false, [.a (.fz (.int .i64 0))]), (false, [.a (.fz (.int .i64 1))])]) (aHd (if (!ib || ibd || !vt || an) = true then ((noT, 0, 1), s) else if we ≠ 0 then ((noT, 0, we), ws) else ((z5j l.length w1, wf, 0), ws)).1) ∧ oS' s = oS' (if (!ib || ibd || !vt || an) = true then ((noT, 0, 1), s) else if we ≠ 0 then ((noT, 0, we), ws) else ((z5j l.length w1, wf, 0), ws)).2) := fun h => by
  rw [if_pos h]; exact ⟨leHd (l := []) z0l, rfl⟩
 obtain ⟨tk, ts, tn, tl⟩ := t
 refine AC.vc hP sh lv18 (by simp) (by simp [isLive]) (by simp [isLive]) (Eq.mpr (v18 x (FTs l) tk ts tn (FTs tl) f ..) ?_)
 refine ⟨(ilv, ibd, iv, ib), hI, z01 (fun h => bad ?_) (fun h => z01 (fun h2 => bad ?_) (fun h2 => ⟨_, ho, z01 (fun h3 => bad ?_) (fun h3 => ⟨_, ha, z01 (fun h4 => bad ?_) (fun h4 => ?_)⟩)⟩))⟩
 · have h : (!ib) = true := h
   rw [h]; rfl
 · have h2 : ibd = true := h2
   rw [h2, Bool.or_true]; rfl
 · rw [h3, Bool.or_true]; rfl
 · have h4 : an = true := h4
   rw [h4, Bool.or_true]
 · have h : (!ib) = false := h
   have h2 : ibd = false := h2
   have h4 : an = false := h4
   rw [h, h2, h3, h4, if_neg (by simp)]
   refine ⟨(w1, ws, x, ilv, l, wf, we), hterm h4, z01 (fun he => ?_) (fun he => ⟨rfl, ?_⟩)⟩
   · have he : we ≠ 0 := by have he : (we != 0) = true := he; simpa using he
     rw [if_pos he]; exact ⟨leHd (l := []) z0l, rfl⟩
   · have he : we = 0 := by have he : (we != 0) = false := he; simpa using he
     rw [if_neg (by simp [he]), z00]
     exact ⟨_, zk6 l.length w1 (by omega), .refl _, rfl⟩
end Go.AM

set_option maxRecDepth 100000
open Go Go.Proofs
namespace Go.AM
structure SD where
 t : Tm
 h : Tm
 a : List Tm
abbrev cSD (x : SD) : List WV := [.a (.fz (.int .i64 x.t.k)), .a (.fz (.str x.t.s)), .a (.fz (.int .i64 x.t.n)), .a (.fz (.sl false 4 (FTs x.t.l))), .a (.fz (.int .i64 x.h.k)), .a (.fz (.str x.h.s)), .a (.fz (.int .i64 x.h.n)), .a (.fz (.sl false 4 (FTs x.h.l))), .a (.fz (.sl false 4 (FTs x.a)))]
abbrev aSD (x : SD) : TV := .agg (cSD x)
abbrev aSE (z : SD × Int) : TV := .tup [(true, cSD z.1), (false, [.a (.fz (.int .i64 z.2))])]
abbrev aLvE (z : List Tm × Int) : TV := .tup [(false, [.a (.fz (.sl false 4 (FTs z.1)))]), (false, [.a (.fz (.int .i64 z.2))])]
abbrev noSD : SD := ⟨noT, noT, []⟩
theorem leSE {k n k2 n2 e : Int} {s s2 : List UInt8} {x x2 x3 : FV} {l l2 l3 : List Tm} (h : FV.Le x (.sl false 4 (FTs l))) (h2 : FV.Le x2 (.sl false 4 (FTs l2))) (h3 : FV.Le x3 (.sl false 4 (FTs l3))) :
  TV.Le (.tup [(true, [.a (.fz (.int .i64 k)), .a (.fz (.str s)), .a (.fz (.int .i64 n)), .a (.fz x), .a (.fz (.int .i64 k2)), .a (.fz (.str s2)), .a (.fz (.int .i64 n2)), .a (.fz x2), .a (.fz x3)]), (false, [.a (.fz (.int .i64 e))])]) (aSE (⟨.mk k s n l, .mk k2 s2 n2 l2, l3⟩, e)) :=
 zl8 ⟨⟨rfl, .refl _, .refl _, .refl _, .a _ _ (.fz _ _ h), .refl _, .refl _, .refl _, .a _ _ (.fz _ _ h2), .a _ _ (.fz _ _ h3), trivial⟩, lwR _, trivial⟩
def zc8 (t : Tm) : SD := ⟨t, (z04 t).1, (z04 t).2⟩
def z0s (s : Sto) (f : Int) (t : Tm) : (SD × Int) × Int :=
 if (z0w s f t).2.2 ≠ 0 then ((noSD, (z0w s f t).2.2), f) else ((zc8 (z0w s f t).1, 0), (z0w s f t).2.1)
def z03 (s : Sto) (f : Int) (x : SD) : (List Tm × Int) × Int :=
 (((z1f s x.h.n x.a f).1, (z1f s x.h.n x.a f).2.2), if (z1f s x.h.n x.a f).2.2 = 0 then (z1f s x.h.n x.a f).2.1 else f)
abbrev aWk : TV := .c (.a (.ep 0 3 0 0))
theorem zn1 (s : Sto) (hs : OKS s) (n : Nat) (R : List (List FV)) (f : Int) (x : SD) (hl0 : x.a.length ≤ 1000000000) (h0 : 0 - 9223372036854775808 ≤ f) (hb : ∀ t ∈ x.a, t.sz ≤ B ∧ (z02 t = true → Fit f.toNat t)) :
  AC Tryz.prog 153 [aWk, aSD x] (oWk s n R f) (aLvE (z03 s f x).1) (oWk s n R (z03 s f x).2) := by
 have hA := zq7 s hs x.h.n f x.a hl0 h0 hb
 have e : z03 s f x = (((z1f s x.h.n x.a f).1, (z1f s x.h.n x.a f).2.2), if (z1f s x.h.n x.a f).2.2 = 0 then (z1f s x.h.n x.a f).2.1 else f) := rfl
 rw [e]
 generalize z1f s x.h.n x.a f = z at *
 obtain ⟨ls, g, er⟩ := z
 obtain ⟨⟨tk, ts, tn, tl⟩, ⟨hk, hs', hn, hl⟩, a⟩ := x
 refine AC.vc hP sh lv153 (Nat.le_refl _) (by simp [isLive]) (by simp) (Eq.mpr (v153 tk ts tn (FTs tl) hk hs' hn (FTs hl) (FTs a) ..) ?_)
 refine ⟨(ls, g, er), hA, z01 (fun h => ?_) (fun h => ?_)⟩
 · have h : er = 0 := by have h : (er == 0) = true := h; simpa using h
   subst h
   exact ⟨.refl _, rfl⟩
 · have h : er ≠ 0 := by have h : (er == 0) = false := h; simpa using h
   exact ⟨.refl _, by show _ = oWk s n R (if er = 0 then g else f); rw [if_neg h]⟩
theorem c_ulook (s : Sto) (hs : OKS s) (n : Nat) (R : List (List FV)) (f : Int) (t : Tm) (h0 : 0 - 9223372036854775808 ≤ f) (hz : t.sz ≤ B) (hf : z02 t = true → Fit f.toNat t) (hu : (z0w s f t).1.sz ≤ B) :
  AC Tryz.prog 133 [aWk, aT t] (oWk s n R f) (aSE (z0s s f t).1) (oWk s n R (z0s s f t).2) := by
 have hH := zql s hs f t h0 hz hf
 have e : z0s s f t = if (z0w s f t).2.2 ≠ 0 then ((noSD, (z0w s f t).2.2), f) else ((zc8 (z0w s f t).1, 0), (z0w s f t).2.1) := rfl
 rw [e]
 generalize z0w s f t = z at *
 obtain ⟨u, g, er⟩ := z
 obtain ⟨tk, ts, tn, tl⟩ := t
 refine AC.vc hP sh lv133 (Nat.le_refl _) (by simp [isLive]) (by simp) (Eq.mpr (v133 tk ts tn (FTs tl) ..) ?_)
 refine ⟨(u, g, er), hH, z01 (fun h => ?_) (fun h => ?_)⟩
 · have h : er ≠ 0 := by have h : (er != 0) = true := h; simpa using h
   rw [if_pos h]
   exact ⟨leSE (l := []) (l2 := []) (l3 := []) z0l z0l z0l, rfl⟩
 · have h : er = 0 := by have h : (er != 0) = false := h; simpa using h
   subst h
   rw [if_neg (by simp)]
   by_cases hc : u.k = 6 ∧ z02 u = true
   · refine .inr ⟨(hd u.l, u.l.drop 1), zg2 u hu hc.1 hc.2, ⟨rfl, by rw [z00]; omega⟩, ?_⟩
     have es : zc8 u = ⟨u, hd u.l, u.l.drop 1⟩ := by unfold zc8 z04; rw [if_pos hc]
     rw [es, List.drop_zero, List.take_of_length_le (by rw [z00]; exact Nat.le_refl _)]
     exact ⟨.refl _, rfl⟩
   · refine .inl ⟨u, zhc u hu hc, ?_⟩
     have es : zc8 u = ⟨u, u, []⟩ := by unfold zc8 z04; rw [if_neg hc]
     rw [es]
     obtain ⟨uk, us, un, ul⟩ := u
     exact ⟨leSE (.refl _) (.refl _) (l3 := []) z0l, rfl⟩
def z55 (s : Sto) (f : Int) (x : Int) (l : List Tm) (t : Tm) : Int × Sto × Int :=
 if (z05 s x l t f).1.2.2 ≠ 0 then ((z05 s x l t f).1.2.2, (z05 s x l t f).2, f)
 else (zf7 (z05 s x l t f).2 x (z05 s x l t f).1.1, bindS (z05 s x l t f).2 x (z05 s x l t f).1.1, (z05 s x l t f).1.2.1)
theorem c_ubind (s : Sto) (n : Nat) (R : List (List FV)) (f : Int) (x : SD) (l : List Tm) (t : Tm)
  (hI : AC Tryz.prog 18 [aS 0, ci x.h.n, aL l, aT t, ci f] (oS s) (aHd (z05 s x.h.n l t f).1) (oS' (z05 s x.h.n l t f).2))
  (hB : (z05 s x.h.n l t f).1.2.2 = 0 → AC Tryz.prog 47 [aS 0, ci x.h.n, aT (z05 s x.h.n l t f).1.1] (oS (z05 s x.h.n l t f).2) (ci (zf7 (z05 s x.h.n l t f).2 x.h.n (z05 s x.h.n l t f).1.1)) (oS' (bindS (z05 s x.h.n l t f).2 x.h.n (z05 s x.h.n l t f).1.1))) :
  AC Tryz.prog 156 [aWk, aSD x, aL l, aT t] (oWk s n R f) (ci (z55 s f x.h.n l t).1) (oWk' (z55 s f x.h.n l t).2.1 n R (z55 s f x.h.n l t).2.2) := by
 have e : z55 s f x.h.n l t = if (z05 s x.h.n l t f).1.2.2 ≠ 0 then ((z05 s x.h.n l t f).1.2.2, (z05 s x.h.n l t f).2, f)
  else (zf7 (z05 s x.h.n l t f).2 x.h.n (z05 s x.h.n l t f).1.1, bindS (z05 s x.h.n l t f).2 x.h.n (z05 s x.h.n l t f).1.1, (z05 s x.h.n l t f).1.2.1) := rfl
 rw [e]
 clear e
 generalize z05 s x.h.n l t f = z at *
 obtain ⟨⟨u, g, er⟩, S⟩ := z
 obtain ⟨⟨xk, xs, xn, xl⟩, ⟨hk, hs', hn, hl⟩, a⟩ := x
 simp only [Tm.n] at hI hB ⊢
 obtain ⟨tk, ts, tn, tl⟩ := t
 refine AC.vc hP sh lv156 (by simp) (by simp [isLive]) (by simp [isLive]) (Eq.mpr (v156 xk xs xn (FTs xl) hk hs' hn (FTs hl) (FTs a) (FTs l) tk ts tn (FTs tl) ..) ?_)
 refine ⟨((u, g, er), S), hI, z01 (fun h => ?_) (fun h => ?_)⟩
 · have h : er ≠ 0 := by have h : (er != 0) = true := h; simpa using h
   rw [if_pos h]
   exact ⟨.refl _, rfl⟩
 · have h : er = 0 := by have h : (er != 0) = false := h; simpa using h
   rw [if_neg (by simp [h])]
   exact ⟨(zf7 S hn u, bindS S hn u), hB h, .refl _, rfl⟩
def z0u (s : Sto) (f : Int) (x : SD) (t : Tm) : Int × Sto × Int :=
 if (z03 s f x).1.2 ≠ 0 then ((z03 s f x).1.2, s, (z03 s f x).2) else z55 s (z03 s f x).2 x.h.n (z03 s f x).1.1 t
theorem c_uflex (s : Sto) (n : Nat) (R : List (List FV)) (f : Int) (x y : SD)
  (hL : AC Tryz.prog 153 [aWk, aSD x] (oWk s n R f) (aLvE (z03 s f x).1) (oWk s n R (z03 s f x).2))
  (hB : (z03 s f x).1.2 = 0 → AC Tryz.prog 156 [aWk, aSD x, aL (z03 s f x).1.1, aT y.t] (oWk s n R (z03 s f x).2) (ci (z55 s (z03 s f x).2 x.h.n (z03 s f x).1.1 y.t).1) (oWk' (z55 s (z03 s f x).2 x.h.n (z03 s f x).1.1 y.t).2.1 n R (z55 s (z03 s f x).2 x.h.n (z03 s f x).1.1 y.t).2.2)) :
  AC Tryz.prog 138 [aWk, aSD x, aSD y] (oWk s n R f) (ci (z0u s f x y.t).1) (oWk' (z0u s f x y.t).2.1 n R (z0u s f x y.t).2.2) := by
 have e : z0u s f x y.t = if (z03 s f x).1.2 ≠ 0 then ((z03 s f x).1.2, s, (z03 s f x).2) else z55 s (z03 s f x).2 x.h.n (z03 s f x).1.1 y.t := rfl
 rw [e]
 clear e
 generalize z03 s f x = z at *
 obtain ⟨⟨l, er⟩, g⟩ := z
 replace hB : er = 0 → AC Tryz.prog 156 [aWk, aSD x, aL l, aT y.t] (oWk s n R g) (ci (z55 s g x.h.n l y.t).1) (oWk' (z55 s g x.h.n l y.t).2.1 n R (z55 s g x.h.n l y.t).2.2) := hB
 show AC Tryz.prog 138 [aWk, aSD x, aSD y] (oWk s n R f) (ci (if er ≠ 0 then (er, s, g) else z55 s g x.h.n l y.t).1) (oWk' (if er ≠ 0 then (er, s, g) else z55 s g x.h.n l y.t).2.1 n R (if er ≠ 0 then (er, s, g) else z55 s g x.h.n l y.t).2.2)
 generalize z55 s g x.h.n l y.t = w at *
 obtain ⟨we, ws, wf⟩ := w
 obtain ⟨⟨xk, xs, xn, xl⟩, ⟨hk, hs', hn, hl⟩, a⟩ := x
 obtain ⟨⟨yk, ys, yn, yl⟩, ⟨gk, gs', gn, gl⟩, b⟩ := y
 refine AC.vc hP sh lv138 (by simp) (by simp [isLive]) (by simp [isLive]) (Eq.mpr (v138 xk xs xn (FTs xl) hk hs' hn (FTs hl) (FTs a) yk ys yn (FTs yl) gk gs' gn (FTs gl) (FTs b) ..) ?_)
 refine ⟨(l, er, n, g), hL, z01 (fun h => ?_) (fun h => ?_)⟩
 · have h : er ≠ 0 := by have h : (er != 0) = true := h; simpa using h
   rw [if_pos h]
   exact ⟨.refl _, rfl⟩
 · have h : er = 0 := by have h : (er != 0) = false := h; simpa using h
   rw [if_neg (by simp [h])]
   exact ⟨(we, ws, n, R, wf), hB h, .refl _, rfl⟩
end Go.AM

set_option maxRecDepth 100000
open Go Go.Proofs
namespace Go.AM
def ixB (v : Bool) : List Bool → Nat → Int
 | [], _ => -1
 | t :: l, i => if (v == t) = true then (i : Int) else ixB v l (i + 1)
theorem zpl (v : Bool) : ∀ (l : List Bool) (i : Nat), decide (ixB v l i ≥ 0) = l.any fun t => v == t
 | [], _ => rfl
 | t :: l, i => by
  rw [ixB, List.any_cons]
  split
  · rename_i h; rw [h]; simp
  · rename_i h; rw [zpl v l, show (v == t) = false by simpa using h, Bool.false_or]
theorem BR_mid (a : List Bool) (t : Bool) (b : List Bool) : List.getD (BR (a ++ t :: b)) (Int.toNat (a.length : Int)) [] = [.bool t] := by
 rw [Int.toNat_natCast]; simp [BR, List.getD]
theorem l_indexb (v : Bool) (b : List Bool) : ∀ a : List Bool, (a ++ b).length ≤ B → RPt Tryz.prog 168 0 (ci (ixB v b a.length)) [] 1 ⟨[(0, .c (.a (.fz (.sl false 1 (BR (a ++ b)))))), (1, cb v), (7, ci ((a ++ b).length : Int)), (8, ci (a.length : Int))], [], 0⟩ := by
 induction b with
 | nil =>
  intro a hs
  refine RPt.vc hP sh zn8 (Eq.mpr (zn7 ..) ?_)
  exact z01 (fun h => absurd (of_decide_eq_true h) (by simp)) (fun _ => z3o rfl)
 | cons t b ihb =>
  intro a hs
  have h2 := ihb (a ++ [t]) (by simpa using hs)
  have hl : (a ++ t :: b).length = a.length + (b.length + 1) := by simp
  rw [List.append_assoc, List.singleton_append, show (a ++ [t]).length = a.length + 1 by simp] at h2
  simp only [B] at hs
  refine RPt.vc hP sh zn8 (Eq.mpr (zn7 ..) ?_)
  rw [BR_mid, z1q]
  refine z01 (fun _ => ⟨⟨rfl, by omega, by omega, rfl⟩, z01 (fun h => z3o ?_) (fun h => ?_)⟩) (fun h => absurd (of_decide_eq_false h) (by omega))
  · have h : (v == t) = true := h
    rw [ixB, if_pos h]
  · have h : ¬ (v == t) = true := by have h : (v == t) = false := h; simp [h]
    rw [ixB, if_neg h, w64 (x := (a.length : Int) + 1) (by omega) (by omega)]
    exact h2
theorem zi0 (v : Bool) (l : List Bool) (hl : l.length ≤ B) : AC Tryz.prog 154 [.c (.a (.fz (.sl false 1 (BR l)))), cb v] [] (cb (l.any fun t => v == t)) [] := by
 have hi : AC Tryz.prog 168 [.c (.a (.fz (.sl false 1 (BR l)))), cb v] [] (ci (ixB v l 0)) [] := by
  refine AC.vc hP sh zn8 (Nat.le_refl _) (by simp) (by simp) (Eq.mpr (v168 ..) ?_)
  rw [z1q]
  exact ⟨rfl, l_indexb v l [] hl⟩
 refine AC.vc hP sh lv154 (Nat.le_refl _) (by simp) (by simp) (Eq.mpr (v154 ..) ?_)
 exact ⟨_, hi, z06 (zpl v l 0)⟩
abbrev fsR (m : Nat) : List (List FV) := List.replicate m [.bool false]
abbrev prS (s : Sto) (n : Nat) (R : List (List FV)) (f : Int) (x : SD) (a b : List Tm) (ks : List Bool) (m : Nat) : St :=
 ⟨[(0, aWk), (4, .c (.a (.ep 8 9 0 0))), (7, aL a), (9, aL b), (10, .c (.a (.osl 9 1 0 a.length))), (41, ci (a.length : Int)), (42, ci (ks.length : Int))],
  [(0, .arr 3 [[.a (.ep 1 2 0 0), .a (.osl 7 8 0 n), .a (.fz (.int .i64 f))]]), (1, sto2 5 6 s), (2, .gone), (3, .gone), (4, .gone), (5, .arz 6 (SR s.V)), (6, .arz 1 (IR s.T)), (7, .arz 8 R), (8, .arr 9 [cSD x]), (9, .arz 1 (BR ks ++ fsR m))], 10⟩
theorem BR_snoc (ks : List Bool) (t : Bool) (m : Nat) : List.set (BR ks ++ fsR (m + 1)) (0 + Int.toNat (ks.length : Int)) [.bool t] = BR (ks ++ [t]) ++ fsR m := by
 rw [Int.toNat_natCast, Nat.zero_add, List.set_append_right (h := by rw [z1q]; exact Nat.le_refl _), z1q, Nat.sub_self]
 simp [BR, List.replicate_succ]
theorem zl7 (s : Sto) (n : Nat) (R : List (List FV)) (f : Int) (x : SD) (a b : List Tm) (ha : a.length ≤ 1000000000) (hz : ∀ t ∈ a, t.sz ≤ B) (z : Int × Sto) (K : List Bool)
  (h0 : (K.any fun t => false == t) = false → z = (0, s))
  (h1 : (K.any fun t => false == t) = true → AC Tryz.prog 155 [aS 0, ci x.h.n, .c (.a (.fz (.sl false 1 (BR K))))] (oS s) (ci z.1) (oS' z.2)) :
  ∀ (ra rb pa pb : List Tm), a = pa ++ ra → b = pb ++ rb → pa.length = pb.length → ra.length = rb.length → List.zipWith z2d a b = K →
  RPt Tryz.prog 137 5 (ci z.1) (oWk' z.2 n R f) 3 (prS s n R f x a b (List.zipWith z2d pa pb) ra.length)
 | [], rb, pa, pb, ea, eb, hp, hr, hK => by
  have : rb = [] := List.eq_nil_of_length_eq_zero hr.symm
  subst this
  rw [List.append_nil] at ea eb
  subst ea; subst eb
  have hk : K.length = a.length := by rw [← hK]; simp [hp]
  have hc := zi0 false K (by simp only [B]; omega)
  rw [hK]
  have ed : List.take a.length (List.drop 0 (BR K ++ fsR 0)) = BR K := by
   rw [List.drop_zero, show fsR 0 = [] from rfl, List.append_nil, List.take_of_length_le (by rw [z1q]; omega)]
  have hl9 : 0 + a.length ≤ (BR K ++ fsR 0).length := by rw [show fsR 0 = [] from rfl, List.append_nil, z1q]; omega
  obtain ⟨ze, zs⟩ := z
  obtain ⟨⟨xk, xs, xn, xl⟩, ⟨hk', hs', hn, hl⟩, xa⟩ := x
  show RPt Tryz.prog 137 5 (ci ze) (oWk' zs n R f) 3 (prS s n R f ⟨.mk xk xs xn xl, .mk hk' hs' hn hl, xa⟩ a b K 0)
  refine RPt.vc hP sh zoq (Eq.mpr (zpv ..) ?_)
  refine z01 (fun h => absurd (of_decide_eq_true h) (by omega)) (fun _ => ⟨⟨rfl, hl9⟩, _, by rw [ed]; exact hc, rfl, z01 (fun h => ?_) (fun h => ⟨⟨rfl, hl9⟩, (ze, zs), ?_, .refl _, rfl⟩)⟩)
  · have h : (K.any fun t => false == t) = false := by have h : (!(K.any fun t => false == t)) = true := h; simpa using h
    have e := h0 h
    cases e
    exact ⟨.refl _, rfl⟩
  · have h : (K.any fun t => false == t) = true := by have h : (!(K.any fun t => false == t)) = false := h; simpa using h
    rw [ed]
    exact h1 h
 | t :: ra, [], pa, pb, ea, eb, hp, hr, hK => by cases hr
 | t :: ra, u :: rb, pa, pb, ea, eb, hp, hr, hK => by
  have next := zl7 s n R f x a b ha hz z K h0 h1 ra rb (pa ++ [t]) (pb ++ [u]) (by rw [ea]; simp) (by rw [eb]; simp) (by simp [hp]) (by simpa using hr) hK
  have hs := c_same t (hz t (by rw [ea]; simp)) u
  have ezip : List.zipWith z2d (pa ++ [t]) (pb ++ [u]) = List.zipWith z2d pa pb ++ [z2d t u] := by rw [List.zipWith_append hp]; rfl
  have hkl : (List.zipWith z2d pa pb).length = pa.length := by simp [hp]
  have hal : a.length = pa.length + (ra.length + 1) := by rw [ea]; simp
  have hbl : b.length = pb.length + (rb.length + 1) := by rw [eb]; simp
  have hra : ra.length = rb.length := by simpa using hr
  have ema : List.getD (FTs a) (Int.toNat (pa.length : Int)) [] = FT t := by rw [ea]; exact midI pa t ra
  have emb : List.getD (FTs b) (Int.toNat (pa.length : Int)) [] = FT u := by rw [eb, hp]; exact midI pb u rb
  have eaa : aE (List.getD (FTs a) (Int.toNat (pa.length : Int)) []) = aT t := by rw [ea]; exact z4v pa t ra
  have eab : aE (List.getD (FTs b) (Int.toNat (pa.length : Int)) []) = aT u := by rw [eb, hp]; exact z4v pb u rb
  rw [ezip] at next
  unfold prS at next ⊢
  rw [show (List.zipWith z2d pa pb ++ [z2d t u]).length = pa.length + 1 by simp [hp]] at next
  rw [hkl]
  have eset := BR_snoc (List.zipWith z2d pa pb) (z2d t u) ra.length
  rw [hkl] at eset
  obtain ⟨⟨xk, xs, xn, xl⟩, ⟨hk', hs', hn, hl⟩, xa⟩ := x
  refine RPt.vc hP sh zoq (Eq.mpr (zpv ..) ?_)
  rw [eaa, eab, ema, emb, z00, z00]
  refine z01 (fun _ => ⟨⟨rfl, by omega, by omega, za6 t⟩, ⟨rfl, by omega, by omega, za6 u⟩, _, hs, ⟨by omega, by omega⟩, ⟨?_, ?_⟩, ?_⟩) (fun h => absurd (of_decide_eq_false h) (by omega))
  · rw [List.length_append, z1q, hkl]; simp
  · rw [Int.toNat_natCast, Nat.zero_add]; simp [List.getD, BR, hp, List.replicate_succ]
  · rw [w64 (x := (pa.length : Int) + 1) (by omega) (by omega)]
    rw [show (t :: ra).length = ra.length + 1 from rfl, eset]
    exact next
def z1m (s : Sto) (f : Int) (x y : SD) : Int × Sto × Int :=
 if (z03 s f x).1.2 ≠ 0 then ((z03 s f x).1.2, s, (z03 s f x).2)
 else if (z03 s (z03 s f x).2 y).1.2 ≠ 0 then ((z03 s (z03 s f x).2 y).1.2, s, (z03 s (z03 s f x).2 y).2)
 else if (z03 s f x).1.1.length ≠ (z03 s (z03 s f x).2 y).1.1.length then (171, s, (z03 s (z03 s f x).2 y).2)
 else if ((List.zipWith z2d (z03 s f x).1.1 (z03 s (z03 s f x).2 y).1.1).any fun t => false == t) = false then (0, s, (z03 s (z03 s f x).2 y).2)
 else (z6s s x.h.n, z3r s x.h.n (List.zipWith z2d (z03 s f x).1.1 (z03 s (z03 s f x).2 y).1.1), (z03 s (z03 s f x).2 y).2)
theorem c_uprune (s : Sto) (n : Nat) (R : List (List FV)) (f : Int) (x y : SD)
  (hA : AC Tryz.prog 153 [aWk, aSD x] (oWk s n R f) (aLvE (z03 s f x).1) (oWk s n R (z03 s f x).2))
  (hB : (z03 s f x).1.2 = 0 → AC Tryz.prog 153 [aWk, aSD y] (oWk s n R (z03 s f x).2) (aLvE (z03 s (z03 s f x).2 y).1) (oWk s n R (z03 s (z03 s f x).2 y).2))
  (ha : (z03 s f x).1.1.length ≤ 1000000000) (hz : ∀ t ∈ (z03 s f x).1.1, t.sz ≤ B)
  (h1 : ∀ K : List Bool, K.length = (z03 s f x).1.1.length → AC Tryz.prog 155 [aS 0, ci x.h.n, .c (.a (.fz (.sl false 1 (BR K))))] (oS s) (ci (z6s s x.h.n)) (oS' (z3r s x.h.n K))) :
  AC Tryz.prog 137 [aWk, aSD x, aSD y] (oWk s n R f) (ci (z1m s f x y).1) (oWk' (z1m s f x y).2.1 n R (z1m s f x y).2.2) := by
 unfold z1m
 generalize z03 s f x = z at *
 obtain ⟨⟨a, er⟩, g⟩ := z
 replace hB : er = 0 → AC Tryz.prog 153 [aWk, aSD y] (oWk s n R g) (aLvE (z03 s g y).1) (oWk s n R (z03 s g y).2) := hB
 replace ha : a.length ≤ 1000000000 := ha
 replace hz : ∀ t ∈ a, t.sz ≤ B := hz
 replace h1 : ∀ K : List Bool, K.length = a.length → AC Tryz.prog 155 [aS 0, ci x.h.n, .c (.a (.fz (.sl false 1 (BR K))))] (oS s) (ci (z6s s x.h.n)) (oS' (z3r s x.h.n K)) := h1
 dsimp only
 generalize z03 s g y = w at *
 obtain ⟨⟨b, er2⟩, g2⟩ := w
 replace hB : er = 0 → AC Tryz.prog 153 [aWk, aSD y] (oWk s n R g) (aLvE (b, er2)) (oWk s n R g2) := hB
 dsimp only
 have main : a.length = b.length → ∀ z : Int × Sto, (((List.zipWith z2d a b).any fun t => false == t) = false → z = (0, s)) → (((List.zipWith z2d a b).any fun t => false == t) = true → z = (z6s s x.h.n, z3r s x.h.n (List.zipWith z2d a b))) →
   RPt Tryz.prog 137 5 (ci z.1) (oWk' z.2 n R g2) 3 (prS s n R g2 x a b [] a.length) := fun hab z z0 z1 => by
  refine zl7 s n R g2 x a b ha hz z _ z0 (fun h => ?_) a b [] [] rfl rfl rfl hab rfl
  rw [z1 h]
  exact h1 _ (by simp [hab])
 obtain ⟨⟨xk, xs, xn, xl⟩, ⟨hk, hs', hn, hl⟩, xa⟩ := x
 obtain ⟨⟨yk, ys, yn, yl⟩, ⟨gk, gs', gn, gl⟩, ya⟩ := y
 refine AC.vc hP sh zoq (by simp) (by simp [isLive]) (by simp [isLive]) (Eq.mpr (v137 xk xs xn (FTs xl) hk hs' hn (FTs hl) (FTs xa) yk ys yn (FTs yl) gk gs' gn (FTs gl) (FTs ya) ..) ?_)
 refine ⟨(a, er, n, g), hA, z01 (fun h => ?_) (fun h => ?_)⟩
 · have h : er ≠ 0 := by have h : (er != 0) = true := h; simpa using h
   rw [if_pos h]
   exact ⟨.refl _, rfl⟩
 have h : er = 0 := by have h : (er != 0) = false := h; simpa using h
 rw [if_neg (by simp [h])]
 refine ⟨(b, er2, n, g2), hB h, z01 (fun h2 => ?_) (fun h2 => ⟨rfl, rfl, ?_⟩)⟩
 · have h2 : er2 ≠ 0 := by have h2 : (er2 != 0) = true := h2; simpa using h2
   rw [if_pos h2]
   exact ⟨.refl _, rfl⟩
 have h2 : er2 = 0 := by have h2 : (er2 != 0) = false := h2; simpa using h2
 rw [if_neg (by simp [h2]), z00, z00]
 refine z01 (fun h3 => ?_) (fun h3 => ⟨rfl, ⟨rfl, by omega, rfl, by omega, by omega, ?_⟩, rfl, ?_⟩)
 · have h3 : a.length ≠ b.length := by have h3 : ((a.length : Int) != (b.length : Int)) = true := h3; intro q; rw [q] at h3; simp at h3
   rw [if_pos h3]
   exact ⟨.refl _, rfl⟩
 · unfold z0i; rw [Int.toNat_natCast]; dsimp only; omega
 · have h3 : a.length = b.length := by
    have h3 : ((a.length : Int) != (b.length : Int)) = false := h3
    have : (a.length : Int) = (b.length : Int) := by simpa using h3
    omega
   rw [if_neg (by simp [h3]), Int.toNat_natCast]
   split
   · rename_i h4
     exact main h3 (0, s) (fun _ => rfl) (fun q => by rw [q] at h4; cases h4)
   · rename_i h4
     exact main h3 (z6s s hn, z3r s hn (List.zipWith z2d a b)) (fun q => absurd q h4) (fun _ => rfl)
end Go.AM

set_option maxRecDepth 100000
open Go Go.Proofs
namespace Go.AM
def z4r (t : Tm) : Tm := if z02 t = true then (if t.k = 5 then hd t.l else z07 (shT 0 1 t 0) [.mk 3 [] 0 []]) else t
theorem c_ubody (t : Tm) (hz : t.sz ≤ B) (hb : bd M61 t) (hl : (shT 0 1 t 0).l.length + 1 < 2199023255552) : AC Tryz.prog 135 [aT t] [] (aT (z4r t)) [] := by
 have hv := z1x t hz
 have hs := zih t 0 1 hz hb (Int.le_refl _) (by simp only [M61]; omega) (by omega) (by simp only [M61]; omega)
 have ha := z3p (shT 0 1 t 0) [.mk 3 [] 0 []] hl
 have ok5 : z02 t = true → t.k = 5 → ∃ u, t.l = [u] := fun h h5 => by
  obtain ⟨k, s, n, l⟩ := t
  obtain ⟨u, hu, _⟩ := okB5 (z09 _ h) h5
  exact ⟨u, hu⟩
 unfold z4r
 generalize z02 t = v at *
 generalize z07 (shT 0 1 t 0) [.mk 3 [] 0 []] = r at *
 generalize shT 0 1 t 0 = w at *
 obtain ⟨k, s, n, l⟩ := t
 refine AC.vc hP sh lv135 (Nat.le_refl _) (by simp) (by simp) (Eq.mpr (v135 k s n (FTs l) ..) ?_)
 refine ⟨_, hv, z01 (fun h => ?_) (fun h => z01 (fun h5 => ?_) (fun h5 => ?_))⟩
 · have h : v = false := by simpa using h
   rw [h, if_neg (by simp)]
   exact ⟨.refl _, rfl⟩
 · have h : v = true := by simpa using h
   have h5 : k = 5 := eq_of_beq h5
   obtain ⟨u, hu⟩ := ok5 h h5
   have hu : l = [u] := hu
   subst hu
   rw [if_pos h, if_pos (show (Tm.mk k s n [u]).k = 5 from h5)]
   refine ⟨el0 u [], ?_, rfl⟩
   rw [show aE (List.getD (FTs [u]) 0 []) = aT u from z4v [] u []]
   exact .refl _
 · have h : v = true := by simpa using h
   have h5 : ¬ k = 5 := by have h5 : (k == 5) = false := h5; simpa using h5
   rw [if_pos h, if_neg (show ¬ (Tm.mk k s n l).k = 5 from h5)]
   exact ⟨w, hs, ⟨rfl, by omega⟩, r, ha.args ⟨.refl _, args1 (leFT z0l), trivial⟩, .refl _, rfl⟩
theorem zku (x : SD) : AC Tryz.prog 136 [aSD x] [] (cb (x.h.k == 4)) [] := by
 obtain ⟨⟨xk, xs, xn, xl⟩, ⟨hk, hs', hn, hl⟩, a⟩ := x
 refine AC.vc hP sh lv136 (Nat.le_refl _) (by simp) (by simp) (Eq.mpr (v136 xk xs xn (FTs xl) hk hs' hn (FTs hl) (FTs a) ..) ?_)
 exact ⟨.refl _, rfl⟩
end Go.AM

set_option maxRecDepth 100000
open Go Go.Proofs
namespace Go.AM
def z6q (s : Sto) (g : Int) (x y : SD) : (Int × Sto × Int) × List (Tm × Tm) :=
 if x.t.k = 5 ∨ y.t.k = 5 then ((0, s, g), [(z4r x.t, z4r y.t)])
 else if x.h.k = 4 ∧ y.h.k = 4 ∧ x.h.n = y.h.n then (z1m s g x y, [])
 else if x.h.k = 4 then (z0u s g x y.t, [])
 else if y.h.k = 4 then (z0u s g y x.t, [])
 else if z2d x.h y.h = false ∨ x.a.length ≠ y.a.length then ((170, s, g), [])
 else ((0, s, g), x.a.zip y.a)
def z0h (s : Sto) (f : Int) (p : Tm × Tm) : (Int × Sto × Int) × List (Tm × Tm) :=
 if (z0s s f p.1).1.2 ≠ 0 then (((z0s s f p.1).1.2, s, (z0s s f p.1).2), [])
 else if (z0s s (z0s s f p.1).2 p.2).1.2 ≠ 0 then (((z0s s (z0s s f p.1).2 p.2).1.2, s, (z0s s (z0s s f p.1).2 p.2).2), [])
 else z6q s (z0s s (z0s s f p.1).2 p.2).2 (z0s s f p.1).1.1 (z0s s (z0s s f p.1).2 p.2).1.1
abbrev oPa (n : Nat) (R : List (List FV)) (z : (Int × Sto × Int) × List (Tm × Tm)) : List AObj := oWk' z.1.2.1 (n + z.2.length) (stk R n z.2.reverse) z.1.2.2
theorem c_upair (s : Sto) (n : Nat) (R : List (List FV)) (f : Int) (p : Tm × Tm) (hn : n ≤ R.length) (hn2 : n ≤ 500000000000)
  (hX : AC Tryz.prog 133 [aWk, aT p.1] (oWk s n R f) (aSE (z0s s f p.1).1) (oWk s n R (z0s s f p.1).2))
  (hY : (z0s s f p.1).1.2 = 0 → AC Tryz.prog 133 [aWk, aT p.2] (oWk s n R (z0s s f p.1).2) (aSE (z0s s (z0s s f p.1).2 p.2).1) (oWk s n R (z0s s (z0s s f p.1).2 p.2).2))
  (hG : ∀ x y g, (z0s s f p.1).1 = (x, 0) → z0s s (z0s s f p.1).2 p.2 = ((y, 0), g) →
   AC Tryz.prog 135 [aT x.t] [] (aT (z4r x.t)) [] ∧ AC Tryz.prog 135 [aT y.t] [] (aT (z4r y.t)) [] ∧ x.h.sz ≤ B ∧ x.a.length ≤ 1000000000 ∧
   (y.h.k = 4 → AC Tryz.prog 137 [aWk, aSD x, aSD y] (oWk s n R g) (ci (z1m s g x y).1) (oWk' (z1m s g x y).2.1 n R (z1m s g x y).2.2)) ∧
   (x.h.k = 4 → AC Tryz.prog 138 [aWk, aSD x, aSD y] (oWk s n R g) (ci (z0u s g x y.t).1) (oWk' (z0u s g x y.t).2.1 n R (z0u s g x y.t).2.2)) ∧
   (y.h.k = 4 → AC Tryz.prog 138 [aWk, aSD y, aSD x] (oWk s n R g) (ci (z0u s g y x.t).1) (oWk' (z0u s g y x.t).2.1 n R (z0u s g y x.t).2.2))) :
  AC Tryz.prog 109 [aWk, .agg [.a (.fz (.int .i64 p.1.k)), .a (.fz (.str p.1.s)), .a (.fz (.int .i64 p.1.n)), .a (.fz (.sl false 4 (FTs p.1.l))), .a (.fz (.int .i64 p.2.k)), .a (.fz (.str p.2.s)), .a (.fz (.int .i64 p.2.n)), .a (.fz (.sl false 4 (FTs p.2.l)))]] (oWk s n R f) (ci (z0h s f p).1.1) (oPa n R (z0h s f p)) := by
 unfold z0h
 generalize z0s s f p.1 = zx at *
 obtain ⟨⟨x, e1⟩, g1⟩ := zx
 dsimp only at hX hY hG ⊢
 generalize z0s s g1 p.2 = zy at *
 obtain ⟨⟨y, e2⟩, g⟩ := zy
 dsimp only at hX hY hG ⊢
 obtain ⟨⟨ak, a2, an, al⟩, ⟨bk, bs, bn, bl⟩⟩ := p
 refine AC.vc hP sh lv109 (by simp) (by simp [isLive]) (by simp [isLive]) (Eq.mpr (v109 ak a2 an (FTs al) bk bs bn (FTs bl) ..) ?_)
 refine ⟨(x.t, x.h, x.a, e1, n, g1), hX, z01 (fun h => ?_) (fun h => ?_)⟩
 · have h : e1 ≠ 0 := by have h : (e1 != 0) = true := h; simpa using h
   rw [if_pos h]
   exact ⟨.refl _, rfl⟩
 have h : e1 = 0 := by have h : (e1 != 0) = false := h; simpa using h
 subst h
 rw [if_neg (by simp)]
 refine ⟨(y.t, y.h, y.a, e2, n, g), hY rfl, z01 (fun h => ?_) (fun h => ?_)⟩
 · have h : e2 ≠ 0 := by have h : (e2 != 0) = true := h; simpa using h
   rw [if_pos h]
   exact ⟨.refl _, rfl⟩
 have h : e2 = 0 := by have h : (e2 != 0) = false := h; simpa using h
 subst h
 rw [if_neg (by simp)]
 obtain ⟨bx, by_, hxz, hxl, pr, fx, fy⟩ := hG x y g rfl rfl
 clear hX hY hG
 have hs := c_same x.h hxz y.h
 have ux := zku x
 have uy := zku y
 have push1 := zol s n R g [z4r x.t] [z4r y.t] rfl hn (by simp only [List.length_cons, List.length_nil]; omega)
 have q4 : ∀ t : Tm, aL [t] = .c (.a (.fz (.sl false 4 [FT4 t]))) := fun t => by rw [z5h]; rfl
 rw [q4, q4] at push1
 have body : z6q s g x y = ((0, s, g), [(z4r x.t, z4r y.t)]) → TV.Le (.c (.a (.fz (.int .i64 0)))) (ci (z6q s g x y).1.1) ∧ oWk' s (n + [z4r x.t].length) (stk R n ([z4r x.t].zip [z4r y.t]).reverse) g = oPa n R (z6q s g x y) := fun e => by
  rw [e]; exact ⟨.refl _, rfl⟩
 refine z01 (fun h5 => ?_) (fun h5 => z01 (fun h6 => ?_) (fun h6 => ?_))
 · have h5 : x.t.k = 5 := eq_of_beq h5
   exact ⟨_, bx, _, by_, ⟨rfl, Nat.le_refl _⟩, ⟨rfl, Nat.le_refl _⟩, (s, n + 1, stk R n [(z4r x.t, z4r y.t)], g), push1, body (by unfold z6q; rw [if_pos (.inl h5)])⟩
 · have h6 : y.t.k = 5 := eq_of_beq h6
   exact ⟨_, bx, _, by_, ⟨rfl, Nat.le_refl _⟩, ⟨rfl, Nat.le_refl _⟩, (s, n + 1, stk R n [(z4r x.t, z4r y.t)], g), push1, body (by unfold z6q; rw [if_pos (.inr h6)])⟩
 have h5 : ¬ x.t.k = 5 := by have h5 : (x.t.k == 5) = false := h5; simpa using h5
 have h6 : ¬ y.t.k = 5 := by have h6 : (y.t.k == 5) = false := h6; simpa using h6
 have e0 : z6q s g x y = if x.h.k = 4 ∧ y.h.k = 4 ∧ x.h.n = y.h.n then (z1m s g x y, [])
   else if x.h.k = 4 then (z0u s g x y.t, [])
   else if y.h.k = 4 then (z0u s g y x.t, [])
   else if z2d x.h y.h = false ∨ x.a.length ≠ y.a.length then ((170, s, g), [])
   else ((0, s, g), x.a.zip y.a) := by unfold z6q; rw [if_neg (by simp [h5, h6])]
 clear body push1
 have one : ∀ z : Int × Sto × Int, z6q s g x y = (z, []) → TV.Le (ci z.1) (ci (z6q s g x y).1.1) ∧ oWk' z.2.1 n R z.2.2 = oPa n R (z6q s g x y) := fun z e => by
  rw [e]; exact ⟨.refl _, rfl⟩
 refine ⟨_, ux, z01 (fun hx => ?_) (fun hx => ?_)⟩
 · have hx4 : x.h.k = 4 := eq_of_beq hx
   have flex : ¬ (y.h.k = 4 ∧ x.h.n = y.h.n) → z6q s g x y = (z0u s g x y.t, []) := fun q => by
    rw [e0, if_neg (fun r => q r.2), if_pos hx4]
   refine ⟨_, uy, z01 (fun hy => z01 (fun hN => ?_) (fun hN => ?_)) (fun hy => ?_)⟩
   · have hy4 : y.h.k = 4 := eq_of_beq hy
     have hN : x.h.n = y.h.n := eq_of_beq hN
     exact ⟨((z1m s g x y).1, (z1m s g x y).2.1, n, R, (z1m s g x y).2.2), pr hy4, one (z1m s g x y) (by rw [e0, if_pos ⟨hx4, hy4, hN⟩])⟩
   · have hN : ¬ x.h.n = y.h.n := by have hN : (x.h.n == y.h.n) = false := hN; simpa using hN
     exact ⟨_, ux, z01 (fun _ => ⟨((z0u s g x y.t).1, (z0u s g x y.t).2.1, n, R, (z0u s g x y.t).2.2), fx hx4, one (z0u s g x y.t) (flex (fun q => hN q.2))⟩) (fun q => absurd (hx.symm.trans q) (by simp))⟩
   · have hy4 : ¬ y.h.k = 4 := by have hy : (y.h.k == 4) = false := hy; simpa using hy
     exact ⟨_, ux, z01 (fun _ => ⟨((z0u s g x y.t).1, (z0u s g x y.t).2.1, n, R, (z0u s g x y.t).2.2), fx hx4, one (z0u s g x y.t) (flex (fun q => hy4 q.1))⟩) (fun q => absurd (hx.symm.trans q) (by simp))⟩
 · have hx4 : ¬ x.h.k = 4 := by have hx : (x.h.k == 4) = false := hx; simpa using hx
   refine ⟨_, ux, z01 (fun q => absurd (hx.symm.trans q) (by simp)) (fun _ => ⟨_, uy, z01 (fun hy => ?_) (fun hy => ⟨_, hs, z01 (fun hq => ?_) (fun hq => ⟨rfl, rfl, ?_⟩)⟩)⟩)⟩
   · have hy4 : y.h.k = 4 := eq_of_beq hy
     exact ⟨((z0u s g y x.t).1, (z0u s g y x.t).2.1, n, R, (z0u s g y x.t).2.2), fy hy4, one (z0u s g y x.t) (by rw [e0, if_neg (fun q => hx4 q.1), if_neg hx4, if_pos hy4])⟩
   · have hy4 : ¬ y.h.k = 4 := by have hy : (y.h.k == 4) = false := hy; simpa using hy
     have hq : z2d x.h y.h = false := by have hq : (!z2d x.h y.h) = true := hq; simpa using hq
     exact one (170, s, g) (by rw [e0, if_neg (fun q => hx4 q.1), if_neg hx4, if_neg hy4, if_pos (.inl hq)])
   · have hy4 : ¬ y.h.k = 4 := by have hy : (y.h.k == 4) = false := hy; simpa using hy
     have hq : z2d x.h y.h = true := by have hq : (!z2d x.h y.h) = false := hq; simpa using hq
     rw [z00, z00]
     refine z01 (fun hl => ?_) (fun hl => ?_)
     · have hl : x.a.length ≠ y.a.length := by have hl : ((x.a.length : Int) != (y.a.length : Int)) = true := hl; intro q; rw [q] at hl; simp at hl
       exact one (170, s, g) (by rw [e0, if_neg (fun q => hx4 q.1), if_neg hx4, if_neg hy4, if_pos (.inr hl)])
     · have hl : x.a.length = y.a.length := by
        have hl : ((x.a.length : Int) != (y.a.length : Int)) = false := hl
        have : (x.a.length : Int) = (y.a.length : Int) := by simpa using hl
        omega
       have e1 : z6q s g x y = ((0, s, g), x.a.zip y.a) := by rw [e0, if_neg (fun q => hx4 q.1), if_neg hx4, if_neg hy4, if_neg (by simp [hq, hl])]
       refine ⟨(s, n + x.a.length, stk R n (x.a.zip y.a).reverse, g), zol s n R g x.a y.a hl hn (by omega), ?_⟩
       rw [e1]
       refine ⟨.refl _, ?_⟩
       show _ = oWk' s (n + (x.a.zip y.a).length) (stk R n (x.a.zip y.a).reverse) g
       rw [show (x.a.zip y.a).length = x.a.length by simp [hl]]
end Go.AM

set_option maxRecDepth 100000
open Go Go.Proofs
namespace Go.AM
def runW : Nat → Sto → Int → List (Tm × Tm) → Int × Sto × Int
 | _, s, f, [] => (0, s, f)
 | 0, s, f, _ :: _ => (80, s, f)
 | F + 1, s, f, p :: st =>
  if f ≤ 0 then (80, s, f)
  else if (z0h s (f - 1) p).1.1 ≠ 0 then (z0h s (f - 1) p).1
  else runW F (z0h s (f - 1) p).1.2.1 (z0h s (f - 1) p).1.2.2 ((z0h s (f - 1) p).2 ++ st)
abbrev ruS (s : Sto) (n : Nat) (R : List (List FV)) (f : Int) : St :=
 ⟨[(0, aWk)], [(0, .arr 3 [[.a (.ep 1 2 0 0), .a (.osl 7 8 0 n), .a (.fz (.int .i64 f))]]), (1, sto2 5 6 s), (2, .gone), (3, .gone), (4, .gone), (5, .arz 6 (SR s.V)), (6, .arz 1 (IR s.T)), (7, .arz 8 R)], 8⟩
theorem take_top {R A : List (List FV)} {x : List FV} {m : Nat} (hA : A.length = m) (h : R.take (m + 1) = A ++ [x]) : List.getD R m [] = x ∧ R.take m = A ∧ m < R.length := by
 have hl : (R.take (m + 1)).length = m + 1 := by rw [h]; simp [hA]
 have hm : m < R.length := by rw [List.length_take] at hl; omega
 refine ⟨?_, ?_, hm⟩
 · have : (R.take (m + 1))[m]? = some x := by rw [h, ← hA]; simp
   rw [List.getElem?_take_of_lt (by omega)] at this
   simp [List.getD, this]
 · have : (R.take (m + 1)).take m = A := by rw [h, ← hA]; simp
   rw [List.take_take, Nat.min_eq_left (by omega)] at this
   exact this
abbrev aPr (p : Tm × Tm) : TV := .agg [.a (.fz (.int .i64 p.1.k)), .a (.fz (.str p.1.s)), .a (.fz (.int .i64 p.1.n)), .a (.fz (.sl false 4 (FTs p.1.l))), .a (.fz (.int .i64 p.2.k)), .a (.fz (.str p.2.s)), .a (.fz (.int .i64 p.2.n)), .a (.fz (.sl false 4 (FTs p.2.l)))]
theorem l_urun {I : Sto → Int → List (Tm × Tm) → Prop} (hsm : ∀ s f st, I s f st → st.length ≤ 500000000000 ∧ f ≤ 1000000000)
  (hpair : ∀ s f p st n R, I s f (p :: st) → 0 < f → n ≤ R.length → n = st.length → AC Tryz.prog 109 [aWk, aPr p] (oWk s n R (f - 1)) (ci (z0h s (f - 1) p).1.1) (oPa n R (z0h s (f - 1) p)))
  (hnext : ∀ s f p st, I s f (p :: st) → 0 < f → (z0h s (f - 1) p).1.1 = 0 → I (z0h s (f - 1) p).1.2.1 (z0h s (f - 1) p).1.2.2 ((z0h s (f - 1) p).2 ++ st) ∧ (z0h s (f - 1) p).1.2.2 ≤ f - 1) :
  ∀ (F : Nat) (s : Sto) (f : Int) (st : List (Tm × Tm)) (R : List (List FV)), f.toNat ≤ F → I s f st → R.take st.length = PTs st.reverse →
  ∃ n' R', RPt Tryz.prog 76 5 (ci (runW F s f st).1) (oWk' (runW F s f st).2.1 n' R' (runW F s f st).2.2) 1 (ruS s st.length R f)
 | F, s, f, [], R, hF, hI, hR => by
  refine ⟨0, R, ?_⟩
  have e : runW F s f [] = (0, s, f) := by cases F <;> rfl
  rw [e]
  refine RPt.vc hP sh z79 (Eq.mpr (z7v ..) ?_)
  exact z01 (fun h => absurd (of_decide_eq_true h) (by simp)) (fun _ => ⟨.refl _, rfl⟩)
 | F, s, f, p :: st, R, hF, hI, hR => by
  have hs := hsm s f _ hI
  simp only [List.length_cons] at hs
  rw [List.reverse_cons, z6d] at hR
  obtain ⟨t1, t2, t3⟩ := take_top (m := st.length) (A := PTs st.reverse) (x := FPr p) (by simp [z5d]) hR
  have ew : IntKind.wrap .i64 ((((p :: st).length : Nat) : Int) - 1) = (st.length : Int) := by
   rw [List.length_cons, w64 (by omega) (by omega)]; omega
  have ep : List.getD R (0 + (st.length : Int).toNat) [] = FPr p := by rw [Int.toNat_natCast, Nat.zero_add]; exact t1
  by_cases hf : f ≤ 0
  · have e : runW F s f (p :: st) = (80, s, f) := by
     cases F with
     | zero => rfl
     | succ F => rw [runW, if_pos hf]
    refine ⟨st.length, R, ?_⟩
    rw [e]
    obtain ⟨⟨ak, a2, an, al⟩, ⟨bk, bs, bn, bl⟩⟩ := p
    refine RPt.vc hP sh z79 (Eq.mpr (z7v ..) ?_)
    rw [ew, ep]
    refine z01 (fun _ => ⟨⟨by omega, by simp only [List.length_cons]; omega⟩, ⟨by rw [Int.toNat_natCast]; omega, rfl, rfl⟩, ⟨Int.le_refl _, by omega, by simp only [List.length_cons]; omega⟩, z01 (fun _ => ⟨.refl _, by rw [Int.toNat_natCast]⟩) (fun h => absurd (of_decide_eq_false h) (by omega))⟩) (fun h => absurd (of_decide_eq_false h) (by simp only [List.length_cons]; omega))
  · cases F with
    | zero => omega
    | succ F =>
     have hp := hpair s f p st st.length R hI (by omega) (by omega) rfl
     have hn := hnext s f p st hI (by omega)
     have e : runW (F + 1) s f (p :: st) = if (z0h s (f - 1) p).1.1 ≠ 0 then (z0h s (f - 1) p).1 else runW F (z0h s (f - 1) p).1.2.1 (z0h s (f - 1) p).1.2.2 ((z0h s (f - 1) p).2 ++ st) := by rw [runW, if_neg hf]
     have next : (z0h s (f - 1) p).1.1 = 0 → ∃ n' R', RPt Tryz.prog 76 5 (ci (runW F (z0h s (f - 1) p).1.2.1 (z0h s (f - 1) p).1.2.2 ((z0h s (f - 1) p).2 ++ st)).1) (oWk' (runW F (z0h s (f - 1) p).1.2.1 (z0h s (f - 1) p).1.2.2 ((z0h s (f - 1) p).2 ++ st)).2.1 n' R' (runW F (z0h s (f - 1) p).1.2.1 (z0h s (f - 1) p).1.2.2 ((z0h s (f - 1) p).2 ++ st)).2.2) 1
       (ruS (z0h s (f - 1) p).1.2.1 (st.length + (z0h s (f - 1) p).2.length) (stk R st.length (z0h s (f - 1) p).2.reverse) (z0h s (f - 1) p).1.2.2) := fun h0 => by
      have hn := hn h0
      have hd := zjj (n := st.length) (R := R) (by omega) (z0h s (f - 1) p).2.reverse
      rw [List.length_reverse, t2] at hd
      have := l_urun hsm hpair hnext F (z0h s (f - 1) p).1.2.1 (z0h s (f - 1) p).1.2.2 ((z0h s (f - 1) p).2 ++ st) (stk R st.length (z0h s (f - 1) p).2.reverse) (by omega) hn.1 (by rw [List.length_append, Nat.add_comm, hd.2, List.reverse_append, z6d])
      rw [List.length_append, Nat.add_comm] at this
      exact this
     rw [e]
     clear e hn
     generalize z0h s (f - 1) p = q at *
     obtain ⟨⟨qe, qs, qf⟩, qp⟩ := q
     dsimp only at next ⊢
     by_cases h0 : qe = 0
     · rw [if_neg (by simp [h0])]
       obtain ⟨n', R', hr⟩ := next h0
       refine ⟨n', R', ?_⟩
       obtain ⟨⟨ak, a2, an, al⟩, ⟨bk, bs, bn, bl⟩⟩ := p
       refine RPt.vc hP sh z79 (Eq.mpr (z7v ..) ?_)
       rw [ew, ep, w64 (x := f - 1) (by omega) (by omega), Int.toNat_natCast]
       refine z01 (fun _ => ⟨⟨by omega, by simp only [List.length_cons]; omega⟩, ⟨by omega, rfl, rfl⟩, ⟨Int.le_refl _, by omega, by simp only [List.length_cons]; omega⟩, z01 (fun h => absurd (of_decide_eq_true h) (by omega)) (fun _ => ⟨(qe, qs, st.length + qp.length, stk R st.length qp.reverse, qf), hp, z01 (fun h => absurd h0 (by have h : (qe != 0) = true := h; simpa using h)) (fun _ => hr)⟩)⟩) (fun h => absurd (of_decide_eq_false h) (by simp only [List.length_cons]; omega))
     · rw [if_pos h0]
       refine ⟨st.length + qp.length, stk R st.length qp.reverse, ?_⟩
       obtain ⟨⟨ak, a2, an, al⟩, ⟨bk, bs, bn, bl⟩⟩ := p
       refine RPt.vc hP sh z79 (Eq.mpr (z7v ..) ?_)
       rw [ew, ep, w64 (x := f - 1) (by omega) (by omega), Int.toNat_natCast]
       refine z01 (fun _ => ⟨⟨by omega, by simp only [List.length_cons]; omega⟩, ⟨by omega, rfl, rfl⟩, ⟨Int.le_refl _, by omega, by simp only [List.length_cons]; omega⟩, z01 (fun h => absurd (of_decide_eq_true h) (by omega)) (fun _ => ⟨(qe, qs, st.length + qp.length, stk R st.length qp.reverse, qf), hp, z01 (fun _ => ⟨.refl _, rfl⟩) (fun h => absurd (by have h : (qe != 0) = false := h; simpa using h) h0)⟩)⟩) (fun h => absurd (of_decide_eq_false h) (by simp only [List.length_cons]; omega))
end Go.AM

set_option maxRecDepth 100000
open Go Go.Proofs
namespace Go.AM
def badP (p : Tm × Tm) : Bool := !z02 p.1 || !z02 p.2
theorem c_uall1 (p : Tm × Tm) (h1 : p.1.sz ≤ B) (h2 : p.2.sz ≤ B) : AC Tryz.prog 74 [aPr p] [] (cb (badP p)) [] := by
 have v1 := z1x p.1 h1
 have v2 := z1x p.2 h2
 unfold badP
 obtain ⟨a, b⟩ := p
 dsimp only at v1 v2 ⊢
 generalize z02 a = x at *
 generalize z02 b = y at *
 obtain ⟨ak, a2, an, al⟩ := a
 obtain ⟨bk, bs, bn, bl⟩ := b
 refine AC.vc hP sh lv74 (Nat.le_refl _) (by simp) (by simp) (Eq.mpr (v74 ak a2 an (FTs al) bk bs bn (FTs bl) ..) ?_)
 refine ⟨_, v1, z01 (fun h => ?_) (fun h => ⟨_, v2, ?_⟩)⟩
 · have h : (!x) = true := h
   rw [h]; exact z06 rfl
 · have h : (!x) = false := h
   rw [h, Bool.false_or]; exact z06 rfl
def ixP (q : Tm × Tm → Bool) : List (Tm × Tm) → Nat → Int
 | [], _ => -1
 | t :: l, i => if q t = true then (i : Int) else ixP q l (i + 1)
theorem zmx (q : Tm × Tm → Bool) : ∀ (l : List (Tm × Tm)) (i : Nat), decide (ixP q l i ≥ 0) = l.any q
 | [], _ => rfl
 | t :: l, i => by
  rw [ixP, List.any_cons]
  split
  · rename_i h; rw [h]; simp
  · rename_i h; rw [zmx q l, show q t = false by simpa using h, Bool.false_or]
theorem PTs_mid (a : List (Tm × Tm)) (t : Tm × Tm) (b : List (Tm × Tm)) : List.getD (PTs (a ++ t :: b)) (Int.toNat (a.length : Int)) [] = FPr t := by
 rw [Int.toNat_natCast]; simp [PTs, List.getD]
theorem l_idxp (b : List (Tm × Tm)) : ∀ a : List (Tm × Tm), (a ++ b).length ≤ B → (∀ p ∈ b, p.1.sz ≤ B ∧ p.2.sz ≤ B) → RPt Tryz.prog 107 0 (ci (ixP badP b a.length)) [] 1 ⟨[(0, .c (.a (.fz (.sl false 8 (PTs (a ++ b)))))), (1, .c (.fn (.func 74) [] [])), (7, ci ((a ++ b).length : Int)), (8, ci (a.length : Int))], [], 0⟩ := by
 induction b with
 | nil =>
  intro a hs _
  refine RPt.vc hP sh zqf (Eq.mpr (zbt ..) ?_)
  exact z01 (fun h => absurd (of_decide_eq_true h) (by simp)) (fun _ => z3o rfl)
 | cons t b ihb =>
  intro a hs hz
  have h2 := ihb (a ++ [t]) (by simpa using hs) (fun p hp => hz p (List.mem_cons_of_mem _ hp))
  have hl : (a ++ t :: b).length = a.length + (b.length + 1) := by simp
  rw [List.append_assoc, List.singleton_append, show (a ++ [t]).length = a.length + 1 by simp] at h2
  simp only [B] at hs
  have h1 := c_uall1 t (hz t List.mem_cons_self).1 (hz t List.mem_cons_self).2
  have hm := PTs_mid a t b
  have ei : ixP badP (t :: b) a.length = if badP t = true then (a.length : Int) else ixP badP b (a.length + 1) := rfl
  rw [ei]
  generalize badP t = bp at *
  obtain ⟨⟨ak, a2, an, al⟩, ⟨bk, bs, bn, bl⟩⟩ := t
  refine RPt.vc hP sh zqf (Eq.mpr (zbt ..) ?_)
  rw [hm, z5d, w64 (x := (a.length : Int) + 1) (by omega) (by omega)]
  refine z01 (fun _ => ⟨⟨rfl, by omega, by omega, rfl⟩, bp, h1, z01 (fun h => ?_) (fun h => ?_)⟩) (fun h => absurd (of_decide_eq_false h) (by omega))
  · rw [if_pos h]; exact z3o rfl
  · rw [if_neg (by rw [h]; simp)]; exact h2
theorem c_anyp (l : List (Tm × Tm)) (hl : l.length ≤ B) (hz : ∀ p ∈ l, p.1.sz ≤ B ∧ p.2.sz ≤ B) : AC Tryz.prog 73 [.c (.a (.fz (.sl false 8 (PTs l)))), .c (.fn (.func 74) [] [])] [] (cb (l.any badP)) [] := by
 have hi : AC Tryz.prog 107 [.c (.a (.fz (.sl false 8 (PTs l)))), .c (.fn (.func 74) [] [])] [] (ci (ixP badP l 0)) [] := by
  have := l_idxp l [] hl hz
  refine AC.vc hP sh zqf (Nat.le_refl _) (by simp) (by simp) (Eq.mpr (v107_F74 ..) ?_)
  rw [z5d]
  exact ⟨rfl, this⟩
 refine AC.vc hP sh lv73 (Nat.le_refl _) (by simp) (by simp) (Eq.mpr (v73_F74 ..) ?_)
 exact ⟨_, hi, z06 (zmx badP l 0)⟩
theorem c_urun0 (s : Sto) (f : Int) : AC Tryz.prog 76 [aWk] [.arr 3 [[.a (.ep 1 2 0 0), .a (.fz .nils), .a (.fz (.int .i64 f))]], sto2 2 3 s, .arz 6 (SR s.V), .arz 1 (IR s.T)] (ci 0) [.arr 3 [[.a (.ep 1 2 0 0), .a (.fz .nils), .a (.fz (.int .i64 f))]], sto2 4 5 s, .gone, .gone, .arz 6 (SR s.V), .arz 1 (IR s.T)] := by
 refine AC.vc hP sh lv76 (by simp) (by simp [isLive]) (by simp [isLive]) (Eq.mpr (v76 ..) ?_)
 refine RPt.vc hP sh lv76 (Eq.mpr (v76_1a ..) ?_)
 exact ⟨rfl, .refl _, rfl⟩
end Go.AM

set_option maxRecDepth 100000
open Go Go.Proofs
namespace Go.AM
abbrev aE2 (z : Int × Int) : TV := .tup [(false, [.a (.fz (.int .i64 z.1))]), (false, [.a (.fz (.int .i64 z.2))])]
def allF (s : Sto) (l : List (Tm × Tm)) (f : Int) : (Int × Int) × Sto :=
 if l.any badP = true then ((0, 1), s)
 else if (runW f.toNat s f l).1 ≠ 0 then ((0, (runW f.toNat s f l).1), za0 (runW f.toNat s f l).2.1 s.T.length s.V.length)
 else (((runW f.toNat s f l).2.2, 0), (runW f.toNat s f l).2.1)
abbrev alH (s : Sto) (f : Int) (l : List (Tm × Tm)) (i : Nat) : AHeap :=
 if i = l.length then [(0, sto2 9 10 s), (1, .gone), (2, .gone), (3, .gone), (4, .gone), (5, .arr 2 [[.a (.fz (.int .i64 (s.T.length : Int))), .a (.fz (.int .i64 (s.V.length : Int)))]]), (6, .arr 1 [[.a (.ep 7 3 0 0)]]), (7, .arr 3 [[.a (.ep 0 2 0 0), .a (.fz .nils), .a (.fz (.int .i64 f))]]), (8, .arr 1 [[.a (.fz (.sl false 8 (PTs l)))]]), (9, .arz 6 (SR s.V)), (10, .arz 1 (IR s.T))]
 else [(0, sto2 9 10 s), (1, .gone), (2, .gone), (3, .gone), (4, .gone), (5, .arr 2 [[.a (.fz (.int .i64 (s.T.length : Int))), .a (.fz (.int .i64 (s.V.length : Int)))]]), (6, .arr 1 [[.a (.ep 7 3 0 0)]]), (7, .arr 3 [[.a (.ep 0 2 0 0), .a (.osl 11 8 0 (l.length - i)), .a (.fz (.int .i64 f))]]), (8, .arr 1 [[.a (.fz (.sl false 8 (PTs l)))]]), (9, .arz 6 (SR s.V)), (10, .arz 1 (IR s.T)), (11, .arz 8 (PTs (l.drop i).reverse))]
theorem c_uall (s : Sto) (l : List (Tm × Tm)) (f : Int) (hl : l.length ≤ 1000000000) (hz : ∀ p ∈ l, p.1.sz ≤ B ∧ p.2.sz ≤ B)
  (hrun : l.any badP = false → l ≠ [] → ∃ n' R', AC Tryz.prog 76 [aWk] (oWk s l.length (PTs l.reverse) f) (ci (runW f.toNat s f l).1) (oWk' (runW f.toNat s f l).2.1 n' R' (runW f.toNat s f l).2.2))
  (hundo : l.any badP = false → (runW f.toNat s f l).1 ≠ 0 → AC Tryz.prog 72 [aS 0, .agg [.a (.fz (.int .i64 (s.T.length : Int))), .a (.fz (.int .i64 (s.V.length : Int)))]] (oS (runW f.toNat s f l).2.1) (.tup []) (oS' (za0 (runW f.toNat s f l).2.1 s.T.length s.V.length))) :
  AC Tryz.prog 36 [aS 0, .c (.a (.fz (.sl false 8 (PTs l)))), ci f] (oS s) (aE2 (allF s l f).1) (oS' (allF s l f).2) := by
 have hany := c_anyp l (by simp only [B]; omega) hz
 have hm := c_smark s
 refine AC.vc hP sh lv36 (by simp) (by simp [isLive]) (by simp [isLive]) (Eq.mpr (v36 (PTs l) f ..) ?_)
 refine ⟨_, hany, z01 (fun h => ?_) (fun h => ?_)⟩
 · have e : allF s l f = ((0, 1), s) := by unfold allF; rw [if_pos h]
   rw [e]; exact ⟨.refl _, rfl⟩
 have ea : allF s l f = if (runW f.toNat s f l).1 ≠ 0 then ((0, (runW f.toNat s f l).1), za0 (runW f.toNat s f l).2.1 s.T.length s.V.length)
   else (((runW f.toNat s f l).2.2, 0), (runW f.toNat s f l).2.1) := by unfold allF; rw [if_neg (by rw [h]; simp)]
 have hrun := hrun h
 have hundo := hundo h
 refine ⟨(s.T.length : Int), (s.V.length : Int), hm, PTs l, c_backP (PTs l), ?_⟩
 refine RPt.backF (sh := sh) (lv := lv36) (α := Nat) (Inv := fun i => i ≤ l.length) (idx := fun i => i) (nx := fun i => if i = l.length then 11 else 12) (m0 := 9) (U := [3, 4]) (live := [0, 8, 9, 22]) (oc := 8) (n := 8) (es := PTs l) (x0 := l.length) (g := .tmp 22) (env := [(0, aS 0), (8, .c (.a (.ep 5 2 0 0))), (9, .c (.a (.ep 6 1 0 0))), (22, fnB 108 8)])
  (H := fun i => alH s f l i) hP (by kernel_rfl) isBkP bTyP ?_ (by kernel_rfl) (by kernel_rfl) (by kernel_rfl) (by kernel_rfl) (fun _ _ => by split <;> omega) (fun i _ => by unfold alH; split <;> rfl) (fun e he => ?_) (by rw [z5d]; omega) (fun i hi => by rw [z5d]; exact hi) (fun i k hi hik hk => ?_) (Nat.le_refl _) (by rw [z5d]) (fun i hi h0 => ?_)
 · refine Eq.mpr (v36_1an ..) ?_
   unfold alH
   rw [if_pos rfl, if_pos rfl]
 · obtain ⟨t, _, rfl⟩ := List.mem_map.1 he
   exact FPr_len t
 · have hik : i = k + 1 := hik
   have hi : i ≤ l.length := hi
   subst hik
   have hkl : k < l.length := by omega
   have ef : List.getD (PTs l) k [] = FPr l[k] := by simp [PTs, List.getD, hkl]
   have edz : l.drop k = l[k] :: l.drop (k + 1) := List.drop_eq_getElem_cons hkl
   have estk : PTs (l.drop k).reverse = PTs (l.drop (k + 1)).reverse ++ [FPr l[k]] := by rw [edz, List.reverse_cons, z6d]; rfl
   have hlen : (PTs (l.drop (k + 1)).reverse).length = l.length - (k + 1) := by simp [z5d]
   rw [ef]
   generalize l[k] = p at *
   obtain ⟨⟨ak, a2, an, al⟩, ⟨bk, bs, bn, bl⟩⟩ := p
   by_cases hc : k + 1 = l.length
   · have e1 : alH s f l (k + 1) = [(0, sto2 9 10 s), (1, .gone), (2, .gone), (3, .gone), (4, .gone), (5, .arr 2 [[.a (.fz (.int .i64 (s.T.length : Int))), .a (.fz (.int .i64 (s.V.length : Int)))]]), (6, .arr 1 [[.a (.ep 7 3 0 0)]]), (7, .arr 3 [[.a (.ep 0 2 0 0), .a (.fz .nils), .a (.fz (.int .i64 f))]]), (8, .arr 1 [[.a (.fz (.sl false 8 (PTs l)))]]), (9, .arz 6 (SR s.V)), (10, .arz 1 (IR s.T))] := by unfold alH; rw [if_pos hc]
     rw [e1, if_pos hc]
     refine Eq.mpr (v36_1ara ..) ?_
     refine ⟨Nat.le_refl _, by unfold z0i; omega, k, ⟨(by omega : k ≤ l.length), rfl⟩, ?_, by rw [if_neg (by omega)]⟩
     unfold alH
     rw [if_neg (by omega), estk, show l.length - k = 1 by omega, show l.drop (k + 1) = [] from List.drop_eq_nil_of_le (by omega)]
     rfl
   · have e1 : alH s f l (k + 1) = [(0, sto2 9 10 s), (1, .gone), (2, .gone), (3, .gone), (4, .gone), (5, .arr 2 [[.a (.fz (.int .i64 (s.T.length : Int))), .a (.fz (.int .i64 (s.V.length : Int)))]]), (6, .arr 1 [[.a (.ep 7 3 0 0)]]), (7, .arr 3 [[.a (.ep 0 2 0 0), .a (.osl 11 8 0 (l.length - (k + 1))), .a (.fz (.int .i64 f))]]), (8, .arr 1 [[.a (.fz (.sl false 8 (PTs l)))]]), (9, .arz 6 (SR s.V)), (10, .arz 1 (IR s.T)), (11, .arz 8 (PTs (l.drop (k + 1)).reverse))] := by unfold alH; rw [if_neg hc]
     rw [e1, if_neg hc]
     refine Eq.mpr (v36_1arb ..) ?_
     refine ⟨Nat.le_refl _, ⟨by omega, by unfold z0i; omega⟩, k, ⟨(by omega : k ≤ l.length), rfl⟩, ?_, by rw [if_neg (by omega)]⟩
     unfold alH
     rw [if_neg (by omega), estk, show l.length - k = l.length - (k + 1) + 1 by omega, List.take_of_length_le (by omega)]
     rfl
 · have h0 : i = 0 := h0
   subst h0
   rw [ea]
   clear ea hany hm
   by_cases hn : l = []
   · subst hn
     have e0 : runW f.toNat s f [] = (0, s, f) := by cases f.toNat <;> rfl
     rw [e0]
     have hr := c_urun0 s f
     unfold alH
     rw [if_pos (show 0 = ([] : List (Tm × Tm)).length from rfl), if_pos (show 0 = ([] : List (Tm × Tm)).length from rfl)]
     refine Eq.mpr (v36_1aza ..) ?_
     exact ⟨(0, s, 0, [], f), hr, z01 (fun q => by cases q) (fun _ => ⟨.refl _, rfl⟩)⟩
   · obtain ⟨n', R', hr⟩ := hrun hn
     have hne : ¬ 0 = l.length := fun q => hn (List.eq_nil_of_length_eq_zero q.symm)
     unfold alH
     rw [if_neg hne, if_neg hne, Nat.sub_zero, List.drop_zero]
     generalize runW f.toNat s f l = w at *
     obtain ⟨we, ws, wf⟩ := w
     dsimp only at hundo hr ⊢
     refine Eq.mpr (v36_1azb ..) ?_
     refine ⟨(we, ws, n', R', wf), hr, z01 (fun q => ?_) (fun q => ?_)⟩
     · have q : we ≠ 0 := by have q : (we != 0) = true := q; simpa using q
       rw [if_pos q]
       exact ⟨_, hundo q, .refl _, rfl⟩
     · have q : we = 0 := by have q : (we != 0) = false := q; simpa using q
       rw [if_neg (by simp [q])]
       exact ⟨.refl _, rfl⟩
end Go.AM

set_option maxRecDepth 100000
open Go Go.Proofs
namespace Go.AM
mutual
theorem loose_ge : ∀ (t : Tm) (k acc : Int), acc ≤ z32 t k acc
 | .mk kd _ n l, k, acc => by
  rw [z32]
  split
  · exact z7y l (k + 1) acc
  · split
    · exact z7y l k acc
    · split
      · unfold maxI; split <;> omega
      · exact Int.le_refl _
theorem z7y : ∀ (l : List Tm) (k acc : Int), acc ≤ z7u l k acc
 | [], _, _ => Int.le_refl _
 | t :: l, k, acc => by
  rw [z7u]
  have h1 := loose_ge t k acc
  have h2 := z7y l k (z32 t k acc)
  omega
end
mutual
theorem zlb (M : Int) : ∀ (t : Tm) (k acc : Int), z02 t = true → 0 ≤ k → k + (t.sz : Int) ≤ M → z32 t k acc ≤ 0 → bd M t
 | .mk kd s n l, k, acc, hv, hk, hM, h => by
  have hok := z09 _ hv
  simp only [Tm.sz] at hM
  by_cases h5 : kd = 5
  · have hkid := z24 hv (.inl h5)
    subst h5
    rw [z32, if_pos (by decide)] at h
    exact ⟨fun q => by omega, z94 M l (k + 1) acc hkid (by omega) (by omega) h⟩
  · by_cases h6 : kd = 6
    · have hkid := z24 hv (.inr h6)
      subst h6
      rw [z32, if_neg (by decide), if_pos (by decide)] at h
      exact ⟨fun q => by omega, z94 M l k acc hkid hk (by omega) h⟩
    · have hl := okB0 hok h5 h6
      subst hl
      refine ⟨fun q => ?_, trivial⟩
      subst q
      rw [z32, if_neg (by decide), if_neg (by decide), if_pos (by decide)] at h
      have hn : 0 ≤ n := by
       rw [z02, if_neg (by decide), if_neg (by decide), if_neg (by decide), if_pos (by decide)] at hv
       simp only [Bool.and_eq_true, decide_eq_true_eq] at hv
       exact hv.1.1.1.1
      have : n - k + 1 ≤ 0 := by unfold maxI at h; split at h <;> omega
      omega
theorem z94 (M : Int) : ∀ (l : List Tm) (k acc : Int), (∀ u ∈ l, z02 u = true) → 0 ≤ k → k + (Tm.szs l : Int) ≤ M → z7u l k acc ≤ 0 → bds M l
 | [], _, _, _, _, _, _ => trivial
 | t :: l, k, acc, hv, hk, hM, h => by
  rw [z7u] at h
  have h1 := z7y l k (z32 t k acc)
  simp only [Tm.szs] at hM
  exact ⟨zlb M t k acc (hv t List.mem_cons_self) hk (by omega) (by omega), z94 M l k _ (fun u hu => hv u (List.mem_cons_of_mem _ hu)) hk (by omega) h⟩
end
theorem OKS.bindL {s : Sto} {x : Int} {t : Tm} (h : OKS s) (hz : t.sz ≤ 40000) : OKS (bindS s x t) := by
 by_cases q : z45 s x t = true
 · have q' := q
   simp only [z45, Bool.and_eq_true, decide_eq_true_eq] at q'
   have hb : bd 2199023255552 t := zlb _ t 0 0 q'.2.2.1 (Int.le_refl _) (by omega) q'.2.2.2
   exact OKS.bindA h hz hb
 · rw [(z39 (by simpa using q)).1]; exact h
end Go.AM

set_option maxRecDepth 100000
open Go Go.Proofs
namespace Go.AM
theorem z6e (q : IS) {e : Int} (h : e ≠ 0) : (z2y q e).e ≠ 0 := by
 unfold z2y
 split
 · exact h
 · rename_i h; exact h
theorem zl6 {lv : Int} {L : List Tm} {t : Tm} {k : Int} (h : t.sz = 1) : (imgT lv L t k).1.sz = 1 := by
 unfold imgT
 split
 · exact h
 · split
   · rfl
   · exact h
theorem zkd (lv : Int) (L : List Tm) (k : Int) (m : Nat) : ∀ (l : List Tm) (i : Nat) (a : List Tm × List Tm), (∀ t ∈ l, t.sz = 1) → (∀ t ∈ a.2, t.sz = 1) → ∀ t ∈ (imgs lv L k m l i a).2, t.sz = 1
 | [], _, _, _, h => h
 | t :: l, i, a, hl, h => by
  rw [imgs]
  refine zkd lv L k m l (i + 1) _ (fun u hu => hl u (List.mem_cons_of_mem _ hu)) ?_
  split
  · intro u hu
    rcases List.mem_append.1 hu with hu | hu
    · exact h u hu
    · rw [List.mem_singleton.1 hu]; exact zl6 (hl t List.mem_cons_self)
  · exact h
theorem zfd (c : Bool) (lvy k : Int) (n : Nat) : ∀ (l : List Tm) (i : Nat) (a : List Tm × List Tm), (∀ t ∈ a.2, t.sz = 1) → ∀ t ∈ (z6n c lvy k n l i a).2, t.sz = 1
 | [], _, _, h => h
 | t :: l, i, a, h => by
  rw [z6n]
  refine zfd c lvy k n l (i + 1) _ ?_
  split
  · intro u hu
    rcases List.mem_append.1 hu with hu | hu
    · exact h u hu
    · rw [List.mem_singleton.1 hu]; rfl
  · exact h
theorem flexG_sz {lv : Int} {L : List Tm} {q : IS} {y k : Int} {ls : List Tm} {f : Int} (h : ∀ t ∈ ls, t.sz = 1) : (za4 lv L q y k ls f).1.sz ≤ 2 + ls.length + L.length := by
 have i1 := zkd lv L k ls.length ls 0 ([], []) h (fun t h => nomatch h)
 have i2 := z88 lv L k ls.length ls 0 ([], []) rfl
 have m1 := zfd (decide ((infOf q.s.V y).lv > lv)) (infOf q.s.V y).lv k L.length L 0 _ i1
 have m2 := z5l (decide ((infOf q.s.V y).lv > lv)) (infOf q.s.V y).lv k L.length L 0 (imgs lv L k ls.length ls 0 ([], [])) i2.1
 simp only [List.length_nil, Nat.zero_add] at i2
 unfold za4
 split
 · have a := z2g (.mk 4 [] y []) (imgs lv L k ls.length ls 0 ([], [])).2
   have b := ze0 i1
   have c : (Tm.mk 4 [] y []).sz = 1 := rfl
   simp only
   omega
 · have a := z2g (.mk 4 [] (q.s.V.length : Int) []) (onF lv (infOf q.s.V y).lv L k ls).2
   have b := ze0 m1
   have c : (Tm.mk 4 [] (q.s.V.length : Int) []).sz = 1 := rfl
   simp only
   unfold onF at a ⊢
   omega
section
variable {C : Nat} (hC : C ≤ 1073741824) {L : List Tm} (hL : LP L) (hL1 : L.length ≤ 157) (x lv : Int)
include hC hL hL1
omit hC hL hL1 in
theorem zn9 {tm : IS → Tm → Tm × IS} {f0 : Int} (hgi : ∀ q t, GI C q → 0 ≤ q.f → q.f ≤ f0 → (q.e = 0 → z02 t = true → Fit q.f.toNat t) → GI C (tm q t).2 ∧ (tm q t).2.f ≤ q.f ∧ 0 ≤ (tm q t).2.f)
  (htm : ∀ q t, GI C q → 0 ≤ q.f → q.f ≤ f0 → (q.e = 0 → z02 t = true → Fit q.f.toNat t) → (tm q t).2.e = 0 → q.e = 0 ∧ ((tm q t).1.sz : Int) + 160 * (tm q t).2.f ≤ 160 * q.f) :
  ∀ (l : List Tm) (q : IS), GI C q → 0 ≤ q.f → q.f ≤ f0 → (∀ t ∈ l, z02 t = true → Fit q.f.toNat t) → (z2n tm l q).2.e = 0 → q.e = 0 ∧ (Tm.szs (z2n tm l q).1 : Int) + 160 * (z2n tm l q).2.f ≤ 160 * q.f
 | [], q, h, h0, _, _, he => ⟨he, by simp only [z2n, Tm.szs]; omega⟩
 | t :: l, q, h, h0, h1, hl, he => by
  have a := hgi q t h h0 h1 (fun _ => hl t List.mem_cons_self)
  have b := zn9 hgi htm l (tm q t).2 a.1 a.2.2 (by omega) (fun u hu hv => (hl u (List.mem_cons_of_mem _ hu) hv).mono (by omega)) he
  have c := htm q t h h0 h1 (fun _ => hl t List.mem_cons_self) b.1
  refine ⟨c.1, ?_⟩
  simp only [z2n, Tm.szs]
  have := b.2
  have := c.2
  omega
theorem zpg : ∀ (D : Nat) (q : IS) (t : Tm) (k : Int), GI C q → 0 ≤ q.f → (q.e = 0 → z02 t = true → Fit q.f.toNat t) → (z0x x lv L D q t k).2.e = 0 → q.e = 0 ∧ ((z0x x lv L D q t k).1.sz : Int) + 160 * (z0x x lv L D q t k).2.f ≤ 160 * q.f
 | 0, q, t, k, h, h0, _, he => by
  rw [z0x] at he
  split at he
  · rename_i q1; exact absurd he q1
  · exact absurd he (z6e _ (by decide))
 | D + 1, q, t, k, h, h0, hf, he => by
  rw [z0x] at he ⊢
  split at he
  · rename_i q1; exact absurd he q1
  rename_i q1
  rw [if_neg q1]
  have e0 : q.e = 0 := by simpa using q1
  refine ⟨e0, ?_⟩
  split at he
  · exact absurd he (z6e _ (by decide))
  rename_i hf0
  rw [if_neg hf0]
  have hV := h.V
  have hT := h.T
  have hfit : z02 t = true → Fit (q.f - 1).toNat t := fun hv => (hf e0 hv).mono (by omega)
  unfold zma at he ⊢
  split at he
  · rename_i hz; exact absurd he (z6e _ hz)
  rename_i hz
  rw [if_neg hz]
  have ok := z7k h.ok (by omega) hfit (by simpa using hz)
  generalize z0w q.s (q.f - 1) t = z at *
  obtain ⟨z1, z2, z3⟩ := z
  simp only at ok he ⊢
  obtain ⟨hv, hfz, hz0, hz1⟩ := ok
  have sp := zaa hv hfz
  have g : GI C ⟨q.s, z2, q.e⟩ := h.less hz0 (by omega)
  have ih := fun q' t' k' => zpg D q' t' k'
  have gi := fun q' t' k' => zas hC hL x lv D q' t' k'
  unfold z63 at he ⊢
  split at he
  · rename_i h5
    rw [if_pos h5]
    have hne : (z04 z1).1.l ≠ [] := fun e => by
     have o := z09 _ sp.1.1
     generalize (z04 z1).1 = w at *
     obtain ⟨wk, ws, wn, wl⟩ := w
     obtain ⟨u, hu, _⟩ := okB5 o h5
     rw [hu] at e; cases e
    have hm : hd (z04 z1).1.l ∈ (z04 z1).1.l := by
     cases hl : (z04 z1).1.l with
     | nil => exact absurd hl hne
     | cons a b => exact List.mem_cons_self
    have := ih ⟨q.s, z2, q.e⟩ (hd (z04 z1).1.l) (k + 1) g hz0 (fun _ hv => (sp.2.2.2 _ hm).2 hv) he
    simp only at this ⊢
    rw [zam]
    have := this.2
    omega
  rename_i h5
  rw [if_neg h5]
  split at he
  · rename_i h4
    rw [if_pos h4]
    split at he
    · exact absurd he (z6e _ (by decide))
    rename_i hx
    rw [if_neg hx]
    have ha := z86 g.ok (z04 z1).1.n (z04 z1).2 z2 (fun t ht => (sp.2.1 t ht).2)
    unfold z30 at he ⊢
    split at he
    · rename_i hr; exact absurd he (z6e _ hr)
    rename_i hr
    rw [if_neg hr]
    have ha2 := ha.2.1 hz0 (by simpa using hr)
    have := flexG_sz (lv := lv) (L := L) (q := ⟨q.s, z2, q.e⟩) (y := (z04 z1).1.n) (k := k) (f := (z1f q.s (z04 z1).1.n (z04 z1).2 z2).2.1) (fun t ht => (ha.1 t ht).1)
    rw [zii]
    simp only at this ha2 ⊢
    omega
  rename_i h4
  rw [if_neg h4]
  unfold zhv at he ⊢
  split at he
  · exact absurd he (z6e _ (by decide))
  rename_i hi
  rw [if_neg hi]
  have h6 : (z04 z1).1.k ≠ 6 := by
   unfold z04
   split
   · rename_i h6
     obtain ⟨zk, zs, zn, zl⟩ := z1
     obtain ⟨a, b, r, rfl, ha6, _⟩ := okB6 (z09 _ hv) h6.1
     exact ha6
   · rename_i h6
     exact fun q => h6 ⟨q, hv⟩
  have hone : (z04 z1).1.sz = 1 := by
   have o := z09 _ sp.1.1
   generalize (z04 z1).1 = w at *
   obtain ⟨wk, ws, wn, wl⟩ := w
   have := okB0 o h5 h6
   subst this
   rfl
  have kk := zn9 (tm := fun q t => z0x x lv L D q t k) (f0 := z2) (fun q' t' a b _ d => gi q' t' k a b d) (fun q' t' a b _ d e => ih q' t' k a b d e) (z04 z1).2 ⟨q.s, z2, q.e⟩ g hz0 (Int.le_refl _) (fun t ht => (sp.2.1 t ht).2) he
  have hh : (if (z04 z1).1.k = 3 ∨ (z04 z1).1.k = 1 then (imgT lv L (z04 z1).1 k).1 else (z04 z1).1).sz = 1 := by
   split
   · exact zl6 hone
   · exact hone
  have ap := z2g (if (z04 z1).1.k = 3 ∨ (z04 z1).1.k = 1 then (imgT lv L (z04 z1).1 k).1 else (z04 z1).1) (z2n (fun q t => z0x x lv L D q t k) (z04 z1).2 ⟨q.s, z2, q.e⟩).1
  have k2 := kk.2
  simp only at k2 ap ⊢
  omega
end
end Go.AM

set_option maxRecDepth 100000
open Go Go.Proofs
namespace Go.AM
mutual
def vP (p : Int → Bool) : Tm → Bool
 | .mk k _ n l => (k != 4 || p n) && vPL p l
def vPL (p : Int → Bool) : List Tm → Bool
 | [] => true
 | t :: l => vP p t && vPL p l
end
section
variable {p : Int → Bool}
theorem zid : ∀ {l : List Tm}, vPL p l = true ↔ ∀ t ∈ l, vP p t = true
 | [] => ⟨fun _ t h => (by cases h), fun _ => rfl⟩
 | t :: l => by
  rw [vPL, Bool.and_eq_true, zid (l := l)]
  exact ⟨fun h u hu => (List.mem_cons.1 hu).elim (fun e => e ▸ h.1) (h.2 u), fun h => ⟨h t List.mem_cons_self, fun u hu => h u (List.mem_cons_of_mem _ hu)⟩⟩
theorem vP_kid {t u : Tm} (h : vP p t = true) (hu : u ∈ t.l) : vP p u = true := by
 obtain ⟨k, s, n, l⟩ := t
 rw [vP, Bool.and_eq_true] at h
 exact zid.1 h.2 u hu
theorem zht {k n : Int} {s : List UInt8} {l : List Tm} (hk : k ≠ 4) (h : ∀ t ∈ l, vP p t = true) : vP p (.mk k s n l) = true := by
 rw [vP, zid.2 h]; simp [hk]
theorem zo6 {f : Tm} {l : List Tm} (hf : vP p f = true) (hl : ∀ t ∈ l, vP p t = true) : vP p (z07 f l) = true := by
 cases l with
 | nil => exact hf
 | cons x a =>
  by_cases h : (f.k == 6) = true ∧ f.l ≠ []
  · rw [show z07 f (x :: a) = .mk 6 [] 0 (f.l ++ (x :: a)) from if_pos h]
    exact zht (by omega) fun t ht => (List.mem_append.1 ht).elim (vP_kid hf) (hl t)
  · rw [show z07 f (x :: a) = .mk 6 [] 0 (f :: (x :: a)) from if_neg h]
    exact zht (by omega) fun t ht => (List.mem_cons.1 ht).elim (fun e => e ▸ hf) (hl t)
theorem hd_mem {l : List Tm} (h : l ≠ []) : hd l ∈ l := by
 cases l with
 | nil => exact absurd rfl h
 | cons a b => exact List.mem_cons_self
def SV (p : Int → Bool) (s : Sto) : Prop := ∀ i ∈ s.V, i.bd = true → vP p i.v = true
theorem SV.val {s : Sto} (h : SV p s) {t : Tm} (hb : valB s t = true) : vP p (valS s t) = true := by
 simp only [valB, Bool.and_eq_true] at hb
 by_cases q : 0 ≤ t.n ∧ t.n < (s.V.length : Int)
 · obtain ⟨hl, e⟩ := z3e q.1 q.2
   rw [valS, e]
   rw [e] at hb
   exact h _ (List.getElem_mem hl) hb.2
 · rw [z66 q] at hb; simp [noI] at hb
end
end Go.AM

set_option maxRecDepth 100000
open Go Go.Proofs
namespace Go.AM
theorem zi6 {s : Sto} {lv i : Int} (h0 : 0 ≤ i) (h1 : i < (s.V.length : Int)) : infOf (freshS s lv).V i = infOf s.V i := by
 obtain ⟨hl, e⟩ := z3e h0 h1
 obtain ⟨hl', e'⟩ := z3e (V := (freshS s lv).V) h0 (by simp [freshS]; omega)
 rw [e, e']
 exact List.getElem_append_left hl
theorem z93 {s : Sto} {y i : Int} {t : Tm} (h0 : 0 ≤ i) (h1 : i < (s.V.length : Int)) : infOf (bindS s y t).V i = infOf s.V i ∨ (i = y ∧ infOf (bindS s y t).V i = ⟨(infOf s.V y).lv, true, t⟩) := by
 by_cases q : z45 s y t = true
 · have hy := z6h q
   obtain ⟨hl, e⟩ := z3e h0 h1
   obtain ⟨hl', e'⟩ := z3e (V := (bindS s y t).V) h0 (by rw [z1b]; exact h1)
   by_cases hiy : i = y
   · right
     refine ⟨hiy, ?_⟩
     subst hiy
     rw [e']
     simp only [(z1l q).1, List.getElem_set_self]
   · left
     rw [e, e']
     simp only [(z1l q).1]
     rw [List.getElem_set_ne (by omega)]
 · left; rw [(z39 (by simpa using q)).1]
theorem zop {p : Int → Bool} : ∀ (n : Nat) {t : Tm}, vP p t = true → vP p (z5j n t) = true
 | 0, _, h => h
 | n + 1, t, h => by
  rw [z5j]
  exact zop n (zht (k := 5) (by decide) fun u hu => by simp at hu; subst hu; exact h)
structure OI (p : Int → Bool) (x : Int) (m : Nat) (lv0 : Int → Int) (s : Sto) : Prop where
 len : m ≤ s.V.length
 lvl : ∀ i : Int, 0 ≤ i → i < (m : Int) → (infOf s.V i).lv = lv0 i
 bnd : ∀ i : Int, 0 ≤ i → i < (m : Int) → (infOf s.V i).bd = true → p i = true ∧ i ≠ x
 sv : SV p s
section
variable {p : Int → Bool} {x : Int} {m : Nat} {lv0 : Int → Int} (hp : ∀ i : Int, (m : Int) ≤ i → p i = true)
include hp
theorem OI.hang {s : Sto} (h : OI p x m lv0 s) {y : Int} (hy : p y = true) (hx : y ≠ x) (lv : Int) (k : Nat) {on : List Tm} (ho : ∀ t ∈ on, vP p t = true) : OI p x m lv0 (z31 s y lv k on) := by
 have hl := h.len
 have ht : vP p (z5t s k on) = true := zop _ (zo6 (by
  rw [vP, vPL, hp _ (by omega)]; rfl) ho)
 have key : ∀ i : Int, 0 ≤ i → i < (m : Int) → infOf (z31 s y lv k on).V i = infOf s.V i ∨ (i = y ∧ infOf (z31 s y lv k on).V i = ⟨(infOf s.V y).lv, true, z5t s k on⟩) := fun i h0 h1 => by
  have hf : infOf (freshS s lv).V i = infOf s.V i := zi6 h0 (by omega)
  have := z93 (s := freshS s lv) (y := y) (t := z5t s k on) h0 (by simp [freshS]; omega)
  rw [hf] at this
  rcases this with h2 | ⟨h2, h3⟩
  · exact .inl h2
  · subst h2; rw [hf] at h3; exact .inr ⟨rfl, h3⟩
 refine ⟨by rw [z31, z1b, (zhj s lv).1]; omega, fun i h0 h1 => ?_, fun i h0 h1 hb => ?_, fun i hi hb => ?_⟩
 · rcases key i h0 h1 with h2 | ⟨h2, h3⟩
   · rw [h2]; exact h.lvl i h0 h1
   · rw [h3, ← h2]; exact h.lvl i h0 h1
 · rcases key i h0 h1 with h2 | ⟨h2, h3⟩
   · rw [h2] at hb; exact h.bnd i h0 h1 hb
   · rw [h2]; exact ⟨hy, hx⟩
 · have sv : SV p (freshS s lv) := fun i hi hb => by
    rcases List.mem_append.1 hi with hi | hi
    · exact h.sv i hi hb
    · simp at hi; subst hi; cases hb
   by_cases q : z45 (freshS s lv) y (z5t s k on) = true
   · rw [z31, (z1l q).1] at hi
     rcases List.mem_or_eq_of_mem_set hi with hi | rfl
     · exact sv i hi hb
     · exact ht
   · rw [z31, (z39 (by simpa using q)).1] at hi
     exact sv i hi hb
variable {L : List Tm} (hL : ∀ t ∈ L, vP p t = true) (lv : Int)
include hL
end
end Go.AM

set_option maxRecDepth 100000
open Go Go.Proofs
namespace Go.AM
inductive Chg (s0 : Sto) : Sto → Prop
 | refl : Chg s0 s0
 | fresh {s : Sto} (lv : Int) : Chg s0 s → Chg s0 (freshS s lv)
 | bind {s : Sto} (x : Int) (t : Tm) : Chg s0 s → Chg s0 (bindS s x t)
theorem Chg.hang {s0 s : Sto} (h : Chg s0 s) (y lv : Int) (m : Nat) (on : List Tm) : Chg s0 (z31 s y lv m on) := (h.fresh lv).bind _ _
theorem Chg.fail {s0 : Sto} {q : IS} (h : Chg s0 q.s) (e : Int) : Chg s0 (z2y q e).s := by unfold z2y; split <;> exact h
theorem zpb {s0 : Sto} (lv : Int) (L : List Tm) {q : IS} (h : Chg s0 q.s) (y : Int) (l : List Tm) (k : Int) : Chg s0 (z30 lv L q y l k).2.s := by
 unfold z30
 split
 · exact h.fail _
 · unfold za4
   split
   · exact h
   · exact h.hang _ _ _ _
theorem zk3 {s0 : Sto} {tm : IS → Tm → Tm × IS} (htm : ∀ q t, Chg s0 q.s → Chg s0 (tm q t).2.s) : ∀ (l : List Tm) (q : IS), Chg s0 q.s → Chg s0 (z2n tm l q).2.s
 | [], _, h => h
 | t :: l, q, h => zk3 htm l (tm q t).2 (htm q t h)
theorem zef {s0 : Sto} (x lv : Int) (L : List Tm) : ∀ (D : Nat) (q : IS) (t : Tm) (k : Int), Chg s0 q.s → Chg s0 (z0x x lv L D q t k).2.s
 | 0, q, t, k, h => by
  rw [z0x]
  split
  · exact h
  · exact h.fail _
 | D + 1, q, t, k, h => by
  rw [z0x]
  split
  · exact h
  · split
    · exact h.fail _
    · unfold zma
      split
      · exact h.fail _
      · generalize z0w q.s (q.f - 1) t = z
        obtain ⟨z1, z2, z3⟩ := z
        dsimp only
        unfold z63
        split
        · exact zef x lv L D ⟨q.s, z2, q.e⟩ _ _ h
        · split
          · split
            · exact Chg.fail (q := ⟨q.s, z2, q.e⟩) h _
            · exact zpb lv L (q := ⟨q.s, z2, q.e⟩) h _ _ _
          · unfold zhv
            split
            · exact Chg.fail (q := ⟨q.s, z2, q.e⟩) h _
            · exact zk3 (fun q' t' a => zef x lv L D q' t' k a) _ ⟨q.s, z2, q.e⟩ h
theorem zcn {s0 s : Sto} (h : Chg s0 s) (x : Int) (l : List Tm) (t : Tm) (f : Int) : Chg s0 (z05 s x l t f).2 := by
 unfold z05
 split
 · exact h
 · split <;> exact zef _ _ _ _ _ _ _ h
theorem zph {s0 s : Sto} (h : Chg s0 s) (x : Int) (K : List Bool) : Chg s0 (z3r s x K) := by
 unfold z3r
 split
 · exact h.hang _ _ _ _
 · exact h
theorem zqg {s0 s : Sto} (h : Chg s0 s) (f x : Int) (l : List Tm) (t : Tm) : Chg s0 (z55 s f x l t).2.1 := by
 unfold z55
 split
 · exact zcn h _ _ _ _
 · exact (zcn h _ _ _ _).bind _ _
theorem zfm {s0 s : Sto} (h : Chg s0 s) (f : Int) (x : SD) (t : Tm) : Chg s0 (z0u s f x t).2.1 := by
 unfold z0u
 split
 · exact h
 · exact zqg h _ _ _ _
theorem zlw {s0 s : Sto} (h : Chg s0 s) (f : Int) (x y : SD) : Chg s0 (z1m s f x y).2.1 := by
 unfold z1m
 split
 · exact h
 · split
   · exact h
   · split
     · exact h
     · split
       · exact h
       · exact zph h _ _
theorem zl9 {s0 s : Sto} (h : Chg s0 s) (f : Int) (p : Tm × Tm) : Chg s0 (z0h s f p).1.2.1 := by
 unfold z0h
 split
 · exact h
 · split
   · exact h
   · unfold z6q
     split
     · exact h
     · split
       · exact zlw h _ _ _
       · split
         · exact zfm h _ _ _
         · split
           · exact zfm h _ _ _
           · split <;> exact h
theorem zqw {s0 : Sto} : ∀ (F : Nat) (s : Sto) (f : Int) (st : List (Tm × Tm)), Chg s0 s → Chg s0 (runW F s f st).2.1
 | _, s, f, [], h => by rw [runW]; exact h
 | 0, s, f, _ :: _, h => by rw [runW]; exact h
 | F + 1, s, f, p :: st, h => by
  rw [runW]
  split
  · exact h
  · split
    · exact zl9 h _ _
    · exact zqw F _ _ _ (zl9 h _ _)
def WF (s : Sto) : Prop := ∀ i ∈ s.V, i.bd = false → i.v = noT
theorem WF.fresh {s : Sto} (h : WF s) (lv : Int) : WF (freshS s lv) := fun i hi hb => by
 rcases List.mem_append.1 hi with hi | hi
 · exact h i hi hb
 · simp at hi; subst hi; rfl
theorem WF.bind {s : Sto} (h : WF s) (x : Int) (t : Tm) : WF (bindS s x t) := fun i hi hb => by
 by_cases q : z45 s x t = true
 · rw [(z1l q).1] at hi
   rcases List.mem_or_eq_of_mem_set hi with hi | rfl
   · exact h i hi hb
   · cases hb
 · rw [(z39 (by simpa using q)).1] at hi
   exact h i hi hb
theorem OKT.fresh {s : Sto} (h : OKT s) (lv : Int) : OKT (freshS s lv) := fun x hx => by
 have := h x hx
 rw [(zhj s lv).1]; omega
theorem OKT.bind {s : Sto} (h : OKT s) (x : Int) (t : Tm) : OKT (bindS s x t) := fun y hy => by
 rw [z1b]
 by_cases q : z45 s x t = true
 · rw [(z1l q).1] at hy
   rcases List.mem_append.1 hy with hy | hy
   · exact h y hy
   · simp at hy; subst hy; exact z6h q
 · rw [(z39 (by simpa using q)).1] at hy; exact h y hy
theorem Chg.all {s0 s : Sto} (h : Chg s0 s) (w : WF s0) (t : OKT s0) : WF s ∧ OKT s ∧ Ext s0 s := by
 induction h with
 | refl => exact ⟨w, t, .refl _⟩
 | fresh lv _ ih => exact ⟨ih.1.fresh lv, ih.2.1.fresh lv, ih.2.2.fresh lv⟩
 | bind x u _ ih => exact ⟨ih.1.bind x u, ih.2.1.bind x u, ih.2.2.bind ih.1 x u⟩
theorem Chg.len {s0 s : Sto} (h : Chg s0 s) : s0.V.length ≤ s.V.length := by
 induction h with
 | refl => exact Nat.le_refl _
 | fresh lv _ ih => rw [(zhj _ lv).1]; omega
 | bind x u _ ih => rw [z1b]; exact ih
theorem zg4 {s : Sto} (hs : OKS s) (E : Nat) : ∀ {F : Nat} {t : Tm}, z02 t = true → Fit (F + E) t → (runH s F t).2.1 = 0 → z02 (runH s F t).1 = true ∧ Fit (F - (runH s F t).2.2 + E) (runH s F t).1 ∧ (runH s F t).2.2 ≤ F
 | 0, t, hv, hf, h0 => by
  rw [runH] at h0 ⊢
  split
  · exact ⟨hv, by simpa using hf, Nat.le_refl _⟩
  · rename_i q; rw [if_neg q] at h0; cases h0
 | F + 1, t, hv, hf, h0 => by
  rw [runH] at h0 ⊢
  split
  · exact ⟨hv, hf, Nat.zero_le _⟩
  · rename_i q
    rw [if_neg q] at h0
    split
    · rename_i q2; rw [if_pos q2] at h0; cases h0
    · rename_i q2
      rw [if_neg q2] at h0
      have h1 : (z0c s t).2 = 1 := by rcases zf5 s t with r | r | r; · exact absurd r q
                                      · exact r
                                      · exact absurd r q2
      obtain ⟨v, f⟩ := z83 (F := F + E) hs hv (by rw [show F + E + 1 = F + 1 + E by omega]; exact hf) h1
      have := zg4 hs E v f h0
      refine ⟨this.1, ?_, by have := this.2.2; simp only; omega⟩
      have h2 := this.2.1
      simp only
      rw [show F + 1 - ((runH s F (z0c s t).1).2.2 + 1) + E = F - (runH s F (z0c s t).1).2.2 + E by omega]; exact h2
theorem zq9 {s : Sto} (hs : OKS s) (E : Nat) {f : Int} {t : Tm} (h0 : 0 ≤ f) (hf : z02 t = true → Fit (f.toNat + E) t) (he : (z0w s f t).2.2 = 0) : z02 (z0w s f t).1 = true ∧ Fit ((z0w s f t).2.1.toNat + E) (z0w s f t).1 ∧ 0 ≤ (z0w s f t).2.1 ∧ (z0w s f t).2.1 ≤ f := by
 unfold z0w at he ⊢
 split at he
 · rename_i hv
   rw [if_pos hv]
   split at he
   · rename_i h1
     rw [if_pos h1]
     have hq := zg4 hs E hv (hf hv) h1
     refine ⟨hq.1, ?_, by simp only; omega, by simp only; omega⟩
     have : (f - ((runH s f.toNat t).2.2 : Int)).toNat = f.toNat - (runH s f.toNat t).2.2 := by omega
     simp only [this]; exact hq.2.1
   · rename_i h1; exact absurd he h1
 · cases he
def okP (F : Nat) (t : Tm) : Prop := z02 t = true ∧ Fit F t
theorem okP.mono {F G : Nat} {t : Tm} (h : okP F t) (hg : G ≤ F) : okP G t := ⟨h.1, h.2.mono hg⟩
theorem z69 {F : Nat} {z : Tm} (h : okP F z) : okP F (z04 z).1 ∧ (∀ t ∈ (z04 z).2, okP F t) ∧ (z04 z).2.length ≤ SZ := by
 have sp := zaa h.1 h.2
 refine ⟨sp.1, fun t ht => ?_, sp.2.2.1⟩
 unfold z04 at ht
 split at ht
 · rename_i h6
   obtain ⟨k, s, n, l⟩ := z
   have hm : t ∈ l := List.mem_of_mem_drop ht
   have hv := z24 h.1 (.inr h6.1) t hm
   exact ⟨hv, h.2.kid hm⟩
 · cases ht
theorem zkb {F : Nat} {t : Tm} (h : okP (F + 1) t) : okP F (z4r t) := by
 have hv := h.1
 unfold z4r
 rw [if_pos hv]
 split
 · rename_i h5
   obtain ⟨k, s, n, l⟩ := t
   have h5 : k = 5 := h5
   obtain ⟨u, hu, _⟩ := okB5 (z09 _ hv) h5
   subst hu
   have hk := z24 hv (.inl h5) u List.mem_cons_self
   exact ⟨hk, (h.2.kid (show u ∈ Tm.l (.mk k s n [u]) from List.mem_cons_self)).mono (by omega)⟩
 · have ok := zpm (fr := 0) (by_ := 1) 0 (z09 _ hv)
   have hb := h.2.2.2.1
   have hF := h.2.2.2.2
   have lv := shT_lv (by_ := 1) (M := M61 - SZ - SZ * ((F + 1 : Nat) : Int)) (D := 0) (by omega) (by simp only [M61, SZ]; omega) t 0 0 hb (z3u hv) (Int.le_refl _)
   have bb := shT_bd (fr := 0) (by_ := 1) (by omega) t 0 hb (Int.le_refl _)
   have sz := zd6 0 1 t 0
   have az := z2g (shT 0 1 t 0) [.mk 3 [] 0 []]
   have oa := z4w (args := [.mk 3 [] 0 []]) ok (by decide)
   have la := z4u (args := [.mk 3 [] 0 []]) lv (by decide)
   have h2 := h.2.2.1
   have e1 : Tm.szs [.mk 3 [] 0 []] = 1 := rfl
   refine ⟨by rw [z2t, oa, la]; rfl, oa, by omega, z2j (z6m (by simp only [SZ]; omega) _ bb) ⟨⟨fun _ => ⟨?_, ?_⟩, trivial⟩, trivial⟩, by omega⟩
   · simp only [M61, SZ]; omega
   · simp only [M61, SZ]; omega
theorem zaz {s : Sto} (hs : OKS s) {f : Int} (h0 : 0 ≤ f) {t : Tm} (h : okP (f.toNat + 1) t) {x : SD} {g : Int} (e : z0s s f t = ((x, 0), g)) : 0 ≤ g ∧ g ≤ f ∧ okP (g.toNat + 1) x.t ∧ x = zc8 x.t ∧ z0w s f t = (x.t, g, 0) := by
 unfold z0s at e
 split at e
 · rename_i q
   injection e with e1 e2; injection e1 with e1 e3; exact absurd e3 q
 · rename_i q
   have q : (z0w s f t).2.2 = 0 := by simpa using q
   have hh := zq9 hs 1 h0 (fun _ => h.2) q
   injection e with e1 e2; injection e1 with e1 e3
   subst e1
   refine ⟨by rw [← e2]; exact hh.2.2.1, by rw [← e2]; exact hh.2.2.2, ?_, rfl, ?_⟩
   · rw [← e2]; exact ⟨hh.1, hh.2.1⟩
   · rw [← e2, ← q]; rfl
end Go.AM

set_option maxRecDepth 100000
open Go Go.Proofs
namespace Go.AM
theorem bV3_bd {n : Int} (h0 : -1000000 ≤ n) (h1 : n ≤ 1000000) : bd M61 (bV3 n) := ⟨fun _ => ⟨by simp only [M61]; omega, by simp only [M61]; omega⟩, trivial⟩
theorem zb6 : bd M61 noT := ⟨fun q => (by cases q), trivial⟩
theorem zo9 {lv : Int} {L : List Tm} {t : Tm} {k : Int} (h : bd M61 t) (hL : L.length ≤ 900) (hk0 : 0 ≤ k) (hk1 : k ≤ 6000) : bd M61 (imgT lv L t k).1 := by
 have hlt := znc (fun u => lfB u (outT t k)) L 0
 unfold imgT
 split
 · exact h
 · split
   · exact bV3_bd (by omega) (by omega)
   · exact h
theorem zpa (lv : Int) (L : List Tm) (k : Int) (m : Nat) (hL : L.length ≤ 900) (hk0 : 0 ≤ k) (hk1 : k ≤ 6000) : ∀ (l : List Tm) (i : Nat) (a : List Tm × List Tm), (∀ t ∈ l, bd M61 t) → (∀ t ∈ a.2, bd M61 t) → ∀ t ∈ (imgs lv L k m l i a).2, bd M61 t
 | [], _, _, _, h => h
 | t :: l, i, a, hl, h => by
  rw [imgs]
  refine zpa lv L k m hL hk0 hk1 l (i + 1) _ (fun u hu => hl u (List.mem_cons_of_mem _ hu)) ?_
  split
  · intro u hu
    rcases List.mem_append.1 hu with hu | hu
    · exact h u hu
    · rw [List.mem_singleton.1 hu]; exact zo9 (hl t List.mem_cons_self) hL hk0 hk1
  · exact h
theorem zjx (c : Bool) (lvy k : Int) (n : Nat) (hn : n ≤ 900) (hk0 : 0 ≤ k) (hk1 : k ≤ 6000) : ∀ (l : List Tm) (i : Nat) (a : List Tm × List Tm), i + l.length ≤ n → (∀ t ∈ a.2, bd M61 t) → ∀ t ∈ (z6n c lvy k n l i a).2, bd M61 t
 | [], _, _, _, h => h
 | t :: l, i, a, hi, h => by
  rw [z6n]
  simp only [List.length_cons] at hi
  refine zjx c lvy k n hn hk0 hk1 l (i + 1) _ (by omega) ?_
  split
  · intro u hu
    rcases List.mem_append.1 hu with hu | hu
    · exact h u hu
    · rw [List.mem_singleton.1 hu]; exact bV3_bd (by omega) (by omega)
  · exact h
theorem zlc {M : Int} (n : Nat) {t : Tm} (h : bd M t) : bd M (z5j n t) := zf1 n h
section
variable {C : Nat} (hC : C ≤ 1073741824) {L : List Tm} (hL : LP L) (x lv : Int)
include hL
theorem flexG_bd {q : IS} {y k : Int} {ls : List Tm} {f : Int} (h : ∀ t ∈ ls, bd M61 t) (hk0 : 0 ≤ k) (hk1 : k ≤ 6000) : bd M61 (za4 lv L q y k ls f).1 := by
 have i2 := zpa lv L k ls.length hL.1 hk0 hk1 ls 0 ([], []) h (fun t h => nomatch h)
 have m2 := zjx (decide ((infOf q.s.V y).lv > lv)) (infOf q.s.V y).lv k L.length hL.1 hk0 hk1 L 0 _ (by omega) i2
 unfold za4
 split
 · exact z2j ⟨fun q => (by cases q), trivial⟩ (z71 i2)
 · exact z2j ⟨fun q => (by cases q), trivial⟩ (z71 m2)
include hC
omit hC hL in
theorem zo1 {tm : IS → Tm → Tm × IS} {f0 : Int} (hgi : ∀ q t, GI C q → 0 ≤ q.f → q.f ≤ f0 → (q.e = 0 → z02 t = true → Fit q.f.toNat t) → GI C (tm q t).2 ∧ (tm q t).2.f ≤ q.f ∧ 0 ≤ (tm q t).2.f)
  (htm : ∀ q t, GI C q → 0 ≤ q.f → q.f ≤ f0 → (q.e = 0 → z02 t = true → Fit q.f.toNat t) → bd M61 (tm q t).1) :
  ∀ (l : List Tm) (q : IS), GI C q → 0 ≤ q.f → q.f ≤ f0 → (∀ t ∈ l, z02 t = true → Fit q.f.toNat t) → bds M61 (z2n tm l q).1
 | [], q, h, h0, _, _ => trivial
 | t :: l, q, h, h0, h1, hl => by
  have a := hgi q t h h0 h1 (fun _ => hl t List.mem_cons_self)
  exact ⟨htm q t h h0 h1 (fun _ => hl t List.mem_cons_self), zo1 hgi htm l (tm q t).2 a.1 a.2.2 (by omega) (fun u hu hv => (hl u (List.mem_cons_of_mem _ hu) hv).mono (by omega))⟩
theorem zoe : ∀ (D : Nat) (q : IS) (t : Tm) (k : Int), GI C q → 0 ≤ q.f → (q.e = 0 → z02 t = true → Fit q.f.toNat t) → 0 ≤ k → k + (D : Int) ≤ 6000 → bd M61 (z0x x lv L D q t k).1
 | 0, q, t, k, h, h0, _, _, _ => by
  rw [z0x]
  split <;> exact zb6
 | D + 1, q, t, k, h, h0, hf, hk0, hk1 => by
  rw [z0x]
  split
  · exact zb6
  rename_i q1
  have e0 : q.e = 0 := by simpa using q1
  split
  · exact zb6
  rename_i hf0
  have hfit : z02 t = true → Fit (q.f - 1).toNat t := fun hv => (hf e0 hv).mono (by omega)
  unfold zma
  split
  · exact zb6
  rename_i hz
  have ok := z7k h.ok (by omega) hfit (by simpa using hz)
  generalize z0w q.s (q.f - 1) t = z at *
  obtain ⟨z1, z2, z3⟩ := z
  dsimp only at ok ⊢
  obtain ⟨hv, hfz, hz0, hz1⟩ := ok
  have sp := z69 ⟨hv, hfz⟩
  have g : GI C ⟨q.s, z2, q.e⟩ := h.less hz0 (by omega)
  have ih := fun q' t' k' => zoe D q' t' k'
  have gi := fun q' t' k' => zas hC hL x lv D q' t' k'
  unfold z63
  split
  · rename_i h5
    have hne : (z04 z1).1.l ≠ [] := fun e => by
     have o := z09 _ sp.1.1
     generalize (z04 z1).1 = w at *
     obtain ⟨wk, ws, wn, wl⟩ := w
     obtain ⟨u, hu, _⟩ := okB5 o h5
     rw [hu] at e; cases e
    have hm : hd (z04 z1).1.l ∈ (z04 z1).1.l := hd_mem hne
    exact zlc 1 (ih ⟨q.s, z2, q.e⟩ _ (k + 1) g hz0 (fun _ _ => sp.1.2.kid hm) (by omega) (by omega))
  split
  · split
    · exact zb6
    have ha := z86 g.ok (z04 z1).1.n (z04 z1).2 z2 (fun t ht _ => (sp.2.1 t ht).2)
    unfold z30
    split
    · exact zb6
    exact flexG_bd hL lv (fun t ht => (ha.1 t ht).2.2.2.1) hk0 (by omega)
  · unfold zhv
    split
    · exact zb6
    have kk := zo1 (C := C) (tm := fun q t => z0x x lv L D q t k) (f0 := z2) (fun q' t' a b _ d => gi q' t' k a b d) (fun q' t' a b _ d => ih q' t' k a b d hk0 (by omega)) (z04 z1).2 ⟨q.s, z2, q.e⟩ g hz0 (Int.le_refl _) (fun t ht _ => (sp.2.1 t ht).2)
    refine z2j ?_ kk
    split
    · exact zo9 sp.1.2.bd hL.1 hk0 (by omega)
    · exact sp.1.2.bd
end
theorem zh7 {C : Nat} (hC : C ≤ 1073741824) {s : Sto} (hs : OKS s) (x : Int) {l : List Tm} {t : Tm} {f : Int} (h0 : 0 ≤ f) (hf : f ≤ 157) (hV : s.V.length + f.toNat ≤ C) (hT : s.T.length + f.toNat ≤ C) (hl : l.length ≤ 157) (hfit : z02 t = true → Fit f.toNat t) :
  OKS (z05 s x l t f).2 ∧ (z05 s x l t f).2.V.length ≤ C ∧ (z05 s x l t f).2.T.length ≤ C ∧ ((z05 s x l t f).1.2.2 = 0 → 0 ≤ (z05 s x l t f).1.2.1 ∧ (z05 s x l t f).1.2.1 ≤ f ∧
   (z05 s x l t f).2.V.length + (z05 s x l t f).1.2.1.toNat ≤ C ∧ (z05 s x l t f).2.T.length + (z05 s x l t f).1.2.1.toNat ≤ C ∧ (z05 s x l t f).1.1.sz ≤ 40000 ∧ bd M61 (z05 s x l t f).1.1) := by
 unfold z05
 split
 · exact ⟨hs, by simp only; omega, by simp only; omega, fun h => by cases h⟩
 · rename_i hc
   simp only [Bool.or_eq_true, not_or] at hc
   have hL : LP l := ⟨by omega, fun u hu => (zcv (t := u) (by have := List.any_eq_false.1 (by simpa using hc.2 : (l.any fun u => !z5z u) = false) u hu; simpa using this)).1⟩
   have gg : GI C ⟨s, f, 0⟩ := ⟨hs, hV, hT, by simp only; omega, by simp only; omega⟩
   have g := zas hC hL x (infOf s.V x).lv f.toNat ⟨s, f, 0⟩ t 0 gg h0 (fun _ => hfit)
   have z := zpg hC hL hl x (infOf s.V x).lv f.toNat ⟨s, f, 0⟩ t 0 gg h0 (fun _ => hfit)
   have b := zoe hC hL x (infOf s.V x).lv f.toNat ⟨s, f, 0⟩ t 0 gg h0 (fun _ => hfit) (Int.le_refl _) (by omega)
   generalize z0x x (infOf s.V x).lv l f.toNat ⟨s, f, 0⟩ t 0 = w at *
   obtain ⟨w1, ws, wf, we⟩ := w
   have gV := g.1.V
   have gT := g.1.T
   dsimp only at *
   split
   · rename_i he; exact ⟨g.1.ok, by dsimp only; omega, by dsimp only; omega, fun h => absurd h he⟩
   · rename_i he
     have he : we = 0 := by simpa using he
     have z := (z he).2
     refine ⟨g.1.ok, by dsimp only; omega, by dsimp only; omega, fun _ => ⟨g.2.2, g.2.1, gV, gT, ?_, zlc _ b⟩⟩
     dsimp only
     rw [zam]
     omega
end Go.AM

set_option maxRecDepth 100000
open Go Go.Proofs
namespace Go.AM
theorem onK_P (m : Int) (hm : m ≤ 1000) : ∀ (bs : List Bool) (i : Int), 0 ≤ i → i + (bs.length : Int) ≤ m → (onK m bs i).length ≤ bs.length ∧ ∀ t ∈ onK m bs i, t.sz = 1 ∧ bd 2199023255552 t
 | [], i, _, _ => ⟨Nat.le_refl _, fun t h => by rw [onK] at h; cases h⟩
 | b :: bs, i, h0, h1 => by
  simp only [List.length_cons] at h1
  have ih := onK_P m hm bs (i + 1) (by omega) (by omega)
  rw [onK]
  split
  · refine ⟨by simp only [List.length_cons]; omega, fun t ht => ?_⟩
    rcases List.mem_cons.1 ht with rfl | ht
    · exact bnd_P (n := m - 1 - i) (by omega) (by omega)
    · exact ih.2 t ht
  · exact ⟨by simp only [List.length_cons]; omega, ih.2⟩
theorem zkv {s : Sto} (hV : s.V.length ≤ 1073741824) {K : List Bool} (hK : K.length ≤ 900) : (z5t s K.length (onK (K.length : Int) K 0)).sz ≤ 40000 ∧ bd 2199023255552 (z5t s K.length (onK (K.length : Int) K 0)) := by
 have o := onK_P (K.length : Int) (by omega) K 0 (Int.le_refl _) (by omega)
 exact zjb hV hK (by omega) o.2
theorem c_kprune {s : Sto} (hV : s.V.length ≤ 1073741824) (hT : s.T.length ≤ 1073741824) (x : Int) {K : List Bool} (hK : K.length ≤ 900) : AC Tryz.prog 155 [aS 0, ci x, .c (.a (.fz (.sl false 1 (BR K))))] (oS s) (ci (z6s s x)) (oS' (z3r s x K)) := by
 have o := onK_P (K.length : Int) (by omega) K 0 (Int.le_refl _) (by omega)
 have hp := zkv hV hK
 exact c_iprune s x K (by omega) (c_hang s x _ _ _ (by omega) (by omega) (by omega) (by omega) (by have := hp.1; simp only [B]; omega) (z6m (by simp only [M61]; omega) _ hp.2))
theorem zog {s : Sto} (hs : OKS s) (hV : s.V.length ≤ 1073741824) (x : Int) {K : List Bool} (hK : K.length ≤ 900) : OKS (z3r s x K) ∧ (z3r s x K).V.length ≤ s.V.length + 1 ∧ (z3r s x K).T.length ≤ s.T.length + 1 := by
 have hp := zkv hV hK
 unfold z3r
 split
 · have e1 := zhj s (infOf s.V x).lv
   have e2 := z61 (freshS s (infOf s.V x).lv) x (z5t s K.length (onK (K.length : Int) K 0))
   rw [e1.2] at e2
   exact ⟨hs.hang x _ hp, by rw [z31, z1b, e1.1]; omega, by rw [z31]; omega⟩
 · exact ⟨hs, by omega, by omega⟩
def zhz (C : Nat) (g : Int) (z : Int × Sto × Int) : Prop :=
 OKS z.2.1 ∧ z.2.1.V.length ≤ C ∧ z.2.1.T.length ≤ C ∧ (z.1 = 0 → 0 ≤ z.2.2 ∧ z.2.2 ≤ g ∧ z.2.1.V.length + z.2.2.toNat ≤ C ∧ z.2.1.T.length + z.2.2.toNat ≤ C)
theorem z6b {s : Sto} (hs : OKS s) {g : Int} (h0 : 0 ≤ g) {x : SD} (hx : ∀ t ∈ x.a, okP (g.toNat + 1) t) :
  (∀ t ∈ (z03 s g x).1.1, lfP t) ∧ ((z03 s g x).1.1.length : Int) ≤ g ∧ 0 ≤ (z03 s g x).2 ∧ (z03 s g x).2 ≤ g := by
 have ha := z86 hs x.h.n x.a g (fun t ht _ => (hx t ht).2.mono (by omega))
 unfold z03
 by_cases q : (z1f s x.h.n x.a g).2.2 = 0
 · have a2 := ha.2.1 h0 q
   rw [if_pos q]
   exact ⟨ha.1, by dsimp only; omega, by dsimp only; omega, by dsimp only; omega⟩
 · rw [if_neg q]
   have e := ha.2.2 q
   exact ⟨ha.1, by dsimp only; rw [e]; simpa using h0, h0, Int.le_refl _⟩
theorem zem {s : Sto} (hs : OKS s) (n : Nat) (R : List (List FV)) {g : Int} (h0 : 0 ≤ g) {x : SD} (hx : ∀ t ∈ x.a, okP (g.toNat + 1) t) (hl : x.a.length ≤ SZ) :
  AC Tryz.prog 153 [aWk, aSD x] (oWk s n R g) (aLvE (z03 s g x).1) (oWk s n R (z03 s g x).2) := by
 refine zn1 s hs n R g x (by simp only [SZ] at hl; omega) (by omega) fun t ht => ⟨?_, fun _ => (hx t ht).2.mono (by omega)⟩
 have := (hx t ht).2.sz
 simp only [SZ, B] at *; omega
theorem okP.B {F : Nat} {t : Tm} (h : okP F t) : t.sz ≤ B := by have := h.2.sz; simp only [SZ, Go.AM.B] at *; omega
section
variable {C : Nat} (hC : C ≤ 1073741824) {s : Sto} (hs : OKS s) {g : Int} (h0 : 0 ≤ g) (h1 : g ≤ 156) (hV : s.V.length + g.toNat + 1 ≤ C) (hT : s.T.length + g.toNat + 1 ≤ C)
include hC hs h0 h1 hV hT
theorem zo (x : SD) (hx : ∀ t ∈ x.a, okP (g.toNat + 1) t) {t : Tm} (ht : okP (g.toNat + 1) t) : zhz C g (z0u s g x t) := by
 have ll := z6b hs h0 hx
 unfold z0u
 split
 · rename_i q
   exact ⟨hs, by dsimp only; omega, by dsimp only; omega, fun e => absurd e q⟩
 · have iv := zh7 (C := C - 1) (by omega) hs x.h.n (l := (z03 s g x).1.1) (t := t) (f := (z03 s g x).2) ll.2.2.1 (by omega) (by omega) (by omega) (by omega) (fun _ => ht.2.mono (by omega))
   unfold z55
   split
   · rename_i q
     exact ⟨iv.1, by dsimp only; omega, by dsimp only; omega, fun e => absurd e q⟩
   · rename_i q
     have q : (z05 s x.h.n (z03 s g x).1.1 t (z03 s g x).2).1.2.2 = 0 := by simpa using q
     have i4 := iv.2.2.2 q
     have bT := z61 (z05 s x.h.n (z03 s g x).1.1 t (z03 s g x).2).2 x.h.n (z05 s x.h.n (z03 s g x).1.1 t (z03 s g x).2).1.1
     have bV := z1b (z05 s x.h.n (z03 s g x).1.1 t (z03 s g x).2).2 x.h.n (z05 s x.h.n (z03 s g x).1.1 t (z03 s g x).2).1.1
     exact ⟨iv.1.bindL i4.2.2.2.2.1, by dsimp only; omega, by dsimp only; omega, fun _ => ⟨i4.1, by dsimp only; omega, by dsimp only; omega, by dsimp only; omega⟩⟩
theorem c_flex (n : Nat) (R : List (List FV)) (x y : SD) (hx : ∀ t ∈ x.a, okP (g.toNat + 1) t) (hl : x.a.length ≤ SZ) (hy : okP (g.toNat + 1) y.t) :
  AC Tryz.prog 138 [aWk, aSD x, aSD y] (oWk s n R g) (ci (z0u s g x y.t).1) (oWk' (z0u s g x y.t).2.1 n R (z0u s g x y.t).2.2) := by
 have ll := z6b hs h0 hx
 have iv := zh7 (C := C - 1) (by omega) hs x.h.n (l := (z03 s g x).1.1) (t := y.t) (f := (z03 s g x).2) ll.2.2.1 (by omega) (by omega) (by omega) (by omega) (fun _ => hy.2.mono (by omega))
 refine c_uflex s n R g x y (zem hs n R h0 hx hl) (fun _ => ?_)
 refine c_ubind s n R (z03 s g x).2 x (z03 s g x).1.1 y.t ?_ (fun q => ?_)
 · exact znl (C := C - 1) (by omega) s x.h.n _ y.t _ ll.2.2.1 (by omega) hs (by omega) (by omega) (by omega) (fun u hu => by have := (ll.1 u hu).1; simp only [B]; omega) hy.B (fun _ => hy.2.mono (by omega))
 · have i4 := iv.2.2.2 q
   exact zoc _ _ _ (by omega) (by have := i4.2.2.2.2.1; simp only [B]; omega) i4.2.2.2.2.2
theorem prune_ok (x y : SD) (hx : ∀ t ∈ x.a, okP (g.toNat + 1) t) (hy : ∀ t ∈ y.a, okP (g.toNat + 1) t) : zhz C g (z1m s g x y) := by
 have ll := z6b hs h0 hx
 have lm := z6b hs ll.2.2.1 (x := y) (fun t ht => (hy t ht).mono (by omega))
 unfold z1m
 split
 · rename_i q; exact ⟨hs, by dsimp only; omega, by dsimp only; omega, fun e => absurd e q⟩
 · split
   · rename_i q; exact ⟨hs, by dsimp only; omega, by dsimp only; omega, fun e => absurd e q⟩
   · split
     · exact ⟨hs, by dsimp only; omega, by dsimp only; omega, fun e => by cases e⟩
     · split
       · exact ⟨hs, by dsimp only; omega, by dsimp only; omega, fun _ => ⟨lm.2.2.1, by dsimp only; omega, by dsimp only; omega, by dsimp only; omega⟩⟩
       · rename_i hlen _
         have kk := zog hs (by omega) x.h.n (K := List.zipWith z2d (z03 s g x).1.1 (z03 s (z03 s g x).2 y).1.1) (by simp only [List.length_zipWith]; omega)
         exact ⟨kk.1, by dsimp only; omega, by dsimp only; omega, fun _ => ⟨lm.2.2.1, by dsimp only; omega, by dsimp only; omega, by dsimp only; omega⟩⟩
theorem c_prune' (n : Nat) (R : List (List FV)) (x y : SD) (hx : ∀ t ∈ x.a, okP (g.toNat + 1) t) (hxl : x.a.length ≤ SZ) (hy : ∀ t ∈ y.a, okP (g.toNat + 1) t) (hyl : y.a.length ≤ SZ) :
  AC Tryz.prog 137 [aWk, aSD x, aSD y] (oWk s n R g) (ci (z1m s g x y).1) (oWk' (z1m s g x y).2.1 n R (z1m s g x y).2.2) := by
 have ll := z6b hs h0 hx
 exact c_uprune s n R g x y (zem hs n R h0 hx hxl) (fun _ => zem hs n R ll.2.2.1 (fun t ht => (hy t ht).mono (by omega)) hyl) (by omega) (fun t ht => by have := (ll.1 t ht).1; simp only [B]; omega) (fun K hK => c_kprune (by omega) (by omega) x.h.n (by omega))
end
structure UI (C : Nat) (s : Sto) (f : Int) (st : List (Tm × Tm)) : Prop where
 ok : OKS s
 V : s.V.length + f.toNat ≤ C
 T : s.T.length + f.toNat ≤ C
 f1 : f ≤ 157
 fit : ∀ p ∈ st, okP f.toNat p.1 ∧ okP f.toNat p.2
 len : st.length + 200000000 * f.toNat ≤ 400000000000
theorem headV_B {s : Sto} (hs : OKS s) {f : Int} {t : Tm} (h0 : 0 ≤ f) (hf : z02 t = true → Fit f.toNat t) : (z0w s f t).1.sz ≤ B := by
 by_cases q : (z0w s f t).2.2 = 0
 · have := (z7k hs h0 hf q).2.1.sz
   simp only [SZ, B] at *; omega
 · have e : (z0w s f t).1 = noT := by
    unfold z0w at q ⊢
    split
    · rename_i hv
      rw [if_pos hv] at q
      split
      · rename_i h1; rw [if_pos h1] at q; exact absurd rfl q
      · rfl
    · rfl
   rw [e]; simp only [B]; decide
theorem c_look {s : Sto} (hs : OKS s) (n : Nat) (R : List (List FV)) {f : Int} (h0 : 0 ≤ f) {t : Tm} (h : okP f.toNat t) : AC Tryz.prog 133 [aWk, aT t] (oWk s n R f) (aSE (z0s s f t).1) (oWk s n R (z0s s f t).2) :=
 c_ulook s hs n R f t (by omega) h.B (fun _ => h.2) (headV_B hs h0 (fun _ => h.2))
theorem c_body {F : Nat} {t : Tm} (h : okP F t) : AC Tryz.prog 135 [aT t] [] (aT (z4r t)) [] := by
 refine c_ubody t h.B h.2.bd ?_
 have h1 := zd6 0 1 t 0
 have h2 := (shT 0 1 t 0).sz_eq
 have h3 := Tm.szs_length (shT 0 1 t 0).l
 have h4 := h.2.sz
 simp only [SZ] at h4; omega
section
variable {C : Nat} (hC : C ≤ 1073741824) {s : Sto} {f : Int} {p : Tm × Tm} {st : List (Tm × Tm)} (h : UI C s f (p :: st)) (hf : 0 < f)
include hC h hf
theorem zr7 : zhz C (f - 1) (z0h s (f - 1) p).1 ∧ ((z0h s (f - 1) p).1.1 = 0 → (∀ q ∈ (z0h s (f - 1) p).2, okP (z0h s (f - 1) p).1.2.2.toNat q.1 ∧ okP (z0h s (f - 1) p).1.2.2.toNat q.2) ∧ (z0h s (f - 1) p).2.length ≤ 200000000) := by
 have hV := h.V
 have hT := h.T
 have hf1 := h.f1
 have hp := h.fit p List.mem_cons_self
 rw [show f.toNat = (f - 1).toNat + 1 by omega] at hp
 have bad : ∀ (e g : Int), e ≠ 0 → zhz C (f - 1) (e, s, g) := fun e g he => ⟨h.ok, by dsimp only; omega, by dsimp only; omega, fun q => absurd q he⟩
 unfold z0h
 split
 · rename_i q; exact ⟨bad _ _ q, fun e => absurd e q⟩
 rename_i q1
 have q1 : (z0s s (f - 1) p.1).1.2 = 0 := by simpa using q1
 have k1 := zaz h.ok (f := f - 1) (by omega) (t := p.1) hp.1 (x := (z0s s (f - 1) p.1).1.1) (g := (z0s s (f - 1) p.1).2) (by rw [← q1])
 generalize z0s s (f - 1) p.1 = z1 at *
 obtain ⟨⟨x, e1⟩, g1⟩ := z1
 dsimp only at *
 split
 · rename_i q; exact ⟨bad _ _ q, fun e => absurd e q⟩
 rename_i q2
 have q2 : (z0s s g1 p.2).1.2 = 0 := by simpa using q2
 have k2 := zaz h.ok (f := g1) k1.1 (t := p.2) (hp.2.mono (by omega)) (x := (z0s s g1 p.2).1.1) (g := (z0s s g1 p.2).2) (by rw [← q2])
 generalize z0s s g1 p.2 = z2 at *
 obtain ⟨⟨y, e2⟩, g⟩ := z2
 dsimp only at *
 have ox : okP (g.toNat + 1) x.t := k1.2.2.1.mono (by omega)
 have oy : okP (g.toNat + 1) y.t := k2.2.2.1
 have sx := z69 ox
 have sy := z69 oy
 have ex : x.a = (z04 x.t).2 := by rw [k1.2.2.2.1]; rfl
 have ey : y.a = (z04 y.t).2 := by rw [k2.2.2.2.1]; rfl
 rw [← ex] at sx
 rw [← ey] at sy
 have L1 : ∀ z, zhz C g z → zhz C (f - 1) z := fun z hz => ⟨hz.1, hz.2.1, hz.2.2.1, fun e => by have := hz.2.2.2 e; exact ⟨this.1, by omega, this.2.2.1, this.2.2.2⟩⟩
 have good : zhz C (f - 1) (0, s, g) := ⟨h.ok, by dsimp only; omega, by dsimp only; omega, fun _ => ⟨k2.1, by dsimp only; omega, by dsimp only; omega, by dsimp only; omega⟩⟩
 unfold z6q
 split
 · refine ⟨good, fun _ => ⟨fun q hq => ?_, by simp⟩⟩
   rw [List.mem_singleton.1 hq]
   exact ⟨zkb ox, zkb oy⟩
 split
 · exact ⟨L1 _ (prune_ok hC h.ok k2.1 (by omega) (by omega) (by omega) x y sx.2.1 sy.2.1), fun _ => ⟨fun q hq => (nomatch hq), by simp⟩⟩
 split
 · exact ⟨L1 _ (zo hC h.ok k2.1 (by omega) (by omega) (by omega) x sx.2.1 oy), fun _ => ⟨fun q hq => (nomatch hq), by simp⟩⟩
 split
 · exact ⟨L1 _ (zo hC h.ok k2.1 (by omega) (by omega) (by omega) y sy.2.1 ox), fun _ => ⟨fun q hq => (nomatch hq), by simp⟩⟩
 split
 · exact ⟨bad _ _ (by decide), fun e => absurd (show (170 : Int) = 0 from e) (by decide)⟩
 · refine ⟨good, fun _ => ⟨fun q hq => ?_, ?_⟩⟩
   · have hm := List.of_mem_zip (a := q.1) (b := q.2) hq
     exact ⟨(sx.2.1 _ hm.1).mono (by dsimp only; omega), (sy.2.1 _ hm.2).mono (by dsimp only; omega)⟩
   · have := sx.2.2
     simp only [List.length_zip, SZ] at *; omega
theorem zhf (e : (z0h s (f - 1) p).1.1 = 0) : UI C (z0h s (f - 1) p).1.2.1 (z0h s (f - 1) p).1.2.2 ((z0h s (f - 1) p).2 ++ st) ∧ (z0h s (f - 1) p).1.2.2 ≤ f - 1 := by
 have k := zr7 hC h hf
 have k1 := k.1.2.2.2 e
 have k2 := k.2 e
 have hf1 := h.f1
 have hl := h.len
 simp only [List.length_cons] at hl
 refine ⟨⟨k.1.1, k1.2.2.1, k1.2.2.2, by omega, fun q hq => ?_, ?_⟩, k1.2.1⟩
 · rcases List.mem_append.1 hq with hq | hq
   · exact k2.1 q hq
   · have := h.fit q (List.mem_cons_of_mem _ hq)
     exact ⟨this.1.mono (by omega), this.2.mono (by omega)⟩
 · rw [List.length_append]; omega
theorem c_pair {n : Nat} {R : List (List FV)} (hn : n ≤ R.length) (hn2 : n ≤ 500000000000) : AC Tryz.prog 109 [aWk, aPr p] (oWk s n R (f - 1)) (ci (z0h s (f - 1) p).1.1) (oPa n R (z0h s (f - 1) p)) := by
 have hV := h.V
 have hT := h.T
 have hf1 := h.f1
 have hp := h.fit p List.mem_cons_self
 rw [show f.toNat = (f - 1).toNat + 1 by omega] at hp
 have g0 : (z0s s (f - 1) p.1).1.2 = 0 → 0 ≤ (z0s s (f - 1) p.1).2 ∧ (z0s s (f - 1) p.1).2 ≤ f - 1 := fun q1 => by
  have k1 := zaz h.ok (f := f - 1) (by omega) (t := p.1) hp.1 (x := (z0s s (f - 1) p.1).1.1) (g := (z0s s (f - 1) p.1).2) (by rw [← q1])
  exact ⟨k1.1, k1.2.1⟩
 refine c_upair s n R (f - 1) p hn hn2 (c_look h.ok n R (by omega) (hp.1.mono (by omega))) (fun q => c_look h.ok n R (g0 q).1 (hp.2.mono (by have := g0 q; omega))) (fun x y g e1 e2 => ?_)
 have g0 := g0 (by rw [e1])
 have k1 := zaz h.ok (f := f - 1) (by omega) (t := p.1) hp.1 (x := x) (g := (z0s s (f - 1) p.1).2) (by rw [← e1])
 have k2 := zaz h.ok (f := (z0s s (f - 1) p.1).2) g0.1 (t := p.2) (hp.2.mono (by omega)) (x := y) (g := g) e2
 have ox : okP (g.toNat + 1) x.t := k1.2.2.1.mono (by omega)
 have oy : okP (g.toNat + 1) y.t := k2.2.2.1
 have sx := z69 ox
 have sy := z69 oy
 have ex : x.a = (z04 x.t).2 := by rw [k1.2.2.2.1]; rfl
 have ey : y.a = (z04 y.t).2 := by rw [k2.2.2.2.1]; rfl
 have eh : x.h = (z04 x.t).1 := by rw [k1.2.2.2.1]; rfl
 rw [← ex, ← eh] at sx
 rw [← ey] at sy
 exact ⟨c_body ox, c_body oy, sx.1.B, by have := sx.2.2; simp only [SZ] at this; omega, fun _ => c_prune' hC h.ok k2.1 (by omega) (by omega) (by omega) n R x y sx.2.1 sx.2.2 sy.2.1 sy.2.2,
  fun _ => c_flex hC h.ok k2.1 (by omega) (by omega) (by omega) n R x y sx.2.1 sx.2.2 oy, fun _ => c_flex hC h.ok k2.1 (by omega) (by omega) (by omega) n R y x sy.2.1 sy.2.2 ox⟩
end
theorem run_ok {C : Nat} (hC : C ≤ 1073741824) : ∀ (F : Nat) (s : Sto) (f : Int) (st : List (Tm × Tm)), UI C s f st → OKS (runW F s f st).2.1 ∧ (runW F s f st).2.1.V.length ≤ C ∧ (runW F s f st).2.1.T.length ≤ C ∧ (0 ≤ f → (runW F s f st).1 = 0 → 0 ≤ (runW F s f st).2.2 ∧ (runW F s f st).2.2 ≤ f ∧ (runW F s f st).2.1.V.length + (runW F s f st).2.2.toNat ≤ C ∧ (runW F s f st).2.1.T.length + (runW F s f st).2.2.toNat ≤ C)
 | F, s, f, [], h => by
  have e : runW F s f [] = (0, s, f) := by cases F <;> rfl
  have hV := h.V
  have hT := h.T
  rw [e]; exact ⟨h.ok, by dsimp only; omega, by dsimp only; omega, fun q _ => ⟨q, Int.le_refl _, hV, hT⟩⟩
 | 0, s, f, p :: st, h => by
  have hV := h.V
  have hT := h.T
  rw [runW]; exact ⟨h.ok, by dsimp only; omega, by dsimp only; omega, fun _ q => by cases q⟩
 | F + 1, s, f, p :: st, h => by
  have hV := h.V
  have hT := h.T
  rw [runW]
  split
  · exact ⟨h.ok, by dsimp only; omega, by dsimp only; omega, fun _ q => by cases q⟩
  rename_i hf
  have k := zr7 hC h (by omega)
  split
  · rename_i q; exact ⟨k.1.1, k.1.2.1, k.1.2.2.1, fun _ e => absurd e q⟩
  rename_i q
  have q : (z0h s (f - 1) p).1.1 = 0 := by simpa using q
  have nx := zhf hC h (by omega) q
  have r := run_ok hC F _ _ _ nx.1
  have k1 := k.1.2.2.2 q
  exact ⟨r.1, r.2.1, r.2.2.1, fun _ e => by have := r.2.2.2 k1.1 e; exact ⟨this.1, by omega, this.2.2⟩⟩
theorem c_urunU {C : Nat} (hC : C ≤ 1073741824) {s : Sto} {f : Int} {l : List (Tm × Tm)} (h0 : -9223372036854775808 ≤ f) (h : UI C s f l) :
  ∃ n' R', AC Tryz.prog 76 [aWk] (oWk s l.length (PTs l.reverse) f) (ci (runW f.toNat s f l).1) (oWk' (runW f.toNat s f l).2.1 n' R' (runW f.toNat s f l).2.2) := by
 have a1 : ∀ s f st, UI C s f st → st.length ≤ 500000000000 ∧ f ≤ 1000000000 := fun s f st h => ⟨by have := h.len; omega, by have := h.f1; omega⟩
 have a2 : ∀ s f p st n R, UI C s f (p :: st) → 0 < f → n ≤ R.length → n = st.length → AC Tryz.prog 109 [aWk, aPr p] (oWk s n R (f - 1)) (ci (z0h s (f - 1) p).1.1) (oPa n R (z0h s (f - 1) p)) := fun s f p st n R hI hf hn hl => by
  have := hI.len
  simp only [List.length_cons] at this
  exact c_pair hC hI hf hn (by omega)
 have a4 : List.take l.length (PTs l.reverse) = PTs l.reverse := List.take_of_length_le (by rw [z5d, List.length_reverse]; exact Nat.le_refl _)
 obtain ⟨n', R', hr⟩ := l_urun (I := UI C) a1 a2 (fun s f p st hI hf e => zhf hC hI hf e) f.toNat s f l (PTs l.reverse) (Nat.le_refl _) h a4
 refine ⟨n', R', AC.vc hP sh z79 (by simp) (by simp [isLive]) (by simp [isLive]) (Eq.mpr (v76_i1 ..) ?_)⟩
 exact hr
theorem c_uallU {C : Nat} (hC : C ≤ 1073741824) {s : Sto} {f : Int} {l : List (Tm × Tm)} (h0 : -9223372036854775808 ≤ f) (hl : l.length ≤ 1000000) (hw : WF s) (ht : OKT s) (hz : ∀ p ∈ l, p.1.sz ≤ B ∧ p.2.sz ≤ B) (h : l.any badP = false → UI C s f l) :
  AC Tryz.prog 36 [aS 0, .c (.a (.fz (.sl false 8 (PTs l)))), ci f] (oS s) (aE2 (allF s l f).1) (oS' (allF s l f).2) := by
 refine c_uall s l f (by omega) hz (fun q _ => c_urunU hC h0 (h q)) (fun q _ => ?_)
 have r := run_ok hC f.toNat s f l (h q)
 have c := (zqw f.toNat s f l .refl).all hw ht
 have cut := c.2.2.cut ht
 exact c_sundo _ _ _ cut.1 (by omega) cut.2.1 c.2.1 cut.2.2
end Go.AM

set_option maxRecDepth 100000
open Go Go.Proofs
namespace Go.AM
section
variable {p : Int → Bool}
variable {m : Nat} (hp : ∀ i : Int, (m : Int) ≤ i → p i = true)
include hp
variable {C : Nat} (hC : C ≤ 1073741824) {L : List Tm} (hL : LP L) (hLv : ∀ t ∈ L, vP p t = true) (x lv : Int) {lv0 : Int → Int}
include hC hL hLv
end
section
variable {p : Int → Bool} {m : Nat} {lv0 : Int → Int} (hp : ∀ i : Int, (m : Int) ≤ i → p i = true)
include hp
omit hp in
theorem OI.bind {s : Sto} (h : OI p (-1) m lv0 s) {x : Int} (hx : p x = true) {t : Tm} (ht : vP p t = true) : OI p (-1) m lv0 (bindS s x t) := by
 have hl := h.len
 refine ⟨by rw [z1b]; exact hl, fun i h0 h1 => ?_, fun i h0 h1 hb => ?_, fun i hi hb => ?_⟩
 · rcases z93 (s := s) (y := x) (t := t) h0 (by omega) with h2 | ⟨h2, h3⟩
   · rw [h2]; exact h.lvl i h0 h1
   · rw [h3, ← h2]; exact h.lvl i h0 h1
 · rcases z93 (s := s) (y := x) (t := t) h0 (by omega) with h2 | ⟨h2, h3⟩
   · rw [h2] at hb; exact h.bnd i h0 h1 hb
   · rw [h2]; exact ⟨hx, by omega⟩
 · by_cases q : z45 s x t = true
   · rw [(z1l q).1] at hi
     rcases List.mem_or_eq_of_mem_set hi with hi | rfl
     · exact h.sv i hi hb
     · exact ht
   · rw [(z39 (by simpa using q)).1] at hi
     exact h.sv i hi hb
variable {C : Nat} (hC : C ≤ 1073741824) {s : Sto} {f : Int} {q : Tm × Tm} {st : List (Tm × Tm)} (h : UI C s f (q :: st)) (hf : 0 < f)
include hC h hf
end
end Go.AM

set_option maxRecDepth 100000
open Go Go.Proofs

set_option maxRecDepth 100000
open Go Go.Proofs
namespace Go.AM
theorem c_unify (s : Sto) (a b : Tm) (f : Int) (h : AC Tryz.prog 36 [aS 0, .c (.a (.fz (.sl false 8 (PTs [(a, b)])))), ci f] (oS s) (aE2 (allF s [(a, b)] f).1) (oS' (allF s [(a, b)] f).2)) :
  AC Tryz.prog 32 [aS 0, aT a, aT b, ci f] (oS s) (aE2 (allF s [(a, b)] f).1) (oS' (allF s [(a, b)] f).2) := by
 generalize allF s [(a, b)] f = z at *
 obtain ⟨ak, a2, an, al⟩ := a
 obtain ⟨bk, bs, bn, bl⟩ := b
 refine AC.vc hP sh lv32 (by simp) (by simp [isLive]) (by simp [isLive]) (Eq.mpr (v32 ak a2 an (FTs al) bk bs bn (FTs bl) ..) ?_)
 exact ⟨⟨rfl, Nat.le_refl _⟩, z, h, .refl _, rfl⟩
end Go.AM

set_option maxRecDepth 100000
open Go Go.Proofs

set_option maxRecDepth 100000
open Go Go.Proofs
namespace Go.AM
def stL (l : List Int) : Sto := ⟨l.map fun v => ⟨z0o [v, 0], false, noT⟩, []⟩
theorem stL_snoc (l : List Int) (v : Int) : freshS (stL l) v = stL (l ++ [v]) := by simp [freshS, stL]
theorem stL_len (l : List Int) : (stL l).V.length = l.length := by simp [stL]
theorem stL_ok (l : List Int) : OKS (stL l) ∧ WF (stL l) ∧ OKT (stL l) := by
 refine ⟨fun i hi hb => ?_, fun i hi _ => ?_, fun i hi => nomatch hi⟩
 · obtain ⟨w, _, rfl⟩ := List.mem_map.1 hi
   cases hb
 · obtain ⟨w, _, rfl⟩ := List.mem_map.1 hi
   rfl
section
variable (ls : List Int) (la lb : List Tm) (h8 : ls.length ≤ 8)
include h8
variable (hab : la.length = lb.length) (ha8 : la.length ≤ 8) (hza : ∀ t ∈ la, t.sz ≤ 24 ∧ bd 1000 t) (hzb : ∀ t ∈ lb, t.sz ≤ 24 ∧ bd 1000 t)
include hab ha8 hza hzb
end
end Go.AM

namespace Go.AM
open Go.ChangeShapes Go.WideShapes Go.ChangeAt Go.RowKit
mutual
inductive Cd where
 | mk (nm : List UInt8) (ar fr vs sl : Int) (ins : List In1)
inductive In1 where
 | mk (k a : Int) (t : Tm) (l : List Tm) (c : List Cd)
end
namespace Cd
def nm : Cd → List UInt8 | .mk x _ _ _ _ _ => x
def ar : Cd → Int | .mk _ x _ _ _ _ => x
def sl : Cd → Int | .mk _ _ _ _ x _ => x
def ins : Cd → List In1 | .mk _ _ _ _ _ x => x
end Cd
namespace In1
def k : In1 → Int | .mk x _ _ _ _ => x
def a : In1 → Int | .mk _ x _ _ _ => x
def t : In1 → Tm | .mk _ _ x _ _ => x
def l : In1 → List Tm | .mk _ _ _ x _ => x
def c : In1 → List Cd | .mk _ _ _ _ x => x
end In1
instance : Inhabited Cd := ⟨.mk [] 0 0 0 0 []⟩
instance : Inhabited In1 := ⟨.mk 0 0 default [] []⟩
mutual
def Cd.sz : Cd → Nat
 | .mk nm _ _ _ _ ins => 1 + nm.length + In1.szs ins
def In1.sz1 : In1 → Nat
 | .mk _ _ t l c => 1 + t.bk + Tm.bks l + Cd.szs c
def In1.szs : List In1 → Nat
 | [] => 0
 | x :: l => In1.sz1 x + In1.szs l
def Cd.szs : List Cd → Nat
 | [] => 0
 | x :: l => Cd.sz x + Cd.szs l
end
theorem Cd.szs_mem : ∀ {l : List Cd} {c : Cd}, c ∈ l → c.sz ≤ Cd.szs l
 | x :: l, c, h => by
  rcases List.mem_cons.1 h with rfl | h
  · simp only [Cd.szs]; omega
  · have := Cd.szs_mem h; simp only [Cd.szs]; omega
theorem In1.szs_mem : ∀ {l : List In1} {c : In1}, c ∈ l → c.sz1 ≤ In1.szs l
 | x :: l, c, h => by
  rcases List.mem_cons.1 h with rfl | h
  · simp only [In1.szs]; omega
  · have := In1.szs_mem h; simp only [In1.szs]; omega
theorem In1.szs_length : ∀ l : List In1, l.length ≤ In1.szs l
 | [] => Nat.le_refl _
 | x :: l => by have := In1.szs_length l; cases x; simp only [List.length_cons, In1.szs, In1.sz1]; omega
theorem Cd.szs_length : ∀ l : List Cd, l.length ≤ Cd.szs l
 | [] => Nat.le_refl _
 | x :: l => by have := Cd.szs_length l; cases x; simp only [List.length_cons, Cd.szs, Cd.sz]; omega
theorem Cd.ind {P : Cd → Prop} (h : ∀ c, (∀ x ∈ c.ins, ∀ d ∈ x.c, P d) → P c) : ∀ c, P c := by
 have key : ∀ n c, Cd.sz c ≤ n → P c := by
  intro n
  induction n with
  | zero => intro c hc; cases c; simp only [Cd.sz] at hc; omega
  | succ n ih =>
   intro c hc
   refine h c fun x hx d hd => ih d ?_
   have h1 := In1.szs_mem hx
   have h2 := Cd.szs_mem hd
   cases c; cases x
   simp only [Cd.sz, Cd.ins, In1.sz1, In1.c] at *
   omega
 exact fun c => key _ c (Nat.le_refl _)
section
variable {H : Type} {enc : TypeId × Value → H} {P : Program} {w : World}
structure Key where
 any : Bool
 k : Int
 nm : List UInt8
 n : Int
 ar : Int
 deriving DecidableEq
abbrev aK (k : Key) : TV := .agg [.a (.fz (.bool k.any)), .a (.fz (.int .i64 k.k)), .a (.fz (.str k.nm)), .a (.fz (.int .i64 k.n)), .a (.fz (.int .i64 k.ar))]
end
end Go.AM

set_option maxRecDepth 100000
open Go Go.Proofs

set_option maxRecDepth 100000
open Go Go.Proofs
namespace Go.AM
abbrev anyK : Key := ⟨true, 0, [], 0, 0⟩
def keyH (h : Tm) (n : Int) : Key := if h.k = 5 then anyK else if h.k = 4 then anyK else if h.k = 6 then anyK else ⟨false, h.k, h.s, h.n, n⟩
def z3f (t : Tm) : Key := if t.k = 6 then (match t.l with | [] => anyK | h :: l => keyH h l.length) else keyH t 0
def zbn (a b : Key) : Bool := if a.any = true then true else if b.any = true then true else ((a.any == b.any) && ((a.k == b.k) && ((a.nm == b.nm) && ((a.n == b.n) && ((a.ar == b.ar) && true)))))
theorem tsz_l (t : Tm) (hz : t.sz ≤ B) : t.l.length ≤ B := by have := Tm.szs_length t.l; have := t.sz_eq; omega
theorem c_kof (t : Tm) (hz : t.sz ≤ B) : AC Tryz.prog 44 [aT t] [] (aK (z3f t)) [] := by
 have hl := tsz_l t hz
 obtain ⟨k, s, n, l⟩ := t
 simp only [Tm.l, B] at hl
 refine AC.vc hP sh lv44 (Nat.le_refl _) (by simp) (by simp) (Eq.mpr (v44 k s n (FTs l) _ _) ?_)
 have plain : ∀ {u : Tm} {m : Int}, ∀ K : Key, K = keyH u m → br (u.k == 5) (TV.Le (aK anyK) (aK K) ∧ ([] : List AObj) = []) (br (u.k == 4) (TV.Le (aK anyK) (aK K) ∧ ([] : List AObj) = []) (br (u.k == 6) (TV.Le (aK anyK) (aK K) ∧ ([] : List AObj) = []) (TV.Le (aK ⟨false, u.k, u.s, u.n, m⟩) (aK K) ∧ ([] : List AObj) = []))) := fun {u m} K hK => by
  subst hK
  unfold keyH
  refine z01 (fun h => ?_) (fun h => z01 (fun h2 => ?_) (fun h2 => z01 (fun h3 => ?_) (fun h3 => ?_)))
  · rw [if_pos (by simpa using h)]; exact ⟨.refl _, rfl⟩
  · rw [if_neg (by simpa using h), if_pos (by simpa using h2)]; exact ⟨.refl _, rfl⟩
  · rw [if_neg (by simpa using h), if_neg (by simpa using h2), if_pos (by simpa using h3)]; exact ⟨.refl _, rfl⟩
  · rw [if_neg (by simpa using h), if_neg (by simpa using h2), if_neg (by simpa using h3)]; exact ⟨.refl _, rfl⟩
 refine z01 (fun h6 => ?_) (fun h6 => ?_)
 · have h6 : k = 6 := by simpa using h6
   subst h6
   cases l with
   | nil =>
    rw [show z3f (.mk 6 s n []) = anyK by unfold z3f; rw [if_pos (show Tm.k (.mk 6 s n []) = 6 from rfl)]; rfl]
    first | exact ⟨rfl, z01 (fun h => absurd (of_decide_eq_true h) (by simp [FTs])) (fun _ => plain (u := .mk 6 s n []) (m := 0) anyK rfl)⟩ | exact ⟨rfl, z01 (fun _ => ⟨.refl _, rfl⟩) (fun h => by simp [FTs] at h)⟩
   | cons x l =>
    rw [show z3f (.mk 6 s n (x :: l)) = keyH x l.length by unfold z3f; rw [if_pos (show Tm.k (.mk 6 s n (x :: l)) = 6 from rfl)]; rfl]
    have e0 : FV.asI (List.getD (List.getD (FTs (x :: l)) 0 []) 0 FV.nils) = x.k := by cases x; rfl
    have e2 : FV.asS (List.getD (List.getD (FTs (x :: l)) 0 []) 1 FV.nils) = x.s := by cases x; rfl
    have e3 : FV.asI (List.getD (List.getD (FTs (x :: l)) 0 []) 2 FV.nils) = x.n := by cases x; rfl
    have e4 : IntKind.wrap .i64 ((((FTs (x :: l)).length : Nat) : Int) - 1) = (l.length : Int) := by
     rw [z00]; simp only [List.length_cons] at hl ⊢
     rw [w64 (by omega) (by omega)]; omega
    have hel : FV.isSl 4 (.sl false 4 (FTs (x :: l))) = true ∧ ((0 : Int) ≤ 0 ∧ ((0 : Int) < (((FTs (x :: l)).length : Nat) : Int) ∧ (rE (List.getD (FTs (x :: l)) 0 []) : List FV) = List.getD (FTs (x :: l)) 0 [])) := ⟨rfl, by omega, by rw [z00]; simp only [List.length_cons]; omega, za6 x⟩
    have go := plain (u := x) (m := l.length) (keyH x l.length) rfl
    rw [← e4, ← e0, ← e2, ← e3] at go
    rw [← e4]
    first
     | exact ⟨rfl, z01 (fun _ => ⟨hel, rfl, go⟩) (fun h => absurd (of_decide_eq_false h) (by rw [z00]; simp only [List.length_cons]; omega))⟩
     | exact ⟨rfl, z01 (fun h => by rw [z00] at h; simp at h; omega) (fun _ => ⟨hel, rfl, go⟩)⟩
 · have eK : z3f (.mk k s n l) = keyH (.mk k s n l) 0 := by unfold z3f; rw [if_neg (show ¬ Tm.k (.mk k s n l) = 6 from (by simpa using h6 : ¬ k = 6))]
   exact plain (u := .mk k s n l) (m := 0) _ eK
theorem c_meets (a b : Key) : AC Tryz.prog 43 [aK a, aK b] [] (cb (zbn a b)) [] := by
 refine AC.vc hP sh lv43 (Nat.le_refl _) (by simp) (by simp) (Eq.mpr (v43 ..) ?_)
 unfold zbn
 refine z01 (fun h => ?_) (fun h => z01 (fun h2 => ?_) (fun h2 => ?_))
 · rw [if_pos h]; exact z06 rfl
 · rw [if_neg (by rw [h]; simp), if_pos h2]; exact z06 rfl
 · rw [if_neg (by rw [h]; simp), if_neg (by rw [h2]; simp)]; exact z06 rfl
end Go.AM

set_option maxRecDepth 100000
open Go Go.Proofs
namespace Go.AM
theorem zr4 : AC Tryz.prog 40 [] [] (cb true) [] := runX_AC hP (fun f => bif List.contains [102, 103, 92] f then 0 else 1) 200 60 (by kernel_rfl)
end Go.AM

set_option maxRecDepth 100000
open Go Go.Proofs
namespace Go.AM
theorem okP_40 {t : Tm} {F : Nat} (hv : z02 t = true) (hz : t.sz ≤ 40) (hb : bd 1000 t) (hF : F ≤ 2000) : okP F t :=
 ⟨hv, z09 _ hv, by simp only [SZ]; omega, z6m (by simp only [M61, SZ]; omega) _ hb, by omega⟩
theorem zcq (s : Sto) (f : Int) {t : Tm} (hv : z02 t = true) (h : (z3f t).any = false) : z0w s f t = (t, f, 0) ∧ t.k ≠ 5 ∧ (z04 t).1.k ≠ 4 := by
 have key : t.k ≠ 5 ∧ t.k ≠ 4 ∧ (t.k = 6 → (hd t.l).k ≠ 5 ∧ (hd t.l).k ≠ 4) := by
  have ok := z09 _ hv
  obtain ⟨k, str, n, l⟩ := t
  unfold z3f at h
  by_cases h6 : k = 6
  · obtain ⟨x, y, r, rfl, hx6, _⟩ := okB6 ok h6
    rw [if_pos (show Tm.k (.mk k str n (x :: y :: r)) = 6 from h6)] at h
    refine ⟨fun e => by have e : k = 5 := e; omega, fun e => by have e : k = 4 := e; omega, fun _ => ⟨fun e => ?_, fun e => ?_⟩⟩
    · have e : x.k = 5 := e
      simp only [Tm.l, keyH] at h
      rw [if_pos e] at h; cases h
    · have e : x.k = 4 := e
      simp only [Tm.l, keyH] at h
      rw [if_neg (by omega), if_pos e] at h; cases h
  · rw [if_neg (show ¬ Tm.k (.mk k str n l) = 6 from h6)] at h
    refine ⟨fun e => ?_, fun e => ?_, fun e => absurd e h6⟩
    · unfold keyH at h; rw [if_pos e] at h; cases h
    · unfold keyH at h; rw [if_neg (by rw [e]; decide), if_pos e] at h; cases h
 have st : z0c s t = (t, 0) := by
  unfold z0c
  rw [if_neg (by simp [valB, key.2.1])]
  by_cases h6 : t.k = 6
  · have k6 := key.2.2 h6
    rw [if_neg (by simpa using h6), if_neg (by simp [valB, k6.2]), if_pos k6.1]
  · rw [if_pos h6]
 refine ⟨?_, key.1, ?_⟩
 · have r : runH s f.toNat t = (t, 0, 0) := by
    cases f.toNat with
    | zero => rw [runH, st]; rfl
    | succ F => rw [runH, st]; rfl
   unfold z0w
   rw [if_pos hv, r]
   simp
 · unfold z04
   split
   · rename_i h6; exact (key.2.2 h6.1).2
   · exact key.2.1
theorem zhe {t : Tm} (hv : z02 t = true) : z3f t = keyH (z04 t).1 ((z04 t).2.length : Int) := by
 unfold z04
 by_cases h6 : t.k = 6
 · rw [if_pos ⟨h6, hv⟩]
   obtain ⟨k, str, n, l⟩ := t
   obtain ⟨x, y, r, rfl, _, _⟩ := okB6 (z09 _ hv) h6
   unfold z3f
   rw [if_pos h6]
   simp only [Tm.l, List.length_cons, List.drop_succ_cons, List.drop_zero]
   rfl
 · rw [if_neg (fun e => h6 e.1)]
   unfold z3f
   rw [if_neg h6]; rfl
theorem fails {s : Sto} (hw : WF s) (ht : OKT s) {a b : Tm} (va : z02 a = true) (vb : z02 b = true) (h : zbn (z3f a) (z3f b) = false) {f : Int} (hf : 0 < f) : (allF s [(a, b)] f).1 = (0, 170) := by
 have ka : (z3f a).any = false := by
  cases e : (z3f a).any with
  | false => rfl
  | true => unfold zbn at h; rw [if_pos e] at h; cases h
 have kb : (z3f b).any = false := by
  cases e : (z3f b).any with
  | false => rfl
  | true => unfold zbn at h; rw [if_neg (by rw [ka]; simp), if_pos e] at h; cases h
 have ra := zcq s (f - 1) va ka
 have rb := zcq s (f - 1) vb kb
 have la : z0s s (f - 1) a = ((zc8 a, 0), f - 1) := by unfold z0s; rw [ra.1]; rfl
 have lb : z0s s (f - 1) b = ((zc8 b, 0), f - 1) := by unfold z0s; rw [rb.1]; rfl
 have differ : z2d (z04 a).1 (z04 b).1 = false ∨ (z04 a).2.length ≠ (z04 b).2.length := by
  by_cases q : z2d (z04 a).1 (z04 b).1 = true
  · right
    intro el
    have e := (zgh _ _).1 q
    have : z3f a = z3f b := by rw [zhe va, zhe vb, e, el]
    rw [this] at h
    unfold zbn at h
    rw [if_neg (by rw [kb]; simp), if_neg (by rw [kb]; simp)] at h
    simp at h
  · exact .inl (by simpa using q)
 have pr : (z0h s (f - 1) (a, b)).1 = (170, s, f - 1) := by
  unfold z0h
  dsimp only
  rw [la]
  dsimp only
  rw [if_neg (by simp), lb]
  dsimp only
  rw [if_neg (by simp)]
  unfold z6q zc8
  dsimp only
  rw [if_neg (by simp [ra.2.1, rb.2.1]), if_neg (fun e => ra.2.2 e.1), if_neg ra.2.2, if_neg rb.2.2, if_pos differ]
 have rn : runW f.toNat s f [(a, b)] = (170, s, f - 1) := by
  obtain ⟨F, hF⟩ : ∃ F, f.toNat = F + 1 := ⟨f.toNat - 1, by omega⟩
  rw [hF, runW, if_neg (by omega), pr]
  rfl
 unfold allF
 rw [if_neg (by simp [badP, va, vb]), rn]
 rfl
def stM (n : Nat) : Sto := stL ((List.range n).map fun (i : Nat) => ((i : Int)).tmod 3)
theorem stM_succ (n : Nat) : freshS (stM n) ((n : Int).tmod 3) = stM (n + 1) := by
 unfold stM
 rw [stL_snoc, List.range_succ, List.map_append]; rfl
theorem zq8 (n : Nat) : (stM n).V.length = n ∧ (stM n).T = [] := by
 unfold stM
 rw [stL_len]; simp [stL]
section
variable (a b : Tm) (va : z02 a = true) (vb : z02 b = true) (za : a.sz ≤ 40 ∧ bd 1000 a) (zb : b.sz ≤ 40 ∧ bd 1000 b) (h : zbn (z3f a) (z3f b) = false)
include va vb za zb h
theorem l_if1 (n : Int) (hn : 0 ≤ n ∧ n ≤ 20) : ∀ (m i : Nat), (i : Int) + (m : Int) = n → RPt Tryz.prog 8 0 (cb true) [] 1 ⟨[(2, ci n), (3, .c (.a (.ep 0 4 0 0))), (4, .c (.a (.ep 1 4 0 0))), (7, cb true), (13, .c (.a (.ep 2 2 0 0))), (14, ci (i : Int))],
  [(0, .arr 4 [cT a]), (1, .arr 4 [cT b]), (2, sto2 3 4 (stM i)), (3, .arz 6 (SR (stM i).V)), (4, .arz 1 (IR (stM i).T))], 5⟩
 | 0, i, hi => by
  have so := stL_ok ((List.range i).map fun (i : Nat) => ((i : Int)).tmod 3)
  have sl := zq8 i
  have hz : ∀ p ∈ [(a, b)], (p.1.sz ≤ 40 ∧ bd 1000 p.1) ∧ p.2.sz ≤ 40 ∧ bd 1000 p.2 := fun p hp => by rw [List.mem_singleton.1 hp]; exact ⟨za, zb⟩
  have hc := c_unify (stM i) a b 50 (c_uallU (C := i + 50) (by omega) (by omega) (by simp) so.2.1 so.2.2 (fun p hp => by have := hz p hp; simp only [B]; omega) (fun q => ⟨so.1, by show (stM i).V.length + _ ≤ _; rw [sl.1]; simp, by show (stM i).T.length + _ ≤ _; rw [sl.2]; simp, by omega, fun p hp => by
   rw [List.mem_singleton.1 hp]
   exact ⟨okP_40 va za.1 za.2 (by decide), okP_40 vb zb.1 zb.2 (by decide)⟩, by simp⟩))
  have hf := fails (s := stM i) so.2.1 so.2.2 va vb h (f := 50) (by omega)
  generalize allF (stM i) [(a, b)] 50 = z at *
  obtain ⟨⟨z1, z2⟩, zs⟩ := z
  dsimp only at hf
  injection hf with h1 h2
  subst h1; subst h2
  obtain ⟨ak, a2, an, al⟩ := a
  obtain ⟨bk, bs, bn, bl⟩ := b
  refine RPt.vc hP sh lv8 (Eq.mpr (v8_1a ..) ?_)
  exact z01 (fun q => absurd (of_decide_eq_true q) (by omega)) (fun _ => ⟨((0, 170), zs), hc, z01 (fun _ => z01 (fun _ => z06 rfl) (fun q => by cases q)) (fun q => by cases q)⟩)
 | m + 1, i, hi => by
  have next := l_if1 n hn m (i + 1) (by omega)
  have sl := zq8 i
  have hc := zjt (stM i) ((i : Int).tmod 3) (by omega)
  rw [stM_succ] at hc
  obtain ⟨ak, a2, an, al⟩ := a
  obtain ⟨bk, bs, bn, bl⟩ := b
  refine RPt.vc hP sh lv8 (Eq.mpr (v8_1a ..) ?_)
  rw [w64 (x := (i : Int) + 1) (by omega) (by omega)]
  exact z01 (fun _ => ⟨⟨rfl, by decide⟩, (_, stM (i + 1)), hc, next⟩) (fun q => absurd (of_decide_eq_false q) (by omega))
end
theorem zfo (a b : Tm) (n : Int) (ha : a.bk ≤ B) (hb : b.bk ≤ B) : AC Tryz.prog 8 [aT a, aT b, ci n] [] (cb true) [] := by
 have za := Tm.sz_bk a
 have zb := Tm.sz_bk b
 have c0 := zr4
 have c1 := zqj a (by omega) 40 (by omega) (by omega)
 have c2 := zqj b (by omega) 40 (by omega) (by omega)
 have c3 := c_near 1000 (by omega) (by omega) a (by omega)
 have c4 := c_near 1000 (by omega) (by omega) b (by omega)
 have v1 := z1x a (by omega)
 have v2 := z1x b (by omega)
 have k1 := c_kof a (by omega)
 have k2 := c_kof b (by omega)
 have mt := c_meets (z3f a) (z3f b)
 have next := fun va vb za zb h => l_if1 a b va vb za zb h n
 have zero := fun (hn : 0 ≤ n ∧ n ≤ 20) va vb za zb h => next va vb za zb h hn n.toNat 0 (by omega)
 have lz := fun (t : Tm) (h1 : z9w t 40 = false) (h2 : near 1000 t = true) => (⟨by have := large_sz h1; omega, zn4 _ h2⟩ : t.sz ≤ 40 ∧ bd 1000 t)
 have lza := lz a
 have lzb := lz b
 clear next lz
 generalize z3f a = ka at *
 generalize z3f b = kb at *
 generalize z9w a 40 = la at *
 generalize z9w b 40 = lb at *
 generalize near 1000 a = na at *
 generalize near 1000 b = nb at *
 obtain ⟨ak, a2, an, al⟩ := a
 obtain ⟨bk, bs, bn, bl⟩ := b
 obtain ⟨p1, p2, p3, p4, p5⟩ := ka
 obtain ⟨q1, q2, q3, q4, q5⟩ := kb
 refine AC.vc hP sh lv8 (Nat.le_refl _) (by simp) (by simp) (Eq.mpr (v8 ak a2 an (FTs al) bk bs bn (FTs bl) ..) ?_)
 refine ⟨_, c0, z01 (fun q => by cases q) (fun _ => ⟨_, c1, _, c2, _, c3, z01 (fun h3 => ⟨_, c4, _, v1, _, v2, z01 (fun _ => z06 rfl) (fun h1 => z01 (fun _ => z06 rfl) (fun h2 => z01 (fun _ => z06 rfl) (fun h4 => z01 (fun _ => z06 rfl) (fun h5 => z01 (fun _ => z06 rfl) (fun h6 => z01 (fun _ => z06 rfl) (fun h7 => z01 (fun _ => z06 rfl) (fun h8 => ⟨p1, p2, p3, p4, p5, k1, q1, q2, q3, q4, q5, k2, _, mt, z01 (fun _ => z06 rfl) (fun hm => ⟨(), c_snew, ?_⟩)⟩)))))))⟩) (fun h3 => ⟨_, v1, _, v2, z01 (fun _ => z06 rfl) (fun _ => z01 (fun _ => z06 rfl) (fun _ => z06 rfl))⟩)⟩)⟩
 have h7 := of_decide_eq_false h7
 have h8 := of_decide_eq_false h8
 have e : stM 0 = ⟨[], []⟩ := rfl
 have zero := zero ⟨by omega, by omega⟩ (by simpa using h5) (by simpa using h6) (lza h1 h3) (lzb h2 (by simpa using h4)) hm
 rw [show ((0 : Nat) : Int) = 0 from rfl, e] at zero
 exact zero
end Go.AM
