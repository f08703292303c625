/- A calculus of plain values for the model's code, what the code of each function asks (computed by the kernel), contracts of the functions, and plain laws (part 5). No conditions. -/
import Derived.Test.YtdpjhpfjmjhhkaaGreatPart4
import Derived.Test.YtdpjhpfjmjhhkaaGreatPart3
import Derived.ProofKit
import Derived.OpenShut
import Derived.JoinedCond
import Derived.WalkKit
import Derived.Test.YtdpjhpfjmjhhkaaGreatRows
set_option maxRecDepth 100000
open Go Go.Proofs
namespace Go.AM
theorem z2g (f : Tm) (l : List Tm) : (z07 f l).sz ≤ 1 + f.sz + Tm.szs l := by
 unfold z07
 split
 · simp only [Tm.szs]; omega
 · split
   · have := f.sz_eq; simp only [Tm.sz, Tm.szs_append, List.length_nil]; omega
   · simp only [Tm.sz, Tm.szs, List.length_nil]; omega
theorem zjk (t : Tm) (o : List Tm) : (z3a t o).sz ≤ 1 + Tm.szs o := by
 unfold z3a
 split
 · rename_i h
   match o, h with
   | [], h => simp at h
   | x :: r, h =>
    simp only [List.headD_cons, List.tail_cons, Tm.szs] at h ⊢
    have hx : (x.k == 6) = true := h.2.2.1
    have hr : r ≠ [] := by intro e; rw [e] at h; simp at h
    unfold z07
    split
    · exact absurd rfl hr
    · have := x.sz_eq
      by_cases hl : x.l = []
      · rw [if_neg (fun e => e.2 hl)]
        simp only [Tm.sz, Tm.szs, List.length_nil]; omega
      · rw [if_pos ⟨hx, hl⟩]
        simp only [Tm.sz, Tm.szs_append, List.length_nil]; omega
 · simp only [Tm.sz]; omega
mutual
def nd : Tm → Nat
 | .mk _ _ _ l => 1 + nds l
def nds : List Tm → Nat
 | [] => 0
 | t :: l => nd t + nds l
end
theorem nd_eq (t : Tm) : nd t = 1 + nds t.l := by cases t; rfl
theorem znf : ∀ {l : List Tm} {t : Tm}, t ∈ l → nd t ≤ nds l
 | x :: l, t, h => by
  rcases List.mem_cons.1 h with rfl | h
  · simp only [nds]; omega
  · have := znf h; simp only [nds]; omega
mutual
theorem zed (lf : Tm → Int → Tm) (S : Nat) (h : ∀ u d, (lf u d).sz ≤ u.sz + S) : ∀ (t : Tm) (d : Int), (z0j lf t d).sz ≤ t.sz + nd t * S
 | .mk k s n l, d => by
  rw [z0j]
  split
  · refine Nat.le_trans (zjk ..) ?_
    have := zji lf S h l (d + if (k == 5) = true then 1 else 0)
    simp only [Tm.sz, Tm.s, nd, Nat.add_mul, Nat.one_mul]
    omega
  · refine Nat.le_trans (h _ _) ?_
    simp only [nd, Nat.add_mul, Nat.one_mul]; omega
theorem zji (lf : Tm → Int → Tm) (S : Nat) (h : ∀ u d, (lf u d).sz ≤ u.sz + S) : ∀ (l : List Tm) (d : Int), Tm.szs (z0f lf l d) ≤ Tm.szs l + nds l * S
 | [], _ => by simp [z0f, Tm.szs]
 | t :: l, d => by
  have := zed lf S h t d
  have := zji lf S h l d
  simp only [z0f, Tm.szs, nds, Nat.add_mul]; omega
end
theorem zcu {M : Int} : ∀ {a b : List Tm}, bds M a → bds M b → bds M (a ++ b)
 | [], _, _, h => h
 | _ :: _, _, h, h' => ⟨h.1, zcu h.2 h'⟩
theorem z71 {M : Int} : ∀ {l : List Tm}, (∀ t ∈ l, bd M t) → bds M l
 | [], _ => trivial
 | t :: _, h => ⟨h t List.mem_cons_self, z71 fun u hu => h u (List.mem_cons_of_mem _ hu)⟩
theorem bd6 {M : Int} {s : List UInt8} {n : Int} {l : List Tm} (h : bds M l) : bd M (.mk 6 s n l) := ⟨fun e => absurd e (by omega), h⟩
theorem z2j {M : Int} {f : Tm} {l : List Tm} (hf : bd M f) (hl : bds M l) : bd M (z07 f l) := by
 unfold z07
 split
 · exact hf
 · split
   · exact bd6 (zcu (bd_l hf) hl)
   · exact bd6 ⟨hf, hl⟩
theorem withF_bd {M : Int} {t : Tm} {o : List Tm} (hk : t.k ≠ 3) (ho : bds M o) : bd M (z3a t o) := by
 unfold z3a
 split
 · rename_i h
   match o, h, ho with
   | [], h, _ => simp at h
   | x :: r, h, ho => exact z2j ho.1 ho.2
 · exact ⟨fun e => absurd e hk, ho⟩
mutual
theorem zaj (lf : Tm → Int → Tm) (M M' D : Int) (h : ∀ u d, bd M u → 0 ≤ d → d ≤ D → bd M' (lf u d)) : ∀ (t : Tm) (d : Int), bd M t → 0 ≤ d → d + t.sz ≤ D → bd M' (z0j lf t d)
 | .mk k s n l, d, hb, h0, h1 => by
  rw [z0j]
  simp only [Tm.sz] at h1
  split
  · rename_i hk
    refine withF_bd (fun e => ?_) (zko lf M M' D h l _ hb.2 (by split <;> omega) (by split <;> omega))
    have e : k = 3 := e
    rw [e] at hk; exact absurd hk (by decide)
  · exact h _ _ hb h0 (by omega)
theorem zko (lf : Tm → Int → Tm) (M M' D : Int) (h : ∀ u d, bd M u → 0 ≤ d → d ≤ D → bd M' (lf u d)) : ∀ (l : List Tm) (d : Int), bds M l → 0 ≤ d → d + Tm.szs l ≤ D → bds M' (z0f lf l d)
 | [], _, _, _, _ => trivial
 | t :: l, d, hb, h0, h1 => by
  simp only [Tm.szs] at h1
  exact ⟨zaj lf M M' D h t d hb.1 h0 (by omega), zko lf M M' D h l d hb.2 h0 (by omega)⟩
end
theorem z9n (lf : Tm → Int → Tm) : ∀ (l : List Tm) (d : Int), (z0f lf l d).length = l.length
 | [], _ => rfl
 | _ :: l, d => by simp only [z0f, List.length_cons, z9n lf l d]
abbrev M61 : Int := 2305843009213693952
def z3s (fr by_ : Int) (u : Tm) (d : Int) : Tm := if (u.k == 3) = true ∧ d + fr ≤ u.n then .mk u.k u.s (u.n + by_) u.l else u
def shT (fr by_ : Int) (t : Tm) (d : Int) : Tm := z0j (z3s fr by_) t d
theorem zo0 (fr by_ : Int) (u : Tm) (d : Int) : (z3s fr by_ u d).sz = u.sz := by
 unfold z3s; split
 · cases u; rfl
 · rfl
theorem zd6 (fr by_ : Int) (t : Tm) (d : Int) : (shT fr by_ t d).sz ≤ t.sz := by
 have := zed (z3s fr by_) 0 (fun u d => by rw [zo0]; omega) t d
 rw [Nat.mul_zero] at this; exact this
theorem z6m {M M' : Int} (h : M ≤ M') : ∀ t : Tm, bd M t → bd M' t := by
 refine Tm.ind fun t ih hb => ?_
 obtain ⟨k, s, n, l⟩ := t
 exact ⟨fun e => by have := hb.1 e; omega, z71 fun u hu => ih u hu (z2v hb.2 hu)⟩
theorem zqk {fr by_ M : Int} (h0 : 0 ≤ by_) (u : Tm) (d : Int) (hb : bd M u) : bd (M + by_) (z3s fr by_ u d) := by
 unfold z3s
 split
 · obtain ⟨k, s, n, l⟩ := u
   exact ⟨fun e => by have := hb.1 e; simp only [Tm.n]; omega, z71 fun u hu => z6m (by omega) u (z2v hb.2 hu)⟩
 · exact z6m (by omega) u hb
theorem shT_bd {fr by_ M : Int} (h0 : 0 ≤ by_) (t : Tm) (d : Int) (hb : bd M t) (hd : 0 ≤ d) : bd (M + by_) (shT fr by_ t d) :=
 zaj (z3s fr by_) M (M + by_) (d + t.sz) (fun u d' hu _ _ => zqk h0 u d' hu) t d hb hd (Int.le_refl _)
theorem znk (t : Tm) (by_ : Int) (h1 : -9223372036854775808 ≤ t.n + by_) (h2 : t.n + by_ ≤ 9223372036854775807) : AC Tryz.prog 150 [aT t, ci by_] [] (aT (.mk t.k t.s (t.n + by_) t.l)) [] := by
 obtain ⟨k, s, n, l⟩ := t
 refine AC.vc hP sh lv150 (Nat.le_refl _) (by simp) (by simp) (Eq.mpr (v150 k s n (FTs l) by_ _ _) ?_)
 rw [w64 (x := n + by_) h1 h2]
 exact ⟨.refl _, rfl⟩
theorem c_shift1 (fr by_ d : Int) (u : Tm) (hb : u.k = 3 → 0 - M61 ≤ u.n ∧ u.n ≤ M61) (hd0 : 0 ≤ d) (hd1 : d ≤ M61) (hf0 : 0 ≤ fr) (hf1 : fr ≤ M61) (hb0 : 0 - 1 ≤ by_) (hb1 : by_ ≤ M61) :
  AC Tryz.prog 149 [aT u, ci d, .c (.a (.ep 0 1 0 0)), .c (.a (.ep 1 1 0 0))] [obj1 fr, obj1 by_] (aT (z3s fr by_ u d)) [obj1 fr, obj1 by_] := by
 obtain ⟨k, s, n, l⟩ := u
 simp only [M61, Tm.k, Tm.n] at *
 refine AC.vc hP sh lv149 (Nat.le_refl _) (by simp [isLive]) (by simp) (Eq.mpr (v149 k s n (FTs l) d fr by_ _ _) ?_)
 rw [w64 (by omega) (by omega)]
 refine z01 (fun h => z01 (fun h2 => ?_) (fun h2 => ?_)) (fun h => ?_)
 · have hk : k = 3 := by simpa using h
   have h3 : d + fr ≤ n := of_decide_eq_true h2
   have := hb hk
   have e : z3s fr by_ (.mk k s n l) d = .mk k s (n + by_) l := if_pos ⟨h, h3⟩
   rw [e]
   exact ⟨_, znk (.mk k s n l) by_ (by simp only [Tm.n]; omega) (by simp only [Tm.n]; omega), .refl _, rfl⟩
 · have h3 : ¬ d + fr ≤ n := of_decide_eq_false h2
   have e : z3s fr by_ (.mk k s n l) d = .mk k s n l := if_neg fun e => h3 e.2
   rw [e]; exact ⟨.refl _, rfl⟩
 · have e : z3s fr by_ (.mk k s n l) d = .mk k s n l := if_neg fun e => by have := e.1; rw [show Tm.k (.mk k s n l) = k from rfl, h] at this; cases this
   rw [e]; exact ⟨.refl _, rfl⟩
theorem zih (t : Tm) (fr by_ : Int) (hs : t.sz ≤ B) (hb : bd M61 t) (hf0 : 0 ≤ fr) (hf1 : fr ≤ M61) (hb0 : 0 - 1 ≤ by_) (hb1 : by_ ≤ M61) :
  AC Tryz.prog 131 [aT t, ci fr, ci by_] [] (aT (shT fr by_ t 0)) [] := by
 have h := c_wSh fr by_ (z3s fr by_) (fun u _ => bd M61 u ∧ u.sz ≤ B) (fun kd s n l d hq hk u hu => ⟨z2v hq.1.2 hu, by have := Tm.szs_mem hu; have := hq.2; simp only [Tm.sz] at this; omega⟩)
  (fun u d hk hq h0 h1 => c_shift1 fr by_ d u (by obtain ⟨k, s, n, l⟩ := u; exact hq.1.1) h0 h1 hf0 hf1 hb0 hb1)
  (fun u d hq => by have := zd6 fr by_ u d; have h1 := (shT fr by_ u d).sz_eq; have := Tm.szs_length (shT fr by_ u d).l; have := hq.2; show (shT fr by_ u d).l.length ≤ _; omega)
  t hs 0 ⟨hb, hs⟩ (Int.le_refl _) (by simp only [B] at hs; omega)
 obtain ⟨k, s, n, l⟩ := t
 refine AC.vc hP sh lv131 (Nat.le_refl _) (by simp) (by simp) (Eq.mpr (v131 k s n (FTs l) fr by_ _ _) ?_)
 exact ⟨_, h, .refl _, rfl⟩
def z2o (i : Int) (s : Tm) (u : Tm) (d : Int) : Tm :=
 if (u.k == 3) = true then (if u.n < d + i then u else if (u.n == d + i) = true then shT 0 d s 0 else .mk u.k u.s (u.n - 1) u.l) else u
def suT (i : Int) (s t : Tm) (d : Int) : Tm := z0j (z2o i s) t d
theorem zrc (i : Int) (s u : Tm) (d : Int) : (z2o i s u d).sz ≤ u.sz + s.sz := by
 have h3 := zd6 0 d s 0
 unfold z2o
 split
 · split
   · omega
   · split
     · omega
     · cases u; simp only [Tm.sz, Tm.s, Tm.l]; omega
 · omega
theorem suT_sz (i : Int) (s t : Tm) (d : Int) : (suT i s t d).sz ≤ t.sz + nd t * s.sz := zed _ _ (zrc i s) t d
theorem suT_bd {i M M' D : Int} (s t : Tm) (d : Int) (hb : bd M t) (hs : bd M' s) (hM : M' + D ≤ M) (hd : 0 ≤ d) (hD : d + t.sz ≤ D) (hi : 0 ≤ i) (hM' : 0 ≤ M): bd M (suT i s t d) := by
 refine zaj (z2o i s) M M D (fun u d' hu h0 h1 => ?_) t d hb hd hD
 unfold z2o
 split
 · split
   · exact hu
   · split
     · exact z6m (by omega) _ (shT_bd h0 s 0 hs (Int.le_refl _))
     · rename_i h2 h3
       obtain ⟨k, s', n, l⟩ := u
       have h3' : n ≠ d' + i := fun e => h3 (by rw [show Tm.n (.mk k s' n l) = n from rfl, e]; simp)
       have h2' : ¬ n < d' + i := h2
       exact ⟨fun e => by have := hu.1 e; simp only [Tm.n]; omega, hu.2⟩
 · exact hu
theorem c_subst1 (i d : Int) (s u : Tm) (hs : s.sz ≤ B) (hbs : bd M61 s) (hb : u.k = 3 → 0 - M61 ≤ u.n ∧ u.n ≤ M61) (hd0 : 0 ≤ d) (hd1 : d ≤ M61) (hi0 : 0 ≤ i) (hi1 : i ≤ M61) :
  AC Tryz.prog 176 [aT u, ci d, .c (.a (.ep 0 1 0 0)), .c (.a (.ep 1 4 0 0))] [obj1 i, .arr 4 [fzs (FT s)]] (aT (z2o i s u d)) [obj1 i, .arr 4 [fzs (FT s)]] := by
 obtain ⟨k, t, n, l⟩ := u
 have hsh := zih s 0 d hs hbs (Int.le_refl _) (by simp only [M61]; omega) (by omega) hd1
 rw [z9u]
 simp only [M61, Tm.k, Tm.n] at *
 refine AC.vc hP sh lv176 (Nat.le_refl _) (by simp [isLive]) (by simp) (Eq.mpr (v176 k t n (FTs l) d i s.k s.s s.n (FTs s.l) _ _) ?_)
 rw [w64 (by omega) (by omega)]
 refine z01 (fun h => ?_) (fun h => z01 (fun h2 => ?_) (fun h2 => z01 (fun h3 => ?_) (fun h3 => ?_)))
 · have e : z2o i s (.mk k t n l) d = .mk k t n l := if_neg fun e => by rw [show Tm.k (.mk k t n l) = k from rfl] at e; rw [bne, e] at h; cases h
   rw [e]; exact ⟨.refl _, rfl⟩
 · have hk : (k == 3) = true := by simpa [bne] using h
   have e : z2o i s (.mk k t n l) d = .mk k t n l := by rw [z2o, if_pos (show (Tm.k (.mk k t n l) == 3) = true from hk), if_pos (show Tm.n (.mk k t n l) < d + i from of_decide_eq_true h2)]
   rw [e]; exact ⟨.refl _, rfl⟩
 · have hk : (k == 3) = true := by simpa [bne] using h
   have e : z2o i s (.mk k t n l) d = shT 0 d s 0 := by rw [z2o, if_pos (show (Tm.k (.mk k t n l) == 3) = true from hk), if_neg (show ¬ Tm.n (.mk k t n l) < d + i from of_decide_eq_false h2), if_pos (show (Tm.n (.mk k t n l) == d + i) = true from h3)]
   rw [e]; exact ⟨_, hsh, .refl _, rfl⟩
 · have hk : (k == 3) = true := by simpa [bne] using h
   have e : z2o i s (.mk k t n l) d = .mk k t (n - 1) l := by rw [z2o, if_pos (show (Tm.k (.mk k t n l) == 3) = true from hk), if_neg (show ¬ Tm.n (.mk k t n l) < d + i from of_decide_eq_false h2), if_neg (by rw [show Tm.n (.mk k t n l) = n from rfl, h3]; simp)]; rfl
   have := hb (by simpa using hk)
   rw [e]; exact ⟨_, znk (.mk k t n l) (-1) (by simp only [Tm.n]; omega) (by simp only [Tm.n]; omega), .refl _, rfl⟩
theorem c_subst (t s : Tm) (i : Int) (hs : s.sz ≤ B) (ht : t.sz + nd t * s.sz ≤ B) (hb : bd M61 t) (hbs : bd M61 s) (hi0 : 0 ≤ i) (hi1 : i ≤ M61) :
  AC Tryz.prog 173 [aT t, ci i, aT s] [] (aT (suT i s t 0)) [] := by
 have ht' : t.sz ≤ B := by omega
 have hFT := z9u s
 obtain ⟨sk, ss, sn, sl⟩ := s
 have h := c_wSu i sk ss sn sl (z2o i (.mk sk ss sn sl)) (fun u _ => bd M61 u ∧ u.sz + nd u * (Tm.mk sk ss sn sl).sz ≤ B) (fun kd s n l d hq hk u hu => ⟨z2v hq.1.2 hu, by have h2 := hq.2; have := Nat.mul_le_mul_right (Tm.mk sk ss sn sl).sz (znf hu); have := Tm.szs_mem hu; rw [Tm.sz_eq (.mk kd s n l), nd_eq (.mk kd s n l), Nat.add_mul] at h2; simp only [Tm.l, Tm.s] at h2; omega⟩)
  (fun u d hk hq h0 h1 => c_subst1 i d (.mk sk ss sn sl) u hs hbs (by obtain ⟨k, s, n, l⟩ := u; exact hq.1.1) h0 h1 hi0 hi1)
  (fun u d hq => by have := suT_sz i (.mk sk ss sn sl) u d; have h1 := (suT i (.mk sk ss sn sl) u d).sz_eq; have := Tm.szs_length (suT i (.mk sk ss sn sl) u d).l; have := hq.2; show (suT i (.mk sk ss sn sl) u d).l.length ≤ _; omega)
  t ht' 0 ⟨hb, ht⟩ (Int.le_refl _) (by simp only [B] at ht'; omega)
 obtain ⟨k, s, n, l⟩ := t
 refine AC.vc hP sh lv173 (Nat.le_refl _) (by simp) (by simp) (Eq.mpr (v173 k s n (FTs l) i sk ss sn (FTs sl) _ _) ?_)
 exact ⟨_, h, .refl _, rfl⟩
end Go.AM

set_option maxRecDepth 100000
open Go Go.Proofs
namespace Go.AM
def z5j : Nat → Tm → Tm
 | 0, t => t
 | n + 1, t => z5j n (.mk 5 [] 0 [t])
theorem zp7 (N : Int) (hN : N ≤ 4294967296) : ∀ (m : Nat) (i k : Int) (s : List UInt8) (n : Int) (rows : List (List FV)) (l : List Tm), 0 ≤ i → i + m = N → FV.Le (.sl false 4 rows) (.sl false 4 (FTs l)) →
  RPt Tryz.prog 45 0 (aT (z5j m (.mk k s n l))) [] 1 ⟨[(3, .c (.a (.ep 0 4 0 0))), (4, .c (.a (.ep 1 4 0 0))), (6, ci N), (7, ci i)], [(0, .arr 4 [[.a (.fz (.int .i64 k)), .a (.fz (.str s)), .a (.fz (.int .i64 n)), .a (.fz (.sl false 4 rows))]]), (1, .arr 4 [[.a (.fz (.int .i64 0)), .a (.fz (.str [])), .a (.fz (.int .i64 0)), .a (.fz .nils)]])], 2⟩
 | 0, i, k, s, n, rows, l, h0, hi, hle => by
  refine RPt.vc hP sh lv45 (Eq.mpr (zr ..) ?_)
  refine z01 (fun h => absurd (of_decide_eq_true h) (by omega)) (fun _ => ⟨leT hle, rfl⟩)
 | m + 1, i, k, s, n, rows, l, h0, hi, hle => by
  refine RPt.vc hP sh lv45 (Eq.mpr (zr ..) ?_)
  have h2 := zp7 N hN m (i + 1) 5 [] 0 [[.int .i64 k, .str s, .int .i64 n, .sl false 4 rows]] [.mk k s n l] (by omega) (by omega) (zr2 rfl fun j r t hr ht => by
   match j, hr, ht with
   | 0, hr, ht =>
    simp only [List.getElem?_cons_zero, Option.some.injEq] at hr ht
    subst hr; subst ht
    exact leFT hle
   | j + 1, hr, _ => simp at hr)
  rw [w64 (x := i + 1) (by omega) (by omega)]
  refine z01 (fun _ => ⟨⟨rfl, by omega⟩, ?_⟩) (fun h => absurd (of_decide_eq_false h) (by omega))
  exact h2
theorem zes {n : Int} (h : 0 ≤ n) : z0o [n, 0] = n := by
 rw [zl5]; unfold maxI; split <;> omega
theorem zk6 (m : Nat) (t : Tm) (hm : m ≤ 4294967296) : AC Tryz.prog 45 [ci m, aT t] [] (aT (z5j m t)) [] := by
 obtain ⟨k, s, n, l⟩ := t
 refine AC.vc hP sh lv45 (Nat.le_refl _) (by simp) (by simp) (Eq.mpr (v45 m k s n (FTs l) _ _) ?_)
 rw [zes (by omega)]
 refine RPt.vc hP sh lv45 (Eq.mpr (zr ..) ?_)
 match m, hm with
 | 0, _ => exact z01 (fun h => absurd (of_decide_eq_true h) (by omega)) (fun _ => ⟨.refl _, rfl⟩)
 | m + 1, hm =>
  refine z01 (fun _ => ⟨⟨rfl, by omega⟩, ?_⟩) (fun h => absurd (of_decide_eq_false h) (by omega))
  exact zp7 ((m + 1 : Nat) : Int) (by omega) m 1 5 [] 0 [[.int .i64 k, .str s, .int .i64 n, .sl false 4 (FTs l)]] [.mk k s n l] (by omega) (by omega) (zr2 rfl fun j r t hr ht => by
   match j, hr, ht with
   | 0, hr, ht =>
    simp only [List.getElem?_cons_zero, Option.some.injEq] at hr ht
    subst hr; subst ht
    exact leFT (.refl _)
   | j + 1, hr, _ => simp at hr)
mutual
def z02 : Tm → Bool
 | .mk k s n l =>
  if (k == 0) = true then (zff s || zm0 s) && n == 0 && (((FTs l).length : Nat) : Int) == 0
  else if (k == 1) = true then decide (n ≥ 1) && s == [] && (((FTs l).length : Nat) : Int) == 0 && z33 l
  else if (k == 2) = true then s == [] && (((FTs l).length : Nat) : Int) == 0 && z33 l
  else if (k == 3) = true then decide (n ≥ 0) && decide (n ≤ 4611686018427387904) && s == [] && (((FTs l).length : Nat) : Int) == 0 && z33 l
  else if (k == 4) = true then decide (n ≥ 0) && decide (n ≤ 4611686018427387904) && s == [] && (((FTs l).length : Nat) : Int) == 0 && z33 l
  else if (k == 5) = true then n == 0 && s == [] && (((FTs l).length : Nat) : Int) == 1 && z33 l
  else if (k == 6) = true then n == 0 && decide ((((FTs l).length : Nat) : Int) ≥ 2) && ((l.headD default).k != 6) && s == [] && z33 l
  else false
def z33 : List Tm → Bool
 | [] => true
 | t :: l => z02 t && z33 l
end
def zij : List Tm → Int → Int
 | [], _ => -1
 | t :: l, i => if z02 t = true then zij l (i + 1) else i
theorem zkr : ∀ (l : List Tm) (i : Int), 0 ≤ i → decide (zij l i ≥ 0) = !z33 l
 | [], _, _ => rfl
 | t :: l, i, h => by
  rw [zij, z33]
  split
  · rename_i e; rw [zkr l (i + 1) (by omega), e, Bool.true_and]
  · rename_i e; rw [show z02 t = false by simpa using e]; simp; omega
theorem zni : ∀ (b a : List Tm), (∀ u ∈ b, AC Tryz.prog 66 [aT u] [] (cb (!z02 u)) []) → (a ++ b).length ≤ B →
  RPt Tryz.prog 83 0 (ci (zij b a.length)) [] 1 ⟨[(0, aL (a ++ b)), (1, .c (.fn (.func 66) [] [])), (7, ci (((FTs (a ++ b)).length : Nat) : Int)), (8, ci a.length)], [], 0⟩
 | [], a, _, _ => by
  refine RPt.vc hP sh lv83 (Eq.mpr (zd4 ..) ?_)
  exact z01 (fun h => absurd (of_decide_eq_true h) (geI' a)) (fun _ => z3o rfl)
 | t :: b, a, ih, hl => by
  refine RPt.vc hP sh lv83 (Eq.mpr (zd4 ..) ?_)
  have hl' := hl
  simp only [List.length_append, List.length_cons, B] at hl'
  have h1 := ih t List.mem_cons_self
  have h2 := zni b (a ++ [t]) (fun u hu => ih u (List.mem_cons_of_mem _ hu)) (by rw [ap]; exact hl)
  have h3 := ltI' a t b
  rw [ap, nx] at h2
  rw [midI, w64 (x := (a.length : Int) + 1) (by omega) (by omega)]
  refine z01 (fun _ => ?_) (fun h => absurd h3 (of_decide_eq_false h))
  obtain ⟨k', s', n', l'⟩ := t
  refine ⟨⟨rfl, by omega, h3, rfl⟩, _, h1, z01 (fun h => ?_) (fun h => ?_)⟩
  · rw [zij, if_neg (by simpa using h)]; exact z3o rfl
  · rw [zij, if_pos (by simpa using h)]; exact h2
theorem c_contf (l : List Tm) (hl : l.length ≤ B) (ih : ∀ u ∈ l, AC Tryz.prog 20 [aT u] [] (cb (z02 u)) []) : AC Tryz.prog 49 [aL l, .c (.fn (.func 66) [] [])] [] (cb (!z33 l)) [] := by
 have h1 : ∀ u ∈ l, AC Tryz.prog 66 [aT u] [] (cb (!z02 u)) [] := fun u hu => by
  have h := ih u hu
  obtain ⟨k, s, n, l⟩ := u
  refine AC.vc hP sh lv66 (Nat.le_refl _) (by simp) (by simp) (Eq.mpr (v66 k s n (FTs l) _ _) ?_)
  exact ⟨_, h, z06 rfl⟩
 have h2 : AC Tryz.prog 83 [aL l, .c (.fn (.func 66) [] [])] [] (ci (zij l 0)) [] := by
  refine AC.vc hP sh lv83 (Nat.le_refl _) (by simp) (by simp) (Eq.mpr (v83_F66 ..) ?_)
  exact ⟨rfl, zni l [] h1 hl⟩
 refine AC.vc hP sh lv49 (Nat.le_refl _) (by simp) (by simp) (Eq.mpr (v49_F66 ..) ?_)
 exact ⟨_, h2, z06 (zkr l 0 (Int.le_refl _))⟩
theorem head0 : ∀ {l : List Tm}, 2 ≤ (((FTs l).length : Nat) : Int) → List.getD (FTs l) 0 [] = FT (l.headD default)
 | [], h => by simp [FTs] at h
 | t :: l, _ => rfl
theorem z1x : ∀ t : Tm, t.sz ≤ B → AC Tryz.prog 20 [aT t] [] (cb (z02 t)) [] := by
 refine Tm.ind fun t ih hs => ?_
 have hlen := Tm.szs_length t.l
 obtain ⟨k, s, n, l⟩ := t
 simp only [Tm.sz, Tm.l] at hs hlen
 have hc := c_contf l (by omega) fun u hu => ih u hu (by have := Tm.szs_mem hu; omega)
 refine AC.vc hP sh lv20 (Nat.le_refl _) (by simp) (by simp) (Eq.mpr (v20 k s n (FTs l) _ _) ?_)
 refine z01 (fun h0 => ⟨_, c_isname s, z01 (fun h1 => z01 (fun h2 => ⟨rfl, z06 ?_⟩) (fun h2 => z06 ?_)) (fun h1 => ⟨_, c_issym s, z01 (fun h1' => z01 (fun h2 => ⟨rfl, z06 ?_⟩) (fun h2 => z06 ?_)) (fun h1' => z06 ?_)⟩)⟩)
  (fun h0 => z01 (fun h1 => z01 (fun h2 => z01 (fun h3 => ⟨rfl, z01 (fun h4 => ⟨_, hc, z06 ?_⟩) (fun h4 => z06 ?_)⟩) (fun h3 => z06 ?_)) (fun h2 => z06 ?_))
  (fun h1 => z01 (fun h2 => z01 (fun h3 => ⟨rfl, z01 (fun h4 => ⟨_, hc, z06 ?_⟩) (fun h4 => z06 ?_)⟩) (fun h3 => z06 ?_))
  (fun h2 => z01 (fun h3 => z01 (fun h4 => z01 (fun h5 => z01 (fun h6 => ⟨rfl, z01 (fun h7 => ⟨_, hc, z06 ?_⟩) (fun h7 => z06 ?_)⟩) (fun h6 => z06 ?_)) (fun h5 => z06 ?_)) (fun h4 => z06 ?_))
  (fun h3 => z01 (fun h3' => z01 (fun h4 => z01 (fun h5 => z01 (fun h6 => ⟨rfl, z01 (fun h7 => ⟨_, hc, z06 ?_⟩) (fun h7 => z06 ?_)⟩) (fun h6 => z06 ?_)) (fun h5 => z06 ?_)) (fun h4 => z06 ?_))
  (fun h3' => z01 (fun h5 => z01 (fun h6 => z01 (fun h7 => ⟨rfl, z01 (fun h8 => ⟨_, hc, z06 ?_⟩) (fun h8 => z06 ?_)⟩) (fun h7 => z06 ?_)) (fun h6 => z06 ?_))
  (fun h5 => z01 (fun h6 => z01 (fun h7 => ⟨rfl, z01 (fun h8 => ?app) (fun h8 => ⟨rfl, z06 ?_⟩)⟩) (fun h7 => ⟨rfl, z06 ?_⟩)) (fun h6 => z06 ?_)))))))
 case app =>
  have h8' := of_decide_eq_true h8
  rw [head0 h8', z9u]
  refine ⟨⟨rfl, by omega, by omega, rfl⟩, rfl, z01 (fun h9 => z01 (fun h10 => ⟨rfl, z01 (fun h11 => ⟨_, hc, z06 ?_⟩) (fun h11 => z06 ?_)⟩) (fun h10 => z06 ?_)) (fun h9 => z06 ?_)⟩
  all_goals (have h9' : ((l.headD default).k != 6) = _ := h9; simp_all [z02])
 all_goals first
  | (simp_all [z02]; done)
  | (simp_all [z02]; intros; omega)
end Go.AM

set_option maxRecDepth 100000
open Go Go.Proofs
namespace Go.AM
mutual
theorem zn4 {M : Int} : ∀ t : Tm, near M t = true → bd M t
 | .mk k s n l, h => by
  simp only [near, Bool.and_eq_true] at h
  refine ⟨fun e => ?_, zk0 l h.2⟩
  have := h.1
  rw [e] at this
  simp at this; omega
theorem zk0 {M : Int} : ∀ l : List Tm, ziu M l = true → bds M l
 | [], _ => trivial
 | t :: l, h => by
  simp only [ziu, Bool.and_eq_true] at h
  exact ⟨zn4 t h.1, zk0 l h.2⟩
end
end Go.AM

set_option maxRecDepth 100000
open Go Go.Proofs

set_option maxRecDepth 100000
open Go Go.Proofs

set_option maxRecDepth 100000
open Go Go.Proofs

set_option maxRecDepth 100000
open Go Go.Proofs
namespace Go.AM
theorem zk9 : ∀ (b a b' a' : List Tm), (∀ u ∈ b, ∀ v : Tm, AC Tryz.prog 139 [aT u, aT v] [] (cb (z2d u v)) []) → (a ++ b).length ≤ B → a.length = a'.length → b.length = b'.length →
  RPt Tryz.prog 157 0 (cb (z9e b b')) [] 1 ⟨[(1, aL (a' ++ b')), (2, .c (.fn (.func 139) [] [])), (15, aL (a ++ b)), (16, ci (((FTs (a ++ b)).length : Nat) : Int)), (17, ci a.length)], [], 0⟩
 | [], a, [], a', _, _, _, _ => by
  refine RPt.vc hP sh zot (Eq.mpr (z9r ..) ?_)
  exact z01 (fun h => absurd (of_decide_eq_true h) (geI' a)) (fun _ => z06 rfl)
 | t :: b, a, t' :: b', a', ih, hl, ha, hb => by
  refine RPt.vc hP sh zot (Eq.mpr (z9r ..) ?_)
  have hl' := hl
  simp only [List.length_append, List.length_cons, B] at hl'
  simp only [List.length_cons] at hb
  have h1 := ih t List.mem_cons_self t'
  have h2 := zk9 b (a ++ [t]) b' (a' ++ [t']) (fun u hu => ih u (List.mem_cons_of_mem _ hu)) (by rw [ap]; exact hl) (by simp [ha]) (by omega)
  have h3 := ltI' a t b
  have h4 := ltI' a' t' b'
  rw [← ha] at h4
  rw [ap, ap, nx] at h2
  rw [midI, midI' a a' ha, w64 (x := (a.length : Int) + 1) (by omega) (by omega)]
  refine z01 (fun _ => ?_) (fun h => absurd h3 (of_decide_eq_false h))
  obtain ⟨k1, s1, n1, l1⟩ := t
  obtain ⟨k2, s2, n2, l2⟩ := t'
  refine ⟨⟨rfl, by omega, h3, rfl⟩, ⟨rfl, by omega, h4, rfl⟩, _, h1, z01 (fun h => z06 ?_) (fun h => ?_)⟩
  · rw [z9e, show z2d (.mk k1 s1 n1 l1) (.mk k2 s2 n2 l2) = false by simpa using h]; rfl
  · rw [z9e, show z2d (.mk k1 s1 n1 l1) (.mk k2 s2 n2 l2) = true by simpa using h]; exact h2
theorem c_same : ∀ a : Tm, a.sz ≤ B → ∀ b : Tm, AC Tryz.prog 139 [aT a, aT b] [] (cb (z2d a b)) [] := by
 refine Tm.ind fun a ih hs b => ?_
 have hlen := Tm.szs_length a.l
 obtain ⟨k1, s1, n1, l1⟩ := a
 obtain ⟨k2, s2, n2, l2⟩ := b
 simp only [Tm.sz, Tm.l] at hs hlen
 have he : AC Tryz.prog 157 [aL l1, aL l2, .c (.fn (.func 139) [] [])] [] (cb (z9e l1 l2)) [] := by
  refine AC.vc hP sh zot (Nat.le_refl _) (by simp) (by simp) (Eq.mpr (zqy ..) ?_)
  refine ⟨rfl, rfl, z01 (fun h => z06 ?_) (fun h => ⟨rfl, ?_⟩)⟩
  · rw [z00, z00] at h
    exact (zh0 (fun e => by rw [e] at h; simp at h)).symm
  · rw [z00, z00] at h
    exact zk9 l1 [] l2 [] (fun u hu v => ih u hu (by have := Tm.szs_mem hu; omega) v) (by simp only [List.nil_append]; omega) rfl (by have : (l1.length : Int) = l2.length := by simpa using h
                                                                                                                                      omega)
 refine AC.vc hP sh lv139 (Nat.le_refl _) (by simp) (by simp) (Eq.mpr (v139 k1 s1 n1 (FTs l1) k2 s2 n2 (FTs l2) _ _) ?_)
 refine z01 (fun h => z01 (fun h1 => z01 (fun h2 => ⟨_, he, z06 ?_⟩) (fun h2 => z06 ?_)) (fun h1 => z06 ?_)) (fun h => z06 ?_)
 all_goals simp only [z2d]
 all_goals simp_all
end Go.AM

set_option maxRecDepth 100000
open Go Go.Proofs

set_option maxRecDepth 100000
open Go Go.Proofs
namespace Go.AM
mutual
def occF : Tm → Int → Nat
 | .mk k _ n l, i => if (k == 3) = true ∧ (n == i) = true then 1 else occL l (i + if (k == 5) = true then 1 else 0)
def occL : List Tm → Int → Nat
 | [], _ => 0
 | t :: l, i => occF t i + occL l i
end
mutual
theorem zns : ∀ (t : Tm) (i : Int), occF t i ≤ t.sz
 | .mk k s n l, i => by
  rw [occF]
  have := zhy l (i + if (k == 5) = true then 1 else 0)
  split <;> simp only [Tm.sz] <;> omega
theorem zhy : ∀ (l : List Tm) (i : Int), occL l i ≤ Tm.szs l
 | [], _ => Nat.le_refl _
 | t :: l, i => by have := zns t i; have := zhy l i; simp only [occL, Tm.szs]; omega
end
theorem zlf (i : Int) : ∀ (b a : List Tm) (acc : Nat), (∀ u ∈ b, AC Tryz.prog 166 [aT u, ci i] [] (ci (occF u i)) []) → (a ++ b).length ≤ B → acc + occL b i ≤ 2 * B →
  RPt Tryz.prog 166 0 (ci ((acc + occL b i : Nat) : Int)) [] 3 ⟨[(1, ci i), (5, ci acc), (21, aL (a ++ b)), (22, ci (((FTs (a ++ b)).length : Nat) : Int)), (23, ci a.length)], [], 0⟩
 | [], a, acc, _, _, _ => by
  refine RPt.vc hP sh zp8 (Eq.mpr (zr8 ..) ?_)
  exact z01 (fun h => absurd (of_decide_eq_true h) (geI' a)) (fun _ => z3o (by simp [occL]))
 | t :: b, a, acc, ih, hl, ha => by
  have hl' := hl
  simp only [List.length_append, List.length_cons, B] at hl'
  simp only [occL, B] at ha
  have h1 := ih t List.mem_cons_self
  have h2 := zlf i b (a ++ [t]) (acc + occF t i) (fun u hu => ih u (List.mem_cons_of_mem _ hu)) (by rw [ap]; exact hl) (by simp only [B]; omega)
  have h3 := ltI' a t b
  rw [ap, nx] at h2
  refine RPt.vc hP sh zp8 (Eq.mpr (zr8 ..) ?_)
  rw [midI, w64 (x := (a.length : Int) + 1) (by omega) (by omega)]
  refine z01 (fun _ => ?_) (fun h => absurd h3 (of_decide_eq_false h))
  rw [occL, ← Nat.add_assoc]
  obtain ⟨k', s', n', l'⟩ := t
  refine ⟨⟨rfl, by omega, h3, rfl⟩, _, h1, ?_⟩
  rw [w64 (by omega) (by omega), show (acc : Int) + ((occF (.mk k' s' n' l') i : Nat) : Int) = ((acc + occF (.mk k' s' n' l') i : Nat) : Int) by omega]
  exact h2
theorem zl2 : ∀ t : Tm, t.sz ≤ B → ∀ i : Int, 0 - 2305843009213693952 ≤ i → i + t.sz ≤ 2305843009213693952 → AC Tryz.prog 166 [aT t, ci i] [] (ci (occF t i)) [] := by
 refine Tm.ind fun t ih hs i h0 h1 => ?_
 have hlen := Tm.szs_length t.l
 obtain ⟨k, s, n, l⟩ := t
 simp only [Tm.sz, Tm.l, B] at hs hlen h1
 have loop : ∀ j : Int, 0 - 2305843009213693952 ≤ j → j + Tm.szs l ≤ 2305843009213693952 → RPt Tryz.prog 166 0 (ci (occL l j)) [] 3 ⟨[(1, ci j), (5, ci 0), (21, aL l), (22, ci (((FTs l).length : Nat) : Int)), (23, ci 0)], [], 0⟩ := fun j hj0 hj1 => by
  have hle := zhy l j
  have := zlf j l [] 0 (fun u hu => ih u hu (by have := Tm.szs_mem hu; simp only [B]; omega) j hj0 (by have := Tm.szs_mem hu; omega)) (by simp only [List.nil_append, B]; omega) (by simp only [B]; omega)
  rw [Nat.zero_add] at this
  exact this
 refine AC.vc hP sh zp8 (Nat.le_refl _) (by simp) (by simp) (Eq.mpr (v166 k s n (FTs l) i _ _) ?_)
 have no : ∀ (c : ¬ ((k == 3) = true ∧ (n == i) = true)), occF (.mk k s n l) i = occL l (i + if (k == 5) = true then 1 else 0) := fun c => by rw [occF, if_neg c]
 refine z01 (fun h => z01 (fun h2 => z3o ?_) (fun h2 => ⟨rfl, ?_⟩)) (fun h => z01 (fun h2 => ⟨rfl, ?_⟩) (fun h2 => ⟨rfl, ?_⟩))
 · rw [occF, if_pos ⟨h, h2⟩]; rfl
 · have e : k = 3 := by simpa using h
   rw [no (fun c => by rw [c.2] at h2; cases h2)]
   subst e
   rw [show (i + if ((3 : Int) == 5) = true then 1 else 0) = i by simp]
   exact loop i (by omega) (by omega)
 · rw [no (fun c => by rw [c.1] at h; cases h), if_pos h2, w64 (by omega) (by omega)]
   exact loop (i + 1) (by omega) (by omega)
 · rw [no (fun c => by rw [c.1] at h; cases h), if_neg (by rw [h2]; simp), Int.add_zero]
   exact loop i (by omega) (by omega)
theorem zib : (∀ es : List (List FV), es ≠ [] → es.length ≤ B → AC Tryz.prog 102 [.c (.a (.fz (.sl false 4 es)))] [] (.c (.a (.osl 0 4 0 es.length))) [.arz 4 es]) ∧ AC Tryz.prog 102 [.c (.a (.fz (.sl false 4 [])))] [] (.c (.a (.fz (.sl false 4 [])))) [] := by
 have h0 : AC Tryz.prog 102 [.c (.a (.fz .nils))] [] (.c (.a (.fz .nils))) [] := by
  refine AC.vc hP sh lv102 (Nat.le_refl _) (by simp) (by simp) (Eq.mpr (v102 ..) ?_)
  exact ⟨.refl _, rfl⟩
 have h1 : ∀ es : List (List FV), es.length ≤ B → AC Tryz.prog 102 [.c (.a (.fz (.sl true 4 es)))] [] (.c (.a (.osl 0 4 0 es.length))) [.arz 4 es] := fun es hl => by
  refine AC.vc hP sh lv102 (by simp) (by simp) (by simp [isLive]) (Eq.mpr (v102_i1 ..) ?_)
  refine ⟨rfl, ⟨by omega, by rw [Nat.zero_add]; exact z57 (by simp only [B] at hl; omega)⟩, ?_⟩
  rw [Nat.zero_add]
  exact ⟨.refl _, rfl⟩
 exact AC.clone_le h0 h1
theorem zr6 (t : Tm) (hs : t.sz ≤ B) (i : Int) (h0 : 0 - 2305843009213693952 ≤ i) (h1 : i + t.sz ≤ 2305843009213693952) : AC Tryz.prog 148 [aT t, ci i] [] (ci (if z02 t = true then (occF t i : Int) else 0)) [] := by
 have hv := z1x t hs
 have ho := zl2 t hs i h0 h1
 obtain ⟨k, s, n, l⟩ := t
 refine AC.vc hP sh lv148 (Nat.le_refl _) (by simp) (by simp) (Eq.mpr (v148 k s n (FTs l) i _ _) ?_)
 refine ⟨_, hv, z01 (fun h => z3o ?_) (fun h => ⟨_, ho, z3o ?_⟩)⟩
 · rw [if_neg (by simpa using h)]
 · rw [if_pos (by simpa using h)]
end Go.AM

set_option maxRecDepth 100000
open Go Go.Proofs
namespace Go.AM
abbrev aTE (t : Tm) (e : Int) : TV := .tup [(true, [.a (.fz (.int .i64 t.k)), .a (.fz (.str t.s)), .a (.fz (.int .i64 t.n)), .a (.fz (.sl false 4 (FTs t.l)))]), (false, [.a (.fz (.int .i64 e))])]
abbrev noT : Tm := .mk 0 [] 0 []
theorem leTE {k n e : Int} {s : List UInt8} {x : FV} {l : List Tm} (h : FV.Le x (.sl false 4 (FTs l))) : TV.Le (.tup [(true, [.a (.fz (.int .i64 k)), .a (.fz (.str s)), .a (.fz (.int .i64 n)), .a (.fz x)]), (false, [.a (.fz (.int .i64 e))])]) (aTE (.mk k s n l) e) := by
 refine .tup _ _ rfl fun i p q hp hq => ?_
 match i, hp, hq with
 | 0, hp, hq =>
  simp only [List.getElem?_cons_zero, Option.some.injEq] at hp hq
  subst hp; subst hq
  refine ⟨rfl, rfl, fun j x y hx hy => ?_⟩
  match j, hx, hy with
  | 0, hx, hy => simp at hx hy; subst hx; subst hy; exact .refl _
  | 1, hx, hy => simp at hx hy; subst hx; subst hy; exact .refl _
  | 2, hx, hy => simp at hx hy; subst hx; subst hy; exact .refl _
  | 3, hx, hy => simp at hx hy; subst hx; subst hy; exact .a _ _ (.fz _ _ h)
  | j + 4, hx, _ => simp at hx
 | 1, hp, hq =>
  simp only [List.getElem?_cons_zero, List.getElem?_cons_succ, Option.some.injEq] at hp hq
  subst hp; subst hq
  refine ⟨rfl, rfl, fun j x y hx hy => ?_⟩
  match j, hx, hy with
  | 0, hx, hy => simp at hx hy; subst hx; subst hy; exact .refl _
  | j + 1, hx, _ => simp at hx
 | i + 2, hp, _ => simp at hp
def z4m (body arg : Tm) : Bool := !decide ((z3c body : Int) + (occF body 0 : Int) * (z3c arg : Int) > 4096)
def conF (body arg : Tm) : Tm := if z4m body arg = true then suT 0 arg body 0 else noT
def conE (body arg : Tm) : Int := if z4m body arg = true then 0 else 80
end Go.AM

set_option maxRecDepth 100000
open Go Go.Proofs
namespace Go.AM
def hd (l : List Tm) : Tm := l.headD default
def z4o (t : Tm) : Bool := t.k == 6 && (hd t.l).k == 5
mutual
def okB : Tm → Bool
 | .mk k s n l => (if (k == 6) = true then decide (2 ≤ l.length) && (hd l).k != 6 && (s == [] && n == 0) else if (k == 5) = true then decide (l.length = 1) && (s == [] && n == 0) else decide (l.length = 0)) && okL l
def okL : List Tm → Bool
 | [] => true
 | t :: l => okB t && okL l
end
theorem z4i : ∀ {l : List Tm} {t : Tm}, okL l = true → t ∈ l → okB t = true
 | x :: l, t, h, hm => by
  simp only [okL, Bool.and_eq_true] at h
  rcases List.mem_cons.1 hm with rfl | hm
  · exact h.1
  · exact z4i h.2 hm
theorem zqv : ∀ {l : List Tm}, (∀ t ∈ l, okB t = true) → okL l = true
 | [], _ => rfl
 | t :: l, h => by simp only [okL, h t List.mem_cons_self, zqv (l := l) fun u hu => h u (List.mem_cons_of_mem _ hu), Bool.and_self]
theorem okB6 {k n : Int} {s : List UInt8} {l : List Tm} (h : okB (.mk k s n l) = true) (hk : k = 6) : ∃ x y r, l = x :: y :: r ∧ x.k ≠ 6 ∧ okL l = true := by
 subst hk
 simp only [okB, Bool.and_eq_true] at h
 match l, h with
 | [], h => simp at h
 | [x], h => simp at h
 | x :: y :: r, h => exact ⟨x, y, r, rfl, by have := h.1; simp [hd] at this; exact this.1, h.2⟩
theorem okB5 {k n : Int} {s : List UInt8} {l : List Tm} (h : okB (.mk k s n l) = true) (hk : k = 5) : ∃ x, l = [x] ∧ okB x = true := by
 subst hk
 simp only [okB, Bool.and_eq_true] at h
 match l, h with
 | [], h => simp at h
 | [x], h => exact ⟨x, rfl, by have := h.2; simpa [okL] using this⟩
 | x :: y :: r, h => simp at h
theorem okB0 {k n : Int} {s : List UInt8} {l : List Tm} (h : okB (.mk k s n l) = true) (h5 : k ≠ 5) (h6 : k ≠ 6) : l = [] := by
 simp only [okB, Bool.and_eq_true] at h
 have := h.1
 rw [if_neg (by simpa using h6), if_neg (by simpa using h5)] at this
 exact List.eq_nil_of_length_eq_zero (by simpa using this)
theorem okB_sn {k n : Int} {s : List UInt8} {l : List Tm} (h : okB (.mk k s n l) = true) (hk : k = 5 ∨ k = 6) : s = [] ∧ n = 0 := by
 simp only [okB, Bool.and_eq_true] at h
 have h := h.1
 rcases hk with rfl | rfl
 · simp at h; exact h.2
 · simp at h; exact h.2
theorem zhp {t : Tm} (h : okB t = true) : okL t.l = true := by
 obtain ⟨k, s, n, l⟩ := t
 simp only [okB, Bool.and_eq_true] at h; exact h.2
mutual
theorem z09 : ∀ t : Tm, z02 t = true → okB t = true
 | .mk k s n l, h => by
  rw [okB]
  have hl := zg7 l
  rw [z02] at h
  split at h
  · rename_i e
    have e : k = 0 := by simpa using e
    subst e
    rw [lenI] at h
    have : l = [] := by simp at h; exact h.2
    subst this; rfl
  split at h
  · rename_i e
    have e : k = 1 := by simpa using e
    subst e
    rw [lenI] at h
    have : l = [] := by simp at h; exact h.1.2
    subst this; rfl
  split at h
  · rename_i e
    have e : k = 2 := by simpa using e
    subst e
    rw [lenI] at h
    have : l = [] := by simp at h; exact h.1.2
    subst this; rfl
  split at h
  · rename_i e
    have e : k = 3 := by simpa using e
    subst e
    rw [lenI] at h
    have : l = [] := by simp at h; exact h.1.2
    subst this; rfl
  split at h
  · rename_i e
    have e : k = 4 := by simpa using e
    subst e
    rw [lenI] at h
    have : l = [] := by simp at h; exact h.1.2
    subst this; rfl
  split at h
  · rename_i e
    have e : k = 5 := by simpa using e
    subst e
    rw [lenI] at h
    simp only [Bool.and_eq_true, beq_iff_eq] at h
    have h1 : l.length = 1 := by have := h.1.2; omega
    rw [hl h.2]
    simp [h1, h.1.1.1, h.1.1.2]
  split at h
  · rename_i e
    have e : k = 6 := by simpa using e
    subst e
    rw [lenI] at h
    simp only [Bool.and_eq_true, decide_eq_true_eq, beq_iff_eq] at h
    have h1 : 2 ≤ l.length := by have := h.1.1.1.2; omega
    have h2 : ((hd l).k != 6) = true := h.1.1.2
    rw [hl h.2, h2]
    simp [h1, h.1.1.1.1, h.1.2]
  · cases h
theorem zg7 : ∀ l : List Tm, z33 l = true → okL l = true
 | [], _ => rfl
 | t :: l, h => by
  simp only [z33, Bool.and_eq_true] at h
  simp only [okL, z09 t h.1, zg7 l h.2, Bool.and_self]
end
theorem ok_ne {t : Tm} (h : okB t = true) : t.k = 6 → t.l ≠ [] := by
 obtain ⟨k, s, n, l⟩ := t
 intro hk
 obtain ⟨x, y, r, e, _⟩ := okB6 h hk
 show l ≠ []
 rw [e]; simp
end Go.AM

set_option maxRecDepth 100000
open Go Go.Proofs
namespace Go.AM
abbrev zT : List WV := [.a (.fz (.int .i64 0)), .a (.fz (.str [])), .a (.fz (.int .i64 0)), .a (.fz .nils)]
theorem zd2 (k : Int) (s : List UInt8) (n : Int) (l : List Tm) (a : Tm) (r : List Tm) : z07 (.mk k s n l) (a :: r) = if (k == 6) = true ∧ l ≠ [] then .mk 6 [] 0 (l ++ a :: r) else .mk 6 [] 0 (.mk k s n l :: a :: r) := rfl
end Go.AM

set_option maxRecDepth 100000
open Go Go.Proofs
namespace Go.AM
mutual
theorem nd_sz : ∀ t : Tm, nd t = t.sz
 | .mk _ _ _ l => by simp only [nd, Tm.sz, zoz l]
theorem zoz : ∀ l : List Tm, nds l = Tm.szs l
 | [] => rfl
 | t :: l => by simp only [nds, Tm.szs, nd_sz t, zoz l]
end
mutual
theorem zi9 : ∀ t : Tm, okB t = true → z3c t = t.sz
 | .mk k s n l, h => by
  have hl := zl3 l (zhp h)
  by_cases h6 : k = 6
  · subst h6; simp [z3c, Tm.sz, hl]
  · by_cases h5 : k = 5
    · subst h5; simp [z3c, Tm.sz, hl]
    · have : l = [] := okB0 h h5 h6
      subst this
      simp [z3c, Tm.sz, z7d, Tm.szs]
theorem zl3 : ∀ l : List Tm, okL l = true → z7d l = Tm.szs l
 | [], _ => rfl
 | t :: l, h => by
  simp only [okL, Bool.and_eq_true] at h
  simp only [z7d, Tm.szs, zi9 t h.1, zl3 l h.2]
end
def SZ : Nat := 130000000
theorem ziq {body arg : Tm} (ob : okB body = true) (oa : okB arg = true) (hr : z4m body arg = true) (ha : arg.sz ≤ SZ) : body.sz + nd body * arg.sz ≤ B ∧ body.sz + occF body 0 * arg.sz ≤ 4096 := by
 have h1 : ((z3c body : Int) + (occF body 0 : Int) * (z3c arg : Int) ≤ 4096) := by
  have : (!decide ((z3c body : Int) + (occF body 0 : Int) * (z3c arg : Int) > 4096)) = true := hr
  simp only [Bool.not_eq_true', decide_eq_false_iff_not] at this
  omega
 rw [zi9 body ob, zi9 arg oa, nd_sz] at *
 have h0 : body.sz + occF body 0 * arg.sz ≤ 4096 := by
  have : ((body.sz + occF body 0 * arg.sz : Nat) : Int) ≤ 4096 := by rw [Int.natCast_add, Int.natCast_mul]; exact h1
  omega
 have h2 : body.sz ≤ 4096 := by omega
 have h3 := Nat.mul_le_mul h2 ha
 simp only [SZ] at h3
 exact ⟨by simp only [B]; omega, h0⟩
theorem zm_le {body arg : Tm} (hb : body.sz ≤ 1073741824) (ha : arg.sz ≤ 1073741824) : 0 ≤ (occF body 0 : Int) * (z3c arg : Int) ∧ (occF body 0 : Int) * (z3c arg : Int) ≤ 1152921504606846976 := by
 have := Nat.mul_le_mul (Nat.le_trans (zns body 0) hb) (Nat.le_trans (zaf arg) ha)
 exact ⟨Int.mul_nonneg (by omega) (by omega), by omega⟩
theorem c_bcontr (body arg : Tm) (ob : okB body = true) (oa : okB arg = true) (hb : body.sz ≤ SZ) (ha : arg.sz ≤ SZ) (db : bd M61 body) (da : bd M61 arg) : AC Tryz.prog 165 [aT body, aT arg] [] (aTE (conF body arg) (conE body arg)) [] := by
 simp only [SZ] at hb ha
 have h1 := c_size body (by simp only [B]; omega)
 have h2 := zl2 body (by simp only [B]; omega) 0 (by omega) (by omega)
 have h3 := c_size arg (by simp only [B]; omega)
 have h4 := fun hr => c_subst body arg 0 (by simp only [B]; omega) (ziq ob oa hr (by simp only [SZ]; omega)).1 db da (by omega) (by simp only [M61]; omega)
 have z1 := zaf body
 have z2 := zm_le (body := body) (arg := arg) (by omega) (by omega)
 have cF : ∀ b, z4m body arg = b → conF body arg = (if b = true then suT 0 arg body 0 else noT) ∧ conE body arg = (if b = true then 0 else 80) := fun b h => by unfold conF conE; rw [h]; exact ⟨rfl, rfl⟩
 have hf : z4m body arg = !decide ((z3c body : Int) + (occF body 0 : Int) * (z3c arg : Int) > 4096) := rfl
 obtain ⟨k, s, n, l⟩ := body
 obtain ⟨k', s', n', l'⟩ := arg
 refine AC.vc hP sh lv165 (Nat.le_refl _) (by simp) (by simp) (Eq.mpr (v165 k s n (FTs l) k' s' n' (FTs l') _ _) ?_)
 refine ⟨_, h1, _, h2, _, h3, ?_⟩
 rw [w64 (x := (occF (.mk k s n l) 0 : Int) * (z3c (.mk k' s' n' l') : Int)) (by omega) (by omega), w64 (by omega) (by omega)]
 refine z01 (fun h => ?_) (fun h => ?_)
 · obtain ⟨e1, e2⟩ := cF false (by rw [hf, h]; rfl)
   rw [e1, e2]
   exact ⟨leTE z0l, rfl⟩
 · obtain ⟨e1, e2⟩ := cF true (by rw [hf, h]; rfl)
   rw [e1, e2]
   exact ⟨_, h4 (by rw [hf, h]; rfl), .refl _, rfl⟩
theorem zir (body arg : Tm) (hb : body.sz ≤ SZ) (ha : arg.sz ≤ SZ) (db : bd M61 body) (da : bd M61 arg) : AC Tryz.prog 147 [aT body, aT arg] [] (if (z02 body && z02 arg) = true then aTE (conF body arg) (conE body arg) else aTE noT 1) [] := by
 have h1 := z1x body (by simp only [SZ, B] at *; omega)
 have h2 := z1x arg (by simp only [SZ, B] at *; omega)
 have h3 := fun ob oa => c_bcontr body arg (z09 body ob) (z09 arg oa) hb ha db da
 obtain ⟨k, s, n, l⟩ := body
 obtain ⟨k', s', n', l'⟩ := arg
 refine AC.vc hP sh lv147 (Nat.le_refl _) (by simp) (by simp) (Eq.mpr (v147 k s n (FTs l) k' s' n' (FTs l') _ _) ?_)
 refine ⟨_, h1, z01 (fun h => ?_) (fun h => ⟨_, h2, z01 (fun h' => ?_) (fun h' => ?_)⟩)⟩
 · rw [if_neg (by rw [show z02 (.mk k s n l) = false by simpa using h]; simp)]
   exact ⟨leTE z0l, rfl⟩
 · rw [if_neg (by rw [show z02 (.mk k' s' n' l') = false by simpa using h']; simp)]
   exact ⟨leTE z0l, rfl⟩
 · have e1 : z02 (.mk k s n l) = true := by simpa using h
   have e2 : z02 (.mk k' s' n' l') = true := by simpa using h'
   rw [if_pos (by rw [e1, e2]; rfl)]
   exact ⟨(_, _), h3 e1 e2, .refl _, rfl⟩
theorem zbi {t : Tm} (ho : okB t = true) (hr : z4o t = true) : ∃ s n s1 n1 body arg rest, t = .mk 6 s n (.mk 5 s1 n1 [body] :: arg :: rest) ∧ okB body = true ∧ okB arg = true ∧ okL rest = true := by
 obtain ⟨k, s, n, l⟩ := t
 simp only [z4o, Tm.k, Tm.l, Bool.and_eq_true, beq_iff_eq] at hr
 obtain ⟨rfl, h5⟩ := hr
 obtain ⟨x, y, r, rfl, _, hl⟩ := okB6 ho rfl
 simp only [okL, Bool.and_eq_true] at hl
 obtain ⟨k', s', n', l'⟩ := x
 have h5 : k' = 5 := h5
 subst h5
 obtain ⟨b, rfl, hb⟩ := okB5 hl.1 rfl
 exact ⟨s, n, s', n', b, y, r, rfl, hb, hl.2.1, hl.2.2⟩
mutual
def z3v : Tm → Tm × Int
 | .mk k s n l => if z4o (.mk k s n l) = true then (if z4m (hd (hd l).l) (hd l.tail) = true then (z07 (suT 0 (hd l.tail) (hd (hd l).l) 0) (l.drop 2), 1) else (noT, 2))
  else if (z4x l).2 = 0 then (.mk k s n l, 0) else if (z4x l).2 = 1 then (.mk k [] 0 (z4x l).1, 1) else (noT, 2)
def z4x : List Tm → List Tm × Int
 | [] => ([], 0)
 | t :: l => if (z3v t).2 = 0 then (t :: (z4x l).1, (z4x l).2) else ((z3v t).1 :: l, (z3v t).2)
end
theorem zlo {t : Tm} (ho : okB t = true) (h5 : t.k ≠ 5) (h6 : t.k ≠ 6) : z3v t = (t, 0) := by
 obtain ⟨k, s, n, l⟩ := t
 have : l = [] := okB0 ho h5 h6
 subst this
 rw [z3v, if_neg (by simp only [z4o, Tm.k, Bool.and_eq_true, beq_iff_eq]; exact fun e => h6 e.1)]
 rfl
theorem stepF_hd {k n : Int} {s : List UInt8} {x : Tm} {l : List Tm} (ho : okB (.mk k s n (x :: l)) = true) (hr : z4o (.mk k s n (x :: l)) = false) (hk : k = 6) : z3v x = (x, 0) := by
 obtain ⟨y, z, r, e, h6, hl⟩ := okB6 ho hk
 injection e with e1 e2
 subst e1
 subst hk
 simp only [okL, Bool.and_eq_true] at hl
 refine zlo hl.1 (fun e => ?_) h6
 have : z4o (.mk 6 s n (x :: l)) = true := by simp only [z4o, Tm.k, Tm.l, hd, List.headD_cons, Bool.and_eq_true, beq_iff_eq]; exact ⟨trivial, e⟩
 rw [hr] at this; cases this
abbrev aSt (u : Tm) (n : Int) : TV := .tup [(true, cT u), (false, [.a (.fz (.bool (n != 0)))]), (false, [.a (.fz (.int .i64 (if n = 2 then 80 else 0)))])]
theorem el0 (x : Tm) (l : List Tm) : FV.isSl 4 (.sl false 4 (FTs (x :: l))) = true ∧ ((0 : Int) ≤ 0 ∧ ((0 : Int) < (((FTs (x :: l)).length : Nat) : Int) ∧ (rE (List.getD (FTs (x :: l)) 0 []) : List FV) = List.getD (FTs (x :: l)) 0 [])) := ⟨rfl, Int.le_refl _, by rw [lenI]; simp only [List.length_cons]; omega, za6 x⟩
theorem el1 (x y : Tm) (l : List Tm) : FV.isSl 4 (.sl false 4 (FTs (x :: y :: l))) = true ∧ ((0 : Int) ≤ 1 ∧ ((1 : Int) < (((FTs (x :: y :: l)).length : Nat) : Int) ∧ (rE (List.getD (FTs (x :: y :: l)) 1 []) : List FV) = List.getD (FTs (x :: y :: l)) 1 [])) := ⟨rfl, by omega, by rw [lenI]; simp only [List.length_cons]; omega, za6 y⟩
theorem zqm (a : List Tm) (t : Tm) (b : List Tm) (u : Tm) : List.set (FTs (a ++ t :: b)) (0 + Int.toNat (a.length : Int)) (FT4 u) = FTs (a ++ u :: b) := by
 rw [Nat.zero_add, z82, z5h, FTs_set]
 congr 1
 simp
theorem leTB {k n : Int} {b : Bool} {s : List UInt8} {x : FV} {l : List Tm} (h : FV.Le x (.sl false 4 (FTs l))) : TV.Le (.tup [(true, [.a (.fz (.int .i64 k)), .a (.fz (.str s)), .a (.fz (.int .i64 n)), .a (.fz x)]), (false, [.a (.fz (.bool b))])]) (.tup [(true, cT (.mk k s n l)), (false, [.a (.fz (.bool b))])]) := by
 refine .tup _ _ rfl fun i p q hp hq => ?_
 match i, hp, hq with
 | 0, hp, hq =>
  simp only [List.getElem?_cons_zero, Option.some.injEq] at hp hq
  subst hp; subst hq
  refine ⟨rfl, rfl, fun j x y hx hy => ?_⟩
  match j, hx, hy with
  | 0, hx, hy => simp at hx hy; subst hx; subst hy; exact .refl _
  | 1, hx, hy => simp at hx hy; subst hx; subst hy; exact .refl _
  | 2, hx, hy => simp at hx hy; subst hx; subst hy; exact .refl _
  | 3, hx, hy => simp at hx hy; subst hx; subst hy; exact .a _ _ (.fz _ _ h)
  | j + 4, hx, _ => simp at hx
 | 1, hp, hq =>
  simp only [List.getElem?_cons_zero, List.getElem?_cons_succ, Option.some.injEq] at hp hq
  subst hp; subst hq
  exact ⟨rfl, rfl, fun j x y hx hy => by rw [hx] at hy; injection hy with hy; subst hy; exact .refl _⟩
 | i + 2, hp, _ => simp at hp
theorem not_t {b : Bool} (h : (!b) = true) : b = false := by cases b <;> simp_all
theorem zmk {b : Bool} (h : (!b) = false) : b = true := by cases b <;> simp_all
end Go.AM

set_option maxRecDepth 100000
open Go Go.Proofs
namespace Go.AM
theorem z4w {f : Tm} {args : List Tm} (hf : okB f = true) (ha : okL args = true) : okB (z07 f args) = true := by
 match args, ha with
 | [], _ => exact hf
 | a :: r, ha =>
  obtain ⟨k, s, n, l⟩ := f
  rw [zd2]
  split
  · rename_i h
    have hk : k = 6 := by simpa using h.1
    obtain ⟨x, y, r', rfl, h6, hl⟩ := okB6 hf hk
    have hall : okL ((x :: y :: r') ++ a :: r) = true := zqv fun t ht => by
     rcases List.mem_append.1 ht with ht | ht
     · exact z4i hl ht
     · exact z4i ha ht
    have h6' : (x.k != 6) = true := by simpa using h6
    rw [okB, hall]
    simp [hd, h6]
  · rename_i h
    have h6 : k ≠ 6 := fun e => h ⟨by simpa using e, ok_ne hf e⟩
    have hall : okL (.mk k s n l :: a :: r) = true := by simp only [okL, Bool.and_eq_true] at ha ⊢; exact ⟨hf, ha⟩
    rw [okB, hall]
    simp [hd, Tm.k, h6]
theorem withF_ok {k n : Int} {s : List UInt8} {l o : List Tm} (h : okB (.mk k s n l) = true) (hk : k = 5 ∨ k = 6) (ho : okL o = true) (hlen : o.length = l.length) : okB (z3a (.mk k s n l) o) = true := by
 obtain ⟨rfl, rfl⟩ := okB_sn h hk
 unfold z3a
 split
 · rename_i hc
   match o, ho, hc with
   | [], _, hc => simp at hc
   | x :: r, ho, hc =>
    simp only [okL, Bool.and_eq_true] at ho
    exact z4w ho.1 ho.2
 · rename_i hc
   show okB (.mk k [] 0 o) = true
   rcases hk with rfl | rfl
   · obtain ⟨x, rfl, _⟩ := okB5 h rfl
     rw [okB, ho]; simp only [List.length_cons, List.length_nil] at hlen; simp [hlen]
   · obtain ⟨x, y, r, rfl, h6, _⟩ := okB6 h rfl
     have h1 : ¬ (hd o).k = 6 := fun e => hc ⟨rfl, by rw [hlen]; simp, by simpa [hd] using e, show (x.k != 6) = true by simpa using h6⟩
     rw [okB, ho]; simp only [List.length_cons] at hlen; simp [hlen, h1]
mutual
theorem zf4 (lf : Tm → Int → Tm) (h : ∀ u d, okB u = true → u.k ≠ 5 → u.k ≠ 6 → okB (lf u d) = true) : ∀ (t : Tm) (d : Int), okB t = true → okB (z0j lf t d) = true
 | .mk k s n l, d, ho => by
  rw [z0j]
  split
  · rename_i hk
    exact withF_ok ho (by simpa using hk) (zjm lf h l _ (zhp ho)) (z9n ..)
  · rename_i hk
    exact h _ _ ho (fun e => hk (by simp [show k = 5 from e])) (fun e => hk (by simp [show k = 6 from e]))
theorem zjm (lf : Tm → Int → Tm) (h : ∀ u d, okB u = true → u.k ≠ 5 → u.k ≠ 6 → okB (lf u d) = true) : ∀ (l : List Tm) (d : Int), okL l = true → okL (z0f lf l d) = true
 | [], _, _ => rfl
 | t :: l, d, ho => by
  simp only [okL, Bool.and_eq_true] at ho
  simp only [z0f, okL, zf4 lf h t d ho.1, zjm lf h l d ho.2, Bool.and_self]
end
theorem zk2 {k n m : Int} {s : List UInt8} {l : List Tm} (h : okB (.mk k s n l) = true) (h5 : k ≠ 5) (h6 : k ≠ 6) : okB (.mk k s m l) = true := by
 have : l = [] := okB0 h h5 h6
 subst this
 simp [okB, h5, h6, okL]
theorem zpm {fr by_ : Int} {t : Tm} (d : Int) (h : okB t = true) : okB (shT fr by_ t d) = true := by
 refine zf4 _ (fun u d hu h5 h6 => ?_) t d h
 unfold z3s
 split
 · obtain ⟨k, s, n, l⟩ := u; exact zk2 hu h5 h6
 · exact hu
theorem suT_ok {i : Int} {s t : Tm} (d : Int) (hs : okB s = true) (h : okB t = true) : okB (suT i s t d) = true := by
 refine zf4 _ (fun u d hu h5 h6 => ?_) t d h
 unfold z2o
 split
 · split
   · exact hu
   · split
     · exact zpm _ hs
     · obtain ⟨k, s, n, l⟩ := u; exact zk2 hu h5 h6
 · exact hu
mutual
theorem zpk (i : Int) (s : Tm) : ∀ (t : Tm) (d : Int), (suT i s t d).sz ≤ t.sz + occF t (d + i) * s.sz
 | .mk k s' n l, d => by
  rw [suT, z0j]
  split
  · rename_i hk
    have h1 := zka i s l (d + if (k == 5) = true then 1 else 0)
    have h2 := zjk (.mk k s' n l) (z0f (z2o i s) l (d + if (k == 5) = true then 1 else 0))
    have h3 : occF (.mk k s' n l) (d + i) = occL l (d + (if (k == 5) = true then 1 else 0) + i) := by
     rw [occF, if_neg (by rintro ⟨e, _⟩; have : k = 3 := by simpa using e
                          subst this; simp at hk)]
     congr 1; omega
    rw [h3]
    simp only [Tm.sz]; omega
  · unfold z2o
    rw [occF]
    split
    · rename_i h3
      split
      · omega
      · split
        · rename_i h4
          have h5 := zd6 0 d s 0
          rw [if_pos ⟨h3, h4⟩]; omega
        · simp only [Tm.sz, Tm.l]; omega
    · omega
theorem zka (i : Int) (s : Tm) : ∀ (l : List Tm) (d : Int), Tm.szs (z0f (z2o i s) l d) ≤ Tm.szs l + occL l (d + i) * s.sz
 | [], _ => by simp [z0f, Tm.szs]
 | t :: l, d => by
  have h1 := zpk i s t d
  have h2 := zka i s l d
  have h1 : (z0j (z2o i s) t d).sz ≤ t.sz + occF t (d + i) * s.sz := h1
  simp only [z0f, Tm.szs, occL, Nat.add_mul]; omega
end
theorem zh1 {k n : Int} {s : List UInt8} {l : List Tm} (h : z4o (.mk k s n l) = false) : z3v (.mk k s n l) = (if (z4x l).2 = 0 then (.mk k s n l, 0) else if (z4x l).2 = 1 then (.mk k [] 0 (z4x l).1, 1) else (noT, 2)) := by rw [z3v, if_neg (by rw [h]; simp)]
mutual
theorem zbg (M : Int) (hM : 0 ≤ M) : ∀ t : Tm, okB t = true → t.sz ≤ SZ → bd M t → (z3v t).2 = 1 → okB (z3v t).1 = true ∧ (z3v t).1.sz ≤ t.sz + 42000 ∧ bd (M + SZ) (z3v t).1
 | .mk k s n l, ho, hs, hb, h1 => by
  by_cases q : z4o (.mk k s n l) = true
  · obtain ⟨s', n', s1, n1, body, arg, rest, e, ob, oa, orr⟩ := zbi ho q
    injection e with e1 e2 e3 e4
    subst e1; subst e2; subst e3; subst e4
    have hF : z3v (.mk 6 s n (.mk 5 s1 n1 [body] :: arg :: rest)) = if z4m body arg = true then (z07 (suT 0 arg body 0) rest, 1) else (noT, 2) := by rw [z3v, if_pos q]; rfl
    rw [hF] at h1 ⊢
    by_cases hr : z4m body arg = true
    · simp only [Tm.sz, Tm.szs] at hs
      have h2 := (ziq ob oa hr (by omega)).2
      have h3 := zpk 0 arg body 0
      have h4 := z2g (suT 0 arg body 0) rest
      rw [Int.zero_add] at h3
      rw [if_pos hr]
      refine ⟨z4w (suT_ok 0 oa ob) orr, by simp only [Tm.sz, Tm.szs]; omega, z2j ?_ ?_⟩
      · exact suT_bd (M := M + SZ) (M' := M) (D := SZ) arg body 0 (z6m (by omega) _ hb.2.1.2.1) hb.2.2.1 (Int.le_refl _) (Int.le_refl _) (by omega) (Int.le_refl _) (by omega)
      · exact z71 fun u hu => z6m (by omega) _ (z2v hb.2.2.2 hu)
    · rw [if_neg hr] at h1; cases h1
  · have q : z4o (.mk k s n l) = false := by simpa using q
    have hl := zhp ho
    rw [zh1 q] at h1 ⊢
    split at h1
    · cases h1
    split at h1
    · rename_i h0 h2
      rw [if_neg h0, if_pos h2]
      simp only [Tm.sz] at hs
      obtain ⟨g1, g2, g3, g4, g5⟩ := zfe M hM l hl (by omega) hb.2 h2
      have hk : k = 5 ∨ k = 6 := by
       by_cases k5 : k = 5
       · exact .inl k5
       · by_cases k6 : k = 6
         · exact .inr k6
         · have : l = [] := okB0 ho k5 k6
           subst this
           exact absurd rfl h0
      refine ⟨?_, by simp only [Tm.sz]; omega, ⟨fun e => by omega, g4⟩⟩
      rcases hk with rfl | rfl
      · obtain ⟨x, rfl, _⟩ := okB5 ho rfl
        rw [okB, g1]; simp only [List.length_cons, List.length_nil] at g2; simp [g2]
      · obtain ⟨x, y, r, rfl, h6, _⟩ := okB6 ho rfl
        have hx := stepF_hd ho q rfl
        rw [okB, g1]; simp only [List.length_cons] at g2
        have : (hd (z4x (x :: y :: r)).1).k ≠ 6 := by rw [z4x, if_pos (by rw [hx])]; exact h6
        simp [g2, this]
    · cases h1
theorem zfe (M : Int) (hM : 0 ≤ M) : ∀ l : List Tm, okL l = true → Tm.szs l ≤ SZ → bds M l → (z4x l).2 = 1 → okL (z4x l).1 = true ∧ (z4x l).1.length = l.length ∧ Tm.szs (z4x l).1 ≤ Tm.szs l + 42000 ∧ bds (M + SZ) (z4x l).1 ∧ True
 | [], _, _, _, h => by cases h
 | t :: l, ho, hs, hb, h => by
  simp only [okL, Bool.and_eq_true] at ho
  simp only [Tm.szs] at hs
  rw [z4x] at h ⊢
  split at h
  · rename_i h0
    rw [if_pos h0]
    obtain ⟨g1, g2, g3, g4, _⟩ := zfe M hM l ho.2 (by omega) hb.2 h
    exact ⟨by simp only [okL, ho.1, g1, Bool.and_self], by simp [g2], by simp only [Tm.szs]; omega, ⟨z6m (by omega) _ hb.1, g4⟩, trivial⟩
  · rename_i h0
    rw [if_neg h0]
    obtain ⟨g1, g2, g3⟩ := zbg M hM t ho.1 (by omega) hb.1 h
    exact ⟨by simp only [okL, ho.2, g1, Bool.and_self], rfl, by simp only [Tm.szs]; omega, ⟨g3, z71 fun u hu => z6m (by omega) _ (z2v hb.2 hu)⟩, trivial⟩
end
def Fit (F : Nat) (t : Tm) : Prop := okB t = true ∧ t.sz + 42000 * F ≤ SZ ∧ bd (M61 - SZ - SZ * F) t ∧ F ≤ 5000
theorem Fit.next {F : Nat} {t : Tm} (h : Fit (F + 1) t) (h1 : (z3v t).2 = 1) : Fit F (z3v t).1 := by
 obtain ⟨g1, g2, g3, g4⟩ := h
 have := zbg (M61 - SZ - SZ * ((F + 1 : Nat) : Int)) (by simp only [M61, SZ]; omega) t g1 (by omega) g3 h1
 refine ⟨this.1, by have := this.2.1; omega, z6m ?_ _ this.2.2, by omega⟩
 simp only [SZ]; omega
theorem Fit.mono {F G : Nat} {t : Tm} (h : Fit F t) (hg : G ≤ F) : Fit G t := ⟨h.1, by have := h.2.1; have := Nat.mul_le_mul_left 42000 hg; omega, z6m (by simp only [SZ]; omega) _ h.2.2.1, by have := h.2.2.2; omega⟩
theorem Fit.kid {F : Nat} {t u : Tm} (h : Fit F t) (hu : u ∈ t.l) : Fit F u := by
 have h1 := Tm.szs_mem hu
 have h2 := t.sz_eq
 refine ⟨z4i (zhp h.1) hu, by have := h.2.1; omega, ?_, h.2.2.2⟩
 obtain ⟨k, s, n, l⟩ := t
 exact z2v h.2.2.1.2 hu
theorem Fit.sz {F : Nat} {t : Tm} (h : Fit F t) : t.sz ≤ SZ := by have := h.2.1; omega
theorem Fit.bd {F : Nat} {t : Tm} (h : Fit F t) : bd M61 t := z6m (by simp only [SZ]; omega) _ h.2.2.1
theorem Fit.ok {F : Nat} {t : Tm} (h : Fit F t) : okB t = true := h.1
theorem zkm (s s1 : List UInt8) (n n1 : Int) (body arg : Tm) (rest : List Tm) : z4o (.mk 6 s n (.mk 5 s1 n1 [body] :: arg :: rest)) = true := rfl
end Go.AM

set_option maxRecDepth 100000
open Go Go.Proofs

set_option maxRecDepth 100000
open Go Go.Proofs
namespace Go.AM
mutual
theorem zps : ∀ (t : Tm) (m : Int), 0 ≤ z8w t m → (t.sz : Int) ≤ m - z8w t m
 | .mk _ s _ l, m, h => by
  simp only [z8w] at h ⊢
  have := zkh l (m - 1) h
  simp only [Tm.sz]; omega
theorem zkh : ∀ (l : List Tm) (m : Int), 0 ≤ z8p l m → (Tm.szs l : Int) ≤ m - z8p l m
 | [], m, h => by simp [z8p, Tm.szs]
 | t :: l, m, h => by
  simp only [z8p] at h ⊢
  split at h
  · rename_i h0
    rw [if_pos h0]
    have h1 := zkh l _ h
    have h3 := (zdl l (z8w t m)).1
    have h2 := zps t m (by omega)
    simp only [Tm.szs]; omega
  · rename_i h0; exact absurd h h0
end
theorem large_sz {t : Tm} {m : Int} (h : z9w t m = false) : (t.sz : Int) ≤ m := by
 have h := of_decide_eq_false h
 have := zps t m (by omega)
 omega
theorem args1 {a : List FV} {x : Tm} (ha : LeR a (FT x)) : TV.Le (.c (.a (.fz (.sl false 4 [a])))) (aL [x]) := le_c (zr2 rfl fun i r t hr ht => by
 match i, hr, ht with
 | 0, hr, ht => simp only [List.getElem?_cons_zero, Option.some.injEq] at hr ht; subst hr; subst ht; exact ha
 | i + 1, hr, _ => simp at hr)
end Go.AM

set_option maxRecDepth 100000
open Go Go.Proofs
namespace Go.AM
mutual
def lvB : Tm → Bool
 | .mk k s n l => if (k == 5 || k == 6) = true then lvL l else z02 (.mk k s n l)
def lvL : List Tm → Bool
 | [] => true
 | t :: l => lvB t && lvL l
end
theorem z7e : ∀ {l : List Tm} {t : Tm}, lvL l = true → t ∈ l → lvB t = true
 | x :: l, t, h, hm => by
  simp only [lvL, Bool.and_eq_true] at h
  rcases List.mem_cons.1 hm with rfl | hm
  · exact h.1
  · exact z7e h.2 hm
theorem zjs : ∀ {l : List Tm}, (∀ t ∈ l, lvB t = true) → lvL l = true
 | [], _ => rfl
 | t :: l, h => by simp only [lvL, h t List.mem_cons_self, zjs (l := l) fun u hu => h u (List.mem_cons_of_mem _ hu), Bool.and_self]
theorem z2r {k n : Int} {s : List UInt8} {l : List Tm} (hk : k = 5 ∨ k = 6) : lvB (.mk k s n l) = lvL l := by
 rw [lvB, if_pos (by rcases hk with rfl | rfl <;> rfl)]
theorem z7c {k n : Int} {s : List UInt8} {l : List Tm} (h5 : k ≠ 5) (h6 : k ≠ 6) : lvB (.mk k s n l) = z02 (.mk k s n l) := by
 rw [lvB, if_neg (by simp [h5, h6])]
theorem valid5 {s : List UInt8} {n : Int} {l : List Tm} : z02 (.mk 5 s n l) = (n == 0 && s == [] && decide (l.length = 1) && z33 l) := by
 rw [z02, lenI]
 simp only [show ((5 : Int) == 0) = false from rfl, show ((5 : Int) == 1) = false from rfl, show ((5 : Int) == 2) = false from rfl, show ((5 : Int) == 3) = false from rfl, show ((5 : Int) == 4) = false from rfl, Bool.false_eq_true, if_false, show ((5 : Int) == 5) = true from rfl, if_true]
 congr 2
 by_cases h : l.length = 1
 · rw [h]; rfl
 · rw [decide_eq_false h]; simp; omega
theorem valid6 {s : List UInt8} {n : Int} {l : List Tm} : z02 (.mk 6 s n l) = (n == 0 && decide (2 ≤ l.length) && ((hd l).k != 6) && s == [] && z33 l) := by
 rw [z02, lenI]
 simp only [show ((6 : Int) == 0) = false from rfl, show ((6 : Int) == 1) = false from rfl, show ((6 : Int) == 2) = false from rfl, show ((6 : Int) == 3) = false from rfl, show ((6 : Int) == 4) = false from rfl, show ((6 : Int) == 5) = false from rfl, Bool.false_eq_true, if_false, show ((6 : Int) == 6) = true from rfl, if_true]
 congr 4
 by_cases h : 2 ≤ l.length
 · rw [decide_eq_true h, decide_eq_true (by omega)]
 · rw [decide_eq_false h, decide_eq_false (by omega)]
mutual
theorem z2t : ∀ t : Tm, z02 t = (okB t && lvB t)
 | .mk k s n l => by
  by_cases h5 : k = 5
  · subst h5
    rw [valid5, z2r (.inl rfl), z9d l, okB]
    cases okL l <;> cases lvL l <;> simp [Bool.and_comm, Bool.and_assoc, Bool.and_left_comm]
  · by_cases h6 : k = 6
    · subst h6
      rw [valid6, z2r (.inr rfl), z9d l, okB]
      cases okL l <;> cases lvL l <;> simp [Bool.and_comm, Bool.and_assoc, Bool.and_left_comm]
    · rw [z7c h5 h6]
      cases hv : z02 (.mk k s n l) with
      | false => simp
      | true => rw [z09 _ hv]; rfl
theorem z9d : ∀ l : List Tm, z33 l = (okL l && lvL l)
 | [] => rfl
 | t :: l => by
  rw [z33, okL, lvL, z2t t, z9d l]
  cases okB t <;> cases lvB t <;> simp
end
theorem z3u {t : Tm} (h : z02 t = true) : lvB t = true := by rw [z2t] at h; simp at h; exact h.2
theorem z4u {f : Tm} {args : List Tm} (hf : lvB f = true) (ha : lvL args = true) : lvB (z07 f args) = true := by
 match args, ha with
 | [], _ => exact hf
 | a :: r, ha =>
  obtain ⟨k, s, n, l⟩ := f
  rw [zd2]
  split
  · rename_i h
    have hk : k = 6 := by simpa using h.1
    rw [z2r (.inr hk)] at hf
    rw [z2r (.inr rfl)]
    exact zjs fun t ht => by
     rcases List.mem_append.1 ht with ht | ht
     · exact z7e hf ht
     · exact z7e ha ht
  · rw [z2r (.inr rfl)]
    simp only [lvL, Bool.and_eq_true] at ha ⊢
    exact ⟨hf, ha⟩
theorem withF_lv {t : Tm} {o : List Tm} (hk : t.k = 5 ∨ t.k = 6) (ho : lvL o = true) : lvB (z3a t o) = true := by
 obtain ⟨k, s, n, l⟩ := t
 unfold z3a
 split
 · rename_i hc
   match o, ho, hc with
   | [], _, hc => exact absurd hc.2.1 (by simp)
   | x :: r, ho, hc =>
    simp only [lvL, Bool.and_eq_true] at ho
    exact z4u ho.1 ho.2
 · exact (z2r hk).trans ho
mutual
theorem zal (lf : Tm → Int → Tm) (Q : Tm → Int → Prop) (hq : ∀ k s n l d, Q (.mk k s n l) d → ∀ u ∈ l, Q u (d + if (k == 5) = true then 1 else 0)) (h : ∀ u d, lvB u = true → Q u d → u.k ≠ 5 → u.k ≠ 6 → lvB (lf u d) = true) : ∀ (t : Tm) (d : Int), lvB t = true → Q t d → lvB (z0j lf t d) = true
 | .mk k s n l, d, ho, hQ => by
  rw [z0j]
  split
  · rename_i hk
    have hk : k = 5 ∨ k = 6 := by simpa using hk
    rw [z2r hk] at ho
    exact withF_lv hk (zjq lf Q hq h l _ ho (hq k s n l d hQ))
  · rename_i hk
    exact h _ _ ho hQ (fun e => hk (by simp [show k = 5 from e])) (fun e => hk (by simp [show k = 6 from e]))
theorem zjq (lf : Tm → Int → Tm) (Q : Tm → Int → Prop) (hq : ∀ k s n l d, Q (.mk k s n l) d → ∀ u ∈ l, Q u (d + if (k == 5) = true then 1 else 0)) (h : ∀ u d, lvB u = true → Q u d → u.k ≠ 5 → u.k ≠ 6 → lvB (lf u d) = true) : ∀ (l : List Tm) (d : Int), lvL l = true → (∀ u ∈ l, Q u d) → lvL (z0f lf l d) = true
 | [], _, _, _ => rfl
 | t :: l, d, ho, hQ => by
  simp only [lvL, Bool.and_eq_true] at ho
  simp only [z0f, lvL, zal lf Q hq h t d ho.1 (hQ t List.mem_cons_self), zjq lf Q hq h l d ho.2 (fun u hu => hQ u (List.mem_cons_of_mem _ hu)), Bool.and_self]
end
theorem zdb {s : List UInt8} {n : Int} {l : List Tm} : z02 (.mk 3 s n l) = true ↔ 0 ≤ n ∧ n ≤ 4611686018427387904 ∧ s = [] ∧ l = [] := by
 rw [z02, lenI]
 simp only [show ((3 : Int) == 0) = false from rfl, show ((3 : Int) == 1) = false from rfl, show ((3 : Int) == 2) = false from rfl, Bool.false_eq_true, if_false, show ((3 : Int) == 3) = true from rfl, if_true]
 simp only [Bool.and_eq_true, decide_eq_true_eq, beq_iff_eq]
 constructor
 · rintro ⟨⟨⟨⟨h1, h2⟩, h3⟩, h4⟩, _⟩
   exact ⟨h1, h2, h3, List.eq_nil_of_length_eq_zero (by omega)⟩
 · rintro ⟨h1, h2, rfl, rfl⟩
   exact ⟨⟨⟨⟨h1, h2⟩, rfl⟩, rfl⟩, rfl⟩
theorem shT_lv {by_ M D : Int} (h0 : 0 ≤ by_) (hM : M + by_ ≤ 4611686018427387904) (t : Tm) (d : Int) (fr : Int) (hb : bd M t) (h : lvB t = true) (_ : d ≤ D) : lvB (shT fr by_ t d) = true := by
 refine zal _ (fun u _ => bd M u) (fun k s n l d hQ u hu => z2v hQ.2 hu) (fun u d hu hQ h5 h6 => ?_) t d h hb
 unfold z3s
 split
 · rename_i hc
   obtain ⟨k, s, n, l⟩ := u
   have hk : k = 3 := by have hc := hc.1; have hc : (k == 3) = true := hc; simpa using hc
   subst hk
   rw [z7c (by decide) (by decide), zdb] at hu
   have hb := hQ.1 rfl
   show lvB (.mk 3 s (n + by_) l) = true
   rw [z7c (by decide) (by decide), zdb]
   exact ⟨by omega, by omega, hu.2.2.1, hu.2.2.2⟩
 · exact hu
theorem suT_lv {i M : Int} {s t : Tm} {D : Int} (hi : 0 ≤ i) (hM : M + D ≤ 4611686018427387904) (hbs : bd M s) (hs : lvB s = true) (hl : lvB t = true) (d : Int) (h0 : 0 ≤ d) (hD : d + t.sz ≤ D) : lvB (suT i s t d) = true := by
 refine zal _ (fun u d => 0 ≤ d ∧ d + u.sz ≤ D) (fun k s n l d hQ u hu => ?_) (fun u d hu hQ h5 h6 => ?_) t d hl ⟨h0, hD⟩
 · have := Tm.szs_mem hu
   simp only [Tm.sz] at hQ
   constructor
   · have := hQ.1; split <;> omega
   · have := hQ.2; split <;> omega
 · unfold z2o
   split
   · rename_i hc
     split
     · exact hu
     · rename_i hlt
       split
       · have := hQ.2
         exact shT_lv hQ.1 (D := 0) (by omega) s 0 0 hbs hs (Int.le_refl _)
       · rename_i hne
         obtain ⟨k, s', n, l⟩ := u
         have hk : k = 3 := by have hc : (k == 3) = true := hc; simpa using hc
         subst hk
         rw [z7c (by decide) (by decide), zdb] at hu
         have h1 : ¬ n < d + i := hlt
         have h2 : n ≠ d + i := fun e => hne (by rw [show Tm.n (.mk 3 s' n l) = n from rfl, e]; simp)
         show lvB (.mk 3 s' (n - 1) l) = true
         rw [z7c (by decide) (by decide), zdb]
         have := hQ.1
         exact ⟨by omega, by omega, hu.2.2.1, hu.2.2.2⟩
   · exact hu
mutual
theorem zk5 (M : Int) (hM : M + SZ ≤ 4611686018427387904) : ∀ t : Tm, okB t = true → t.sz ≤ SZ → bd M t → lvB t = true → (z3v t).2 = 1 → lvB (z3v t).1 = true
 | .mk k s n l, ho, hs, hb, hl, h1 => by
  by_cases q : z4o (.mk k s n l) = true
  · obtain ⟨s', n', s1, n1, body, arg, rest, e, ob, oa, orr⟩ := zbi ho q
    injection e with e1 e2 e3 e4
    subst e1; subst e2; subst e3; subst e4
    have hF : z3v (.mk 6 s n (.mk 5 s1 n1 [body] :: arg :: rest)) = if z4m body arg = true then (z07 (suT 0 arg body 0) rest, 1) else (noT, 2) := by rw [z3v, if_pos q]; rfl
    rw [hF] at h1 ⊢
    by_cases hr : z4m body arg = true
    · rw [if_pos hr]
      rw [z2r (.inr rfl)] at hl
      simp only [lvL, Bool.and_eq_true] at hl
      have hb0 : lvB body = true := by have := hl.1; rw [z2r (.inl rfl)] at this; simpa [lvL] using this
      simp only [Tm.sz, Tm.szs] at hs
      exact z4u (suT_lv (M := M) (D := SZ) (Int.le_refl _) hM hb.2.2.1 hl.2.1 hb0 0 (Int.le_refl _) (by omega)) hl.2.2
    · rw [if_neg hr] at h1; cases h1
  · have q : z4o (.mk k s n l) = false := by simpa using q
    rw [zh1 q] at h1 ⊢
    split at h1
    · cases h1
    split at h1
    · rename_i h0 h2
      rw [if_neg h0, if_pos h2]
      simp only [Tm.sz] at hs
      have hk : k = 5 ∨ k = 6 := by
       by_cases k5 : k = 5
       · exact .inl k5
       · by_cases k6 : k = 6
         · exact .inr k6
         · have : l = [] := okB0 ho k5 k6
           subst this
           exact absurd rfl h0
      rw [z2r hk] at hl
      show lvB (.mk k [] 0 (z4x l).1) = true
      rw [z2r hk]
      exact zkg M hM l (zhp ho) (by omega) hb.2 hl h2
    · cases h1
theorem zkg (M : Int) (hM : M + SZ ≤ 4611686018427387904) : ∀ l : List Tm, okL l = true → Tm.szs l ≤ SZ → bds M l → lvL l = true → (z4x l).2 = 1 → lvL (z4x l).1 = true
 | [], _, _, _, _, h => by cases h
 | t :: l, ho, hs, hb, hl, h => by
  simp only [okL, Bool.and_eq_true] at ho
  simp only [Tm.szs] at hs
  simp only [lvL, Bool.and_eq_true] at hl
  rw [z4x] at h ⊢
  split at h
  · rename_i h0
    rw [if_pos h0]
    simp only [lvL, hl.1, zkg M hM l ho.2 (by omega) hb.2 hl.2 h, Bool.and_self]
  · rename_i h0
    rw [if_neg h0]
    simp only [lvL, hl.2, zk5 M hM t ho.1 (by omega) hb.1 hl.1 h, Bool.and_self]
end
end Go.AM

set_option maxRecDepth 100000
open Go Go.Proofs
namespace Go.AM
theorem z24 {k n : Int} {s : List UInt8} {l : List Tm} (h : z02 (.mk k s n l) = true) (hk : k = 5 ∨ k = 6) : ∀ u ∈ l, z02 u = true := fun u hu => by
 rw [z2t, Bool.and_eq_true] at h ⊢
 have h1 := zhp h.1
 have h2 := h.2
 rw [z2r hk] at h2
 exact ⟨z4i h1 hu, z7e h2 hu⟩
def LeW (p q : Bool × List WV) : Prop := p.1 = q.1 ∧ All2 WV.Le p.2 q.2
theorem zen {α β : Type} {R : α → β → Prop} : ∀ {a : List α} {b : List β}, All2 R a b → a.length = b.length ∧ ∀ (i : Nat) (x : α) (y : β), a[i]? = some x → b[i]? = some y → R x y
 | [], [], _ => ⟨rfl, fun i x y hx _ => by simp at hx⟩
 | x :: a, y :: b, h => by
  have := zen h.2
  refine ⟨by simp [this.1], fun i u v hu hv => ?_⟩
  match i, hu, hv with
  | 0, hu, hv => simp at hu hv; subst hu; subst hv; exact h.1
  | i + 1, hu, hv => exact this.2 i u v (by simpa using hu) (by simpa using hv)
 | [], _ :: _, h => h.elim
 | _ :: _, [], h => h.elim
theorem zl8 {a b : List (Bool × List WV)} (h : All2 LeW a b) : TV.Le (.tup a) (.tup b) := by
 have := zen h
 refine .tup _ _ this.1 fun i p q hp hq => ?_
 have h1 := this.2 i p q hp hq
 have h2 := zen h1.2
 exact ⟨h1.1, h2.1, h2.2⟩
theorem leWn : WV.Le (.a (.fz .nils)) (.a (.fz (.sl false 4 (FTs [])))) := .a _ _ (.fz _ _ z0l)
theorem lwT {k n : Int} {s : List UInt8} {x : FV} {l : List Tm} {b : Bool} (h : FV.Le x (.sl false 4 (FTs l))) : LeW (b, [.a (.fz (.int .i64 k)), .a (.fz (.str s)), .a (.fz (.int .i64 n)), .a (.fz x)]) (b, cT (.mk k s n l)) := ⟨rfl, .refl _, .refl _, .refl _, .a _ _ (.fz _ _ h), trivial⟩
theorem lwR (p : Bool × List WV) : LeW p p := by
 obtain ⟨b, l⟩ := p
 refine ⟨rfl, ?_⟩
 show All2 WV.Le l l
 induction l with
 | nil => trivial
 | cons x l ih => exact ⟨.refl _, ih⟩
theorem z4p (l : List Inf) : (SR l).length = l.length := by simp [SR]
theorem SR_get {l : List Inf} {i : Nat} (h : i < l.length) : List.getD (SR l) i [] = Inf.c l[i] := by simp [SR, List.getD, h]
theorem zok (a b : List Inf) : SR (a ++ b) = SR a ++ SR b := by simp [SR]
abbrev noI : Inf := ⟨0, false, noT⟩
abbrev aS (o : Nat) : TV := .c (.a (.ep o 2 0 0))
abbrev sto2 (a b : Nat) (s : Sto) : AObj := .arr 2 [[.a (.osl a 6 0 s.V.length), .a (.osl b 1 0 s.T.length)]]
abbrev oS (s : Sto) : List AObj := [sto2 1 2 s, .arz 6 (SR s.V), .arz 1 (IR s.T)]
abbrev oSf (s : Sto) (f : Int) : List AObj := [sto2 1 2 s, .arz 6 (SR s.V), .arz 1 (IR s.T), obj1 f]
def infOf (V : List Inf) (x : Int) : Inf := if 0 ≤ x ∧ x < (V.length : Int) then (V[x.toNat]?).getD noI else noI
def inB (V : List Inf) (x : Int) : Bool := decide (0 ≤ x) && decide (x < (V.length : Int))
theorem z3e {V : List Inf} {x : Int} (h0 : 0 ≤ x) (h1 : x < (V.length : Int)) : ∃ h : x.toNat < V.length, infOf V x = V[x.toNat] := by
 have h : x.toNat < V.length := by omega
 exact ⟨h, by rw [infOf, if_pos ⟨h0, h1⟩, List.getElem?_eq_getElem h]; rfl⟩
theorem z66 {V : List Inf} {x : Int} (h : ¬ (0 ≤ x ∧ x < (V.length : Int))) : infOf V x = noI := if_neg h
abbrev tI (i : Inf) (b : Bool) : TV := .tup [(true, [.a (.fz (.int .i64 i.lv)), .a (.fz (.bool i.bd)), .a (.fz (.int .i64 i.v.k)), .a (.fz (.str i.v.s)), .a (.fz (.int .i64 i.v.n)), .a (.fz (.sl false 4 (FTs i.v.l)))]), (false, [.a (.fz (.bool b))])]
theorem inf_no {c d : Bool} (h : c = d) {n : Nat} : TV.Le (.tup [(true, [.a (.fz (.int .i64 0)), .a (.fz (.bool false)), .a (.fz (.int .i64 0)), .a (.fz (.str [])), .a (.fz (.int .i64 0)), .a (.fz .nils)]), (false, [.a (.fz (.bool c))])]) (tI noI d) ∧ n = n := by
 subst h
 exact ⟨zl8 ⟨⟨rfl, .refl _, .refl _, .refl _, .refl _, .refl _, leWn, trivial⟩, lwR _, trivial⟩, rfl⟩
theorem c_snew : AC Tryz.prog 34 [] [] (aS 0) (oS ⟨[], []⟩) := by
 refine AC.vc hP sh lv34 (by simp) (by simp) (by simp [isLive]) (Eq.mpr (v34 ..) ?_)
 exact ⟨.refl _, rfl⟩
theorem z9f (s : Sto) (x : Int) : AC Tryz.prog 19 [aS 0, ci x] (oS s) (tI (infOf s.V x) (inB s.V x)) (oS s) := by
 refine AC.vc hP sh lv19 (Nat.le_refl _) (by simp [isLive]) (by simp) (Eq.mpr (v19 ..) ?_)
 refine z01 (fun h => ?_) (fun h => z01 (fun h' => ?_) (fun h' => ?_))
 · have h := of_decide_eq_true h
   rw [z66 (by omega)]
   exact ⟨(inf_no (by simp [inB]; omega) (n := 0)).1, rfl⟩
 · have h' := of_decide_eq_true h'
   rw [z66 (by omega)]
   exact ⟨(inf_no (by simp [inB]; omega) (n := 0)).1, rfl⟩
 · have h := of_decide_eq_false h
   have h' := of_decide_eq_false h'
   obtain ⟨hl, e⟩ := z3e (V := s.V) (x := x) (by omega) (by omega)
   rw [e, show List.getD (SR s.V) (0 + Int.toNat x) [] = Inf.c s.V[x.toNat] by rw [Nat.zero_add, SR_get hl], show inB s.V x = true by simp [inB]; omega]
   refine ⟨⟨by omega, by omega⟩, ⟨by rw [z4p]; omega, rfl, rfl⟩, .refl _, rfl⟩
def valS (s : Sto) (t : Tm) : Tm := (infOf s.V t.n).v
def valB (s : Sto) (t : Tm) : Bool := t.k == 4 && (infOf s.V t.n).bd
theorem zk4 (s : Sto) (t : Tm) : AC Tryz.prog 146 [aS 0, aT t] (oS s) (.tup [(true, cT (valS s t)), (false, [.a (.fz (.bool (valB s t)))])]) (oS s) := by
 have hi := z9f s t.n
 obtain ⟨k, str, n, l⟩ := t
 refine AC.vc hP sh lv146 (Nat.le_refl _) (by simp [isLive]) (by simp) (Eq.mpr (v146 k str n (FTs l) ..) ?_)
 have out : inB s.V n = false → (infOf s.V n).bd = false := fun h => by
  rw [z66 (by simp [inB] at h; omega)]
 refine ⟨(_, _, _, _), hi, z01 (fun h => z01 (fun h' => ?_) (fun h' => ?_)) (fun h => ?_)⟩
 · refine ⟨?_, rfl⟩
   show TV.Le _ (.tup [(true, cT (infOf s.V n).v), (false, [.a (.fz (.bool (k == 4 && (infOf s.V n).bd)))])])
   rw [show (k == 4) = true from h]; exact .refl _
 · refine ⟨?_, rfl⟩
   show TV.Le _ (.tup [(true, cT (infOf s.V n).v), (false, [.a (.fz (.bool (k == 4 && (infOf s.V n).bd)))])])
   rw [out h', Bool.and_false]; exact .refl _
 · refine ⟨?_, rfl⟩
   show TV.Le _ (.tup [(true, cT (infOf s.V n).v), (false, [.a (.fz (.bool (k == 4 && (infOf s.V n).bd)))])])
   rw [show (k == 4) = false from h]; exact .refl _
def OKV (v : Tm) : Prop := z02 v = true ∧ v.sz ≤ 40000 ∧ bd 2199023255552 v
def OKS (s : Sto) : Prop := ∀ i ∈ s.V, i.bd = true → OKV i.v
theorem OKS.val {s : Sto} (h : OKS s) {t : Tm} (hb : valB s t = true) : OKV (valS s t) := by
 simp only [valB, Bool.and_eq_true] at hb
 by_cases q : 0 ≤ t.n ∧ t.n < (s.V.length : Int)
 · obtain ⟨hl, e⟩ := z3e q.1 q.2
   rw [valS, e]
   rw [e] at hb
   exact h _ (List.getElem_mem hl) hb.2
 · rw [z66 q] at hb; simp [noI] at hb
def z0c (s : Sto) (t : Tm) : Tm × Int :=
 if valB s t = true then (valS s t, 1) else if t.k ≠ 6 then (t, 0)
 else if valB s (hd t.l) = true then (z07 (valS s (hd t.l)) (t.l.drop 1), 1) else if (hd t.l).k ≠ 5 then (t, 0)
 else (z07 (conF (hd (hd t.l).l) (hd (t.l.drop 1))) (t.l.drop 2), if z4m (hd (hd t.l).l) (hd (t.l.drop 1)) = true then 1 else 2)
theorem zf5 (s : Sto) (t : Tm) : (z0c s t).2 = 0 ∨ (z0c s t).2 = 1 ∨ (z0c s t).2 = 2 := by
 unfold z0c
 split
 · exact .inr (.inl rfl)
 · split
   · exact .inl rfl
   · split
     · exact .inr (.inl rfl)
     · split
       · exact .inl rfl
       · simp only; split
         · exact .inr (.inl rfl)
         · exact .inr (.inr rfl)
theorem zeh (t : List (List FV)) : List.take (Int.toNat ((t.length : Nat) : Int)) t = t := by rw [Int.toNat_natCast, List.take_of_length_le (Nat.le_refl _)]
theorem aE0 (x : Tm) (l : List Tm) : aE (List.getD (FTs (x :: l)) 0 []) = aT x := zc6 x
theorem aE1 (x y : Tm) (l : List Tm) : aE (List.getD (FTs (x :: y :: l)) 1 []) = aT y := zc6 y
theorem asI0 (x : Tm) (l : List Tm) : FV.asI (List.getD (List.getD (FTs (x :: l)) 0 []) 0 FV.nils) = x.k := by cases x; rfl
theorem zpi (s : Sto) (hs : OKS s) (t : Tm) (hv : z02 t = true) (hz : t.sz ≤ SZ) (hb : bd M61 t) : AC Tryz.prog 129 [aS 0, aT t] (oS s) (aSt (z0c s t).1 (z0c s t).2) (oS s) := by
 have h1 := zk4 s t
 have ok := z09 t hv
 obtain ⟨k, str, n, l⟩ := t
 refine AC.vc hP sh lv129 (Nat.le_refl _) (by simp [isLive]) (by simp) (Eq.mpr (v129 k str n (FTs l) ..) ?_)
 refine ⟨(_, _), h1, z01 (fun h => ?_) (fun h => z01 (fun h6 => ?_) (fun h6 => ?_))⟩
 · have h : valB s (.mk k str n l) = true := h
   rw [z0c, if_pos h]; exact ⟨.refl _, rfl⟩
 · have h : valB s (.mk k str n l) = false := h
   have h6 : k ≠ 6 := by simpa using h6
   rw [z0c, if_neg (by rw [h]; simp), if_pos (show Tm.k (.mk k str n l) ≠ 6 from h6)]; exact ⟨.refl _, rfl⟩
 have h : valB s (.mk k str n l) = false := h
 have h6 : k = 6 := by simpa using h6
 obtain ⟨x, y, r, rfl, hx6, hl⟩ := okB6 ok h6
 simp only [okL, Bool.and_eq_true] at hl
 subst h6
 simp only [Tm.sz, Tm.szs, SZ] at hz
 have szr := Tm.szs_length r
 have bx := hb.2.1
 have by_ := hb.2.2.1
 have h2 := zk4 s x
 have e1 : List.drop 1 (List.take (Int.toNat (((FTs (x :: y :: r)).length : Nat) : Int)) (FTs (x :: y :: r))) = FTs (y :: r) := by rw [zeh]; rfl
 have e2 : List.drop 2 (List.take (Int.toNat (((FTs (x :: y :: r)).length : Nat) : Int)) (FTs (x :: y :: r))) = FTs r := by rw [zeh]; rfl
 rw [e1, e2, aE0, aE1, asI0]
 have len : ∀ n : Nat, n ≤ 2 → ((n : Nat) : Int) ≤ (((FTs (x :: y :: r)).length : Nat) : Int) := fun n hn => by rw [z00]; simp only [List.length_cons]; omega
 have hS : z0c s (.mk 6 str n (x :: y :: r)) = if valB s x = true then (z07 (valS s x) (y :: r), 1) else if x.k ≠ 5 then (.mk 6 str n (x :: y :: r), 0) else (z07 (conF (hd x.l) y) r, if z4m (hd x.l) y = true then 1 else 2) := by
  rw [z0c, if_neg (by rw [h]; simp), if_neg (show ¬ Tm.k (.mk 6 str n (x :: y :: r)) ≠ 6 from fun e => e rfl)]; rfl
 refine ⟨el0 x (y :: r), (_, _), h2, z01 (fun h3 => ⟨rfl, ⟨by omega, len 1 (by omega), Int.le_refl _⟩, _, z3p (valS s x) (y :: r) ?_, ?_⟩) (fun h3 => ⟨el0 x (y :: r), z01 (fun h5 => ?_) (fun h5 => ?_)⟩)⟩
 · have h3 : valB s x = true := h3
   have hv := (hs.val h3).2.1
   have := Tm.szs_length (valS s x).l
   have := (valS s x).sz_eq
   simp only [List.length_cons]; omega
 · have h3 : valB s x = true := h3
   rw [hS, if_pos h3]; exact ⟨.refl _, rfl⟩
 · have h3 : valB s x = false := h3
   have h5 : x.k ≠ 5 := by simpa using h5
   rw [hS, if_neg (by rw [h3]; simp), if_pos h5]; exact ⟨.refl _, rfl⟩
 · have h3 : valB s x = false := h3
   have h5 : x.k = 5 := by simpa using h5
   rw [hS, if_neg (by rw [h3]; simp), if_neg (by rw [h5]; simp)]
   have hvl := z24 hv (.inr rfl)
   have vx := hvl x List.mem_cons_self
   have vy := hvl y (List.mem_cons_of_mem _ List.mem_cons_self)
   obtain ⟨xk, xs, xn, xl⟩ := x
   have h5 : xk = 5 := h5
   subst h5
   obtain ⟨b, rfl, ob⟩ := okB5 hl.1 rfl
   have vb := z24 vx (.inl rfl) b List.mem_cons_self
   simp only [Tm.sz, Tm.szs] at hz
   have hc := zir b y (by simp only [SZ]; omega) (by simp only [SZ]; omega) bx.2.1 by_
   rw [if_pos (by rw [vb, vy]; rfl)] at hc
   rw [show aE (List.getD (FV.ses (List.getD (List.getD (FTs (.mk 5 xs xn [b] :: y :: r)) 0 []) 3 FV.nils)) 0 []) = aT b from zc6 b]
   refine ⟨el0 _ _, el0 b [], el1 _ _ _, (_, _), hc, rfl, ⟨by omega, len 2 (by omega), Int.le_refl _⟩, _, z3p (conF b y) r ?_, ?_⟩
   · unfold conF
     split
     · rename_i hr
       have h5 := (ziq ob hl.2.1 hr (by simp only [SZ]; omega)).1
       have hz := suT_sz 0 y b 0
       have h6 := Tm.szs_length (suT 0 y b 0).l
       have h7 := (suT 0 y b 0).sz_eq
       simp only [B] at h5
       omega
     · simp only [Tm.l, List.length_nil]; omega
   · refine ⟨?_, rfl⟩
     show TV.Le (.tup [(true, cT (z07 (conF b y) r)), (false, [.a (.fz (.bool true))]), (false, [.a (.fz (.int .i64 (conE b y)))])]) (aSt (z07 (conF b y) r) (if z4m b y = true then 1 else 2))
     unfold conE
     by_cases q : z4m b y = true
     · rw [if_pos q, if_pos q]; exact .refl _
     · rw [if_neg q, if_neg q]; exact .refl _
end Go.AM

set_option maxRecDepth 100000
open Go Go.Proofs
namespace Go.AM
theorem z83 {F : Nat} {s : Sto} {t : Tm} (hs : OKS s) (hv : z02 t = true) (hf : Fit (F + 1) t) (h : (z0c s t).2 = 1) : z02 (z0c s t).1 = true ∧ Fit F (z0c s t).1 := by
 have hM : (2199023255552 : Int) ≤ M61 - SZ - SZ * F := by have := hf.2.2.2; simp only [M61, SZ]; omega
 have hval : ∀ u, valB s u = true → z02 (valS s u) = true ∧ okB (valS s u) = true ∧ lvB (valS s u) = true ∧ (valS s u).sz ≤ 40000 ∧ bd (M61 - SZ - SZ * F) (valS s u) := fun u hu => by
  have := hs.val hu
  exact ⟨this.1, z09 _ this.1, z3u this.1, this.2.1, z6m hM _ this.2.2⟩
 have hF := hf.2.1
 have hF4 := hf.2.2.2
 unfold z0c at h ⊢
 split
 · rename_i q
   obtain ⟨v1, v2, v3, v4, v5⟩ := hval _ q
   exact ⟨v1, v2, by simp only; omega, v5, by omega⟩
 rename_i q
 rw [if_neg q] at h
 split
 · rename_i q2; rw [if_pos q2] at h; simp at h
 rename_i q2
 rw [if_neg q2] at h
 have ok := z09 t hv
 obtain ⟨k, str, n, l⟩ := t
 have h6 : k = 6 := by
  by_cases e : k = 6
  · exact e
  · exact absurd e q2
 obtain ⟨x, y, r, rfl, hx6, hl⟩ := okB6 ok h6
 subst h6
 simp only [okL, Bool.and_eq_true] at hl
 have kv := z24 hv (.inr rfl)
 have hb := z6m (M' := M61 - SZ - SZ * F) (by simp only [SZ]; omega) _ hf.2.2.1
 simp only [Tm.sz, Tm.szs] at hF
 have lvr : lvL r = true := zjs fun u hu => z3u (kv u (List.mem_cons_of_mem _ (List.mem_cons_of_mem _ hu)))
 have ey : Tm.l (.mk 6 str n (x :: y :: r)) = x :: y :: r := rfl
 have eh : hd (x :: y :: r) = x := rfl
 have e1 : List.drop 1 (x :: y :: r) = y :: r := rfl
 have e2 : List.drop 2 (x :: y :: r) = r := rfl
 have ehy : hd (y :: r) = y := rfl
 simp only [ey, eh, e1, e2, ehy] at h ⊢
 split
 · rename_i q3
   obtain ⟨v1, v2, v3, v4, v5⟩ := hval _ q3
   have ok2 : okB (z07 (valS s x) (y :: r)) = true := z4w v2 (by simp only [okL, hl.2.1, hl.2.2, Bool.and_self])
   have lv2 : lvB (z07 (valS s x) (y :: r)) = true := z4u v3 (by simp only [lvL, lvr, z3u (kv y (List.mem_cons_of_mem _ List.mem_cons_self)), Bool.and_self])
   have z := z2g (valS s x) (y :: r)
   simp only [Tm.szs] at z
   refine ⟨by rw [z2t, ok2, lv2]; rfl, ok2, by simp only; omega, z2j v5 (show bds _ (y :: r) from ⟨hb.2.2.1, hb.2.2.2⟩), by omega⟩
 rename_i q3
 rw [if_neg q3] at h
 split
 · rename_i q4; rw [if_pos q4] at h; simp at h
 rename_i q4
 rw [if_neg q4] at h
 obtain ⟨xk, xs, xn, xl⟩ := x
 have h5 : xk = 5 := by
  by_cases e : xk = 5
  · exact e
  · exact absurd e q4
 subst h5
 obtain ⟨b, rfl, ob⟩ := okB5 hl.1 rfl
 have room : z4m b y = true := by
  by_cases e : z4m b y = true
  · exact e
  · exfalso
    have h : (if z4m b y = true then (1 : Int) else 2) = 1 := h
    rw [if_neg e] at h; cases h
 have hst : z3v (.mk 6 str n (.mk 5 xs xn [b] :: y :: r)) = (z07 (suT 0 y b 0) r, 1) := by
  rw [z3v, if_pos (zkm str xs n xn b y r)]; exact if_pos room
 have e3 : conF (hd (Tm.l (.mk 5 xs xn [b]))) y = suT 0 y b 0 := by show conF b y = _; rw [conF, if_pos room]
 rw [e3]
 have hn := hf.next (by rw [hst])
 have hlv := zk5 (M61 - SZ - SZ * ((F + 1 : Nat) : Int)) (by simp only [M61, SZ]; omega) _ ok hf.sz hf.2.2.1 (z3u hv) (by rw [hst])
 rw [hst] at hn hlv
 exact ⟨by rw [z2t, hn.1, hlv]; rfl, hn⟩
def runH (s : Sto) : Nat → Tm → Tm × Int × Nat
 | 0, t => if (z0c s t).2 = 0 then (t, 0, 0) else (noT, 80, 0)
 | F + 1, t => if (z0c s t).2 = 0 then (t, 0, 0) else if (z0c s t).2 = 2 then (noT, 80, 0) else ((runH s F (z0c s t).1).1, (runH s F (z0c s t).1).2.1, (runH s F (z0c s t).1).2.2 + 1)
theorem z87 {s : Sto} (hs : OKS s) : ∀ {F : Nat} {t : Tm}, z02 t = true → Fit F t → (runH s F t).2.2 ≤ F ∧ ((runH s F t).2.1 = 0 ∧ z02 (runH s F t).1 = true ∧ Fit (F - (runH s F t).2.2) (runH s F t).1 ∧ (z0c s (runH s F t).1).2 = 0 ∨ (runH s F t).2.1 = 80 ∧ (runH s F t).1 = noT)
 | 0, t, hv, hf => by
  rw [runH]
  split
  · rename_i h; exact ⟨Nat.le_refl _, .inl ⟨rfl, hv, hf, h⟩⟩
  · exact ⟨Nat.le_refl _, .inr ⟨rfl, rfl⟩⟩
 | F + 1, t, hv, hf => by
  rw [runH]
  split
  · rename_i h; exact ⟨Nat.zero_le _, .inl ⟨rfl, hv, hf, h⟩⟩
  · rename_i h0
    split
    · exact ⟨Nat.zero_le _, .inr ⟨rfl, rfl⟩⟩
    · rename_i h2
      have h1 : (z0c s t).2 = 1 := by rcases zf5 s t with q | q | q; · exact absurd q h0
                                      · exact q
                                      · exact absurd q h2
      obtain ⟨v, f⟩ := z83 hs hv hf h1
      have := z87 hs v f
      refine ⟨by simp only; omega, ?_⟩
      rcases this.2 with ⟨a, b, c, d⟩ | ⟨a, b⟩
      · exact .inl ⟨a, b, by simp only; rw [show F + 1 - ((runH s F (z0c s t).1).2.2 + 1) = F - (runH s F (z0c s t).1).2.2 by omega]; exact c, d⟩
      · exact .inr ⟨a, b⟩
theorem l_shead (s : Sto) (hs : OKS s) : ∀ (F : Nat) (f : Int) (t : Tm), f.toNat = F → 0 - 9223372036854775808 ≤ f → z02 t = true → Fit F t →
  RPt Tryz.prog 101 4 (aTE (runH s F t).1 (runH s F t).2.1) (oSf s (f - ((runH s F t).2.2 : Int))) 1
   ⟨[(0, aS 0), (2, .c (.a (.ep 3 1 0 0))), (4, .c (.a (.ep 4 4 0 0))), (6, .c (.a (.ep 5 4 0 0)))], [(0, sto2 1 2 s), (1, .arz 6 (SR s.V)), (2, .arz 1 (IR s.T)), (3, obj1 f), (4, .arr 4 [cT t]), (5, .arr 4 [zT])], 6⟩ := by
 intro F
 induction F with
 | zero =>
  intro f t hf hf0 hv hfit
  have hc := zpi s hs t hv hfit.sz hfit.bd
  have hr : runH s 0 t = if (z0c s t).2 = 0 then (t, 0, 0) else (noT, 80, 0) := rfl
  rw [hr]
  obtain ⟨k, str, n, l⟩ := t
  refine RPt.vc hP sh zpq (Eq.mpr (zqn s.V.length s.T.length (SR s.V) (IR s.T) f k str n (FTs l) 0 [] 0 _ _) ?_)
  refine ⟨(_, _, _), hc, z01 (fun h => ?_) (fun h => z01 (fun h2 => ?_) (fun h2 => z01 (fun h3 => ?_) (fun h3 => absurd (of_decide_eq_false h3) (by omega))))⟩
  · have h : (z0c s (.mk k str n l)).2 = 0 := by have h : (!((z0c s (.mk k str n l)).2 != 0)) = true := h; simpa using h
    rw [if_pos h]
    exact ⟨.refl _, by simp⟩
  · have h : ¬ (z0c s (.mk k str n l)).2 = 0 := by have h : (!((z0c s (.mk k str n l)).2 != 0)) = false := h; simpa using h
    rw [if_neg h]
    exact ⟨leTE (l := []) z0l, by simp⟩
  · have h : ¬ (z0c s (.mk k str n l)).2 = 0 := by have h : (!((z0c s (.mk k str n l)).2 != 0)) = false := h; simpa using h
    rw [if_neg h]
    exact ⟨leTE (l := []) z0l, by simp⟩
 | succ F ih =>
  intro f t hf hf0 hv hfit
  have hc := zpi s hs t hv hfit.sz hfit.bd
  have hr : runH s (F + 1) t = if (z0c s t).2 = 0 then (t, 0, 0) else if (z0c s t).2 = 2 then (noT, 80, 0) else ((runH s F (z0c s t).1).1, (runH s F (z0c s t).1).2.1, (runH s F (z0c s t).1).2.2 + 1) := rfl
  rw [hr]
  have hF4 := hfit.2.2.2
  have next : ¬ (z0c s t).2 = 0 → ¬ (z0c s t).2 = 2 → _ := fun h0 h2 => by
   have h1 : (z0c s t).2 = 1 := by rcases zf5 s t with q | q | q; · exact absurd q h0
                                   · exact q
                                   · exact absurd q h2
   obtain ⟨v, ff⟩ := z83 hs hv hfit h1
   exact ih (f - 1) (z0c s t).1 (by omega) (by omega) v ff
  obtain ⟨k, str, n, l⟩ := t
  refine RPt.vc hP sh zpq (Eq.mpr (zqn s.V.length s.T.length (SR s.V) (IR s.T) f k str n (FTs l) 0 [] 0 _ _) ?_)
  rw [w64 (x := f - 1) (by omega) (by omega)]
  refine ⟨(_, _, _), hc, z01 (fun h => ?_) (fun h => z01 (fun h2 => ?_) (fun h2 => z01 (fun h3 => absurd (of_decide_eq_true h3) (by omega)) (fun h3 => ?_)))⟩
  · have h : (z0c s (.mk k str n l)).2 = 0 := by have h : (!((z0c s (.mk k str n l)).2 != 0)) = true := h; simpa using h
    rw [if_pos h]
    exact ⟨.refl _, by simp⟩
  · have h : ¬ (z0c s (.mk k str n l)).2 = 0 := by have h : (!((z0c s (.mk k str n l)).2 != 0)) = false := h; simpa using h
    have h2 : (z0c s (.mk k str n l)).2 = 2 := by
     by_cases q : (z0c s (.mk k str n l)).2 = 2
     · exact q
     · have h2 : ((if (z0c s (.mk k str n l)).2 = 2 then (80 : Int) else 0) != 0) = true := h2
       rw [if_neg q] at h2; cases h2
    rw [if_neg h, if_pos h2]
    exact ⟨leTE (l := []) z0l, by simp⟩
  · have h : ¬ (z0c s (.mk k str n l)).2 = 0 := by have h : (!((z0c s (.mk k str n l)).2 != 0)) = false := h; simpa using h
    have h2 : ¬ (z0c s (.mk k str n l)).2 = 2 := fun q => by
     have h2 : ((if (z0c s (.mk k str n l)).2 = 2 then (80 : Int) else 0) != 0) = false := h2
     rw [if_pos q] at h2; cases h2
    rw [if_neg h, if_neg h2]
    have := next h h2
    rw [show f - 1 - (((runH s F (z0c s (.mk k str n l)).1).2.2 : Nat) : Int) = f - (((runH s F (z0c s (.mk k str n l)).1).2.2 + 1 : Nat) : Int) by omega] at this
    exact this
theorem zqe (s : Sto) (hs : OKS s) (F : Nat) (f : Int) (t : Tm) (hF : f.toNat = F) (h0 : 0 - 9223372036854775808 ≤ f) (hv : z02 t = true) (hf : Fit F t) :
  AC Tryz.prog 101 [aS 0, aT t, .c (.a (.ep 3 1 0 0))] (oSf s f) (aTE (runH s F t).1 (runH s F t).2.1) (oSf s (f - ((runH s F t).2.2 : Int))) := by
 have h := l_shead s hs F f t hF h0 hv hf
 obtain ⟨k, str, n, l⟩ := t
 exact AC.vc hP sh zpq (Nat.le_refl _) (by simp [isLive]) (by simp) (Eq.mpr (v101 k str n (FTs l) ..) h)
def z0w (s : Sto) (f : Int) (t : Tm) : Tm × Int × Int :=
 if z02 t = true then (if (runH s f.toNat t).2.1 = 0 then ((runH s f.toNat t).1, f - ((runH s f.toNat t).2.2 : Int), 0) else (noT, 0, (runH s f.toNat t).2.1)) else (noT, 0, 1)
abbrev aHd (z : Tm × Int × Int) : TV := .tup [(true, cT z.1), (false, [.a (.fz (.int .i64 z.2.1))]), (false, [.a (.fz (.int .i64 z.2.2))])]
theorem leHd {k n a e : Int} {s : List UInt8} {x : FV} {l : List Tm} (h : FV.Le x (.sl false 4 (FTs l))) : TV.Le (.tup [(true, [.a (.fz (.int .i64 k)), .a (.fz (.str s)), .a (.fz (.int .i64 n)), .a (.fz x)]), (false, [.a (.fz (.int .i64 a))]), (false, [.a (.fz (.int .i64 e))])]) (aHd (.mk k s n l, a, e)) :=
 zl8 ⟨lwT h, lwR _, lwR _, trivial⟩
theorem zix (s : Sto) (hs : OKS s) (f : Int) (t : Tm) (h0 : 0 - 9223372036854775808 ≤ f) (hz : t.sz ≤ B) (hf : z02 t = true → Fit f.toNat t) :
  AC Tryz.prog 67 [aT t, ci f, .c (.fn (.func 101) [(false, [.ep 0 2 0 0])] [])] (oS s) (aHd (z0w s f t)) (oS s) := by
 have h1 := z1x t hz
 have h2 := fun hv => zqe s hs f.toNat f t rfl h0 hv (hf hv)
 have h3 := fun hv => z87 hs hv (hf hv)
 have hV : z0w s f t = if z02 t = true then (if (runH s f.toNat t).2.1 = 0 then ((runH s f.toNat t).1, f - ((runH s f.toNat t).2.2 : Int), 0) else (noT, 0, (runH s f.toNat t).2.1)) else (noT, 0, 1) := rfl
 rw [hV]
 obtain ⟨k, str, n, l⟩ := t
 refine AC.vc hP sh lv67 (Nat.le_refl _) (by simp [isLive]) (by simp) (Eq.mpr (v67_F101 k str n (FTs l) ..) ?_)
 refine ⟨_, h1, z01 (fun h => ?_) (fun h => ⟨(_, _, _), h2 (by simpa using h), z01 (fun h' => ?_) (fun h' => ?_)⟩)⟩
 · rw [if_neg (by simpa using h)]; exact ⟨leHd (l := []) z0l, rfl⟩
 · have h : z02 (.mk k str n l) = true := by simpa using h
   have h' : ((runH s f.toNat (.mk k str n l)).2.1 != 0) = true := h'
   rw [if_pos h, if_neg (by simpa using h')]; exact ⟨leHd (l := []) z0l, rfl⟩
 · have h : z02 (.mk k str n l) = true := by simpa using h
   have h' : ((runH s f.toNat (.mk k str n l)).2.1 != 0) = false := h'
   rw [if_pos h, if_pos (by simpa using h')]; exact ⟨.refl _, rfl⟩
theorem zql (s : Sto) (hs : OKS s) (f : Int) (t : Tm) (h0 : 0 - 9223372036854775808 ≤ f) (hz : t.sz ≤ B) (hf : z02 t = true → Fit f.toNat t) : AC Tryz.prog 91 [aS 0, aT t, ci f] (oS s) (aHd (z0w s f t)) (oS s) := by
 have h := zix s hs f t h0 hz hf
 obtain ⟨k, str, n, l⟩ := t
 refine AC.vc hP sh lv91 (Nat.le_refl _) (by simp [isLive]) (by simp) (Eq.mpr (v91 k str n (FTs l) ..) ?_)
 exact ⟨(_, _, _), h, .refl _, rfl⟩
theorem stepS_sz {F : Nat} {s : Sto} {t : Tm} (hs : OKS s) (hv : z02 t = true) (hf : Fit (F + 1) t) (h : (z0c s t).2 = 1) : (z0c s t).1.sz ≤ t.sz + 42000 := by
 unfold z0c at h ⊢
 split
 · rename_i q
   have := (hs.val q).2.1
   simp only; omega
 rename_i q
 rw [if_neg q] at h
 split
 · rename_i q2; rw [if_pos q2] at h; simp at h
 rename_i q2
 rw [if_neg q2] at h
 have ok := z09 t hv
 obtain ⟨k, str, n, l⟩ := t
 have h6 : k = 6 := by
  by_cases e : k = 6
  · exact e
  · exact absurd e q2
 obtain ⟨x, y, r, rfl, hx6, hl⟩ := okB6 ok h6
 subst h6
 simp only [okL, Bool.and_eq_true] at hl
 have ey : Tm.l (.mk 6 str n (x :: y :: r)) = x :: y :: r := rfl
 have eh : hd (x :: y :: r) = x := rfl
 have e1 : List.drop 1 (x :: y :: r) = y :: r := rfl
 have e2 : List.drop 2 (x :: y :: r) = r := rfl
 have ehy : hd (y :: r) = y := rfl
 simp only [ey, eh, e1, e2, ehy] at h ⊢
 split
 · rename_i q3
   have v4 := (hs.val q3).2.1
   have z := z2g (valS s x) (y :: r)
   have zx := x.sz_pos
   simp only [Tm.szs, Tm.sz] at z ⊢
   omega
 rename_i q3
 rw [if_neg q3] at h
 split
 · rename_i q4; rw [if_pos q4] at h; simp at h
 rename_i q4
 rw [if_neg q4] at h
 obtain ⟨xk, xs, xn, xl⟩ := x
 have h5 : xk = 5 := by
  by_cases e : xk = 5
  · exact e
  · exact absurd e q4
 subst h5
 obtain ⟨b, rfl, ob⟩ := okB5 hl.1 rfl
 have room : z4m b y = true := by
  by_cases e : z4m b y = true
  · exact e
  · exfalso
    have h : (if z4m b y = true then (1 : Int) else 2) = 1 := h
    rw [if_neg e] at h; cases h
 have hst : z3v (.mk 6 str n (.mk 5 xs xn [b] :: y :: r)) = (z07 (suT 0 y b 0) r, 1) := by
  rw [z3v, if_pos (zkm str xs n xn b y r)]; exact if_pos room
 have e3 : conF (hd (Tm.l (.mk 5 xs xn [b]))) y = suT 0 y b 0 := by show conF b y = _; rw [conF, if_pos room]
 rw [e3]
 have := (zbg M61 (by simp only [M61]; omega) _ hf.ok hf.sz hf.bd (by rw [hst])).2.1
 rw [hst] at this
 exact this
def z04 (t : Tm) : Tm × List Tm := if t.k = 6 ∧ z02 t = true then (hd t.l, t.l.drop 1) else (t, [])
theorem zhc (t : Tm) (hz : t.sz ≤ B) (h : ¬ (t.k = 6 ∧ z02 t = true)) : AC Tryz.prog 92 [aT t] [] (.tup [(true, cT t), (false, [.a (.fz .nils)])]) [] := by
 have h1 := z1x t hz
 obtain ⟨k, str, n, l⟩ := t
 refine AC.vc hP sh lv92 (Nat.le_refl _) (by simp) (by simp) (Eq.mpr (v92 k str n (FTs l) _ _) ?_)
 refine z01 (fun _ => ⟨.refl _, rfl⟩) (fun h6 => ⟨_, h1, z01 (fun _ => ⟨.refl _, rfl⟩) (fun h' => absurd ⟨?_, ?_⟩ h)⟩)
 · have h6 : (k != 6) = false := h6
   show k = 6
   simpa using h6
 · simpa using h'
theorem zg2 (t : Tm) (hz : t.sz ≤ B) (h6 : t.k = 6) (hv : z02 t = true) : AC Tryz.prog 92 [aT t] [] (.tup [(true, cT (hd t.l)), (false, [.a (.osl 0 4 0 (t.l.drop 1).length)])]) [.arz 4 (FTs (t.l.drop 1))] := by
 have h1 := z1x t hz
 have hlen := Tm.szs_length t.l
 have hsz := t.sz_eq
 obtain ⟨k, str, n, l⟩ := t
 have h6 : k = 6 := h6
 subst h6
 obtain ⟨x, y, r, rfl, hx6, hl⟩ := okB6 (z09 _ hv) rfl
 simp only [Tm.l, List.length_cons, B] at hlen hsz hz
 have hcl := zib.1 (FTs (y :: r)) (by simp [FTs]) (by rw [z00]; simp only [List.length_cons, B]; omega)
 have e1 : List.drop 1 (List.take (Int.toNat (((FTs (x :: y :: r)).length : Nat) : Int)) (FTs (x :: y :: r))) = FTs (y :: r) := by rw [zeh]; rfl
 refine AC.vc hP sh lv92 (by simp) (by simp) (by simp [isLive]) (Eq.mpr (v92 6 str n (FTs (x :: y :: r)) _ _) ?_)
 rw [e1]
 refine z01 (fun h => by cases h) (fun _ => ⟨_, h1, z01 (fun h' => absurd hv (by simpa using h')) (fun _ => ?_)⟩)
 refine ⟨el0 x (y :: r), rfl, ⟨by omega, by rw [z00]; simp only [List.length_cons]; omega, Int.le_refl _⟩, .inr ⟨_, hcl, ?_, rfl⟩⟩
 rw [show cE (List.getD (FTs (x :: y :: r)) 0 []) = cT x from cE_FT x, z00]
 exact .refl _
end Go.AM

set_option maxRecDepth 100000
open Go Go.Proofs
namespace Go.AM
abbrev oS' (s : Sto) : List AObj := [sto2 3 4 s, .gone, .gone, .arz 6 (SR s.V), .arz 1 (IR s.T)]
def freshS (s : Sto) (lv : Int) : Sto := ⟨s.V ++ [⟨z0o [lv, 0], false, noT⟩], s.T⟩
theorem z3z (l : List Int) : (IR l).length = l.length := by simp [IR]
theorem zml (a b : List Int) : IR (a ++ b) = IR a ++ IR b := by simp [IR]
theorem zla {n : Nat} {fs gs : List (List FV)} (hl : gs.length = fs.length) (h : ∀ (i : Nat) (e e' : List FV), fs[i]? = some e → gs[i]? = some e' → LeR e e') : OLe (.arz n fs) (.arz n gs) :=
 .rows n fs gs (by omega) (fun i e e' he he' => (h i e e' he he').length) (fun i j e e' f f' he he' hf hf' => (h i e e' he he').get j f f' hf hf')
theorem ole_app {n : Nat} {a : List (List FV)} {x y : List FV} (h : LeR x y) : OLe (.arz n (a ++ [x])) (.arz n (a ++ [y])) := by
 refine zla (by simp) fun i e e' he he' => ?_
 by_cases q : i < a.length
 · rw [List.getElem?_append_left q] at he he'
   rw [he] at he'; injection he' with he'; subst he'; exact LeR.refl _
 · rw [List.getElem?_append_right (by omega)] at he he'
   cases hi : i - a.length with
   | zero => rw [hi] at he he'; simp at he he'; subst he; subst he'; exact h
   | succ k => rw [hi] at he; simp at he
theorem ole_set {n i : Nat} {a : List (List FV)} {x y : List FV} (h : LeR x y) : OLe (.arz n (a.set i x)) (.arz n (a.set i y)) := by
 refine zla (by simp) fun j e e' he he' => ?_
 rw [List.getElem?_set] at he he'
 split at he
 · rename_i q
   rw [if_pos q] at he'
   split at he
   · rename_i q2; rw [if_pos q2] at he'; injection he with he; injection he' with he'; subst he; subst he'; exact h
   · cases he
 · rename_i q
   rw [if_neg q] at he'
   rw [he] at he'; injection he' with he'; subst he'; exact LeR.refl _
theorem zjt (s : Sto) (lv : Int) (h : s.V.length ≤ 1073741824) : AC Tryz.prog 35 [aS 0, ci lv] (oS s) (ci (s.V.length : Int)) (oS' (freshS s lv)) := by
 have hrow : LeR [.int .i64 (z0o [lv, 0]), .bool false, .int .i64 0, .str [], .int .i64 0, .nils] (Inf.c ⟨z0o [lv, 0], false, noT⟩) := ⟨.refl _, .refl _, .refl _, .refl _, .refl _, z0l, trivial⟩
 have hV : (freshS s lv).V.length = s.V.length + 1 := by simp [freshS]
 refine AC.obj (Hs' := [.arr 2 [[.a (.osl 3 6 0 (s.V.length + 1)), .a (.osl 4 1 0 s.T.length)]], .gone, .gone, .arz 6 (SR s.V ++ [[.int .i64 (z0o [lv, 0]), .bool false, .int .i64 0, .str [], .int .i64 0, .nils]]), .arz 1 (IR s.T)]) ?_ ⟨by rw [sto2, hV]; exact .refl _, .refl _, .refl _, ?_, .refl _, trivial⟩
 · refine AC.vc hP sh lv35 (by simp) (by simp [isLive]) (by simp [isLive]) (Eq.mpr (v35 ..) ?_)
   rw [w64 (x := (((s.V.length + 1 : Nat) : Int) - 1)) (by omega) (by omega), List.take_of_length_le (by rw [z4p]; omega)]
   exact ⟨by omega, ⟨by rw [z4p]; omega, by unfold z0i; omega⟩, by rw [show (((s.V.length + 1 : Nat) : Int) - 1) = (s.V.length : Int) by omega]; exact .refl _, rfl⟩
 · show OLe _ (.arz 6 (SR (s.V ++ [⟨z0o [lv, 0], false, noT⟩])))
   rw [zok]
   exact ole_app hrow
def z45 (s : Sto) (x : Int) (t : Tm) : Bool := inB s.V x && (!(infOf s.V x).bd && (z02 t && decide (z32 t 0 0 ≤ 0)))
def bindS (s : Sto) (x : Int) (t : Tm) : Sto := if z45 s x t = true then ⟨s.V.set x.toNat ⟨(infOf s.V x).lv, true, t⟩, s.T ++ [x]⟩ else s
def zf7 (s : Sto) (x : Int) (t : Tm) : Int := if z45 s x t = true then 0 else 1
theorem z39 {s : Sto} {x : Int} {t : Tm} (h : z45 s x t = false) : bindS s x t = s ∧ zf7 s x t = 1 := by
 unfold bindS zf7; rw [h]; exact ⟨rfl, rfl⟩
theorem z1l {s : Sto} {x : Int} {t : Tm} (h : z45 s x t = true) : bindS s x t = ⟨s.V.set x.toNat ⟨(infOf s.V x).lv, true, t⟩, s.T ++ [x]⟩ ∧ zf7 s x t = 0 := by
 unfold bindS zf7; rw [h]; exact ⟨rfl, rfl⟩
theorem bind_end {s : Sto} {x : Int} {t : Tm} (hb : z45 s x t = true) (h0 : 0 ≤ x) (h1 : x < (s.V.length : Int)) {e : List FV} (he : LeR e (Inf.c ⟨(infOf s.V x).lv, true, t⟩)) :
  All2 OLe [.arr 2 [[.a (.osl 3 6 0 s.V.length), .a (.osl 4 1 0 (s.T.length + 1))]], .gone, .gone, .arz 6 (List.set (SR s.V) (0 + x.toNat) e), .arz 1 (IR s.T ++ [[.int .i64 x]])] (oS' (bindS s x t)) := by
 rw [(z1l hb).1]
 refine ⟨by rw [sto2, List.length_set, List.length_append]; exact .refl _, .refl _, .refl _, ?_, ?_, trivial⟩
 · show OLe _ (.arz 6 (SR (s.V.set x.toNat _)))
   rw [show SR (s.V.set x.toNat ⟨(infOf s.V x).lv, true, t⟩) = List.set (SR s.V) (0 + x.toNat) (Inf.c ⟨(infOf s.V x).lv, true, t⟩) by rw [Nat.zero_add, SR, SR, List.map_set]]
   exact ole_set he
 · show OLe _ (.arz 1 (IR (s.T ++ [x])))
   rw [zml]; exact .refl _
theorem zoc (s : Sto) (x : Int) (t : Tm) (hT : s.T.length ≤ 1073741824) (hz : t.sz ≤ B) (hb : bd M61 t) : AC Tryz.prog 47 [aS 0, ci x, aT t] (oS s) (ci (zf7 s x t)) (oS' (bindS s x t)) := by
 have h1 := z9f s x
 have h2 := z1x t hz
 have h3 := c_loose t hz hb
 have hB : z45 s x t = (inB s.V x && (!(infOf s.V x).bd && (z02 t && decide (z32 t 0 0 ≤ 0)))) := rfl
 cases hq : z45 s x t with
 | false =>
  rw [(z39 hq).1, (z39 hq).2]
  rw [hq] at hB
  obtain ⟨k, str, n, l⟩ := t
  refine AC.vc hP sh lv47 (by simp) (by simp [isLive]) (by simp [isLive]) (Eq.mpr (v47 x k str n (FTs l) ..) ?_)
  refine ⟨(_, _, _, _), h1, z01 (fun _ => ⟨.refl _, rfl⟩) (fun e1 => z01 (fun _ => ⟨.refl _, rfl⟩) (fun e2 => ⟨_, h2, z01 (fun _ => ⟨.refl _, rfl⟩) (fun e3 => ⟨_, h3, z01 (fun _ => ⟨.refl _, rfl⟩) (fun e4 => ?_)⟩)⟩))⟩
  exfalso
  have e1 : (!(inB s.V x)) = false := e1
  have e1 : inB s.V x = true := by cases h : inB s.V x; · rw [h] at e1; cases e1
                                   · rfl
  have e2 : (infOf s.V x).bd = false := e2
  have e3 : z02 (.mk k str n l) = true := by simpa using e3
  rw [e1, e2, e3, decide_eq_true (by have := of_decide_eq_false e4; omega)] at hB
  cases hB
 | true =>
  rw [(z1l hq).2]
  have hq' := hq
  rw [hB] at hq'
  simp only [Bool.and_eq_true, Bool.not_eq_true', decide_eq_true_eq] at hq'
  obtain ⟨g1, g2, g3, g4⟩ := hq'
  have g1' : 0 ≤ x ∧ x < (s.V.length : Int) := by simp [inB] at g1; omega
  refine AC.obj (Hs' := [.arr 2 [[.a (.osl 3 6 0 s.V.length), .a (.osl 4 1 0 (s.T.length + 1))]], .gone, .gone, .arz 6 (List.set (SR s.V) (0 + x.toNat) [.int .i64 (infOf s.V x).lv, .bool true, .int .i64 t.k, .str t.s, .int .i64 t.n, .sl false 4 (FTs t.l)]), .arz 1 (IR s.T ++ [[.int .i64 x]])]) ?_ (bind_end hq g1'.1 g1'.2 (show LeR [.int .i64 (infOf s.V x).lv, .bool true, .int .i64 t.k, .str t.s, .int .i64 t.n, .sl false 4 (FTs t.l)] (Inf.c ⟨(infOf s.V x).lv, true, t⟩) from LeR.refl _))
  obtain ⟨hl, ei⟩ := z3e g1'.1 g1'.2
  obtain ⟨k, str, n, l⟩ := t
  refine AC.vc hP sh lv47 (by simp) (by simp [isLive]) (by simp [isLive]) (Eq.mpr (v47 x k str n (FTs l) ..) ?_)
  refine ⟨(_, _, _, _), h1, z01 (fun e => by have e : (!(inB s.V x)) = true := e; rw [g1] at e; cases e) (fun _ => z01 (fun e => by have e : (infOf s.V x).bd = true := e; rw [g2] at e; cases e) (fun _ => ⟨_, h2, z01 (fun e => by rw [g3] at e; cases e) (fun _ => ⟨_, h3, z01 (fun e => absurd (of_decide_eq_true e) (by omega)) (fun _ => ⟨g1', ⟨by rw [z4p]; omega, ?_⟩, by omega, ⟨by rw [z3z]; omega, by unfold z0i; omega⟩, .refl _, ?_⟩)⟩)⟩))⟩
  · rw [Nat.zero_add, SR_get hl]; rfl
  · rw [List.take_of_length_le (by rw [z3z]; omega)]; rfl
end Go.AM

set_option maxRecDepth 100000
open Go Go.Proofs
namespace Go.AM
theorem c_iodd (t : Tm) (hs : t.sz ≤ B) : AC Tryz.prog 50 [aT t] [] (cb (!z02 t)) [] := by
 have hv := z1x t hs
 obtain ⟨k, s, n, l⟩ := t
 refine AC.vc hP sh lv50 (Nat.le_refl _) (by simp) (by simp) (Eq.mpr (v50 k s n (FTs l) ..) ?_)
 exact ⟨_, hv, z06 rfl⟩
theorem zau (x : Int) : AC Tryz.prog 122 [ci x] [] (aT (.mk 4 [] x [])) [] := by
 refine AC.vc hP sh lv122 (Nat.le_refl _) (by simp) (by simp) (Eq.mpr (v122 ..) ?_)
 exact ⟨leT (l := []) z0l, rfl⟩
theorem z7h (n : Int) : AC Tryz.prog 121 [ci n] [] (aT (.mk 3 [] n [])) [] := by
 refine AC.vc hP sh lv121 (Nat.le_refl _) (by simp) (by simp) (Eq.mpr (v121 ..) ?_)
 exact ⟨leT (l := []) z0l, rfl⟩
def z5t (s : Sto) (lams : Nat) (on : List Tm) : Tm := z5j lams (z07 (.mk 4 [] (s.V.length : Int) []) on)
def z31 (s : Sto) (x lv : Int) (lams : Nat) (on : List Tm) : Sto := bindS (freshS s lv) x (z5t s lams on)
theorem c_hang (s : Sto) (x lv : Int) (lams : Nat) (on : List Tm) (hl : lams ≤ 1000000) (ho : on.length ≤ 1000000) (hV : s.V.length ≤ 1073741824) (hT : s.T.length ≤ 1073741824) (hz : (z5t s lams on).sz ≤ B) (hb : bd M61 (z5t s lams on)) :
  AC Tryz.prog 123 [aS 0, ci x, ci lv, ci (lams : Int), aL on] (oS s) (aT (.mk 4 [] (s.V.length : Int) [])) (oS' (z31 s x lv lams on)) := by
 have h1 := zjt s lv (by omega)
 have h2 := zau (s.V.length : Int)
 have h3 := z3p (.mk 4 [] (s.V.length : Int) []) on (by simp only [Tm.l, List.length_nil]; omega)
 have h4 := zk6 lams (z07 (.mk 4 [] (s.V.length : Int) []) on) (by omega)
 have h5 := zoc (freshS s lv) x (z5t s lams on) hT hz hb
 refine AC.vc hP sh lv123 (by simp) (by simp [isLive]) (by simp [isLive]) (Eq.mpr (v123 ..) ?_)
 exact ⟨(_, freshS s lv), h1, _, h2, _, h3, _, h4, (_, z31 s x lv lams on), h5, .refl _, rfl⟩
end Go.AM

set_option maxRecDepth 100000
open Go Go.Proofs
namespace Go.AM
def onK (n : Int) : List Bool → Int → List Tm
 | [], _ => []
 | b :: r, i => if b = true then .mk 3 [] (n - 1 - i) [] :: onK n r (i + 1) else onK n r (i + 1)
def BR (l : List Bool) : List (List FV) := l.map fun b => [.bool b]
theorem z1q (l : List Bool) : (BR l).length = l.length := by simp [BR]
abbrev hsP16 (s : Sto) (e : Inf) (rest : List (Nat × AObj)) : List (Nat × AObj) := (0, sto2 3 4 s) :: (1, .gone) :: (2, .gone) :: (3, .arz 6 (SR s.V)) :: (4, .arz 1 (IR s.T)) :: (5, .arr 6 [[.a (.fz (.int .i64 e.lv)), .a (.fz (.bool e.bd)), .a (.fz (.int .i64 e.v.k)), .a (.fz (.str e.v.s)), .a (.fz (.int .i64 e.v.n)), .a (.fz (.sl false 4 (FTs e.v.l)))]]) :: rest
abbrev stPb (s : Sto) (x : Int) (e : Inf) (keep : List Bool) (i : Nat) (o : List Tm) : St :=
 ⟨[(0, aS 0), (1, ci x), (2, .c (.a (.fz (.sl false 1 (BR keep))))), (7, .c (.a (.ep 5 6 0 0))), (9, .c (.a (.osl 6 4 0 o.length))), (24, .c (.a (.fz (.sl false 1 (BR keep))))), (25, ci (keep.length : Int)), (26, ci (i : Int))], hsP16 s e [(6, .arz 4 (FTs o))], 7⟩
theorem zer (s : Sto) (x : Int) (e : Inf) (keep : List Bool) (hk : keep.length ≤ 1000) (res : List Tm) (hh : AC Tryz.prog 123 [aS 0, ci x, ci e.lv, ci (keep.length : Int), aL res] (oS s) (aT (.mk 4 [] (s.V.length : Int) [])) (oS' (z31 s x e.lv keep.length res))) :
  ∀ (j i : Nat) (o : List Tm), i + j = keep.length → o.length ≤ i → o ++ onK (keep.length : Int) (keep.drop i) (i : Int) = res → RPt Tryz.prog 155 3 (ci 0) (oS' (z31 s x e.lv keep.length res)) 1 (stPb s x e keep i o)
 | 0, i, o, hi, ho, hr => by
  have hlen := z1q keep
  refine RPt.vc hP sh zfy (Eq.mpr (znx ..) ?_)
  rw [List.drop_eq_nil_of_le (by omega), onK, List.append_nil] at hr
  subst hr
  refine z01 (fun h => absurd (of_decide_eq_true h) (by omega)) (fun _ => ⟨rfl, ⟨rfl, by rw [z00]; omega⟩, ((.mk 4 [] (s.V.length : Int) [] : Tm), z31 s x e.lv keep.length o), ?_, .refl _, rfl⟩)
  rw [List.drop_zero, List.take_of_length_le (by rw [z00]; exact Nat.le_refl _), hlen]
  exact hh
 | j + 1, i, o, hi, ho, hr => by
  have hlen := z1q keep
  have hi2 : i < keep.length := by omega
  have eg : List.getD (BR keep) (Int.toNat (i : Int)) [] = [.bool keep[i]] := by rw [Int.toNat_natCast]; simp [BR, List.getD, hi2]
  have ed : keep.drop i = keep[i] :: keep.drop (i + 1) := List.drop_eq_getElem_cons hi2
  rw [ed, onK] at hr
  refine RPt.vc hP sh zfy (Eq.mpr (znx ..) ?_)
  rw [eg, w64 (x := (i : Int) + 1) (by omega) (by omega), hlen, w64 (x := (keep.length : Int) - 1) (by omega) (by omega), w64 (x := (keep.length : Int) - 1 - (i : Int)) (by omega) (by omega)]
  refine z01 (fun _ => ⟨⟨rfl, by omega, by omega, rfl⟩, z01 (fun hb => ?_) (fun hb => ?_)⟩) (fun h => absurd (of_decide_eq_false h) (by omega))
  · have hb : keep[i] = true := hb
    rw [if_pos hb] at hr
    refine ⟨rfl, _, z7h _, Nat.le_refl _, ⟨by rw [z00]; omega, by simp only [z0i]; omega⟩, ?_⟩
    have nx := zer s x e keep hk res hh j (i + 1) (o ++ [.mk 3 [] ((keep.length : Int) - 1 - (i : Int)) []]) (by omega) (by simp; omega) (by rw [List.append_assoc]; exact hr)
    rw [z5h, show List.take o.length (FTs o) ++ [FT (.mk 3 [] ((keep.length : Int) - 1 - (i : Int)) [])] = FTs (o ++ [.mk 3 [] ((keep.length : Int) - 1 - (i : Int)) []]) by rw [List.take_of_length_le (by rw [z00]; exact Nat.le_refl _), z1t]; rfl]
    simp only [stPb, List.length_append, List.length_singleton] at nx
    exact nx
  · have hb : keep[i] = false := hb
    rw [if_neg (by rw [hb]; simp)] at hr
    exact zer s x e keep hk res hh j (i + 1) o (by omega) (by omega) hr
end Go.AM

set_option maxRecDepth 100000
open Go Go.Proofs
namespace Go.AM
abbrev stPa (s : Sto) (x : Int) (e : Inf) (keep : List Bool) (i : Nat) : St :=
 ⟨[(0, aS 0), (1, ci x), (2, .c (.a (.fz (.sl false 1 (BR keep))))), (7, .c (.a (.ep 5 6 0 0))), (9, .c (.a (.fz .nils))), (24, .c (.a (.fz (.sl false 1 (BR keep))))), (25, ci (keep.length : Int)), (26, ci (i : Int))], hsP16 s e [], 6⟩
theorem zjv (s : Sto) (x : Int) (e : Inf) (keep : List Bool) (hk : keep.length ≤ 1000) (res : List Tm) (hh : AC Tryz.prog 123 [aS 0, ci x, ci e.lv, ci (keep.length : Int), aL res] (oS s) (aT (.mk 4 [] (s.V.length : Int) [])) (oS' (z31 s x e.lv keep.length res))) :
  ∀ (j i : Nat), i + j = keep.length → onK (keep.length : Int) (keep.drop i) (i : Int) = res → RPt Tryz.prog 155 3 (ci 0) (oS' (z31 s x e.lv keep.length res)) 1 (stPa s x e keep i)
 | 0, i, hi, hr => by
  have hlen := z1q keep
  refine RPt.vc hP sh zfy (Eq.mpr (zow ..) ?_)
  rw [List.drop_eq_nil_of_le (by omega), onK] at hr
  subst hr
  refine z01 (fun h => absurd (of_decide_eq_true h) (by omega)) (fun _ => ⟨rfl, ((.mk 4 [] (s.V.length : Int) [] : Tm), z31 s x e.lv keep.length []), ?_, .refl _, rfl⟩)
  rw [hlen]
  exact hh.args ⟨.refl _, .refl _, .refl _, .refl _, .c _ _ (.a _ _ (.fz _ _ z0l)), trivial⟩
 | j + 1, i, hi, hr => by
  have hlen := z1q keep
  have hi2 : i < keep.length := by omega
  have eg : List.getD (BR keep) (Int.toNat (i : Int)) [] = [.bool keep[i]] := by rw [Int.toNat_natCast]; simp [BR, List.getD, hi2]
  have ed : keep.drop i = keep[i] :: keep.drop (i + 1) := List.drop_eq_getElem_cons hi2
  rw [ed, onK] at hr
  refine RPt.vc hP sh zfy (Eq.mpr (zow ..) ?_)
  rw [eg, w64 (x := (i : Int) + 1) (by omega) (by omega), hlen, w64 (x := (keep.length : Int) - 1) (by omega) (by omega), w64 (x := (keep.length : Int) - 1 - (i : Int)) (by omega) (by omega)]
  refine z01 (fun _ => ⟨⟨rfl, by omega, by omega, rfl⟩, z01 (fun hb => ?_) (fun hb => ?_)⟩) (fun h => absurd (of_decide_eq_false h) (by omega))
  · have hb : keep[i] = true := hb
    rw [if_pos hb] at hr
    refine ⟨rfl, _, z7h _, Nat.le_refl _, by simp only [z0i]; omega, ?_⟩
    exact zer s x e keep hk res hh j (i + 1) [.mk 3 [] ((keep.length : Int) - 1 - (i : Int)) []] (by omega) (by simp) hr
  · have hb : keep[i] = false := hb
    rw [if_neg (by rw [hb]; simp)] at hr
    exact zjv s x e keep hk res hh j (i + 1) (by omega) hr
end Go.AM

set_option maxRecDepth 100000
open Go Go.Proofs
namespace Go.AM
def z3r (s : Sto) (x : Int) (keep : List Bool) : Sto := if inB s.V x = true ∧ (infOf s.V x).bd = false then z31 s x (infOf s.V x).lv keep.length (onK (keep.length : Int) keep 0) else s
def z6s (s : Sto) (x : Int) : Int := if inB s.V x = true ∧ (infOf s.V x).bd = false then 0 else 1
theorem c_iprune (s : Sto) (x : Int) (keep : List Bool) (hk : keep.length ≤ 1000) (hh : AC Tryz.prog 123 [aS 0, ci x, ci (infOf s.V x).lv, ci (keep.length : Int), aL (onK (keep.length : Int) keep 0)] (oS s) (aT (.mk 4 [] (s.V.length : Int) [])) (oS' (z31 s x (infOf s.V x).lv keep.length (onK (keep.length : Int) keep 0)))) :
  AC Tryz.prog 155 [aS 0, ci x, .c (.a (.fz (.sl false 1 (BR keep))))] (oS s) (ci (z6s s x)) (oS' (z3r s x keep)) := by
 have hi := z9f s x
 have hlen := z1q keep
 refine AC.vc hP sh zfy (by simp) (by simp [isLive]) (by simp [isLive]) (Eq.mpr (v155 ..) ?_)
 refine ⟨((infOf s.V x).lv, (infOf s.V x).bd, (infOf s.V x).v, inB s.V x), hi, z01 (fun h => ?_) (fun h => z01 (fun h2 => ?_) (fun h2 => ⟨rfl, ?_⟩))⟩
 · have h : inB s.V x = false := by simpa using h
   rw [z6s, z3r, if_neg (by rw [h]; simp), if_neg (by rw [h]; simp)]; exact ⟨.refl _, rfl⟩
 · have h2 : (infOf s.V x).bd = true := h2
   rw [z6s, z3r, if_neg (by rw [h2]; simp), if_neg (by rw [h2]; simp)]; exact ⟨.refl _, rfl⟩
 · have h : inB s.V x = true := by simpa using h
   have h2 : (infOf s.V x).bd = false := h2
   rw [z6s, z3r, if_pos ⟨h, h2⟩, if_pos ⟨h, h2⟩, hlen]
   exact zjv s x (infOf s.V x) keep hk _ hh keep.length 0 (by omega) (by rw [List.drop_zero]; rfl)
end Go.AM

set_option maxRecDepth 100000
open Go Go.Proofs
namespace Go.AM
theorem c_smark (s : Sto) : AC Tryz.prog 31 [aS 0] (oS s) (.agg [.a (.fz (.int .i64 (s.T.length : Int))), .a (.fz (.int .i64 (s.V.length : Int)))]) (oS s) := by
 refine AC.vc hP sh lv31 (Nat.le_refl _) (by simp [isLive]) (by simp) (Eq.mpr (v31 ..) ?_)
 exact ⟨.refl _, rfl⟩
theorem zkt (a b : Int) (h : a ≤ b) : z0t [a, b] = a := by
 simp only [z0t, List.foldl, min, minOfLe]; rw [if_pos h]
theorem drop_get {l : List Int} {j : Nat} {x : Int} {xs : List Int} (h : l.drop j = x :: xs) : j < l.length ∧ List.getD (IR l) j [] = [.int .i64 x] ∧ l.drop (j + 1) = xs := by
 have hj : j < l.length := by
  rcases Nat.lt_or_ge j l.length with q | q
  · exact q
  · rw [List.drop_eq_nil_of_le q] at h; cases h
 rw [List.drop_eq_getElem_cons hj] at h
 injection h with h1 h2
 exact ⟨hj, by simp [IR, List.getD, hj, h1], h2⟩
def clrI (i : Inf) : Inf := ⟨i.lv, false, noT⟩
def clrV (V : List Inf) (x : Int) : List Inf := V.modify x.toNat clrI
def clrR (h : List (List FV)) (x : Int) : List (List FV) := List.set h (0 + x.toNat) [.int .i64 (FV.asI (List.getD (List.getD h (0 + x.toNat) []) 0 FV.nils)), .bool false, .int .i64 0, .str [], .int .i64 0, .nils]
def RowOf (i : Inf) (r : List FV) : Prop := r = Inf.c i ∨ (i.bd = false ∧ i.v = noT ∧ r = [.int .i64 i.lv, .bool false, .int .i64 0, .str [], .int .i64 0, .nils])
def RowsOf (V : List Inf) (h : List (List FV)) : Prop := h.length = V.length ∧ ∀ (i : Nat) (v : Inf) (r : List FV), V[i]? = some v → h[i]? = some r → RowOf v r
theorem RowOf.le {i : Inf} {r : List FV} (h : RowOf i r) : LeR r (Inf.c i) := by
 rcases h with rfl | ⟨h1, h2, rfl⟩
 · exact LeR.refl _
 · obtain ⟨lv, bd, v⟩ := i
   simp only at h1 h2
   subst h1; subst h2
   exact ⟨.refl _, .refl _, .refl _, .refl _, .refl _, z0l, trivial⟩
theorem RowOf.sz {i : Inf} {r : List FV} (h : RowOf i r) : r.length = 6 ∧ FV.asI (List.getD r 0 FV.nils) = i.lv ∧ List.take 1 r = [.int .i64 i.lv] := by
 rcases h with rfl | ⟨_, _, rfl⟩ <;> exact ⟨rfl, rfl, rfl⟩
theorem SR_of (V : List Inf) : RowsOf V (SR V) := ⟨z4p V, fun i v r h1 h2 => by
 rw [SR, List.getElem?_map, h1] at h2
 injection h2 with h2; exact .inl h2.symm⟩
theorem RowsOf.get {V : List Inf} {h : List (List FV)} (hr : RowsOf V h) {i : Nat} (hi : i < V.length) : RowOf V[i] (List.getD h i []) := by
 have h2 : i < h.length := by rw [hr.1]; exact hi
 have := hr.2 i _ _ (List.getElem?_eq_getElem hi) (List.getElem?_eq_getElem h2)
 simpa [List.getD, h2] using this
theorem z5b (V : List Inf) (x : Int) : (clrV V x).length = V.length := by simp [clrV]
theorem zkj (V : List Inf) (x : Int) (i : Nat) : (clrV V x)[i]? = V[i]?.map fun v => if x.toNat = i then clrI v else v := by
 rw [clrV, List.getElem?_modify]
 cases V[i]? with
 | none => rfl
 | some v => rfl
theorem RowsOf.clr {V : List Inf} {h : List (List FV)} (hr : RowsOf V h) {x : Int} (h1 : x.toNat < V.length) : RowsOf (clrV V x) (clrR h x) := by
 refine ⟨by rw [z5b, clrR, List.length_set, hr.1], fun i v r hv hh => ?_⟩
 rw [zkj] at hv
 rw [clrR, Nat.zero_add, List.getElem?_set] at hh
 obtain ⟨v0, hv0, rfl⟩ := Option.map_eq_some_iff.1 hv
 by_cases e : x.toNat = i
 · subst e
   rw [if_pos rfl, if_pos (by rw [hr.1]; exact h1)] at hh
   injection hh with hh
   have hg := (hr.get h1).sz
   rw [hg.2.1] at hh
   rw [if_pos rfl]
   have : V[x.toNat] = v0 := by rw [List.getElem?_eq_getElem h1] at hv0; injection hv0
   exact .inr ⟨rfl, rfl, by rw [← hh, this]; rfl⟩
 · rw [if_neg e] at hh ⊢
   exact hr.2 i _ _ hv0 hh
theorem z73 : ∀ (xs : List Int) (V : List Inf), (xs.foldl clrV V).length = V.length
 | [], _ => rfl
 | x :: xs, V => by rw [List.foldl_cons, z73 xs, z5b]
theorem zfa : ∀ (xs : List Int) (V : List Inf) (h : List (List FV)), RowsOf V h → (∀ x ∈ xs, 0 ≤ x ∧ x < (V.length : Int)) → RowsOf (xs.foldl clrV V) (xs.foldl clrR h)
 | [], _, _, hr, _ => hr
 | x :: xs, V, h, hr, hx => by
  have h1 := hx x List.mem_cons_self
  exact zfa xs _ _ (hr.clr (by omega)) fun y hy => by rw [z5b]; exact hx y (List.mem_cons_of_mem _ hy)
theorem z85 : ∀ (xs : List Int) (V : List Inf) (i : Nat), (xs.foldl clrV V)[i]? = V[i]?.map fun v => if xs.any (fun x => x.toNat == i) = true then clrI v else v
 | [], V, i => by simp
 | x :: xs, V, i => by
  rw [List.foldl_cons, z85 xs, zkj, Option.map_map]
  congr 1
  funext v
  simp only [Function.comp, List.any_cons, Bool.or_eq_true, beq_iff_eq]
  by_cases e1 : x.toNat = i <;> by_cases e2 : xs.any (fun x => x.toNat == i) = true <;> simp [e1, e2, clrI]
theorem znr {n : Nat} {fs gs : List (List FV)} (hl : gs.length ≤ fs.length) (h : ∀ (i : Nat) (e e' : List FV), fs[i]? = some e → gs[i]? = some e' → LeR e e') : OLe (.arz n fs) (.arz n gs) :=
 .rows n fs gs hl (fun i e e' he he' => (h i e e' he he').length) fun i j e e' f f' he he' hf hf' => (h i e e' he he').get j f f' hf hf'
theorem c_sundo1 (x v : Int) : AC Tryz.prog 106 [ci x, .c (.a (.ep 0 1 0 0))] [obj1 v] (cb (decide (x ≥ v))) [obj1 v] := by
 refine AC.vc hP sh lv106 (Nat.le_refl _) (by simp [isLive]) (by simp) (Eq.mpr (v106 ..) ?_)
 exact ⟨.refl _, rfl⟩
abbrev fnU : TV := .c (.fn (.func 106) [] [(false, [.ep 1 1 0 0])])
theorem l_sidx (T : List Int) (m : Nat) (v : Int) (hm : m ≤ T.length) (hB : T.length ≤ 1073741824) (h : ∀ x ∈ T.take m, x < v) : ∀ (j i : Nat), i + j = m →
  RPt Tryz.prog 132 2 (ci (-1)) [.arz 1 (IR T), obj1 v] 1 ⟨[(0, .c (.a (.osl 0 1 0 m))), (1, fnU), (7, ci (m : Int)), (8, ci (i : Int))], [(0, .arz 1 (IR T)), (1, obj1 v)], 2⟩
 | 0, i, hi => by
  refine RPt.vc hP sh zpo (Eq.mpr (z9m ..) ?_)
  exact z01 (fun h => absurd (of_decide_eq_true h) (by omega)) (fun _ => ⟨.refl _, rfl⟩)
 | j + 1, i, hi => by
  refine RPt.vc hP sh zpo (Eq.mpr (z9m ..) ?_)
  have hi2 : i < T.length := by omega
  have eg : List.getD (IR T) (0 + Int.toNat (i : Int)) [] = [.int .i64 T[i]] := by rw [Nat.zero_add, Int.toNat_natCast]; simp [IR, List.getD, hi2]
  have hx : T[i] < v := h _ (by rw [List.mem_take_iff_getElem]; exact ⟨i, by omega, rfl⟩)
  have hc := c_sundo1 T[i] v
  rw [eg, w64 (x := (i : Int) + 1) (by omega) (by omega)]
  refine z01 (fun _ => ⟨⟨by omega, by omega⟩, ⟨by rw [z3z]; omega, rfl, rfl⟩, _, hc, z01 (fun e => absurd (of_decide_eq_true e) (by omega)) (fun _ => ?_)⟩) (fun h => absurd (of_decide_eq_false h) (by omega))
  exact l_sidx T m v hm hB h j (i + 1) (by omega)
theorem c_sdel (T : List Int) (m : Nat) (v : Int) (hm : m ≤ T.length) (hB : T.length ≤ 1073741824) (h : ∀ x ∈ T.take m, x < v) :
  AC Tryz.prog 105 [.c (.a (.osl 0 1 0 m)), fnU] [.arz 1 (IR T), obj1 v] (.c (.a (.osl 0 1 0 m))) [.arz 1 (IR T), obj1 v] := by
 have h1 : AC Tryz.prog 132 [.c (.a (.osl 0 1 0 m)), fnU] [.arz 1 (IR T), obj1 v] (ci (-1)) [.arz 1 (IR T), obj1 v] := by
  refine AC.vc hP sh zpo (Nat.le_refl _) (by simp [isLive]) (by simp) (Eq.mpr (zqc ..) ?_)
  exact l_sidx T m v hm hB h m 0 (by omega)
 refine AC.vc hP sh lv105 (Nat.le_refl _) (by simp [isLive]) (by simp) (Eq.mpr (zou ..) ?_)
 exact ⟨_, h1, z01 (fun _ => ⟨.refl _, rfl⟩) (fun h => by cases h)⟩
abbrev stU (T : List Int) (L m n : Nat) (h : List (List FV)) (i : Nat) : St :=
 ⟨[(0, aS 0), (3, .c (.a (.ep 5 2 0 0))), (4, ci (m : Int)), (22, .c (.a (.osl 4 1 m (T.length - m)))), (23, ci ((T.length - m : Nat) : Int)), (24, ci (i : Int))],
  [(0, .arr 2 [[.a (.osl 3 6 0 L), .a (.osl 4 1 0 T.length)]]), (1, .gone), (2, .gone), (3, .arz 6 h), (4, .arz 1 (IR T)), (5, .arr 2 [[.a (.fz (.int .i64 (m : Int))), .a (.fz (.int .i64 (n : Int)))]])], 6⟩
theorem zp4 (T : List Int) (L m n : Nat) (hm : m ≤ T.length) (hB : T.length ≤ 1073741824) (hn : n ≤ L) (hT : ∀ x ∈ T, 0 ≤ x ∧ x < (L : Int)) (hk : ∀ x ∈ T.take m, x < (n : Int)) :
  ∀ (xs : List Int) (i : Nat) (V : List Inf) (h : List (List FV)), T.drop (m + i) = xs → i + xs.length = T.length - m → RowsOf V h → V.length = L →
  RPt Tryz.prog 72 3 (.tup []) [.arr 2 [[.a (.osl 3 6 0 n), .a (.osl 4 1 0 m)]], .gone, .gone, .arz 6 (xs.foldl clrR h), .arz 1 (IR T)] 1 (stU T L m n h i)
 | [], i, V, h, hd, hi, hr, hV => by
  refine RPt.vc hP sh lv72 (Eq.mpr (v72_1a ..) ?_)
  have hc := c_sdel T m (n : Int) hm hB hk
  simp only [List.length_nil, Nat.add_zero] at hi
  rw [zes (by omega), zkt _ _ (by omega), Int.toNat_natCast, Int.toNat_natCast]
  exact z01 (fun h => absurd (of_decide_eq_true h) (by omega)) (fun _ => ⟨by omega, by omega, _, hc, .refl _, rfl⟩)
 | x :: xs, i, V, h, hd, hi, hr, hV => by
  refine RPt.vc hP sh lv72 (Eq.mpr (v72_1a ..) ?_)
  obtain ⟨g1, g2, g3⟩ := drop_get hd
  have hx := hT x (List.mem_of_mem_drop (by rw [hd]; exact List.mem_cons_self))
  have hxl : x.toNat < V.length := by omega
  have hrow := (hr.get hxl).sz
  have hlen := hr.1
  simp only [List.length_cons] at hi
  have nx := zp4 T L m n hm hB hn hT hk xs (i + 1) (clrV V x) (clrR h x) (by rw [← Nat.add_assoc]; exact g3) (by omega) (hr.clr hxl) (by rw [z5b]; exact hV)
  rw [show (Int.toNat (i : Int)) = i from Int.toNat_natCast i, g2, w64 (x := (i : Int) + 1) (by omega) (by omega)]
  refine z01 (fun _ => ⟨⟨by omega, by omega⟩, ⟨by rw [z3z]; omega, rfl, rfl⟩, hx, ⟨by show 0 + x.toNat < _; omega, ?_, rfl⟩, hx, ⟨by show 0 + x.toNat < _; omega, by show (List.getD h (0 + x.toNat) []).length = 6; rw [Nat.zero_add]; exact hrow.1⟩, nx⟩) (fun h => absurd (of_decide_eq_false h) (by omega))
  show [FV.int .i64 (FV.asI (List.getD (List.getD h (0 + x.toNat) []) 0 FV.nils))] = List.take 1 (List.drop 0 (List.getD h (0 + x.toNat) []))
  rw [Nat.zero_add, List.drop_zero, hrow.2.1, hrow.2.2]
def za0 (s : Sto) (m n : Nat) : Sto := ⟨((s.T.drop m).foldl clrV s.V).take n, s.T.take m⟩
def OKT (s : Sto) : Prop := ∀ x ∈ s.T, 0 ≤ x ∧ x < (s.V.length : Int)
theorem c_sundo (s : Sto) (m n : Nat) (hm : m ≤ s.T.length) (hB : s.T.length ≤ 1073741824) (hn : n ≤ s.V.length) (hT : OKT s) (hk : ∀ x ∈ s.T.take m, x < (n : Int)) :
  AC Tryz.prog 72 [aS 0, .agg [.a (.fz (.int .i64 (m : Int))), .a (.fz (.int .i64 (n : Int)))]] (oS s) (.tup []) (oS' (za0 s m n)) := by
 have hr := zfa (s.T.drop m) s.V (SR s.V) (SR_of _) fun x hx => hT x (List.mem_of_mem_drop hx)
 refine AC.obj (Hs' := [.arr 2 [[.a (.osl 3 6 0 n), .a (.osl 4 1 0 m)]], .gone, .gone, .arz 6 ((s.T.drop m).foldl clrR (SR s.V)), .arz 1 (IR s.T)]) ?_ ⟨?_, .refl _, .refl _, ?_, ?_, trivial⟩
 · refine AC.vc hP sh lv72 (by simp) (by simp [isLive]) (by simp [isLive]) (Eq.mpr (v72 ..) ?_)
   rw [zes (by omega), zkt _ _ (by omega), Int.toNat_natCast, Int.toNat_natCast, Nat.zero_add]
   exact ⟨by omega, zp4 s.T s.V.length m n hm hB hn hT hk (s.T.drop m) 0 s.V (SR s.V) rfl (by simp) (SR_of _) rfl⟩
 · have e1 : (za0 s m n).V.length = n := by simp only [za0, List.length_take, z73]; omega
   have e2 : (za0 s m n).T.length = m := by simp only [za0, List.length_take]; omega
   rw [sto2, e1, e2]; exact .refl _
 · have e0 := z73 (s.T.drop m) s.V
   refine znr (by rw [z4p, hr.1, za0, List.length_take]; omega) fun i e e' he he' => ?_
   rw [SR, List.getElem?_map] at he'
   obtain ⟨v, hv, rfl⟩ := Option.map_eq_some_iff.1 he'
   rw [za0, List.getElem?_take] at hv
   split at hv
   · exact (hr.2 i v e hv he).le
   · cases hv
 · refine znr (by rw [z3z, z3z, za0, List.length_take]; omega) fun i e e' he he' => ?_
   rw [IR, List.getElem?_map] at he he'
   obtain ⟨v, hv, rfl⟩ := Option.map_eq_some_iff.1 he'
   obtain ⟨v2, hv2, rfl⟩ := Option.map_eq_some_iff.1 he
   rw [za0, List.getElem?_take] at hv
   split at hv
   · rw [hv2] at hv; injection hv with hv; subst hv; exact LeR.refl _
   · cases hv
end Go.AM

set_option maxRecDepth 100000
open Go Go.Proofs
namespace Go.AM
def z1o (fu : Int → Tm → Tm × Int × Int) : Bool → List Tm → Int → List Tm × Int × Int
 | _, [], g => ([], 0, g)
 | true, t :: l, g => (t :: (z1o fu false l g).1, (z1o fu false l g).2)
 | false, t :: l, g => if (fu g t).2.1 ≠ 0 then ([], (fu g t).2) else ((fu g t).1 :: (z1o fu false l (fu g t).2.2).1, (z1o fu false l (fu g t).2.2).2)
def za8 (h : Tm) (r : List Tm × Int × Int) : Tm × Int × Int := if r.2.1 ≠ 0 then (noT, r.2) else (.mk h.k h.s h.n r.1, r.2)
def zio (fu : Int → Tm → Tm × Int × Int) (q : Tm × Int × Int) : Tm × Int × Int := if q.2.1 ≠ 0 then (noT, q.2) else za8 q.1 (z1o fu (q.1.k == 6) q.1.l q.2.2)
def z8c (s : Sto) (f : Int) (t : Tm) : Tm × Int × Int := ((runH s f.toNat t).1, (runH s f.toNat t).2.1, f - ((runH s f.toNat t).2.2 : Int))
def z0g (s : Sto) : Nat → Int → Tm → Tm × Int × Int
 | 0, f, _ => (noT, 80, f)
 | D + 1, f, t => if f ≤ 0 then (noT, 80, f) else zio (z0g s D) (z8c s (f - 1) t)
theorem zic (s : Sto) : ∀ (F : Nat) (t : Tm), (runH s F t).2.2 ≤ F
 | 0, t => by
  have hr : runH s 0 t = if (z0c s t).2 = 0 then (t, 0, 0) else (noT, 80, 0) := rfl
  rw [hr]; split <;> exact Nat.le_refl _
 | F + 1, t => by
  have hr : runH s (F + 1) t = if (z0c s t).2 = 0 then (t, 0, 0) else if (z0c s t).2 = 2 then (noT, 80, 0) else ((runH s F (z0c s t).1).1, (runH s F (z0c s t).1).2.1, (runH s F (z0c s t).1).2.2 + 1) := rfl
  rw [hr]
  split
  · exact Nat.zero_le _
  · split
    · exact Nat.zero_le _
    · have := zic s F (z0c s t).1; simp only; omega
theorem z6k {fu : Int → Tm → Tm × Int × Int} (h : ∀ g t, 0 ≤ g → 0 ≤ (fu g t).2.2 ∧ (fu g t).2.2 ≤ g) : ∀ (l : List Tm) (sk : Bool) (g : Int), 0 ≤ g → 0 ≤ (z1o fu sk l g).2.2 ∧ (z1o fu sk l g).2.2 ≤ g
 | [], _, g, hg => ⟨hg, Int.le_refl _⟩
 | t :: l, true, g, hg => z6k h l false g hg
 | t :: l, false, g, hg => by
  have h1 := h g t hg
  rw [z1o]
  split
  · exact h1
  · have := z6k h l false _ h1.1
    exact ⟨this.1, by simp only; omega⟩
theorem z4q (s : Sto) : ∀ (D : Nat) (f : Int) (t : Tm), 0 ≤ f → 0 ≤ (z0g s D f t).2.2 ∧ (z0g s D f t).2.2 ≤ f
 | 0, f, t, h => ⟨h, Int.le_refl _⟩
 | D + 1, f, t, h => by
  rw [z0g]
  split
  · exact ⟨h, Int.le_refl _⟩
  · have h1 := zic s (f - 1).toNat t
    have h2 : 0 ≤ (z8c s (f - 1) t).2.2 ∧ (z8c s (f - 1) t).2.2 ≤ f - 1 := by simp only [z8c]; omega
    unfold zio
    split
    · exact ⟨h2.1, by simp only; omega⟩
    · have h3 := z6k (z4q s D) (z8c s (f - 1) t).1.l ((z8c s (f - 1) t).1.k == 6) _ h2.1
      unfold za8
      split <;> exact ⟨h3.1, by simp only; omega⟩
abbrev aFT (z : Tm × Int × Int) : TV := aTE z.1 z.2.1
abbrev aEP3 : TV := .c (.a (.ep 3 1 0 0))
abbrev stF (s : Sto) (k : Int) (str : List UInt8) (n : Int) (l0 : List Tm) (g : Int) (l : List Tm) (i : Int) : St :=
 ⟨[(0, aS 0), (2, aEP3), (4, .c (.a (.ep 4 4 0 0))), (6, .c (.a (.ep 5 4 0 0))), (9, .c (.a (.osl 6 4 0 l0.length))), (36, ci l0.length), (37, ci i)],
  [(0, sto2 1 2 s), (1, .arz 6 (SR s.V)), (2, .arz 1 (IR s.T)), (3, obj1 g), (4, .arr 4 [cT (.mk k str n l0)]), (5, .arr 4 [zT]), (6, .arz 4 (FTs l))], 7⟩
theorem zhu (s : Sto) (k : Int) (str : List UInt8) (n : Int) (l0 : List Tm) (hl0 : l0.length ≤ SZ) (fu : Int → Tm → Tm × Int × Int) (hfu : ∀ g t, 0 ≤ g → 0 ≤ (fu g t).2.2 ∧ (fu g t).2.2 ≤ g) :
  ∀ (b a : List Tm) (sk : Bool) (g : Int), sk = ((k == 6) && (a.length == 0)) → a.length + b.length = l0.length → 0 ≤ g →
  (∀ u ∈ b, ∀ g' : Int, 0 ≤ g' → g' ≤ g → AC Tryz.prog 68 [aS 0, aT u, aEP3] (oSf s g') (aFT (fu g' u)) (oSf s (fu g' u).2.2)) →
  RPt Tryz.prog 68 4 (aFT (za8 (.mk k str n l0) (a ++ (z1o fu sk b g).1, (z1o fu sk b g).2))) (oSf s (z1o fu sk b g).2.2) 1 (stF s k str n l0 g (a ++ b) a.length)
 | [], a, sk, g, hsk, hlen, hg, _ => by
  refine RPt.vc hP sh lv68 (Eq.mpr (v68_1b l0.length l0.length a.length s.V.length s.T.length (SR s.V) (IR s.T) g k str n (FTs l0) 0 [] 0 (FTs (a ++ [])) _ _) ?_)
  simp only [List.length_nil, Nat.add_zero] at hlen
  refine z01 (fun h => absurd (of_decide_eq_true h) (by omega)) (fun _ => ⟨⟨⟨rfl, by rw [z00]; simp; omega⟩, trivial⟩, ?_, rfl⟩)
  rw [List.drop_zero, List.take_of_length_le (by rw [z00]; simp; omega)]
  exact leTE leSl
 | t :: b, a, sk, g, hsk, hlen, hg, ih => by
  simp only [List.length_cons, SZ] at hlen hl0
  have em := z5g a t b
  have h3 := ltI' a t b
  have el : (0 + Int.toNat (a.length : Int)) < (FTs (a ++ t :: b)).length ∧ ((rE (List.getD (FTs (a ++ t :: b)) (0 + Int.toNat (a.length : Int)) []) : List FV) = List.take 4 (List.drop 0 (List.getD (FTs (a ++ t :: b)) (0 + Int.toNat (a.length : Int)) [])) ∧ (4 : Nat) = 4) := by
   rw [Nat.zero_add, em]
   refine ⟨by omega, ?_, rfl⟩
   rw [midI, List.drop_zero, List.take_of_length_le (by rw [z2s]; exact Nat.le_refl _)]
  have el2 : (0 + Int.toNat (a.length : Int)) < (FTs (a ++ t :: b)).length ∧ (List.getD (FTs (a ++ t :: b)) (0 + Int.toNat (a.length : Int)) []).length = 4 := ⟨el.1, by rw [Nat.zero_add, midI]; exact z2s t⟩
  have ea : aE (List.getD (FTs (a ++ t :: b)) (0 + Int.toNat (a.length : Int)) []) = aT t := by rw [Nat.zero_add, z4v]
  refine RPt.vc hP sh lv68 (Eq.mpr (v68_1b l0.length l0.length a.length s.V.length s.T.length (SR s.V) (IR s.T) g k str n (FTs l0) 0 [] 0 (FTs (a ++ t :: b)) _ _) ?_)
  rw [ea, w64 (x := (a.length : Int) + 1) (by omega) (by omega)]
  refine z01 (fun _ => ?_) (fun h => absurd (of_decide_eq_false h) (by omega))
  cases sk with
  | true =>
   have hsk : (k == 6) = true ∧ (a.length == 0) = true := by rw [← Bool.and_eq_true]; exact hsk.symm
   have ha : a = [] := List.eq_nil_of_length_eq_zero (by simpa using hsk.2)
   subst ha
   have h2 := zhu s k str n l0 (by simp only [SZ]; omega) fu hfu b [t] false g (by simp) (by simp at hlen ⊢; omega) hg (fun u hu => ih u (List.mem_cons_of_mem _ hu))
   exact z01 (fun _ => z01 (fun _ => h2) (fun h => by cases h)) (fun h => absurd hsk.1 (by rw [h]; simp))
  | false =>
   have hc := ih t List.mem_cons_self g hg (Int.le_refl _)
   have hq := hfu g t hg
   have go : ((0 : Int) ≤ (a.length : Int) ∧ (a.length : Int) < ((l0.length : Nat) : Int)) := by omega
   have eK : z1o fu false (t :: b) g = if (fu g t).2.1 ≠ 0 then ([], (fu g t).2) else ((fu g t).1 :: (z1o fu false b (fu g t).2.2).1, (z1o fu false b (fu g t).2.2).2) := rfl
   have next := zhu s k str n l0 (by simp only [SZ]; omega) fu hfu b (a ++ [(fu g t).1]) false (fu g t).2.2 (by simp) (by simp; omega) hq.1 (fun u hu g' h0 h1 => ih u (List.mem_cons_of_mem _ hu) g' h0 (by omega))
   generalize fu g t = z at *
   obtain ⟨z1, z2, z3⟩ := z
   simp only at hc hq eK next
   have step : br (z2 != 0) (TV.Le (.tup [(true, [.a (.fz (.int .i64 0)), .a (.fz (.str [])), .a (.fz (.int .i64 0)), .a (.fz .nils)]), (false, [.a (.fz (.int .i64 z2))])]) (aFT (za8 (.mk k str n l0) (a ++ (z1o fu false (t :: b) g).1, (z1o fu false (t :: b) g).2))) ∧ oSf s z3 = oSf s (z1o fu false (t :: b) g).2.2)
     (RPt Tryz.prog 68 4 (aFT (za8 (.mk k str n l0) (a ++ (z1o fu false (t :: b) g).1, (z1o fu false (t :: b) g).2))) (oSf s (z1o fu false (t :: b) g).2.2) 1 (stF s k str n l0 z3 (a ++ z1 :: b) ((a.length : Int) + 1))) := by
    refine z01 (fun h => ?_) (fun h => ?_)
    · have h : z2 ≠ 0 := by simpa using h
      rw [if_pos h] at eK
      rw [eK, za8, if_pos h]
      exact ⟨leTE (l := []) z0l, rfl⟩
    · have h : ¬ z2 ≠ 0 := by simpa using h
      rw [if_neg h] at eK
      rw [eK]
      rw [List.append_assoc, ap a z1 b, nx] at next
      exact next
   have tail := step
   rw [show stF s k str n l0 z3 (a ++ z1 :: b) ((a.length : Int) + 1) = ⟨[(0, aS 0), (2, aEP3), (4, .c (.a (.ep 4 4 0 0))), (6, .c (.a (.ep 5 4 0 0))), (9, .c (.a (.osl 6 4 0 l0.length))), (36, ci l0.length), (37, ci ((a.length : Int) + 1))],
  [(0, sto2 1 2 s), (1, .arz 6 (SR s.V)), (2, .arz 1 (IR s.T)), (3, obj1 z3), (4, .arr 4 [cT (.mk k str n l0)]), (5, .arr 4 [zT]), (6, .arz 4 (List.set (FTs (a ++ t :: b)) (0 + Int.toNat (a.length : Int)) (FT4 z1)))], 7⟩ by rw [zqm]] at tail
   have hsk : ((k == 6) && (a.length == 0)) = false := hsk.symm
   refine z01 (fun h6 => z01 (fun h0 => ?_) (fun _ => ⟨go, el, (z1, z2, z3), hc, go, el2, tail⟩)) (fun _ => ⟨go, el, (z1, z2, z3), hc, go, el2, tail⟩)
   exfalso
   have h6 : (k == 6) = true := h6
   have h0 : ((a.length : Int) == 0) = true := h0
   rw [h6, Bool.true_and] at hsk
   simp at hsk h0
   exact hsk h0
theorem c_sfull (s : Sto) (hs : OKS s) : ∀ (D : Nat) (f : Int) (t : Tm), f.toNat ≤ D → 0 - 9223372036854775808 ≤ f → z02 t = true → Fit f.toNat t → AC Tryz.prog 68 [aS 0, aT t, aEP3] (oSf s f) (aFT (z0g s D f t)) (oSf s (z0g s D f t).2.2) := by
 intro D
 induction D with
 | zero =>
  intro f t hD h0 hv hf
  obtain ⟨k, str, n, l⟩ := t
  refine AC.vc hP sh lv68 (Nat.le_refl _) (by simp [isLive]) (by simp) (Eq.mpr (v68 k str n (FTs l) ..) ?_)
  exact z01 (fun _ => ⟨leTE (l := []) z0l, rfl⟩) (fun h => absurd (of_decide_eq_false h) (by omega))
 | succ D ihD =>
  intro f t hD h0 hv hf
  by_cases hf0 : f ≤ 0
  · have e : z0g s (D + 1) f t = (noT, 80, f) := by rw [z0g, if_pos hf0]
    rw [e]
    obtain ⟨k, str, n, l⟩ := t
    refine AC.vc hP sh lv68 (Nat.le_refl _) (by simp [isLive]) (by simp) (Eq.mpr (v68 k str n (FTs l) ..) ?_)
    exact z01 (fun _ => ⟨leTE (l := []) z0l, rfl⟩) (fun h => absurd (of_decide_eq_false h) (by omega))
  · have hfit := hf.mono (show (f - 1).toNat ≤ f.toNat by omega)
    have hf5 := hf.2.2.2
    have hh := zqe s hs (f - 1).toNat (f - 1) t rfl (by omega) hv hfit
    have hq := z87 hs hv hfit
    have e : z0g s (D + 1) f t = zio (z0g s D) (z8c s (f - 1) t) := by rw [z0g, if_neg hf0]
    rw [e]
    have eh : z8c s (f - 1) t = ((runH s (f - 1).toNat t).1, (runH s (f - 1).toNat t).2.1, f - 1 - ((runH s (f - 1).toNat t).2.2 : Int)) := rfl
    rw [eh]
    generalize runH s (f - 1).toNat t = q at *
    obtain ⟨h, er, u⟩ := q
    simp only at hh hq ⊢
    obtain ⟨hu, hq⟩ := hq
    have start : ∀ (r : TV) (o : Int), br (er != 0) (TV.Le (.tup [(true, [.a (.fz (.int .i64 0)), .a (.fz (.str [])), .a (.fz (.int .i64 0)), .a (.fz .nils)]), (false, [.a (.fz (.int .i64 er))])]) r ∧ oSf s (f - 1 - (u : Int)) = oSf s o)
      ((∃ b : Bool, AC Tryz.prog 102 [.c (.a (.fz (.sl false 4 (FTs h.l))))] [] (.c (.a (.fz (.sl b 4 [])))) [] ∧ FV.isSl 4 (.sl b 4 []) = true ∧ RPt Tryz.prog 68 4 r (oSf s o) 1 ⟨[(0, aS 0), (2, aEP3), (4, .c (.a (.ep 4 4 0 0))), (6, .c (.a (.ep 5 4 0 0))), (9, .c (.a (.fz (.sl b 4 [])))), (36, ci 0), (37, ci 0)],
        [(0, sto2 1 2 s), (1, .arz 6 (SR s.V)), (2, .arz 1 (IR s.T)), (3, obj1 (f - 1 - (u : Int))), (4, .arr 4 [cT h]), (5, .arr 4 [zT])], 6⟩) ∨
       (∃ z : List (List FV), AC Tryz.prog 102 [.c (.a (.fz (.sl false 4 (FTs h.l))))] [] (.c (.a (.osl 0 4 0 z.length))) [.arz 4 z] ∧ RPt Tryz.prog 68 4 r (oSf s o) 1 ⟨[(0, aS 0), (2, aEP3), (4, .c (.a (.ep 4 4 0 0))), (6, .c (.a (.ep 5 4 0 0))), (9, .c (.a (.osl 6 4 0 z.length))), (36, ci z.length), (37, ci 0)],
          [(0, sto2 1 2 s), (1, .arz 6 (SR s.V)), (2, .arz 1 (IR s.T)), (3, obj1 (f - 1 - (u : Int))), (4, .arr 4 [cT h]), (5, .arr 4 [zT]), (6, .arz 4 z)], 7⟩)) →
      AC Tryz.prog 68 [aS 0, aT t, aEP3] (oSf s f) r (oSf s o) := fun r o hb => by
     obtain ⟨tk, ts, tn, tl⟩ := t
     refine AC.vc hP sh lv68 (Nat.le_refl _) (by simp [isLive]) (by simp) (Eq.mpr (v68 tk ts tn (FTs tl) ..) ?_)
     rw [w64 (x := f - 1) (by omega) (by omega)]
     exact z01 (fun h => absurd (of_decide_eq_true h) (by omega)) (fun _ => ⟨(h, er, f - 1 - (u : Int)), hh, hb⟩)
    refine start _ _ (z01 (fun he => ?_) (fun he => ?_))
    · have he : er ≠ 0 := by simpa using he
      rw [zio, if_pos he]
      exact ⟨leTE (l := []) z0l, rfl⟩
    · have he : er = 0 := by simpa using he
      subst he
      rcases hq with ⟨_, hvh, hfh, _⟩ | ⟨h80, _⟩
      · have hls : h.l.length ≤ SZ := by have := hfh.sz; have := h.sz_eq; have := Tm.szs_length h.l; omega
        rw [zio, if_neg (by simp)]
        have hg0 : 0 ≤ f - 1 - (u : Int) := by omega
        have kid : ∀ x ∈ h.l, ∀ g' : Int, 0 ≤ g' → g' ≤ f - 1 - (u : Int) → AC Tryz.prog 68 [aS 0, aT x, aEP3] (oSf s g') (aFT (z0g s D g' x)) (oSf s (z0g s D g' x).2.2) := fun x hx g' h0 h1 => by
         have hvx : z02 x = true := by
          obtain ⟨hk, hst, hn, hl⟩ := h
          by_cases h5 : hk = 5 ∨ hk = 6
          · exact z24 hvh h5 x hx
          · rw [not_or] at h5
            have := okB0 (z09 _ hvh) h5.1 h5.2
            have hx : x ∈ hl := hx
            rw [this] at hx; cases hx
         exact ihD g' x (by omega) (by omega) hvx ((hfh.kid hx).mono (by omega))
        have loop := zhu s h.k h.s h.n h.l hls (z0g s D) (z4q s D) h.l [] (h.k == 6) (f - 1 - (u : Int)) (by simp) (by simp) hg0 kid
        obtain ⟨hk, hst, hn, hl⟩ := h
        simp only [Tm.l, Tm.k, Tm.s, Tm.n, List.nil_append] at loop hls ⊢
        have e9 : za8 (.mk hk hst hn hl) ((z1o (z0g s D) (hk == 6) hl (f - 1 - (u : Int))).1, (z1o (z0g s D) (hk == 6) hl (f - 1 - (u : Int))).2) = za8 (.mk hk hst hn hl) (z1o (z0g s D) (hk == 6) hl (f - 1 - (u : Int))) := rfl
        have e8 : (za8 (.mk hk hst hn hl) (z1o (z0g s D) (hk == 6) hl (f - 1 - (u : Int)))).2.2 = (z1o (z0g s D) (hk == 6) hl (f - 1 - (u : Int))).2.2 := by unfold za8; split <;> rfl
        rw [e8]
        by_cases hnil : hl = []
        · subst hnil
          refine .inl ⟨false, zib.2, rfl, ?_⟩
          refine RPt.vc hP sh lv68 (Eq.mpr (v68_1a false [] 0 0 s.V.length s.T.length (SR s.V) (IR s.T) (f - 1 - (u : Int)) hk hst hn (FTs []) 0 [] 0 _ _) ?_)
          exact z01 (fun h => by cases h) (fun _ => ⟨.refl _, rfl⟩)
        · refine .inr ⟨FTs hl, zib.1 (FTs hl) (by rw [z26]; simp [hnil]) (by rw [z00]; simp only [SZ, B] at *; omega), ?_⟩
          rw [z00]
          exact loop
      · cases h80
end Go.AM

set_option maxRecDepth 100000
open Go Go.Proofs
namespace Go.AM
def lastT (l : List Tm) : Tm := l.getLastD default
def zeg (b : Tm) : Tm := z07 (hd b.l) b.l.tail.dropLast
def z43 (b : Tm) : Bool := b.k == 6 && (lastT b.l).k == 3 && (lastT b.l).n == 0 && occF (zeg b) 0 == 0
def z99 (b : Tm) : Tm := if z43 b = true then shT 0 (-1) (zeg b) 0 else noT
mutual
def z08 : Tm → Tm
 | .mk k s n l => if (k == 5) = true then (if z43 (hd (z1p l)) = true then z99 (hd (z1p l)) else .mk 5 [] 0 [hd (z1p l)]) else if (k == 6) = true then z07 (hd (z1p l)) (z1p l).tail else .mk k s n l
def z1p : List Tm → List Tm
 | [] => []
 | t :: l => z08 t :: z1p l
end
theorem zfx {k n : Int} {s : List UInt8} {l : List Tm} (h : okB (.mk k s n l) = true) (hk : k = 6) : ∃ x a z, l = x :: a ++ [z] ∧ x.k ≠ 6 ∧ okB x = true ∧ okL a = true ∧ okB z = true := by
 obtain ⟨x, y, r, rfl, h6, hl⟩ := okB6 h hk
 refine ⟨x, (y :: r).dropLast, (y :: r).getLast (by simp), by rw [List.cons_append, List.dropLast_concat_getLast], h6, z4i hl List.mem_cons_self, zqv fun u hu => z4i hl (List.mem_cons_of_mem _ (List.dropLast_subset _ hu)), z4i hl (List.mem_cons_of_mem _ (List.getLast_mem _))⟩
theorem last_app (x : Tm) (a : List Tm) (z : Tm) : lastT (x :: a ++ [z]) = z := by
 rw [lastT, List.getLastD_eq_getLast?, List.getLast?_append]; rfl
theorem zag (k n : Int) (s : List UInt8) (x : Tm) (a : List Tm) (z : Tm) : zeg (.mk k s n (x :: a ++ [z])) = z07 x a := by
 rw [zeg]; show z07 x ((a ++ [z]).dropLast) = _
 rw [List.dropLast_concat]
theorem drop6 {b : Tm} (h : z43 b = true) : b.k = 6 := by
 simp only [z43, Bool.and_eq_true, beq_iff_eq] at h; exact h.1.1.1
theorem drop0 {b : Tm} (h : z43 b = true) : occF (zeg b) 0 = 0 := by
 simp only [z43, Bool.and_eq_true, beq_iff_eq] at h; exact h.2
theorem zju {b : Tm} (h : okB b = true) (hk : b.k = 6) : okB (zeg b) = true ∧ (lvB b = true → lvB (zeg b) = true) ∧ (zeg b).sz ≤ b.sz ∧ ∀ M, bd M b → bd M (zeg b) := by
 obtain ⟨k, s, n, l⟩ := b
 have hk' : k = 6 := hk
 obtain ⟨x, a, z, rfl, h6, hx, ha, hz⟩ := zfx h hk'
 rw [zag]
 refine ⟨z4w hx ha, fun hl => ?_, ?_, fun M hb => ?_⟩
 · rw [z2r (.inr hk')] at hl
   exact z4u (z7e hl List.mem_cons_self) (zjs fun u hu => z7e hl (List.mem_cons_of_mem _ (List.mem_append_left _ hu)))
 · have := z2g x a
   simp only [Tm.sz, List.cons_append, Tm.szs, Tm.szs_append]; omega
 · exact z2j (z2v hb.2 List.mem_cons_self) (z71 fun u hu => z2v hb.2 (List.mem_cons_of_mem _ (List.mem_append_left _ hu)))
theorem zkf : ∀ {l : List Tm} {i : Int}, occL l i = 0 → ∀ u ∈ l, occF u i = 0
 | x :: l, i, h, u, hu => by
  simp only [occL] at h
  rcases List.mem_cons.1 hu with rfl | hu
  · omega
  · exact zkf (l := l) (by omega) u hu
theorem occ_kids {k n : Int} {s : List UInt8} {l : List Tm} {d : Int} (h : occF (.mk k s n l) d = 0) : ∀ u ∈ l, occF u (d + if (k == 5) = true then 1 else 0) = 0 := by
 rw [occF] at h
 split at h
 · cases h
 · exact zkf h
theorem zr0 {t : Tm} (h : lvB t = true) (d : Int) (h0 : occF t d = 0) (hd : 0 ≤ d) : lvB (shT 0 (-1) t d) = true := by
 refine zal _ (fun u d => occF u d = 0 ∧ 0 ≤ d) (fun k s n l d hQ u hu => ⟨occ_kids hQ.1 u hu, by have := hQ.2; split <;> omega⟩) (fun u d hu hQ h5 h6 => ?_) t d h ⟨h0, hd⟩
 unfold z3s
 split
 · rename_i hc
   obtain ⟨k, s, n, l⟩ := u
   have hk : k = 3 := by have hc := hc.1; have hc : (k == 3) = true := hc; simpa using hc
   subst hk
   rw [z7c (by decide) (by decide), zdb] at hu
   have h1 : n ≠ d := fun e => by
    have := hQ.1
    rw [occF, if_pos ⟨rfl, by simp [e]⟩] at this; cases this
   have h2 : d + 0 ≤ n := hc.2
   have := hQ.2
   show lvB (.mk 3 s (n + -1) l) = true
   rw [z7c (by decide) (by decide), zdb]
   exact ⟨by omega, by omega, hu.2.2.1, hu.2.2.2⟩
 · exact hu
theorem zmw {M : Int} (hM : 1 ≤ M) {t : Tm} (h : bd M t) (d : Int) (hd : 0 ≤ d) : bd M (shT 0 (-1) t d) := by
 refine zaj _ M M (d + t.sz) (fun u d' hu h0 _ => ?_) t d h hd (Int.le_refl _)
 unfold z3s
 split
 · rename_i hc
   obtain ⟨k, s, n, l⟩ := u
   exact ⟨fun e => by have := hu.1 e; have h2 : d' + 0 ≤ n := hc.2; simp only [Tm.n]; omega, hu.2⟩
 · exact hu
theorem dropF_ok {b : Tm} (h : okB b = true) (hd : z43 b = true) : okB (z99 b) = true ∧ (lvB b = true → lvB (z99 b) = true) ∧ (z99 b).sz ≤ b.sz ∧ ∀ M, 1 ≤ M → bd M b → bd M (z99 b) := by
 obtain ⟨h1, h2, h3, h4⟩ := zju h (drop6 hd)
 rw [z99, if_pos hd]
 exact ⟨zpm 0 h1, fun hl => zr0 (h2 hl) 0 (drop0 hd) (Int.le_refl _), Nat.le_trans (zd6 ..) h3, fun M hM hb => zmw hM (h4 M hb) 0 (Int.le_refl _)⟩
mutual
theorem z5k : ∀ t : Tm, okB t = true → okB (z08 t) = true ∧ (lvB t = true → lvB (z08 t) = true) ∧ (z08 t).sz ≤ t.sz ∧ ∀ M, 1 ≤ M → bd M t → bd M (z08 t)
 | .mk k s n l, h => by
  have hl := zft l (zhp h)
  rw [z08]
  split
  · rename_i h5
    have h5 : k = 5 := by simpa using h5
    obtain ⟨x, rfl, hx⟩ := okB5 h h5
    obtain ⟨g1, g2, g3, g4⟩ := hl
    simp only [z1p, okL, lvL, Bool.and_true, Tm.szs] at g1 g2 g3 g4
    show okB (if z43 (z08 x) = true then z99 (z08 x) else .mk 5 [] 0 [z08 x]) = true ∧ _
    rw [show hd (z1p [x]) = z08 x from rfl]
    split
    · rename_i hd
      obtain ⟨f1, f2, f3, f4⟩ := dropF_ok g1 hd
      refine ⟨f1, fun hl => f2 (g2 ?_), by simp only [Tm.sz, Tm.szs]; omega, fun M hM hb => f4 M hM (g4 M hM hb.2).1⟩
      rw [z2r (.inl h5)] at hl
      simpa [lvL] using hl
    · refine ⟨by simp [okB, okL, g1], fun hl => ?_, by simp only [Tm.sz, Tm.szs]; omega, fun M hM hb => ⟨fun e => by omega, g4 M hM hb.2⟩⟩
      rw [z2r (.inl h5)] at hl
      rw [z2r (.inl rfl)]
      simp only [lvL, Bool.and_true] at hl ⊢
      exact g2 hl
  · split
    · rename_i h6
      have h6 : k = 6 := by simpa using h6
      obtain ⟨x, y, r, rfl, _, _⟩ := okB6 h h6
      obtain ⟨g1, g2, g3, g4⟩ := hl
      rw [show hd (z1p (x :: y :: r)) = z08 x from rfl, show (z1p (x :: y :: r)).tail = z1p (y :: r) from rfl]
      rw [show z1p (x :: y :: r) = z08 x :: z1p (y :: r) from rfl] at g1 g2 g3 g4
      simp only [okL, Bool.and_eq_true] at g1
      refine ⟨z4w g1.1 g1.2, fun hl => ?_, ?_, fun M hM hb => ?_⟩
      · rw [z2r (.inr h6)] at hl
        have := g2 hl
        simp only [lvL, Bool.and_eq_true] at this
        exact z4u this.1 this.2
      · have := z2g (z08 x) (z1p (y :: r))
        simp only [Tm.szs] at g3
        simp only [Tm.sz, Tm.szs]; omega
      · have := g4 M hM hb.2
        exact z2j this.1 this.2
    · exact ⟨h, fun hl => hl, Nat.le_refl _, fun M _ hb => hb⟩
theorem zft : ∀ l : List Tm, okL l = true → okL (z1p l) = true ∧ (lvL l = true → lvL (z1p l) = true) ∧ Tm.szs (z1p l) ≤ Tm.szs l ∧ ∀ M, 1 ≤ M → bds M l → bds M (z1p l)
 | [], _ => ⟨rfl, fun _ => rfl, Nat.le_refl _, fun _ _ _ => trivial⟩
 | t :: l, h => by
  simp only [okL, Bool.and_eq_true] at h
  obtain ⟨a1, a2, a3, a4⟩ := z5k t h.1
  obtain ⟨b1, b2, b3, b4⟩ := zft l h.2
  refine ⟨by simp only [z1p, okL, a1, b1, Bool.and_self], fun hl => ?_, by simp only [z1p, Tm.szs]; omega, fun M hM hb => ⟨a4 M hM hb.1, b4 M hM hb.2⟩⟩
  simp only [lvL, Bool.and_eq_true] at hl
  simp only [z1p, lvL, a2 hl.1, b2 hl.2, Bool.and_self]
end
theorem c_efree (t : Tm) (i : Int) (hs : t.sz ≤ B) (h0 : 0 - 2305843009213693952 ≤ i) (h1 : i + t.sz ≤ 2305843009213693952) : AC Tryz.prog 130 [aT t, ci i] [] (cb (z02 t && decide (occF t i > 0))) [] := by
 have h := zr6 t hs i h0 h1
 obtain ⟨k, s, n, l⟩ := t
 refine AC.vc hP sh lv130 (Nat.le_refl _) (by simp) (by simp) (Eq.mpr (v130 k s n (FTs l) i _ _) ?_)
 refine ⟨_, h, z06 ?_⟩
 cases z02 (.mk k s n l) with
 | false => rfl
 | true => simp
theorem lastI (x : Tm) (a : List Tm) (z : Tm) (hl : a.length ≤ SZ) : IntKind.wrap .i64 ((((FTs (x :: a ++ [z])).length : Nat) : Int) - 1) = ((x :: a).length : Int) := by
 rw [z00]; simp only [SZ] at hl
 rw [w64 (by simp; omega) (by simp; omega)]; simp
theorem c_edrop (b : Tm) (ho : okB b = true) (hl : lvB b = true) (hs : b.sz ≤ SZ) (hb : bd M61 b) : AC Tryz.prog 104 [aT b] [] (.tup [(true, cT (z99 b)), (false, [.a (.fz (.bool (z43 b)))])]) [] := by
 have no : z43 b = false → z99 b = noT := fun h => if_neg (by rw [h]; simp)
 obtain ⟨k, s, n, l⟩ := b
 have hlen := Tm.szs_length l
 simp only [Tm.sz, SZ] at hs
 refine AC.vc hP sh lv104 (Nat.le_refl _) (by simp) (by simp) (Eq.mpr (v104 k s n (FTs l) _ _) ?_)
 refine ⟨rfl, z01 (fun h => ?_) (fun h => ?_)⟩
 · have hd : z43 (.mk k s n l) = false := by
    have h : (k != 6) = true := h
    rw [z43, show (Tm.k (.mk k s n l) == 6) = false by show (k == 6) = false; simpa using h]; rfl
   rw [no hd, hd]
   exact ⟨leTB (l := []) z0l, rfl⟩
 · have h6 : k = 6 := by simpa using h
   subst h6
   obtain ⟨x, a, z, rfl, hx6, hx, ha, hz⟩ := zfx ho rfl
   obtain ⟨r1, r2, r3, r4⟩ := zju ho rfl
   have hd : z43 (.mk 6 s n (x :: a ++ [z])) = (z.k == 3 && z.n == 0 && occF (z07 x a) 0 == 0) := by
    rw [z43, zag, show Tm.l (.mk 6 s n (x :: a ++ [z])) = x :: a ++ [z] from rfl, last_app]; rfl
   have hdF : z43 (.mk 6 s n (x :: a ++ [z])) = true → z99 (.mk 6 s n (x :: a ++ [z])) = shT 0 (-1) (z07 x a) 0 := fun h => by rw [z99, if_pos h, zag]
   rw [zag] at r1 r2 r3 r4
   have hal : a.length ≤ 130000000 := by rw [List.length_append, List.length_cons] at hlen; omega
   rw [lastI x a z hal]
   have el : FV.isSl 4 (.sl false 4 (FTs (x :: a ++ [z]))) = true ∧ ((0 : Int) ≤ ((x :: a).length : Int) ∧ (((x :: a).length : Int) < (((FTs (x :: a ++ [z])).length : Nat) : Int) ∧ (rE (List.getD (FTs (x :: a ++ [z])) (Int.toNat ((x :: a).length : Int)) []) : List FV) = List.getD (FTs (x :: a ++ [z])) (Int.toNat ((x :: a).length : Int)) [])) := ⟨rfl, by omega, ltI' (x :: a) z [], z5g (x :: a) z []⟩
   have ez : List.getD (FTs (x :: a ++ [z])) (Int.toNat ((x :: a).length : Int)) [] = FT z := midI (x :: a) z []
   have ek : FV.asI (List.getD (List.getD (FTs (x :: a ++ [z])) (Int.toNat ((x :: a).length : Int)) []) 0 FV.nils) = z.k := by rw [ez]; cases z; rfl
   have en : FV.asI (List.getD (List.getD (FTs (x :: a ++ [z])) (Int.toNat ((x :: a).length : Int)) []) 2 FV.nils) = z.n := by rw [ez]; cases z; rfl
   rw [ek, en]
   refine ⟨el, z01 (fun h1 => ?_) (fun h1 => ⟨el, z01 (fun h2 => ?_) (fun h2 => ⟨el0 x (a ++ [z]), rfl, ⟨by omega, by simp only [List.length_cons]; omega, by rw [lenI, List.length_append]; omega⟩, ?_⟩)⟩)⟩
   · have hd' : z43 (.mk 6 s n (x :: a ++ [z])) = false := by
      have h1 : (z.k != 3) = true := h1
      rw [hd, show (z.k == 3) = false by simpa using h1]; rfl
     rw [no hd', hd']
     exact ⟨leTB (l := []) z0l, rfl⟩
   · have hd' : z43 (.mk 6 s n (x :: a ++ [z])) = false := by
      have h2 : (z.n != 0) = true := h2
      rw [hd, show (z.n == 0) = false by simpa using h2]; simp
     rw [no hd', hd']
     exact ⟨leTB (l := []) z0l, rfl⟩
   · have e1 : aE (List.getD (FTs (x :: a ++ [z])) 0 []) = aT x := zc6 x
     have e2 : List.drop 1 (List.take (Int.toNat ((x :: a).length : Int)) (FTs (x :: a ++ [z]))) = FTs a := by
      rw [z82, FTs_take, zlh, List.take_left]; rfl
     rw [e1, e2]
     have hxs : x.l.length ≤ x.sz := by have := x.sz_eq; have := Tm.szs_length x.l; omega
     have hxz : x.sz ≤ 130000000 := by simp only [List.cons_append, Tm.szs] at hs; omega
     have hap := z3p x a (by omega)
     have hrz : (z07 x a).sz ≤ SZ := by simp only [Tm.sz] at r3; simp only [SZ]; omega
     have hfr := c_efree (z07 x a) 0 (by simp only [SZ, B] at *; omega) (by omega) (by simp only [SZ] at hrz; omega)
     have hva : z02 (z07 x a) = true := by rw [z2t, r1, r2 hl]; rfl
     rw [hva, Bool.true_and] at hfr
     have hsh := zih (z07 x a) 0 (-1) (by simp only [SZ, B] at *; omega) (r4 _ hb) (Int.le_refl _) (by simp only [M61]; omega) (by omega) (by simp only [M61]; omega)
     have hz3 : (z.k == 3) = true := by
      have h1 : (z.k != 3) = false := h1
      simpa using h1
     have hz0 : (z.n == 0) = true := by
      have h2 : (z.n != 0) = false := h2
      simpa using h2
     refine ⟨_, hap, _, hfr, z01 (fun h3 => ?_) (fun h3 => ?_)⟩
     · have hd' : z43 (.mk 6 s n (x :: a ++ [z])) = false := by
        have h3 := of_decide_eq_true h3
        rw [hd, show (occF (z07 x a) 0 == 0) = false by simp; omega, Bool.and_false]
       rw [no hd', hd']
       exact ⟨leTB (l := []) z0l, rfl⟩
     · have hd' : z43 (.mk 6 s n (x :: a ++ [z])) = true := by
        have h3 := of_decide_eq_false h3
        rw [hd, hz3, hz0, show (occF (z07 x a) 0 == 0) = true by simp; omega]; rfl
       rw [hdF hd', hd']
       exact ⟨_, hsh, .refl _, rfl⟩
theorem zgk : ∀ (b a acc : List Tm), acc ≠ [] → acc.length = a.length → (∀ u ∈ b, AC Tryz.prog 71 [aT u] [] (aT (z08 u)) []) → (a ++ b).length ≤ SZ → (hd (acc ++ z1p b)).l.length ≤ B →
  RPt Tryz.prog 71 0 (aT (z07 (hd (acc ++ z1p b)) (acc ++ z1p b).tail)) [] 3 ⟨[(2, .c (.a (.ep 0 4 0 0))), (6, .c (.a (.osl 1 4 0 acc.length))), (30, aL (a ++ b)), (31, ci (((FTs (a ++ b)).length : Nat) : Int)), (32, ci a.length)], [(0, .arr 4 [zT]), (1, .arz 4 (FTs acc))], 2⟩
 | [], a, acc, hne, hlen, _, hl, hh => by
  simp only [z1p, List.append_nil] at hh hl ⊢
  refine RPt.vc hP sh lv71 (Eq.mpr (v71_3b ..) ?_)
  match acc, hne, hlen, hh with
  | x :: r, _, hlen, hh =>
   simp only [SZ, B, List.length_cons] at hl hlen hh
   have hh : x.l.length ≤ 549755813888 := hh
   have hap := z3p x r (by omega)
   have e2 : List.take (Int.toNat ((x :: r).length : Int) - 1) (List.drop 1 (FTs (x :: r))) = FTs r := by
    rw [z82, zlh, List.take_of_length_le (by rw [z00]; simp)]; rfl
   have e1 : aE (List.getD (FTs (x :: r)) 0 []) = aT x := zc6 x
   rw [e2, e1]
   refine z01 (fun h => absurd (of_decide_eq_true h) (by rw [z00]; omega)) (fun _ => ⟨⟨by omega, by simp⟩, ⟨by rw [z00]; simp, ?_, rfl⟩, ⟨by omega, by simp; omega, Int.le_refl _⟩, ⟨rfl, by rw [z82, z00]; simp; omega⟩, _, hap.args ⟨.refl _, le_c leSl, trivial⟩, zfz (.refl _)⟩)
   rw [show List.getD (FTs (x :: r)) 0 [] = FT x from rfl, za6, List.drop_zero, List.take_of_length_le (by rw [z2s]; exact Nat.le_refl _)]
 | t :: b, a, acc, hne, hlen, ih, hl, hh => by
  have hl' := hl
  simp only [List.length_append, List.length_cons, SZ] at hl'
  have h1 := ih t List.mem_cons_self
  have h2 := zgk b (a ++ [t]) (acc ++ [z08 t]) (by simp) (by simp [hlen]) (fun u hu => ih u (List.mem_cons_of_mem _ hu)) (by rw [ap]; exact hl) (by rw [ap]; exact hh)
  have h3 := ltI' a t b
  rw [ap, ap, nx] at h2
  rw [z1p]
  refine RPt.vc hP sh lv71 (Eq.mpr (v71_3b ..) ?_)
  rw [z4v, w64 (x := (a.length : Int) + 1) (by omega) (by omega)]
  refine z01 (fun _ => ⟨⟨rfl, by omega, h3, z5g ..⟩, z08 t, h1, Nat.le_refl _, ⟨by rw [z00]; omega, z57 (by omega)⟩, ?_⟩) (fun h => absurd h3 (of_decide_eq_false h))
  have e5 : List.take acc.length (FTs acc) ++ [FT4 (z08 t)] = FTs (acc ++ [z08 t]) := by rw [List.take_of_length_le (by rw [z00]; omega), z5h, z1t]; rfl
  rw [e5]
  rw [List.length_append] at h2
  exact h2
theorem zkc : ∀ t : Tm, okB t = true → lvB t = true → t.sz ≤ SZ → bd M61 t → AC Tryz.prog 71 [aT t] [] (aT (z08 t)) [] := by
 refine Tm.ind fun t ih ho hl hs hb => ?_
 have hlen := Tm.szs_length t.l
 have hol := zhp ho
 obtain ⟨k, s, n, l⟩ := t
 simp only [Tm.sz, Tm.l, SZ] at hs hlen hol
 refine AC.vc hP sh lv71 (Nat.le_refl _) (by simp) (by simp) (Eq.mpr (v71 k s n (FTs l) _ _) ?_)
 refine z01 (fun h => ?_) (fun h => z01 (fun h' => ⟨rfl, ?_⟩) (fun h' => ?_))
 · have h5 : k = 5 := by simpa using h
   subst h5
   obtain ⟨x, rfl, hx⟩ := okB5 ho rfl
   rw [z2r (.inl rfl)] at hl
   have hlx : lvB x = true := by simpa [lvL] using hl
   simp only [Tm.szs] at hs
   obtain ⟨g1, g2, g3, g4⟩ := z5k x hx
   have h1 := ih x (List.mem_singleton.2 rfl) hx hlx (by simp only [SZ]; omega) hb.2.1
   have h2 := c_edrop (z08 x) g1 (g2 hlx) (by simp only [SZ]; omega) (g4 _ (by simp only [M61]; omega) hb.2.1)
   have h3 := zk6 1 (z08 x) (by omega)
   have e : z08 (.mk 5 s n [x]) = if z43 (z08 x) = true then z99 (z08 x) else .mk 5 [] 0 [z08 x] := by rw [z08, if_pos (show ((5 : Int) == 5) = true from rfl)]; rfl
   rw [show aE (List.getD (FTs [x]) 0 []) = aT x from zc6 x, e]
   refine ⟨el0 x [], _, h1, (z99 (z08 x), z43 (z08 x)), h2, z01 (fun hd => ?_) (fun hd => ⟨_, h3, ?_⟩)⟩
   · have hd : z43 (z08 x) = true := hd
     rw [if_pos hd]; exact ⟨.refl _, rfl⟩
   · rw [if_neg (by rw [show z43 (z08 x) = false from hd]; simp)]; exact ⟨.refl _, rfl⟩
 · have h6 : k = 6 := by simpa using h'
   subst h6
   obtain ⟨x, y, r, rfl, hx6, _⟩ := okB6 ho rfl
   rw [z2r (.inr rfl)] at hl
   have ihl : ∀ u ∈ x :: y :: r, AC Tryz.prog 71 [aT u] [] (aT (z08 u)) [] := fun u hu => ih u hu (z4i hol hu) (z7e hl hu) (by have := Tm.szs_mem hu; simp only [SZ]; omega) (z2v hb.2 hu)
   have hx := (z5k x (z4i hol List.mem_cons_self)).2.2.1
   have hxl : (z08 x).l.length ≤ B := by
    have h1 := (z08 x).sz_eq
    have h2 := Tm.szs_length (z08 x).l
    simp only [Tm.szs] at hs
    simp only [B]; omega
   have loop := zgk (y :: r) [x] [z08 x] (by simp) rfl (fun u hu => ihl u (List.mem_cons_of_mem _ hu)) (show (x :: y :: r).length ≤ SZ by simp only [SZ]; omega) hxl
   have h1 := ihl x List.mem_cons_self
   have h3 := ltI' [] x (y :: r)
   refine RPt.vc hP sh lv71 (Eq.mpr (v71_3a ..) ?_)
   rw [show aE (List.getD (FTs (x :: y :: r)) (Int.toNat 0) []) = aT x from zc6 x, w64 (by omega) (by omega)]
   refine z01 (fun _ => ⟨⟨rfl, by omega, h3, za6 x⟩, z08 x, h1, Nat.le_refl _, z57 (by omega), ?_⟩) (fun h => absurd h3 (of_decide_eq_false h))
   rw [z5h]
   exact loop
 · have h : (k == 5) = false := h
   have h' : (k == 6) = false := h'
   rw [z08, if_neg (by rw [h]; simp), if_neg (by rw [h']; simp)]
   exact ⟨.refl _, rfl⟩
theorem c_eShort (t : Tm) (hs : t.sz ≤ SZ) (hb : bd M61 t) : AC Tryz.prog 26 [aT t] [] (aT (if z02 t = true then z08 t else t)) [] := by
 have h1 := z1x t (by simp only [SZ, B] at *; omega)
 have h2 := fun h => zkc t (z09 t h) (z3u h) hs hb
 obtain ⟨k, s, n, l⟩ := t
 refine AC.vc hP sh lv26 (Nat.le_refl _) (by simp) (by simp) (Eq.mpr (v26 k s n (FTs l) _ _) ?_)
 refine ⟨_, h1, z01 (fun h => ?_) (fun h => ?_)⟩
 · rw [if_neg (by rw [not_t h]; simp)]; exact ⟨.refl _, rfl⟩
 · rw [if_pos (zmk h)]; exact ⟨_, h2 (zmk h), .refl _, rfl⟩
end Go.AM

namespace Go.AM
open Go.ChangeShapes Go.WideShapes Go.ChangeAt Go.RowKit
section
variable {H : Type} {enc : TypeId × Value → H} {P : Program} {w : World}
abbrev za3 : Nat → Prop := fun _ => False
def RdN (enc : TypeId × Value → H) (P : Program) (w : World) (b : DataW H → Nat) (fuel : Nat) (t : TypeId) {α : Type} (F : α → List FV) (sz : α → Nat) : Prop :=
 ∀ cs x, DataW.trod enc P w 0 (fun _ => true) true fuel t cs = some x → ∃ a, LRep (FRep w za3) (F a) cs ∧ sz a ≤ b x.1
theorem rd_int {b : DataW H → Nat} {t : TypeId} {k : IntKind} (ht : P.underlying t = some (.int k)) (hb : ∀ d, 1 ≤ b d) (fuel : Nat) : RdN enc P w b fuel t (fun n : Int => [.int k n]) (fun _ => 1) := by
 intro cs x h
 obtain ⟨n, rfl, rfl, _⟩ := DataW.trod_int ht h
 exact ⟨n, .cons (.int k n) .nil, hb _⟩
theorem rd_str {b : DataW H → Nat} {t : TypeId} (ht : P.underlying t = some .string) (hb : ∀ l : List UInt8, l.length + 1 ≤ b (.lit (.string l))) (fuel : Nat) : RdN enc P w b fuel t (fun l : List UInt8 => [.str l]) (fun l => l.length + 1) := by
 intro cs x h
 obtain ⟨s, rfl, rfl, _⟩ := DataW.trod_string ht h
 refine ⟨s.data.toList, .cons ?_ .nil, hb _⟩
 have : (⟨s.data.toList.toArray⟩ : ByteArray) = s := by simp
 have h2 := FRep.str (w := w) (X := za3) s.data.toList
 rw [this] at h2
 exact h2
def zcd {α : Type} (sz : α → Nat) : List α → Nat
 | [] => 0
 | a :: l => sz a + zcd sz l
theorem sum_le {α : Type} {sz : α → Nat} {b : DataW H → Nat} {bs : List (DataW H) → Nat} (hbs : ∀ d l, bs (d :: l) = b d + bs l) : ∀ {xs : List α} {es : List (DataW H × List MemPlace)}, xs.length = es.length → (∀ (i : Nat) (x : α) (y : DataW H × List MemPlace), xs[i]? = some x → es[i]? = some y → sz x ≤ b y.1) → zcd sz xs ≤ bs (es.map (·.1))
 | [], _, _, _ => by simp [zcd]
 | x :: xs, [], h, _ => by simp at h
 | x :: xs, e :: es, h, hr => by
  have h1 := hr 0 x e rfl rfl
  have h2 := sum_le (sz := sz) hbs (xs := xs) (es := es) (by simpa using h) fun i x y hx hy => hr (i + 1) x y (by simpa using hx) (by simpa using hy)
  simp only [zcd, List.map_cons, hbs]
  omega
theorem zfr {a : Addr} {n : Nat} {cs : List Value} (h : w.cells? 0 a n = some cs) : cs.length = n ∧ ∀ j u, cs[j]? = some u → w.cell? (a.add j) = some u := by
 unfold World.cells? at h
 rw [if_pos (Nat.zero_le _)] at h
 refine ⟨by have := mapM_some_length h; simpa using this, fun j u hu => ?_⟩
 have hj : j < n := by
  have h1 := (List.getElem?_eq_some_iff.1 hu).1
  have := mapM_some_length h; simp at this; omega
 have := mapM_some_get h j j (by simp [hj])
 rw [this, hu]
theorem zpj {a : Addr} {u : Value} (h : w.cell? a = some u) : a.spot = none := by
 unfold World.cell? at h
 split at h
 · split at h
   · cases h
   · rename_i hs; simpa using hs
 · cases h
theorem cell_blk {a : Addr} {u : Value} (h : w.cell? a = some u) : a.block < w.heap.size := by
 apply Decidable.byContradiction
 intro hn
 have : w.heap[a.block]? = none := by simp; omega
 simp [World.cell?, this] at h
theorem add_zero (a : Addr) : a.add 0 = a := rfl
theorem zjn (b o k : Nat) : (Addr.mk b o none).add k = ⟨b, o + k, none⟩ := by
 unfold Addr.add
 split
 · rename_i h; rw [h]; rfl
 · rfl
theorem rd_slice {b : DataW H → Nat} {bs : List (DataW H) → Nat} (hbs : ∀ d l, bs (d :: l) = b d + bs l) (hb0 : ∀ d, 1 ≤ b d) (hb : ∀ es sp, bs es + 1 ≤ b (.slice es sp)) {t e : TypeId} (ht : P.underlying t = some (.slice e)) {n : Nat} (hn : P.cellsOf e = n) (hn0 : 0 < n)
  {α : Type} {F : α → List FV} {sz : α → Nat} (hF : ∀ a, (F a).length = n) {fuel : Nat} (ih : ∀ k, k < fuel → RdN enc P w b k e F sz) : RdN enc P w b fuel t (fun l : List α => [.sl false n (l.map F)]) (fun l => zcd sz l + 1) := by
 intro cs x h
 rcases DataW.trod_slice ht h with ⟨rfl, rfl⟩ | ⟨a, len, cap, elems, rest, k, rfl, rfl, rfl, _, hlc, _, hlen, hel, hrest, _⟩
 · exact ⟨[], .cons (.slnil n) .nil, by simpa [zcd] using hb0 _⟩
 · rw [hn] at hel
   have key : ∀ (i : Nat) (y : DataW H × List MemPlace), elems[i]? = some y → ∃ x : α, (∃ cs, w.cells? 0 (a.add (i * n)) n = some cs ∧ LRep (FRep w za3) (F x) cs) ∧ sz x ≤ b y.1 := by
    intro i y hy
    have hi : i < len := by rw [← hlen]; exact (List.getElem?_eq_some_iff.1 hy).1
    have h1 := hel i hi
    rw [hy] at h1
    obtain ⟨cs, h2, h3⟩ := Option.bind_eq_some_iff.1 h1
    obtain ⟨x, h4, h5⟩ := ih k (Nat.lt_succ_self _) cs y h3
    exact ⟨x, ⟨cs, h2, h4⟩, h5⟩
   have key2 : ∃ xs : List α, xs.length = elems.length ∧ ∀ (i : Nat) (x : α), xs[i]? = some x → (∃ cs, w.cells? 0 (a.add (i * n)) n = some cs ∧ LRep (FRep w za3) (F x) cs) ∧ ∀ y, elems[i]? = some y → sz x ≤ b y.1 := by
    have : ∀ (l : List (DataW H × List MemPlace)) (o : Nat), (∀ i, l[i]? = elems[o + i]?) → ∃ xs : List α, xs.length = l.length ∧ ∀ (i : Nat) (x : α), xs[i]? = some x → (∃ cs, w.cells? 0 (a.add ((o + i) * n)) n = some cs ∧ LRep (FRep w za3) (F x) cs) ∧ ∀ y, l[i]? = some y → sz x ≤ b y.1 := by
     intro l
     induction l with
     | nil => exact fun o _ => ⟨[], rfl, fun i x h => by simp at h⟩
     | cons y l ih =>
      intro o ho
      obtain ⟨x, hx1, hx2⟩ := key o y (by have := ho 0; simpa using this.symm)
      obtain ⟨xs, h1, h2⟩ := ih (o + 1) (fun i => by have := ho (i + 1); rw [show o + 1 + i = o + (i + 1) by omega]; simpa using this)
      refine ⟨x :: xs, by simp [h1], fun i x' hx' => ?_⟩
      cases i with
      | zero => simp at hx'; subst hx'; exact ⟨by simpa using hx1, fun y' hy' => by simp at hy'; subst hy'; exact hx2⟩
      | succ i =>
       have := h2 i x' (by simpa using hx')
       rw [show o + 1 + i = o + (i + 1) by omega] at this
       exact ⟨this.1, fun y' hy' => this.2 y' (by simpa using hy')⟩
    obtain ⟨xs, h1, h2⟩ := this elems 0 (fun i => by simp)
    exact ⟨xs, h1, fun i x hx => by simpa using h2 i x hx⟩
   obtain ⟨xs, hxl, hx⟩ := key2
   have hsum := sum_le (sz := sz) (b := b) hbs hxl (fun i x y h1 h2 => (hx i x h1).2 y h2)
   have hb' := hb (elems.map (·.1)) (rest.map (·.1))
   refine ⟨xs, ?_, show zcd sz xs + 1 ≤ b (.slice (elems.map (·.1)) (rest.map (·.1))) by omega⟩
   by_cases hc0 : cap = 0
   · have h0 : len = 0 := by omega
     subst hc0; subst h0
     have : xs = [] := List.length_eq_zero_iff.1 (by omega)
     subst this
     exact .cons (.sl0 false n a) .nil
   · have hone : ∃ cs, w.cells? 0 a n = some cs := by
      by_cases h0 : len = 0
      · have hr := (hrest rfl).2 0 (by omega)
        have hr' : rest[0]? ≠ none := by
         rw [List.getElem?_eq_getElem (by rw [(hrest rfl).1]; omega)]; simp
        rw [hn] at hr
        rw [h0, show (0 + 0) * n = 0 by simp, add_zero] at hr
        cases hcl : w.cells? 0 a n with
        | none => rw [hcl] at hr; exact absurd hr.symm hr'
        | some cs => exact ⟨cs, rfl⟩
      · have : 0 < xs.length := by omega
        obtain ⟨⟨cs, h1, _⟩, _⟩ := hx 0 xs[0] (by simp [this])
        rw [show 0 * n = 0 by simp, add_zero] at h1
        exact ⟨cs, h1⟩
     obtain ⟨cs0, hq⟩ := hone
     obtain ⟨hl0, hq'⟩ := zfr hq
     have hq0 := hq' 0 (cs0[0]'(by omega)) (by simp)
     rw [add_zero] at hq0
     have hsp : a.spot = none := zpj hq0
     have hbl : a.block < w.heap.size := cell_blk hq0
     obtain ⟨blk, off, sp⟩ := a
     have hsp : sp = none := hsp
     subst hsp
     refine .cons (.sl false n (xs.map F) blk off cap len (fun i j => (w.cell? ⟨blk, off + i * n + j, none⟩).getD (.bool false)) (by rw [List.length_map]; omega) (by rw [List.length_map]; omega) (fun h => h) hbl (fun i e he => ?_) (fun i j e f he hf => ?_) (fun i j e f he hf => ?_)) .nil
     · rw [List.getElem?_map] at he
       obtain ⟨x, _, rfl⟩ := Option.map_eq_some_iff.1 he
       exact hF x
     all_goals
      rw [List.getElem?_map] at he
      obtain ⟨x, hxi, rfl⟩ := Option.map_eq_some_iff.1 he
      obtain ⟨⟨cs, h1, h2⟩, _⟩ := hx i x hxi
      obtain ⟨h3, h4⟩ := zfr h1
      have hj : j < cs.length := by rw [← h2.1]; exact (List.getElem?_eq_some_iff.1 hf).1
      have h5 := h4 j cs[j] (by simp)
      rw [zjn, zjn] at h5
     · rw [h5]; rfl
     · rw [h5]
       exact h2.2 j f cs[j] hf (by simp)
theorem FT_sum : ∀ l : List Tm, Tm.bks l = zcd Tm.bk l
 | [] => rfl
 | t :: l => by rw [Tm.bks, zcd, FT_sum l]
structure TmTy (P : Program) (T : TypeId) (f0 f1 f2 f3 : Field) : Prop where
 str : P.underlying T = some (.struct #[f0, f1, f2, f3])
 u0 : P.underlying f0.type = some (.int .i64)
 u1 : P.underlying f1.type = some .string
 u2 : P.underlying f2.type = some (.int .i64)
 u3 : P.underlying f3.type = some (.slice T)
 o0 : f0.offset = 0
 o1 : f1.offset = 1
 o2 : f2.offset = 2
 o3 : f3.offset = 3
 c0 : P.cellsOf f0.type = 1
 c1 : P.cellsOf f1.type = 1
 c2 : P.cellsOf f2.type = 1
 c3 : P.cellsOf f3.type = 1
 cT : P.cellsOf T = 4
structure Bulk (b : DataW H → Nat) (bs : List (DataW H) → Nat) : Prop where
 nil : bs [] = 0
 cons : ∀ d l, bs (d :: l) = b d + bs l
 one : ∀ d, 1 ≤ b d
 slice : ∀ es sp, bs es + 1 ≤ b (.slice es sp)
 str : ∀ l : List UInt8, l.length + 1 ≤ b (.lit (.string l))
 agg : ∀ l, bs l + 1 ≤ b (.agg l)
theorem LRep.one {α : Type} {R : α → Value → Prop} {c : α} {u : Value} (h : LRep R [c] [u]) : R c u := h.2 0 c u rfl rfl
theorem rd_term {b : DataW H → Nat} {bs : List (DataW H) → Nat} (hb : Bulk b bs) {T : TypeId} {f0 f1 f2 f3 : Field} (hT : TmTy P T f0 f1 f2 f3) : ∀ fuel, RdN enc P w b fuel T FT Tm.bk := by
 intro fuel
 induction fuel using Nat.strongRecOn with
 | _ fuel ih =>
  intro cs x h
  obtain ⟨xs, n, rfl, rfl, hl, hxl, hf⟩ := DataW.trod_struct hT.str h
  rw [hT.cT] at hl
  match cs, hl with
  | [v0, v1, v2, v3], _ =>
  match xs, hxl with
  | [x0, x1, x2, x3], _ =>
  have g0 := hf 0 f0 rfl
  have g1 := hf 1 f1 rfl
  have g2 := hf 2 f2 rfl
  have g3 := hf 3 f3 rfl
  rw [hT.o0, hT.c0] at g0
  rw [hT.o1, hT.c1] at g1
  rw [hT.o2, hT.c2] at g2
  rw [hT.o3, hT.c3] at g3
  obtain ⟨k, r0, _⟩ := rd_int (b := b) hT.u0 hb.one n _ _ g0
  obtain ⟨s, r1, z1⟩ := rd_str (b := b) hT.u1 hb.str n _ _ g1
  have z1 : s.length + 1 ≤ b x1.1 := z1
  obtain ⟨m, r2, _⟩ := rd_int (b := b) hT.u2 hb.one n _ _ g2
  obtain ⟨l, r3, z3⟩ := rd_slice (F := FT) (sz := Tm.bk) hb.cons hb.one hb.slice hT.u3 hT.cT (by omega) z2s (fun k hk => ih k (by omega)) _ _ g3
  have z3 : zcd Tm.bk l + 1 ≤ b x3.1 := z3
  refine ⟨.mk k s m l, ?_, ?_⟩
  · rw [FT, z26]
    exact .cons (LRep.one r0) (.cons (LRep.one r1) (.cons (LRep.one r2) (.cons (LRep.one r3) .nil)))
  · have := hb.one x0.1
    simp only [Tm.bk, FT_sum]
    show _ ≤ b (.agg [x0.1, x1.1, x2.1, x3.1])
    have h9 := hb.agg [x0.1, x1.1, x2.1, x3.1]
    simp only [hb.cons, hb.nil] at h9
    omega
theorem none_own {Y : Nat → Prop} (hY : ∀ b, ¬ Y b) {Hs : List AObj} : (fun b => Y b ∨ Own (fun o => Hs.getD o .gone) (fun _ => none) b) = za3 := by
 funext b
 refine propext ⟨fun h => ?_, fun h => h.elim⟩
 rcases h with h | ⟨o, _, h⟩
 · exact (hY b h).elim
 · cases h
abbrev β0 : Nat → Option Nat := fun _ => none
theorem zh3 {b : DataW H → Nat} {bs : List (DataW H) → Nat} (hb : Bulk b bs) {T : TypeId} {f0 f1 f2 f3 : Field} (hT : TmTy P T f0 f1 f2 f3) {r : Reach} {base : Nat} {v : Value} {d : DataW H} {ps : List MemPlace}
  (hv : Value.okWide P w r base T v) (hd : DataW.Trod enc P w 0 (fun _ => true) true T v d ps) : ∃ t : Tm, TRep w za3 β0 (aT t) v ∧ t.bk ≤ b d := by
 obtain ⟨cs, rfl, _⟩ := okWide_struct hT.str hv
 obtain ⟨fuel, hf⟩ := hd
 obtain ⟨t, h1, h2⟩ := rd_term hb hT fuel _ _ hf
 refine ⟨t, ⟨cs.toList, by simp, ?_⟩, h2⟩
 rw [z9u] at h1
 have h1 : LRep (FRep w za3) [.int .i64 t.k, .str t.s, .int .i64 t.n, .sl false 4 (FTs t.l)] cs.toList := h1
 exact h1.map (g := fun x => WV.a (.fz x)) fun c u _ h => .a _ _ (.fz _ _ h)
theorem open_num {t : TypeId} {k : IntKind} (ht : P.underlying t = some (.int k)) {r : Reach} {base : Nat} {v : Value} {d : DataW H} {ps : List MemPlace}
  (hv : Value.okWide P w r base t v) (hd : DataW.Trod enc P w 0 (fun _ => true) true t v d ps) : ∃ n : Int, TRep w za3 β0 (.c (.a (.fz (.int k n)))) v ∧ (Lit.int k n).wf = true := by
 obtain ⟨n, rfl, _, _, hw⟩ := open_int ht hv hd
 exact ⟨n, .a _ _ (.fz _ _ (.int k n)), hw⟩
theorem zmz {w' : World} {foot : Nat → Prop} (g : Good w foot w') (hf : ∀ b, ¬ foot b) (may : MemPlace → Prop) : w.keptBut w' may := by
 refine ⟨g.os, g.output, fun i hi => ?_⟩
 rw [g.blk i hi (hf i)]
 exact (World.keptBut_refl w may).2.2 i hi
theorem znp {w' : World} {foot : Nat → Prop} (g : Good w foot w') (hf : ∀ b, ¬ foot b) {p : MemPlace} (hp : p.block < w.heap.size) : w.sameAt w' p := by
 cases p with
 | cell b o => exact World.cell?_of_block (a := ⟨b, o, none⟩) (g.blk b hp (hf b))
 | map b => exact g.blk b hp (hf b)
theorem z7t (hl : laidOutB P = true) {w' : World} {sp : Nat → Bool} : ∀ {ts : List TypeId} {vs : List Value} {ds : List (DataW H)} {p : List MemPlace}, DataW.TrodAll enc P w 0 (fun _ => true) true ts vs ds p →
  (∀ t ∈ ts, P.readableRec t = true ∧ t < P.types.size) → (∀ x ∈ p, w.sameAt w' x) → (∀ x ∈ p, sp x.block = true) → DataW.TrodAll enc P w' 0 sp true ts vs ds p
 | [], _, _, _, h, _, _, _ => by
  obtain ⟨rfl, rfl, rfl⟩ := trodAll_nil h
  exact trodAll_mk0
 | t :: ts, _, _, _, h, ht, hs, hsp => by
  obtain ⟨v, vs', d, ds', p, q, rfl, rfl, rfl, ⟨n, h1⟩, h2⟩ := trodAll_cons h
  have hr := (ht t List.mem_cons_self).1
  exact ⟨p, q, ⟨n, DataW.trod_stays (kids_book hl hr) (book_sized hr) (fun h => by cases h) ⟨(ht t List.mem_cons_self).2, book_self t⟩ h1 (fun x hx => hs x (List.mem_append_left _ hx)) (fun x hx => hsp x (List.mem_append_left _ hx))⟩,
   z7t hl h2 (fun u hu => ht u (List.mem_cons_of_mem _ hu)) (fun x hx => hs x (List.mem_append_right _ hx)) (fun x hx => hsp x (List.mem_append_right _ hx)), rfl⟩
theorem zq3 (hl : laidOutB P = true) {f : Func} {s : ChangeSpec} {apart fresh handsOn again : Bool} {w' : World} {args : Array Value} {ds gs : List (DataW H)} {before : List MemPlace} {foot : Nat → Prop} {tb : TypeId}
  (hW : DataW.Whole enc P f.params.toList s.vars apart w args.toList ds gs before) (hv : s.vars = []) (hs : ∀ ds' : List (DataW H), ds'.length = ds.length → s.fn H ds' = { results := [.lit (.bool true)], args := ds' })
  (ht : ∀ t ∈ f.params.toList, P.readableRec t = true ∧ t < P.types.size) (hr : f.resultTypes = #[tb]) (hb : P.underlying tb = some .bool) (g : Good w foot w') (hf : ∀ b, ¬ foot b) :
  s.post enc P f apart fresh handsOn again w args (.bool true) w' := by
 have hlt := hW.lt
 obtain ⟨p, q, h1, h2, he, hz, hn⟩ := hW
 rw [hv] at h2
 obtain ⟨rfl, rfl⟩ := trodVars_none h2
 rw [List.append_nil] at he
 subst he
 have hold : ∀ x ∈ before, (fun b => decide (b < w.heap.size)) x.block = true := fun x hx => by simpa using hlt x hx
 have hfn := hs (ds ++ []) (by simp)
 have hargs : ∀ sp : Nat → Bool, (∀ x ∈ before, sp x.block = true) → DataW.TrodAll enc P w' 0 sp true f.params.toList args.toList (s.fn H (ds ++ [])).args before := fun sp hsp => by
  rw [hfn, List.append_nil]
  exact z7t hl h1 ht (fun x hx => znp g hf (hlt x hx)) hsp
 have hres : ∀ (b : Nat) (sp : Nat → Bool) (hd : Bool), DataW.TrodAll enc P w' b sp hd f.resultTypes.toList ((Value.bool true).resultList f.resultTypes.size) (s.fn H (ds ++ [])).results [] := fun b sp hd => by
  rw [hfn, hr]
  exact trodAll_mk1 ⟨1, by simp [DataW.trod, Value.cells, hb]⟩
 have hvars : ∀ sp : Nat → Bool, DataW.TrodVars enc P w' sp s.vars (s.fn H (ds ++ [])).vars [] := fun sp => by
  rw [hfn, hv]
  rfl
 refine ⟨ds, [], before, [], before, [], ⟨before, [], h1, by rw [hv]; rfl, by simp, hz, hn⟩, hres _ _ _, hargs _ hold, hvars _, World.keptBut_mono (fun x hx => ⟨hx, ?_⟩) (zmz g hf (· ∈ before)), fun _ => ?_⟩
 · simpa using hx
 · refine ⟨ok_one hr rfl (okWide_bool_mk hb _), _, _, ([] ++ before) ++ [], ⟨[] ++ before, [], trodAll_append (hargs _ (fun _ _ => rfl)) (hres _ _ _), hvars _, rfl, ?_, ?_⟩, ?_⟩
   · intro b off hp
     have hp : MemPlace.cell b off ∈ before := by simpa using hp
     have hb := hlt _ hp
     have : w'.frozen? ⟨b, off, none⟩ = w.frozen? ⟨b, off, none⟩ := by
      unfold World.frozen?
      rw [g.blk b hb (hf b)]
     rw [this]
     exact hz b off hp
   · intro ha
     simpa using hn ha
   · intro x hx _
     simpa using hx
theorem law_true {f : FuncId} {args : List TV} (hgl : Gl P w za3) (h : AC P f args [] (cb true) []) {vals : List Value} (hv : LRep (TRep w za3 β0) args vals) :
  Calls P f vals.toArray w fun e w' => e = .returned (.bool true) ∧ ∃ foot, (∀ b, ¬ foot b) ∧ Good w foot w' := by
 have hX : (fun b => (fun _ : Nat => False) b ∨ Own (fun o => ([] : List AObj).getD o .gone) β0 b) = za3 := none_own (fun _ h => h)
 refine (h.2.2 w vals β0 (fun _ => False) (fun o b h => by cases h) (fun b h => h.elim) (hgl.sub fun b ⟨o, h5, _⟩ => by simp [isLive] at h5) ⟨fun o b h _ => by simp [isLive] at h, fun o h => by simp [isLive] at h, fun o o' b h => by simp [isLive] at h, fun o b h => by cases h⟩ (by rw [hX]; exact hv)).mono fun e w' ⟨v, β', h1, h2, h3, h4, _⟩ => ?_
 subst h1
 cases h4 with
 | a _ _ h4 =>
  cases h4 with
  | fz _ _ h4 =>
   cases h4
   exact ⟨rfl, _, fun b ⟨o, h5, _⟩ => by simp [isLive] at h5, h2⟩
end
end Go.AM

namespace Go.AM
open Go.ChangeShapes Go.WideShapes Go.ChangeAt Go.RowKit
section
variable {H : Type} {enc : TypeId × Value → H} {P : Program} {w : World}
end
end Go.AM

namespace Go.AM
open Go.ChangeShapes Go.WideShapes Go.ChangeAt Go.RowKit
section
variable {H : Type} {enc : TypeId × Value → H} {P : Program} {w : World}
end
end Go.AM

set_option maxRecDepth 100000
open Go Go.Proofs
namespace Go.AM
theorem runH_sz {s : Sto} (hs : OKS s) : ∀ (F : Nat) (t : Tm), z02 t = true → Fit F t → (runH s F t).2.1 = 0 → (runH s F t).1.sz + 42000 * (F - (runH s F t).2.2) ≤ t.sz + 42000 * F := by
 intro F
 induction F with
 | zero => intro t hv hf h; rw [runH] at h ⊢; split <;> rename_i q
           · exact Nat.le_refl _
           · rw [if_neg q] at h; cases h
 | succ F ih =>
  intro t hv hf h
  rw [runH] at h ⊢
  split
  · exact Nat.le_refl _
  · rename_i q
    rw [if_neg q] at h
    split
    · rename_i q2; rw [if_pos q2] at h; cases h
    · rename_i q2
      rw [if_neg q2] at h
      have q1 : (z0c s t).2 = 1 := by rcases zf5 s t with q' | q' | q'; · exact absurd q' q
                                      · exact q'
                                      · exact absurd q' q2
      obtain ⟨v, ff⟩ := z83 hs hv hf q1
      have h1 := ih _ v ff h
      have h2 := stepS_sz hs hv hf q1
      simp only
      omega
theorem ze8 {fu : Int → Tm → Tm × Int × Int} (hfu : ∀ g t, 0 ≤ g → 0 ≤ (fu g t).2.2 ∧ (fu g t).2.2 ≤ g) {A : Tm → Tm → Prop} :
  ∀ (l : List Tm) (sk : Bool) (g : Int), 0 ≤ g → (∀ u ∈ (if sk = true then l.drop 1 else l), ∀ g' : Int, 0 ≤ g' → g' ≤ g → (fu g' u).2.1 = 0 → A u (fu g' u).1 ∧ (fu g' u).1.sz + 42000 * (fu g' u).2.2.toNat ≤ u.sz + 42000 * g'.toNat) →
  (z1o fu sk l g).2.1 = 0 → Tm.szs (z1o fu sk l g).1 + 42000 * (z1o fu sk l g).2.2.toNat ≤ Tm.szs l + 42000 * g.toNat ∧ (z1o fu sk l g).1.length = l.length ∧ (sk = true → hd (z1o fu sk l g).1 = hd l) ∧ All2 A (if sk = true then l.drop 1 else l) (if sk = true then (z1o fu sk l g).1.drop 1 else (z1o fu sk l g).1)
 | [], sk, g, _, _, _ => by
  refine ⟨Nat.le_refl _, rfl, fun _ => rfl, ?_⟩
  cases sk <;> trivial
 | t :: l, true, g, hg, h, h0 => by
  have := ze8 hfu l false g hg h h0
  refine ⟨?_, by rw [z1o, List.length_cons, this.2.1]; rfl, fun _ => rfl, this.2.2.2⟩
  have h1 := this.1
  show t.sz + Tm.szs _ + _ ≤ t.sz + Tm.szs l + _
  have e : (z1o fu true (t :: l) g).2.2 = (z1o fu false l g).2.2 := rfl
  rw [e]; omega
 | t :: l, false, g, hg, h, h0 => by
  have eK : z1o fu false (t :: l) g = if (fu g t).2.1 ≠ 0 then ([], (fu g t).2) else ((fu g t).1 :: (z1o fu false l (fu g t).2.2).1, (z1o fu false l (fu g t).2.2).2) := rfl
  rw [eK] at h0 ⊢
  by_cases q : (fu g t).2.1 ≠ 0
  · rw [if_pos q] at h0; exact absurd h0 q
  · rw [if_neg q] at h0 ⊢
    have q : (fu g t).2.1 = 0 := by simpa using q
    have h1 := hfu g t hg
    have h2 := h t List.mem_cons_self g hg (Int.le_refl _) q
    have h3 := ze8 hfu l false (fu g t).2.2 h1.1 (fun u hu g' a b c => h u (List.mem_cons_of_mem _ hu) g' a (by omega) c) h0
    refine ⟨?_, by simp only [List.length_cons, h3.2.1], fun e => (by cases e), ⟨h2.1, h3.2.2.2⟩⟩
    have h4 := h3.1
    have h5 := h2.2
    simp only [Tm.szs]
    omega
theorem zl1 {α β : Type} {R : α → β → Prop} {Q : β → Prop} (h : ∀ x y, R x y → Q y) : ∀ {a : List α} {b : List β}, All2 R a b → ∀ y ∈ b, Q y
 | [], [], _, y, hy => by cases hy
 | x :: a, z :: b, hr, y, hy => by
  rcases List.mem_cons.1 hy with rfl | hy
  · exact h _ _ hr.1
  · exact zl1 h hr.2 y hy
 | [], _ :: _, h, _, _ => h.elim
 | _ :: _, [], h, _, _ => h.elim
theorem mem_hd {l : List Tm} {y : Tm} (h : y ∈ l) : y = hd l ∨ y ∈ l.drop 1 := by
 cases l with
 | nil => cases h
 | cons x l => exact (List.mem_cons.1 h).imp id id
theorem zdj {l : List Tm} : z33 l = true ↔ ∀ u ∈ l, z02 u = true := by
 induction l with
 | nil => exact ⟨(fun _ u hu => nomatch hu), fun _ => rfl⟩
 | cons x l ih =>
  rw [z33, Bool.and_eq_true, ih]
  exact ⟨fun h u hu => (List.mem_cons.1 hu).elim (fun e => e ▸ h.1) (h.2 u), fun h => ⟨h x List.mem_cons_self, fun u hu => h u (List.mem_cons_of_mem _ hu)⟩⟩
theorem zlj {k n : Int} {s : List UInt8} {l us : List Tm} (hv : z02 (.mk k s n l) = true) (hl : us.length = l.length) (hk : k = 6 → hd us = hd l) (hu : k = 5 ∨ k = 6 → ∀ u ∈ us, z02 u = true) : z02 (.mk k s n us) = true := by
 by_cases h5 : k = 5
 · subst h5
   rw [valid5] at hv ⊢
   simp only [Bool.and_eq_true] at hv ⊢
   exact ⟨⟨hv.1.1, by rw [hl]; exact hv.1.2⟩, zdj.2 (hu (.inl rfl))⟩
 · by_cases h6 : k = 6
   · subst h6
     rw [valid6] at hv ⊢
     simp only [Bool.and_eq_true] at hv ⊢
     rw [hk rfl, hl]
     exact ⟨hv.1, zdj.2 (hu (.inr rfl))⟩
   · have := okB0 (z09 _ hv) h5 h6
     subst this
     have : us = [] := List.eq_nil_of_length_eq_zero hl
     subst this; exact hv
theorem zeb {s : Sto} (hs : OKS s) : ∀ (D : Nat) (f : Int) (t : Tm), f.toNat ≤ D → 0 ≤ f → z02 t = true → Fit f.toNat t → (z0g s D f t).2.1 = 0 →
  (z02 (z0g s D f t).1 = true ∧ bd M61 (z0g s D f t).1) ∧ (z0g s D f t).1.sz + 42000 * (z0g s D f t).2.2.toNat ≤ t.sz + 42000 * f.toNat
 | 0, f, t, _, _, _, _, h => by rw [z0g] at h; cases h
 | D + 1, f, t, hD, h0, hv, hf, h => by
  rw [z0g] at h ⊢
  split
  · rename_i q; rw [if_pos q] at h; cases h
  rename_i q
  rw [if_neg q] at h
  have hfit := hf.mono (show (f - 1).toNat ≤ f.toNat by omega)
  have hq := z87 hs hv hfit
  have hz := runH_sz hs (f - 1).toNat t hv hfit
  have eh : z8c s (f - 1) t = ((runH s (f - 1).toNat t).1, (runH s (f - 1).toNat t).2.1, f - 1 - ((runH s (f - 1).toNat t).2.2 : Int)) := rfl
  rw [eh] at h ⊢
  generalize runH s (f - 1).toNat t = q at *
  obtain ⟨x, er, u⟩ := q
  simp only at hq hz h ⊢
  obtain ⟨hu, hq⟩ := hq
  rw [zio] at h ⊢
  split
  · rename_i q2; rw [if_pos q2] at h; exact absurd h q2
  rename_i q2
  rw [if_neg q2] at h
  have he : er = 0 := by simpa using q2
  subst he
  rcases hq with ⟨_, hvx, hfx, _⟩ | ⟨h80, _⟩
  · have hz := hz rfl
    obtain ⟨k, str, n, l⟩ := x
    simp only [Tm.l, Tm.k, Tm.s, Tm.n] at h ⊢
    have hg0 : 0 ≤ f - 1 - (u : Int) := by omega
    have hkid : ∀ x ∈ l, k = 5 ∨ k = 6 := fun x hx => by
     by_cases h5 : k = 5 ∨ k = 6
     · exact h5
     · rw [not_or] at h5
       have := okB0 (z09 _ hvx) h5.1 h5.2
       rw [this] at hx; cases hx
    have kid : ∀ x ∈ l, ∀ g' : Int, 0 ≤ g' → g' ≤ f - 1 - (u : Int) → (z0g s D g' x).2.1 = 0 → (z02 (z0g s D g' x).1 = true ∧ bd M61 (z0g s D g' x).1) ∧ (z0g s D g' x).1.sz + 42000 * (z0g s D g' x).2.2.toNat ≤ x.sz + 42000 * g'.toNat := fun x hx g' a b c =>
     zeb hs D g' x (by omega) a (z24 hvx (hkid x hx) x hx) ((hfx.kid (show x ∈ Tm.l (.mk k str n l) from hx)).mono (by omega)) c
    unfold za8 at h ⊢
    split
    · rename_i q3; rw [if_pos q3] at h; exact absurd h q3
    rename_i q3
    have h9 : (z1o (z0g s D) (k == 6) l (f - 1 - (u : Int))).2.1 = 0 := by simpa using q3
    have sub : ∀ x ∈ (if (k == 6) = true then l.drop 1 else l), x ∈ l := fun x hx => by
     split at hx
     · exact List.mem_of_mem_drop hx
     · exact hx
    have hk := ze8 (A := fun _ y => z02 y = true ∧ bd M61 y) (z4q s D) l (k == 6) (f - 1 - (u : Int)) hg0 (fun x hx g' a b c => kid x (sub x hx) g' a b c) h9
    generalize z1o (z0g s D) (k == 6) l (f - 1 - (u : Int)) = r at *
    obtain ⟨us, er2, g2⟩ := r
    simp only at hk ⊢
    obtain ⟨k1, k2, k3, k4⟩ := hk
    have k5 := zl1 (Q := fun y => z02 y = true ∧ bd M61 y) (fun _ _ h => h) k4
    have all : ∀ y ∈ us, z02 y = true ∧ bd M61 y := fun y hy => by
     by_cases h6 : (k == 6) = true
     · rcases mem_hd hy with e | e
       · rw [k3 h6] at e
         have hl : l ≠ [] := fun e2 => by rw [e2] at k2; rw [List.eq_nil_of_length_eq_zero k2] at hy; cases hy
         have hm : y ∈ l := by cases l with
          | nil => exact absurd rfl hl
          | cons z l => rw [e]; exact List.mem_cons_self
         exact ⟨z24 hvx (hkid y hm) y hm, z2v hfx.bd.2 hm⟩
       · exact k5 y (by rw [if_pos h6]; exact e)
     · exact k5 y (by rw [if_neg h6]; exact hy)
    refine ⟨⟨zlj hvx k2 (fun e => k3 (by have e : k = 6 := e; rw [e]; rfl)) (fun _ y hy => (all y hy).1), ⟨hfx.bd.1, z71 fun y hy => (all y hy).2⟩⟩, ?_⟩
    simp only [Tm.sz] at hz ⊢
    omega
  · cases h80
def z1v (s : Sto) (f : Int) (t : Tm) : Tm × Int × Int :=
 if z02 t = true then (if (z0g s f.toNat f t).2.1 = 0 then (z08 (z0g s f.toNat f t).1, (z0g s f.toNat f t).2.2, 0) else (noT, 0, (z0g s f.toNat f t).2.1)) else (noT, 0, 1)
theorem zg9 (s : Sto) (D : Nat) {f : Int} (t : Tm) (h : f ≤ 0) : z0g s D f t = (noT, 80, f) := by
 cases D with
 | zero => rfl
 | succ D => rw [z0g, if_pos h]
def fullR (s : Sto) (f : Int) (t : Tm) : Tm × Int × Int :=
 if z02 t = true then (if (z0g s f.toNat f t).2.1 = 0 then ((z0g s f.toNat f t).1, (z0g s f.toNat f t).2.2, 0) else (noT, 0, (z0g s f.toNat f t).2.1)) else (noT, 0, 1)
theorem zia (s : Sto) (hs : OKS s) (f : Int) (t : Tm) (h0 : 0 - 9223372036854775808 ≤ f) (hz : t.sz ≤ B) (hf : z02 t = true → Fit f.toNat t) :
  AC Tryz.prog 67 [aT t, ci f, .c (.fn (.func 68) [(false, [.ep 0 2 0 0])] [])] (oS s) (aHd (fullR s f t)) (oS s) := by
 have h1 := z1x t hz
 have h2 := fun hv => c_sfull s hs f.toNat f t (Nat.le_refl _) h0 hv (hf hv)
 have hV : fullR s f t = if z02 t = true then (if (z0g s f.toNat f t).2.1 = 0 then ((z0g s f.toNat f t).1, (z0g s f.toNat f t).2.2, 0) else (noT, 0, (z0g s f.toNat f t).2.1)) else (noT, 0, 1) := rfl
 rw [hV]
 generalize z0g s f.toNat f t = z at *
 obtain ⟨z1, z2, z3⟩ := z
 obtain ⟨k, str, n, l⟩ := t
 refine AC.vc hP sh lv67 (Nat.le_refl _) (by simp [isLive]) (by simp) (Eq.mpr (v67_F68 k str n (FTs l) ..) ?_)
 refine ⟨_, h1, z01 (fun h => ?_) (fun h => ⟨(z1, z2, z3), h2 (by simpa using h), z01 (fun h' => ?_) (fun h' => ?_)⟩)⟩
 · rw [if_neg (by simpa using h)]; exact ⟨leHd (l := []) z0l, rfl⟩
 · have h : z02 (.mk k str n l) = true := by simpa using h
   rw [if_pos h, if_neg (by simpa using h')]; exact ⟨leHd (l := []) z0l, rfl⟩
 · have h : z02 (.mk k str n l) = true := by simpa using h
   rw [if_pos h, if_pos (by simpa using h')]; exact ⟨.refl _, rfl⟩
theorem zpn (s : Sto) (hs : OKS s) (f : Int) (t : Tm) (h0 : 0 - 9223372036854775808 ≤ f) (hz : t.sz ≤ B) (hf : z02 t = true → Fit f.toNat t) : AC Tryz.prog 21 [aS 0, aT t, ci f] (oS s) (aHd (z1v s f t)) (oS s) := by
 have h := zia s hs f t h0 hz hf
 have hsh : z02 t = true → (z0g s f.toNat f t).2.1 = 0 → AC Tryz.prog 26 [aT (z0g s f.toNat f t).1] [] (aT (z08 (z0g s f.toNat f t).1)) [] := fun hv he => by
  have h0 : 0 ≤ f := by
   rcases Int.le_total 0 f with q | q
   · exact q
   · rw [zg9 s _ t q] at he; cases he
  obtain ⟨⟨a, b⟩, c⟩ := zeb hs f.toNat f t (Nat.le_refl _) h0 hv (hf hv) he
  have := (hf hv).2.1
  have h3 := c_eShort (z0g s f.toNat f t).1 (by omega) b
  rw [if_pos a] at h3
  exact h3
 have e1 : z1v s f t = if z02 t = true then (if (z0g s f.toNat f t).2.1 = 0 then (z08 (z0g s f.toNat f t).1, (z0g s f.toNat f t).2.2, 0) else (noT, 0, (z0g s f.toNat f t).2.1)) else (noT, 0, 1) := rfl
 have e2 : fullR s f t = if z02 t = true then (if (z0g s f.toNat f t).2.1 = 0 then ((z0g s f.toNat f t).1, (z0g s f.toNat f t).2.2, 0) else (noT, 0, (z0g s f.toNat f t).2.1)) else (noT, 0, 1) := rfl
 have go : ∀ z : Tm × Int × Int, AC Tryz.prog 67 [aT t, ci f, .c (.fn (.func 68) [(false, [.ep 0 2 0 0])] [])] (oS s) (aHd z) (oS s) → ∀ r : TV, br (z.2.2 != 0) (TV.Le (.tup [(true, [.a (.fz (.int .i64 0)), .a (.fz (.str [])), .a (.fz (.int .i64 0)), .a (.fz .nils)]), (false, [.a (.fz (.int .i64 0))]), (false, [.a (.fz (.int .i64 z.2.2))])]) r ∧ oS s = oS s)
   (∃ u : Tm, AC Tryz.prog 26 [aT z.1] [] (aT u) [] ∧ TV.Le (.tup [(true, cT u), (false, [.a (.fz (.int .i64 z.2.1))]), (false, [.a (.fz (.int .i64 0))])]) r ∧ oS s = oS s) → AC Tryz.prog 21 [aS 0, aT t, ci f] (oS s) r (oS s) := fun z hz r hb => by
  obtain ⟨k, str, n, l⟩ := t
  refine AC.vc hP sh lv21 (Nat.le_refl _) (by simp [isLive]) (by simp) (Eq.mpr (v21 k str n (FTs l) ..) ?_)
  exact ⟨z, hz, hb⟩
 refine go _ h _ ?_
 rw [e1, e2]
 by_cases hv : z02 t = true
 · rw [if_pos hv, if_pos hv]
   by_cases he : (z0g s f.toNat f t).2.1 = 0
   · rw [if_pos he, if_pos he]
     exact z01 (fun h => by cases h) (fun _ => ⟨_, hsh hv he, .refl _, rfl⟩)
   · rw [if_neg he, if_neg he]
     exact z01 (fun _ => ⟨leHd (l := []) z0l, rfl⟩) (fun h => absurd (by simpa using h) he)
 · rw [if_neg hv, if_neg hv]
   exact z01 (fun _ => ⟨leHd (l := []) z0l, rfl⟩) (fun h => by cases h)
structure OKA (s : Sto) (n : Nat) : Prop where
 ok : OKS s
 V : s.V.length ≤ n
 T : s.T.length ≤ n
 tr : OKT s
 wf : ∀ i ∈ s.V, i.bd = false → i.v = noT
 nn : ∀ i ∈ s.V, i.bd = true → i.v.bk ≤ B
theorem z1b (s : Sto) (x : Int) (t : Tm) : (bindS s x t).V.length = s.V.length := by unfold bindS; split <;> simp
theorem OKS.bindA {s : Sto} {x : Int} {t : Tm} (h : OKS s) (hz : t.sz ≤ 40000) (hb : bd 2199023255552 t) : OKS (bindS s x t) := by
 by_cases q : z45 s x t = true
 · rw [(z1l q).1]
   intro i hi hbd
   rcases List.mem_or_eq_of_mem_set hi with hi | rfl
   · exact h i hi hbd
   · refine ⟨?_, hz, hb⟩
     simp only [z45, Bool.and_eq_true] at q
     exact q.2.2.1
 · rw [(z39 (by simpa using q)).1]; exact h
theorem z6h {s : Sto} {x : Int} {t : Tm} (q : z45 s x t = true) : 0 ≤ x ∧ x < (s.V.length : Int) := by
 simp only [z45, Bool.and_eq_true, inB, decide_eq_true_eq] at q
 exact q.1
theorem OKA.bind {s : Sto} {n : Nat} {x : Int} {t : Tm} (h : OKA s n) (hz : t.sz ≤ 40000) (hb : bd 2199023255552 t) (hk : t.bk ≤ B) : OKA (bindS s x t) (n + 1) := by
 have h1 := h.V
 have h2 := h.T
 by_cases q : z45 s x t = true
 · have hx := z6h q
   refine ⟨h.ok.bindA hz hb, by rw [z1b]; omega, by rw [(z1l q).1]; simp; omega, fun y hy => ?_, fun i hi hbd => ?_, fun i hi hbd => ?_⟩
   · rw [z1b]
     rw [(z1l q).1] at hy
     rcases List.mem_append.1 hy with hy | hy
     · exact h.tr y hy
     · simp at hy; subst hy; exact hx
   · rw [(z1l q).1] at hi
     rcases List.mem_or_eq_of_mem_set hi with hi | rfl
     · exact h.wf i hi hbd
     · cases hbd
   · rw [(z1l q).1] at hi
     rcases List.mem_or_eq_of_mem_set hi with hi | rfl
     · exact h.nn i hi hbd
     · exact hk
 · rw [(z39 (by simpa using q)).1]
   exact ⟨h.ok, by omega, by omega, h.tr, h.wf, h.nn⟩
theorem OKA.fresh {s : Sto} {n : Nat} (h : OKA s n) (lv : Int) : OKA (freshS s lv) (n + 1) := by
 have h1 := h.V
 have h2 := h.T
 have hl : (freshS s lv).V.length = s.V.length + 1 := by simp [freshS]
 refine ⟨fun i hi hb => ?_, by omega, by simp only [freshS]; omega, fun y hy => ?_, fun i hi hbd => ?_, fun i hi hbd => ?_⟩
 · rcases List.mem_append.1 hi with hi | hi
   · exact h.ok i hi hb
   · simp at hi; subst hi; cases hb
 · rw [hl]; have := h.tr y hy; omega
 · rcases List.mem_append.1 hi with hi | hi
   · exact h.wf i hi hbd
   · simp at hi; subst hi; rfl
 · rcases List.mem_append.1 hi with hi | hi
   · exact h.nn i hi hbd
   · simp at hi; subst hi; cases hbd
theorem OKA.nil : OKA ⟨[], []⟩ 0 := ⟨(fun i hi => nomatch hi), Nat.le_refl _, Nat.le_refl _, (fun i hi => nomatch hi), (fun i hi => nomatch hi), (fun i hi => nomatch hi)⟩
theorem OKA.more {s : Sto} {n m : Nat} (h : OKA s n) (hm : n ≤ m) : OKA s m := ⟨h.ok, Nat.le_trans h.V hm, Nat.le_trans h.T hm, h.tr, h.wf, h.nn⟩
end Go.AM

set_option maxRecDepth 100000
open Go Go.Proofs
namespace Go.AM
def Ext (s0 s : Sto) : Prop := ∃ xs, s.T = s0.T ++ xs ∧ s0.V.length ≤ s.V.length ∧ ∀ j, j < s0.V.length → (xs.foldl clrV s.V)[j]? = s0.V[j]?
theorem Ext.refl (s : Sto) : Ext s s := ⟨[], by simp, Nat.le_refl _, fun _ _ => rfl⟩
theorem Ext.fresh {s0 s : Sto} (h : Ext s0 s) (lv : Int) : Ext s0 (freshS s lv) := by
 obtain ⟨xs, h1, h2, h3⟩ := h
 refine ⟨xs, h1, by simp only [freshS, List.length_append]; omega, fun j hj => ?_⟩
 rw [← h3 j hj, z85, z85]
 show (s.V ++ _)[j]?.map _ = _
 rw [List.getElem?_append_left (by omega)]
theorem Ext.bind {s0 s : Sto} (h : Ext s0 s) (wf : ∀ i ∈ s.V, i.bd = false → i.v = noT) (x : Int) (t : Tm) : Ext s0 (bindS s x t) := by
 by_cases q : z45 s x t = true
 · obtain ⟨xs, h1, h2, h3⟩ := h
   have hx := z6h q
   obtain ⟨hl, ei⟩ := z3e hx.1 hx.2
   have hub : (infOf s.V x).bd = false := by
    simp only [z45, Bool.and_eq_true, Bool.not_eq_true'] at q; exact q.2.1
   rw [ei] at hub
   have hw := wf _ (List.getElem_mem hl) hub
   rw [(z1l q).1, ei]
   refine ⟨xs ++ [x], by rw [h1, List.append_assoc], by rw [List.length_set]; exact h2, fun j hj => ?_⟩
   rw [← h3 j hj, z85, z85, List.getElem?_set]
   by_cases e : x.toNat = j
   · subst e
     rw [if_pos rfl, if_pos hl, List.getElem?_eq_getElem hl]
     simp only [Option.map_some, List.any_append, List.any_cons, beq_self_eq_true, Bool.true_or, Bool.or_true, if_true]
     congr 1
     generalize s.V[x.toNat] = v at *
     obtain ⟨lv, bd, v⟩ := v
     simp only at hub hw
     subst hub; subst hw
     unfold clrI; split <;> rfl
   · rw [if_neg e]
     congr 1
     funext v
     simp [List.any_append, e]
 · rw [(z39 (by simpa using q)).1]; exact h
theorem Ext.cut {s0 s : Sto} (h : Ext s0 s) (h0 : OKT s0) : s0.T.length ≤ s.T.length ∧ s0.V.length ≤ s.V.length ∧ ∀ x ∈ s.T.take s0.T.length, x < (s0.V.length : Int) := by
 obtain ⟨xs, h1, h2, h3⟩ := h
 refine ⟨by rw [h1, List.length_append]; omega, h2, fun x hx => ?_⟩
 rw [h1, List.take_left] at hx
 exact (h0 x hx).2
end Go.AM

set_option maxRecDepth 100000
open Go Go.Proofs

set_option maxRecDepth 100000
open Go Go.Proofs
namespace Go.Proofs.YtdpjhpfjmjhhkaaGreat.base
open Go.ChangeShapes Go.WideShapes Go.ChangeAt Go.RowKit Go.AM
theorem one_le {H : Type} (d : DataW H) : 1 ≤ Rows.uptoBulk d := by
 cases d with
 | lit l => cases l <;> simp [Rows.uptoBulk]
 | _ => simp [Rows.uptoBulk]
theorem bulk {H : Type} : Bulk (H := H) Rows.uptoBulk Rows.uptoBulkAll :=
 ⟨rfl, fun _ _ => rfl, one_le, fun es sp => by simp only [Rows.uptoBulk]; omega, fun l => by simp [Rows.uptoBulk], fun l => by simp [Rows.uptoBulk]⟩
theorem own : ownKnob Tryz.prog.godebug = none := by kernel_rfl
theorem laidOut : laidOutB Tryz.prog = true := by kernel_rfl
theorem tmTy : ∃ f0 f1 f2 f3 : Field, TmTy Tryz.prog 40 f0 f1 f2 f3 :=
 ⟨_, _, _, _, Tryz.underlying40, Tryz.underlying38, Tryz.underlying9, Tryz.underlying3, Tryz.underlying23, rfl, rfl, rfl, rfl, by kernel_rfl, by kernel_rfl, by kernel_rfl, by kernel_rfl, by kernel_rfl⟩
theorem rec3 : Tryz.prog.readableRec 3 = true := by kernel_rfl
theorem lt3 : 3 < Tryz.prog.types.size := of_decide_eq_true (by kernel_rfl)
theorem rec40 : Tryz.prog.readableRec 40 = true := by kernel_rfl
theorem lt40 : 40 < Tryz.prog.types.size := of_decide_eq_true (by kernel_rfl)
theorem noGl (g : Nat) (h : Tryz.prog.globalNamed "internal/strconv.uint64pow10" = some g) : False := by
 rw [show Tryz.prog.globalNamed "internal/strconv.uint64pow10" = none by kernel_rfl] at h; cases h
theorem zp1 {n : Int} (h : (Lit.int .i64 n).wf = true) : -9223372036854775808 ≤ n ∧ n ≤ 9223372036854775807 := by
 simp only [Lit.wf, IntKind.min, IntKind.max, IntKind.signed, IntKind.bits, Bool.and_eq_true, decide_eq_true_eq, if_true] at h; omega
theorem upto {H : Type} {l : List (DataW H)} (hk : Rows.uptoSmall H l = true) : Rows.uptoBulkAll l ≤ 1048576 := of_decide_eq_true hk
end Go.Proofs.YtdpjhpfjmjhhkaaGreat.base

set_option maxRecDepth 100000
open Go Go.Proofs

set_option maxRecDepth 100000
open Go Go.Proofs
namespace Go.AM
def LV0 (s : Sto) : Prop := ∀ i ∈ s.V, 0 ≤ i.lv
theorem zm5 (a : Int) : 0 ≤ z0o [a, 0] := by simp only [z0o, List.foldl]; omega
theorem LV0.fresh {s : Sto} (h : LV0 s) (lv : Int) : LV0 (freshS s lv) := fun i hi => by
 rcases List.mem_append.1 hi with hi | hi
 · exact h i hi
 · simp at hi; subst hi; exact zm5 lv
theorem LV0.bind {s : Sto} (h : LV0 s) (x : Int) (t : Tm) : LV0 (bindS s x t) := fun i hi => by
 by_cases q : z45 s x t = true
 · rw [(z1l q).1] at hi
   rcases List.mem_or_eq_of_mem_set hi with hi | rfl
   · exact h i hi
   · obtain ⟨hl, e⟩ := z3e (z6h q).1 (z6h q).2
     show 0 ≤ (infOf s.V x).lv
     rw [e]; exact h _ (List.getElem_mem hl)
 · rw [(z39 (by simpa using q)).1] at hi; exact h i hi
end Go.AM

set_option maxRecDepth 100000
open Go Go.Proofs
namespace Go.AM
def z4a (t : Tm) : Bool := (z08 t).k == 3 || (z08 t).k == 1
def z1c (t : Tm) : Tm := if z4a t = true then z08 t else noT
abbrev zdk (t : Tm) (b : Bool) : TV := .tup [(true, cT t), (false, [.a (.fz (.bool b))])]
theorem zox (t : Tm) (hs : t.sz ≤ SZ) (hb : bd M61 t) : AC Tryz.prog 51 [aT t] [] (if z02 t = true then zdk (z1c t) (z4a t) else zdk noT false) [] := by
 have h0 := z1x t (by simp only [SZ, B] at *; omega)
 have h := fun h => zkc t (z09 t h) (z3u h) hs hb
 have e1 : ∀ b, z4a t = b → z1c t = if b = true then z08 t else noT := fun b h => by rw [z1c, h]
 have e2 : z4a t = ((z08 t).k == 3 || (z08 t).k == 1) := rfl
 obtain ⟨k, s, n, l⟩ := t
 refine AC.vc hP sh lv51 (Nat.le_refl _) (by simp) (by simp) (Eq.mpr (v51 k s n (FTs l) _ _) ?_)
 refine ⟨_, h0, z01 (fun hv => ?_) (fun hv => ⟨_, h (zmk hv), z01 (fun h3 => ?_) (fun h3 => z01 (fun h1 => ?_) (fun h1 => ?_))⟩)⟩
 · rw [if_neg (by rw [not_t hv]; simp)]; exact ⟨leTB (l := []) z0l, rfl⟩
 · have h3 : ((z08 (.mk k s n l)).k == 3) = true := h3
   have e : z4a (.mk k s n l) = true := by rw [e2, h3]; rfl
   rw [if_pos (zmk hv), e1 true e, e, if_pos rfl]; exact ⟨.refl _, rfl⟩
 · have h1 : ((z08 (.mk k s n l)).k == 1) = true := h1
   have e : z4a (.mk k s n l) = true := by rw [e2, h1, Bool.or_true]
   rw [if_pos (zmk hv), e1 true e, e, if_pos rfl]; exact ⟨.refl _, rfl⟩
 · have h3 : ((z08 (.mk k s n l)).k == 3) = false := h3
   have h1 : ((z08 (.mk k s n l)).k == 1) = false := h1
   have e : z4a (.mk k s n l) = false := by rw [e2, h1, h3]; rfl
   rw [if_pos (zmk hv), e1 false e, e]; exact ⟨leTB (l := []) z0l, rfl⟩
end Go.AM

set_option maxRecDepth 100000
open Go Go.Proofs
namespace Go.AM
def ixF (p : Tm → Bool) : List Tm → Nat → Int
 | [], _ => -1
 | t :: l, i => if p t = true then (i : Int) else ixF p l (i + 1)
theorem zei (p : Tm → Bool) : ∀ (l : List Tm) (i : Nat), decide (ixF p l i ≥ 0) = l.any p
 | [], _ => rfl
 | t :: l, i => by
  rw [ixF, List.any_cons]
  split
  · rename_i h; rw [h]; simp
  · rename_i h; rw [zei p l, show p t = false by simpa using h, Bool.false_or]
theorem znc (p : Tm → Bool) : ∀ (l : List Tm) (i : Nat), -1 ≤ ixF p l i ∧ ixF p l i < (i : Int) + (l.length : Int) + 1
 | [], i => by simp only [ixF]; omega
 | t :: l, i => by
  have := znc p l (i + 1)
  rw [ixF]
  split
  · simp only [List.length_cons]; omega
  · simp only [List.length_cons]; omega
theorem l_ixiodd (p : Tm → Bool) (b : List Tm) : ∀ a : List Tm, (a ++ b).length ≤ B → (∀ u ∈ b, AC Tryz.prog 50 [aT u] [] (cb (p u)) []) → RPt Tryz.prog 83 0 (ci (ixF p b a.length)) [] 1 ⟨[(0, aL (a ++ b)), (1, .c (.fn (.func 50) [] [])), (7, ci ((a ++ b).length : Int)), (8, ci (a.length : Int))], [], 0⟩ := by
 induction b with
 | nil =>
  intro a hs _
  refine RPt.vc hP sh lv83 (Eq.mpr (zcz ..) ?_)
  exact z01 (fun h => absurd (of_decide_eq_true h) (by simp)) (fun _ => z3o rfl)
 | cons t b ihb =>
  intro a hs ih
  have h3 := ltI' a t b
  have h1 := ih t List.mem_cons_self
  have h2 := ihb (a ++ [t]) (by simpa using hs) (fun u hu => ih u (List.mem_cons_of_mem _ hu))
  rw [ap, nx, show (a ++ [t]).length = a.length + 1 by simp] at h2
  rw [ixF]
  simp only [List.length_append, List.length_cons, B] at hs
  have h4 : (a.length : Int) < ((a ++ t :: b).length : Int) := by simp only [List.length_append, List.length_cons]; omega
  refine RPt.vc hP sh lv83 (Eq.mpr (zcz ..) ?_)
  rw [w64 (by omega) (by omega)]
  refine z01 (fun _ => ⟨⟨rfl, by omega, h3, z5g ..⟩, p t, by rw [z4v]; exact h1, z01 (fun h => ?_) (fun h => ?_)⟩) (fun h => absurd h4 (of_decide_eq_false h))
  · rw [if_pos h]; exact z3o rfl
  · rw [if_neg (by rw [h]; simp)]; exact h2
theorem c_ixiodd (p : Tm → Bool) (l : List Tm) (hl : l.length ≤ B) (h : ∀ u ∈ l, AC Tryz.prog 50 [aT u] [] (cb (p u)) []) : AC Tryz.prog 83 [aL l, .c (.fn (.func 50) [] [])] [] (ci (ixF p l 0)) [] := by
 have := l_ixiodd p l [] hl h
 refine AC.vc hP sh lv83 (Nat.le_refl _) (by simp) (by simp) (Eq.mpr (v83_F50 ..) ?_)
 rw [z00]
 exact ⟨rfl, this⟩
theorem zqu (p : Tm → Bool) (l : List Tm) (hl : l.length ≤ B) (h : ∀ u ∈ l, AC Tryz.prog 50 [aT u] [] (cb (p u)) []) : AC Tryz.prog 49 [aL l, .c (.fn (.func 50) [] [])] [] (cb (l.any p)) [] := by
 refine AC.vc hP sh lv49 (Nat.le_refl _) (by simp) (by simp) (Eq.mpr (v49_F50 ..) ?_)
 exact ⟨_, c_ixiodd p l hl h, z06 (zei p l 0)⟩
theorem zi8 (p : Tm → Bool) (b : List Tm) : ∀ a : List Tm, (a ++ b).length ≤ B → (∀ u ∈ b, AC Tryz.prog 61 [aT u] [] (cb (p u)) []) → RPt Tryz.prog 83 0 (ci (ixF p b a.length)) [] 1 ⟨[(0, aL (a ++ b)), (1, .c (.fn (.func 61) [] [])), (7, ci ((a ++ b).length : Int)), (8, ci (a.length : Int))], [], 0⟩ := by
 induction b with
 | nil =>
  intro a hs _
  refine RPt.vc hP sh lv83 (Eq.mpr (zda ..) ?_)
  exact z01 (fun h => absurd (of_decide_eq_true h) (by simp)) (fun _ => z3o rfl)
 | cons t b ihb =>
  intro a hs ih
  have h3 := ltI' a t b
  have h1 := ih t List.mem_cons_self
  have h2 := ihb (a ++ [t]) (by simpa using hs) (fun u hu => ih u (List.mem_cons_of_mem _ hu))
  rw [ap, nx, show (a ++ [t]).length = a.length + 1 by simp] at h2
  rw [ixF]
  simp only [List.length_append, List.length_cons, B] at hs
  have h4 : (a.length : Int) < ((a ++ t :: b).length : Int) := by simp only [List.length_append, List.length_cons]; omega
  refine RPt.vc hP sh lv83 (Eq.mpr (zda ..) ?_)
  rw [w64 (by omega) (by omega)]
  refine z01 (fun _ => ⟨⟨rfl, by omega, h3, z5g ..⟩, p t, by rw [z4v]; exact h1, z01 (fun h => ?_) (fun h => ?_)⟩) (fun h => absurd h4 (of_decide_eq_false h))
  · rw [if_pos h]; exact z3o rfl
  · rw [if_neg (by rw [h]; simp)]; exact h2
theorem zjf (p : Tm → Bool) (l : List Tm) (hl : l.length ≤ B) (h : ∀ u ∈ l, AC Tryz.prog 61 [aT u] [] (cb (p u)) []) : AC Tryz.prog 83 [aL l, .c (.fn (.func 61) [] [])] [] (ci (ixF p l 0)) [] := by
 have := zi8 p l [] hl h
 refine AC.vc hP sh lv83 (Nat.le_refl _) (by simp) (by simp) (Eq.mpr (v83_F61 ..) ?_)
 rw [z00]
 exact ⟨rfl, this⟩
theorem zfk (p : Tm → Bool) (l : List Tm) (hl : l.length ≤ B) (h : ∀ u ∈ l, AC Tryz.prog 61 [aT u] [] (cb (p u)) []) : AC Tryz.prog 49 [aL l, .c (.fn (.func 61) [] [])] [] (cb (l.any p)) [] := by
 refine AC.vc hP sh lv49 (Nat.le_refl _) (by simp) (by simp) (Eq.mpr (v49_F61 ..) ?_)
 exact ⟨_, zjf p l hl h, z06 (zei p l 0)⟩
abbrev obT (t : Tm) : AObj := .arr 4 [cT t]
theorem zr9 (p : Tm → Bool) (o : Tm) (b : List Tm) : ∀ a : List Tm, (a ++ b).length ≤ B → (∀ u ∈ b, AC Tryz.prog 52 [aT u, .c (.a (.ep 0 4 0 0))] [obT o] (cb (p u)) [obT o]) →
  RPt Tryz.prog 83 1 (ci (ixF p b a.length)) [obT o] 1 ⟨[(0, aL (a ++ b)), (1, .c (.fn (.func 52) [] [(false, [.ep 0 4 0 0])])), (7, ci ((a ++ b).length : Int)), (8, ci (a.length : Int))], [(0, obT o)], 1⟩ := by
 induction b with
 | nil =>
  intro a hs _
  obtain ⟨ok, os, on, ol⟩ := o
  refine RPt.vc hP sh lv83 (Eq.mpr (zco ..) ?_)
  exact z01 (fun h => absurd (of_decide_eq_true h) (by simp)) (fun _ => ⟨.refl _, rfl⟩)
 | cons t b ihb =>
  intro a hs ih
  have h3 := ltI' a t b
  have h1 := ih t List.mem_cons_self
  have h2 := ihb (a ++ [t]) (by simpa using hs) (fun u hu => ih u (List.mem_cons_of_mem _ hu))
  rw [ap, nx, show (a ++ [t]).length = a.length + 1 by simp] at h2
  rw [ixF]
  simp only [List.length_append, List.length_cons, B] at hs
  have h4 : (a.length : Int) < ((a ++ t :: b).length : Int) := by simp only [List.length_append, List.length_cons]; omega
  obtain ⟨ok, os, on, ol⟩ := o
  refine RPt.vc hP sh lv83 (Eq.mpr (zco ..) ?_)
  rw [w64 (by omega) (by omega)]
  refine z01 (fun _ => ⟨⟨rfl, by omega, h3, z5g ..⟩, p t, by rw [z4v]; exact h1, z01 (fun h => ?_) (fun h => ?_)⟩) (fun h => absurd h4 (of_decide_eq_false h))
  · rw [if_pos h]; exact ⟨.refl _, rfl⟩
  · rw [if_neg (by rw [h]; simp)]; exact h2
theorem zo8 (p : Tm → Bool) (o : Tm) (l : List Tm) (hl : l.length ≤ B) (h : ∀ u ∈ l, AC Tryz.prog 52 [aT u, .c (.a (.ep 0 4 0 0))] [obT o] (cb (p u)) [obT o]) : AC Tryz.prog 83 [aL l, .c (.fn (.func 52) [] [(false, [.ep 0 4 0 0])])] [obT o] (ci (ixF p l 0)) [obT o] := by
 have := zr9 p o l [] hl h
 obtain ⟨ok, os, on, ol⟩ := o
 refine AC.vc hP sh lv83 (Nat.le_refl _) (by simp [isLive]) (by simp) (Eq.mpr (v83_F52 ..) ?_)
 rw [z00]
 exact ⟨rfl, this⟩
theorem zmr (p : Tm → Bool) (o : Tm) (b : List Tm) : ∀ a : List Tm, (a ++ b).length ≤ B → (∀ u ∈ b, AC Tryz.prog 124 [aT u, .c (.a (.ep 0 4 0 0))] [obT o] (cb (p u)) [obT o]) →
  RPt Tryz.prog 83 1 (ci (ixF p b a.length)) [obT o] 1 ⟨[(0, aL (a ++ b)), (1, .c (.fn (.func 124) [] [(false, [.ep 0 4 0 0])])), (7, ci ((a ++ b).length : Int)), (8, ci (a.length : Int))], [(0, obT o)], 1⟩ := by
 induction b with
 | nil =>
  intro a hs _
  obtain ⟨ok, os, on, ol⟩ := o
  refine RPt.vc hP sh lv83 (Eq.mpr (zbe ..) ?_)
  exact z01 (fun h => absurd (of_decide_eq_true h) (by simp)) (fun _ => ⟨.refl _, rfl⟩)
 | cons t b ihb =>
  intro a hs ih
  have h3 := ltI' a t b
  have h1 := ih t List.mem_cons_self
  have h2 := ihb (a ++ [t]) (by simpa using hs) (fun u hu => ih u (List.mem_cons_of_mem _ hu))
  rw [ap, nx, show (a ++ [t]).length = a.length + 1 by simp] at h2
  rw [ixF]
  simp only [List.length_append, List.length_cons, B] at hs
  have h4 : (a.length : Int) < ((a ++ t :: b).length : Int) := by simp only [List.length_append, List.length_cons]; omega
  obtain ⟨ok, os, on, ol⟩ := o
  refine RPt.vc hP sh lv83 (Eq.mpr (zbe ..) ?_)
  rw [w64 (by omega) (by omega)]
  refine z01 (fun _ => ⟨⟨rfl, by omega, h3, z5g ..⟩, p t, by rw [z4v]; exact h1, z01 (fun h => ?_) (fun h => ?_)⟩) (fun h => absurd h4 (of_decide_eq_false h))
  · rw [if_pos h]; exact ⟨.refl _, rfl⟩
  · rw [if_neg (by rw [h]; simp)]; exact h2
theorem zli (p : Tm → Bool) (o : Tm) (l : List Tm) (hl : l.length ≤ B) (h : ∀ u ∈ l, AC Tryz.prog 124 [aT u, .c (.a (.ep 0 4 0 0))] [obT o] (cb (p u)) [obT o]) : AC Tryz.prog 83 [aL l, .c (.fn (.func 124) [] [(false, [.ep 0 4 0 0])])] [obT o] (ci (ixF p l 0)) [obT o] := by
 have := zmr p o l [] hl h
 obtain ⟨ok, os, on, ol⟩ := o
 refine AC.vc hP sh lv83 (Nat.le_refl _) (by simp [isLive]) (by simp) (Eq.mpr (v83_F124 ..) ?_)
 rw [z00]
 exact ⟨rfl, this⟩
def lfB (a b : Tm) : Bool := a.k == b.k && a.n == b.n
theorem znu (a b : Tm) : AC Tryz.prog 53 [aT a, aT b] [] (cb (lfB a b)) [] := by
 obtain ⟨k, s, n, l⟩ := a
 obtain ⟨k', s', n', l'⟩ := b
 refine AC.vc hP sh lv53 (Nat.le_refl _) (by simp) (by simp) (Eq.mpr (v53 k s n (FTs l) k' s' n' (FTs l') _ _) ?_)
 have e : lfB (.mk k s n l) (.mk k' s' n' l') = (k == k' && n == n') := rfl
 refine z01 (fun h => ?_) (fun h => ?_)
 · have h : (k == k') = true := h
   rw [e, h, Bool.true_and]; exact ⟨.refl _, rfl⟩
 · have h : (k == k') = false := h
   rw [e, h, Bool.false_and]; exact ⟨.refl _, rfl⟩
theorem c_args1 (a o : Tm) : AC Tryz.prog 52 [aT a, .c (.a (.ep 0 4 0 0))] [obT o] (cb (lfB a o)) [obT o] := by
 have h := znu a o
 obtain ⟨k, s, n, l⟩ := a
 obtain ⟨k', s', n', l'⟩ := o
 refine AC.vc hP sh lv52 (Nat.le_refl _) (by simp [isLive]) (by simp) (Eq.mpr (v52 k s n (FTs l) k' s' n' (FTs l') _ _) ?_)
 exact ⟨_, h, .refl _, rfl⟩
theorem c_image1 (a o : Tm) : AC Tryz.prog 124 [aT a, .c (.a (.ep 0 4 0 0))] [obT o] (cb (lfB a o)) [obT o] := by
 have h := znu a o
 obtain ⟨k, s, n, l⟩ := a
 obtain ⟨k', s', n', l'⟩ := o
 refine AC.vc hP sh lv124 (Nat.le_refl _) (by simp [isLive]) (by simp) (Eq.mpr (v124 k s n (FTs l) k' s' n' (FTs l') _ _) ?_)
 exact ⟨_, h, .refl _, rfl⟩
theorem l_ixO (o : Tm) (b : List Tm) : ∀ a : List Tm, (a ++ b).length ≤ B →
  RPt Tryz.prog 83 2 (ci (ixF (fun u => lfB u o) b a.length)) [.arz 4 (FTs (a ++ b)), obT o] 1 ⟨[(0, .c (.a (.osl 0 4 0 (a ++ b).length))), (1, .c (.fn (.func 52) [] [(false, [.ep 1 4 0 0])])), (7, ci ((a ++ b).length : Int)), (8, ci (a.length : Int))], [(0, .arz 4 (FTs (a ++ b))), (1, obT o)], 2⟩ := by
 induction b with
 | nil =>
  intro a hs
  obtain ⟨ok, os, on, ol⟩ := o
  refine RPt.vc hP sh lv83 (Eq.mpr (z7l ..) ?_)
  exact z01 (fun h => absurd (of_decide_eq_true h) (by simp)) (fun _ => ⟨.refl _, rfl⟩)
 | cons t b ihb =>
  intro a hs
  have h3 := ltI' a t b
  have h1 := c_args1 t o
  have h2 := ihb (a ++ [t]) (by simpa using hs)
  rw [ap, nx, show (a ++ [t]).length = a.length + 1 by simp] at h2
  rw [ixF]
  simp only [List.length_append, List.length_cons, B] at hs
  have h4 : (a.length : Int) < ((a ++ t :: b).length : Int) := by simp only [List.length_append, List.length_cons]; omega
  have em := z5g a t b
  obtain ⟨ok, os, on, ol⟩ := o
  refine RPt.vc hP sh lv83 (Eq.mpr (z7l ..) ?_)
  rw [w64 (by omega) (by omega)]
  refine z01 (fun _ => ⟨by simp only [List.length_append, List.length_cons]; omega, ⟨by rw [Nat.zero_add]; omega, by rw [Nat.zero_add, em, midI, List.drop_zero, List.take_of_length_le (by rw [z2s]; exact Nat.le_refl _)], rfl⟩, lfB t (.mk ok os on ol), by rw [Nat.zero_add, z4v]; exact h1, z01 (fun h => ?_) (fun h => ?_)⟩) (fun h => absurd h4 (of_decide_eq_false h))
  · rw [if_pos h]; exact ⟨.refl _, rfl⟩
  · rw [if_neg (by rw [h]; simp)]; exact h2
theorem c_ixO (o : Tm) (l : List Tm) (hl : l.length ≤ B) : AC Tryz.prog 83 [.c (.a (.osl 0 4 0 l.length)), .c (.fn (.func 52) [] [(false, [.ep 1 4 0 0])])] [.arz 4 (FTs l), obT o] (ci (ixF (fun u => lfB u o) l 0)) [.arz 4 (FTs l), obT o] := by
 have := l_ixO o l [] hl
 obtain ⟨ok, os, on, ol⟩ := o
 refine AC.vc hP sh lv83 (Nat.le_refl _) (by simp [isLive]) (by simp) (Eq.mpr (zlk ..) ?_)
 exact this
theorem c_anyO (o : Tm) (l : List Tm) (hl : l.length ≤ B) : AC Tryz.prog 49 [.c (.a (.osl 0 4 0 l.length)), .c (.fn (.func 52) [] [(false, [.ep 1 4 0 0])])] [.arz 4 (FTs l), obT o] (cb (l.any fun u => lfB u o)) [.arz 4 (FTs l), obT o] := by
 have h := c_ixO o l hl
 have e := zei (fun u => lfB u o) l 0
 obtain ⟨ok, os, on, ol⟩ := o
 refine AC.vc hP sh lv49 (Nat.le_refl _) (by simp [isLive]) (by simp) (Eq.mpr (zmo ..) ?_)
 exact ⟨_, h, by rw [← e]; exact .refl _, rfl⟩
theorem c_anyN (o : Tm) : AC Tryz.prog 49 [.c (.a (.fz .nils)), .c (.fn (.func 52) [] [(false, [.ep 0 4 0 0])])] [obT o] (cb false) [obT o] := by
 have h := zo8 (fun u => lfB u o) o [] (by simp only [List.length_nil, B]; omega) (fun u hu => by cases hu)
 have hh : AC Tryz.prog 49 [aL [], .c (.fn (.func 52) [] [(false, [.ep 0 4 0 0])])] [obT o] (cb false) [obT o] := by
  obtain ⟨ok, os, on, ol⟩ := o
  refine AC.vc hP sh lv49 (Nat.le_refl _) (by simp [isLive]) (by simp) (Eq.mpr (v49_F52 ..) ?_)
  exact ⟨_, h, .refl _, rfl⟩
 exact hh.args ⟨.c _ _ (.a _ _ (.fz _ _ z0l)), .refl _, trivial⟩
end Go.AM

set_option maxRecDepth 100000
open Go Go.Proofs
namespace Go.AM
def z6o (lv : Int) (out : List Tm) (u : Tm) : Bool := !z4a u || ((z1c u).k == 1 && decide ((z1c u).n ≤ lv)) || out.any fun v => lfB v (z1c u)
def z3y (s : Sto) (lv : Int) : List Tm → List Tm → Int → List Tm × Int × Int
 | out, [], f => (out, f, 0)
 | out, t :: l, f => if (z1v s f t).2.2 ≠ 0 then ([], 0, (z1v s f t).2.2) else if z6o lv out (z1v s f t).1 = true then ([], 0, 171) else z3y s lv (out ++ [z1c (z1v s f t).1]) l (z1v s f t).2.1
def z1f (s : Sto) (x : Int) (l : List Tm) (f : Int) : List Tm × Int × Int := if (!inB s.V x || l.any fun t => !z02 t) = true then ([], 0, 1) else z3y s (infOf s.V x).lv [] l f
abbrev aAr (z : List Tm × Int × Int) : TV := .tup [(false, [.a (.fz (.sl false 4 (FTs z.1)))]), (false, [.a (.fz (.int .i64 z.2.1))]), (false, [.a (.fz (.int .i64 z.2.2))])]
theorem leAr {x : FV} {a b : Int} {l : List Tm} (h : FV.Le x (.sl false 4 (FTs l))) : TV.Le (.tup [(false, [.a (.fz x)]), (false, [.a (.fz (.int .i64 a))]), (false, [.a (.fz (.int .i64 b))])]) (aAr (l, a, b)) := zl8 ⟨⟨rfl, .a _ _ (.fz _ _ h), trivial⟩, lwR _, lwR _, trivial⟩
theorem zew {s : Sto} (hs : OKS s) {f : Int} {t : Tm} (hf : z02 t = true → Fit f.toNat t) (he : (z1v s f t).2.2 = 0) : z02 t = true ∧ z02 (z1v s f t).1 = true ∧ bd M61 (z1v s f t).1 ∧ (z1v s f t).1.sz ≤ SZ ∧ (z1v s f t).1.sz + 42000 * (z1v s f t).2.1.toNat ≤ t.sz + 42000 * f.toNat ∧ 0 ≤ (z1v s f t).2.1 ∧ (z1v s f t).2.1 ≤ f := by
 unfold z1v at he ⊢
 split at he
 · rename_i hv
   rw [if_pos hv]
   have h0 : 0 ≤ f ∨ (z0g s f.toNat f t).2.1 ≠ 0 := by
    rcases Int.le_total 0 f with q | q
    · exact .inl q
    · right; rw [zg9 s _ t q]; simp
   split at he
   · rename_i h1
     rw [if_pos h1]
     have h0 : 0 ≤ f := h0.resolve_right (fun h => h h1)
     obtain ⟨⟨a, b⟩, c⟩ := zeb hs f.toNat f t (Nat.le_refl _) h0 hv (hf hv) h1
     have hl := z4q s f.toNat f t h0
     have so := z5k _ (z09 _ a)
     have hsz := (hf hv).2.1
     exact ⟨hv, by rw [z2t, so.1, so.2.1 (z3u a)]; rfl, so.2.2.2 _ (by simp only [M61]; omega) b, by have := so.2.2.1; simp only; omega, by have := so.2.2.1; simp only; omega, hl⟩
   · rename_i h1; exact absurd he h1
 · cases he
abbrev oInf (i : Inf) : AObj := .arr 6 [[.a (.fz (.int .i64 i.lv)), .a (.fz (.bool i.bd)), .a (.fz (.int .i64 i.v.k)), .a (.fz (.str i.v.s)), .a (.fz (.int .i64 i.v.n)), .a (.fz (.sl false 4 (FTs i.v.l)))]]
theorem zqx (s : Sto) (hs : OKS s) (i : Inf) (l0 : List Tm) (hl0 : l0.length ≤ 1000000000) : ∀ (b pre out : List Tm) (f : Int), out.length = pre.length → out ≠ [] → l0 = pre ++ b → 0 - 9223372036854775808 ≤ f → (∀ t ∈ b, t.sz ≤ B ∧ (z02 t = true → Fit f.toNat t)) →
  RPt Tryz.prog 13 3 (aAr (z3y s i.lv out b f)) (oS s) 1
   ⟨[(0, aS 0), (3, ci f), (11, .c (.a (.ep 3 6 0 0))), (13, .c (.a (.osl 4 4 0 out.length))), (35, aL l0), (36, ci (l0.length : Int)), (37, ci (pre.length : Int))],
    [(0, sto2 1 2 s), (1, .arz 6 (SR s.V)), (2, .arz 1 (IR s.T)), (3, oInf i), (4, .arz 4 (FTs out))], 5⟩
 | [], pre, out, f, ho, hne, hl, h0, _ => by
  subst hl
  obtain ⟨ilv, ibd, ⟨ik, is, iN, il⟩⟩ := i
  refine RPt.vc hP sh lv13 (Eq.mpr (v13_1b f out.length (FTs (pre ++ [])) ((pre ++ []).length : Nat) (pre.length : Nat) ..) ?_)
  refine z01 (fun h => absurd (of_decide_eq_true h) (by rw [List.append_nil]; omega)) (fun _ => ⟨⟨rfl, by rw [z00]; omega⟩, ?_, rfl⟩)
  rw [List.drop_zero, List.take_of_length_le (by rw [z00]; omega)]
  exact leAr leSl
 | t :: b, pre, out, f, ho, hne, hl, h0, hb => by
  subst hl
  obtain ⟨hz, hfit⟩ := hb t List.mem_cons_self
  have h3 := ltI' pre t b
  have em := z5g pre t b
  have hF := zpn s hs f t h0 hz hfit
  have okF := zew hs hfit
  have eA : z3y s i.lv out (t :: b) f = if (z1v s f t).2.2 ≠ 0 then ([], 0, (z1v s f t).2.2) else if z6o i.lv out (z1v s f t).1 = true then ([], 0, 171) else z3y s i.lv (out ++ [z1c (z1v s f t).1]) b (z1v s f t).2.1 := rfl
  have next := fun g w h1 h2 => zqx s hs i (pre ++ t :: b) hl0 b (pre ++ [t]) (out ++ [w]) g (by simp; omega) (by simp) (by simp) h1 h2
  simp only [List.length_append, List.length_cons] at hl0
  rw [eA]
  generalize z1v s f t = z at *
  obtain ⟨u, g, e⟩ := z
  simp only at okF hF ⊢
  have h4 : ((pre.length : Nat) : Int) < (((pre ++ t :: b).length : Nat) : Int) := by simp only [List.length_append, List.length_cons]; omega
  obtain ⟨ilv, ibd, ⟨ik, is, iN, il⟩⟩ := i
  refine RPt.vc hP sh lv13 (Eq.mpr (v13_1b f out.length (FTs (pre ++ t :: b)) ((pre ++ t :: b).length : Nat) (pre.length : Nat) ..) ?_)
  rw [z4v, w64 (x := ((pre.length : Nat) : Int) + 1) (by omega) (by omega)]
  refine z01 (fun _ => ⟨⟨rfl, by omega, h3, em⟩, (u, g, e), hF, z01 (fun he => ?_) (fun he => ?_)⟩) (fun h => absurd h4 (of_decide_eq_false h))
  · have he : e ≠ 0 := by have he : (e != 0) = true := he; simpa using he
    rw [if_pos he]; exact ⟨leAr (l := []) z0l, rfl⟩
  · have he : e = 0 := by have he : (e != 0) = false := he; simpa using he
    subst he
    obtain ⟨hv, hvu, hbu, hsz, _, hg0, hg1⟩ := okF rfl
    rw [if_neg (by simp)]
    have hleaf := zox u hsz hbu
    rw [if_pos hvu] at hleaf
    have hany := c_anyO (z1c u) out (by simp only [B]; omega)
    have eb : z6o ilv out u = (!z4a u || ((z1c u).k == 1 && decide ((z1c u).n ≤ ilv)) || out.any fun v => lfB v (z1c u)) := rfl
    have go : z6o ilv out u = false → 1 ≤ 1 ∧ (out.length ≤ (FTs out).length ∧ z0i (out.length + 1) 56) ∧ RPt Tryz.prog 13 3 (aAr (z3y s ilv (out ++ [z1c u]) b g)) (oS s) 1
      ⟨[(0, aS 0), (3, ci g), (11, .c (.a (.ep 3 6 0 0))), (13, .c (.a (.osl 4 4 0 (out.length + 1)))), (35, aL (pre ++ t :: b)), (36, ci ((pre ++ t :: b).length : Int)), (37, ci ((pre.length : Int) + 1))],
       [(0, sto2 1 2 s), (1, .arz 6 (SR s.V)), (2, .arz 1 (IR s.T)), (3, oInf ⟨ilv, ibd, ⟨ik, is, iN, il⟩⟩), (4, .arz 4 (List.take out.length (FTs out) ++ [FT4 (z1c u)]))], 5⟩ := fun _ => by
     have hn := next g (z1c u) (by omega) (fun x hx => ⟨(hb x (List.mem_cons_of_mem _ hx)).1, fun hv => ((hb x (List.mem_cons_of_mem _ hx)).2 hv).mono (by omega)⟩)
     have e5 : List.take out.length (FTs out) ++ [FT4 (z1c u)] = FTs (out ++ [z1c u]) := by rw [List.take_of_length_le (by rw [z00]; omega), z5h, z1t]; rfl
     have e7 : (out ++ [z1c u]).length = out.length + 1 := by simp
     have e8 : (((pre ++ [t]).length : Nat) : Int) = (pre.length : Int) + 1 := by simp
     rw [e7, e8] at hn
     rw [e5]
     exact ⟨Nat.le_refl _, ⟨by rw [z00]; exact Nat.le_refl _, z57 (by omega)⟩, hn⟩
    have bad : z6o ilv out u = true → (TV.Le (.tup [(false, [.a (.fz .nils)]), (false, [.a (.fz (.int .i64 0))]), (false, [.a (.fz (.int .i64 171))])]) (aAr (if z6o ilv out u = true then ([], 0, 171) else z3y s ilv (out ++ [z1c u]) b g)) ∧ oS s = oS s) := fun h => by
     rw [if_pos h]; exact ⟨leAr (l := []) z0l, rfl⟩
    have good : ∀ h : z6o ilv out u = false, 1 ≤ 1 ∧ (out.length ≤ (FTs out).length ∧ z0i (out.length + 1) 56) ∧ RPt Tryz.prog 13 3 (aAr (if z6o ilv out u = true then ([], 0, 171) else z3y s ilv (out ++ [z1c u]) b g)) (oS s) 1
      ⟨[(0, aS 0), (3, ci g), (11, .c (.a (.ep 3 6 0 0))), (13, .c (.a (.osl 4 4 0 (out.length + 1)))), (35, aL (pre ++ t :: b)), (36, ci ((pre ++ t :: b).length : Int)), (37, ci ((pre.length : Int) + 1))],
       [(0, sto2 1 2 s), (1, .arz 6 (SR s.V)), (2, .arz 1 (IR s.T)), (3, oInf ⟨ilv, ibd, ⟨ik, is, iN, il⟩⟩), (4, .arz 4 (List.take out.length (FTs out) ++ [FT4 (z1c u)]))], 5⟩ := fun h => by
     have := go h
     rw [if_neg (by rw [h]; simp)]; exact this
    refine ⟨(z1c u, z4a u), hleaf, z01 (fun h1 => ?_) (fun h1 => ?_)⟩
    · have h1 : ((z1c u).k == 1) = true := h1
      rw [h1, Bool.true_and] at eb
      refine ⟨_, hany, z01 (fun h2 => bad ?_) (fun h2 => z01 (fun h3 => bad ?_) (fun h3 => z01 (fun h4 => bad ?_) (fun h4 => good ?_)))⟩
      · have h2 : (!z4a u) = true := h2
        rw [eb, h2]; rfl
      · have h3 : decide ((z1c u).n ≤ ilv) = true := h3
        rw [eb, h3, Bool.or_true]; rfl
      · have h4 : (out.any fun v => lfB v (z1c u)) = true := h4
        rw [eb, h4, Bool.or_true]
      · have h2 : (!z4a u) = false := h2
        have h3 : decide ((z1c u).n ≤ ilv) = false := h3
        have h4 : (out.any fun v => lfB v (z1c u)) = false := h4
        rw [eb, h2, h3, h4]; rfl
    · have h1 : ((z1c u).k == 1) = false := h1
      rw [h1, Bool.false_and, Bool.or_false] at eb
      refine ⟨_, hany, z01 (fun h2 => bad ?_) (fun h2 => z01 (fun h4 => bad ?_) (fun h4 => good ?_))⟩
      · have h2 : (!z4a u) = true := h2
        rw [eb, h2]; rfl
      · have h4 : (out.any fun v => lfB v (z1c u)) = true := h4
        rw [eb, h4, Bool.or_true]
      · have h2 : (!z4a u) = false := h2
        have h4 : (out.any fun v => lfB v (z1c u)) = false := h4
        rw [eb, h2, h4]; rfl
theorem zq7 (s : Sto) (hs : OKS s) (x f : Int) (l : List Tm) (hl0 : l.length ≤ 1000000000) (h0 : 0 - 9223372036854775808 ≤ f) (hb : ∀ t ∈ l, t.sz ≤ B ∧ (z02 t = true → Fit f.toNat t)) : AC Tryz.prog 13 [aS 0, ci x, aL l, ci f] (oS s) (aAr (z1f s x l f)) (oS s) := by
 have hI := z9f s x
 have hO := zqu (fun t => !z02 t) l (by simp only [B]; omega) (fun u hu => c_iodd u (hb u hu).1)
 have eA : z1f s x l f = if (!inB s.V x || l.any fun t => !z02 t) = true then ([], 0, 1) else z3y s (infOf s.V x).lv [] l f := rfl
 rw [eA]
 generalize infOf s.V x = i at *
 generalize inB s.V x = ib at *
 generalize (l.any fun t => !z02 t) = od at *
 obtain ⟨ilv, ibd, iv⟩ := i
 refine AC.vc hP sh lv13 (Nat.le_refl _) (by simp [isLive]) (by simp) (Eq.mpr (v13 x (FTs l) f ..) ?_)
 refine ⟨(ilv, ibd, iv, ib), hI, z01 (fun h => ?_) (fun h => ⟨_, hO, z01 (fun h2 => ?_) (fun h2 => ⟨rfl, ?_⟩)⟩)⟩
 · have h : (!ib) = true := h
   rw [h, Bool.true_or, if_pos rfl]; exact ⟨leAr (l := []) z0l, rfl⟩
 · rw [h2, Bool.or_true, if_pos rfl]; exact ⟨leAr (l := []) z0l, rfl⟩
 have h : (!ib) = false := h
 rw [h, h2, if_neg (by simp), z00]
 show RPt Tryz.prog 13 3 (aAr (z3y s ilv [] l f)) (oS s) 1 ⟨[(0, aS 0), (3, ci f), (11, .c (.a (.ep 3 6 0 0))), (13, .c (.a (.fz .nils))), (35, aL l), (36, ci (l.length : Int)), (37, ci 0)], [(0, sto2 1 2 s), (1, .arz 6 (SR s.V)), (2, .arz 1 (IR s.T)), (3, oInf ⟨ilv, ibd, iv⟩)], 4⟩
 cases l with
 | nil =>
  obtain ⟨ik, is, iN, il⟩ := iv
  refine RPt.vc hP sh lv13 (Eq.mpr (v13_1a f (FTs []) 0 0 ..) ?_)
  exact z01 (fun h => by cases h) (fun _ => ⟨leAr (l := []) z0l, rfl⟩)
 | cons t b =>
  obtain ⟨hz, hfit⟩ := hb t List.mem_cons_self
  have h3 := ltI' [] t b
  have em := z5g [] t b
  have hF := zpn s hs f t h0 hz hfit
  have okF := zew hs hfit
  have eA : z3y s ilv [] (t :: b) f = if (z1v s f t).2.2 ≠ 0 then ([], 0, (z1v s f t).2.2) else if z6o ilv [] (z1v s f t).1 = true then ([], 0, 171) else z3y s ilv [z1c (z1v s f t).1] b (z1v s f t).2.1 := rfl
  have next := fun g w h1 h2 => zqx s hs ⟨ilv, ibd, iv⟩ (t :: b) hl0 b [t] [w] g rfl (by simp) rfl h1 h2
  simp only [List.length_cons] at hl0
  rw [eA]
  generalize z1v s f t = z at *
  obtain ⟨u, g, e⟩ := z
  simp only at okF hF ⊢
  obtain ⟨ik, is, iN, il⟩ := iv
  refine RPt.vc hP sh lv13 (Eq.mpr (v13_1a f (FTs (t :: b)) ((t :: b).length : Nat) 0 ..) ?_)
  rw [show aE (List.getD (FTs (t :: b)) (Int.toNat 0) []) = aT t from zc6 t, w64 (x := (0 : Int) + 1) (by omega) (by omega)]
  refine z01 (fun _ => ⟨⟨rfl, Int.le_refl _, h3, em⟩, (u, g, e), hF, z01 (fun he => ?_) (fun he => ?_)⟩) (fun h => absurd (of_decide_eq_false h) (by simp only [List.length_cons]; omega))
  · have he : e ≠ 0 := by have he : (e != 0) = true := he; simpa using he
    rw [if_pos he]; exact ⟨leAr (l := []) z0l, rfl⟩
  · have he : e = 0 := by have he : (e != 0) = false := he; simpa using he
    subst he
    obtain ⟨hv, hvu, hbu, hsz, _, hg0, hg1⟩ := okF rfl
    rw [if_neg (by simp)]
    have hleaf := zox u hsz hbu
    rw [if_pos hvu] at hleaf
    have hany := c_anyN (z1c u)
    have eb : z6o ilv [] u = (!z4a u || ((z1c u).k == 1 && decide ((z1c u).n ≤ ilv))) := by rw [z6o, List.any_nil, Bool.or_false]
    have bad : z6o ilv [] u = true → (TV.Le (.tup [(false, [.a (.fz .nils)]), (false, [.a (.fz (.int .i64 0))]), (false, [.a (.fz (.int .i64 171))])]) (aAr (if z6o ilv [] u = true then ([], 0, 171) else z3y s ilv [z1c u] b g)) ∧ oS s = oS s) := fun h => by
     rw [if_pos h]; exact ⟨leAr (l := []) z0l, rfl⟩
    have good : ∀ h : z6o ilv [] u = false, 1 ≤ 1 ∧ z0i 1 56 ∧ RPt Tryz.prog 13 3 (aAr (if z6o ilv [] u = true then ([], 0, 171) else z3y s ilv [z1c u] b g)) (oS s) 1
      ⟨[(0, aS 0), (3, ci g), (11, .c (.a (.ep 3 6 0 0))), (13, .c (.a (.osl 4 4 0 1))), (35, aL (t :: b)), (36, ci ((t :: b).length : Int)), (37, ci (0 + 1))],
       [(0, sto2 1 2 s), (1, .arz 6 (SR s.V)), (2, .arz 1 (IR s.T)), (3, oInf ⟨ilv, ibd, ⟨ik, is, iN, il⟩⟩), (4, .arz 4 [FT4 (z1c u)])], 5⟩ := fun h => by
     have hn := next g (z1c u) (by omega) (fun x hx => ⟨(hb x (List.mem_cons_of_mem _ hx)).1, fun hv => ((hb x (List.mem_cons_of_mem _ hx)).2 hv).mono (by omega)⟩)
     rw [if_neg (by rw [h]; simp), z5h]
     exact ⟨Nat.le_refl _, z57 (by omega), hn⟩
    refine ⟨(z1c u, z4a u), hleaf, z01 (fun h1 => ?_) (fun h1 => ?_)⟩
    · have h1 : ((z1c u).k == 1) = true := h1
      rw [h1, Bool.true_and] at eb
      refine ⟨_, hany, z01 (fun h2 => bad ?_) (fun h2 => z01 (fun h3 => bad ?_) (fun h3 => z01 (fun h4 => by cases h4) (fun _ => good ?_)))⟩
      · have h2 : (!z4a u) = true := h2
        rw [eb, h2]; rfl
      · have h3 : decide ((z1c u).n ≤ ilv) = true := h3
        rw [eb, h3, Bool.or_true]
      · have h2 : (!z4a u) = false := h2
        have h3 : decide ((z1c u).n ≤ ilv) = false := h3
        rw [eb, h2, h3]; rfl
    · have h1 : ((z1c u).k == 1) = false := h1
      rw [h1, Bool.false_and, Bool.or_false] at eb
      refine ⟨_, hany, z01 (fun h2 => bad ?_) (fun h2 => z01 (fun h4 => by cases h4) (fun _ => good ?_))⟩
      · have h2 : (!z4a u) = true := h2
        rw [eb, h2]
      · have h2 : (!z4a u) = false := h2
        rw [eb, h2]
end Go.AM

set_option maxRecDepth 100000
open Go Go.Proofs
namespace Go.AM
def FPr (p : Tm × Tm) : List FV := FT p.1 ++ FT p.2
def PTs (l : List (Tm × Tm)) : List (List FV) := l.map FPr
theorem z5d (l : List (Tm × Tm)) : (PTs l).length = l.length := by simp [PTs]
theorem z6d (a b : List (Tm × Tm)) : PTs (a ++ b) = PTs a ++ PTs b := by simp [PTs]
theorem FPr_len (p : Tm × Tm) : (FPr p).length = 8 := by simp [FPr, z2s]
abbrev fnB (bk oc : Nat) : TV := .c (.fn (.func bk) [] [(false, [.ep oc 1 0 0])])
theorem c_backT (l : List Tm) : AC Tryz.prog 152 [aL l] [] (fnB 167 0) [.arr 1 [[.a (.fz (.sl false 4 (FTs l)))]]] := by
 refine AC.vc hP sh lv152 (by simp) (by simp) (by simp [isLive]) (Eq.mpr (v152 ..) ?_)
 exact ⟨.refl _, rfl⟩
theorem c_backP (l : List (List FV)) : AC Tryz.prog 75 [.c (.a (.fz (.sl false 8 l)))] [] (fnB 108 0) [.arr 1 [[.a (.fz (.sl false 8 l))]]] := by
 refine AC.vc hP sh lv75 (by simp) (by simp) (by simp [isLive]) (Eq.mpr (v75 ..) ?_)
 exact ⟨.refl _, rfl⟩
theorem isBkT : IsBk Tryz.prog 167 23 40 := ⟨by kernel_rfl, _, 194, 3, 4, Tryz.func167, by kernel_rfl, by kernel_rfl, by kernel_rfl⟩
theorem bTyT : zkz Tryz.prog 23 40 4 = true := by kernel_rfl
theorem isBkP : IsBk Tryz.prog 108 71 73 := ⟨by kernel_rfl, _, 151, 3, 4, Tryz.func108, by kernel_rfl, by kernel_rfl, by kernel_rfl⟩
theorem bTyP : zkz Tryz.prog 71 73 8 = true := by kernel_rfl
def stk (R : List (List FV)) (n : Nat) (ps : List (Tm × Tm)) : List (List FV) := if ps = [] then R else R.take n ++ PTs ps
theorem zjj {R : List (List FV)} {n : Nat} (hn : n ≤ R.length) (ps : List (Tm × Tm)) : n + ps.length ≤ (stk R n ps).length ∧ (stk R n ps).take (n + ps.length) = R.take n ++ PTs ps := by
 unfold stk
 split
 · rename_i h; subst h; simp [PTs, hn]
 · have h1 : (R.take n ++ PTs ps).length = n + ps.length := by simp [z5d]; omega
   exact ⟨by omega, List.take_of_length_le (by omega)⟩
abbrev oWk (s : Sto) (n : Nat) (R : List (List FV)) (f : Int) : List AObj := [.arr 3 [[.a (.ep 1 2 0 0), .a (.osl 4 8 0 n), .a (.fz (.int .i64 f))]], sto2 2 3 s, .arz 6 (SR s.V), .arz 1 (IR s.T), .arz 8 R]
abbrev oWk' (s : Sto) (n : Nat) (R : List (List FV)) (f : Int) : List AObj := [.arr 3 [[.a (.ep 1 2 0 0), .a (.osl 7 8 0 n), .a (.fz (.int .i64 f))]], sto2 5 6 s, .gone, .gone, .gone, .arz 6 (SR s.V), .arz 1 (IR s.T), .arz 8 R]
abbrev hpPu (s : Sto) (n : Nat) (R : List (List FV)) (f : Int) (a b : List Tm) : AHeap :=
 [(0, .arr 3 [[.a (.ep 1 2 0 0), .a (.osl 14 8 0 n), .a (.fz (.int .i64 f))]]), (1, sto2 12 13 s), (2, .gone), (3, .gone), (4, .gone), (5, .gone), (6, .gone), (7, .gone), (8, .arr 1 [[.a (.ep 0 3 0 0)]]), (9, .arr 1 [[.a (.fz (.sl false 4 (FTs a)))]]), (10, .arr 1 [[.a (.fz (.sl false 4 (FTs b)))]]), (11, .arr 1 [[.a (.fz (.sl false 4 (FTs a)))]]), (12, .arz 6 (SR s.V)), (13, .arz 1 (IR s.T)), (14, .arz 8 R)]
theorem zol (s : Sto) (n : Nat) (R : List (List FV)) (f : Int) (a b : List Tm) (hab : a.length = b.length) (hn : n ≤ R.length) (hs : n + a.length ≤ 1099511627776) :
  AC Tryz.prog 134 [.c (.a (.ep 0 3 0 0)), aL a, aL b] (oWk s n R f) (.tup []) (oWk' s (n + a.length) (stk R n (a.zip b).reverse) f) := by
 refine AC.vc hP sh lv134 (by simp) (by simp [isLive]) (by simp [isLive]) (Eq.mpr (v134 (FTs a) (FTs b) ..) ?_)
 refine ⟨a, c_backT a, ?_⟩
 have hz : (a.zip b).length = a.length := by simp [hab]
 refine RPt.backF (sh := sh) (lv := lv134) (α := Nat) (Inv := fun i => i ≤ a.length) (idx := fun i => i) (nx := fun _ => 15) (m0 := 12) (U := [5, 6, 7]) (live := [3, 4, 5, 8]) (oc := 11) (n := 4) (es := FTs a) (x0 := a.length) (g := .tmp 8) (env := [(3, .c (.a (.ep 8 1 0 0))), (4, .c (.a (.ep 9 1 0 0))), (5, .c (.a (.ep 10 1 0 0))), (8, fnB 167 11)])
  (H := fun i => hpPu s (n + (a.length - i)) (stk R n ((a.zip b).drop i).reverse) f a b) hP (by kernel_rfl) isBkT bTyT ?_ (by kernel_rfl) (by kernel_rfl) (by kernel_rfl) (by kernel_rfl) (fun _ _ => by omega) (fun _ _ => rfl) (fun e he => ?_) (by rw [z00]; omega) (fun i hi => by rw [z00]; exact hi) (fun i k hi hik hk => ?_) (Nat.le_refl _) (by rw [z00]) (fun i hi h0 => ?_)
 · refine Eq.mpr (v134_1an ..) ?_
   rw [Nat.sub_self, Nat.add_zero, List.drop_eq_nil_of_le (by omega)]
   rfl
 · rw [z26] at he
   obtain ⟨t, _, rfl⟩ := List.mem_map.1 he
   exact z2s t
 · have hik : i = k + 1 := hik
   have hi : i ≤ a.length := hi
   subst hik
   have ha : k < a.length := by omega
   have hb : k < b.length := by omega
   have hd := zjj hn ((a.zip b).drop (k + 1)).reverse
   have hrl : (((a.zip b).drop (k + 1)).reverse).length = a.length - (k + 1) := by simp [hab]
   rw [hrl] at hd
   have ea : List.getD (FTs a) (Int.toNat ((k : Nat) : Int)) [] = FT a[k] := by rw [z26]; simp [List.getD, ha]
   have eb : List.getD (FTs b) (Int.toNat ((k : Nat) : Int)) [] = FT b[k] := by rw [z26]; simp [List.getD, hb]
   have edz : (a.zip b).drop k = (a[k], b[k]) :: (a.zip b).drop (k + 1) := by
    rw [List.drop_eq_getElem_cons (by omega)]; simp
   have estk : stk R n ((a.zip b).drop k).reverse = List.take (n + (a.length - (k + 1))) (stk R n ((a.zip b).drop (k + 1)).reverse) ++ [FPr (a[k], b[k])] := by
    rw [hd.2, edz, List.reverse_cons]
    unfold stk
    rw [if_neg (by simp), z6d, ← List.append_assoc]; rfl
   have en : n + (a.length - k) = n + (a.length - (k + 1)) + 1 := by omega
   have ef : List.getD (FTs a) k [] = FT a[k] := by rw [← ea, Int.toNat_natCast]
   rw [ef]
   generalize a[k] = u at *
   generalize b[k] = w at *
   obtain ⟨uk, us, un, ul⟩ := u
   obtain ⟨wk, ws, wn, wl⟩ := w
   refine Eq.mpr (zqp ..) ?_
   rw [ea, eb, z00, z00]
   refine ⟨⟨rfl, by omega, by omega, rfl⟩, ⟨rfl, by omega, by omega, rfl⟩, Nat.le_refl _, ⟨hd.1, by unfold z0i; omega⟩, k, ⟨(by omega : k ≤ a.length), rfl⟩, ?_, rfl⟩
   show _ = hpPu s (n + (a.length - k)) (stk R n ((a.zip b).drop k).reverse) f a b
   rw [estk, en]
   rfl
 · have h0 : i = 0 := h0
   subst h0
   refine Eq.mpr (zq2 ..) ?_
   rw [List.drop_zero, Nat.sub_zero]
   exact ⟨.refl _, rfl⟩
end Go.AM

set_option maxRecDepth 100000
open Go Go.Proofs
namespace Go.AM
structure IS where
 s : Sto
 f : Int
 e : Int
abbrev aIV : TV := .c (.a (.ep 0 6 0 0))
abbrev oIV (x lv : Int) (L : List Tm) (f e : Int) : AObj := .arr 6 [[.a (.ep 1 2 0 0), .a (.fz (.int .i64 x)), .a (.fz (.int .i64 lv)), .a (.fz (.sl false 4 (FTs L))), .a (.fz (.int .i64 f)), .a (.fz (.int .i64 e))]]
abbrev oIs (x lv : Int) (L : List Tm) (f e : Int) (s : Sto) : List AObj := [oIV x lv L f e, sto2 2 3 s, .arz 6 (SR s.V), .arz 1 (IR s.T)]
abbrev oIt (x lv : Int) (L : List Tm) (f e : Int) (s : Sto) : List AObj := [oIV x lv L f e, sto2 4 5 s, .gone, .gone, .arz 6 (SR s.V), .arz 1 (IR s.T)]
abbrev bV3 (n : Int) : Tm := .mk 3 [] n []
def z2y (q : IS) (e : Int) : IS := if q.e = 0 then ⟨q.s, q.f, e⟩ else q
theorem zpd (x lv : Int) (L : List Tm) (f e er : Int) (s : Sto) : AC Tryz.prog 90 [aIV, ci er] (oIs x lv L f e s) (aT noT) (oIs x lv L f (if e = 0 then er else e) s) := by
 refine AC.vc hP sh lv90 (by simp) (by simp [isLive]) (by simp) (Eq.mpr (v90 ..) ?_)
 refine z01 (fun h => ?_) (fun h => ?_)
 · have h : (e == 0) = true := h
   rw [if_pos (by simpa using h)]; exact ⟨leT (l := []) z0l, rfl⟩
 · have h : (e == 0) = false := h
   rw [if_neg (by simpa using h)]; exact ⟨leT (l := []) z0l, rfl⟩
def outT (t : Tm) (k : Int) : Tm := if t.k = 3 then .mk t.k t.s (t.n - k) t.l else t
def imgT (lv : Int) (L : List Tm) (t : Tm) (k : Int) : Tm × Bool :=
 if t.k = 3 ∧ t.n < k then (t, true) else if ixF (fun u => lfB u (outT t k)) L 0 ≥ 0 then (bV3 (k + (L.length : Int) - 1 - ixF (fun u => lfB u (outT t k)) L 0), true) else (t, t.k == 1 && decide (t.n ≤ lv))
theorem zld (x lv : Int) (L : List Tm) (f e : Int) (s : Sto) (t : Tm) (k : Int) (hL : L.length ≤ 100000) (hn : t.k = 3 → -4611686018427387904 ≤ t.n ∧ t.n ≤ 4611686018427387904) (hk0 : 0 ≤ k) (hk1 : k ≤ 1099511627776) :
  AC Tryz.prog 94 [aIV, aT t, ci k] (oIs x lv L f e s) (zdk (imgT lv L t k).1 (imgT lv L t k).2) (oIs x lv L f e s) := by
 have hx := zli (fun u => lfB u (outT t k)) (outT t k) L (by simp only [B]; omega) (fun u _ => c_image1 u (outT t k))
 have hlt := znc (fun u => lfB u (outT t k)) L 0
 have i1 : t.k = 3 ∧ t.n < k → imgT lv L t k = (t, true) := fun h => if_pos h
 have i2 : ¬ (t.k = 3 ∧ t.n < k) → ixF (fun u => lfB u (outT t k)) L 0 ≥ 0 → imgT lv L t k = (bV3 (k + (L.length : Int) - 1 - ixF (fun u => lfB u (outT t k)) L 0), true) := fun h h2 => (if_neg h).trans (if_pos h2)
 have i3 : ¬ (t.k = 3 ∧ t.n < k) → ¬ ixF (fun u => lfB u (outT t k)) L 0 ≥ 0 → imgT lv L t k = (t, t.k == 1 && decide (t.n ≤ lv)) := fun h h2 => (if_neg h).trans (if_neg h2)
 generalize imgT lv L t k = Z at *
 generalize ixF (fun u => lfB u (outT t k)) L 0 = p at *
 have hb := z7h (k + (L.length : Int) - 1 - p)
 obtain ⟨tk, ts, tn, tl⟩ := t
 simp only [Tm.n, Tm.k] at hn i1 i2 i3
 have tail : ¬ (tk = 3 ∧ tn < k) → br (decide (p ≥ 0)) (FV.isSl 4 (.sl false 4 (FTs L)) = true ∧ ∃ z2 : Tm, AC Tryz.prog 121 [ci (IntKind.wrap .i64 (IntKind.wrap .i64 (IntKind.wrap .i64 (k + (((FTs L).length : Nat) : Int)) - 1) - p))] [] (aT z2) [] ∧
   TV.Le (.tup [(true, cT z2), (false, [.a (.fz (.bool true))])]) (zdk Z.1 Z.2) ∧ oIs x lv L f e s = oIs x lv L f e s)
   (br (tk == 1) (TV.Le (.tup [(true, [.a (.fz (.int .i64 tk)), .a (.fz (.str ts)), .a (.fz (.int .i64 tn)), .a (.fz (.sl false 4 (FTs tl)))]), (false, [.a (.fz (.bool (decide (tn ≤ lv))))])]) (zdk Z.1 Z.2) ∧ oIs x lv L f e s = oIs x lv L f e s)
    (TV.Le (.tup [(true, [.a (.fz (.int .i64 tk)), .a (.fz (.str ts)), .a (.fz (.int .i64 tn)), .a (.fz (.sl false 4 (FTs tl)))]), (false, [.a (.fz (.bool false))])]) (zdk Z.1 Z.2) ∧ oIs x lv L f e s = oIs x lv L f e s)) := by
  intro h0
  rw [z00]
  refine z01 (fun h => ?_) (fun h => ?_)
  · have h := of_decide_eq_true h
    rw [i2 h0 h, w64 (x := k + (L.length : Int)) (by omega) (by omega), w64 (x := k + (L.length : Int) - 1) (by omega) (by omega), w64 (x := k + (L.length : Int) - 1 - p) (by omega) (by omega)]
    exact ⟨rfl, _, hb, .refl _, rfl⟩
  · have h := of_decide_eq_false h
    rw [i3 h0 h]
    refine z01 (fun h1 => ?_) (fun h1 => ?_)
    · rw [h1, Bool.true_and]; exact ⟨.refl _, rfl⟩
    · rw [h1, Bool.false_and]; exact ⟨.refl _, rfl⟩
 refine AC.vc hP sh lv94 (by simp) (by simp [isLive]) (by simp) (Eq.mpr (v94 tk ts tn (FTs tl) k ..) ?_)
 refine z01 (fun h3 => ?_) (fun h3 => ?_)
 · have h3 : tk = 3 := by have h3 : (tk == 3) = true := h3; simpa using h3
   subst h3
   have hn := hn rfl
   have eo : outT (.mk 3 ts tn tl) k = .mk 3 ts (tn - k) tl := rfl
   rw [eo] at hx
   refine z01 (fun h4 => ?_) (fun h4 => ?_)
   · have h4 := of_decide_eq_true h4
     rw [i1 ⟨rfl, h4⟩]; exact ⟨.refl _, rfl⟩
   · have h4 := of_decide_eq_false h4
     rw [w64 (x := tn - k) (by omega) (by omega)]
     refine z01 (fun _ => ⟨p, hx, tail (fun q => h4 q.2)⟩) (fun h => by cases h)
 · have h3 : tk ≠ 3 := by have h3 : (tk == 3) = false := h3; simpa using h3
   have eo : outT (.mk tk ts tn tl) k = .mk tk ts tn tl := if_neg h3
   rw [eo] at hx
   refine z01 (fun h => absurd (by have h : (tk == 3) = true := h; simpa using h) h3) (fun _ => ⟨p, hx, tail (fun q => h3 q.1)⟩)
end Go.AM

set_option maxRecDepth 100000
open Go Go.Proofs
namespace Go.AM
def imgs (lv : Int) (L : List Tm) (k : Int) (m : Nat) : List Tm → Nat → List Tm × List Tm → List Tm × List Tm
 | [], _, a => a
 | t :: l, i, a => imgs lv L k m l (i + 1) (if (imgT lv L t k).2 = true then (a.1 ++ [bV3 ((m : Int) - 1 - (i : Int))], a.2 ++ [(imgT lv L t k).1]) else a)
def z6n (c : Bool) (lvy k : Int) (n : Nat) : List Tm → Nat → List Tm × List Tm → List Tm × List Tm
 | [], _, a => a
 | t :: l, i, a => z6n c lvy k n l (i + 1) (if (c && (t.k == 1 && decide (t.n ≤ lvy))) = true then (a.1 ++ [t], a.2 ++ [bV3 (k + (n : Int) - 1 - (i : Int))]) else a)
def onF (lv lvy : Int) (L : List Tm) (k : Int) (ls : List Tm) : List Tm × List Tm := z6n (decide (lvy > lv)) lvy k L.length L 0 (imgs lv L k ls.length ls 0 ([], []))
def za4 (lv : Int) (L : List Tm) (q : IS) (y k : Int) (ls : List Tm) (f : Int) : Tm × IS :=
 if (imgs lv L k ls.length ls 0 ([], [])).1.length = ls.length ∧ (infOf q.s.V y).lv ≤ lv then (z07 (.mk 4 [] y []) (imgs lv L k ls.length ls 0 ([], [])).2, ⟨q.s, f, q.e⟩)
 else (z07 (.mk 4 [] (q.s.V.length : Int) []) (onF lv (infOf q.s.V y).lv L k ls).2, ⟨z31 q.s y (z0t [lv, (infOf q.s.V y).lv]) ls.length (onF lv (infOf q.s.V y).lv L k ls).1, f, q.e⟩)
def z30 (lv : Int) (L : List Tm) (q : IS) (y : Int) (l : List Tm) (k : Int) : Tm × IS :=
 if (z1f q.s y l q.f).2.2 ≠ 0 then (noT, z2y q (z1f q.s y l q.f).2.2) else za4 lv L q y k (z1f q.s y l q.f).1 (z1f q.s y l q.f).2.1
abbrev fxH (x lv : Int) (L : List Tm) (f e : Int) (s : Sto) (i : Inf) : AHeap := [(0, oIV x lv L f e), (1, sto2 4 5 s), (2, .gone), (3, .gone), (4, .arz 6 (SR s.V)), (5, .arz 1 (IR s.T)), (6, .arr 4 [zT]), (7, oInf i)]
abbrev fxS (x lv : Int) (L : List Tm) (f e : Int) (s : Sto) (i : Inf) (y k : Int) (ls on im l : List Tm) (a b c : Nat) (j : Int) : St :=
 if on = [] then ⟨[(0, aIV), (1, ci y), (3, ci k), (8, .c (.a (.ep 6 4 0 0))), (9, aL ls), (12, .c (.a (.ep 7 6 0 0))), (14, .c (.a (.fz .nils))), (15, .c (.a (.fz .nils))), (a, aL l), (b, ci (l.length : Int)), (c, ci j)], fxH x lv L f e s i, 8⟩
 else ⟨[(0, aIV), (1, ci y), (3, ci k), (8, .c (.a (.ep 6 4 0 0))), (9, aL ls), (12, .c (.a (.ep 7 6 0 0))), (14, .c (.a (.osl 8 4 0 on.length))), (15, .c (.a (.osl 9 4 0 im.length))), (a, aL l), (b, ci (l.length : Int)), (c, ci j)], fxH x lv L f e s i ++ [(8, .arz 4 (FTs on)), (9, .arz 4 (FTs im))], 10⟩
theorem zoa {α : Type} (l : List α) (a : α) : l ++ [a] ≠ [] := by simp
theorem zj0 (x lv : Int) (L : List Tm) (f e : Int) (s : Sto) (ilv : Int) (ibd : Bool) (iv : Tm) (y k : Int) (ls : List Tm) (hL : L.length ≤ 100000) (hk0 : 0 ≤ k) (hk1 : k ≤ 1099511627776) (r : Tm) (S : Sto) (fin : List Tm × List Tm)
  (hfin : fin.1.length ≤ 200000 ∧ fin.2.length ≤ 200000) (hh : AC Tryz.prog 123 [aS 0, ci y, ci (z0t [lv, ilv]), ci (ls.length : Int), aL fin.1] (oS s) (aT (.mk 4 [] (s.V.length : Int) [])) (oS' S)) (hr : z07 (.mk 4 [] (s.V.length : Int) []) fin.2 = r) :
  ∀ (b pre on im : List Tm), L = pre ++ b → on.length = im.length → on.length + b.length ≤ 200000 → z6n (decide (ilv > lv)) ilv k L.length b pre.length (on, im) = fin →
  RPt Tryz.prog 93 4 (aT r) (oIt x lv L f e S) 5 (fxS x lv L f e s ⟨ilv, ibd, iv⟩ y k ls on im L 105 106 107 (pre.length : Int))
 | [], pre, on, im, hl, ho, h2, hm => by
  rw [List.append_nil] at hl
  have hm : (on, im) = fin := hm
  subst hm
  have ha := z3p (.mk 4 [] (s.V.length : Int) []) im (by simp only [Tm.l, List.length_nil]; omega)
  simp only at hh hr hfin
  rw [hr] at ha
  obtain ⟨ik, is, iN, il⟩ := iv
  unfold fxS
  by_cases hn : on = []
  · subst hn
    have : im = [] := List.eq_nil_of_length_eq_zero ho.symm
    subst this
    rw [if_pos rfl]
    refine RPt.vc hP sh lv93 (Eq.mpr (v93_5a ..) ?_)
    refine z01 (fun h => absurd (of_decide_eq_true h) (by rw [hl]; omega)) (fun _ => ⟨rfl, ?_⟩)
    rw [z00]
    exact ⟨(_, S), hh.args ⟨.refl _, .refl _, .refl _, .refl _, .c _ _ (.a _ _ (.fz _ _ z0l)), trivial⟩, _, ha.args ⟨.refl _, .c _ _ (.a _ _ (.fz _ _ z0l)), trivial⟩, .refl _, rfl⟩
  · rw [if_neg hn]
    refine RPt.vc hP sh lv93 (Eq.mpr (v93_5b ..) ?_)
    refine z01 (fun h => absurd (of_decide_eq_true h) (by rw [hl]; omega)) (fun _ => ⟨rfl, ⟨rfl, by rw [z00]; omega⟩, ?_⟩)
    rw [z00, List.drop_zero, List.take_of_length_le (l := FTs on) (by rw [z00]; exact Nat.le_refl _), List.drop_zero, List.take_of_length_le (l := FTs im) (by rw [z00]; exact Nat.le_refl _)]
    refine ⟨(_, S), hh, ?_⟩
    exact ⟨⟨rfl, by rw [z00]; omega⟩, _, ha, .refl _, rfl⟩
 | t :: b, pre, on, im, hl, ho, h2, hm => by
  have hlen : L.length = pre.length + (b.length + 1) := by rw [hl]; simp
  have em : List.getD (FTs L) (Int.toNat (pre.length : Int)) [] = FT t := by rw [hl]; exact midI pre t b
  have h3 : ((pre.length : Nat) : Int) < (((FTs L).length : Nat) : Int) := by rw [z00]; omega
  have ek : FV.asI (List.getD (FT t) 0 FV.nils) = t.k := by cases t; rfl
  have en : FV.asI (List.getD (FT t) 2 FV.nils) = t.n := by cases t; rfl
  have hmm : z6n (decide (ilv > lv)) ilv k L.length (t :: b) pre.length (on, im) = z6n (decide (ilv > lv)) ilv k L.length b (pre.length + 1) (if (decide (ilv > lv) && (t.k == 1 && decide (t.n ≤ ilv))) = true then (on ++ [t], im ++ [bV3 (k + (L.length : Int) - 1 - (pre.length : Int))]) else (on, im)) := rfl
  rw [hmm] at hm
  have ej : (((pre ++ [t]).length : Nat) : Int) = (pre.length : Int) + 1 := by simp
  have en1 : (pre ++ [t]).length = pre.length + 1 := by simp
  have skip : (decide (ilv > lv) && (t.k == 1 && decide (t.n ≤ ilv))) = false → RPt Tryz.prog 93 4 (aT r) (oIt x lv L f e S) 5 (fxS x lv L f e s ⟨ilv, ibd, iv⟩ y k ls on im L 105 106 107 ((pre.length : Int) + 1)) := fun h => by
   rw [h, if_neg (by simp)] at hm
   have := zj0 x lv L f e s ilv ibd iv y k ls hL hk0 hk1 r S fin hfin hh hr b (pre ++ [t]) on im (by rw [hl]; simp) ho (by simp only [List.length_cons] at h2; omega) (by rw [en1]; exact hm)
   rw [ej] at this; exact this
  have take : (decide (ilv > lv) && (t.k == 1 && decide (t.n ≤ ilv))) = true → on.length + 1 + b.length ≤ 200000 → RPt Tryz.prog 93 4 (aT r) (oIt x lv L f e S) 5 (fxS x lv L f e s ⟨ilv, ibd, iv⟩ y k ls (on ++ [t]) (im ++ [bV3 (k + (L.length : Int) - 1 - (pre.length : Int))]) L 105 106 107 ((pre.length : Int) + 1)) := fun h h9 => by
   rw [if_pos h] at hm
   have := zj0 x lv L f e s ilv ibd iv y k ls hL hk0 hk1 r S fin hfin hh hr b (pre ++ [t]) (on ++ [t]) (im ++ [bV3 (k + (L.length : Int) - 1 - (pre.length : Int))]) (by rw [hl]; simp) (by simp [ho]) (by simp only [List.length_append, List.length_cons, List.length_nil]; omega) (by rw [en1]; exact hm)
   rw [ej] at this; exact this
  have hb := z7h (k + (L.length : Int) - 1 - (pre.length : Int))
  have room : on.length + 1 + b.length ≤ 200000 := by simp only [List.length_cons] at h2; omega
  have op : FV.isSl 4 (.sl false 4 (FTs L)) = true ∧ ((0 : Int) ≤ (pre.length : Int) ∧ (((pre.length : Int) < (((FTs L).length : Nat) : Int)) ∧ ((rE (FT t) : List FV) = FT t))) := ⟨rfl, by omega, h3, za6 t⟩
  obtain ⟨ik, is, iN, il⟩ := iv
  have w : IntKind.wrap .i64 (IntKind.wrap .i64 (IntKind.wrap .i64 (k + (((FTs L).length : Nat) : Int)) - 1) - (pre.length : Int)) = k + (L.length : Int) - 1 - (pre.length : Int) := by
   rw [z00, w64 (x := k + (L.length : Int)) (by omega) (by omega), w64 (x := k + (L.length : Int) - 1) (by omega) (by omega), w64 (by omega) (by omega)]
  unfold fxS at skip take ⊢
  rw [if_neg (zoa on t)] at take
  by_cases hn : on = []
  · subst hn
    have : im = [] := List.eq_nil_of_length_eq_zero ho.symm
    subst this
    rw [if_pos rfl] at skip ⊢
    refine RPt.vc hP sh lv93 (Eq.mpr (v93_5a ..) ?_)
    rw [em, ek, en, w64 (x := (pre.length : Int) + 1) (by omega) (by omega), w]
    refine z01 (fun _ => ⟨op, z01 (fun c1 => z01 (fun c2 => z01 (fun c3 => ?_) (fun c3 => skip ?_)) (fun c2 => skip ?_)) (fun c1 => skip ?_)⟩) (fun h => absurd (of_decide_eq_false h) (by omega))
    · have c1 : decide (ilv > lv) = true := c1
      have c2 : (t.k == 1) = true := c2
      have c3 : decide (t.n ≤ ilv) = true := c3
      refine ⟨Nat.le_refl _, z57 (by omega), rfl, _, hb, Nat.le_refl _, z57 (by omega), ?_⟩
      rw [za6]
      exact take (by rw [c1, c2, c3]; rfl) room
    · have c3 : decide (t.n ≤ ilv) = false := c3
      rw [c3, Bool.and_false, Bool.and_false]
    · have c2 : (t.k == 1) = false := c2
      rw [c2, Bool.false_and, Bool.and_false]
    · have c1 : decide (ilv > lv) = false := c1
      rw [c1, Bool.false_and]
  · rw [if_neg hn] at skip ⊢
    refine RPt.vc hP sh lv93 (Eq.mpr (v93_5b ..) ?_)
    rw [em, ek, en, w64 (x := (pre.length : Int) + 1) (by omega) (by omega), w]
    refine z01 (fun _ => ⟨op, z01 (fun c1 => z01 (fun c2 => z01 (fun c3 => ?_) (fun c3 => skip ?_)) (fun c2 => skip ?_)) (fun c1 => skip ?_)⟩) (fun h => absurd (of_decide_eq_false h) (by omega))
    · have c1 : decide (ilv > lv) = true := c1
      have c2 : (t.k == 1) = true := c2
      have c3 : decide (t.n ≤ ilv) = true := c3
      refine ⟨Nat.le_refl _, ⟨by rw [z00]; exact Nat.le_refl _, z57 (by omega)⟩, rfl, _, hb, Nat.le_refl _, ⟨by rw [z00]; exact Nat.le_refl _, z57 (by omega)⟩, ?_⟩
      rw [za6, List.take_of_length_le (l := FTs on) (by rw [z00]; exact Nat.le_refl _), List.take_of_length_le (l := FTs im) (by rw [z00]; exact Nat.le_refl _), z5h]
      have := take (by rw [c1, c2, c3]; rfl) room
      rw [z1t, z1t, List.length_append, List.length_append] at this
      exact this
    · have c3 : decide (t.n ≤ ilv) = false := c3
      rw [c3, Bool.and_false, Bool.and_false]
    · have c2 : (t.k == 1) = false := c2
      rw [c2, Bool.false_and, Bool.and_false]
    · have c1 : decide (ilv > lv) = false := c1
      rw [c1, Bool.false_and]
theorem z5l (c : Bool) (lvy k : Int) (n : Nat) : ∀ (l : List Tm) (i : Nat) (a : List Tm × List Tm), a.1.length = a.2.length → (z6n c lvy k n l i a).1.length = (z6n c lvy k n l i a).2.length ∧ (z6n c lvy k n l i a).1.length ≤ a.1.length + l.length
 | [], _, a, h => ⟨h, Nat.le_refl _⟩
 | t :: l, i, a, h => by
  rw [z6n]
  split
  · have := z5l c lvy k n l (i + 1) (a.1 ++ [t], a.2 ++ [bV3 (k + (n : Int) - 1 - (i : Int))]) (by simp [h])
    exact ⟨this.1, by have := this.2; simp only [List.length_append, List.length_cons, List.length_nil] at this ⊢; omega⟩
  · have := z5l c lvy k n l (i + 1) a h
    exact ⟨this.1, by have := this.2; simp only [List.length_cons]; omega⟩
theorem z88 (lv : Int) (L : List Tm) (k : Int) (m : Nat) : ∀ (l : List Tm) (i : Nat) (a : List Tm × List Tm), a.1.length = a.2.length → (imgs lv L k m l i a).1.length = (imgs lv L k m l i a).2.length ∧ (imgs lv L k m l i a).1.length ≤ a.1.length + l.length
 | [], _, a, h => ⟨h, Nat.le_refl _⟩
 | t :: l, i, a, h => by
  rw [imgs]
  split
  · have := z88 lv L k m l (i + 1) (a.1 ++ [bV3 ((m : Int) - 1 - (i : Int))], a.2 ++ [(imgT lv L t k).1]) (by simp [h])
    exact ⟨this.1, by have := this.2; simp only [List.length_append, List.length_cons, List.length_nil] at this ⊢; omega⟩
  · have := z88 lv L k m l (i + 1) a h
    exact ⟨this.1, by have := this.2; simp only [List.length_cons]; omega⟩
theorem zin (x lv : Int) (L : List Tm) (f e : Int) (s : Sto) (ilv : Int) (ibd : Bool) (iv : Tm) (y k : Int) (ls : List Tm) (hls : ls.length ≤ 100000) (r : Tm) (S : Sto) (fin : List Tm × List Tm)
  (hI : ∀ t ∈ ls, AC Tryz.prog 94 [aIV, aT t, ci k] (oIs x lv L f e s) (zdk (imgT lv L t k).1 (imgT lv L t k).2) (oIs x lv L f e s))
  (full : fin.1.length = ls.length → ilv ≤ lv → z07 (.mk 4 [] y []) fin.2 = r ∧ s = S)
  (part : ¬ (fin.1.length = ls.length ∧ ilv ≤ lv) → RPt Tryz.prog 93 4 (aT r) (oIt x lv L f e S) 5 (fxS x lv L f e s ⟨ilv, ibd, iv⟩ y k ls fin.1 fin.2 L 105 106 107 0)) :
  ∀ (b pre on im : List Tm), ls = pre ++ b → on.length = im.length → on.length ≤ pre.length → imgs lv L k ls.length b pre.length (on, im) = fin →
  RPt Tryz.prog 93 4 (aT r) (oIt x lv L f e S) 1 (fxS x lv L f e s ⟨ilv, ibd, iv⟩ y k ls on im ls 55 56 57 (pre.length : Int))
 | [], pre, on, im, hl, ho, h2, hm => by
  rw [List.append_nil] at hl
  have hm : (on, im) = fin := hm
  subst hm
  have hlp : ls.length = pre.length := by rw [hl]
  have ha := z3p (.mk 4 [] y []) im (by simp only [Tm.l, List.length_nil]; omega)
  simp only at full part
  have hv := zau y
  obtain ⟨ik, is, iN, il⟩ := iv
  unfold fxS at part ⊢
  by_cases hn : on = []
  · subst hn
    have : im = [] := List.eq_nil_of_length_eq_zero ho.symm
    subst this
    rw [if_pos rfl] at part ⊢
    refine RPt.vc hP sh lv93 (Eq.mpr (v93_1a ..) ?_)
    rw [z00]
    refine z01 (fun h => absurd (of_decide_eq_true h) (by rw [hl]; omega)) (fun _ => ⟨rfl, rfl, z01 (fun c1 => z01 (fun c2 => ?_) (fun c2 => ⟨rfl, ?_⟩)) (fun c1 => ⟨rfl, ?_⟩)⟩)
    · have c1 : (0 : Int) = (ls.length : Int) := eq_of_beq c1
      have c2 := of_decide_eq_true c2
      obtain ⟨e1, rfl⟩ := full (by simp only [List.length_nil]; omega) c2
      rw [e1] at ha
      exact ⟨_, hv, _, ha.args ⟨.refl _, .c _ _ (.a _ _ (.fz _ _ z0l)), trivial⟩, .refl _, rfl⟩
    · have c2 := of_decide_eq_false c2
      rw [z00]
      exact part (fun h => c2 h.2)
    · have c1 : ((0 : Int) == (ls.length : Int)) = false := c1
      rw [z00]
      exact part (fun h => by have := h.1; simp only [List.length_nil] at this; rw [← this] at c1; cases c1)
  · rw [if_neg hn] at part ⊢
    refine RPt.vc hP sh lv93 (Eq.mpr (v93_1b ..) ?_)
    rw [z00]
    refine z01 (fun h => absurd (of_decide_eq_true h) (by rw [hl]; omega)) (fun _ => ⟨rfl, z01 (fun c1 => z01 (fun c2 => ?_) (fun c2 => ⟨rfl, ?_⟩)) (fun c1 => ⟨rfl, ?_⟩)⟩)
    · have c1 : (on.length : Int) = (ls.length : Int) := eq_of_beq c1
      have c2 := of_decide_eq_true c2
      obtain ⟨e1, rfl⟩ := full (by omega) c2
      rw [e1] at ha
      rw [List.drop_zero, List.take_of_length_le (by rw [z00]; exact Nat.le_refl _)]
      exact ⟨_, hv, ⟨rfl, by rw [z00]; omega⟩, _, ha, .refl _, rfl⟩
    · have c2 := of_decide_eq_false c2
      rw [z00]
      exact part (fun h => c2 h.2)
    · have c1 : ((on.length : Int) == (ls.length : Int)) = false := c1
      rw [z00]
      exact part (fun h => by rw [h.1] at c1; simp at c1)
 | t :: b, pre, on, im, hl, ho, h2, hm => by
  have hlen : ls.length = pre.length + (b.length + 1) := by rw [hl]; simp
  have em : List.getD (FTs ls) (Int.toNat (pre.length : Int)) [] = FT t := by rw [hl]; exact midI pre t b
  have ea : aE (List.getD (FTs ls) (Int.toNat (pre.length : Int)) []) = aT t := by rw [hl]; exact z4v pre t b
  have h3 : ((pre.length : Nat) : Int) < (((FTs ls).length : Nat) : Int) := by rw [z00]; omega
  have hmm : imgs lv L k ls.length (t :: b) pre.length (on, im) = imgs lv L k ls.length b (pre.length + 1) (if (imgT lv L t k).2 = true then (on ++ [bV3 ((ls.length : Int) - 1 - (pre.length : Int))], im ++ [(imgT lv L t k).1]) else (on, im)) := rfl
  rw [hmm] at hm
  have hi := hI t (by rw [hl]; simp)
  have ej : (((pre ++ [t]).length : Nat) : Int) = (pre.length : Int) + 1 := by simp
  have en1 : (pre ++ [t]).length = pre.length + 1 := by simp
  generalize imgT lv L t k = z at *
  obtain ⟨z1, z2⟩ := z
  simp only at hm hi
  have skip : z2 = false → RPt Tryz.prog 93 4 (aT r) (oIt x lv L f e S) 1 (fxS x lv L f e s ⟨ilv, ibd, iv⟩ y k ls on im ls 55 56 57 ((pre.length : Int) + 1)) := fun h => by
   rw [h, if_neg (by simp)] at hm
   have := zin x lv L f e s ilv ibd iv y k ls hls r S fin hI full part b (pre ++ [t]) on im (by rw [hl]; simp) ho (by rw [en1]; omega) (by rw [en1]; exact hm)
   rw [ej] at this; exact this
  have take : z2 = true → RPt Tryz.prog 93 4 (aT r) (oIt x lv L f e S) 1 (fxS x lv L f e s ⟨ilv, ibd, iv⟩ y k ls (on ++ [bV3 ((ls.length : Int) - 1 - (pre.length : Int))]) (im ++ [z1]) ls 55 56 57 ((pre.length : Int) + 1)) := fun h => by
   rw [if_pos h] at hm
   have := zin x lv L f e s ilv ibd iv y k ls hls r S fin hI full part b (pre ++ [t]) (on ++ [bV3 ((ls.length : Int) - 1 - (pre.length : Int))]) (im ++ [z1]) (by rw [hl]; simp) (by simp [ho]) (by rw [en1]; simp; omega) (by rw [en1]; exact hm)
   rw [ej] at this; exact this
  have hb := z7h ((ls.length : Int) - 1 - (pre.length : Int))
  have op : FV.isSl 4 (.sl false 4 (FTs ls)) = true ∧ ((0 : Int) ≤ (pre.length : Int) ∧ (((pre.length : Int) < (((FTs ls).length : Nat) : Int)) ∧ ((rE (List.getD (FTs ls) (Int.toNat (pre.length : Int)) []) : List FV) = List.getD (FTs ls) (Int.toNat (pre.length : Int)) []))) := ⟨rfl, by omega, h3, by rw [em]; exact za6 t⟩
  have w : IntKind.wrap .i64 (IntKind.wrap .i64 ((((FTs ls).length : Nat) : Int) - 1) - (pre.length : Int)) = (ls.length : Int) - 1 - (pre.length : Int) := by
   rw [z00, w64 (x := (ls.length : Int) - 1) (by omega) (by omega), w64 (by omega) (by omega)]
  obtain ⟨ik, is, iN, il⟩ := iv
  unfold fxS at skip take ⊢
  rw [if_neg (zoa on _)] at take
  by_cases hn : on = []
  · subst hn
    have : im = [] := List.eq_nil_of_length_eq_zero ho.symm
    subst this
    rw [if_pos rfl] at skip ⊢
    refine RPt.vc hP sh lv93 (Eq.mpr (v93_1a ..) ?_)
    rw [ea, w64 (x := (pre.length : Int) + 1) (by omega) (by omega), w]
    refine z01 (fun _ => ⟨op, (z1, z2), hi, z01 (fun c => ⟨rfl, _, hb, Nat.le_refl _, z57 (by omega), Nat.le_refl _, z57 (by omega), by rw [z5h, z5h]; exact take c⟩) (fun c => skip c)⟩) (fun h => absurd (of_decide_eq_false h) (by omega))
  · rw [if_neg hn] at skip ⊢
    refine RPt.vc hP sh lv93 (Eq.mpr (v93_1b ..) ?_)
    rw [ea, w64 (x := (pre.length : Int) + 1) (by omega) (by omega), w]
    refine z01 (fun _ => ⟨op, (z1, z2), hi, z01 (fun c => ⟨rfl, _, hb, Nat.le_refl _, ⟨by rw [z00]; exact Nat.le_refl _, z57 (by omega)⟩, Nat.le_refl _, ⟨by rw [z00]; exact Nat.le_refl _, z57 (by omega)⟩, ?_⟩) (fun c => skip c)⟩) (fun h => absurd (of_decide_eq_false h) (by omega))
    rw [List.take_of_length_le (l := FTs on) (by rw [z00]; exact Nat.le_refl _), List.take_of_length_le (l := FTs im) (by rw [z00]; exact Nat.le_refl _), z5h, z5h]
    have := take c
    rw [z1t, z1t, List.length_append, List.length_append] at this
    exact this
theorem c_iflex (x lv : Int) (L : List Tm) (q : IS) (y : Int) (l : List Tm) (k : Int) (hL : L.length ≤ 100000) (hk0 : 0 ≤ k) (hk1 : k ≤ 1099511627776)
  (hA : AC Tryz.prog 13 [aS 0, ci y, aL l, ci q.f] (oS q.s) (aAr (z1f q.s y l q.f)) (oS q.s)) (hls : (z1f q.s y l q.f).1.length ≤ 100000)
  (hI : ∀ t ∈ (z1f q.s y l q.f).1, AC Tryz.prog 94 [aIV, aT t, ci k] (oIs x lv L (z1f q.s y l q.f).2.1 q.e q.s) (zdk (imgT lv L t k).1 (imgT lv L t k).2) (oIs x lv L (z1f q.s y l q.f).2.1 q.e q.s))
  (hh : (z1f q.s y l q.f).2.2 = 0 → AC Tryz.prog 123 [aS 0, ci y, ci (z0t [lv, (infOf q.s.V y).lv]), ci ((z1f q.s y l q.f).1.length : Int), aL (onF lv (infOf q.s.V y).lv L k (z1f q.s y l q.f).1).1] (oS q.s) (aT (.mk 4 [] (q.s.V.length : Int) [])) (oS' (z31 q.s y (z0t [lv, (infOf q.s.V y).lv]) (z1f q.s y l q.f).1.length (onF lv (infOf q.s.V y).lv L k (z1f q.s y l q.f).1).1))) :
  AC Tryz.prog 93 [aIV, ci y, aL l, ci k] (oIs x lv L q.f q.e q.s) (aT (z30 lv L q y l k).1) (oIt x lv L (z30 lv L q y l k).2.f (z30 lv L q y l k).2.e (z30 lv L q y l k).2.s) := by
 have hinf := z9f q.s y
 have eF : z30 lv L q y l k = if (z1f q.s y l q.f).2.2 ≠ 0 then (noT, z2y q (z1f q.s y l q.f).2.2) else za4 lv L q y k (z1f q.s y l q.f).1 (z1f q.s y l q.f).2.1 := rfl
 rw [eF]
 generalize z1f q.s y l q.f = z at *
 obtain ⟨ls, g, er⟩ := z
 simp only at hA hls hI hh ⊢
 refine AC.vc hP sh lv93 (by simp) (by simp [isLive]) (by simp [isLive]) (Eq.mpr (v93 ..) ?_)
 refine ⟨(ls, g, er), hA, z01 (fun h => ?_) (fun h => ?_)⟩
 · have h : er ≠ 0 := by have h : (er != 0) = true := h; simpa using h
   rw [if_pos h]
   have hf := zpd x lv L q.f q.e er q.s
   refine ⟨(x, lv, L, q.f, if q.e = 0 then er else q.e), hf, ?_, ?_⟩
   · exact leT (l := []) (.refl _)
   · unfold z2y
     split <;> rfl
 · have h : er = 0 := by have h : (er != 0) = false := h; simpa using h
   subst h
   rw [if_neg (by simp)]
   have eG : za4 lv L q y k ls g = if (imgs lv L k ls.length ls 0 ([], [])).1.length = ls.length ∧ (infOf q.s.V y).lv ≤ lv then (z07 (.mk 4 [] y []) (imgs lv L k ls.length ls 0 ([], [])).2, ⟨q.s, g, q.e⟩)
    else (z07 (.mk 4 [] (q.s.V.length : Int) []) (onF lv (infOf q.s.V y).lv L k ls).2, ⟨z31 q.s y (z0t [lv, (infOf q.s.V y).lv]) ls.length (onF lv (infOf q.s.V y).lv L k ls).1, g, q.e⟩) := rfl
   have hh := hh rfl
   have eo : ∀ w, onF lv w L k ls = z6n (decide (w > lv)) w k L.length L 0 (imgs lv L k ls.length ls 0 ([], [])) := fun w => rfl
   have il := z88 lv L k ls.length ls 0 ([], []) rfl
   rw [eG]
   generalize infOf q.s.V y = i at *
   obtain ⟨ilv, ibd, iv⟩ := i
   have ml := z5l (decide (ilv > lv)) ilv k L.length L 0 (imgs lv L k ls.length ls 0 ([], [])) il.1
   rw [← eo ilv] at ml
   simp only [List.length_nil, Nat.zero_add] at il ml
   refine ⟨(ilv, ibd, iv, inB q.s.V y), hinf, rfl, ?_⟩
   rw [z00]
   have main : ∀ (r : Tm) (S : Sto), ((imgs lv L k ls.length ls 0 ([], [])).1.length = ls.length → ilv ≤ lv → z07 (.mk 4 [] y []) (imgs lv L k ls.length ls 0 ([], [])).2 = r ∧ q.s = S) →
     (¬ ((imgs lv L k ls.length ls 0 ([], [])).1.length = ls.length ∧ ilv ≤ lv) → z07 (.mk 4 [] (q.s.V.length : Int) []) (onF lv ilv L k ls).2 = r ∧ z31 q.s y (z0t [lv, ilv]) ls.length (onF lv ilv L k ls).1 = S) →
     RPt Tryz.prog 93 4 (aT r) (oIt x lv L g q.e S) 1 (fxS x lv L g q.e q.s ⟨ilv, ibd, iv⟩ y k ls [] [] ls 55 56 57 0) := fun r S h1 h2 => by
    refine zin x lv L g q.e q.s ilv ibd iv y k ls hls r S _ hI h1 (fun hn => ?_) ls [] [] [] rfl rfl (Nat.le_refl _) rfl
    obtain ⟨e1, e2⟩ := h2 hn
    have hfin : (onF lv ilv L k ls).1.length ≤ 200000 ∧ (onF lv ilv L k ls).2.length ≤ 200000 := by rw [← ml.1]; omega
    rw [e2] at hh
    exact zj0 x lv L g q.e q.s ilv ibd iv y k ls hL hk0 hk1 r S (onF lv ilv L k ls) hfin hh e1 L [] _ _ rfl il.1 (by omega) rfl
   split
   · rename_i hc
     exact main _ _ (fun _ _ => ⟨rfl, rfl⟩) (fun hn => absurd hc hn)
   · rename_i hc
     exact main _ _ (fun a b => absurd ⟨a, b⟩ hc) (fun _ => ⟨rfl, rfl⟩)
end Go.AM
