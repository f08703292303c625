/- A calculus of plain values for the model's code, what the code of each function asks (computed by the kernel), contracts of the functions, and plain laws (part 7). No conditions. -/
import Derived.Test.YtdpjhpfjmjhhkaaGreatPart6
set_option maxRecDepth 100000
open Go Go.Proofs
namespace Go.AM
theorem zdg (s : Sto) (L k n : Int) (str : List UInt8) (l0 : List Tm) (hl0 : l0.length ≤ B) : ∀ b a : List Tm, l0 = a ++ b → (∀ u ∈ b, AC Tryz.prog 39 [aS 0, aT u, ci L] (oS s) (cb true) (oS s)) →
  RPt Tryz.prog 39 3 (cb true) (oS s) 1 ⟨[(0, aS 0), (2, ci L), (4, .c (.a (.ep 3 4 0 0))), (9, ci (a.length : Int))], [(0, sto2 1 2 s), (1, .arz 6 (SR s.V)), (2, .arz 1 (IR s.T)), (3, .arr 4 [cT (.mk k str n l0)])], 4⟩
 | [], a, hl, _ => by
  rw [List.append_nil] at hl
  subst hl
  refine RPt.vc hP sh lv39 (Eq.mpr (v39_1a ..) ?_)
  exact ⟨rfl, z01 (fun h => absurd (of_decide_eq_true h) (by rw [z00]; exact Int.lt_irrefl _)) (fun _ => ⟨.refl _, rfl⟩)⟩
 | t :: b, a, hl, hb => by
  have next := zdg s L k n str l0 hl0 b (a ++ [t]) (by rw [hl]; simp) (fun u hu => hb u (List.mem_cons_of_mem _ hu))
  have hc := hb t List.mem_cons_self
  have hlen : l0.length = a.length + (b.length + 1) := by rw [hl]; simp
  simp only [B] at hl0
  rw [show (((a ++ [t]).length : Nat) : Int) = (a.length : Int) + 1 by simp] at next
  refine RPt.vc hP sh lv39 (Eq.mpr (v39_1a ..) ?_)
  subst hl
  have hlb : (a ++ t :: b).length ≤ 549755813888 := hl0
  show _ ∧ br _ (_ ∧ ∃ b1, AC Tryz.prog 39 [aS 0, aE (List.getD (FTs (a ++ t :: b)) (Int.toNat (a.length : Int)) []), ci L] _ _ _ ∧ _) _
  rw [z39, w64 (x := (a.length : Int) + 1) (by omega) (by omega)]
  exact ⟨rfl, z01 (fun _ => ⟨⟨rfl, by omega, ltI' a t b, z3o a t b⟩, true, hc, z01 (fun h => by cases h) (fun _ => next)⟩) (fun h => absurd (ltI' a t b) (of_decide_eq_false h))⟩
theorem zn2 (s : Sto) (L : Int) : ∀ t : Tm, okB t = true → t.sz ≤ B → ∀ d : Int, wG (lvP s L) t d = true → AC Tryz.prog 39 [aS 0, aT t, ci L] (oS s) (cb true) (oS s) := by
 refine Tm.ind fun t ih => ?_
 intro ok hz d hw
 have hI := z66 s t.n
 have leaf1 : t.k = 1 → t.n ≤ L := fun h => by
  have := zjt hw (.inr h)
  rw [h] at this
  unfold lvP at this
  rw [if_neg (by decide)] at this
  exact of_decide_eq_true this
 have leaf4 : t.k = 4 → inB s.V t.n = true ∧ (infOf s.V t.n).lv ≤ L := fun h => by
  have := zjt hw (.inl h)
  rw [h] at this
  unfold lvP at this
  rw [if_pos rfl, Bool.and_eq_true] at this
  exact ⟨this.1, of_decide_eq_true this.2⟩
 have kids : ∀ u ∈ t.l, AC Tryz.prog 39 [aS 0, aT u, ci L] (oS s) (cb true) (oS s) := fun u hu => by
  have hk : t.k = 5 ∨ t.k = 6 := by
   by_cases h : t.k = 5 ∨ t.k = 6
   · exact h
   · obtain ⟨k, str, n, l⟩ := t
     have h : ¬ (k = 5 ∨ k = 6) := h
     have : l = [] := okB0 ok (by omega) (by omega)
     subst this; cases hu
  have hm := Tm.szs_mem hu
  have he := t.sz_eq
  rcases hk with h5 | h6
  · exact ih u hu (z3y (zbj ok) hu) (by omega) _ (zea hw h5 hu)
  · exact ih u hu (z3y (zbj ok) hu) (by omega) _ (z4t hw h6 hu)
 obtain ⟨k, str, n, l⟩ := t
 have hlen : l.length ≤ B := by have := Tm.szs_length l; simp only [Tm.sz] at hz; omega
 have next := zdg s L k n str l hlen l [] rfl kids
 have leaf1 : k = 1 → n ≤ L := leaf1
 have leaf4 : k = 4 → inB s.V n = true ∧ (infOf s.V n).lv ≤ L := leaf4
 have hI : AC Tryz.prog 19 [aS 0, ci n] (oS s) (tI (infOf s.V n) (inB s.V n)) (oS s) := hI
 refine AC.vc hP sh lv39 (Nat.le_refl _) (by simp [isLive]) (by simp) (Eq.mpr (v39 k str n (FTs l) ..) ?_)
 refine z01 (fun h1 => z01 (fun h => ?_) (fun _ => z01 (fun h4 => ?_) (fun _ => next))) (fun h1 => z01 (fun h4 => ?_) (fun _ => next))
 · have := leaf1 (eq_of_beq h1)
   exact absurd (of_decide_eq_true h) (by omega)
 · have h1 : k = 1 := eq_of_beq h1
   have h4 : k = 4 := eq_of_beq h4
   omega
 · have h4 : k = 4 := eq_of_beq h4
   have lf := leaf4 h4
   refine ⟨((infOf s.V n).lv, (infOf s.V n).bd, (infOf s.V n).v, inB s.V n), hI, z01 (fun _ => z01 (fun h => ?_) (fun _ => next)) (fun _ => next)⟩
   exact absurd (of_decide_eq_true h) (by have := lf.2; dsimp only; omega)
def thF (n : Int) (l : List Tm) : Bool := l.all fun t => (z1o t []).all fun v => !decide (v ≥ n)
theorem zlm (n : Int) (l : List Tm) (i : Int) (hi : 0 ≤ i ∧ i ≤ 1000) (vs : List Int) (hv : vs.length ≤ 1000) (rest : Bool) (hk : RPt Tryz.prog 37 0 (cb rest) [] 1 ⟨[(0, aL l), (1, ci n), (5, ci (i + 1))], [], 0⟩) : ∀ b a : List Int, vs = a ++ b →
  RPt Tryz.prog 37 0 (cb ((b.all fun v => !decide (v ≥ n)) && rest)) [] 5 ⟨[(0, aL l), (1, ci n), (5, ci i), (6, aI vs), (7, ci (a.length : Int))], [], 0⟩
 | [], a, ha => by
  rw [List.append_nil] at ha
  refine RPt.vc hP sh lv37 (Eq.mpr (v37_5a ..) ?_)
  rw [w64 (x := i + 1) (by omega) (by omega)]
  exact ⟨rfl, z01 (fun h => absurd (of_decide_eq_true h) (by show ¬ _ < (((IR vs).length : Nat) : Int); rw [IR_len, ha]; omega)) (fun _ => hk)⟩
 | v :: b, a, ha => by
  have next := zlm n l i hi vs hv rest hk b (a ++ [v]) (by rw [ha]; simp)
  have em : List.getD (FV.ses (.sl false 1 (IR vs))) (Int.toNat (a.length : Int)) [] = [.int .i64 v] := by rw [ha]; exact IR_mid a v b
  have el : (FV.ses (.sl false 1 (IR vs))).length = vs.length := IR_len vs
  have hlen : vs.length = a.length + (b.length + 1) := by rw [ha]; simp
  rw [show (((a ++ [v]).length : Nat) : Int) = (a.length : Int) + 1 by simp] at next
  rw [List.all_cons]
  refine RPt.vc hP sh lv37 (Eq.mpr (v37_5a ..) ?_)
  rw [em, el, w64 (x := (a.length : Int) + 1) (by omega) (by omega)]
  refine ⟨rfl, z01 (fun _ => ⟨⟨rfl, by omega, by omega, rfl⟩, z01 (fun h => ?_) (fun h => ?_)⟩) (fun h => absurd (of_decide_eq_false h) (by omega))⟩
  · have h : decide (v ≥ n) = true := h
    rw [h]; exact z06 rfl
  · have h : decide (v ≥ n) = false := h
    rw [h]
    exact next
theorem zls (n : Int) (l : List Tm) (hl : l.length ≤ 8) (hz : ∀ t ∈ l, t.sz ≤ 24) : ∀ b a : List Tm, l = a ++ b → RPt Tryz.prog 37 0 (cb (thF n b)) [] 1 ⟨[(0, aL l), (1, ci n), (5, ci (a.length : Int))], [], 0⟩
 | [], a, ha => by
  rw [List.append_nil] at ha
  refine RPt.vc hP sh lv37 (Eq.mpr (v37_1a ..) ?_)
  exact ⟨rfl, z01 (fun h => absurd (of_decide_eq_true h) (by rw [z00, ha]; omega)) (fun _ => z06 rfl)⟩
 | t :: b, a, ha => by
  have next := zls n l hl hz b (a ++ [t]) (by rw [ha]; simp)
  have hlen : l.length = a.length + (b.length + 1) := by rw [ha]; simp
  have ht := hz t (by rw [ha]; simp)
  have hv := c_vars t (by simp only [B]; omega)
  have hvl := z59 t []
  simp only [List.length_nil] at hvl
  have ea : aE (List.getD (FTs l) (Int.toNat (a.length : Int)) []) = aT t := by rw [ha]; exact z39 a t b
  rw [show (((a ++ [t]).length : Nat) : Int) = (a.length : Int) + 1 by simp] at next
  have five := zlm n l (a.length : Int) ⟨by omega, by omega⟩ (z1o t []) (by omega) (thF n b) next (z1o t []) [] rfl
  refine RPt.vc hP sh lv37 (Eq.mpr (v37_1a ..) ?_)
  rw [ea]
  refine ⟨rfl, z01 (fun _ => ⟨⟨rfl, by omega, by rw [z00]; omega, by rw [ha]; exact z3o a t b⟩, _, hv, five⟩) (fun h => absurd (of_decide_eq_false h) (by rw [z00]; omega))⟩
theorem zpp (n : Int) (l : List Tm) (hl : l.length ≤ 8) (hz : ∀ t ∈ l, t.sz ≤ 24) : AC Tryz.prog 37 [aL l, ci n] [] (cb (thF n l)) [] := by
 refine AC.vc hP sh lv37 (Nat.le_refl _) (by simp) (by simp) (Eq.mpr (v37 ..) ?_)
 exact zls n l hl hz l [] rfl
theorem wG_of {p : Int → Bool} {q : Int → Int → Bool} (h4 : ∀ n, p n = true → q 4 n = true) (h1 : ∀ n, q 1 n = true) {M : Int} : ∀ (t : Tm), bd M t → vP p t = true → ∀ d : Int, M < d → wG q t d = true := by
 refine Tm.ind fun t ih => ?_
 intro hb hv d hd
 have kids : ∀ u ∈ t.l, ∀ e : Int, M < e → wG q u e = true := fun u hu e he => ih u hu (by obtain ⟨k, s, n, l⟩ := t; exact z2v hb.2 hu) (vP_kid hv hu) e he
 have h4' := fun h => h4 _ (vP_var hv h)
 obtain ⟨k, s, n, l⟩ := t
 rw [z57]
 refine ⟨?_, fun _ u hu => kids u hu _ (by split <;> omega)⟩
 unfold gB
 split
 · rename_i h3
   have := (hb.1 h3).2
   exact decide_eq_true (by omega)
 · by_cases e4 : k = 4
   · subst e4; rw [show q 4 n = true from h4' rfl, Bool.or_true]
   · by_cases e1 : k = 1
     · subst e1; rw [h1 n, Bool.or_true]
     · simp [e4, e1]
theorem PV_of {s : Sto} {n : Int} (hn : n ≤ (s.V.length : Int)) {t : Tm} (hv : z02 t = true) (hz : t.sz ≤ 24) (hb : bd 1000 t) (h : ((z1o t []).all fun v => !decide (v ≥ n)) = true) : PV s t := by
 have x := varsV t hv hz
 refine ⟨2000, by omega, wG_of (p := fun i => inB s.V i) (M := 1000) (fun n h => by unfold inP; rw [h, Bool.or_true]) (fun n => rfl) t hb (vP_imp (fun i hi => ?_) t x.2.2) _ (by omega)⟩
 have hi := of_decide_eq_true hi
 have h0 := x.1 i hi
 have h1 := List.all_eq_true.1 h i hi
 simp only [Bool.not_eq_true', decide_eq_false_iff_not] at h1
 exact z3x.2 ⟨h0, by omega⟩
theorem frS_snoc (a : List IBT) (v : IBT) (u : Sto) : frS (a ++ [v]) u = freshS (frS a u) v.1.1 := by simp [frS]
theorem zin : ∀ (a : List IBT) (u : Sto), (frS a u).V.length = u.V.length + a.length ∧ (frS a u).T = u.T
 | [], u => ⟨rfl, rfl⟩
 | v :: a, u => by
  have := zin a (freshS u v.1.1)
  have f := z7i u v.1.1
  exact ⟨by show (frS a (freshS u v.1.1)).V.length = _; rw [this.1, f.1, List.length_cons]; omega, by show (frS a (freshS u v.1.1)).T = _; rw [this.2, f.2]⟩
structure SJ (n : Nat) (j : Nat) (s : Sto) : Prop where
 ok : OKS s
 wf : WF s
 ot : OKT s
 lv : LvS s
 V : s.V.length ≤ 8 + 150 * j
 T : s.T.length ≤ 8 + 150 * j
 n : n ≤ s.V.length
theorem sj_fr (a : List IBT) (h8 : a.length ≤ 8) : SJ a.length 0 (frS a sNil) := by
 have key : ∀ (a : List IBT) (s : Sto), OKS s → WF s → OKT s → LvS s → OKS (frS a s) ∧ WF (frS a s) ∧ OKT (frS a s) ∧ LvS (frS a s) := by
  intro a
  induction a with
  | nil => intro s h1 h2 h3 h4; exact ⟨h1, h2, h3, h4⟩
  | cons v a ih =>
   intro s h1 h2 h3 h4
   refine ih (freshS s v.1.1) (fun i hi hb => ?_) (h2.fresh _) (h3.fresh _) (h4.fresh _)
   rcases List.mem_append.1 hi with hi | hi
   · exact h1 i hi hb
   · simp at hi; subst hi; cases hb
 have k := key a sNil (fun i hi => nomatch hi) (fun i hi => nomatch hi) (fun i hi => nomatch hi) ⟨fun x hb => absurd hb (by rw [z2o (by simp [sNil]; try omega)]; simp [noI]), fun i hi => nomatch hi⟩
 have l := zin a sNil
 exact ⟨k.1, k.2.1, k.2.2.1, k.2.2.2, by rw [l.1]; simp [sNil]; omega, by rw [l.2]; simp [sNil], by rw [l.1]; omega⟩
theorem l_ul9 (s : Sto) {n j : Nat} (hj : SJ n j s) (hj8 : j ≤ 8) : ∀ (m i : Nat), i + m = s.V.length → RPt Tryz.prog 7 0 (cb true) [] 9 ⟨[(9, cb true), (13, aS 0), (18, ci (i : Int))], [(0, sto2 1 2 s), (1, .arz 6 (SR s.V)), (2, .arz 1 (IR s.T))], 3⟩
 | 0, i, hi => by
  refine RPt.vc hP sh lv7 (Eq.mpr (v7_9a ..) ?_)
  exact ⟨_, c_slen s, z01 (fun h => absurd (of_decide_eq_true h) (by omega)) (fun _ => z06 rfl)⟩
 | m + 1, i, hi => by
  have hV := hj.V
  have next := l_ul9 s hj hj8 m (i + 1) (by omega)
  have hI := z66 s (i : Int)
  have hin : inB s.V (i : Int) = true := inB_of (by omega) (by omega)
  have fit : z02 (.mk 4 [] (i : Int) []) = true → Fit (2000 : Int).toNat (.mk 4 [] (i : Int) []) := fun hv => (zc3 (F := (2000 : Int).toNat) hv (by show (1 : Nat) ≤ 24; decide) ⟨fun q => (by cases q), trivial⟩ (by decide)).2
  have hF := zfn s hj.ok 2000 (.mk 4 [] (i : Int) []) (by omega) (by show (1 : Nat) ≤ B; decide) fit
  have ok := zb3 hj.ok (f := 2000) (t := .mk 4 [] (i : Int) []) fit
  have wg : wG (lvP s (infOf s.V (i : Int)).lv) (z1m s 2000 (.mk 4 [] (i : Int) [])).1 0 = true := FullV_wG (hj.lv.sgL _) (Int.le_refl _) (zhj (by
   unfold lvP
   rw [if_pos rfl, hin, Bool.true_and]
   exact decide_eq_true (Int.le_refl _)))
  rw [hin] at hI
  generalize z1m s 2000 (.mk 4 [] (i : Int) []) = z at *
  obtain ⟨z1, z2, z3⟩ := z
  generalize infOf s.V (i : Int) = inf at *
  obtain ⟨ilv, ibd, iv⟩ := inf
  dsimp only at ok wg
  refine RPt.vc hP sh lv7 (Eq.mpr (v7_9a ..) ?_)
  rw [w64 (x := (i : Int) + 1) (by omega) (by omega)]
  refine ⟨_, c_slen s, z01 (fun _ => ⟨(ilv, ibd, iv, true), hI, (z1, z2, z3), hF.args ⟨.refl _, leT (l := []) z0c, .refl _, trivial⟩, z01 (fun h => by cases h) (fun _ => z01 (fun _ => next) (fun h0 => ?_))⟩) (fun h => absurd (of_decide_eq_false h) (by omega))⟩
  have h0 : z3 = 0 := by have h0 : (z3 != 0) = false := h0; simpa using h0
  have ok := ok h0
  have hz : z1.sz ≤ B := by have := ok.2.2.2.1; simp only [SZ, B] at *; omega
  have hw := zn2 s ilv z1 (z08 _ ok.2.1) hz 0 wg
  have hl := zq0 z1 hz ok.2.2.1
  rw [zmg z1 0 0 wg (Int.le_refl _)] at hl
  exact ⟨true, hw, z01 (fun h => by cases h) (fun _ => ⟨_, hl, z01 (fun h => by cases h) (fun _ => next)⟩)⟩
section
variable (la lb : List Tm) (fuel : Int) (hf0 : -9223372036854775808 ≤ fuel) (hf : fuel ≤ 150) (hab : la.length = lb.length) (ha8 : la.length ≤ 8) (hza : ∀ t ∈ la, t.sz ≤ 24 ∧ bd 1000 t) (hzb : ∀ t ∈ lb, t.sz ≤ 24 ∧ bd 1000 t) (n : Nat)
include hf0 hf hab ha8 hza hzb
theorem l_ul5 : ∀ (ra rb pa pb : List Tm) (s : Sto), la = pa ++ ra → lb = pb ++ rb → pa.length = pb.length → SJ n pa.length s → thF (n : Int) ra = true → thF (n : Int) rb = true →
  RPt Tryz.prog 7 0 (cb true) [] 5 ⟨[(1, aL la), (2, aL lb), (3, ci fuel), (9, cb true), (13, aS 0), (17, ci (pa.length : Int))], [(0, sto2 1 2 s), (1, .arz 6 (SR s.V)), (2, .arz 1 (IR s.T))], 3⟩
 | [], rb, pa, pb, s, ea, eb, hp, hj, _, _ => by
  have nine := l_ul9 s hj (by have := congrArg List.length ea; simp only [List.length_append, List.length_nil] at this; omega) s.V.length 0 (by omega)
  refine RPt.vc hP sh lv7 (Eq.mpr (v7_5a ..) ?_)
  exact ⟨rfl, z01 (fun h => absurd (of_decide_eq_true h) (by rw [z00, ea, List.append_nil]; omega)) (fun _ => nine)⟩
 | t :: ra, [], pa, pb, s, ea, eb, hp, _, _, _ => by
  have h1 := congrArg List.length ea
  have h2 := congrArg List.length eb
  simp only [List.length_append, List.length_nil, List.length_cons] at h1 h2
  omega
 | t :: ra, u :: rb, pa, pb, s, ea, eb, hp, hj, ht, hu => by
  have mt := hza t (by rw [ea]; simp)
  have mu := hzb u (by rw [eb]; simp)
  have hla : la.length = pa.length + (ra.length + 1) := by rw [ea]; simp
  have hlb : lb.length = pb.length + (rb.length + 1) := by rw [eb]; simp
  have eaa : aE (List.getD (FTs la) (Int.toNat (pa.length : Int)) []) = aT t := by rw [ea]; exact z39 pa t ra
  have eab : aE (List.getD (FTs lb) (Int.toNat (pa.length : Int)) []) = aT u := by rw [eb, hp]; exact z39 pb u rb
  have hra : (rE (List.getD (FTs la) (Int.toNat (pa.length : Int)) []) : List FV) = List.getD (FTs la) (Int.toNat (pa.length : Int)) [] := by rw [ea]; exact z3o pa t ra
  have hrb : (rE (List.getD (FTs lb) (Int.toNat (pa.length : Int)) []) : List FV) = List.getD (FTs lb) (Int.toNat (pa.length : Int)) [] := by rw [eb, hp]; exact z3o pb u rb
  unfold thF at ht hu
  rw [List.all_cons, Bool.and_eq_true] at ht hu
  have hV := hj.V
  have hT := hj.T
  have hz : ∀ p ∈ [(t, u)], (p.1.sz ≤ 24 ∧ bd 1000 p.1) ∧ p.2.sz ≤ 24 ∧ bd 1000 p.2 := fun p hp => by rw [List.mem_singleton.1 hp]; exact ⟨mt, mu⟩
  have ui : [(t, u)].any badP = false → UI (8 + 150 * (pa.length + 1)) s fuel [(t, u)] := fun h => zfy hj.ok (by omega) (by omega) (by omega) (by simp) hz h
  have hc := zb2 (C := 8 + 150 * (pa.length + 1)) (by omega) hj.ok hj.wf hj.ot hf0 (by omega) (by omega) (by omega) mt mu
  have k := zom (C := 8 + 150 * (pa.length + 1)) (by omega) hj.ok hj.wf hj.ot ui (by omega) (by omega)
  have lv := lv_all (C := 8 + 150 * (pa.length + 1)) (by omega) hj.wf hj.ot ui hj.lv (fun h r hr => by
   rw [List.mem_singleton.1 hr]
   have := List.any_eq_false.1 h (t, u) List.mem_cons_self
   simp only [badP, Bool.or_eq_true, Bool.not_eq_true', not_or, Bool.not_eq_false] at this
   have hn := hj.n
   exact ⟨PV_of (n := (n : Int)) (by omega) this.1 mt.1 mt.2 ht.1, PV_of (n := (n : Int)) (by omega) this.2 mu.1 mu.2 hu.1⟩)
  have hTl := k.2.2.2.2.2
  have hn : n ≤ (allF s [(t, u)] fuel).2.V.length := by
   have := hj.n
   rcases Nat.eq_zero_or_pos n with h0 | h0
   · omega
   · have hin : inB s.V ((n : Int) - 1) = true := z3x.2 ⟨by omega, by omega⟩
     have := z3x.1 (lv.2 _ hin).1
     omega
  generalize allF s [(t, u)] fuel = z at *
  obtain ⟨⟨z1, z2⟩, zs⟩ := z
  dsimp only at k lv hTl hn
  have next := l_ul5 ra rb (pa ++ [t]) (pb ++ [u]) zs (by rw [ea]; simp) (by rw [eb]; simp) (by simp [hp]) (by
   rw [show (pa ++ [t]).length = pa.length + 1 by simp]
   exact ⟨k.1, k.2.1, k.2.2.1, lv.1, k.2.2.2.2.1, hTl, hn⟩) ht.2 hu.2
  rw [show (((pa ++ [t]).length : Nat) : Int) = (pa.length : Int) + 1 by simp] at next
  refine RPt.vc hP sh lv7 (Eq.mpr (v7_5a ..) ?_)
  refine ⟨rfl, z01 (fun _ => ⟨⟨rfl, by omega, by rw [z00]; omega, hra⟩, ⟨rfl, by omega, by rw [z00]; omega, hrb⟩, ((z1, z2), zs), by rw [eaa, eab]; exact hc, ?_⟩) (fun h => absurd (of_decide_eq_false h) (by rw [z00]; omega))⟩
  rw [w64 (x := (pa.length : Int) + 1) (by omega) (by omega)]
  exact next
end
end Go.AM

set_option maxRecDepth 100000
open Go Go.Proofs
namespace Go.AM
section
variable (v : List IBT) (la lb : List Tm) (fuel : Int) (hf0 : -9223372036854775808 ≤ fuel) (hf : fuel ≤ 150) (h8 : v.length ≤ 8) (hab : la.length = lb.length) (ha8 : la.length ≤ 8) (hza : ∀ t ∈ la, t.sz ≤ 24 ∧ bd 1000 t) (hzb : ∀ t ∈ lb, t.sz ≤ 24 ∧ bd 1000 t)
include hf0 hf h8 hab ha8 hza hzb
theorem l_ul1 : ∀ (m i : Nat), i + m = v.length → RPt Tryz.prog 7 0 (cb true) [] 1 ⟨[(0, aV6 v), (1, aL la), (2, aL lb), (3, ci fuel), (9, cb true), (13, aS 0), (14, ci (i : Int))], [(0, sto2 1 2 (frS (v.take i) sNil)), (1, .arz 6 (SR (frS (v.take i) sNil).V)), (2, .arz 1 (IR (frS (v.take i) sNil).T))], 3⟩
 | 0, i, hi => by
  have e : v.take i = v := List.take_of_length_le (by omega)
  rw [e]
  have sj := sj_fr v h8
  have t1 := zpp (v.length : Int) la ha8 (fun t ht => (hza t ht).1)
  have t2 := zpp (v.length : Int) lb (by omega) (fun t ht => (hzb t ht).1)
  have five := l_ul5 la lb fuel hf0 hf hab ha8 hza hzb v.length la lb [] [] (frS v sNil) rfl rfl rfl sj
  refine RPt.vc hP sh lv7 (Eq.mpr (v7_1a ..) ?_)
  rw [List.length_map]
  refine ⟨rfl, z01 (fun h => absurd (of_decide_eq_true h) (by omega)) (fun _ => ⟨rfl, _, t1, rfl, _, t2, z01 (fun _ => z06 rfl) (fun h1 => z01 (fun _ => z06 rfl) (fun h2 => ?_))⟩)⟩
  exact five (by simpa using h1) (by simpa using h2)
 | m + 1, i, hi => by
  have hlt : i < v.length := by omega
  have hg := zl2 hlt
  have next := l_ul1 m (i + 1) (by omega)
  have hV := zin (v.take i) sNil
  have hc := zff (frS (v.take i) sNil) v[i].1.1 (by rw [hV.1, List.length_take]; simp [sNil]; omega)
  rw [← frS_snoc, show v.take i ++ [v[i]] = v.take (i + 1) from (List.take_succ_eq_append_getElem hlt).symm] at hc
  refine RPt.vc hP sh lv7 (Eq.mpr (v7_1a ..) ?_)
  rw [List.length_map, Int.toNat_natCast, hg, w64 (x := (i : Int) + 1) (by omega) (by omega)]
  generalize v[i] = e at *
  obtain ⟨⟨a1, aI⟩, a2, ⟨⟨ek, es, en, el⟩, eI⟩⟩ := e
  have op : rIB v i (⟨a1, aI⟩, a2, ⟨.mk ek es en el, eI⟩) := ⟨rfl, by omega, by omega, rfl⟩
  refine ⟨rfl, z01 (fun _ => ?_) (fun h => absurd (of_decide_eq_false h) (by omega))⟩
  exact ⟨op, (_, frS (v.take (i + 1)) sNil), hc, next⟩
end
theorem zel (v : List IBT) (a b : List Tm) (fuel : Int) (hf0 : -9223372036854775808 ≤ fuel) (hv : ∀ e ∈ v, e.2.2.1.bk ≤ B) (ha : ∀ u ∈ a, u.bk ≤ B) (hb : ∀ u ∈ b, u.bk ≤ B) : AC Tryz.prog 7 [aV6 v, aL a, aL b, ci fuel] [] (cb true) [] := by
 have c0 := zqt
 have c1 := c_over17 v hv
 have c2 := zp7 a ha
 have c3 := zp7 b hb
 refine AC.vc hP sh lv7 (Nat.le_refl _) (by simp) (by simp) (Eq.mpr (v7 (v.map FIBT) (FTs a) (FTs b) ..) ?_)
 rw [z00, z00]
 refine ⟨_, c0, z01 (fun q => by cases q) (fun _ => ⟨_, c1, _, c2, _, c3, z01 (fun _ => z06 rfl) (fun q1 => z01 (fun _ => z06 rfl) (fun q2 => z01 (fun _ => z06 rfl) (fun q3 => ⟨rfl, rfl, z01 (fun _ => z06 rfl) (fun q4 => z01 (fun _ => z06 rfl) (fun q5 => ⟨(), c_snew, ?_⟩))⟩)))⟩)⟩
 have w1 := overI_no q1
 have w2 := zp8 q2
 have w3 := zp8 q3
 have q4 : a.length = b.length := by
  have q4 : ((a.length : Int) != (b.length : Int)) = false := q4
  have : (a.length : Int) = (b.length : Int) := by simpa using q4
  omega
 have q5 := of_decide_eq_false q5
 exact l_ul1 v a b fuel hf0 (by omega) w1.1 q4 (by omega) w2.2 w3.2 v.length 0 (by omega)
end Go.AM
