/- A calculus of plain values for the model's code, what the code of each function asks (computed by the kernel), contracts of the functions, and plain laws (part 6). No conditions. -/
import Derived.Test.YtclicclinfnmlaaPart5
import Derived.Test.YtclicclinfnmlaaPart2
import Derived.ProofKit
import Derived.OpenShut
import Derived.JoinedCond
import Derived.WalkKit
import Derived.Test.YtclicclinfnmlaaRows
set_option maxRecDepth 100000
open Go Go.Proofs
namespace Go.AM
/-! ### Without abstractions that do nothing -/
def lastT (l : List Tm) : Tm := l.getLastD default
def restF (b : Tm) : Tm := applyF (hd b.l) b.l.tail.dropLast
def dropB (b : Tm) : Bool := b.k == 6 && (lastT b.l).k == 3 && (lastT b.l).n == 0 && occF (restF b) 0 == 0
def dropF (b : Tm) : Tm := if dropB b = true then shT 0 (-1) (restF b) 0 else noT
mutual
def shortF : Tm → Tm
  | .mk k s n l => if (k == 5) = true then (if dropB (hd (shortL l)) = true then dropF (hd (shortL l)) else .mk 5 [] 0 [hd (shortL l)]) else if (k == 6) = true then applyF (hd (shortL l)) (shortL l).tail else .mk k s n l
def shortL : List Tm → List Tm
  | [] => []
  | t :: l => shortF t :: shortL l
end
theorem shortL_length : ∀ l : List Tm, (shortL l).length = l.length
  | [] => rfl
  | _ :: l => by simp only [shortL, List.length_cons, shortL_length l]
/-- An application's parts. -/
theorem app_parts {k n : Int} {s : List UInt8} {l : List Tm} (h : okB (.mk k s n l) = true) (hk : k = 6) : ∃ x a z, l = x :: a ++ [z] ∧ x.k ≠ 6 ∧ okB x = true ∧ okL a = true ∧ okB z = true := by
  obtain ⟨x, y, r, rfl, h6, hl⟩ := okB6 h hk
  refine ⟨x, (y :: r).dropLast, (y :: r).getLast (by simp), by rw [List.cons_append, List.dropLast_concat_getLast], h6, okL_mem hl List.mem_cons_self, okL_of fun u hu => okL_mem hl (List.mem_cons_of_mem _ (List.dropLast_subset _ hu)), okL_mem hl (List.mem_cons_of_mem _ (List.getLast_mem _))⟩
theorem last_app (x : Tm) (a : List Tm) (z : Tm) : lastT (x :: a ++ [z]) = z := by
  rw [lastT, List.getLastD_eq_getLast?, List.getLast?_append]; rfl
theorem rest_app (k n : Int) (s : List UInt8) (x : Tm) (a : List Tm) (z : Tm) : restF (.mk k s n (x :: a ++ [z])) = applyF x a := by
  rw [restF]; show applyF x ((a ++ [z]).dropLast) = _
  rw [List.dropLast_concat]
theorem drop6 {b : Tm} (h : dropB b = true) : b.k = 6 := by
  simp only [dropB, Bool.and_eq_true, beq_iff_eq] at h; exact h.1.1.1
theorem drop0 {b : Tm} (h : dropB b = true) : occF (restF b) 0 = 0 := by
  simp only [dropB, Bool.and_eq_true, beq_iff_eq] at h; exact h.2
theorem restF_ok {b : Tm} (h : okB b = true) (hk : b.k = 6) : okB (restF b) = true ∧ (lvB b = true → lvB (restF b) = true) ∧ (restF b).sz ≤ b.sz ∧ ∀ M, bd M b → bd M (restF b) := by
  obtain ⟨k, s, n, l⟩ := b
  have hk' : k = 6 := hk
  obtain ⟨x, a, z, rfl, h6, hx, ha, hz⟩ := app_parts h hk'
  rw [rest_app]
  refine ⟨applyF_ok hx ha, fun hl => ?_, ?_, fun M hb => ?_⟩
  · rw [lvB_in (.inr hk')] at hl
    exact applyF_lv (lvL_mem hl List.mem_cons_self) (lvL_of fun u hu => lvL_mem hl (List.mem_cons_of_mem _ (List.mem_append_left _ hu)))
  · have := applyF_sz x a
    simp only [Tm.sz, List.cons_append, Tm.szs, Tm.szs_append]; omega
  · exact applyF_bd (bds_mem hb.2 List.mem_cons_self) (bds_of fun u hu => bds_mem hb.2 (List.mem_cons_of_mem _ (List.mem_append_left _ hu)))
theorem occL_mem : ∀ {l : List Tm} {i : Int}, occL l i = 0 → ∀ u ∈ l, occF u i = 0
  | x :: l, i, h, u, hu => by
    simp only [occL] at h
    rcases List.mem_cons.1 hu with rfl | hu
    · omega
    · exact occL_mem (l := l) (by omega) u hu
theorem occ_kids {k n : Int} {s : List UInt8} {l : List Tm} {d : Int} (h : occF (.mk k s n l) d = 0) : ∀ u ∈ l, occF u (d + if (k == 5) = true then 1 else 0) = 0 := by
  rw [occF] at h
  split at h
  · cases h
  · exact occL_mem h
theorem shDown_lv {t : Tm} (h : lvB t = true) (d : Int) (h0 : occF t d = 0) (hd : 0 ≤ d) : lvB (shT 0 (-1) t d) = true := by
  refine walkF_lv _ (fun u d => occF u d = 0 ∧ 0 ≤ d) (fun k s n l d hQ u hu => ⟨occ_kids hQ.1 u hu, by have := hQ.2; split <;> omega⟩) (fun u d hu hQ h5 h6 => ?_) t d h ⟨h0, hd⟩
  unfold shLeaf
  split
  · rename_i hc
    obtain ⟨k, s, n, l⟩ := u
    have hk : k = 3 := by have hc := hc.1; have hc : (k == 3) = true := hc; simpa using hc
    subst hk
    rw [lvB_out (by decide) (by decide), valid3] at hu
    have h1 : n ≠ d := fun e => by
      have := hQ.1
      rw [occF, if_pos ⟨rfl, by simp [e]⟩] at this; cases this
    have h2 : d + 0 ≤ n := hc.2
    have := hQ.2
    show lvB (.mk 3 s (n + -1) l) = true
    rw [lvB_out (by decide) (by decide), valid3]
    exact ⟨by omega, by omega, hu.2.2.1, hu.2.2.2⟩
  · exact hu
theorem shDown_bd {M : Int} (hM : 1 ≤ M) {t : Tm} (h : bd M t) (d : Int) (hd : 0 ≤ d) : bd M (shT 0 (-1) t d) := by
  refine walkF_bd _ M M (d + t.sz) (fun u d' hu h0 _ => ?_) t d h hd (Int.le_refl _)
  unfold shLeaf
  split
  · rename_i hc
    obtain ⟨k, s, n, l⟩ := u
    exact ⟨fun e => by have := hu.1 e; have h2 : d' + 0 ≤ n := hc.2; simp only [Tm.n]; omega, hu.2⟩
  · exact hu
theorem dropF_ok {b : Tm} (h : okB b = true) (hd : dropB b = true) : okB (dropF b) = true ∧ (lvB b = true → lvB (dropF b) = true) ∧ (dropF b).sz ≤ b.sz ∧ ∀ M, 1 ≤ M → bd M b → bd M (dropF b) := by
  obtain ⟨h1, h2, h3, h4⟩ := restF_ok h (drop6 hd)
  rw [dropF, if_pos hd]
  exact ⟨shT_ok 0 h1, fun hl => shDown_lv (h2 hl) 0 (drop0 hd) (Int.le_refl _), Nat.le_trans (shT_sz ..) h3, fun M hM hb => shDown_bd hM (h4 M hb) 0 (Int.le_refl _)⟩
mutual
theorem shortF_ok : ∀ t : Tm, okB t = true → okB (shortF t) = true ∧ (lvB t = true → lvB (shortF t) = true) ∧ (shortF t).sz ≤ t.sz ∧ ∀ M, 1 ≤ M → bd M t → bd M (shortF t)
  | .mk k s n l, h => by
    have hl := shortL_ok l (okB_l h)
    rw [shortF]
    split
    · rename_i h5
      have h5 : k = 5 := by simpa using h5
      obtain ⟨x, rfl, hx⟩ := okB5 h h5
      obtain ⟨g1, g2, g3, g4⟩ := hl
      simp only [shortL, okL, lvL, Bool.and_true, Tm.szs] at g1 g2 g3 g4
      show okB (if dropB (shortF x) = true then dropF (shortF x) else .mk 5 [] 0 [shortF x]) = true ∧ _
      rw [show hd (shortL [x]) = shortF x from rfl]
      split
      · rename_i hd
        obtain ⟨f1, f2, f3, f4⟩ := dropF_ok g1 hd
        refine ⟨f1, fun hl => f2 (g2 ?_), by simp only [Tm.sz, Tm.szs]; omega, fun M hM hb => f4 M hM (g4 M hM hb.2).1⟩
        rw [lvB_in (.inl h5)] at hl
        simpa [lvL] using hl
      · refine ⟨by simp [okB, okL, g1], fun hl => ?_, by simp only [Tm.sz, Tm.szs]; omega, fun M hM hb => ⟨fun e => by omega, g4 M hM hb.2⟩⟩
        rw [lvB_in (.inl h5)] at hl
        rw [lvB_in (.inl rfl)]
        simp only [lvL, Bool.and_true] at hl ⊢
        exact g2 hl
    · split
      · rename_i h6
        have h6 : k = 6 := by simpa using h6
        obtain ⟨x, y, r, rfl, _, _⟩ := okB6 h h6
        obtain ⟨g1, g2, g3, g4⟩ := hl
        rw [show hd (shortL (x :: y :: r)) = shortF x from rfl, show (shortL (x :: y :: r)).tail = shortL (y :: r) from rfl]
        rw [show shortL (x :: y :: r) = shortF x :: shortL (y :: r) from rfl] at g1 g2 g3 g4
        simp only [okL, Bool.and_eq_true] at g1
        refine ⟨applyF_ok g1.1 g1.2, fun hl => ?_, ?_, fun M hM hb => ?_⟩
        · rw [lvB_in (.inr h6)] at hl
          have := g2 hl
          simp only [lvL, Bool.and_eq_true] at this
          exact applyF_lv this.1 this.2
        · have := applyF_sz (shortF x) (shortL (y :: r))
          simp only [Tm.szs] at g3
          simp only [Tm.sz, Tm.szs]; omega
        · have := g4 M hM hb.2
          exact applyF_bd this.1 this.2
      · exact ⟨h, fun hl => hl, Nat.le_refl _, fun M _ hb => hb⟩
theorem shortL_ok : ∀ l : List Tm, okL l = true → okL (shortL l) = true ∧ (lvL l = true → lvL (shortL l) = true) ∧ Tm.szs (shortL l) ≤ Tm.szs l ∧ ∀ M, 1 ≤ M → bds M l → bds M (shortL l)
  | [], _ => ⟨rfl, fun _ => rfl, Nat.le_refl _, fun _ _ _ => trivial⟩
  | t :: l, h => by
    simp only [okL, Bool.and_eq_true] at h
    obtain ⟨a1, a2, a3, a4⟩ := shortF_ok t h.1
    obtain ⟨b1, b2, b3, b4⟩ := shortL_ok l h.2
    refine ⟨by simp only [shortL, okL, a1, b1, Bool.and_self], fun hl => ?_, by simp only [shortL, Tm.szs]; omega, fun M hM hb => ⟨a4 M hM hb.1, b4 M hM hb.2⟩⟩
    simp only [lvL, Bool.and_eq_true] at hl
    simp only [shortL, lvL, a2 hl.1, b2 hl.2, Bool.and_self]
end
/-! ### Contracts -/
theorem c_efree (t : Tm) (i : Int) (hs : t.sz ≤ B) (h0 : 0 - 2305843009213693952 ≤ i) (h1 : i + t.sz ≤ 2305843009213693952) : AC Try.prog 50 [aT t, ci i] [] (cb (validB t && decide (occF t i > 0))) [] := by
  have h := c_boccurs t hs i h0 h1
  obtain ⟨k, s, n, l⟩ := t
  refine AC.vc hP sh lv50 (Nat.le_refl _) (by simp) (by simp) (Eq.mpr (v50 k s n (FTs l) i _ _) ?_)
  refine ⟨_, h, ret_b ?_⟩
  cases validB (.mk k s n l) with
  | false => rfl
  | true => simp
theorem c_rfree (t : Tm) (i : Int) (hs : t.sz ≤ B) (h0 : 0 - 2305843009213693952 ≤ i) (h1 : i + t.sz ≤ 2305843009213693952) : AC Try.prog 54 [aT t, ci i] [] (cb (decide (occF t i > 0))) [] := by
  have h := c_roccurs t hs i h0 h1
  obtain ⟨k, s, n, l⟩ := t
  refine AC.vc hP sh lv54 (Nat.le_refl _) (by simp) (by simp) (Eq.mpr (v54 k s n (FTs l) i _ _) ?_)
  exact ⟨_, h, ret_b (by simp)⟩
theorem c_ezero : AC Try.prog 90 [] [] (aT exZ) [] := by
  refine AC.vc hP sh lv90 (Nat.le_refl _) (by simp) (by simp) (Eq.mpr (v90 ..) ?_)
  exact ret_r e0
/-- The last one. -/
theorem lastI (x : Tm) (a : List Tm) (z : Tm) (hl : a.length ≤ SZ) : IntKind.wrap .i64 ((((FTs (x :: a ++ [z])).length : Nat) : Int) - 1) = ((x :: a).length : Int) := by
  rw [FTs_length]; simp only [SZ] at hl
  rw [w64 (by simp; omega) (by simp; omega)]; simp
theorem c_edrop (b : Tm) (ho : okB b = true) (hl : lvB b = true) (hs : b.sz ≤ SZ) (hb : bd M61 b) : AC Try.prog 114 [aT b] [] (.tup [(true, cT (dropF b)), (false, [.a (.fz (.bool (dropB b)))])]) [] := by
  have no : dropB b = false → dropF b = noT := fun h => if_neg (by rw [h]; simp)
  obtain ⟨k, s, n, l⟩ := b
  have hlen := Tm.szs_length l
  simp only [Tm.sz, SZ] at hs
  refine AC.vc hP sh lv114 (Nat.le_refl _) (by simp) (by simp) (Eq.mpr (v114 k s n (FTs l) _ _) ?_)
  refine ⟨rfl, br_of (fun h => ?_) (fun h => ?_)⟩
  · have hd : dropB (.mk k s n l) = false := by
      have h : (k != 6) = true := h
      rw [dropB, show (Tm.k (.mk k s n l) == 6) = false by show (k == 6) = false; simpa using h]; rfl
    rw [no hd, hd]
    exact ⟨leTB (l := []) leNil, rfl⟩
  · have h6 : k = 6 := by simpa using h
    subst h6
    obtain ⟨x, a, z, rfl, hx6, hx, ha, hz⟩ := app_parts ho rfl
    obtain ⟨r1, r2, r3, r4⟩ := restF_ok ho rfl
    have hd : dropB (.mk 6 s n (x :: a ++ [z])) = (z.k == 3 && z.n == 0 && occF (applyF x a) 0 == 0) := by
      rw [dropB, rest_app, show Tm.l (.mk 6 s n (x :: a ++ [z])) = x :: a ++ [z] from rfl, last_app]; rfl
    have hdF : dropB (.mk 6 s n (x :: a ++ [z])) = true → dropF (.mk 6 s n (x :: a ++ [z])) = shT 0 (-1) (applyF x a) 0 := fun h => by rw [dropF, if_pos h, rest_app]
    rw [rest_app] at r1 r2 r3 r4
    have hal : a.length ≤ 67108864 := by rw [List.length_append, List.length_cons] at hlen; omega
    rw [lastI x a z hal]
    have el : FV.isSl 4 (.sl false 4 (FTs (x :: a ++ [z]))) = true ∧ ((0 : Int) ≤ ((x :: a).length : Int) ∧ (((x :: a).length : Int) < (((FTs (x :: a ++ [z])).length : Nat) : Int) ∧ (rE (List.getD (FTs (x :: a ++ [z])) (Int.toNat ((x :: a).length : Int)) []) : List FV) = List.getD (FTs (x :: a ++ [z])) (Int.toNat ((x :: a).length : Int)) [])) := ⟨rfl, by omega, ltI' (x :: a) z [], rE_mid (x :: a) z []⟩
    have ez : List.getD (FTs (x :: a ++ [z])) (Int.toNat ((x :: a).length : Int)) [] = FT z := midI (x :: a) z []
    have ek : FV.asI (List.getD (List.getD (FTs (x :: a ++ [z])) (Int.toNat ((x :: a).length : Int)) []) 0 FV.nils) = z.k := by rw [ez]; cases z; rfl
    have en : FV.asI (List.getD (List.getD (FTs (x :: a ++ [z])) (Int.toNat ((x :: a).length : Int)) []) 2 FV.nils) = z.n := by rw [ez]; cases z; rfl
    rw [ek, en]
    refine ⟨el, br_of (fun h1 => ?_) (fun h1 => ⟨el, br_of (fun h2 => ?_) (fun h2 => ⟨el0 x (a ++ [z]), rfl, ⟨by omega, by simp only [List.length_cons]; omega, by rw [lenI, List.length_append]; omega⟩, ?_⟩)⟩)⟩
    · have hd' : dropB (.mk 6 s n (x :: a ++ [z])) = false := by
        have h1 : (z.k != 3) = true := h1
        rw [hd, show (z.k == 3) = false by simpa using h1]; rfl
      rw [no hd', hd']
      exact ⟨leTB (l := []) leNil, rfl⟩
    · have hd' : dropB (.mk 6 s n (x :: a ++ [z])) = false := by
        have h2 : (z.n != 0) = true := h2
        rw [hd, show (z.n == 0) = false by simpa using h2]; simp
      rw [no hd', hd']
      exact ⟨leTB (l := []) leNil, rfl⟩
    · have e1 : aE (List.getD (FTs (x :: a ++ [z])) 0 []) = aT x := aE_FT x
      have e2 : List.drop 1 (List.take (Int.toNat ((x :: a).length : Int)) (FTs (x :: a ++ [z]))) = FTs a := by
        rw [toNat_len, FTs_take, FTs_drop, List.take_left]; rfl
      rw [e1, e2]
      have hxs : x.l.length ≤ x.sz := by have := x.sz_eq; have := Tm.szs_length x.l; omega
      have hxz : x.sz ≤ 67108864 := by simp only [List.cons_append, Tm.szs] at hs; omega
      have hap := c_apply x a (by omega)
      have hrz : (applyF x a).sz ≤ SZ := by simp only [Tm.sz] at r3; simp only [SZ]; omega
      have hfr := c_efree (applyF x a) 0 (by simp only [SZ, B] at *; omega) (by omega) (by simp only [SZ] at hrz; omega)
      have hva : validB (applyF x a) = true := by rw [valid_iff, r1, r2 hl]; rfl
      rw [hva, Bool.true_and] at hfr
      have hsh := c_shift (applyF x a) 0 (-1) (by simp only [SZ, B] at *; omega) (r4 _ hb) (Int.le_refl _) (by simp only [M61]; omega) (by omega) (by simp only [M61]; omega)
      have hz3 : (z.k == 3) = true := by
        have h1 : (z.k != 3) = false := h1
        simpa using h1
      have hz0 : (z.n == 0) = true := by
        have h2 : (z.n != 0) = false := h2
        simpa using h2
      refine ⟨_, hap, _, hfr, br_of (fun h3 => ?_) (fun h3 => ?_)⟩
      · have hd' : dropB (.mk 6 s n (x :: a ++ [z])) = false := by
          have h3 := of_decide_eq_true h3
          rw [hd, show (occF (applyF x a) 0 == 0) = false by simp; omega, Bool.and_false]
        rw [no hd', hd']
        exact ⟨leTB (l := []) leNil, rfl⟩
      · have hd' : dropB (.mk 6 s n (x :: a ++ [z])) = true := by
          have h3 := of_decide_eq_false h3
          rw [hd, hz3, hz0, show (occF (applyF x a) 0 == 0) = true by simp; omega]; rfl
        rw [hdF hd', hd']
        exact ⟨_, hsh, .refl _, rfl⟩
theorem l_eshortb : ∀ (b a acc : List Tm), acc ≠ [] → acc.length = a.length → (∀ u ∈ b, AC Try.prog 88 [aT u] [] (aT (shortF u)) []) → (a ++ b).length ≤ SZ → (hd (acc ++ shortL b)).l.length ≤ B →
    RPt Try.prog 88 0 (aT (applyF (hd (acc ++ shortL b)) (acc ++ shortL b).tail)) [] 3 ⟨[(2, .c (.a (.ep 0 4 0 0))), (6, .c (.a (.osl 1 4 0 acc.length))), (30, aL (a ++ b)), (31, ci (((FTs (a ++ b)).length : Nat) : Int)), (32, ci a.length)], [(0, .arr 4 [zT]), (1, .arz 4 (FTs acc))], 2⟩
  | [], a, acc, hne, hlen, _, hl, hh => by
    simp only [shortL, List.append_nil] at hh hl ⊢
    refine RPt.vc hP sh lv88 (Eq.mpr (v88_3b ..) ?_)
    match acc, hne, hlen, hh with
    | x :: r, _, hlen, hh =>
      simp only [SZ, B, List.length_cons] at hl hlen hh
      have hh : x.l.length ≤ 549755813888 := hh
      have hap := c_apply x r (by omega)
      have e2 : List.take (Int.toNat ((x :: r).length : Int) - 1) (List.drop 1 (FTs (x :: r))) = FTs r := by
        rw [toNat_len, FTs_drop, List.take_of_length_le (by rw [FTs_length]; simp)]; rfl
      have e1 : aE (List.getD (FTs (x :: r)) 0 []) = aT x := aE_FT x
      rw [e2, e1]
      refine br_of (fun h => absurd (of_decide_eq_true h) (by rw [FTs_length]; omega)) (fun _ => ⟨⟨by omega, by simp⟩, ⟨by rw [FTs_length]; simp, ?_, rfl⟩, ⟨by omega, by simp; omega, Int.le_refl _⟩, ⟨rfl, by rw [toNat_len, FTs_length]; simp; omega⟩, _, hap.args ⟨.refl _, le_c leSl, trivial⟩, ret_r (.refl _)⟩)
      rw [show List.getD (FTs (x :: r)) 0 [] = FT x from rfl, rE_FT, List.drop_zero, List.take_of_length_le (by rw [FT_length]; exact Nat.le_refl _)]
  | t :: b, a, acc, hne, hlen, ih, hl, hh => by
    have hl' := hl
    simp only [List.length_append, List.length_cons, SZ] at hl'
    have h1 := ih t List.mem_cons_self
    have h2 := l_eshortb b (a ++ [t]) (acc ++ [shortF t]) (by simp) (by simp [hlen]) (fun u hu => ih u (List.mem_cons_of_mem _ hu)) (by rw [ap]; exact hl) (by rw [ap]; exact hh)
    have h3 := ltI' a t b
    rw [ap, ap, nx] at h2
    rw [shortL]
    refine RPt.vc hP sh lv88 (Eq.mpr (v88_3b ..) ?_)
    rw [aE_mid, w64 (x := (a.length : Int) + 1) (by omega) (by omega)]
    refine br_of (fun _ => ⟨⟨rfl, by omega, h3, rE_mid ..⟩, shortF t, h1, Nat.le_refl _, ⟨by rw [FTs_length]; omega, roomI (by omega)⟩, ?_⟩) (fun h => absurd h3 (of_decide_eq_false h))
    have e5 : List.take acc.length (FTs acc) ++ [FT4 (shortF t)] = FTs (acc ++ [shortF t]) := by rw [List.take_of_length_le (by rw [FTs_length]; omega), FT4_eq, FTs_append]; rfl
    rw [e5]
    rw [List.length_append] at h2
    exact h2
theorem c_eshort : ∀ t : Tm, okB t = true → lvB t = true → t.sz ≤ SZ → bd M61 t → AC Try.prog 88 [aT t] [] (aT (shortF t)) [] := by
  refine Tm.ind fun t ih ho hl hs hb => ?_
  have hlen := Tm.szs_length t.l
  have hol := okB_l ho
  obtain ⟨k, s, n, l⟩ := t
  simp only [Tm.sz, Tm.l, SZ] at hs hlen hol
  refine AC.vc hP sh lv88 (Nat.le_refl _) (by simp) (by simp) (Eq.mpr (v88 k s n (FTs l) _ _) ?_)
  refine br_of (fun h => ?_) (fun h => br_of (fun h' => ⟨rfl, ?_⟩) (fun h' => ?_))
  · have h5 : k = 5 := by simpa using h
    subst h5
    obtain ⟨x, rfl, hx⟩ := okB5 ho rfl
    rw [lvB_in (.inl rfl)] at hl
    have hlx : lvB x = true := by simpa [lvL] using hl
    simp only [Tm.szs] at hs
    obtain ⟨g1, g2, g3, g4⟩ := shortF_ok x hx
    have h1 := ih x (List.mem_singleton.2 rfl) hx hlx (by simp only [SZ]; omega) hb.2.1
    have h2 := c_edrop (shortF x) g1 (g2 hlx) (by simp only [SZ]; omega) (g4 _ (by simp only [M61]; omega) hb.2.1)
    have h3 := c_lams 1 (shortF x) (by omega)
    have e : shortF (.mk 5 s n [x]) = if dropB (shortF x) = true then dropF (shortF x) else .mk 5 [] 0 [shortF x] := by rw [shortF, if_pos (show ((5 : Int) == 5) = true from rfl)]; rfl
    rw [show aE (List.getD (FTs [x]) 0 []) = aT x from aE_FT x, e]
    refine ⟨el0 x [], _, h1, (dropF (shortF x), dropB (shortF x)), h2, br_of (fun hd => ?_) (fun hd => ⟨_, h3, ?_⟩)⟩
    · have hd : dropB (shortF x) = true := hd
      rw [if_pos hd]; exact ⟨.refl _, rfl⟩
    · rw [if_neg (by rw [show dropB (shortF x) = false from hd]; simp)]; exact ⟨.refl _, rfl⟩
  · have h6 : k = 6 := by simpa using h'
    subst h6
    obtain ⟨x, y, r, rfl, hx6, _⟩ := okB6 ho rfl
    rw [lvB_in (.inr rfl)] at hl
    have ihl : ∀ u ∈ x :: y :: r, AC Try.prog 88 [aT u] [] (aT (shortF u)) [] := fun u hu => ih u hu (okL_mem hol hu) (lvL_mem hl hu) (by have := Tm.szs_mem hu; simp only [SZ]; omega) (bds_mem hb.2 hu)
    have hx := (shortF_ok x (okL_mem hol List.mem_cons_self)).2.2.1
    have hxl : (shortF x).l.length ≤ B := by
      have h1 := (shortF x).sz_eq
      have h2 := Tm.szs_length (shortF x).l
      simp only [Tm.szs] at hs
      simp only [B]; omega
    have loop := l_eshortb (y :: r) [x] [shortF x] (by simp) rfl (fun u hu => ihl u (List.mem_cons_of_mem _ hu)) (show (x :: y :: r).length ≤ SZ by simp only [SZ]; omega) hxl
    have h1 := ihl x List.mem_cons_self
    have h3 := ltI' [] x (y :: r)
    refine RPt.vc hP sh lv88 (Eq.mpr (v88_3a ..) ?_)
    rw [show aE (List.getD (FTs (x :: y :: r)) (Int.toNat 0) []) = aT x from aE_FT x, w64 (by omega) (by omega)]
    refine br_of (fun _ => ⟨⟨rfl, by omega, h3, rE_FT x⟩, shortF x, h1, Nat.le_refl _, roomI (by omega), ?_⟩) (fun h => absurd h3 (of_decide_eq_false h))
    rw [FT4_eq]
    exact loop
  · have h : (k == 5) = false := h
    have h' : (k == 6) = false := h'
    rw [shortF, if_neg (by rw [h]; simp), if_neg (by rw [h']; simp)]
    exact ⟨.refl _, rfl⟩
theorem c_eShort (t : Tm) (hs : t.sz ≤ SZ) (hb : bd M61 t) : AC Try.prog 47 [aT t] [] (aT (if validB t = true then shortF t else t)) [] := by
  have h1 := c_valid t (by simp only [SZ, B] at *; omega)
  have h2 := fun h => c_eshort t (valid_ok t h) (valid_lv h) hs hb
  obtain ⟨k, s, n, l⟩ := t
  refine AC.vc hP sh lv47 (Nat.le_refl _) (by simp) (by simp) (Eq.mpr (v47 k s n (FTs l) _ _) ?_)
  refine ⟨_, h1, br_of (fun h => ?_) (fun h => ?_)⟩
  · rw [if_neg (by rw [not_t h]; simp)]; exact ⟨.refl _, rfl⟩
  · rw [if_pos (not_f h)]; exact ⟨_, h2 (not_f h), .refl _, rfl⟩
end Go.AM

set_option maxRecDepth 100000
open Go Go.Proofs
namespace Go.AM
/-! The document's. -/
theorem l_rshortb (s : List UInt8) (n : Int) : ∀ (b a acc : List Tm), acc ≠ [] → acc.length = a.length → (∀ u ∈ b, AC Try.prog 52 [aT u] [] (aT (shortF u)) []) → (a ++ b).length ≤ SZ → (hd (acc ++ shortL b)).l.length ≤ B →
    RPt Try.prog 52 0 (aT (applyF (hd (acc ++ shortL b)) (acc ++ shortL b).tail)) [] 1 ⟨[(1, .c (.a (.ep 0 4 0 0))), (2, .c (.a (.ep 1 4 0 0))), (3, .c (.a (.osl 2 4 0 acc.length))), (4, ci a.length)], [(0, .arr 4 [fzs (FT (.mk 6 s n (a ++ b)))]), (1, .arr 4 [zT]), (2, .arz 4 (FTs acc))], 3⟩
  | [], a, acc, hne, hlen, _, hl, hh => by
    simp only [shortL, List.append_nil] at hh hl ⊢
    refine RPt.vc hP sh lv52 (Eq.mpr (v52_1b acc.length a.length 6 s n (FTs a) 0 [] 0 (FTs acc) _ _) ?_)
    match acc, hne, hlen, hh with
    | x :: r, _, hlen, hh =>
      simp only [SZ, B, List.length_cons] at hl hlen hh
      have hh : x.l.length ≤ 549755813888 := hh
      have hap := c_rapply x r (by omega)
      have e2 : List.take (Int.toNat ((x :: r).length : Int) - 1) (List.drop 1 (FTs (x :: r))) = FTs r := by
        rw [toNat_len, FTs_drop, List.take_of_length_le (by rw [FTs_length]; simp)]; rfl
      have e1 : aE (List.getD (FTs (x :: r)) 0 []) = aT x := aE_FT x
      rw [e2, e1]
      refine ⟨rfl, br_of (fun h => absurd (of_decide_eq_true h) (by rw [lenI]; omega)) (fun _ => br_of (fun _ => ⟨⟨by omega, by simp⟩, ⟨by rw [FTs_length]; simp, ?_, rfl⟩, ⟨by omega, by simp; omega, Int.le_refl _⟩, ⟨rfl, by rw [toNat_len, FTs_length]; simp; omega⟩, _, hap.args ⟨.refl _, le_c leSl, trivial⟩, ret_r (.refl _)⟩) (fun h => absurd h (by decide)))⟩
      rw [show List.getD (FTs (x :: r)) 0 [] = FT x from rfl, rE_FT, List.drop_zero, List.take_of_length_le (by rw [FT_length]; exact Nat.le_refl _)]
  | t :: b, a, acc, hne, hlen, ih, hl, hh => by
    have hl' := hl
    simp only [List.length_append, List.length_cons, SZ] at hl'
    have h1 := ih t List.mem_cons_self
    have h2 := l_rshortb s n b (a ++ [t]) (acc ++ [shortF t]) (by simp) (by simp [hlen]) (fun u hu => ih u (List.mem_cons_of_mem _ hu)) (by rw [ap]; exact hl) (by rw [ap]; exact hh)
    have h3 := ltI' a t b
    rw [ap, ap, nx] at h2
    rw [shortL]
    refine RPt.vc hP sh lv52 (Eq.mpr (v52_1b acc.length a.length 6 s n (FTs (a ++ t :: b)) 0 [] 0 (FTs acc) _ _) ?_)
    rw [aE_mid, w64 (x := (a.length : Int) + 1) (by omega) (by omega)]
    refine ⟨rfl, br_of (fun _ => ⟨⟨rfl, by omega, h3, rE_mid ..⟩, shortF t, h1, Nat.le_refl _, ⟨by rw [FTs_length]; omega, roomI (by omega)⟩, ?_⟩) (fun h => absurd h3 (of_decide_eq_false h))⟩
    have e5 : List.take acc.length (FTs acc) ++ [FT4 (shortF t)] = FTs (acc ++ [shortF t]) := by rw [List.take_of_length_le (by rw [FTs_length]; omega), FT4_eq, FTs_append]; rfl
    rw [e5]
    rw [List.length_append] at h2
    exact h2
theorem tenth (k n : Int) (s : List UInt8) (l : List Tm) : List.getD (List.getD (FTs [.mk k s n l]) 0 []) 3 FV.nils = .sl false 4 (FTs l) := rfl
theorem l_rshort5 (s : List UInt8) (n : Int) (x y : Tm) (ho : okB y = true) (hs : y.sz ≤ SZ) (hb : bd M61 y) :
    RPt Try.prog 52 0 (aT (if dropB y = true then dropF y else .mk 5 [] 0 [y])) [] 1 ⟨[(1, .c (.a (.ep 0 4 0 0))), (2, .c (.a (.ep 1 4 0 0))), (3, .c (.a (.osl 2 4 0 1))), (4, ci 1)], [(0, .arr 4 [fzs (FT (.mk 5 s n [x]))]), (1, .arr 4 [zT]), (2, .arz 4 (FTs [y]))], 3⟩ := by
  have same : dropB y = false → TV.Le (.agg [.a (.fz (.int .i64 5)), .a (.fz (.str [])), .a (.fz (.int .i64 0)), .a (.fz (.sl true 4 (List.take 1 (List.drop 0 (FTs [y])))))]) (aT (if dropB y = true then dropF y else .mk 5 [] 0 [y])) ∧ ([] : List AObj) = [] := fun h => by
    rw [if_neg (by rw [h]; simp)]; exact ⟨leT (leSl (l := [y])), rfl⟩
  refine RPt.vc hP sh lv52 (Eq.mpr (v52_1b 1 1 5 s n (FTs [x]) 0 [] 0 (FTs [y]) _ _) ?_)
  obtain ⟨yk, ys, yn, yl⟩ := y
  have hlen := Tm.szs_length yl
  simp only [Tm.sz, SZ] at hs
  rw [tenth, show FV.ses (.sl false 4 (FTs yl)) = FTs yl from rfl, show FV.asI (List.getD (List.getD (FTs [.mk yk ys yn yl]) 0 []) 0 FV.nils) = yk from rfl]
  refine ⟨rfl, br_of (fun h => absurd (of_decide_eq_true h) (by rw [FTs_length]; simp)) (fun _ => br_of (fun h => absurd h (by decide)) (fun _ => br_of (fun h => absurd h (by decide)) (fun _ => ⟨⟨by omega, by omega⟩, ⟨Nat.zero_lt_one, rfl, rfl⟩, ⟨rfl, Nat.le_refl 1⟩, br_of (fun h1 => ?_) (fun h1 => ⟨rfl, ?_⟩)⟩)))⟩
  · refine same ?_
    rw [dropB, show (Tm.k (.mk yk ys yn yl) == 6) = false by have h1 : (yk != 6) = true := h1; show (yk == 6) = false; simpa using h1]; rfl
  · have h6 : yk = 6 := by have h1 : (yk != 6) = false := h1; simpa using h1
    subst h6
    obtain ⟨p, a, z, rfl, hp6, hp, ha, hz⟩ := app_parts ho rfl
    obtain ⟨r1, r2, r3, r4⟩ := restF_ok ho rfl
    have hd : dropB (.mk 6 ys yn (p :: a ++ [z])) = (z.k == 3 && z.n == 0 && occF (applyF p a) 0 == 0) := by
      rw [dropB, rest_app, show Tm.l (.mk 6 ys yn (p :: a ++ [z])) = p :: a ++ [z] from rfl, last_app]; rfl
    have hdF : dropB (.mk 6 ys yn (p :: a ++ [z])) = true → dropF (.mk 6 ys yn (p :: a ++ [z])) = shT 0 (-1) (applyF p a) 0 := fun h => by rw [dropF, if_pos h, rest_app]
    rw [rest_app] at r1 r2 r3 r4
    have hal : a.length ≤ 67108864 := by rw [List.length_append, List.length_cons] at hlen; omega
    rw [lastI p a z hal]
    have el : FV.isSl 4 (.sl false 4 (FTs (p :: a ++ [z]))) = true ∧ ((0 : Int) ≤ ((p :: a).length : Int) ∧ (((p :: a).length : Int) < (((FTs (p :: a ++ [z])).length : Nat) : Int) ∧ (rE (List.getD (FTs (p :: a ++ [z])) (Int.toNat ((p :: a).length : Int)) []) : List FV) = List.getD (FTs (p :: a ++ [z])) (Int.toNat ((p :: a).length : Int)) [])) := ⟨rfl, by omega, ltI' (p :: a) z [], rE_mid (p :: a) z []⟩
    have ez : List.getD (FTs (p :: a ++ [z])) (Int.toNat ((p :: a).length : Int)) [] = FT z := midI (p :: a) z []
    have ek : FV.asI (List.getD (List.getD (FTs (p :: a ++ [z])) (Int.toNat ((p :: a).length : Int)) []) 0 FV.nils) = z.k := by rw [ez]; cases z; rfl
    have en : FV.asI (List.getD (List.getD (FTs (p :: a ++ [z])) (Int.toNat ((p :: a).length : Int)) []) 2 FV.nils) = z.n := by rw [ez]; cases z; rfl
    have e1 : aE (List.getD (FTs (p :: a ++ [z])) 0 []) = aT p := aE_FT p
    rw [ek, en, e1]
    have hrz : (applyF p a).sz ≤ 67108864 := by simp only [Tm.sz] at r3; omega
    have hfr := c_rfree (applyF p a) 0 (by simp only [B]; omega) (by omega) (by omega)
    have hsh := c_rShift (applyF p a) 0 (-1) (by simp only [B]; omega) (r4 _ hb) (Int.le_refl _) (by simp only [M61]; omega) (by omega) (by simp only [M61]; omega)
    refine ⟨el, br_of (fun h1 => same ?_) (fun h1 => ⟨el, br_of (fun h2 => same ?_) (fun h2 => ⟨el0 p (a ++ [z]), ?_⟩)⟩)⟩
    · have h1 : (z.k != 3) = true := h1
      rw [hd, show (z.k == 3) = false by simpa using h1]; rfl
    · have h2 : (z.n != 0) = true := h2
      rw [hd, show (z.n == 0) = false by simpa using h2]; simp
    · have hz3 : (z.k == 3) = true := by
        have h1 : (z.k != 3) = false := h1
        simpa using h1
      have hz0 : (z.n == 0) = true := by
        have h2 : (z.n != 0) = false := h2
        simpa using h2
      have yes : decide (occF (applyF p a) 0 > 0) = true → dropB (.mk 6 ys yn (p :: a ++ [z])) = false := fun h3 => by
        have h3 := of_decide_eq_true h3
        rw [hd, show (occF (applyF p a) 0 == 0) = false by simp; omega, Bool.and_false]
      have non : decide (occF (applyF p a) 0 > 0) = false → dropB (.mk 6 ys yn (p :: a ++ [z])) = true := fun h3 => by
        have h3 := of_decide_eq_false h3
        rw [hd, hz3, hz0, show (occF (applyF p a) 0 == 0) = true by simp; omega]; rfl
      have e0 : FV.cut (.sl false 4 (FTs (p :: a ++ [z]))) 0 (Int.toNat ((p :: a).length : Int)) = .sl false 4 (FTs (p :: a)) := by
        show FV.sl false 4 (List.drop 0 (List.take _ _)) = _
        rw [toNat_len, List.drop_zero, FTs_take, List.take_left]
      rw [e0]
      refine br_of (fun h3 => ⟨rfl, ⟨by omega, by omega, by rw [lenI, List.length_append]; omega⟩, ?_⟩) (fun h3 => ?_)
      · have h3 := of_decide_eq_true h3
        match a, h3 with
        | [], h3 => simp at h3
        | q :: a, _ =>
          have er : applyF p (q :: a) = .mk 6 [] 0 (p :: q :: a) := by
            obtain ⟨pk, ps, pn, pl⟩ := p
            rw [apply_some, if_neg (fun e => hp6 (show pk = 6 by simpa using e.1))]
          rw [er] at hfr hsh yes non hdF
          refine ⟨_, hfr, br_of (fun h4 => same (yes h4)) (fun h4 => ⟨_, hsh, ?_⟩)⟩
          rw [if_pos (non h4), hdF (non h4)]; exact ⟨.refl _, rfl⟩
      · have h3 := of_decide_eq_false h3
        have : a = [] := List.eq_nil_of_length_eq_zero (by simp only [List.length_cons] at h3; omega)
        subst this
        rw [show applyF p [] = p from rfl] at hfr hsh yes non hdF
        refine ⟨_, hfr, br_of (fun h4 => same (yes h4)) (fun h4 => ⟨_, hsh, ?_⟩)⟩
        rw [if_pos (non h4), hdF (non h4)]; exact ⟨.refl _, rfl⟩
theorem c_rShort : ∀ t : Tm, okB t = true → t.sz ≤ SZ → bd M61 t → AC Try.prog 52 [aT t] [] (aT (shortF t)) [] := by
  refine Tm.ind fun t ih ho hs hb => ?_
  have hlen := Tm.szs_length t.l
  have hol := okB_l ho
  obtain ⟨k, s, n, l⟩ := t
  simp only [Tm.sz, Tm.l, SZ] at hs hlen hol
  refine AC.vc hP sh lv52 (Nat.le_refl _) (by simp) (by simp) (Eq.mpr (v52 k s n (FTs l) _ _) ?_)
  refine RPt.vc hP sh lv52 (Eq.mpr (v52_1a 0 k s n (FTs l) 0 [] 0 _ _) ?_)
  by_cases h5 : k = 5
  · subst h5
    obtain ⟨x, rfl, hx⟩ := okB5 ho rfl
    simp only [Tm.szs] at hs
    obtain ⟨g1, g2, g3, g4⟩ := shortF_ok x hx
    have h1 := ih x (List.mem_singleton.2 rfl) hx (by simp only [SZ]; omega) hb.2.1
    have h2 := l_rshort5 s n x (shortF x) g1 (by simp only [SZ]; omega) (g4 _ (by simp only [M61]; omega) hb.2.1)
    have e : shortF (.mk 5 s n [x]) = if dropB (shortF x) = true then dropF (shortF x) else .mk 5 [] 0 [shortF x] := by rw [shortF, if_pos (show ((5 : Int) == 5) = true from rfl)]; rfl
    rw [show aE (List.getD (FTs [x]) (Int.toNat 0) []) = aT x from aE_FT x, e, w64 (by omega) (by omega)]
    refine ⟨rfl, br_of (fun _ => ⟨el0 x [], shortF x, h1, Nat.le_refl _, roomI (by omega), ?_⟩) (fun h => absurd (of_decide_eq_false h) (by rw [FTs_length]; simp))⟩
    rw [FT4_eq]
    exact h2
  · by_cases h6 : k = 6
    · subst h6
      obtain ⟨x, y, r, rfl, hx6, _⟩ := okB6 ho rfl
      have ihl : ∀ u ∈ x :: y :: r, AC Try.prog 52 [aT u] [] (aT (shortF u)) [] := fun u hu => ih u hu (okL_mem hol hu) (by have := Tm.szs_mem hu; simp only [SZ]; omega) (bds_mem hb.2 hu)
      have hx := (shortF_ok x (okL_mem hol List.mem_cons_self)).2.2.1
      have hxl : (shortF x).l.length ≤ B := by
        have h1 := (shortF x).sz_eq
        have h2 := Tm.szs_length (shortF x).l
        simp only [Tm.szs] at hs
        simp only [B]; omega
      have loop := l_rshortb s n (y :: r) [x] [shortF x] (by simp) rfl (fun u hu => ihl u (List.mem_cons_of_mem _ hu)) (show (x :: y :: r).length ≤ SZ by simp only [SZ]; omega) hxl
      have h1 := ihl x List.mem_cons_self
      have h3 := ltI' [] x (y :: r)
      rw [show aE (List.getD (FTs (x :: y :: r)) (Int.toNat 0) []) = aT x from aE_FT x, w64 (by omega) (by omega)]
      refine ⟨rfl, br_of (fun _ => ⟨⟨rfl, by omega, h3, rE_FT x⟩, shortF x, h1, Nat.le_refl _, roomI (by omega), ?_⟩) (fun h => absurd h3 (of_decide_eq_false h))⟩
      rw [FT4_eq]
      exact loop
    · have : l = [] := okB0 ho h5 h6
      subst this
      have h5' : (k == 5) = false := by simpa using h5
      have h6' : (k == 6) = false := by simpa using h6
      refine ⟨rfl, br_of (fun h => absurd h (by decide)) (fun _ => br_of (fun h => by have h : (k == 6) = true := h; rw [h6'] at h; cases h) (fun _ => br_of (fun _ => ?_) (fun h => by have h : (k != 5) = false := h; rw [bne, h5'] at h; cases h)))⟩
      rw [shortF, if_neg (by rw [h5']; simp), if_neg (by rw [h6']; simp)]
      exact ⟨.refl _, rfl⟩
/-! ### Expanded; a leaf -/
theorem c_rLams1 (t : Tm) : AC Try.prog 93 [ci 1, aT t] [] (aT (lamsF 1 t)) [] := by
  obtain ⟨k, s, n, l⟩ := t
  refine AC.vc hP sh lv93 (Nat.le_refl _) (by simp) (by simp) (Eq.mpr (v93 1 k s n (FTs l) _ _) ?_)
  refine RPt.vc hP sh lv93 (Eq.mpr (v93_1a 1 0 k s n (FTs l) 0 [] 0 _ _) ?_)
  refine br_of (fun _ => ⟨⟨rfl, Nat.le_refl _⟩, ?_⟩) (fun h => absurd h (by decide))
  rw [w64 (by omega) (by omega)]
  refine RPt.vc hP sh lv93 (Eq.mpr (v93_1b 1 (0 + 1) 5 [] 0 [[.int .i64 k, .str s, .int .i64 n, .sl false 4 (FTs l)]] 0 [] 0 _ _) ?_)
  exact br_of (fun h => absurd h (by decide)) (fun _ => ⟨leT (leSl (l := [.mk k s n l])), rfl⟩)
def expF (t : Tm) : Tm := lamsF 1 (applyF (shT 0 1 t 0) [exZ])
theorem c_rExpand (t : Tm) (hs : t.sz ≤ SZ) (hb : bd M61 t) : AC Try.prog 53 [aT t] [] (aT (expF t)) [] := by
  have h1 := c_rShift t 0 1 (by simp only [SZ, B] at *; omega) hb (Int.le_refl _) (by simp only [M61]; omega) (by omega) (by simp only [M61]; omega)
  have hz := shT_sz 0 1 t 0
  have h6 := Tm.szs_length (shT 0 1 t 0).l
  have h7 := (shT 0 1 t 0).sz_eq
  have h2 := c_rapply (shT 0 1 t 0) [exZ] (by simp only [SZ, List.length_cons, List.length_nil] at *; omega)
  have h3 := c_rLams1 (applyF (shT 0 1 t 0) [exZ])
  obtain ⟨k, s, n, l⟩ := t
  refine AC.vc hP sh lv53 (Nat.le_refl _) (by simp) (by simp) (Eq.mpr (v53 k s n (FTs l) _ _) ?_)
  exact ⟨_, h1, ⟨rfl, Nat.le_refl _⟩, _, h2.args ⟨.refl _, args1 (leFT leNil), trivial⟩, _, h3, .refl _, rfl⟩
theorem c_eExpand (t : Tm) (hs : t.sz ≤ SZ) (hb : bd M61 t) : AC Try.prog 48 [aT t] [] (aT (if validB t = true then expF t else t)) [] := by
  have h0 := c_valid t (by simp only [SZ, B] at *; omega)
  have h1 := c_shift t 0 1 (by simp only [SZ, B] at *; omega) hb (Int.le_refl _) (by simp only [M61]; omega) (by omega) (by simp only [M61]; omega)
  have hz := shT_sz 0 1 t 0
  have h6 := Tm.szs_length (shT 0 1 t 0).l
  have h7 := (shT 0 1 t 0).sz_eq
  have h2 := c_apply (shT 0 1 t 0) [exZ] (by simp only [SZ, List.length_cons, List.length_nil] at *; omega)
  have h3 := c_lams 1 (applyF (shT 0 1 t 0) [exZ]) (by omega)
  obtain ⟨k, s, n, l⟩ := t
  refine AC.vc hP sh lv48 (Nat.le_refl _) (by simp) (by simp) (Eq.mpr (v48 k s n (FTs l) _ _) ?_)
  refine ⟨_, h0, br_of (fun h => ?_) (fun h => ⟨_, h1, exZ, c_ezero, ⟨rfl, Nat.le_refl _⟩, _, h2.args ⟨.refl _, args1 (by rw [FT4_eq]; exact LeR.refl _), trivial⟩, _, h3, ?_⟩)⟩
  · rw [if_neg (by rw [not_t h]; simp)]; exact ⟨.refl _, rfl⟩
  · rw [if_pos (not_f h)]; exact ⟨.refl _, rfl⟩
def leafB (t : Tm) : Bool := (shortF t).k == 3 || (shortF t).k == 1
def leafF (t : Tm) : Tm := if leafB t = true then shortF t else noT
abbrev aLeaf (t : Tm) (b : Bool) : TV := .tup [(true, cT t), (false, [.a (.fz (.bool b))])]
theorem c_rLeaf (t : Tm) (ho : okB t = true) (hs : t.sz ≤ SZ) (hb : bd M61 t) : AC Try.prog 51 [aT t] [] (aLeaf (leafF t) (leafB t)) [] := by
  have h := c_rShort t ho hs hb
  have e1 : ∀ b, leafB t = b → leafF t = if b = true then shortF t else noT := fun b h => by rw [leafF, h]
  have e2 : leafB t = ((shortF t).k == 3 || (shortF t).k == 1) := rfl
  obtain ⟨k, s, n, l⟩ := t
  refine AC.vc hP sh lv51 (Nat.le_refl _) (by simp) (by simp) (Eq.mpr (v51 k s n (FTs l) _ _) ?_)
  refine ⟨_, h, br_of (fun h3 => ?_) (fun h3 => br_of (fun h1 => ?_) (fun h1 => ?_))⟩
  · have h3 : ((shortF (.mk k s n l)).k == 3) = true := h3
    have e : leafB (.mk k s n l) = true := by rw [e2, h3]; rfl
    rw [e1 true e, e, if_pos rfl]; exact ⟨.refl _, rfl⟩
  · have h1 : ((shortF (.mk k s n l)).k == 1) = true := h1
    have e : leafB (.mk k s n l) = true := by rw [e2, h1, Bool.or_true]
    rw [e1 true e, e, if_pos rfl]; exact ⟨.refl _, rfl⟩
  · have h3 : ((shortF (.mk k s n l)).k == 3) = false := h3
    have h1 : ((shortF (.mk k s n l)).k == 1) = false := h1
    have e : leafB (.mk k s n l) = false := by rw [e2, h1, h3]; rfl
    rw [e1 false e, e]; exact ⟨leTB (l := []) leNil, rfl⟩
theorem c_eLeaf (t : Tm) (hs : t.sz ≤ SZ) (hb : bd M61 t) : AC Try.prog 49 [aT t] [] (if validB t = true then aLeaf (leafF t) (leafB t) else aLeaf noT false) [] := by
  have h0 := c_valid t (by simp only [SZ, B] at *; omega)
  have h := fun h => c_eshort t (valid_ok t h) (valid_lv h) hs hb
  have e1 : ∀ b, leafB t = b → leafF t = if b = true then shortF t else noT := fun b h => by rw [leafF, h]
  have e2 : leafB t = ((shortF t).k == 3 || (shortF t).k == 1) := rfl
  obtain ⟨k, s, n, l⟩ := t
  refine AC.vc hP sh lv49 (Nat.le_refl _) (by simp) (by simp) (Eq.mpr (v49 k s n (FTs l) _ _) ?_)
  refine ⟨_, h0, br_of (fun hv => ?_) (fun hv => ⟨_, h (not_f hv), br_of (fun h3 => ?_) (fun h3 => br_of (fun h1 => ?_) (fun h1 => ?_))⟩)⟩
  · rw [if_neg (by rw [not_t hv]; simp)]; exact ⟨leTB (l := []) leNil, rfl⟩
  · have h3 : ((shortF (.mk k s n l)).k == 3) = true := h3
    have e : leafB (.mk k s n l) = true := by rw [e2, h3]; rfl
    rw [if_pos (not_f hv), e1 true e, e, if_pos rfl]; exact ⟨.refl _, rfl⟩
  · have h1 : ((shortF (.mk k s n l)).k == 1) = true := h1
    have e : leafB (.mk k s n l) = true := by rw [e2, h1, Bool.or_true]
    rw [if_pos (not_f hv), e1 true e, e, if_pos rfl]; exact ⟨.refl _, rfl⟩
  · have h3 : ((shortF (.mk k s n l)).k == 3) = false := h3
    have h1 : ((shortF (.mk k s n l)).k == 1) = false := h1
    have e : leafB (.mk k s n l) = false := by rw [e2, h1, h3]; rfl
    rw [if_pos (not_f hv), e1 false e, e]; exact ⟨leTB (l := []) leNil, rfl⟩
end Go.AM

set_option maxRecDepth 100000
open Go Go.Proofs
namespace Go.AM
/-! ### The one way -/
def rnV (F : Nat) (f : Int) (t : Tm) : Tm × Int × Int := match runS F t with | some (u, G) => (u, f - ((F - G : Nat) : Int), 0) | none => (noT, 0, 80)
def canOf (v : Tm × Int × Int) : Tm × Int × Int := if v.2.2 = 0 then (shortF v.1, v.2.1, 0) else (noT, 0, v.2.2)
def canV (F : Nat) (f : Int) (t : Tm) : Tm × Int × Int := canOf (normV F f t)
theorem normV_valid {F : Nat} {f : Int} {t : Tm} (h : validB t = true) : normV F f t = rnV F f t := if_pos h
theorem normV_not {F : Nat} {f : Int} {t : Tm} (h : validB t = false) : normV F f t = (noT, 0, 1) := if_neg (by rw [h]; simp)
theorem rnV_ok {F : Nat} {f : Int} {t : Tm} (hv : validB t = true) (hf : Fit F t) (h : (rnV F f t).2.2 = 0) : ∃ G, runS F t = some ((rnV F f t).1, G) ∧ Fit G (rnV F f t).1 ∧ lvB (rnV F f t).1 = true := by
  unfold rnV at h ⊢
  cases q : runS F t with
  | none => rw [q] at h; cases h
  | some p => obtain ⟨u, G⟩ := p; exact ⟨G, rfl, runS_fit hf q, runS_lv hf (valid_lv hv) q⟩
theorem c_eCanon (F : Nat) (t : Tm) (f : Int) (hf : f.toNat = F) (hs : t.sz ≤ B) (hfit : validB t = true → Fit F t) : AC Try.prog 44 [aT t, ci f] [] (aTNE (canV F f t).1 (canV F f t).2.1 (canV F f t).2.2) [] := by
  have h := c_bNorm F t f hf hs hfit
  have hsh : (normV F f t).2.2 = 0 → AC Try.prog 88 [aT (normV F f t).1] [] (aT (shortF (normV F f t).1)) [] := fun h => by
    cases hv : validB t with
    | false => rw [normV_not hv] at h; cases h
    | true =>
      rw [normV_valid hv] at h ⊢
      obtain ⟨G, h1, h2, h3⟩ := rnV_ok hv (hfit hv) h
      exact c_eshort _ h2.ok h3 h2.sz h2.bd
  rw [canV]
  generalize normV F f t = v at *
  obtain ⟨u, m, e⟩ := v
  obtain ⟨k, s, n, l⟩ := t
  refine AC.vc hP sh lv44 (Nat.le_refl _) (by simp) (by simp) (Eq.mpr (v44 k s n (FTs l) f _ _) ?_)
  refine ⟨(u, m, e), h, br_of (fun he => ?_) (fun he => ?_)⟩
  · have he : (e != 0) = true := he
    have he' : ¬ e = 0 := by simpa using he
    rw [canOf, if_neg he']
    exact ⟨leTNE (l := []) leNil, rfl⟩
  · have he : (e != 0) = false := he
    have he' : e = 0 := by simpa using he
    subst he'
    exact ⟨_, hsh rfl, .refl _, rfl⟩
theorem p_rRun : ∀ (F : Nat) (t : Tm) (f : Int), f.toNat = F → Fit F t → RPt Try.prog 89 0 (aTNE (rnV F f t).1 (rnV F f t).2.1 (rnV F f t).2.2) [] 1 ⟨[(1, ci f), (2, cb false), (3, .c (.a (.ep 0 4 0 0))), (6, .c (.a (.ep 1 4 0 0)))], [(0, .arr 4 [cT t]), (1, .arr 4 [zT])], 2⟩ := by
  intro F
  induction F with
  | zero =>
    intro t f hf hfit
    have hst := c_rStep t hfit.sz hfit.ok hfit.bd
    refine RPt.vc hP sh lv89 (Eq.mpr (v89_1a f false t.k t.s t.n (FTs t.l) 0 [] 0 _ _) ?_)
    refine ⟨((stepF t).1, (stepF t).2), hst, br_of (fun h => ?_) (fun h => br_of (fun h2 => ?_) (fun h2 => br_of (fun h0 => ?_) (fun h0 => absurd (of_decide_eq_false h0) (by omega))))⟩
    · have h : ((stepF t).2 == 0) = true := h
      have h : (stepF t).2 = 0 := by simpa using h
      rw [rnV, runS_zero h]
      have e0 : f - ((0 : Nat) : Int) = f := by omega
      show TV.Le _ (aTNE t (f - ((@HSub.hSub Nat Nat Nat _ _ _ : Nat) : Int)) 0) ∧ _
      rw [Nat.sub_self, e0]
      exact ⟨.refl _, rfl⟩
    all_goals
      have h : ((stepF t).2 == 0) = false := h
      have h : ¬ (stepF t).2 = 0 := by simpa using h
      rw [rnV, runS, if_neg h]
      exact ⟨leTNE (l := []) leNil, rfl⟩
  | succ F ih =>
    intro t f hf hfit
    have hst := c_rStep t hfit.sz hfit.ok hfit.bd
    have hF := hfit.2.2.2
    refine RPt.vc hP sh lv89 (Eq.mpr (v89_1a f false t.k t.s t.n (FTs t.l) 0 [] 0 _ _) ?_)
    refine ⟨((stepF t).1, (stepF t).2), hst, br_of (fun h => ?_) (fun h => br_of (fun h2 => ?_) (fun h2 => br_of (fun h0 => absurd (of_decide_eq_true h0) (by omega)) (fun h0 => ?_)))⟩
    · have h : ((stepF t).2 == 0) = true := h
      have h : (stepF t).2 = 0 := by simpa using h
      rw [rnV, runS_zero h]
      have e0 : f - ((0 : Nat) : Int) = f := by omega
      show TV.Le _ (aTNE t (f - ((@HSub.hSub Nat Nat Nat _ _ _ : Nat) : Int)) 0) ∧ _
      rw [Nat.sub_self, e0]
      exact ⟨.refl _, rfl⟩
    · have h2 : ((stepF t).2 == 2) = true := h2
      have h2 : (stepF t).2 = 2 := by simpa using h2
      rw [rnV, runS, if_neg (by omega), if_neg (by omega)]
      exact ⟨leTNE (l := []) leNil, rfl⟩
    · have h : ((stepF t).2 == 0) = false := h
      have h : ¬ (stepF t).2 = 0 := by simpa using h
      have h2 : ((stepF t).2 == 2) = false := h2
      have h2 : ¬ (stepF t).2 = 2 := by simpa using h2
      have h1 : (stepF t).2 = 1 := by rcases stepF_n t with q | q | q <;> omega
      have := ih (stepF t).1 (f - 1) (by omega) (hfit.next h1)
      have e : rnV (F + 1) f t = rnV F (f - 1) (stepF t).1 := by
        rw [rnV, runS, if_neg h, if_pos h1, rnV]
        cases q : runS F (stepF t).1 with
        | none => rfl
        | some p =>
          have := (runS_end q).2
          show (p.1, f - ((F + 1 - p.2 : Nat) : Int), (0 : Int)) = (p.1, f - 1 - ((F - p.2 : Nat) : Int), 0)
          rw [show f - ((F + 1 - p.2 : Nat) : Int) = f - 1 - ((F - p.2 : Nat) : Int) by omega]
      rw [w64 (x := f - 1) (by omega) (by omega), e]
      exact this
theorem c_rRun (F : Nat) (t : Tm) (f : Int) (hf : f.toNat = F) (hfit : Fit F t) : AC Try.prog 89 [aT t, ci f, cb false] [] (aTNE (rnV F f t).1 (rnV F f t).2.1 (rnV F f t).2.2) [] := by
  have h := p_rRun F t f hf hfit
  obtain ⟨k, s, n, l⟩ := t
  exact AC.vc hP sh lv89 (Nat.le_refl _) (by simp) (by simp) (Eq.mpr (v89 k s n (FTs l) f false _ _) h)
theorem c_rCanon (F : Nat) (t : Tm) (f : Int) (hf : f.toNat = F) (hv : validB t = true) (hfit : Fit F t) : AC Try.prog 46 [aT t, ci f] [] (aTNE (canV F f t).1 (canV F f t).2.1 (canV F f t).2.2) [] := by
  have h := c_rRun F t f hf hfit
  have hsh : (rnV F f t).2.2 = 0 → AC Try.prog 52 [aT (rnV F f t).1] [] (aT (shortF (rnV F f t).1)) [] := fun h => by
    obtain ⟨G, h1, h2, h3⟩ := rnV_ok hv hfit h
    exact c_rShort _ h2.ok h2.sz h2.bd
  rw [canV, normV_valid hv]
  generalize rnV F f t = v at *
  obtain ⟨u, m, e⟩ := v
  obtain ⟨k, s, n, l⟩ := t
  refine AC.vc hP sh lv46 (Nat.le_refl _) (by simp) (by simp) (Eq.mpr (v46 k s n (FTs l) f _ _) ?_)
  refine ⟨(u, m, e), h, br_of (fun he => ?_) (fun he => ?_)⟩
  · have he : (e != 0) = true := he
    have he' : ¬ e = 0 := by simpa using he
    rw [canOf, if_neg he']
    exact ⟨leTNE (l := []) leNil, rfl⟩
  · have he : (e != 0) = false := he
    have he' : e = 0 := by simpa using he
    subst he'
    exact ⟨_, hsh rfl, .refl _, rfl⟩
/-! ### To mean the same -/
def eqOf (u v : Tm × Int × Int) : Bool × Int := if u.2.2 = 0 then (if v.2.2 = 0 then (sameB u.1 v.1, 0) else (false, v.2.2)) else (false, u.2.2)
def eqV (F : Nat) (f : Int) (a b : Tm) : Bool × Int := eqOf (canV F f a) (canV F f b)
theorem canV_sz {F : Nat} {f : Int} {t : Tm} (hfit : validB t = true → Fit F t) : (canV F f t).1.sz ≤ SZ ∧ (validB t = true → okB (canV F f t).1 = true) := by
  unfold canV canOf
  split
  · rename_i h
    cases hv : validB t with
    | false => rw [normV_not hv] at h; cases h
    | true =>
      rw [normV_valid hv] at h ⊢
      obtain ⟨G, h1, h2, h3⟩ := rnV_ok hv (hfit hv) h
      have h4 := shortF_ok _ h2.ok
      exact ⟨Nat.le_trans h4.2.2.1 h2.sz, fun _ => h4.1⟩
  · exact ⟨show noT.sz ≤ SZ by decide, fun _ => show okB noT = true by decide⟩
theorem c_eEqual (F : Nat) (a b : Tm) (f : Int) (hf : f.toNat = F) (hsa : a.sz ≤ B) (hsb : b.sz ≤ B) (hfa : validB a = true → Fit F a) (hfb : validB b = true → Fit F b) : AC Try.prog 45 [aT a, aT b, ci f] [] (.tup [(false, [.a (.fz (.bool (eqV F f a b).1))]), (false, [.a (.fz (.int .i64 (eqV F f a b).2))])]) [] := by
  have h1 := c_eCanon F a f hf hsa hfa
  have h2 := c_eCanon F b f hf hsb hfb
  have h3 := c_same (canV F f a).1 (by have := (canV_sz (f := f) hfa).1; simp only [SZ, B] at *; omega) (canV F f b).1
  rw [eqV]
  generalize canV F f a = u at *
  generalize canV F f b = v at *
  obtain ⟨u, um, ue⟩ := u
  obtain ⟨v, vm, ve⟩ := v
  obtain ⟨ak, as_, an, al⟩ := a
  obtain ⟨bk, bs, bn, bl⟩ := b
  refine AC.vc hP sh lv45 (Nat.le_refl _) (by simp) (by simp) (Eq.mpr (v45 ak as_ an (FTs al) bk bs bn (FTs bl) f _ _) ?_)
  refine RPt.vc hP sh lv45 (Eq.mpr (v45_1a f ak as_ an (FTs al) bk bs bn (FTs bl) 0 [] 0 0 [] 0 _ _) ?_)
  refine ⟨(u, um, ue), h1, br_of (fun he => ?_) (fun he => ⟨by omega, ?_⟩)⟩
  · have he' : ¬ ue = 0 := by have he : (ue != 0) = true := he; simpa using he
    rw [eqOf, if_neg he']
    exact ⟨.refl _, rfl⟩
  · have he' : ue = 0 := by have he : (ue != 0) = false := he; simpa using he
    subst he'
    refine RPt.vc hP sh lv45 (Eq.mpr (v45_1b f ak as_ an (FTs al) bk bs bn (FTs bl) u.k u.s u.n (FTs u.l) 0 [] 0 _ _) ?_)
    refine ⟨(v, vm, ve), h2, br_of (fun he => ?_) (fun he => ⟨by omega, ?_⟩)⟩
    · have he' : ¬ ve = 0 := by have he : (ve != 0) = true := he; simpa using he
      rw [eqOf, if_pos rfl, if_neg he']
      exact ⟨.refl _, rfl⟩
    · have he' : ve = 0 := by have he : (ve != 0) = false := he; simpa using he
      subst he'
      refine RPt.vc hP sh lv45 (Eq.mpr (v45_1c f ak as_ an (FTs al) bk bs bn (FTs bl) u.k u.s u.n (FTs u.l) v.k v.s v.n (FTs v.l) _ _) ?_)
      exact ⟨by omega, by omega, _, h3, .refl _, rfl⟩
/-! ### What is looked at; the examples -/
theorem c_over9 (t : Tm) (hs : t.sz ≤ B) : AC Try.prog 43 [aT t] [] (cb (over60 t)) [] := by
  have h1 := c_near 1099511627776 (by omega) (by omega) t hs
  have h2 := c_large t hs 60 (by omega) (by omega)
  obtain ⟨k, s, n, l⟩ := t
  refine AC.vc hP sh lv43 (Nat.le_refl _) (by simp) (by simp) (Eq.mpr (v43 k s n (FTs l) _ _) ?_)
  refine ⟨_, h1, _, h2, br_of (fun h => ret_b ?_) (fun h => ret_b ?_)⟩
  · simp only [over60, h, Bool.true_or]
  · simp only [over60, h, Bool.false_or]
abbrev exO : Tm := .mk 3 [] 1 []
abbrev ex91 : Tm := applyF exF [exA, exZ]
abbrev ex92 : Tm := applyF exF [exO, exZ]
abbrev ex93 : Tm := applyF exF [exZ, exZ]
abbrev ex94 : Tm := applyF exO [exZ]
abbrev ex95 : Tm := applyF exF [exZ]
theorem bd_of {t : Tm} (h : near 1099511627776 t = true) : bd M61 t := bd_le (by simp only [M61]; omega) _ (near_bd t h)
theorem c_works9 : AC Try.prog 42 [] [] (cb true) [] := by
  have hE := c_eEqual 5 (lamsF 1 ex95) exF 5 rfl (by decide) (by decide) (fun _ => fit_of (by decide)) (fun _ => fit_of (by decide))
  refine AC.vc hP sh lv42 (Nat.le_refl _) (by simp) (by simp) (Eq.mpr (v42 ..) ?_)
  refine ⟨⟨rfl, by omega⟩, ex91, (c_apply exF [exA, exZ] (by decide)).args ⟨e0, args2 (leFT leNil) (leFT leNil), trivial⟩,
    lamsF 1 ex91, c_lams 1 _ (by omega), _, c_eShort _ (by decide) (bd_of (by decide)), ⟨rfl, by omega⟩,
    applyF exF [exA], (c_apply exF [exA] (by decide)).args ⟨e0, args1 (leFT leNil), trivial⟩, _, c_rsame _ (by decide) _, ⟨rfl, by omega⟩,
    ex92, (c_apply exF [exO, exZ] (by decide)).args ⟨e0, args2 (leFT leNil) (leFT leNil), trivial⟩,
    lamsF 2 ex92, c_lams 2 _ (by omega), _, c_eShort _ (by decide) (bd_of (by decide)), _, (c_rsame _ (by decide) exF).args ⟨.refl _, e0, trivial⟩, ⟨rfl, by omega⟩,
    ex93, (c_apply exF [exZ, exZ] (by decide)).args ⟨e0, args2 (leFT leNil) (leFT leNil), trivial⟩,
    lamsF 1 ex93, c_lams 1 _ (by omega), _, c_eShort _ (by decide) (bd_of (by decide)), _, c_rsame _ (by decide) _, ⟨rfl, by omega⟩,
    ex94, (c_apply exO [exZ] (by decide)).args ⟨e0, args1 (leFT leNil), trivial⟩,
    lamsF 1 ex94, c_lams 1 _ (by omega), (leafF (lamsF 1 ex94), leafB (lamsF 1 ex94)), ?_, ⟨rfl, by omega⟩,
    ex95, (c_apply exF [exZ] (by decide)).args ⟨e0, args1 (leFT leNil), trivial⟩,
    lamsF 1 ex95, c_lams 1 _ (by omega), (eqV 5 5 (lamsF 1 ex95) exF).1, (eqV 5 5 (lamsF 1 ex95) exF).2, hE.args ⟨.refl _, e0, .refl _, trivial⟩, ?_⟩
  · have h := c_eLeaf (lamsF 1 ex94) (by decide) (bd_of (by decide))
    rw [if_pos (by decide)] at h
    exact h
  · exact br_of (fun _ => br_of (fun _ => br_of (fun _ => br_of (fun _ => br_of (fun _ => br_of (fun _ => br_of (fun _ => ret_b (by decide)) (fun h => absurd h (by decide))) (fun h => absurd h (by decide))) (fun h => absurd h (by decide))) (fun h => absurd h (by decide))) (fun h => absurd h (by decide))) (fun h => absurd h (by decide))) (fun h => absurd h (by decide))
/-! ### THE LAW: shorts -/
theorem same_tt {t u : Tm} (hs : t.sz ≤ B) (h : t = u) : AC Try.prog 16 [aT t, aT u] [] (cb true) [] := by
  have := c_rsame t hs u
  rw [show sameB t u = true from (sameB_iff _ _).2 h] at this
  exact this
theorem c_etashorts (t : Tm) (i : Int) (htb : t.bk ≤ B) : AC Try.prog 11 [aT t, ci i] [] (cb true) [] := by
  have hs := Nat.le_trans t.sz_bk htb
  have ho := c_over9 t hs
  have k1 := okay60 (t := t)
  have rv := c_rvalid t htb
  have c1 := c_eShort t
  have c2 := c_eExpand t
  have c3 := c_eLeaf t
  have c4 := c_rLeaf t
  have c5 := c_rShort t
  have c6 := c_rExpand t
  have c7 := c_efree t i hs
  have c8 := c_rfree t i hs
  have vo := valid_ok t
  have sl := fun h => (shortF_ok t h).2.2.1
  have sx : (expF t).sz ≤ t.sz + 4 := by
    have h1 := applyF_sz (shT 0 1 t 0) [exZ]
    have h2 := shT_sz 0 1 t 0
    show 1 + ((applyF (shT 0 1 t 0) [exZ]).sz + 0) ≤ _
    simp only [Tm.szs, Tm.sz] at h1; omega
  have sf : (leafF t).sz ≤ 1 + (shortF t).sz := by unfold leafF; split <;> simp [Tm.sz, Tm.szs]
  have sn := (c_rsame noT (by decide) noT).args (args := [aT noT, .agg zT]) ⟨.refl _, e0, trivial⟩
  generalize hvt : validB t = vt at *
  obtain ⟨tk, ts, tn, tl⟩ := t
  refine AC.vc hP sh lv11 (Nat.le_refl _) (by simp) (by simp) (Eq.mpr (v11 tk ts tn (FTs tl) i _ _) ?_)
  refine ⟨_, c_works9, br_of (fun h => by cases h) (fun _ => ⟨_, ho, br_of (fun _ => ret_b rfl) (fun g1 => br_of (fun _ => ret_b rfl) (fun g3 => br_of (fun _ => ret_b rfl) (fun g4 => ?_)))⟩)⟩
  obtain ⟨q1, q2⟩ := k1 g1
  have g3 := of_decide_eq_false g3
  have g4 := of_decide_eq_false g4
  have hb : bd M61 (.mk tk ts tn tl) := bd_le (by simp only [M61]; omega) _ q2
  have hz : (Tm.mk tk ts tn tl).sz ≤ SZ := by simp only [SZ]; omega
  have c1 := c1 hz hb
  have c2 := c2 hz hb
  have c3 := c3 hz hb
  have c7 := c7 (by omega) (by omega)
  have c8 := c8 (by omega) (by omega)
  cases vt with
  | false =>
    rw [if_neg (by simp)] at c1 c2 c3
    refine ⟨_, c1, _, c2, (noT, false), c3, _, rv, br_of (fun _ => ⟨_, same_tt hs rfl, _, same_tt hs rfl, _, sn, br_of (fun _ => br_of (fun _ => br_of (fun _ => br_of (fun _ => br_of (fun _ => ⟨_, c7, ret_b rfl⟩) (fun h => absurd h (by decide))) (fun h => absurd h (by decide))) (fun h => absurd h (by decide))) (fun h => absurd h (by decide))) (fun h => absurd h (by decide))⟩) (fun h => absurd h (by decide))⟩
  | true =>
    rw [if_pos rfl] at c1 c2 c3
    have c4 := c4 (vo rfl) hz hb
    have c5 := c5 (vo rfl) hz hb
    have c6 := c6 hz hb
    have sl := sl (vo rfl)
    refine ⟨_, c1, _, c2, (leafF (.mk tk ts tn tl), leafB (.mk tk ts tn tl)), c3, _, rv, br_of (fun h => absurd h (by decide)) (fun _ => ⟨(leafF (.mk tk ts tn tl), leafB (.mk tk ts tn tl)), c4, _, c5, _, same_tt (by simp only [SZ, B] at *; omega) rfl, _, c6, _, same_tt (by simp only [SZ, B] at *; omega) rfl, _, same_tt (by simp only [SZ, B] at *; omega) rfl, br_of (fun _ => br_of (fun _ => br_of (fun _ => br_of (fun _ => br_of (fun _ => ⟨_, c7, _, c8, ret_b (by simp)⟩) (fun h => absurd h (by simp))) (fun h => absurd h (by decide))) (fun h => absurd h (by decide))) (fun h => absurd h (by decide))) (fun h => absurd h (by decide))⟩)⟩
end Go.AM

set_option maxRecDepth 100000
open Go Go.Proofs
namespace Go.AM
/-! ### What is shifted downwards -/
theorem shT_inn {fr by_ : Int} {k n : Int} {s : List UInt8} {l : List Tm} (d : Int) (hk : k = 5 ∨ k = 6) : shT fr by_ (.mk k s n l) d = .mk k s n (walkL (shLeaf fr by_) l (d + if (k == 5) = true then 1 else 0)) := walkF_keep _ (shLeaf_k fr by_) k s n l d (by rcases hk with rfl | rfl <;> rfl)
theorem shT_out {fr by_ : Int} {k n : Int} {s : List UInt8} {l : List Tm} (d : Int) (h5 : k ≠ 5) (h6 : k ≠ 6) : shT fr by_ (.mk k s n l) d = shLeaf fr by_ (.mk k s n l) d := walkF_leaf _ k s n l d (by simp [h5, h6])
theorem shT_k (fr by_ : Int) (t : Tm) (d : Int) : (shT fr by_ t d).k = t.k := walkF_k _ (shLeaf_k fr by_) t d
theorem walkL_hd (fr by_ : Int) (l : List Tm) (d : Int) : (hd (walkL (shLeaf fr by_) l d)).k = (hd l).k := by
  cases l with
  | nil => rfl
  | cons x l => exact shT_k fr by_ x d
theorem walkL_app (lf : Tm → Int → Tm) (d : Int) : ∀ a b : List Tm, walkL lf (a ++ b) d = walkL lf a d ++ walkL lf b d
  | [], _ => rfl
  | x :: a, b => by simp only [List.cons_append, walkL, walkL_app lf d a b]
mutual
theorem norm_shift (fr by_ : Int) : ∀ (t : Tm) (d : Int), normB (shT fr by_ t d) = normB t
  | .mk k s n l, d => by
    by_cases hk : k = 5 ∨ k = 6
    · rw [shT_inn d hk, normB, normB, norm_shifts fr by_ l]
      congr 2
      show (k == 6 && (hd (walkL (shLeaf fr by_) l (d + if (k == 5) = true then 1 else 0))).k == 5) = (k == 6 && (hd l).k == 5)
      rw [walkL_hd]
    · have h5 : k ≠ 5 := fun e => hk (.inl e)
      have h6 : k ≠ 6 := fun e => hk (.inr e)
      rw [shT_out d h5 h6]
      unfold shLeaf
      split <;> rfl
theorem norm_shifts (fr by_ : Int) : ∀ (l : List Tm) (d : Int), normL (walkL (shLeaf fr by_) l d) = normL l
  | [], _ => rfl
  | t :: l, d => by
    have := norm_shift fr by_ t d
    rw [walkL, normL, normL, norm_shifts fr by_ l d]
    exact congrArg (· && _) this
end
mutual
theorem loose_shift : ∀ (t : Tm) (d e : Int), occF t e = 0 → 0 ≤ d → 0 ≤ e → looseR (shT 0 (-1) t e) (d + e) = looseR t (d + e + 1)
  | .mk k s n l, d, e, ho, hd, he => by
    by_cases hk : k = 5 ∨ k = 6
    · have h3 : ¬ (k == 3) = true := by rcases hk with rfl | rfl <;> decide
      have hin : (k == 5 || k == 6) = true := by rcases hk with rfl | rfl <;> rfl
      rw [shT_inn e hk, looseR, looseR, if_neg h3, if_neg h3, if_pos hin, if_pos hin]
      have hb : (0 : Int) ≤ if (k == 5) = true then 1 else 0 := by split <;> omega
      have := loose_shifts l d (e + if (k == 5) = true then 1 else 0) (by
        rw [occF, if_neg (fun q => h3 q.1)] at ho; exact ho) hd (by omega)
      rw [show d + e + (if (k == 5) = true then 1 else 0) = d + (e + if (k == 5) = true then 1 else 0) by omega, this]
      congr 1; omega
    · have h5 : k ≠ 5 := fun e => hk (.inl e)
      have h6 : k ≠ 6 := fun e => hk (.inr e)
      rw [shT_out e h5 h6]
      by_cases h3 : k = 3
      · subst h3
        have hne : n ≠ e := fun q => by rw [occF, if_pos ⟨rfl, by simp [q]⟩] at ho; cases ho
        unfold shLeaf
        by_cases hc : e + 0 ≤ n
        · rw [if_pos ⟨rfl, hc⟩]
          show looseR (.mk 3 s (n + -1) l) (d + e) = _
          rw [looseR, looseR, if_pos (show ((3 : Int) == 3) = true from rfl), if_pos (show ((3 : Int) == 3) = true from rfl)]
          congr 1; omega
        · rw [if_neg (fun q => hc q.2), looseR, looseR, if_pos (show ((3 : Int) == 3) = true from rfl), if_pos (show ((3 : Int) == 3) = true from rfl)]
          unfold maxI
          (repeat' split) <;> omega
      · have h3' : ¬ (k == 3) = true := by simpa using h3
        have hin : ¬ (k == 5 || k == 6) = true := by simp [h5, h6]
        unfold shLeaf
        rw [if_neg (fun q => h3' q.1), looseR, looseR, if_neg h3', if_neg h3', if_neg hin, if_neg hin]
theorem loose_shifts : ∀ (l : List Tm) (d e : Int), occL l e = 0 → 0 ≤ d → 0 ≤ e → looseRL (walkL (shLeaf 0 (-1)) l e) (d + e) = looseRL l (d + e + 1)
  | [], _, _, _, _, _ => rfl
  | t :: l, d, e, ho, hd, he => by
    simp only [occL] at ho
    have h1 := loose_shift t d e (by omega) hd he
    have h2 := loose_shifts l d e (by omega) hd he
    rw [walkL, looseRL, looseRL, h2]
    exact congrArg (maxI · _) h1
end
mutual
theorem occ_shift : ∀ (t : Tm) (e j : Int), occF t e = 0 → j < e → occF (shT 0 (-1) t e) j = occF t j
  | .mk k s n l, e, j, ho, hj => by
    by_cases hk : k = 5 ∨ k = 6
    · have h3 : ¬ (k == 3) = true := by rcases hk with rfl | rfl <;> decide
      have a1 : ∀ i, ¬ ((k == 3) = true ∧ (n == i) = true) := fun i q => h3 q.1
      rw [occF, if_neg (a1 e)] at ho
      rw [shT_inn e hk, occF, occF, if_neg (a1 j), if_neg (a1 j)]
      exact occ_shifts l _ _ ho (by omega)
    · have h5 : k ≠ 5 := fun e => hk (.inl e)
      have h6 : k ≠ 6 := fun e => hk (.inr e)
      rw [shT_out e h5 h6]
      by_cases h3 : k = 3
      · subst h3
        have hne : n ≠ e := fun q => by rw [occF, if_pos ⟨rfl, by simp [q]⟩] at ho; cases ho
        unfold shLeaf
        by_cases hc : e + 0 ≤ n
        · rw [if_pos ⟨rfl, hc⟩]
          show occF (.mk 3 s (n + -1) l) j = _
          have a1 : ¬ (((3 : Int) == 3) = true ∧ (n + -1 == j) = true) := fun q => by have := q.2; simp at this; omega
          have a2 : ¬ (((3 : Int) == 3) = true ∧ (n == j) = true) := fun q => by have := q.2; simp at this; omega
          rw [occF, occF, if_neg a1, if_neg a2]
        · rw [if_neg (fun q => hc q.2)]
      · have h3' : ¬ (k == 3) = true := by simpa using h3
        unfold shLeaf
        rw [if_neg (fun q => h3' q.1)]
theorem occ_shifts : ∀ (l : List Tm) (e j : Int), occL l e = 0 → j < e → occL (walkL (shLeaf 0 (-1)) l e) j = occL l j
  | [], _, _, _, _ => rfl
  | t :: l, e, j, ho, hj => by
    simp only [occL] at ho
    have h1 := occ_shift t e j (by omega) hj
    have h2 := occ_shifts l e j (by omega) hj
    rw [walkL, occL, occL, h2]
    exact congrArg (· + _) h1
end
theorem apply_leaf {x : Tm} (hx : x.k ≠ 6) (a : List Tm) : applyF x a = if a = [] then x else .mk 6 [] 0 (x :: a) := by
  cases a with
  | nil => rfl
  | cons y r =>
    obtain ⟨k, s, n, l⟩ := x
    rw [apply_some, if_neg (fun e => hx (show k = 6 by simpa using e.1))]; rfl
theorem occ_apply {x : Tm} (hx : x.k ≠ 6) (a : List Tm) (i : Int) : occF (applyF x a) i = occF x i + occL a i := by
  rw [apply_leaf hx]
  split
  · rename_i h; subst h; simp [occL]
  · rw [occF, if_neg (by rintro ⟨h, _⟩; cases h)]
    show occL (x :: a) (i + 0) = _
    rw [Int.add_zero]; rfl
theorem drop_app (k n : Int) (s : List UInt8) (x : Tm) (a : List Tm) (z : Tm) : dropB (.mk k s n (x :: a ++ [z])) = (k == 6 && z.k == 3 && z.n == 0 && occF (applyF x a) 0 == 0) := by
  rw [dropB, rest_app, show Tm.l (.mk k s n (x :: a ++ [z])) = x :: a ++ [z] from rfl, last_app]; rfl
theorem drop_not {b : Tm} (h : b.k ≠ 6) : dropB b = false := by
  rw [dropB, show (b.k == 6) = false by simpa using h]; rfl
theorem drop_shift {b : Tm} {e : Int} (hb : okB b = true) (ho : occF b e = 0) (he : 1 ≤ e) : dropB (shT 0 (-1) b e) = dropB b := by
  by_cases h6 : b.k = 6
  · obtain ⟨k, s, n, l⟩ := b
    have h6 : k = 6 := h6
    subst h6
    obtain ⟨x, a, z, rfl, hx6, hx, ha, hz⟩ := app_parts hb rfl
    rw [occF, if_neg (by rintro ⟨h, _⟩; cases h)] at ho
    have ho : occL (x :: a ++ [z]) (e + 0) = 0 := ho
    rw [Int.add_zero] at ho
    have hox := occL_mem ho x List.mem_cons_self
    have hoz := occL_mem ho z (by simp)
    have hoa : occL a e = 0 := by
      have : ∀ (p q : List Tm), occL (p ++ q) e = occL p e + occL q e := fun p q => by
        induction p with
        | nil => simp [occL]
        | cons y p ih => simp only [List.cons_append, occL, ih]; omega
      rw [this] at ho; simp only [occL] at ho; omega
    rw [shT_inn e (.inr rfl)]
    show dropB (.mk 6 s n (walkL (shLeaf 0 (-1)) (x :: a ++ [z]) (e + 0))) = _
    rw [Int.add_zero, walkL_app, walkL, walkL, walkL, drop_app, drop_app]
    have e1 : occF (applyF (walkF (shLeaf 0 (-1)) x e) (walkL (shLeaf 0 (-1)) a e)) 0 = occF (applyF x a) 0 := by
      rw [occ_apply hx6, occ_apply (by show (shT 0 (-1) x e).k ≠ 6; rw [shT_k]; exact hx6), occ_shifts a e 0 hoa (by omega)]
      exact congrArg (· + _) (occ_shift x e 0 hox (by omega))
    rw [e1]
    congr 1
    have e2 : (walkF (shLeaf 0 (-1)) z e).k = z.k := shT_k 0 (-1) z e
    rw [e2]
    by_cases hz3 : z.k = 3
    · obtain ⟨zk, zs, zn, zl⟩ := z
      have hz3 : zk = 3 := hz3
      subst hz3
      have hne : zn ≠ e := fun q => by rw [occF, if_pos ⟨rfl, by simp [q]⟩] at hoz; cases hoz
      congr 1
      show ((shT 0 (-1) (.mk 3 zs zn zl) e).n == 0) = (zn == 0)
      rw [shT_out e (by decide) (by decide)]
      unfold shLeaf
      split
      · rename_i hc
        have hc : e + 0 ≤ zn := hc.2
        show (zn + -1 == 0) = (zn == 0)
        rw [show (zn + -1 == 0) = false by simp; omega, show (zn == 0) = false by simp; omega]
      · rfl
    · rw [show (z.k == 3) = false by simpa using hz3]; simp
  · rw [drop_not h6, drop_not (by rw [shT_k]; exact h6)]
/-! ### What is short stays -/
mutual
def shB : Tm → Bool
  | .mk k _ _ l => (if (k == 5) = true then !dropB (hd l) else true) && shL l
def shL : List Tm → Bool
  | [] => true
  | t :: l => shB t && shL l
end
theorem shL_mem : ∀ {l : List Tm} {t : Tm}, shL l = true → t ∈ l → shB t = true
  | x :: l, t, h, hm => by
    simp only [shL, Bool.and_eq_true] at h
    rcases List.mem_cons.1 hm with rfl | hm
    · exact h.1
    · exact shL_mem h.2 hm
theorem shL_of : ∀ {l : List Tm}, (∀ t ∈ l, shB t = true) → shL l = true
  | [], _ => rfl
  | t :: l, h => by simp only [shL, h t List.mem_cons_self, shL_of (l := l) fun u hu => h u (List.mem_cons_of_mem _ hu), Bool.and_self]
theorem shB_l {t : Tm} (h : shB t = true) : shL t.l = true := by
  obtain ⟨k, s, n, l⟩ := t
  rw [shB, Bool.and_eq_true] at h; exact h.2
theorem shB6 {s : List UInt8} {n : Int} {l : List Tm} : shB (.mk 6 s n l) = shL l := by rw [shB]; rfl
mutual
theorem short_fix : ∀ t : Tm, okB t = true → shB t = true → shortF t = t
  | .mk k s n l, ho, hs => by
    have hl := short_fixs l (okB_l ho) (shB_l hs)
    by_cases h5 : k = 5
    · subst h5
      obtain ⟨rfl, rfl⟩ := okB_sn ho (.inl rfl)
      obtain ⟨x, rfl, hx⟩ := okB5 ho rfl
      rw [shB, Bool.and_eq_true] at hs
      have hdx : dropB x = false := not_t hs.1
      rw [shortF, if_pos (show ((5 : Int) == 5) = true from rfl), hl, show hd [x] = x from rfl, if_neg (by rw [hdx]; simp)]
    · by_cases h6 : k = 6
      · subst h6
        obtain ⟨rfl, rfl⟩ := okB_sn ho (.inr rfl)
        obtain ⟨x, y, r, rfl, hx6, _⟩ := okB6 ho rfl
        rw [shortF, if_neg (by decide), if_pos (show ((6 : Int) == 6) = true from rfl), hl]
        show applyF x (y :: r) = _
        rw [apply_leaf hx6, if_neg (by simp)]
      · rw [shortF, if_neg (by simpa using h5), if_neg (by simpa using h6)]
theorem short_fixs : ∀ l : List Tm, okL l = true → shL l = true → shortL l = l
  | [], _, _ => rfl
  | t :: l, ho, hs => by
    simp only [okL, shL, Bool.and_eq_true] at ho hs
    rw [shortL, short_fix t ho.1 hs.1, short_fixs l ho.2 hs.2]
end
mutual
theorem sh_shift : ∀ (t : Tm) (e : Int), okB t = true → shB t = true → occF t e = 0 → 0 ≤ e → shB (shT 0 (-1) t e) = true
  | .mk k s n l, e, hk, hs, ho, he => by
    by_cases hin : k = 5 ∨ k = 6
    · rw [shT_inn e hin]
      have h3 : ¬ (k == 3) = true := by rcases hin with rfl | rfl <;> decide
      rw [occF, if_neg (fun q => h3 q.1)] at ho
      have hb : (0 : Int) ≤ if (k == 5) = true then 1 else 0 := by split <;> omega
      have hl := sh_shifts l (e + if (k == 5) = true then 1 else 0) (okB_l hk) (shB_l hs) ho (by omega)
      rw [shB, hl, Bool.and_true]
      split
      · rename_i h5
        have h5 : k = 5 := by simpa using h5
        subst h5
        obtain ⟨x, rfl, hx⟩ := okB5 hk rfl
        rw [shB, Bool.and_eq_true] at hs
        have hd : dropB x = false := not_t hs.1
        have hox : occF x (e + 1) = 0 := occL_mem ho x (List.mem_singleton.2 rfl)
        show (!dropB (shT 0 (-1) x (e + 1))) = true
        rw [drop_shift hx hox (by omega), hd]; rfl
      · rfl
    · have h5 : k ≠ 5 := fun e => hin (.inl e)
      have h6 : k ≠ 6 := fun e => hin (.inr e)
      rw [shT_out e h5 h6]
      unfold shLeaf
      split
      · show shB (.mk k s (n + -1) l) = true
        rw [shB] at hs ⊢; exact hs
      · exact hs
theorem sh_shifts : ∀ (l : List Tm) (e : Int), okL l = true → shL l = true → occL l e = 0 → 0 ≤ e → shL (walkL (shLeaf 0 (-1)) l e) = true
  | [], _, _, _, _, _ => rfl
  | t :: l, e, hk, hs, ho, he => by
    simp only [okL, shL, occL, Bool.and_eq_true] at hk hs ho
    have h1 := sh_shift t e hk.1 hs.1 (by omega) he
    have h2 := sh_shifts l e hk.2 hs.2 (by omega) he
    rw [walkL, shL, h2, Bool.and_true]
    exact h1
end
theorem shB_apply {f : Tm} {a : List Tm} (hf : shB f = true) (ha : shL a = true) : shB (applyF f a) = true := by
  match a, ha with
  | [], _ => exact hf
  | y :: r, ha =>
    obtain ⟨k, s, n, l⟩ := f
    rw [apply_some]
    split
    · rw [shB6]
      exact shL_of fun t ht => by
        rcases List.mem_append.1 ht with ht | ht
        · exact shL_mem (shB_l hf) ht
        · exact shL_mem ha ht
    · rw [shB6]
      simp only [shL, Bool.and_eq_true] at ha ⊢
      exact ⟨hf, ha⟩
theorem rest_sh {b : Tm} (hb : okB b = true) (hk : b.k = 6) (h : shB b = true) : shB (restF b) = true := by
  obtain ⟨k, s, n, l⟩ := b
  obtain ⟨x, a, z, rfl, _⟩ := app_parts hb hk
  rw [rest_app]
  have hl : shL (x :: a ++ [z]) = true := shB_l h
  exact shB_apply (shL_mem hl List.mem_cons_self) (shL_of fun u hu => shL_mem hl (List.mem_cons_of_mem _ (List.mem_append_left _ hu)))
mutual
theorem short_sh : ∀ t : Tm, okB t = true → shB (shortF t) = true
  | .mk k s n l, ho => by
    have hl := short_shs l (okB_l ho)
    by_cases h5 : k = 5
    · subst h5
      obtain ⟨x, rfl, hx⟩ := okB5 ho rfl
      have hsx : shB (shortF x) = true := by simpa [shortL, shL] using hl
      have hox := (shortF_ok x hx).1
      rw [shortF, if_pos (show ((5 : Int) == 5) = true from rfl), show hd (shortL [x]) = shortF x from rfl]
      split
      · rename_i hd
        rw [dropF, if_pos hd]
        exact sh_shift _ 0 (restF_ok hox (drop6 hd)).1 (rest_sh hox (drop6 hd) hsx) (drop0 hd) (Int.le_refl _)
      · rename_i hd
        rw [shB]
        show ((!dropB (shortF x)) && shL [shortF x]) = true
        rw [show dropB (shortF x) = false by simpa using hd]
        simp [shL, hsx]
    · by_cases h6 : k = 6
      · subst h6
        obtain ⟨x, y, r, rfl, hx6, _⟩ := okB6 ho rfl
        rw [shortF, if_neg (by decide), if_pos (show ((6 : Int) == 6) = true from rfl)]
        simp only [shortL, shL, Bool.and_eq_true] at hl
        exact shB_apply hl.1 (by simp only [shortL, List.tail_cons, shL, Bool.and_eq_true]; exact hl.2)
      · have : l = [] := okB0 ho h5 h6
        subst this
        rw [shortF, if_neg (by simpa using h5), if_neg (by simpa using h6), shB, if_neg (by simpa using h5)]; rfl
theorem short_shs : ∀ l : List Tm, okL l = true → shL (shortL l) = true
  | [], _ => rfl
  | t :: l, ho => by
    simp only [okL, Bool.and_eq_true] at ho
    rw [shortL, shL, short_sh t ho.1, short_shs l ho.2]; rfl
end
theorem short_twice {t : Tm} (h : okB t = true) : shortF (shortF t) = shortF t := short_fix _ (shortF_ok t h).1 (short_sh t h)
/-! ### Normal stays normal -/
theorem norm6 {s : List UInt8} {n : Int} {x : Tm} {l : List Tm} (hx : x.k ≠ 5) (h : normL (x :: l) = true) : normB (.mk 6 s n (x :: l)) = true := by
  rw [normB, h, Bool.and_true]
  show (!(6 == 6 && x.k == 5)) = true
  rw [show (x.k == 5) = false by simpa using hx]; rfl
theorem norm6_inv {s : List UInt8} {n : Int} {x : Tm} {l : List Tm} (h : normB (.mk 6 s n (x :: l)) = true) : x.k ≠ 5 ∧ normL (x :: l) = true := by
  rw [normB, Bool.and_eq_true] at h
  refine ⟨fun e => ?_, h.2⟩
  have h1 : (!(6 == 6 && x.k == 5)) = true := h.1
  rw [e] at h1; cases h1
theorem normL_app : ∀ a b : List Tm, normL (a ++ b) = (normL a && normL b)
  | [], _ => rfl
  | x :: a, b => by rw [List.cons_append, normL, normL, normL_app a b, Bool.and_assoc]
theorem rest_norm {b : Tm} (hb : okB b = true) (hk : b.k = 6) (h : normB b = true) : normB (restF b) = true := by
  obtain ⟨k, s, n, l⟩ := b
  have hk : k = 6 := hk
  subst hk
  obtain ⟨x, a, z, rfl, hx6, _⟩ := app_parts hb rfl
  rw [rest_app, apply_leaf hx6]
  obtain ⟨h5, hl⟩ := norm6_inv (x := x) (l := a ++ [z]) h
  rw [normL, normL_app] at hl
  simp only [Bool.and_eq_true] at hl
  split
  · exact hl.1
  · exact norm6 h5 (by rw [normL, hl.1, hl.2.1]; rfl)
mutual
theorem short_norm : ∀ t : Tm, okB t = true → normB t = true → normB (shortF t) = true
  | .mk k s n l, ho, hn => by
    have hnl : normL l = true := by rw [normB, Bool.and_eq_true] at hn; exact hn.2
    have hl := short_norms l (okB_l ho) hnl
    by_cases h5 : k = 5
    · subst h5
      obtain ⟨x, rfl, hx⟩ := okB5 ho rfl
      have hsx : normB (shortF x) = true := by simpa [shortL, normL] using hl
      have hox := (shortF_ok x hx).1
      rw [shortF, if_pos (show ((5 : Int) == 5) = true from rfl), show hd (shortL [x]) = shortF x from rfl]
      split
      · rename_i hd
        rw [dropF, if_pos hd, norm_shift]
        exact rest_norm hox (drop6 hd) hsx
      · rw [normB]; simp [normL, hsx, redexB, Tm.k]
    · by_cases h6 : k = 6
      · subst h6
        obtain ⟨x, y, r, rfl, hx6, hxl⟩ := okB6 ho rfl
        obtain ⟨hx5, _⟩ := norm6_inv hn
        have hx : shortF x = x := by
          obtain ⟨xk, xs, xn, xl⟩ := x
          have h5 : xk ≠ 5 := hx5
          have h6 : xk ≠ 6 := hx6
          rw [shortF, if_neg (by simpa using h5), if_neg (by simpa using h6)]
        rw [shortF, if_neg (by decide), if_pos (show ((6 : Int) == 6) = true from rfl)]
        rw [shortL, hx] at hl ⊢
        show normB (applyF x (shortL (y :: r))) = true
        rw [apply_leaf hx6, if_neg (by simp [shortL])]
        exact norm6 hx5 hl
      · rw [shortF, if_neg (by simpa using h5), if_neg (by simpa using h6)]; exact hn
theorem short_norms : ∀ l : List Tm, okL l = true → normL l = true → normL (shortL l) = true
  | [], _, _ => rfl
  | t :: l, ho, hn => by
    simp only [okL, normL, Bool.and_eq_true] at ho hn
    rw [shortL, normL, short_norm t ho.1 hn.1, short_norms l ho.2 hn.2]; rfl
end
/-! ### No looser -/
theorem maxI_le {a b c d : Int} (h1 : a ≤ c) (h2 : b ≤ d) : maxI a b ≤ maxI c d := by unfold maxI; (repeat' split) <;> omega
theorem looseR_ge (t : Tm) (k : Int) : 0 ≤ looseR t k := by
  obtain ⟨kd, s, n, l⟩ := t
  rw [looseR]
  split
  · exact maxI_ge _ _
  · split
    · exact looseRL_ge _ _
    · exact Int.le_refl _
theorem looseRL_app (d : Int) : ∀ a b : List Tm, looseRL (a ++ b) d = maxI (looseRL a d) (looseRL b d)
  | [], b => by
    have := looseRL_ge b d
    show looseRL b d = maxI 0 (looseRL b d)
    unfold maxI; rw [if_pos this]
  | x :: a, b => by rw [List.cons_append, looseRL, looseRL, looseRL_app d a b, maxI_assoc]
theorem loose6 {s : List UInt8} {n : Int} {l : List Tm} (d : Int) : looseR (.mk 6 s n l) d = looseRL l d := by
  rw [looseR, if_neg (by decide), if_pos (by rfl)]
  show looseRL l (d + 0) = _
  rw [Int.add_zero]
theorem loose5 {s : List UInt8} {n : Int} {x : Tm} (d : Int) : looseR (.mk 5 s n [x]) d = maxI (looseR x (d + 1)) 0 := by
  rw [looseR, if_neg (by decide), if_pos (by rfl)]; rfl
theorem loose_apply (f : Tm) (a : List Tm) (d : Int) : looseR (applyF f a) d ≤ maxI (looseR f d) (looseRL a d) := by
  match a with
  | [] => exact maxI_ge _ _
  | y :: r =>
    obtain ⟨k, s, n, l⟩ := f
    rw [apply_some]
    split
    · rename_i h
      have hk : k = 6 := by simpa using h.1
      subst hk
      rw [loose6, loose6, looseRL_app]; exact Int.le_refl _
    · rw [loose6]; exact Int.le_refl _
theorem rest_loose {b : Tm} (hb : okB b = true) (hk : b.k = 6) (d : Int) : looseR (restF b) d ≤ looseR b d := by
  obtain ⟨k, s, n, l⟩ := b
  have hk : k = 6 := hk
  subst hk
  obtain ⟨x, a, z, rfl, _⟩ := app_parts hb rfl
  rw [rest_app, loose6, looseRL_app]
  exact Int.le_trans (loose_apply x a d) (maxI_ge _ _)
mutual
theorem short_loose : ∀ (t : Tm) (d : Int), okB t = true → 0 ≤ d → looseR (shortF t) d ≤ looseR t d
  | .mk k s n l, d, ho, hd => by
    by_cases h5 : k = 5
    · subst h5
      obtain ⟨x, rfl, hx⟩ := okB5 ho rfl
      have hl := short_looses [x] (d + 1) (okB_l ho) (by omega)
      simp only [shortL, looseRL, maxI0 (looseR_ge _ _)] at hl
      have hox := (shortF_ok x hx).1
      rw [shortF, if_pos (show ((5 : Int) == 5) = true from rfl), show Go.AM.hd (shortL [x]) = shortF x from rfl, loose5]
      split
      · rename_i hd'
        rw [dropF, if_pos hd']
        have := loose_shift (restF (shortF x)) d 0 (drop0 hd') hd (Int.le_refl _)
        rw [Int.add_zero] at this
        rw [this]
        exact Int.le_trans (Int.le_trans (rest_loose hox (drop6 hd') (d + 1)) hl) (maxI_ge _ _)
      · rw [loose5]; exact maxI_le hl (Int.le_refl _)
    · by_cases h6 : k = 6
      · subst h6
        obtain ⟨x, y, r, rfl, hx6, _⟩ := okB6 ho rfl
        have hl := short_looses (x :: y :: r) d (okB_l ho) hd
        rw [shortF, if_neg (by decide), if_pos (show ((6 : Int) == 6) = true from rfl), loose6]
        exact Int.le_trans (loose_apply (shortF x) (shortL (y :: r)) d) hl
      · rw [shortF, if_neg (by simpa using h5), if_neg (by simpa using h6)]; exact Int.le_refl _
theorem short_looses : ∀ (l : List Tm) (d : Int), okL l = true → 0 ≤ d → looseRL (shortL l) d ≤ looseRL l d
  | [], _, _, _ => Int.le_refl _
  | t :: l, d, ho, hd => by
    simp only [okL, Bool.and_eq_true] at ho
    rw [shortL, looseRL, looseRL]
    exact maxI_le (short_loose t d ho.1 hd) (short_looses l d ho.2 hd)
end
theorem looseF0 (t : Tm) : looseF t 0 0 = looseR t 0 := by
  rw [loose_acc t 0 0 (Int.le_refl _)]
  have := looseR_ge t 0
  unfold maxI; rw [if_pos this]
/-! ### THE LAW: once -/
theorem c_etaonce (t : Tm) (htb : t.bk ≤ B) : AC Try.prog 12 [aT t] [] (cb true) [] := by
  have hs := Nat.le_trans t.sz_bk htb
  have ho := c_over9 t hs
  have v1 := c_valid t hs
  have k1 := okay60 (t := t)
  have c1 := c_eShort t
  have q := shortF_ok t
  have hn := c_bNormal t hs
  have z1 := c_size t hs
  have lo := c_loose t hs
  have vo := valid_ok t
  have vl := valid_lv (t := t)
  have tw := short_twice (t := t)
  have nn := short_norm t
  have ll := short_loose t 0
  have os := ok_size t
  have os' := ok_size (shortF t)
  have lf := looseF0 t
  generalize hvt : validB t = vt at *
  obtain ⟨tk, ts, tn, tl⟩ := t
  refine AC.vc hP sh lv12 (Nat.le_refl _) (by simp) (by simp) (Eq.mpr (v12 tk ts tn (FTs tl) _ _) ?_)
  refine ⟨_, c_works9, br_of (fun h => by cases h) (fun _ => ⟨_, ho, _, v1, br_of (fun _ => ret_b rfl) (fun g1 => br_of (fun _ => ret_b rfl) (fun g2 => ?_))⟩)⟩
  have e : vt = true := not_f g2
  subst e
  obtain ⟨q1, q2⟩ := k1 g1
  have hb : bd M61 (.mk tk ts tn tl) := bd_le (by simp only [M61]; omega) _ q2
  have hz : (Tm.mk tk ts tn tl).sz ≤ SZ := by simp only [SZ]; omega
  have c1 := c1 hz hb
  rw [if_pos rfl] at c1
  obtain ⟨f1, f2, f3, f4⟩ := q (vo rfl)
  have f4 := f4 M61 (by simp only [M61]; omega) hb
  have f2 := f2 (vl rfl)
  have vs : validB (shortF (.mk tk ts tn tl)) = true := by rw [valid_iff, f1, f2]; rfl
  have hsz : (shortF (.mk tk ts tn tl)).sz ≤ B := Nat.le_trans f3 hs
  have c2 := c_valid _ hsz
  have c3 := c_eShort (shortF (.mk tk ts tn tl)) (Nat.le_trans f3 hz) f4
  have c4 := c_bNormal _ hsz
  have c5 := c_size _ hsz
  have c6 := c_loose _ hsz (bd_le (by simp only [M61]; omega) _ f4)
  have lo := lo (bd_le (by simp only [M61]; omega) _ hb)
  rw [if_pos vs, tw (vo rfl)] at c3
  rw [vs] at c2 c4
  rw [os' f1] at c5
  rw [os (vo rfl)] at z1
  rw [lf] at lo
  rw [looseF0] at c6
  have ll := ll (vo rfl) (Int.le_refl _)
  refine ⟨_, c1, _, c2, _, c3, _, same_tt hsz rfl, _, hn, _, c4, br_of (fun _ => br_of (fun _ => ⟨_, c5, _, z1, br_of (fun _ => ⟨_, c6, _, lo, br_of (fun _ => br_of (fun _ => ret_b rfl) (fun h => br_of (fun _ => ret_b rfl) (fun h' => ?_))) (fun h => absurd ll (of_decide_eq_false h))⟩) (fun h => absurd (of_decide_eq_false h) (by omega))⟩) (fun h => absurd h (by decide))) (fun h => absurd h (by decide))⟩
  have h := not_f h
  rw [Bool.true_and] at h h'
  rw [nn (vo rfl) h] at h'; cases h'
end Go.AM

namespace Go.AM
open Go.ChangeShapes Go.WideShapes Go.ChangeAt Go.RowKit

section
variable {H : Type} {enc : TypeId × Value → H} {P : Program} {w : World}

/-- Nothing is shut out. -/
abbrev none1 : Nat → Prop := fun _ => False
/-- Whatever reads (with so much fuel) at type t is some F a, of size at most that of what was read. -/
def RdN (enc : TypeId × Value → H) (P : Program) (w : World) (b : DataW H → Nat) (fuel : Nat) (t : TypeId) {α : Type} (F : α → List FV) (sz : α → Nat) : Prop :=
  ∀ cs x, DataW.trod enc P w 0 (fun _ => true) true fuel t cs = some x → ∃ a, LRep (FRep w none1) (F a) cs ∧ sz a ≤ b x.1

theorem rd_int {b : DataW H → Nat} {t : TypeId} {k : IntKind} (ht : P.underlying t = some (.int k)) (hb : ∀ d, 1 ≤ b d) (fuel : Nat) : RdN enc P w b fuel t (fun n : Int => [.int k n]) (fun _ => 1) := by
  intro cs x h
  obtain ⟨n, rfl, rfl, _⟩ := DataW.trod_int ht h
  exact ⟨n, .cons (.int k n) .nil, hb _⟩
/-- A number within its kind. -/
def Num (k : IntKind) := { n : Int // (Lit.int k n).wf = true }
theorem rd_num {b : DataW H → Nat} {t : TypeId} {k : IntKind} (ht : P.underlying t = some (.int k)) (hb : ∀ d, 1 ≤ b d) (fuel : Nat) : RdN enc P w b fuel t (fun n : Num k => [.int k n.1]) (fun _ => 1) := by
  intro cs x h
  obtain ⟨n, rfl, rfl, hw⟩ := DataW.trod_int ht h
  exact ⟨⟨n, hw⟩, .cons (.int k n) .nil, hb _⟩
theorem rd_bool {b : DataW H → Nat} {t : TypeId} (ht : P.underlying t = some .bool) (hb : ∀ d, 1 ≤ b d) (fuel : Nat) : RdN enc P w b fuel t (fun n : Bool => [.bool n]) (fun _ => 1) := by
  intro cs x h
  obtain ⟨n, rfl, rfl⟩ := DataW.trod_bool ht h
  exact ⟨n, .cons (.bool n) .nil, hb _⟩
theorem rd_str {b : DataW H → Nat} {t : TypeId} (ht : P.underlying t = some .string) (hb : ∀ l : List UInt8, l.length + 1 ≤ b (.lit (.string l))) (fuel : Nat) : RdN enc P w b fuel t (fun l : List UInt8 => [.str l]) (fun l => l.length + 1) := by
  intro cs x h
  obtain ⟨s, rfl, rfl, _⟩ := DataW.trod_string ht h
  refine ⟨s.data.toList, .cons ?_ .nil, hb _⟩
  have : (⟨s.data.toList.toArray⟩ : ByteArray) = s := by simp
  have h2 := FRep.str (w := w) (X := none1) s.data.toList
  rw [this] at h2
  exact h2

def sumBy {α : Type} (sz : α → Nat) : List α → Nat
  | [] => 0
  | a :: l => sz a + sumBy sz l
theorem sumBy_mem {α : Type} {sz : α → Nat} : ∀ {l : List α} {a : α}, a ∈ l → sz a ≤ sumBy sz l
  | x :: l, a, h => by
    rcases List.mem_cons.1 h with rfl | h
    · simp [sumBy]
    · have := sumBy_mem (sz := sz) h; simp only [sumBy]; omega
theorem sumBy_length {α : Type} {sz : α → Nat} (h : ∀ a, 1 ≤ sz a) : ∀ l : List α, l.length ≤ sumBy sz l
  | [] => Nat.le_refl _
  | a :: l => by have := sumBy_length h l; have := h a; simp only [sumBy, List.length_cons]; omega

theorem choose_list {α β : Type} {R : α → β → Prop} : ∀ {l : List β}, (∀ (i : Nat) (y : β), l[i]? = some y → ∃ x, R x y) → ∃ xs : List α, xs.length = l.length ∧ ∀ (i : Nat) (x : α) (y : β), xs[i]? = some x → l[i]? = some y → R x y
  | [], _ => ⟨[], rfl, fun i x y h => by simp at h⟩
  | y :: l, h => by
    obtain ⟨x, hx⟩ := h 0 y rfl
    obtain ⟨xs, h1, h2⟩ := choose_list (l := l) fun i y' hy => h (i + 1) y' (by simpa using hy)
    refine ⟨x :: xs, by simp [h1], fun i x' y' hx' hy' => ?_⟩
    cases i with
    | zero => simp at hx' hy'; subst hx'; subst hy'; exact hx
    | succ i => exact h2 i x' y' (by simpa using hx') (by simpa using hy')

theorem sum_le {α : Type} {sz : α → Nat} {b : DataW H → Nat} {bs : List (DataW H) → Nat} (hbs : ∀ d l, bs (d :: l) = b d + bs l) : ∀ {xs : List α} {es : List (DataW H × List MemPlace)}, xs.length = es.length → (∀ (i : Nat) (x : α) (y : DataW H × List MemPlace), xs[i]? = some x → es[i]? = some y → sz x ≤ b y.1) → sumBy sz xs ≤ bs (es.map (·.1))
  | [], _, _, _ => by simp [sumBy]
  | x :: xs, [], h, _ => by simp at h
  | x :: xs, e :: es, h, hr => by
    have h1 := hr 0 x e rfl rfl
    have h2 := sum_le (sz := sz) hbs (xs := xs) (es := es) (by simpa using h) fun i x y hx hy => hr (i + 1) x y (by simpa using hx) (by simpa using hy)
    simp only [sumBy, List.map_cons, hbs]
    omega

theorem cells_get {a : Addr} {n : Nat} {cs : List Value} (h : w.cells? 0 a n = some cs) : cs.length = n ∧ ∀ j u, cs[j]? = some u → w.cell? (a.add j) = some u := by
  unfold World.cells? at h
  rw [if_pos (Nat.zero_le _)] at h
  refine ⟨by have := mapM_some_length h; simpa using this, fun j u hu => ?_⟩
  have hj : j < n := by
    have h1 := (List.getElem?_eq_some_iff.1 hu).1
    have := mapM_some_length h; simp at this; omega
  have := mapM_some_get h j j (by simp [hj])
  rw [this, hu]

theorem cell_lt {b off : Nat} {u : Value} (h : w.cell? ⟨b, off, none⟩ = some u) : b < w.heap.size := by
  apply Decidable.byContradiction
  intro hn
  have : w.heap[b]? = none := by simp; omega
  simp [World.cell?, this] at h

theorem cell_spot {a : Addr} {u : Value} (h : w.cell? a = some u) : a.spot = none := by
  unfold World.cell? at h
  split at h
  · split at h
    · cases h
    · rename_i hs; simpa using hs
  · cases h
theorem cell_blk {a : Addr} {u : Value} (h : w.cell? a = some u) : a.block < w.heap.size := by
  apply Decidable.byContradiction
  intro hn
  have : w.heap[a.block]? = none := by simp; omega
  simp [World.cell?, this] at h

theorem add_zero (a : Addr) : a.add 0 = a := rfl
theorem add_none (b o k : Nat) : (Addr.mk b o none).add k = ⟨b, o + k, none⟩ := by
  unfold Addr.add
  split
  · rename_i h; rw [h]; rfl
  · rfl
/-- Slices. -/
theorem rd_slice {b : DataW H → Nat} {bs : List (DataW H) → Nat} (hbs : ∀ d l, bs (d :: l) = b d + bs l) (hb0 : ∀ d, 1 ≤ b d) (hb : ∀ es sp, bs es + 1 ≤ b (.slice es sp)) {t e : TypeId} (ht : P.underlying t = some (.slice e)) {n : Nat} (hn : P.cellsOf e = n) (hn0 : 0 < n)
    {α : Type} {F : α → List FV} {sz : α → Nat} (hF : ∀ a, (F a).length = n) {fuel : Nat} (ih : ∀ k, k < fuel → RdN enc P w b k e F sz) : RdN enc P w b fuel t (fun l : List α => [.sl false n (l.map F)]) (fun l => sumBy sz l + 1) := by
  intro cs x h
  rcases DataW.trod_slice ht h with ⟨rfl, rfl⟩ | ⟨a, len, cap, elems, rest, k, rfl, rfl, rfl, _, hlc, _, hlen, hel, hrest, _⟩
  · exact ⟨[], .cons (.slnil n) .nil, by simpa [sumBy] using hb0 _⟩
  · rw [hn] at hel
    have key : ∀ (i : Nat) (y : DataW H × List MemPlace), elems[i]? = some y → ∃ x : α, (∃ cs, w.cells? 0 (a.add (i * n)) n = some cs ∧ LRep (FRep w none1) (F x) cs) ∧ sz x ≤ b y.1 := by
      intro i y hy
      have hi : i < len := by rw [← hlen]; exact (List.getElem?_eq_some_iff.1 hy).1
      have h1 := hel i hi
      rw [hy] at h1
      obtain ⟨cs, h2, h3⟩ := Option.bind_eq_some_iff.1 h1
      obtain ⟨x, h4, h5⟩ := ih k (Nat.lt_succ_self _) cs y h3
      exact ⟨x, ⟨cs, h2, h4⟩, h5⟩
    -- the element at i, with its place
    have key2 : ∃ xs : List α, xs.length = elems.length ∧ ∀ (i : Nat) (x : α), xs[i]? = some x → (∃ cs, w.cells? 0 (a.add (i * n)) n = some cs ∧ LRep (FRep w none1) (F x) cs) ∧ ∀ y, elems[i]? = some y → sz x ≤ b y.1 := by
      have : ∀ (l : List (DataW H × List MemPlace)) (o : Nat), (∀ i, l[i]? = elems[o + i]?) → ∃ xs : List α, xs.length = l.length ∧ ∀ (i : Nat) (x : α), xs[i]? = some x → (∃ cs, w.cells? 0 (a.add ((o + i) * n)) n = some cs ∧ LRep (FRep w none1) (F x) cs) ∧ ∀ y, l[i]? = some y → sz x ≤ b y.1 := by
        intro l
        induction l with
        | nil => exact fun o _ => ⟨[], rfl, fun i x h => by simp at h⟩
        | cons y l ih =>
          intro o ho
          obtain ⟨x, hx1, hx2⟩ := key o y (by have := ho 0; simpa using this.symm)
          obtain ⟨xs, h1, h2⟩ := ih (o + 1) (fun i => by have := ho (i + 1); rw [show o + 1 + i = o + (i + 1) by omega]; simpa using this)
          refine ⟨x :: xs, by simp [h1], fun i x' hx' => ?_⟩
          cases i with
          | zero => simp at hx'; subst hx'; exact ⟨by simpa using hx1, fun y' hy' => by simp at hy'; subst hy'; exact hx2⟩
          | succ i =>
            have := h2 i x' (by simpa using hx')
            rw [show o + 1 + i = o + (i + 1) by omega] at this
            exact ⟨this.1, fun y' hy' => this.2 y' (by simpa using hy')⟩
      obtain ⟨xs, h1, h2⟩ := this elems 0 (fun i => by simp)
      exact ⟨xs, h1, fun i x hx => by simpa using h2 i x hx⟩
    obtain ⟨xs, hxl, hx⟩ := key2
    have hsum := sum_le (sz := sz) (b := b) hbs hxl (fun i x y h1 h2 => (hx i x h1).2 y h2)
    have hb' := hb (elems.map (·.1)) (rest.map (·.1))
    refine ⟨xs, ?_, show sumBy sz xs + 1 ≤ b (.slice (elems.map (·.1)) (rest.map (·.1))) by omega⟩
    by_cases hc0 : cap = 0
    · have h0 : len = 0 := by omega
      subst hc0; subst h0
      have : xs = [] := List.length_eq_zero_iff.1 (by omega)
      subst this
      exact .cons (.sl0 false n a) .nil
    · have hone : ∃ cs, w.cells? 0 a n = some cs := by
        by_cases h0 : len = 0
        · have hr := (hrest rfl).2 0 (by omega)
          have hr' : rest[0]? ≠ none := by
            rw [List.getElem?_eq_getElem (by rw [(hrest rfl).1]; omega)]; simp
          rw [hn] at hr
          rw [h0, show (0 + 0) * n = 0 by simp, add_zero] at hr
          cases hcl : w.cells? 0 a n with
          | none => rw [hcl] at hr; exact absurd hr.symm hr'
          | some cs => exact ⟨cs, rfl⟩
        · have : 0 < xs.length := by omega
          obtain ⟨⟨cs, h1, _⟩, _⟩ := hx 0 xs[0] (by simp [this])
          rw [show 0 * n = 0 by simp, add_zero] at h1
          exact ⟨cs, h1⟩
      obtain ⟨cs0, hq⟩ := hone
      obtain ⟨hl0, hq'⟩ := cells_get hq
      have hq0 := hq' 0 (cs0[0]'(by omega)) (by simp)
      rw [add_zero] at hq0
      have hsp : a.spot = none := cell_spot hq0
      have hbl : a.block < w.heap.size := cell_blk hq0
      obtain ⟨blk, off, sp⟩ := a
      have hsp : sp = none := hsp
      subst hsp
      refine .cons (.sl false n (xs.map F) blk off cap len (fun i j => (w.cell? ⟨blk, off + i * n + j, none⟩).getD (.bool false)) (by rw [List.length_map]; omega) (by rw [List.length_map]; omega) (fun h => h) hbl (fun i e he => ?_) (fun i j e f he hf => ?_) (fun i j e f he hf => ?_)) .nil
      · rw [List.getElem?_map] at he
        obtain ⟨x, _, rfl⟩ := Option.map_eq_some_iff.1 he
        exact hF x
      all_goals
        rw [List.getElem?_map] at he
        obtain ⟨x, hxi, rfl⟩ := Option.map_eq_some_iff.1 he
        obtain ⟨⟨cs, h1, h2⟩, _⟩ := hx i x hxi
        obtain ⟨h3, h4⟩ := cells_get h1
        have hj : j < cs.length := by rw [← h2.1]; exact (List.getElem?_eq_some_iff.1 hf).1
        have h5 := h4 j cs[j] (by simp)
        rw [add_none, add_none] at h5
      · rw [h5]; rfl
      · rw [h5]
        exact h2.2 j f cs[j] hf (by simp)

/-- Terms. -/
theorem FT_sum : ∀ l : List Tm, Tm.bks l = sumBy Tm.bk l
  | [] => rfl
  | t :: l => by rw [Tm.bks, sumBy, FT_sum l]
/-- How a term lies. -/
structure TmTy (P : Program) (T : TypeId) (f0 f1 f2 f3 : Field) : Prop where
  str : P.underlying T = some (.struct #[f0, f1, f2, f3])
  u0 : P.underlying f0.type = some (.int .i64)
  u1 : P.underlying f1.type = some .string
  u2 : P.underlying f2.type = some (.int .i64)
  u3 : P.underlying f3.type = some (.slice T)
  o0 : f0.offset = 0
  o1 : f1.offset = 1
  o2 : f2.offset = 2
  o3 : f3.offset = 3
  c0 : P.cellsOf f0.type = 1
  c1 : P.cellsOf f1.type = 1
  c2 : P.cellsOf f2.type = 1
  c3 : P.cellsOf f3.type = 1
  cT : P.cellsOf T = 4
/-- How much a reading holds. -/
structure Bulk (b : DataW H → Nat) (bs : List (DataW H) → Nat) : Prop where
  nil : bs [] = 0
  cons : ∀ d l, bs (d :: l) = b d + bs l
  one : ∀ d, 1 ≤ b d
  slice : ∀ es sp, bs es + 1 ≤ b (.slice es sp)
  str : ∀ l : List UInt8, l.length + 1 ≤ b (.lit (.string l))
  agg : ∀ l, bs l + 1 ≤ b (.agg l)
theorem LRep.one {α : Type} {R : α → Value → Prop} {c : α} {u : Value} (h : LRep R [c] [u]) : R c u := h.2 0 c u rfl rfl
theorem rd_term {b : DataW H → Nat} {bs : List (DataW H) → Nat} (hb : Bulk b bs) {T : TypeId} {f0 f1 f2 f3 : Field} (hT : TmTy P T f0 f1 f2 f3) : ∀ fuel, RdN enc P w b fuel T FT Tm.bk := by
  intro fuel
  induction fuel using Nat.strongRecOn with
  | _ fuel ih =>
    intro cs x h
    obtain ⟨xs, n, rfl, rfl, hl, hxl, hf⟩ := DataW.trod_struct hT.str h
    rw [hT.cT] at hl
    match cs, hl with
    | [v0, v1, v2, v3], _ =>
    match xs, hxl with
    | [x0, x1, x2, x3], _ =>
    have g0 := hf 0 f0 rfl
    have g1 := hf 1 f1 rfl
    have g2 := hf 2 f2 rfl
    have g3 := hf 3 f3 rfl
    rw [hT.o0, hT.c0] at g0
    rw [hT.o1, hT.c1] at g1
    rw [hT.o2, hT.c2] at g2
    rw [hT.o3, hT.c3] at g3
    obtain ⟨k, r0, _⟩ := rd_int (b := b) hT.u0 hb.one n _ _ g0
    obtain ⟨s, r1, z1⟩ := rd_str (b := b) hT.u1 hb.str n _ _ g1
    have z1 : s.length + 1 ≤ b x1.1 := z1
    obtain ⟨m, r2, _⟩ := rd_int (b := b) hT.u2 hb.one n _ _ g2
    obtain ⟨l, r3, z3⟩ := rd_slice (F := FT) (sz := Tm.bk) hb.cons hb.one hb.slice hT.u3 hT.cT (by omega) FT_length (fun k hk => ih k (by omega)) _ _ g3
    have z3 : sumBy Tm.bk l + 1 ≤ b x3.1 := z3
    refine ⟨.mk k s m l, ?_, ?_⟩
    · rw [FT, FTs_map]
      exact .cons (LRep.one r0) (.cons (LRep.one r1) (.cons (LRep.one r2) (.cons (LRep.one r3) .nil)))
    · have := hb.one x0.1
      simp only [Tm.bk, FT_sum]
      show _ ≤ b (.agg [x0.1, x1.1, x2.1, x3.1])
      have h9 := hb.agg [x0.1, x1.1, x2.1, x3.1]
      simp only [hb.cons, hb.nil] at h9
      omega

/-! ### Arguments -/
theorem none_own {Y : Nat → Prop} (hY : ∀ b, ¬ Y b) {Hs : List AObj} : (fun b => Y b ∨ Own (fun o => Hs.getD o .gone) (fun _ => none) b) = none1 := by
  funext b
  refine propext ⟨fun h => ?_, fun h => h.elim⟩
  rcases h with h | ⟨o, _, h⟩
  · exact (hY b h).elim
  · cases h
abbrev β0 : Nat → Option Nat := fun _ => none
theorem open_term {b : DataW H → Nat} {bs : List (DataW H) → Nat} (hb : Bulk b bs) {T : TypeId} {f0 f1 f2 f3 : Field} (hT : TmTy P T f0 f1 f2 f3) {r : Reach} {base : Nat} {v : Value} {d : DataW H} {ps : List MemPlace}
    (hv : Value.okWide P w r base T v) (hd : DataW.Trod enc P w 0 (fun _ => true) true T v d ps) : ∃ t : Tm, TRep w none1 β0 (aT t) v ∧ t.bk ≤ b d := by
  obtain ⟨cs, rfl, _⟩ := okWide_struct hT.str hv
  obtain ⟨fuel, hf⟩ := hd
  obtain ⟨t, h1, h2⟩ := rd_term hb hT fuel _ _ hf
  refine ⟨t, ⟨cs.toList, by simp, ?_⟩, h2⟩
  rw [FT_eta] at h1
  have h1 : LRep (FRep w none1) [.int .i64 t.k, .str t.s, .int .i64 t.n, .sl false 4 (FTs t.l)] cs.toList := h1
  exact h1.map (g := fun x => WV.a (.fz x)) fun c u _ h => .a _ _ (.fz _ _ h)
theorem open_terms {b : DataW H → Nat} {bs : List (DataW H) → Nat} (hb : Bulk b bs) {T S : TypeId} {f0 f1 f2 f3 : Field} (hT : TmTy P T f0 f1 f2 f3) (hS : P.underlying S = some (.slice T)) {r : Reach} {base : Nat} {v : Value} {d : DataW H} {ps : List MemPlace}
    (hv : Value.okWide P w r base S v) (hd : DataW.Trod enc P w 0 (fun _ => true) true S v d ps) : ∃ l : List Tm, TRep w none1 β0 (aL l) v ∧ Tm.bks l + 1 ≤ b d := by
  obtain ⟨a, len, cap, rfl⟩ := okWide_slice hS hv
  obtain ⟨fuel, hf⟩ := hd
  obtain ⟨l, h1, h2⟩ := rd_slice (F := FT) (sz := Tm.bk) hb.cons hb.one hb.slice hS hT.cT (by omega) FT_length (fun k _ => rd_term hb hT k) _ _ hf
  have h2 : sumBy Tm.bk l + 1 ≤ b d := h2
  rw [← FT_sum] at h2
  have h1 : LRep (FRep w none1) [.sl false 4 (l.map FT)] [_] := h1
  rw [← FTs_map] at h1
  exact ⟨l, .a _ _ (.fz _ _ h1.one), h2⟩
theorem open_num {t : TypeId} {k : IntKind} (ht : P.underlying t = some (.int k)) {r : Reach} {base : Nat} {v : Value} {d : DataW H} {ps : List MemPlace}
    (hv : Value.okWide P w r base t v) (hd : DataW.Trod enc P w 0 (fun _ => true) true t v d ps) : ∃ n : Int, TRep w none1 β0 (.c (.a (.fz (.int k n)))) v ∧ (Lit.int k n).wf = true := by
  obtain ⟨n, rfl, _, _, hw⟩ := open_int ht hv hd
  exact ⟨n, .a _ _ (.fz _ _ (.int k n)), hw⟩
theorem open_str {t : TypeId} (ht : P.underlying t = some .string) {b : DataW H → Nat} {bs : List (DataW H) → Nat} (hb : Bulk b bs) {r : Reach} {base : Nat} {v : Value} {d : DataW H} {ps : List MemPlace}
    (hv : Value.okWide P w r base t v) (hd : DataW.Trod enc P w 0 (fun _ => true) true t v d ps) : ∃ s : List UInt8, TRep w none1 β0 (cs s) v ∧ s.length + 1 ≤ b d := by
  obtain ⟨s, rfl⟩ := okWide_string ht hv
  obtain ⟨fuel, hf⟩ := hd
  obtain ⟨l, h1, h2⟩ := rd_str (b := b) ht hb.str fuel _ _ hf
  exact ⟨l, .a _ _ (.fz _ _ h1.one), h2⟩

/-! ### The end -/
theorem kept_good {w' : World} {foot : Nat → Prop} (g : Good w foot w') (hf : ∀ b, ¬ foot b) (may : MemPlace → Prop) : w.keptBut w' may := by
  refine ⟨g.os, g.output, fun i hi => ?_⟩
  rw [g.blk i hi (hf i)]
  exact (World.keptBut_refl w may).2.2 i hi
theorem same_good {w' : World} {foot : Nat → Prop} (g : Good w foot w') (hf : ∀ b, ¬ foot b) {p : MemPlace} (hp : p.block < w.heap.size) : w.sameAt w' p := by
  cases p with
  | cell b o => exact World.cell?_of_block (a := ⟨b, o, none⟩) (g.blk b hp (hf b))
  | map b => exact g.blk b hp (hf b)
theorem trodAll_stays (hl : laidOutB P = true) {w' : World} {sp : Nat → Bool} : ∀ {ts : List TypeId} {vs : List Value} {ds : List (DataW H)} {p : List MemPlace}, DataW.TrodAll enc P w 0 (fun _ => true) true ts vs ds p →
    (∀ t ∈ ts, P.readableRec t = true ∧ t < P.types.size) → (∀ x ∈ p, w.sameAt w' x) → (∀ x ∈ p, sp x.block = true) → DataW.TrodAll enc P w' 0 sp true ts vs ds p
  | [], _, _, _, h, _, _, _ => by
    obtain ⟨rfl, rfl, rfl⟩ := trodAll_nil h
    exact trodAll_mk0
  | t :: ts, _, _, _, h, ht, hs, hsp => by
    obtain ⟨v, vs', d, ds', p, q, rfl, rfl, rfl, ⟨n, h1⟩, h2⟩ := trodAll_cons h
    have hr := (ht t List.mem_cons_self).1
    exact ⟨p, q, ⟨n, DataW.trod_stays (kids_book hl hr) (book_sized hr) (fun h => by cases h) ⟨(ht t List.mem_cons_self).2, book_self t⟩ h1 (fun x hx => hs x (List.mem_append_left _ hx)) (fun x hx => hsp x (List.mem_append_left _ hx))⟩,
      trodAll_stays hl h2 (fun u hu => ht u (List.mem_cons_of_mem _ hu)) (fun x hx => hs x (List.mem_append_right _ hx)) (fun x hx => hsp x (List.mem_append_right _ hx)), rfl⟩
/-- A law's end: it returns true, and what was read reads as before. -/
theorem post_good (hl : laidOutB P = true) {f : Func} {s : ChangeSpec} {apart fresh handsOn again : Bool} {w' : World} {args : Array Value} {ds gs : List (DataW H)} {before : List MemPlace} {foot : Nat → Prop} {tb : TypeId}
    (hW : DataW.Whole enc P f.params.toList s.vars apart w args.toList ds gs before) (hv : s.vars = []) (hs : ∀ ds' : List (DataW H), ds'.length = ds.length → s.fn H ds' = { results := [.lit (.bool true)], args := ds' })
    (ht : ∀ t ∈ f.params.toList, P.readableRec t = true ∧ t < P.types.size) (hr : f.resultTypes = #[tb]) (hb : P.underlying tb = some .bool) (g : Good w foot w') (hf : ∀ b, ¬ foot b) :
    s.post enc P f apart fresh handsOn again w args (.bool true) w' := by
  have hlt := hW.lt
  obtain ⟨p, q, h1, h2, he, hz, hn⟩ := hW
  rw [hv] at h2
  obtain ⟨rfl, rfl⟩ := trodVars_none h2
  rw [List.append_nil] at he
  subst he
  have hold : ∀ x ∈ before, (fun b => decide (b < w.heap.size)) x.block = true := fun x hx => by simpa using hlt x hx
  have hfn := hs (ds ++ []) (by simp)
  have hargs : ∀ sp : Nat → Bool, (∀ x ∈ before, sp x.block = true) → DataW.TrodAll enc P w' 0 sp true f.params.toList args.toList (s.fn H (ds ++ [])).args before := fun sp hsp => by
    rw [hfn, List.append_nil]
    exact trodAll_stays hl h1 ht (fun x hx => same_good g hf (hlt x hx)) hsp
  have hres : ∀ (b : Nat) (sp : Nat → Bool) (hd : Bool), DataW.TrodAll enc P w' b sp hd f.resultTypes.toList ((Value.bool true).resultList f.resultTypes.size) (s.fn H (ds ++ [])).results [] := fun b sp hd => by
    rw [hfn, hr]
    exact trodAll_mk1 ⟨1, by simp [DataW.trod, Value.cells, hb]⟩
  have hvars : ∀ sp : Nat → Bool, DataW.TrodVars enc P w' sp s.vars (s.fn H (ds ++ [])).vars [] := fun sp => by
    rw [hfn, hv]
    rfl
  refine ⟨ds, [], before, [], before, [], ⟨before, [], h1, by rw [hv]; rfl, by simp, hz, hn⟩, hres _ _ _, hargs _ hold, hvars _, World.keptBut_mono (fun x hx => ⟨hx, ?_⟩) (kept_good g hf (· ∈ before)), fun _ => ?_⟩
  · simpa using hx
  · refine ⟨ok_one hr rfl (okWide_bool_mk hb _), _, _, ([] ++ before) ++ [], ⟨[] ++ before, [], trodAll_append (hargs _ (fun _ _ => rfl)) (hres _ _ _), hvars _, rfl, ?_, ?_⟩, ?_⟩
    · intro b off hp
      have hp : MemPlace.cell b off ∈ before := by simpa using hp
      have hb := hlt _ hp
      have : w'.frozen? ⟨b, off, none⟩ = w.frozen? ⟨b, off, none⟩ := by
        unfold World.frozen?
        rw [g.blk b hb (hf b)]
      rw [this]
      exact hz b off hp
    · intro ha
      simpa using hn ha
    · intro x hx _
      simpa using hx
/-- A contract that a law's function answers: true. -/
theorem law_true {f : FuncId} {args : List TV} (h : AC P f args [] (cb true) []) {vals : List Value} (hv : LRep (TRep w none1 β0) args vals) :
    Calls P f vals.toArray w fun e w' => e = .returned (.bool true) ∧ ∃ foot, (∀ b, ¬ foot b) ∧ Good w foot w' := by
  have hX : (fun b => (fun _ : Nat => False) b ∨ Own (fun o => ([] : List AObj).getD o .gone) β0 b) = none1 := none_own (fun _ h => h)
  refine (h.2.2 w vals β0 (fun _ => False) (fun o b h => by cases h) (fun b h => h.elim) ⟨fun o b h _ => by simp [isLive] at h, fun o h => by simp [isLive] at h, fun o o' b h => by simp [isLive] at h, fun o b h => by cases h⟩ (by rw [hX]; exact hv)).mono fun e w' ⟨v, β', h1, h2, h3, h4, _⟩ => ?_
  subst h1
  cases h4 with
  | a _ _ h4 =>
    cases h4 with
    | fz _ _ h4 =>
      cases h4
      exact ⟨rfl, _, fun b ⟨o, h5, _⟩ => by simp [isLive] at h5, h2⟩
end
end Go.AM

set_option maxRecDepth 100000
open Go Go.Proofs
namespace Go.Proofs.Ytclicclinfnmlaa.base
open Go.ChangeShapes Go.WideShapes Go.ChangeAt Go.RowKit Go.AM

theorem one_le {H : Type} (d : DataW H) : 1 ≤ Rows.uptoBulk d := by
  cases d with
  | lit l => cases l <;> simp [Rows.uptoBulk]
  | _ => simp [Rows.uptoBulk]
theorem bulk {H : Type} : Bulk (H := H) Rows.uptoBulk Rows.uptoBulkAll :=
  ⟨rfl, fun _ _ => rfl, one_le, fun es sp => by simp only [Rows.uptoBulk]; omega, fun l => by simp [Rows.uptoBulk], fun l => by simp [Rows.uptoBulk]⟩
theorem own : ownKnob Try.prog.godebug = none := by kernel_rfl
theorem laidOut : laidOutB Try.prog = true := by kernel_rfl
theorem tmTy : ∃ f0 f1 f2 f3 : Field, TmTy Try.prog 25 f0 f1 f2 f3 :=
  ⟨_, _, _, _, Try.underlying25, Try.underlying22, Try.underlying9, Try.underlying3, Try.underlying23, rfl, rfl, rfl, rfl, by kernel_rfl, by kernel_rfl, by kernel_rfl, by kernel_rfl, by kernel_rfl⟩
theorem rec25 : Try.prog.readableRec 25 = true := by kernel_rfl
theorem rec23 : Try.prog.readableRec 23 = true := by kernel_rfl
theorem rec3 : Try.prog.readableRec 3 = true := by kernel_rfl
theorem types_lt : 25 < Try.prog.types.size := of_decide_eq_true (by kernel_rfl)
theorem num_range {n : Int} (h : (Lit.int .i64 n).wf = true) : -9223372036854775808 ≤ n ∧ n ≤ 9223372036854775807 := by
  simp only [Lit.wf, IntKind.min, IntKind.max, IntKind.signed, IntKind.bits, Bool.and_eq_true, decide_eq_true_eq, if_true] at h; omega
theorem upto {H : Type} {l : List (DataW H)} (hk : Rows.uptoSmall H l = true) : Rows.uptoBulkAll l ≤ 1048576 := of_decide_eq_true hk
end Go.Proofs.Ytclicclinfnmlaa.base
