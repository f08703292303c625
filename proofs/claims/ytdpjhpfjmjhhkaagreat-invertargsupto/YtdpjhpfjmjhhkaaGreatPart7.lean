/- A calculus of plain values for the model's code, what the code of each function asks (computed by the kernel), contracts of the functions, and plain laws (part 7). No conditions. -/
import Derived.Test.YtdpjhpfjmjhhkaaGreatPart6
set_option maxRecDepth 100000
open Go Go.Proofs
namespace Go.AM

/-! ### Whether arguments are a pattern -/
theorem l_rsameall (l0 : List Tm) (hl0 : l0.length ≤ B) : ∀ (b a : List Tm), l0 = a ++ b → (∀ t ∈ b, t.sz ≤ B) → RPt Tryz.prog 15 0 (cb true) [] 1 ⟨[(0, aL l0), (1, aL l0), (5, ci (a.length : Int))], [], 0⟩
  | [], a, hl, _ => by
    rw [List.append_nil] at hl
    subst hl
    refine RPt.vc hP sh lv15 (Eq.mpr (v15_1a ..) ?_)
    exact ⟨rfl, br_of (fun h => absurd (of_decide_eq_true h) (by rw [FTs_length]; omega)) (fun _ => ret_b rfl)⟩
  | t :: b, a, hl, hb => by
    have next := l_rsameall l0 hl0 b (a ++ [t]) (by rw [hl]; simp) (fun u hu => hb u (List.mem_cons_of_mem _ hu))
    subst hl
    have h3 := ltI' a t b
    have em := rE_mid a t b
    simp only [List.length_append, List.length_cons, B] at hl0
    rw [show (((a ++ [t]).length : Nat) : Int) = (a.length : Int) + 1 by simp] at next
    refine RPt.vc hP sh lv15 (Eq.mpr (v15_1a ..) ?_)
    rw [aE_mid, w64 (x := (a.length : Int) + 1) (by omega) (by omega)]
    have op : FV.isSl 4 (.sl false 4 (FTs (a ++ t :: b))) = true ∧ ((0 : Int) ≤ (a.length : Int) ∧ (((a.length : Int) < (((FTs (a ++ t :: b)).length : Nat) : Int)) ∧ ((rE (List.getD (FTs (a ++ t :: b)) (Int.toNat (a.length : Int)) []) : List FV) = List.getD (FTs (a ++ t :: b)) (Int.toNat (a.length : Int)) []))) := ⟨rfl, by omega, h3, em⟩
    exact ⟨rfl, br_of (fun _ => ⟨op, op, _, same_is (hb t List.mem_cons_self) rfl, br_of (fun h => by cases h) (fun _ => next)⟩) (fun h => absurd h3 (of_decide_eq_false h))⟩
theorem c_rsameall (l : List Tm) (hl0 : l.length ≤ B) (hb : ∀ t ∈ l, t.sz ≤ B) : AC Tryz.prog 15 [aL l, aL l] [] (cb true) [] := by
  refine AC.vc hP sh lv15 (Nat.le_refl _) (by simp) (by simp) (Eq.mpr (v15 ..) ?_)
  exact ⟨rfl, rfl, br_of (fun h => absurd h (by simp)) (fun _ => l_rsameall l hl0 l [] rfl hb)⟩
theorem l_known16 (s : Sto) (hV : s.V.length ≤ 1073741824) (hz : ∀ i ∈ s.V, i.v.sz ≤ B) : ∀ (n i : Nat), i + n = s.V.length → RPt Tryz.prog 16 6 (cb true) (oS2 s s) 1 ⟨[(0, aS 0), (1, aS 3), (5, ci (i : Int))], hpS2 s s, 6⟩
  | 0, i, hi => by
    refine RPt.vc hP sh lv16 (Eq.mpr (v16_1a ..) ?_)
    exact br_of (fun h => absurd (of_decide_eq_true h) (by omega)) (fun _ => ⟨.refl _, rfl⟩)
  | n + 1, i, hi => by
    have next := l_known16 s hV hz n (i + 1) (by omega)
    have hlt : (i : Int) < (s.V.length : Int) := by omega
    obtain ⟨g1, g2⟩ := SR_in (s := s) (x := (i : Int)) (by omega) hlt
    have hI := c_sinfo s (i : Int)
    have hin : inB s.V (i : Int) = true := by rw [inB, decide_eq_true (by omega), decide_eq_true hlt]; rfl
    obtain ⟨hl, ei⟩ := infOf_in (V := s.V) (x := (i : Int)) (by omega) hlt
    have hz := hz _ (List.getElem_mem hl)
    rw [← ei] at hz
    rw [show (((i + 1 : Nat) : Int)) = (i : Int) + 1 by omega] at next
    rw [hin] at hI
    refine RPt.vc hP sh lv16 (Eq.mpr (v16_1a ..) ?_)
    rw [g1, w64 (x := (i : Int) + 1) (by omega) (by omega)]
    generalize infOf s.V (i : Int) = e at *
    have hS := c_sameinf e e hz rfl
    obtain ⟨elv, ebd, ⟨ek, es, en, el⟩⟩ := e
    refine br_of (fun _ => ⟨(elv, ebd, .mk ek es en el, true), hI, ⟨by omega, hlt⟩, ⟨g2, rfl, rfl⟩, _, hS, br_of (fun h => by cases h) (fun _ => br_of (fun h => by cases h) (fun _ => next))⟩) (fun h => absurd hlt (of_decide_eq_false h))
theorem c_known16 (s : Sto) (hV : s.V.length ≤ 1073741824) (hz : ∀ i ∈ s.V, i.v.sz ≤ B) : AC Tryz.prog 16 [aS 0, aS 3] (oS2 s s) (cb true) (oS2 s s) := by
  refine AC.vc hP sh lv16 (Nat.le_refl _) (by simp [isLive]) (by simp) (Eq.mpr (v16 ..) ?_)
  refine ⟨_, c_slen s, br_of (fun h => absurd h (by simp)) (fun _ => ⟨_, _, c_smark s, br_of (fun h => absurd h (by simp)) (fun _ => ?_)⟩)⟩
  exact l_known16 s hV hz s.V.length 0 (by omega)
theorem fit24 {f : Int} {t : Tm} {n : Nat} (hf : f.toNat ≤ n) (hn : n ≤ 2000) (hv : validB t = true) (hz : t.sz ≤ 24) (hb : bd 1000 t) : Fit f.toNat t := by
  have h1 : 4200 * f.toNat ≤ 4200 * n := Nat.mul_le_mul_left _ hf
  refine ⟨valid_ok _ hv, by simp only [SZ]; omega, bd_le ?_ _ hb, by omega⟩
  simp only [M61, SZ]
  have : (67108864 : Int) * (f.toNat : Int) ≤ 67108864 * 2000 := Int.mul_le_mul_of_nonneg_left (by omega) (by omega)
  omega
theorem argsL_sz {s : Sto} (hs : OKS s) (lv : Int) : ∀ (l out : List Tm) (f : Int), (∀ t ∈ l, validB t = true → Fit f.toNat t) → (∀ t ∈ out, t.sz ≤ SZ) → (argsL s lv out l f).1.length ≤ out.length + l.length ∧ ∀ t ∈ (argsL s lv out l f).1, t.sz ≤ SZ
  | [], out, f, _, ho => ⟨Nat.le_refl _, ho⟩
  | t :: l, out, f, hl, ho => by
    rw [argsL]
    split
    · exact ⟨Nat.zero_le _, fun t h => nomatch h⟩
    · rename_i he
      have ok := FullV_ok hs (hl t List.mem_cons_self) (by simpa using he)
      split
      · exact ⟨Nat.zero_le _, fun t h => nomatch h⟩
      · have hsh := (shortF_ok _ (valid_ok _ ok.2.1)).2.2.1
        have hlf : (leafF (FullV s f t).1).sz ≤ SZ := by
          unfold leafF
          split
          · omega
          · simp [Tm.sz, Tm.szs, SZ]
        have := argsL_sz hs lv l (out ++ [leafF (FullV s f t).1]) (FullV s f t).2.1 (fun u hu hv => (hl u (List.mem_cons_of_mem _ hu) hv).mono (by have := ok.2.2.2.2.2; omega)) (fun u hu => by
          rcases List.mem_append.1 hu with hu | hu
          · exact ho u hu
          · simp at hu; subst hu; exact hlf)
        refine ⟨?_, this.2⟩
        have h1 := this.1
        simp only [List.length_append, List.length_cons, List.length_nil] at h1 ⊢
        omega
theorem c_invertargs (v : List IBT) (x : Int) (l : List Tm) (f : Int) (h2 : ∀ a ∈ v, a.2.2.1.bk ≤ B) (ht : ∀ t ∈ l, t.bk ≤ B) (h0 : 0 - 9223372036854775808 ≤ f) : AC Tryz.prog 3 [aV6 v, ci x, aL l, ci f] [] (cb true) [] := by
  have c0 := c_works16
  have c1 := c_over16 v h2
  have c2 := c_row16 l ht
  refine AC.vc hP sh lv3 (Nat.le_refl _) (by simp) (by simp) (Eq.mpr (v3 ..) ?_)
  refine ⟨_, c0, br_of (fun q => by cases q) (fun _ => ⟨_, c1, _, c2, br_of (fun _ => ret_b rfl) (fun q1 => br_of (fun _ => ret_b rfl) (fun q2 => br_of (fun _ => ret_b rfl) (fun q3 => ?_)))⟩)⟩
  have o := overI_no q1
  have w := rowW_no q2
  have q3 := of_decide_eq_false q3
  have c3 := c_laid16 v o.2 h2 o.1
  have oa := OKA.lay o.2 h2
  generalize layS v = s at *
  have hV := oa.V
  have fit : ∀ t ∈ l, validB t = true → Fit f.toNat t := fun t h hv => fit24 (n := 80) (by omega) (by omega) hv (w.2 t h).1 (w.2 t h).2
  have c4 := c_iargs s oa.ok x f l (by omega) h0 (fun t h => ⟨by have := (w.2 t h).1; simp only [B]; omega, fit t h⟩)
  have c5 := c_rargs16 s oa.ok x f l (by omega) h0 (fun t h => ⟨ht t h, fit t h⟩)
  have sz : (argsF s x l f).1.length ≤ B ∧ ∀ t ∈ (argsF s x l f).1, t.sz ≤ B := by
    unfold argsF
    split
    · exact ⟨Nat.zero_le _, fun t h => nomatch h⟩
    · have := argsL_sz oa.ok (infOf s.V x).lv l [] f fit (fun t h => nomatch h)
      refine ⟨by have := this.1; simp only [List.length_nil, B] at *; omega, fun t h => by have := this.2 t h; simp only [SZ, B] at *; omega⟩
  have c6 := c_rsameall (argsF s x l f).1 sz.1 sz.2
  have c7 := c_known16 s (by omega) (fun i hi => by
    by_cases q : i.bd = true
    · have := (oa.ok i hi q).2.1; simp only [B]; omega
    · rw [oa.wf i hi (by simpa using q)]; simp [Tm.sz, Tm.szs, B])
  refine ⟨(s, s), c3, argsF s x l f, c4, argsF s x l f, c5, _, c6, _, c7, br_of (fun _ => br_of (fun _ => br_of (fun _ => br_of (fun _ => ret_b rfl) (fun h => absurd h (by simp))) (fun h => absurd h (by simp))) (fun h => by cases h)) (fun h => by cases h)⟩

end Go.AM
