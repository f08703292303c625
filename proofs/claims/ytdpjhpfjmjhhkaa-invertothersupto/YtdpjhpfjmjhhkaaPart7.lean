/- A calculus of plain values for the model's code, what the code of each function asks (computed by the kernel), contracts of the functions, and plain laws (part 7). No conditions. -/
import Derived.Test.YtdpjhpfjmjhhkaaPart6
set_option maxRecDepth 100000
open Go Go.Proofs
namespace Go.AM

/-! ### What is not touched -/
mutual
theorem vars_all {q : Int → Bool} : ∀ (t : Tm) (acc : List Int), vP q t = true → (∀ v ∈ acc, q v = true) → ∀ v ∈ varsF t acc, q v = true
  | .mk k s n l, acc, h, ha => by
    have hl := h
    rw [vP, Bool.and_eq_true] at hl
    rw [varsF]
    split
    · exact varsL_all l acc hl.2 ha
    · unfold varsLeaf
      split
      · rename_i hk
        intro v hv
        rcases List.mem_append.1 hv with hv | hv
        · exact ha v hv
        · simp at hv
          rw [Bool.and_eq_true] at hk
          have h4 : k = 4 := by have : (k == 4) = true := hk.1; simpa using this
          subst hv
          exact vP_var h h4
      · exact ha
theorem varsL_all {q : Int → Bool} : ∀ (l : List Tm) (acc : List Int), vPL q l = true → (∀ v ∈ acc, q v = true) → ∀ v ∈ varsL l acc, q v = true
  | [], _, _, ha => ha
  | t :: l, acc, h, ha => by
    rw [vPL, Bool.and_eq_true] at h
    rw [varsL]
    exact varsL_all l _ h.2 (vars_all t acc h.1 ha)
end
theorem hasI_mm {n : Int} {l : List Int} (h : hasI n l = true) : n ∈ l := by
  simp only [hasI, List.any_eq_true, beq_iff_eq] at h
  obtain ⟨y, hy, rfl⟩ := h
  exact hy
mutual
theorem vars_in (W : List Int) : ∀ (t : Tm) (acc : List Int), okB t = true → (∀ v ∈ varsF t acc, v ∈ W) → vP (fun n => decide (n ∈ W)) t = true
  | .mk k s n l, acc, ho, h => by
    have hol := okB_l ho
    rw [varsF] at h
    split at h
    · rename_i hk
      have h56 : k = 5 ∨ k = 6 := by simpa using hk
      have := varsL_in W l acc hol h
      rw [vP, this]
      simp; omega
    · rename_i hk
      have h5 : k ≠ 5 ∧ k ≠ 6 := by simpa using hk
      have hl : l = [] := okB0 ho h5.1 h5.2
      subst hl
      by_cases h4 : k = 4
      · subst h4
        have : n ∈ W := by
          unfold varsLeaf at h
          split at h
          · exact h n (List.mem_append.2 (.inr (by simp [Tm.n])))
          · rename_i hc
            have hh : hasI n acc = true := by
              simp only [Tm.k, Tm.n] at hc
              simpa using hc
            exact h n (hasI_mm hh)
        rw [vP, vPL]; simp [this]
      · exact vP_node h4 (fun t h => nomatch h)
theorem varsL_in (W : List Int) : ∀ (l : List Tm) (acc : List Int), okL l = true → (∀ v ∈ varsL l acc, v ∈ W) → vPL (fun n => decide (n ∈ W)) l = true
  | [], _, _, _ => rfl
  | t :: l, acc, ho, h => by
    simp only [okL, Bool.and_eq_true] at ho
    rw [varsL] at h
    have h2 := varsL_in W l _ ho.2 h
    have h1 := vars_in W t acc ho.1 (fun v hv => h v (by
      obtain ⟨e, he⟩ := varsL_ext l (varsF t acc)
      rw [he]; exact List.mem_append_left _ hv))
    rw [vPL, h1, h2]; rfl
end
theorem vP_imp {p q : Int → Bool} (hpq : ∀ n, p n = true → q n = true) : ∀ t : Tm, vP p t = true → vP q t = true := by
  refine Tm.ind fun t ih h => ?_
  obtain ⟨k, s, n, l⟩ := t
  rw [vP, Bool.and_eq_true] at h ⊢
  refine ⟨?_, vPL_iff.2 fun u hu => ih u hu (vPL_iff.1 h.2 u hu)⟩
  have := h.1
  simp only [Bool.or_eq_true] at this ⊢
  exact this.imp id (hpq n)
theorem valid_vP : ∀ t : Tm, validB t = true → vP (fun n => decide (0 ≤ n)) t = true := by
  refine Tm.ind fun t ih h => ?_
  have hn := fun q => valid_n h q
  obtain ⟨k, s, n, l⟩ := t
  rw [vP, Bool.and_eq_true]
  refine ⟨?_, vPL_iff.2 fun u hu => ?_⟩
  · by_cases h4 : k = 4
    · have := hn h4
      simp only [Bool.or_eq_true, decide_eq_true_eq]; exact .inr this
    · simp [h4]
  · by_cases h56 : k = 5 ∨ k = 6
    · exact ih u hu (kid_valid h h56 u hu)
    · rw [not_or] at h56
      have : l = [] := okB0 (valid_ok _ h) h56.1 h56.2
      subst this; cases hu
theorem invertF_left {C : Nat} (hC : C ≤ 1073741824) {s : Sto} {x : Int} {l : List Tm} {t : Tm} {f : Int} (h0 : 0 ≤ f) (hf : f ≤ 900) (hs : OKS s) (hV : s.V.length + f.toNat ≤ C) (hT : s.T.length + f.toNat ≤ C) (hl : l.length ≤ 900) (hlz : ∀ u ∈ l, bd 2199023255552 u) (hfit : validB t = true → Fit f.toNat t) :
    ((invertF s x l t f).1.2.2 = 0 → (invertF s x l t f).1.2.1 ≤ f) ∧ ((invertF s x l t f).1.2.2 ≠ 0 → (invertF s x l t f).1.2.1 = 0) := by
  unfold invertF
  split
  · exact ⟨(fun h => by cases h), fun _ => rfl⟩
  · rename_i hc
    simp only [Bool.or_eq_true, not_or] at hc
    have hL : LP l := ⟨hl, fun u hu => ⟨(leafOk_one (t := u) (by have := List.any_eq_false.1 (by simpa using hc.2 : (l.any fun u => !leafOk u) = false) u hu; simpa using this)).1, hlz u hu⟩⟩
    have g := gi_term hC hL x (infOf s.V x).lv f.toNat ⟨s, f, 0⟩ t 0 ⟨hs, hV, hT, by simp only; omega, hf⟩ h0 (fun _ => hfit)
    split
    · rename_i he; exact ⟨fun h => absurd h he, fun _ => rfl⟩
    · exact ⟨fun _ => g.2.1, fun h => absurd rfl h⟩

end Go.AM

set_option maxRecDepth 100000
open Go Go.Proofs
namespace Go.AM

def stL (l : List Int) : Sto := ⟨l.map fun v => ⟨foldMax [v, 0], false, noT⟩, []⟩
theorem stL_snoc (l : List Int) (v : Int) : freshS (stL l) v = stL (l ++ [v]) := by simp [freshS, stL]
theorem stL_len (l : List Int) : (stL l).V.length = l.length := by simp [stL]
theorem IR_mid (a : List Int) (v : Int) (b : List Int) : List.getD (IR (a ++ v :: b)) (Int.toNat (a.length : Int)) [] = [.int .i64 v] := by simp [IR, List.getD]
theorem IR_len (l : List Int) : (IR l).length = l.length := by simp [IR]
theorem BR_get {bs : List Bool} {j : Nat} (h : j < bs.length) : List.getD (BR bs) j [] = [.bool (bs.getD j false)] := by simp [BR, List.getD, h]
theorem BR_set (bs : List Bool) (j : Nat) (b : Bool) : List.set (BR bs) j [.bool b] = BR (bs.set j b) := by simp [BR, List.map_set]
theorem fit24' {t : Tm} (hv : validB t = true) (hz : t.sz ≤ 24) (hb : bd 1000 t) : Fit (80 : Int).toNat t := by
  refine ⟨valid_ok _ hv, by simp only [SZ]; omega, bd_le ?_ _ hb, by omega⟩
  simp only [M61, SZ]
  omega
section
variable (ls : List Int) (x : Int) (l : List Tm) (t : Tm) (h8 : ls.length ≤ 8) (hr : l.length ≤ 6) (hlz : ∀ u ∈ l, u.sz ≤ 24 ∧ bd 1000 u) (hz : t.sz ≤ 24) (hb : bd 1000 t) (hv : validB t = true)
include h8
/-- What there is at the end. -/
theorem l_io9 (s : Sto) (bs : List Bool) (n e : Int) (hbl : bs.length = ls.length) (hoi : OI (fun i => decide ((ls.length : Int) ≤ i) || bs.getD i.toNat false) x ls.length (fun i => foldMax [ls.getD i.toNat 0, 0]) s)
    (he : (e = 0 → n ≤ 80) ∧ (e ≠ 0 → n = 0)) : ∀ (b a : List Int), ls = a ++ b → RPt Try.prog 7 0 (cb true) [] 9 ⟨[(0, aI ls), (1, ci x), (9, cb true), (13, aS 0), (16, .c (.a (.osl 3 1 0 ls.length))), (19, ci n), (20, ci e), (21, ci (a.length : Int))], [(0, sto2 1 2 s), (1, .arz 6 (SR s.V)), (2, .arz 1 (IR s.T)), (3, .arz 1 (BR bs))], 4⟩
  | [], a, ha => by
    rw [List.append_nil] at ha
    refine RPt.vc hP sh lv7 (Eq.mpr (v7_9a ..) ?_)
    refine ⟨rfl, br_of (fun h => absurd (of_decide_eq_true h) (by rw [IR_len, ha]; omega)) (fun _ => br_of (fun _ => br_of (fun h0 => br_of (fun _ => ret_b rfl) (fun h80 => ?_)) (fun h0 => br_of (fun _ => ret_b ?_) (fun h1 => ?_))) (fun h => by cases h))⟩
    · have h0 : e = 0 := eq_of_beq h0
      exact absurd (he.1 h0) (of_decide_eq_false h80)
    · have h0 : (e == 0) = false := h0
      rw [he.2 (by simpa using h0)]; rfl
    · have h0 : (e == 0) = false := h0
      have h1 : (e != 0) = false := h1
      rw [bne, h0] at h1; cases h1
  | v :: b, a, ha => by
    have next := l_io9 s bs n e hbl hoi he b (a ++ [v]) (by rw [ha]; simp)
    have hlen : ls.length = a.length + (b.length + 1) := by rw [ha]; simp
    have em : List.getD (IR ls) (Int.toNat (a.length : Int)) [] = [.int .i64 v] := by rw [ha]; exact IR_mid a v b
    have hV := hoi.len
    have hI := c_sinfo s (a.length : Int)
    have hin : inB s.V (a.length : Int) = true := inB_of (by omega) (by omega)
    have hlv := hoi.lvl (a.length : Int) (by omega) (by omega)
    have hbn := hoi.bnd (a.length : Int) (by omega) (by omega)
    have egd : ls.getD (Int.toNat (a.length : Int)) 0 = v := by rw [ha]; simp [List.getD]
    simp only [egd] at hlv
    rw [hin] at hI
    have hbd : List.getD (BR bs) (0 + Int.toNat (a.length : Int)) [] = [.bool (bs.getD (Int.toNat (a.length : Int)) false)] := by rw [Nat.zero_add]; exact BR_get (by omega)
    rw [show (((a ++ [v]).length : Nat) : Int) = (a.length : Int) + 1 by simp] at next
    generalize infOf s.V (a.length : Int) = i at *
    obtain ⟨ilv, ibd, iv⟩ := i
    simp only at hlv hbn
    refine RPt.vc hP sh lv7 (Eq.mpr (v7_9a ..) ?_)
    rw [em, hbd, w64 (x := (a.length : Int) + 1) (by omega) (by omega), IR_len]
    have op : FV.isSl 1 (.sl false 1 (IR ls)) = true ∧ ((0 : Int) ≤ (a.length : Int) ∧ (((a.length : Int) < ((ls.length : Nat) : Int)) ∧ (([.int .i64 (FV.asI (List.getD [FV.int .i64 v] 0 FV.nils))] : List FV) = [.int .i64 v]))) := ⟨rfl, by omega, by omega, rfl⟩
    refine ⟨rfl, br_of (fun _ => ⟨(ilv, ibd, iv, true), hI, br_of (fun h => by cases h) (fun _ => br_of (fun hbd => ?_) (fun _ => ⟨op, br_of (fun h => ?_) (fun _ => next)⟩))⟩) (fun h => absurd (of_decide_eq_false h) (by omega))⟩
    · have hbd : ibd = true := hbd
      obtain ⟨hpb, hnx⟩ := hbn hbd
      have hpb : bs.getD (Int.toNat (a.length : Int)) false = true := by
        simp only [Bool.or_eq_true, decide_eq_true_eq] at hpb
        rcases hpb with h | h
        · omega
        · exact h
      refine ⟨by omega, ⟨by rw [BR_length]; omega, rfl, rfl⟩, br_of (fun h => ?_) (fun _ => br_of (fun h => absurd (eq_of_beq h) hnx) (fun _ => ⟨op, br_of (fun h => ?_) (fun _ => next)⟩))⟩
      · have h : (!bs.getD (Int.toNat (a.length : Int)) false) = true := h
        rw [hpb] at h; cases h
      · have h : (ilv != foldMax [v, 0]) = true := h
        rw [hlv] at h; simp at h
    · have h : (ilv != foldMax [v, 0]) = true := h
      rw [hlv] at h; simp at h
include hr hlz hz hb hv
/-- Which variables stand in the term. -/
theorem l_io5 (vs : List Int) (hvs : vs = varsF t []) (hv0 : ∀ v ∈ vs, 0 ≤ v) (hvl : vs.length ≤ 1000) : ∀ (b a : List Int) (bs : List Bool), vs = a ++ b → bs.length = ls.length → (∀ v ∈ a, v < (ls.length : Int) → bs.getD v.toNat false = true) →
    RPt Try.prog 7 0 (cb true) [] 5 ⟨[(0, aI ls), (1, ci x), (2, aL l), (7, .c (.a (.ep 0 4 0 0))), (9, cb true), (13, .c (.a (.ep 1 2 0 0))), (15, aI vs), (16, .c (.a (.osl 4 1 0 ls.length))), (17, ci (a.length : Int))],
      [(0, obT t), (1, sto2 2 3 (stL ls)), (2, .arz 6 (SR (stL ls).V)), (3, .arz 1 (IR (stL ls).T)), (4, .arz 1 (BR bs))], 5⟩
  | [], a, bs, ha, hbl, hin => by
    rw [List.append_nil] at ha
    have hs : OKS (stL ls) := fun i hi h => by
      obtain ⟨w, _, rfl⟩ := List.mem_map.1 hi
      cases h
    have sl := stL_len ls
    have hfit : validB t = true → Fit (80 : Int).toNat t := fun hv => fit24' hv hz hb
    have hc := c_iinvert (C := ls.length + 80) (by omega) (stL ls) x l t 80 (by omega) (by omega) hs (by rw [sl]; simp) (by simp [stL]) (by omega) (fun u hu => ⟨by have := (hlz u hu).1; simp only [B]; omega, bd_le (by omega) _ (hlz u hu).2⟩) (by simp only [B]; omega) hfit
    have hleft := invertF_left (C := ls.length + 80) (by omega) (s := stL ls) (x := x) (l := l) (t := t) (f := 80) (by omega) (by omega) hs (by rw [sl]; simp) (by simp [stL]) (by omega) (fun u hu => bd_le (by omega) _ (hlz u hu).2) hfit
    have hvp : vP (fun i => decide ((ls.length : Int) ≤ i) || bs.getD i.toNat false) t = true := by
      refine vP_imp (fun n hn => ?_) t (vars_in vs t [] (valid_ok _ hv) (fun v hv => by rw [hvs]; exact hv))
      have hn := of_decide_eq_true hn
      by_cases q : (ls.length : Int) ≤ n
      · simp [q]
      · rw [hin n (by rw [← ha]; exact hn) (by omega), Bool.or_true]
    have hinf : ∀ i : Int, 0 ≤ i → i < (ls.length : Int) → infOf (stL ls).V i = ⟨foldMax [ls.getD i.toNat 0, 0], false, noT⟩ := fun i h0 h1 => by
      obtain ⟨hl, e⟩ := infOf_in (V := (stL ls).V) h0 (by rw [sl]; exact h1)
      rw [e]
      have hl2 : i.toNat < ls.length := by omega
      simp [stL, List.getD, hl2]
    have hoi := oi_invert (p := fun i => decide ((ls.length : Int) ≤ i) || bs.getD i.toNat false) (x := x) (m := ls.length) (lv0 := fun i => foldMax [ls.getD i.toNat 0, 0]) (fun i hi => by simp [hi]) (s := stL ls)
      ⟨by rw [sl]; exact Nat.le_refl _, fun i h0 h1 => by rw [hinf i h0 h1], fun i h0 h1 h2 => by rw [hinf i h0 h1] at h2; (cases h2), fun i hi h => by
        obtain ⟨w, _, rfl⟩ := List.mem_map.1 hi
        cases h⟩ l hvp 80
    generalize invertF (stL ls) x l t 80 = z at *
    obtain ⟨⟨z1, z2, z3⟩, zs⟩ := z
    simp only at hleft hoi hc
    have next := l_io9 ls x h8 zs bs z2 z3 hbl hoi hleft ls [] rfl
    obtain ⟨tk, ts, tn, tl⟩ := t
    refine RPt.vc hP sh lv7 (Eq.mpr (v7_5a ..) ?_)
    refine ⟨rfl, br_of (fun h => absurd (of_decide_eq_true h) (by rw [show FV.ses (.sl false 1 (IR vs)) = IR vs from rfl, IR_len, ha]; omega)) (fun _ => ⟨((z1, z2, z3), zs), hc, next⟩)⟩
  | v :: b, a, bs, ha, hbl, hin => by
    have em : List.getD (FV.ses (.sl false 1 (IR vs))) (Int.toNat (a.length : Int)) [] = [.int .i64 v] := by rw [ha]; exact IR_mid a v b
    have el : (FV.ses (.sl false 1 (IR vs))).length = vs.length := IR_len vs
    have hlen : vs.length = a.length + (b.length + 1) := by rw [ha]; simp
    have hv0' := hv0 v (by rw [ha]; simp)
    have next := fun bs' => l_io5 vs hvs hv0 hvl b (a ++ [v]) bs' (by rw [ha]; simp)
    rw [show (((a ++ [v]).length : Nat) : Int) = (a.length : Int) + 1 by simp] at next
    obtain ⟨tk, ts, tn, tl⟩ := t
    refine RPt.vc hP sh lv7 (Eq.mpr (v7_5a ..) ?_)
    rw [em, el, w64 (x := (a.length : Int) + 1) (by omega) (by omega)]
    have op : FV.isSl 1 (.sl false 1 (IR vs)) = true ∧ ((0 : Int) ≤ (a.length : Int) ∧ (((a.length : Int) < ((vs.length : Nat) : Int)) ∧ (([.int .i64 (FV.asI (List.getD [FV.int .i64 v] 0 FV.nils))] : List FV) = [.int .i64 v]))) := ⟨rfl, by omega, by omega, rfl⟩
    refine ⟨rfl, br_of (fun _ => ⟨op, br_of (fun h => ?_) (fun h => ?_)⟩) (fun h => absurd (of_decide_eq_false h) (by omega))⟩
    · have h : v < (ls.length : Int) := of_decide_eq_true h
      have hlt : v.toNat < bs.length := by omega
      refine ⟨op, ⟨hv0', h⟩, ⟨?_, ?_⟩, ?_⟩
      · show 0 + v.toNat < (BR bs).length
        rw [BR_length]; omega
      · show (List.getD (BR bs) (0 + v.toNat) []).length = 1
        rw [Nat.zero_add, BR_get hlt]; rfl
      · have := next (bs.set v.toNat true) (by simpa using hbl) (fun w hw hwl => by
          by_cases hvw : w.toNat = v.toNat
          · rw [hvw]; simp [List.getD, hlt]
          · rcases List.mem_append.1 hw with hw | hw
            · have := hin w hw hwl
              simp only [List.getD, List.getElem?_set_ne (Ne.symm hvw)]
              exact this
            · simp at hw; subst hw; exact absurd rfl hvw)
        rw [← BR_set] at this
        show RPt Try.prog 7 0 (cb true) [] 5 ⟨_, [_, _, _, _, (4, .arz 1 (List.set (BR bs) (0 + v.toNat) [.bool true]))], 5⟩
        rw [Nat.zero_add]
        exact this
    · have h : ¬ v < (ls.length : Int) := of_decide_eq_false h
      exact next bs hbl (fun w hw hwl => by
        rcases List.mem_append.1 hw with hw | hw
        · exact hin w hw hwl
        · simp at hw; subst hw; exact absurd hwl h)
theorem l_io1 : ∀ (b a : List Int), ls = a ++ b → RPt Try.prog 7 0 (cb true) [] 1 ⟨[(0, aI ls), (1, ci x), (2, aL l), (7, .c (.a (.ep 0 4 0 0))), (9, cb true), (13, .c (.a (.ep 1 2 0 0))), (14, ci (a.length : Int))],
      [(0, obT t), (1, sto2 2 3 (stL a)), (2, .arz 6 (SR (stL a).V)), (3, .arz 1 (IR (stL a).T))], 4⟩
  | [], a, ha => by
    rw [List.append_nil] at ha
    subst ha
    have hvr := c_vars t (by simp only [B]; omega)
    have hall := vars_all t [] (valid_vP t hv) (fun v h => nomatch h)
    have hlen : (varsF t []).length ≤ 1000 := by have := varsF_len t []; simp only [List.length_nil] at this; omega
    have next := l_io5 ls x l t h8 hr hlz hz hb hv (varsF t []) rfl (fun v hv => of_decide_eq_true (hall v hv)) hlen (varsF t []) [] (List.replicate ls.length false) rfl (by simp) (fun v h => nomatch h)
    have eB : BR (List.replicate ls.length false) = List.replicate ls.length ([.bool false] : List FV) := by simp [BR]
    rw [eB] at next
    obtain ⟨tk, ts, tn, tl⟩ := t
    refine RPt.vc hP sh lv7 (Eq.mpr (v7_1a ..) ?_)
    rw [IR_len]
    refine ⟨rfl, br_of (fun h => absurd (of_decide_eq_true h) (by omega)) (fun _ => ⟨_, hvr, rfl, ⟨rfl, by omega, rfl, by omega, by omega, ?_⟩, ?_⟩)⟩
    · rw [Int.toNat_natCast]; unfold roomB; omega
    · rw [Int.toNat_natCast]; exact next
  | v :: b, a, ha => by
    have next := l_io1 b (a ++ [v]) (by rw [ha]; simp)
    have hlen : ls.length = a.length + (b.length + 1) := by rw [ha]; simp
    have em : List.getD (IR ls) (Int.toNat (a.length : Int)) [] = [.int .i64 v] := by rw [ha]; exact IR_mid a v b
    have hf := c_sfresh (stL a) v (by rw [stL_len]; omega)
    rw [stL_snoc] at hf
    rw [show (((a ++ [v]).length : Nat) : Int) = (a.length : Int) + 1 by simp] at next
    obtain ⟨tk, ts, tn, tl⟩ := t
    refine RPt.vc hP sh lv7 (Eq.mpr (v7_1a ..) ?_)
    rw [em, w64 (x := (a.length : Int) + 1) (by omega) (by omega), IR_len]
    refine ⟨rfl, br_of (fun _ => ⟨⟨rfl, by omega, by omega, rfl⟩, (_, stL (a ++ [v])), hf, next⟩) (fun h => absurd (of_decide_eq_false h) (by omega))⟩
end
theorem c_invertothers (ls : List Int) (x : Int) (l : List Tm) (t : Tm) (hl : ∀ u ∈ l, u.bk ≤ B) (ht : t.bk ≤ B) : AC Try.prog 7 [aI ls, ci x, aL l, aT t] [] (cb true) [] := by
  have c0 := c_works16
  have c1 := c_row16 l hl
  have c2 := c_row16 [t] (fun u hu => by simp at hu; subst hu; exact ht)
  have zb := Tm.sz_bk t
  have c3 := c_valid t (by omega)
  have next := l_io1 ls x l t
  obtain ⟨tk, ts, tn, tl⟩ := t
  refine AC.vc hP sh lv7 (Nat.le_refl _) (by simp) (by simp) (Eq.mpr (v7 (IR ls) x (FTs l) tk ts tn (FTs tl) ..) ?_)
  rw [IR_len]
  refine ⟨_, c0, br_of (fun q => by cases q) (fun _ => ⟨_, c1, ⟨rfl, Nat.le_refl _⟩, _, c2, rfl, _, c3, br_of (fun _ => ret_b rfl) (fun q1 => br_of (fun _ => ret_b rfl) (fun q2 => br_of (fun _ => ret_b rfl) (fun q3 => ⟨rfl, br_of (fun _ => ret_b rfl) (fun q4 => ⟨(), c_snew, ?_⟩)⟩)))⟩)⟩
  have w1 := rowW_no q1
  have w2 := (rowW_no q2).2 _ List.mem_cons_self
  have q3 : validB (.mk tk ts tn tl) = true := by simpa using q3
  have q4 := of_decide_eq_false q4
  exact next (by omega) (by omega) w1.2 w2.1 w2.2 q3 ls [] rfl

end Go.AM
