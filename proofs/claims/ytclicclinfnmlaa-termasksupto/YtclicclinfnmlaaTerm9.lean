/- The contracts of law functions, and the plain laws behind them (Term9). No conditions. -/
import Derived.Test.YtclicclinfnmlaaTerm8
set_option maxRecDepth 100000
open Go Go.Proofs
namespace Go.AM
abbrev tellV : TV := .c (.fn (.func 70) [] [(false, [.ep 0 1 0 0])])
abbrev eV (k by_ : Int) (v : FV) (n i : Int) : Env := [(1, ci k), (2, tellV), (7, ci by_), (27, .c (.a (.fz v))), (28, ci n), (29, ci i)]
/-- The state of the loop where the row was nil before the call. -/
def sV1 (k by_ : Int) (v : FV) (n i : Int) : List Int → St
  | [] => ⟨eV k by_ v n i, [(0, .arr 1 [[.a (.fz .nils)]])], 1⟩
  | x :: l => ⟨eV k by_ v n i, [(0, .arr 1 [[.a (.osl 1 1 0 (x :: l).length)]]), (1, .arz 1 (IR (x :: l)))], 2⟩
theorem l_eachV1 (k by_ : Int) (h0 : 0 ≤ k) (hby : 0 ≤ by_) (hby1 : by_ ≤ 1) (hk : k ≤ 2305843009213693952) : ∀ (b a : List Tm) (v : FV) (acc : List Int), v.ses = FTs (a ++ b) → v.isSl 4 = true →
    (∀ u ∈ b, ∀ acc : List Int, acc.length + u.sz ≤ B → AC Try.prog 66 [aT u, ci (k + by_), tellV] (HsV acc) (.tup []) (HsW acc (varsF u acc))) → (a ++ b).length ≤ B → acc.length + Tm.szs b ≤ B →
    RPt Try.prog 66 1 (.tup []) (HsV (varsL b acc)) 1 (sV1 k by_ v (a ++ b).length a.length acc)
  | [], a, v, acc, hv, hs, _, hl, ha => by
    match acc with
    | [] =>
      refine RPt.vc hP sh lv66 (Eq.mpr (v66_i1_1a ..) ?_)
      exact br_of (fun h => absurd (of_decide_eq_true h) (by simp)) (fun _ => ⟨.refl _, rfl⟩)
    | x :: l =>
      refine RPt.vc hP sh lv66 (Eq.mpr (v66_i1_1c ..) ?_)
      exact br_of (fun h => absurd (of_decide_eq_true h) (by simp)) (fun _ => ⟨.refl _, rfl⟩)
  | t :: b, a, v, acc, hv, hs, ih, hl, ha => by
    have hl' := hl
    simp only [List.length_append, List.length_cons, B] at hl'
    simp only [Tm.szs] at ha
    have h1 := ih t List.mem_cons_self acc (by omega)
    have hlen := varsF_len t acc
    have h2 := l_eachV1 k by_ h0 hby hby1 hk b (a ++ [t]) v (varsF t acc) (by rw [ap]; exact hv) hs (fun u hu => ih u (List.mem_cons_of_mem _ hu)) (by rw [ap]; exact hl) (by omega)
    have h3 := ltI' a t b
    rw [ap, nx] at h2
    rw [varsL]
    obtain ⟨k', s', n', l'⟩ := t
    match acc, h1, h2, hlen with
    | [], h1, h2, _ =>
      refine RPt.vc hP sh lv66 (Eq.mpr (v66_i1_1a ..) ?_)
      rw [hv, midI, w64 (x := (a.length : Int) + 1) (by omega) (by omega), w64 (x := k + by_) (by omega) (by omega)]
      refine br_of (fun _ => ⟨⟨hs, by omega, h3, rfl⟩, ?_⟩) (fun h => absurd (ltI a (Tm.mk k' s' n' l') b) (of_decide_eq_false h))
      rw [HsW_nil] at h1
      generalize varsF (.mk k' s' n' l') [] = acc' at h1 h2 ⊢
      match acc', h1, h2 with
      | [], h1, h2 => exact .inr (.inl ⟨(), h1, h2⟩)
      | y :: m, h1, h2 => exact .inr (.inr (.inl ⟨((y :: m).length, IR (y :: m)), h1, h2⟩))
    | x :: l, h1, h2, _ =>
      refine RPt.vc hP sh lv66 (Eq.mpr (v66_i1_1c ..) ?_)
      rw [hv, midI, w64 (x := (a.length : Int) + 1) (by omega) (by omega), w64 (x := k + by_) (by omega) (by omega)]
      refine br_of (fun _ => ⟨⟨hs, by omega, h3, rfl⟩, ?_⟩) (fun h => absurd (ltI a (Tm.mk k' s' n' l') b) (of_decide_eq_false h))
      obtain ⟨e, he⟩ := varsF_ext (.mk k' s' n' l') (x :: l)
      by_cases hsame : varsF (.mk k' s' n' l') (x :: l) = x :: l
      · rw [hsame, HsW_same] at h1
        rw [hsame] at h2 ⊢
        exact .inr (.inr (.inl ⟨((x :: l).length, IR (x :: l)), h1, h2⟩))
      · rw [HsW_more (by simp) hsame] at h1
        generalize varsF (.mk k' s' n' l') (x :: l) = acc' at h1 h2 he ⊢
        subst he
        exact .inr (.inr (.inr (.inl ⟨(((x :: l) ++ e).length, IR ((x :: l) ++ e)), h1, h2⟩)))
/-- ... where there was one: it is still there, or another one took its place. -/
theorem l_eachV2b (k by_ : Int) (h0 : 0 ≤ k) (hby : 0 ≤ by_) (hby1 : by_ ≤ 1) (hk : k ≤ 2305843009213693952) (l0 : List Int) (hne : l0 ≠ []) : ∀ (b a : List Tm) (v : FV) (acc : List Int), v.ses = FTs (a ++ b) → v.isSl 4 = true →
    (∀ u ∈ b, ∀ acc : List Int, acc.length + u.sz ≤ B → AC Try.prog 66 [aT u, ci (k + by_), tellV] (HsV acc) (.tup []) (HsW acc (varsF u acc))) → (a ++ b).length ≤ B → acc.length + Tm.szs b ≤ B → l0.length < acc.length →
    RPt Try.prog 66 2 (.tup []) (HsW l0 (varsL b acc)) 1 ⟨eV k by_ v (a ++ b).length a.length, [(0, .arr 1 [[.a (.osl 2 1 0 acc.length)]]), (1, .gone), (2, .arz 1 (IR acc))], 3⟩
  | [], a, v, acc, hv, hs, _, hl, ha, hlt => by
    refine RPt.vc hP sh lv66 (Eq.mpr (v66_i2_1d ..) ?_)
    rw [varsL, HsW_more hne (fun e => by rw [e] at hlt; omega)]
    exact br_of (fun h => absurd (of_decide_eq_true h) (by simp)) (fun _ => ⟨.refl _, rfl⟩)
  | t :: b, a, v, acc, hv, hs, ih, hl, ha, hlt => by
    have hl' := hl
    simp only [List.length_append, List.length_cons, B] at hl'
    simp only [Tm.szs] at ha
    have h1 := ih t List.mem_cons_self acc (by omega)
    have hlen := varsF_len t acc
    obtain ⟨e, he⟩ := varsF_ext t acc
    have h2 := l_eachV2b k by_ h0 hby hby1 hk l0 hne b (a ++ [t]) v (varsF t acc) (by rw [ap]; exact hv) hs (fun u hu => ih u (List.mem_cons_of_mem _ hu)) (by rw [ap]; exact hl) (by omega) (by rw [he, List.length_append]; omega)
    have h3 := ltI' a t b
    have hacc : acc ≠ [] := by intro e; rw [e] at hlt; simp at hlt
    rw [ap, nx] at h2
    rw [varsL]
    obtain ⟨k', s', n', l'⟩ := t
    refine RPt.vc hP sh lv66 (Eq.mpr (v66_i2_1d ..) ?_)
    rw [hv, midI, w64 (x := (a.length : Int) + 1) (by omega) (by omega), w64 (x := k + by_) (by omega) (by omega)]
    refine br_of (fun _ => ⟨⟨hs, by omega, h3, rfl⟩, ?_⟩) (fun h => absurd (ltI a (Tm.mk k' s' n' l') b) (of_decide_eq_false h))
    rw [HsV_ne hacc] at h1
    by_cases hsame : varsF (.mk k' s' n' l') acc = acc
    · rw [hsame, HsW_same, HsV_ne hacc] at h1
      rw [hsame] at h2 ⊢
      exact .inr (.inr (.inl ⟨(acc.length, IR acc), h1, h2⟩))
    · rw [HsW_more hacc hsame] at h1
      exact .inr (.inr (.inr (.inl ⟨((varsF (.mk k' s' n' l') acc).length, IR (varsF (.mk k' s' n' l') acc)), h1, h2⟩)))
theorem l_eachV2a (k by_ : Int) (h0 : 0 ≤ k) (hby : 0 ≤ by_) (hby1 : by_ ≤ 1) (hk : k ≤ 2305843009213693952) (l0 : List Int) (hne : l0 ≠ []) : ∀ (b a : List Tm) (v : FV), v.ses = FTs (a ++ b) → v.isSl 4 = true →
    (∀ u ∈ b, ∀ acc : List Int, acc.length + u.sz ≤ B → AC Try.prog 66 [aT u, ci (k + by_), tellV] (HsV acc) (.tup []) (HsW acc (varsF u acc))) → (a ++ b).length ≤ B → l0.length + Tm.szs b ≤ B →
    RPt Try.prog 66 2 (.tup []) (HsW l0 (varsL b l0)) 1 ⟨eV k by_ v (a ++ b).length a.length, [(0, .arr 1 [[.a (.osl 1 1 0 l0.length)]]), (1, .arz 1 (IR l0))], 2⟩
  | [], a, v, hv, hs, _, hl, ha => by
    refine RPt.vc hP sh lv66 (Eq.mpr (v66_i2_1a ..) ?_)
    rw [varsL, HsW_same, HsV_ne hne]
    exact br_of (fun h => absurd (of_decide_eq_true h) (by simp)) (fun _ => ⟨.refl _, rfl⟩)
  | t :: b, a, v, hv, hs, ih, hl, ha => by
    have hl' := hl
    simp only [List.length_append, List.length_cons, B] at hl'
    simp only [Tm.szs] at ha
    have h1 := ih t List.mem_cons_self l0 (by omega)
    have hlen := varsF_len t l0
    obtain ⟨e, he⟩ := varsF_ext t l0
    have h3 := ltI' a t b
    have ihb := fun u hu => ih u (List.mem_cons_of_mem t hu)
    have h2 := l_eachV2a k by_ h0 hby hby1 hk l0 hne b (a ++ [t]) v (by rw [ap]; exact hv) hs ihb (by rw [ap]; exact hl) (by omega)
    have h4 := l_eachV2b k by_ h0 hby hby1 hk l0 hne b (a ++ [t]) v (varsF t l0) (by rw [ap]; exact hv) hs ihb (by rw [ap]; exact hl) (by omega)
    rw [ap, nx] at h2 h4
    rw [varsL]
    obtain ⟨k', s', n', l'⟩ := t
    refine RPt.vc hP sh lv66 (Eq.mpr (v66_i2_1a ..) ?_)
    rw [hv, midI, w64 (x := (a.length : Int) + 1) (by omega) (by omega), w64 (x := k + by_) (by omega) (by omega)]
    refine br_of (fun _ => ⟨⟨hs, by omega, h3, rfl⟩, ?_⟩) (fun h => absurd (ltI a (Tm.mk k' s' n' l') b) (of_decide_eq_false h))
    rw [HsV_ne hne] at h1
    by_cases hsame : varsF (.mk k' s' n' l') l0 = l0
    · rw [hsame, HsW_same, HsV_ne hne] at h1
      rw [hsame]
      exact .inr (.inr (.inl ⟨(l0.length, IR l0), h1, h2⟩))
    · have h4 := h4 (by
        rw [he, List.length_append]
        cases e with
        | nil => exact absurd (by simpa using he) hsame
        | cons y e => simp)
      rw [HsW_more hne hsame] at h1
      exact .inr (.inr (.inr (.inl ⟨((varsF (.mk k' s' n' l') l0).length, IR (varsF (.mk k' s' n' l') l0)), h1, h4⟩)))
theorem HsW_len (l l' : List Int) : (HsV l).length ≤ (HsW l l').length := by
  by_cases h : l = []
  · subst h; rw [HsW_nil]; exact HsV_len l'
  · by_cases h' : l' = l
    · rw [h', HsW_same]; exact Nat.le_refl _
    · rw [HsW_more h h', HsV_ne h]; simp
theorem HsW_live (l l' : List Int) : ∀ x ∈ (HsW l l').drop (HsV l).length, isLive x := by
  by_cases h : l = []
  · subst h; rw [HsW_nil]; exact fun x hx => HsV_live _ x (List.mem_of_mem_drop hx)
  · by_cases h' : l' = l
    · rw [h', HsW_same]; simp
    · rw [HsW_more h h', HsV_ne h]; simp [isLive]
theorem c_eachV : ∀ t : Tm, t.sz ≤ B → ∀ (k : Int) (acc : List Int), 0 ≤ k → k + t.sz ≤ 2305843009213693952 → acc.length + t.sz ≤ B → AC Try.prog 66 [aT t, ci k, tellV] (HsV acc) (.tup []) (HsW acc (varsF t acc)) := by
  refine Tm.ind fun t ih hs k acc h0 h1 ha => ?_
  have hw := c_within t
  have hk := kidsV_ses t
  have hlen := Tm.szs_length t.l
  have hv1 := c_vars1 t k acc (by omega) (by omega)
  obtain ⟨kd, s, n, l⟩ := t
  simp only [Tm.sz, B, Tm.l] at hs hlen ha
  simp only [Tm.sz] at h1
  have ihl : ∀ by_ : Int, 0 ≤ by_ → by_ ≤ 1 → ∀ u ∈ l, ∀ acc : List Int, acc.length + u.sz ≤ B → AC Try.prog 66 [aT u, ci (k + by_), tellV] (HsV acc) (.tup []) (HsW acc (varsF u acc)) := fun by_ hb0 hb1 u hu acc ha => ih u hu (by have := Tm.szs_mem hu; simp only [B]; omega) (k + by_) acc (by omega) (by have := Tm.szs_mem hu; omega) ha
  have leaf : (kd == 5) = false → (kd == 6) = false → varsF (.mk kd s n l) acc = varsLeaf (.mk kd s n l) acc := fun e1 e2 => by rw [varsF, if_neg (by rw [e1, e2]; simp)]
  have inn : (kd == 5 || kd == 6) = true → varsF (.mk kd s n l) acc = varsL l acc := fun e => by rw [varsF, if_pos e]
  have kids : (kd == 5 || kd == 6) = true → Tm.kids (.mk kd s n l) = l := fun e => if_pos e
  by_cases hne : acc = []
  · subst hne
    refine AC.vc hP sh lv66 (HsW_len _ _) (HsV_live _) (HsW_live _ _) (Eq.mpr (v66_i1 kd s n (FTs l) k _ _) ?_)
    have key : ∀ by_ : Int, 0 ≤ by_ → by_ ≤ 1 → Tm.kids (.mk kd s n l) = l → RPt Try.prog 66 1 (.tup []) (HsV (varsL l [])) 1 ⟨eV k by_ (kidsV (.mk kd s n l)) l.length 0, [(0, .arr 1 [[.a (.fz .nils)]])], 1⟩ := by
      intro by_ hb0 hb1 hkids
      exact l_eachV1 k by_ h0 hb0 hb1 (by omega) l [] (kidsV (.mk kd s n l)) [] (by rw [hk.1, hkids]; rfl) hk.2 (ihl by_ hb0 hb1) (by simp only [List.nil_append, B]; omega) (by simp only [B, List.length_nil]; omega)
    rw [HsW_nil]
    refine br_of (fun h => br_of (fun h2 => ?_) (fun h2 => ⟨_, _, hw, hk.2, ?_⟩)) (fun h => ⟨_, _, hw, hk.2, ?_⟩)
    · have e1 : (kd == 5) = false := by simpa using h
      have e2 : (kd == 6) = false := by simpa using h2
      rw [leaf e1 e2]
      rw [HsW_nil] at hv1
      generalize varsLeaf (.mk kd s n l) [] = acc' at hv1 ⊢
      match acc', hv1 with
      | [], hv1 => exact .inl ⟨(), hv1, .refl _, rfl⟩
      | y :: m, hv1 => exact .inr (.inl ⟨((y :: m).length, IR (y :: m)), hv1, .refl _, rfl⟩)
    · have e1 : (kd == 5) = false := by simpa using h
      have e2 : (kd == 6) = true := by simpa using h2
      have hin : (kd == 5 || kd == 6) = true := by rw [e2]; simp
      rw [inn hin, hk.1, kids hin, lenI, show Tm.by (.mk kd s n l) = 0 by unfold Tm.by; simp only [Tm.k, e1, Bool.false_eq_true, if_false]]
      exact key 0 (by omega) (by omega) (kids hin)
    · have e1 : (kd == 5) = true := by simpa using h
      have hin : (kd == 5 || kd == 6) = true := by rw [e1]; simp
      rw [inn hin, hk.1, kids hin, lenI, show Tm.by (.mk kd s n l) = 1 by unfold Tm.by; simp only [Tm.k, e1, if_true]]
      exact key 1 (by omega) (by omega) (kids hin)
  · have hvv := HsV_ne hne
    refine AC.vc hP sh lv66 (HsW_len _ _) (HsV_live _) (HsW_live _ _) ?_
    rw [hvv] at hv1 ⊢
    refine Eq.mpr (v66_i2 kd s n (FTs l) k acc.length (IR acc) _ _) ?_
    have key : ∀ by_ : Int, 0 ≤ by_ → by_ ≤ 1 → Tm.kids (.mk kd s n l) = l → RPt Try.prog 66 2 (.tup []) (HsW acc (varsL l acc)) 1 ⟨eV k by_ (kidsV (.mk kd s n l)) l.length 0, [(0, .arr 1 [[.a (.osl 1 1 0 acc.length)]]), (1, .arz 1 (IR acc))], 2⟩ := by
      intro by_ hb0 hb1 hkids
      exact l_eachV2a k by_ h0 hb0 hb1 (by omega) acc hne l [] (kidsV (.mk kd s n l)) (by rw [hk.1, hkids]; rfl) hk.2 (ihl by_ hb0 hb1) (by simp only [List.nil_append, B]; omega) (by simp only [B]; omega)
    refine br_of (fun h => br_of (fun h2 => ?_) (fun h2 => ⟨_, _, hw, hk.2, ?_⟩)) (fun h => ⟨_, _, hw, hk.2, ?_⟩)
    · have e1 : (kd == 5) = false := by simpa using h
      have e2 : (kd == 6) = false := by simpa using h2
      rw [leaf e1 e2]
      by_cases hsame : varsLeaf (.mk kd s n l) acc = acc
      · rw [hsame, HsW_same, hvv] at hv1 ⊢
        exact .inr (.inl ⟨(acc.length, IR acc), hv1, .refl _, rfl⟩)
      · rw [HsW_more hne hsame] at hv1 ⊢
        exact .inr (.inr (.inl ⟨((varsLeaf (.mk kd s n l) acc).length, IR (varsLeaf (.mk kd s n l) acc)), hv1, .refl _, rfl⟩))
    · have e1 : (kd == 5) = false := by simpa using h
      have e2 : (kd == 6) = true := by simpa using h2
      have hin : (kd == 5 || kd == 6) = true := by rw [e2]; simp
      rw [inn hin, hk.1, kids hin, lenI, show Tm.by (.mk kd s n l) = 0 by unfold Tm.by; simp only [Tm.k, e1, Bool.false_eq_true, if_false]]
      exact key 0 (by omega) (by omega) (kids hin)
    · have e1 : (kd == 5) = true := by simpa using h
      have hin : (kd == 5 || kd == 6) = true := by rw [e1]; simp
      rw [inn hin, hk.1, kids hin, lenI, show Tm.by (.mk kd s n l) = 1 by unfold Tm.by; simp only [Tm.k, e1, if_true]]
      exact key 1 (by omega) (by omega) (kids hin)
theorem c_vars (t : Tm) (hs : t.sz ≤ B) : AC Try.prog 24 [aT t] [] (aI (varsF t [])) [] := by
  have h := c_eachV t hs 0 [] (Int.le_refl _) (by simp only [B] at hs; omega) (by simpa using hs)
  rw [HsW_nil] at h
  obtain ⟨k, s, n, l⟩ := t
  refine AC.vc hP sh lv24 (Nat.le_refl _) (by simp) (by simp) (Eq.mpr (v24 k s n (FTs l) _ _) ?_)
  generalize varsF (.mk k s n l) [] = acc at h ⊢
  match acc, h with
  | [], h => exact .inr (.inl ⟨(), h, le_c (.nils 1), rfl⟩)
  | x :: m, h =>
    refine .inr (.inr (.inl ⟨((x :: m).length, IR (x :: m)), h, ⟨rfl, by rw [IR_length]; omega⟩, ?_, rfl⟩))
    rw [takeIR]
    exact le_c (.nn _ _ _)
end Go.AM
