/- Contracts: within, size, loose. No conditions. -/
import Derived.Test.YtclicclinfnmlaaTerm1
set_option maxRecDepth 100000
open Go Go.Proofs
namespace Go.AM
/-! ### What is within -/
def kidsV (t : Tm) : FV := if t.inner = true then .sl false 4 (FTs t.l) else .nils
theorem kidsV_ses (t : Tm) : (kidsV t).ses = FTs t.kids ∧ (kidsV t).isSl 4 = true := by
  unfold kidsV Tm.kids
  split <;> exact ⟨rfl, rfl⟩
theorem c_within (t : Tm) : AC Try.prog 69 [aT t] [] (.tup [(false, [.a (.fz (kidsV t))]), (false, [.a (.fz (.int .i64 t.by))])]) [] := by
  obtain ⟨k, s, n, l⟩ := t
  refine AC.vc hP sh lv69 (Nat.le_refl _) (by simp) (by simp) (Eq.mpr (v69 k s n (FTs l) _ _) ?_)
  refine br_of (fun h => ⟨?_, rfl⟩) (fun h => br_of (fun h2 => ⟨?_, rfl⟩) (fun h2 => ⟨?_, rfl⟩))
  · have e1 : kidsV (.mk k s n l) = .sl false 4 (FTs l) := by unfold kidsV Tm.inner; simp only [Tm.k, h, Bool.true_or, if_true, Tm.l]
    have e2 : Tm.by (.mk k s n l) = 1 := by unfold Tm.by; simp only [Tm.k, h, if_true]
    rw [e1, e2]; exact .refl _
  · have e1 : kidsV (.mk k s n l) = .sl false 4 (FTs l) := by unfold kidsV Tm.inner; simp only [Tm.k, h2, Bool.or_true, if_true, Tm.l]
    have e2 : Tm.by (.mk k s n l) = 0 := by unfold Tm.by; simp only [Tm.k, h, Bool.false_eq_true, if_false]
    rw [e1, e2]; exact .refl _
  · have e1 : kidsV (.mk k s n l) = .nils := by unfold kidsV Tm.inner; simp only [Tm.k, h, h2, Bool.or_self, Bool.false_eq_true, if_false]
    have e2 : Tm.by (.mk k s n l) = 0 := by unfold Tm.by; simp only [Tm.k, h, Bool.false_eq_true, if_false]
    rw [e1, e2]; exact .refl _
mutual
def sizeF : Tm → Nat
  | .mk k _ _ l => 1 + if (k == 5 || k == 6) = true then sizeL l else 0
def sizeL : List Tm → Nat
  | [] => 0
  | t :: l => sizeF t + sizeL l
end
theorem sizeF_eq (t : Tm) : sizeF t = 1 + sizeL t.kids := by
  obtain ⟨k, s, n, l⟩ := t
  by_cases h : (k == 5 || k == 6) = true
  · rw [show Tm.kids (.mk k s n l) = l from if_pos h, sizeF, if_pos h]
  · rw [show Tm.kids (.mk k s n l) = [] from if_neg h, sizeF, if_neg h]; rfl
mutual
theorem sizeF_le : ∀ t : Tm, sizeF t ≤ t.sz
  | .mk k s n l => by have := sizeL_le l; simp only [sizeF, Tm.sz]; split <;> omega
theorem sizeL_le : ∀ l : List Tm, sizeL l ≤ Tm.szs l
  | [] => Nat.le_refl _
  | t :: l => by have := sizeF_le t; have := sizeL_le l; simp only [sizeL, Tm.szs]; omega
end
theorem l_size : ∀ (b a : List Tm) (v : FV) (acc : Nat), v.ses = FTs (a ++ b) → v.isSl 4 = true → (∀ u ∈ b, AC Try.prog 23 [aT u] [] (ci (sizeF u)) []) → (a ++ b).length ≤ B → acc + sizeL b ≤ 2 * B →
    RPt Try.prog 23 0 (ci ((acc + sizeL b : Nat) : Int)) [] 1 ⟨[(3, ci acc), (13, .c (.a (.fz v))), (14, ci (a ++ b).length), (15, ci a.length)], [], 0⟩
  | [], a, v, acc, hv, hs, _, hl, ha => by
    refine RPt.vc hP sh lv23 (Eq.mpr (v23_1a ..) ?_)
    exact br_of (fun h => absurd (of_decide_eq_true h) (by simp)) (fun _ => ret_i (by simp [sizeL]))
  | t :: b, a, v, acc, hv, hs, ih, hl, ha => by
    refine RPt.vc hP sh lv23 (Eq.mpr (v23_1a ..) ?_)
    have hl' := hl
    simp only [List.length_append, List.length_cons, B] at hl'
    simp only [sizeL, B] at ha
    have h1 := ih t List.mem_cons_self
    have h2 := l_size b (a ++ [t]) v (acc + sizeF t) (by rw [ap]; exact hv) hs (fun u hu => ih u (List.mem_cons_of_mem _ hu)) (by rw [ap]; exact hl) (by simp only [B]; omega)
    have h3 := ltI' a t b
    rw [ap, nx] at h2
    rw [hv, midI, w64 (x := (a.length : Int) + 1) (by omega) (by omega)]
    refine br_of (fun _ => ?_) (fun h => absurd (ltI a t b) (of_decide_eq_false h))
    rw [show acc + sizeL (t :: b) = acc + sizeF t + sizeL b by simp only [sizeL]; omega]
    obtain ⟨k', s', n', l'⟩ := t
    refine ⟨⟨hs, by omega, h3, rfl⟩, _, h1, ?_⟩
    rw [w64 (by omega) (by omega), show (acc : Int) + ((sizeF (.mk k' s' n' l') : Nat) : Int) = ((acc + sizeF (.mk k' s' n' l') : Nat) : Int) by omega]
    exact h2
theorem c_size : ∀ t : Tm, t.sz ≤ B → AC Try.prog 23 [aT t] [] (ci (sizeF t)) [] := by
  refine Tm.ind fun t ih hs => ?_
  have hw := c_within t
  have hk := kidsV_ses t
  have hsz := sizeF_eq t
  have hle := sizeF_le t
  have hkl : t.kids.length ≤ B ∧ (∀ u ∈ t.kids, u ∈ t.l) := by
    have := Tm.szs_length t.l
    rw [Tm.sz_eq] at hs
    unfold Tm.kids
    split
    · exact ⟨by simp only [B] at *; omega, fun u hu => hu⟩
    · exact ⟨by simp [B], fun u hu => by simp at hu⟩
  have key := l_size t.kids [] (kidsV t) 1 (by simpa using hk.1) hk.2 (fun u hu => ih u (hkl.2 u hu) (by have := Tm.szs_mem (hkl.2 u hu); rw [Tm.sz_eq] at hs; simp only [B] at *; omega)) (by simpa using hkl.1) (by simp only [B] at *; omega)
  refine AC.vc hP sh lv23 (Nat.le_refl _) (by simp) (by simp) (Eq.mpr (v23 ..) ?_)
  refine ⟨_, _, hw, hk.2, ?_⟩
  rw [hk.1, hsz, lenI]
  simpa using key

/-! ### How loose -/
mutual
/-- Numbers of what is bound, up to M. -/
def bd (M : Int) : Tm → Prop
  | .mk k _ n l => (k = 3 → 0 - M ≤ n ∧ n ≤ M) ∧ bds M l
def bds (M : Int) : List Tm → Prop
  | [] => True
  | t :: l => bd M t ∧ bds M l
end
theorem bds_mem {M : Int} : ∀ {l : List Tm} {t : Tm}, bds M l → t ∈ l → bd M t
  | x :: l, t, h, ht => by
    rcases List.mem_cons.1 ht with rfl | ht
    · exact h.1
    · exact bds_mem h.2 ht
theorem bd_l {M : Int} {t : Tm} (h : bd M t) : bds M t.l := by cases t; exact h.2
def maxI (a b : Int) : Int := if a ≤ b then b else a
theorem foldMax2 (a b : Int) : foldMax [a, b] = maxI a b := by
  simp only [foldMax, List.foldl, maxI, max, maxOfLe]
mutual
def looseF : Tm → Int → Int → Int
  | .mk kd _ n l, k, acc => if (kd == 5) = true then looseL l (k + 1) acc else if (kd == 6) = true then looseL l k acc else if (kd == 3) = true then maxI acc (n - k + 1) else acc
def looseL : List Tm → Int → Int → Int
  | [], _, acc => acc
  | t :: l, k, acc => looseL l k (looseF t k acc)
end
abbrev obj1 (n : Int) : AObj := .arr 1 [[.a (.fz (.int .i64 n))]]
theorem c_loose1 (u : Tm) (k acc : Int) (hb : u.k = 3 → 0 - 2305843009213693952 ≤ u.n ∧ u.n ≤ 2305843009213693952) (h0 : 0 ≤ k) (h1 : k ≤ 2305843009213693952) :
    AC Try.prog 67 [aT u, ci k, .c (.a (.ep 0 1 0 0))] [obj1 acc] (.tup []) [obj1 (if (u.k == 3) = true then maxI acc (u.n - k + 1) else acc)] := by
  obtain ⟨kd, s, n, l⟩ := u
  simp only [Tm.k, Tm.n] at hb
  refine AC.vc hP sh lv67 (Nat.le_refl _) (by simp [isLive]) (by simp) (Eq.mpr (v67 kd s n (FTs l) k acc _ _) ?_)
  refine br_of (fun h => ⟨.refl _, ?_⟩) (fun h => ⟨.refl _, ?_⟩)
  · have hk : kd = 3 := by simpa using h
    have := hb hk
    rw [w64 (x := n - k) (by omega) (by omega), w64 (x := n - k + 1) (by omega) (by omega), foldMax2]
    simp only [Tm.k, Tm.n, h, if_true]
  · simp only [Tm.k, h, Bool.false_eq_true, if_false]
abbrev tellL : TV := .c (.fn (.func 67) [] [(false, [.ep 0 1 0 0])])
theorem l_each (k by_ : Int) (h0 : 0 ≤ k) (hby : 0 ≤ by_) (hby1 : by_ ≤ 1) : ∀ (b a : List Tm) (v : FV) (acc : Int), v.ses = FTs (a ++ b) → v.isSl 4 = true →
    (∀ u ∈ b, ∀ acc, AC Try.prog 66 [aT u, ci (k + by_), tellL] [obj1 acc] (.tup []) [obj1 (looseF u (k + by_) acc)]) → (a ++ b).length ≤ B → k ≤ 2305843009213693952 →
    RPt Try.prog 66 1 (.tup []) [obj1 (looseL b (k + by_) acc)] 1 ⟨[(1, ci k), (2, tellL), (7, ci by_), (27, .c (.a (.fz v))), (28, ci (a ++ b).length), (29, ci a.length)], [(0, obj1 acc)], 1⟩
  | [], a, v, acc, hv, hs, _, hl, hk => by
    refine RPt.vc hP sh lv66 (Eq.mpr (v66_1a ..) ?_)
    exact br_of (fun h => absurd (of_decide_eq_true h) (by simp)) (fun _ => ⟨.refl _, rfl⟩)
  | t :: b, a, v, acc, hv, hs, ih, hl, hk => by
    refine RPt.vc hP sh lv66 (Eq.mpr (v66_1a ..) ?_)
    have hl' := hl
    simp only [List.length_append, List.length_cons, B] at hl'
    have h1 := ih t List.mem_cons_self acc
    have h2 := l_each k by_ h0 hby hby1 b (a ++ [t]) v (looseF t (k + by_) acc) (by rw [ap]; exact hv) hs (fun u hu => ih u (List.mem_cons_of_mem _ hu)) (by rw [ap]; exact hl) hk
    have h3 := ltI' a t b
    rw [ap, nx] at h2
    rw [hv, midI, w64 (x := (a.length : Int) + 1) (by omega) (by omega), w64 (x := k + by_) (by omega) (by omega)]
    refine br_of (fun _ => ?_) (fun h => absurd (ltI a t b) (of_decide_eq_false h))
    obtain ⟨k', s', n', l'⟩ := t
    exact ⟨⟨hs, by omega, h3, rfl⟩, .inl ⟨_, h1, h2⟩⟩
theorem c_each : ∀ t : Tm, t.sz ≤ B → bd 2305843009213693952 t → ∀ k acc : Int, 0 ≤ k → k + t.sz ≤ 2305843009213693952 → AC Try.prog 66 [aT t, ci k, tellL] [obj1 acc] (.tup []) [obj1 (looseF t k acc)] := by
  refine Tm.ind fun t ih hs hb k acc h0 h1 => ?_
  have hw := c_within t
  have hk := kidsV_ses t
  have hlen := Tm.szs_length t.l
  obtain ⟨kd, s, n, l⟩ := t
  simp only [Tm.sz, B, Tm.l] at hs hlen
  simp only [Tm.sz] at h1
  have key : ∀ by_ : Int, 0 ≤ by_ → by_ ≤ 1 → Tm.kids (.mk kd s n l) = l → RPt Try.prog 66 1 (.tup []) [obj1 (looseL l (k + by_) acc)] 1 ⟨[(1, ci k), (2, tellL), (7, ci by_), (27, .c (.a (.fz (kidsV (.mk kd s n l))))), (28, ci l.length), (29, ci 0)], [(0, obj1 acc)], 1⟩ := by
    intro by_ hb0 hb1 hkids
    have := l_each k by_ h0 hb0 hb1 l [] (kidsV (.mk kd s n l)) acc (by rw [hk.1, hkids]; rfl) hk.2 (fun u hu acc => ih u hu (by have := Tm.szs_mem hu; simp only [B]; omega) (bds_mem hb.2 hu) (k + by_) acc (by omega) (by have := Tm.szs_mem hu; omega)) (by simp only [List.nil_append, B]; omega) (by omega)
    simpa using this
  refine AC.vc hP sh lv66 (Nat.le_refl _) (by simp [isLive]) (by simp) (Eq.mpr (v66 kd s n (FTs l) k acc _ _) ?_)
  refine br_of (fun h => br_of (fun h2 => .inl ⟨_, c_loose1 (.mk kd s n l) k acc hb.1 h0 (by omega), .refl _, ?_⟩) (fun h2 => ⟨_, _, hw, hk.2, ?_⟩)) (fun h => ⟨_, _, hw, hk.2, ?_⟩)
  · have e1 : (kd == 5) = false := by simpa using h
    have e2 : (kd == 6) = false := by simpa using h2
    simp only [looseF, Tm.k, Tm.n, e1, e2, Bool.false_eq_true, if_false]
    rfl
  · have e1 : (kd == 5) = false := by simpa using h
    have e2 : (kd == 6) = true := by simpa using h2
    have ek : Tm.kids (.mk kd s n l) = l := by unfold Tm.kids Tm.inner; simp only [Tm.k, e2, Bool.or_true, if_true, Tm.l]
    have := key 0 (by omega) (by omega) ek
    rw [hk.1, ek, lenI, show Tm.by (.mk kd s n l) = 0 by unfold Tm.by; simp only [Tm.k, e1, Bool.false_eq_true, if_false]]
    simp only [looseF, e1, e2, Bool.false_eq_true, if_false, if_true]
    simpa using this
  · have e1 : (kd == 5) = true := by simpa using h
    have ek : Tm.kids (.mk kd s n l) = l := by unfold Tm.kids Tm.inner; simp only [Tm.k, e1, Bool.true_or, if_true, Tm.l]
    have := key 1 (by omega) (by omega) ek
    rw [hk.1, ek, lenI, show Tm.by (.mk kd s n l) = 1 by unfold Tm.by; simp only [Tm.k, e1, if_true]]
    simp only [looseF, e1, if_true]
    exact this
theorem c_loose (t : Tm) (hs : t.sz ≤ B) (hb : bd 2305843009213693952 t) : AC Try.prog 19 [aT t] [] (ci (looseF t 0 0)) [] := by
  have h := c_each t hs hb 0 0 (Int.le_refl _) (by simp only [B] at hs; omega)
  refine AC.vc hP sh lv19 (Nat.le_refl _) (by simp) (by simp) (Eq.mpr (v19 ..) ?_)
  exact .inl ⟨_, h, ret_i rfl⟩
end Go.AM
