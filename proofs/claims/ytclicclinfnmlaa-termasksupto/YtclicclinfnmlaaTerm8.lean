/- The contracts of law functions, and the plain laws behind them (Term8). No conditions. -/
import Derived.Test.YtclicclinfnmlaaLaw4
set_option maxRecDepth 100000
open Go Go.Proofs
namespace Go.AM
/-! ### Rows of numbers -/
def IR (l : List Int) : List (List FV) := l.map fun n => [.int .i64 n]
abbrev aI (l : List Int) : TV := .c (.a (.fz (.sl false 1 (IR l))))
theorem IR_length (l : List Int) : (IR l).length = l.length := by simp [IR]
theorem IR_append (a b : List Int) : IR (a ++ b) = IR a ++ IR b := by simp [IR]
theorem midN (a : List Int) (x : Int) (b : List Int) : List.getD (IR (a ++ x :: b)) (Int.toNat (a.length : Int)) [] = [.int .i64 x] := by
  rw [show Int.toNat (a.length : Int) = a.length by omega]
  simp [List.getD, IR]
theorem ltN (a : List Int) (t : Int) (b : List Int) : (a.length : Int) < (((IR (a ++ t :: b)).length : Nat) : Int) := by rw [IR_length]; exact ltI a t b
def hasI (v : Int) (l : List Int) : Bool := l.any fun x => v == x
def idxI (v : Int) : List Int → Int → Int
  | [], _ => -1
  | x :: l, i => if (v == x) = true then i else idxI v l (i + 1)
theorem idxI_ge (v : Int) : ∀ (l : List Int) (i : Int), 0 ≤ i → decide (idxI v l i ≥ 0) = hasI v l
  | [], _, _ => rfl
  | x :: l, i, h => by
    rw [idxI]
    split
    · rename_i e; simp [hasI, e, h]
    · rename_i e; rw [idxI_ge v l (i + 1) (by omega)]; simp [hasI, show (v == x) = false by simpa using e]
theorem l_iindex (v : Int) : ∀ (b a : List Int), (a ++ b).length ≤ B → RPt Try.prog 103 0 (ci (idxI v b a.length)) [] 1 ⟨[(0, aI (a ++ b)), (1, ci v), (7, ci (((IR (a ++ b)).length : Nat) : Int)), (8, ci a.length)], [], 0⟩
  | [], a, hl => by
    refine RPt.vc hP sh lv103 (Eq.mpr (v103_1a ..) ?_)
    exact br_of (fun h => absurd (of_decide_eq_true h) (by rw [IR_length]; simp)) (fun _ => ret_i rfl)
  | x :: b, a, hl => by
    refine RPt.vc hP sh lv103 (Eq.mpr (v103_1a ..) ?_)
    have hl' := hl
    simp only [List.length_append, List.length_cons, B] at hl'
    have h2 := l_iindex v b (a ++ [x]) (by rw [ap]; exact hl)
    rw [ap, nx] at h2
    rw [midN, w64 (x := (a.length : Int) + 1) (by omega) (by omega)]
    refine br_of (fun _ => ⟨⟨rfl, by omega, ltN a x b, rfl⟩, br_of (fun h => ?_) (fun h => ?_)⟩) (fun h => absurd (ltN a x b) (of_decide_eq_false h))
    · rw [idxI, if_pos (show (v == x) = true from h)]; exact ret_i rfl
    · rw [idxI, if_neg (by rw [show (v == x) = false from h]; simp)]; exact h2
theorem c_icontains (l : List Int) (v : Int) (hl : l.length ≤ B) : AC Try.prog 71 [aI l, ci v] [] (cb (hasI v l)) [] := by
  have h1 : AC Try.prog 103 [aI l, ci v] [] (ci (idxI v l 0)) [] := by
    refine AC.vc hP sh lv103 (Nat.le_refl _) (by simp) (by simp) (Eq.mpr (v103 ..) ?_)
    exact ⟨rfl, l_iindex v l [] hl⟩
  refine AC.vc hP sh lv71 (Nat.le_refl _) (by simp) (by simp) (Eq.mpr (v71 ..) ?_)
  exact ⟨_, h1, ret_b (idxI_ge v l 0 (Int.le_refl _))⟩
/-! ### Variables -/
def varsLeaf (u : Tm) (l : List Int) : List Int := if (u.k == 4 && !hasI u.n l) = true then l ++ [u.n] else l
mutual
def varsF : Tm → List Int → List Int
  | .mk k s n l, acc => if (k == 5 || k == 6) = true then varsL l acc else varsLeaf (.mk k s n l) acc
def varsL : List Tm → List Int → List Int
  | [], acc => acc
  | t :: l, acc => varsL l (varsF t acc)
end
mutual
theorem varsF_ext : ∀ (t : Tm) (acc : List Int), ∃ e, varsF t acc = acc ++ e
  | .mk k s n l, acc => by
    rw [varsF]
    split
    · exact varsL_ext l acc
    · unfold varsLeaf
      split
      · exact ⟨_, rfl⟩
      · exact ⟨[], by simp⟩
theorem varsL_ext : ∀ (l : List Tm) (acc : List Int), ∃ e, varsL l acc = acc ++ e
  | [], acc => ⟨[], by simp [varsL]⟩
  | t :: l, acc => by
    obtain ⟨e, h⟩ := varsF_ext t acc
    obtain ⟨e', h'⟩ := varsL_ext l (varsF t acc)
    exact ⟨e ++ e', by rw [varsL, h', h, List.append_assoc]⟩
end
mutual
theorem varsF_len : ∀ (t : Tm) (acc : List Int), (varsF t acc).length ≤ acc.length + t.sz
  | .mk k s n l, acc => by
    rw [varsF]
    split
    · have := varsL_len l acc; simp only [Tm.sz]; omega
    · unfold varsLeaf
      split
      · simp only [List.length_append, List.length_cons, List.length_nil, Tm.sz]; omega
      · omega
theorem varsL_len : ∀ (l : List Tm) (acc : List Int), (varsL l acc).length ≤ acc.length + Tm.szs l
  | [], acc => by simp [varsL]
  | t :: l, acc => by
    have h1 := varsF_len t acc
    have h2 := varsL_len l (varsF t acc)
    simp only [varsL, Tm.szs]; omega
end
/-- The variable that holds the row: nil, or what it points to. -/
def HsV : List Int → List AObj
  | [] => [.arr 1 [[.a (.fz .nils)]]]
  | x :: l => [.arr 1 [[.a (.osl 1 1 0 (x :: l).length)]], .arz 1 (IR (x :: l))]
/-- ... behind a call that came with l and leaves l'. -/
def HsW (l l' : List Int) : List AObj := if l' = l then HsV l else if l = [] then HsV l' else [.arr 1 [[.a (.osl 2 1 0 l'.length)]], .gone, .arz 1 (IR l')]
theorem HsV_ne {l : List Int} (h : l ≠ []) : HsV l = [.arr 1 [[.a (.osl 1 1 0 l.length)]], .arz 1 (IR l)] := by
  match l, h with
  | x :: l, _ => rfl
theorem HsV_len (l : List Int) : 1 ≤ (HsV l).length := by cases l <;> simp [HsV]
theorem HsV_live : ∀ (l : List Int) (x : AObj), x ∈ HsV l → isLive x
  | [], x, h => by simp [HsV] at h; subst h; trivial
  | y :: l, x, h => by
    simp only [HsV, List.mem_cons, List.not_mem_nil, or_false] at h
    rcases h with rfl | rfl <;> trivial
theorem HsW_nil (l' : List Int) : HsW [] l' = HsV l' := by unfold HsW; split <;> simp_all
theorem HsW_same (l : List Int) : HsW l l = HsV l := if_pos rfl
theorem HsW_more {l l' : List Int} (h : l ≠ []) (h' : l' ≠ l) : HsW l l' = [.arr 1 [[.a (.osl 2 1 0 l'.length)]], .gone, .arz 1 (IR l')] := by rw [HsW, if_neg h', if_neg h]
theorem takeIR (l : List Int) : List.take l.length (List.drop 0 (IR l)) = IR l := by rw [List.drop_zero, List.take_of_length_le (by rw [IR_length]; exact Nat.le_refl _)]
theorem roomN {n : Nat} (h : n ≤ 2199023255552) : roomB n 8 := by unfold roomB; omega
theorem c_vars1 (u : Tm) (k : Int) (l : List Int) (hl : l.length ≤ 2 * B) (hl' : l.length ≤ B) : AC Try.prog 70 [aT u, ci k, .c (.a (.ep 0 1 0 0))] (HsV l) (.tup []) (HsW l (varsLeaf u l)) := by
  have hc := c_icontains l u.n hl'
  obtain ⟨kd, s, n, kl⟩ := u
  simp only [B] at hl hl'
  by_cases hne : l = []
  · subst hne
    rw [HsW_nil]
    refine AC.vc hP sh lv70 (HsV_len _) (HsV_live []) (fun x hx => HsV_live _ x (List.mem_of_mem_drop hx)) (Eq.mpr (v70 kd s n (FTs kl) k _ _) ?_)
    refine br_of (fun h => ⟨_, hc.args ⟨le_c (.nils 1), .refl _, trivial⟩, br_of (fun h1 => ⟨by omega, roomN (by omega), ?_⟩) (fun h1 => ?_)⟩) (fun h => ?_)
    · rw [show varsLeaf (.mk kd s n kl) [] = [n] from if_pos (by simp [Tm.k, Tm.n, hasI] at h ⊢; exact h)]
      exact ⟨.refl _, rfl⟩
    · exact absurd h1 (by simp [hasI])
    · rw [show varsLeaf (.mk kd s n kl) [] = [] from if_neg (by intro e; rw [Bool.and_eq_true] at e; rw [show (Tm.k (.mk kd s n kl) == 4) = false from h] at e; cases e.1)]
      exact ⟨.refl _, rfl⟩
  · have hv := HsV_ne hne
    rw [hv]
    have hw : ∀ l', varsLeaf (.mk kd s n kl) l = l' → l' ≠ l → HsW l (varsLeaf (.mk kd s n kl) l) = [.arr 1 [[.a (.osl 2 1 0 l'.length)]], .gone, .arz 1 (IR l')] := fun l' h h' => by rw [h, HsW_more hne h']
    have hsame : varsLeaf (.mk kd s n kl) l = l → HsW l (varsLeaf (.mk kd s n kl) l) = [.arr 1 [[.a (.osl 1 1 0 l.length)]], .arz 1 (IR l)] := fun h => by rw [h, HsW_same, hv]
    have hdic : varsLeaf (.mk kd s n kl) l = l ∨ varsLeaf (.mk kd s n kl) l = l ++ [n] := by unfold varsLeaf; split <;> simp [Tm.n]
    have hlen : 2 ≤ (HsW l (varsLeaf (.mk kd s n kl) l)).length ∧ (1 : Nat) = 1 := by
      rcases hdic with h | h
      · rw [hsame h]; simp
      · rw [hw _ h (by simp)]; simp
    refine AC.vc hP sh lv70 hlen.1 (by simp [isLive]) (by
      rcases hdic with h | h
      · rw [hsame h]; simp
      · rw [hw _ h (by simp)]; simp [isLive]) (Eq.mpr (v70_i1 kd s n (FTs kl) k l.length (IR l) _ _) ?_)
    rw [takeIR]
    refine br_of (fun h => ⟨⟨rfl, by rw [IR_length]; omega⟩, _, hc.args ⟨le_c (.nn _ _ _), .refl _, trivial⟩, rfl, br_of (fun h1 => ⟨by omega, ⟨by rw [IR_length]; omega, roomN (by omega)⟩, ?_⟩) (fun h1 => ?_)⟩) (fun h => ?_)
    · have e : varsLeaf (.mk kd s n kl) l = l ++ [n] := if_pos (by rw [show (Tm.k (.mk kd s n kl) == 4) = true from h]; simpa [Tm.n] using h1)
      rw [hw _ e (by simp), IR_append, List.take_of_length_le (by rw [IR_length]; omega), List.length_append]
      exact ⟨.refl _, rfl⟩
    · rw [hsame (if_neg (by intro e; rw [Bool.and_eq_true] at e; rw [show (!hasI (Tm.n (.mk kd s n kl)) l) = false from h1] at e; cases e.2))]
      exact ⟨.refl _, rfl⟩
    · rw [hsame (if_neg (by intro e; rw [Bool.and_eq_true] at e; rw [show (Tm.k (.mk kd s n kl) == 4) = false from h] at e; cases e.1))]
      exact ⟨.refl _, rfl⟩
end Go.AM
