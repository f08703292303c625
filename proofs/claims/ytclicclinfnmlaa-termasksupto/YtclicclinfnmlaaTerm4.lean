/- The contract of walk's method term, from that of the leaf function. No conditions. -/
import Derived.Test.YtclicclinfnmlaaTerm3
set_option maxRecDepth 100000
open Go Go.Proofs
namespace Go.AM

/-! ### Through a term -/
def withF (t : Tm) (out : List Tm) : Tm :=
  if (t.k == 6) = true ∧ 1 < out.length ∧ ((out.headD default).k == 6) = true ∧ ((t.l.headD default).k != 6) = true then applyF (out.headD default) out.tail else .mk t.k t.s t.n out
mutual
def walkF (lf : Tm → Int → Tm) : Tm → Int → Tm
  | .mk k s n l, d => if (k == 5 || k == 6) = true then withF (.mk k s n l) (walkL lf l (d + if (k == 5) = true then 1 else 0)) else lf (.mk k s n l) d
def walkL (lf : Tm → Int → Tm) : List Tm → Int → List Tm
  | [], _ => []
  | t :: l, d => walkF lf t d :: walkL lf l d
end


/-! walk.term for Sh -/
abbrev cloSh : TV := .agg [.fn (.func 62) [] [(false, [.ep 0 1 0 0]), (false, [.ep 1 1 0 0])]]
abbrev stSh (fr by1 : Int) (k by_ : Int) (kd : Int) (s : List UInt8) (n : Int) (l : List Tm) (w : AV) (i : Nat) (h : AHeap) (nx : Nat) : St :=
  ⟨[(2, ci k), (3, .c (.a (.ep 2 1 0 0))), (4, .c (.a (.ep 3 4 0 0))), (6, .c (.a (.ep 4 4 0 0))), (7, aL l), (8, ci by_), (9, .c (.a w)), (30, aL l), (31, ci l.length), (32, ci i)],
   [(0, (obj1 fr)), (1, (obj1 by1)), (2, .arr 1 [[.fn (.func 62) [] [(false, [.ep 0 1 0 0]), (false, [.ep 1 1 0 0])]]]), (3, .arr 4 [fzs (FT (.mk kd s n l))]), (4, .arr 4 [[.a (.fz (.int .i64 0)), .a (.fz (.str [])), .a (.fz (.int .i64 0)), .a (.fz .nils)]])] ++ h, nx⟩
theorem l_w2Sh (fr by1 : Int) (lf : Tm → Int → Tm) (k by_ : Int) (h0 : 0 ≤ k) (hk : k ≤ 2305843009213693952) (hb0 : 0 ≤ by_) (hb1 : by_ ≤ 1) (kd : Int) (s : List UInt8) (n : Int) (hin : (kd == 5 || kd == 6) = true) :
    ∀ (b a acc : List Tm), acc ≠ [] → acc.length = a.length → (a ++ b).length ≤ B → (∀ u ∈ acc ++ walkL lf b (k + by_), u.l.length ≤ 2 * B) →
    (∀ u ∈ b, AC Try.prog 64 [cloSh, aT u, ci (k + by_)] [(obj1 fr), (obj1 by1)] (aT (walkF lf u (k + by_))) [(obj1 fr), (obj1 by1)]) →
    RPt Try.prog 64 2 (aT (withF (.mk kd s n (a ++ b)) (acc ++ walkL lf b (k + by_)))) [(obj1 fr), (obj1 by1)] 1 (stSh fr by1 k by_ kd s n (a ++ b) (.osl 5 4 0 acc.length) a.length [(5, .arz 4 (FTs acc))] 6)
  | [], a, acc, hne, hlen, hl, hw, _ => by
    refine RPt.vc hP sh lv64 (Eq.mpr (v64_1b ..) ?_)
    match acc, a, hne, hlen with
    | o :: r, u :: a', _, hlen =>
    have e1 : List.take (o :: r).length (List.drop 0 (FTs (o :: r))) = FTs (o :: r) := by rw [List.drop_zero, List.take_of_length_le (by rw [FTs_length]; omega)]
    have e2 : (0 : Nat) + (o :: r).length ≤ (FTs (o :: r)).length := by rw [FTs_length]; omega
    have hrest : ∀ (k' : Int) (s' : List UInt8) (n' : Int), TV.Le (.agg [.a (.fz (.int .i64 k')), .a (.fz (.str s')), .a (.fz (.int .i64 n')), .a (.fz (.sl true 4 (List.take (o :: r).length (List.drop 0 (FTs (o :: r))))))]) (aT (.mk k' s' n' (o :: r))) := fun k' s' n' => by rw [e1]; exact leT leSl
    refine br_of (fun h => absurd (of_decide_eq_true h) (by simp)) (fun _ => br_of (fun h6 => br_of (fun h1 => ⟨⟨by omega, by simp⟩, ⟨by rw [FTs_length]; simp, by cases o; rfl, rfl⟩, br_of (fun ho => ⟨⟨rfl, by omega, by rw [List.append_nil]; show (0 : Int) < (((FTs (u :: a')).length : Nat) : Int); rw [FTs_length]; simp, by cases u; rfl⟩, br_of (fun hu => ?_) (fun hu => ⟨⟨rfl, e2⟩, ?_, rfl⟩)⟩) (fun ho => ⟨⟨rfl, e2⟩, ?_, rfl⟩)⟩) (fun h1 => ⟨⟨rfl, e2⟩, ?_, rfl⟩)) (fun h6 => ⟨⟨rfl, e2⟩, ?_, rfl⟩))
    · -- flat
      have hap := c_apply o r (by
        have := hw o (by simp)
        simp only [List.length_cons, List.length_append, List.length_nil, B] at hl hlen this ⊢; omega)
      have e3 : withF (.mk kd s n (u :: a' ++ [])) (o :: r ++ walkL lf [] (k + by_)) = applyF o r := by
        have c1 : 1 < (o :: r ++ walkL lf [] (k + by_)).length := by have := of_decide_eq_true h1; simp only [walkL, List.append_nil]; omega
        have c2 : (o.k == 6) = true := by cases o; exact ho
        have c3 : (u.k != 6) = true := by cases u; exact hu
        unfold withF
        rw [if_pos ⟨h6, c1, c2, c3⟩]
        simp [walkL]
      have e4 : List.take (Int.toNat ((o :: r).length : Int) - 1) (List.drop 1 (FTs (o :: r))) = FTs r := by
        rw [show Int.toNat ((o :: r).length : Int) - 1 = r.length by simp only [List.length_cons]; omega]
        show List.take r.length (FTs r) = FTs r
        rw [List.take_of_length_le (by rw [FTs_length]; omega)]
      have e5 : (1 : Nat) + (Int.toNat ((o :: r).length : Int) - 1) ≤ (FTs (o :: r)).length := by rw [FTs_length]; simp only [List.length_cons]; omega
      rw [e3]
      refine ⟨⟨by omega, by simp⟩, ⟨by rw [FTs_length]; simp, by cases o; rfl, rfl⟩, ⟨by omega, by simp; omega, by omega⟩, ⟨rfl, e5⟩, ?_⟩
      rw [e4]
      obtain ⟨k1, s1, n1, l1⟩ := o
      exact ⟨_, _, _, _, hap.args ⟨.refl _, le_c leSl, trivial⟩, .refl _, rfl⟩
    · have e3 : withF (.mk kd s n (u :: a' ++ [])) (o :: r ++ walkL lf [] (k + by_)) = .mk kd s n (o :: r) := by
        simp only [walkL, List.append_nil]
        exact if_neg fun e => by
          have hu' : (u.k != 6) = false := by cases u; exact hu
          have : (u.k != 6) = true := e.2.2.2
          rw [hu'] at this; cases this
      rw [e3]; exact hrest _ _ _
    · have e3 : withF (.mk kd s n (u :: a' ++ [])) (o :: r ++ walkL lf [] (k + by_)) = .mk kd s n (o :: r) := by
        simp only [walkL, List.append_nil]
        exact if_neg fun e => by
          have ho' : (o.k == 6) = false := by cases o; exact ho
          have : (o.k == 6) = true := e.2.2.1
          rw [ho'] at this; cases this
      rw [e3]; exact hrest _ _ _
    · have e3 : withF (.mk kd s n (u :: a' ++ [])) (o :: r ++ walkL lf [] (k + by_)) = .mk kd s n (o :: r) := by
        simp only [walkL, List.append_nil]
        exact if_neg fun e => by have := e.2.1; have := of_decide_eq_false h1; omega
      rw [e3]; exact hrest _ _ _
    · have e3 : withF (.mk kd s n (u :: a' ++ [])) (o :: r ++ walkL lf [] (k + by_)) = .mk kd s n (o :: r) := by
        simp only [walkL, List.append_nil]
        exact if_neg fun e => by
          have h6' : (kd == 6) = false := h6
          have : (kd == 6) = true := e.1
          rw [h6'] at this; cases this
      rw [e3]; exact hrest _ _ _
  | t :: b, a, acc, hne, hlen, hl, hw, ih => by
    refine RPt.vc hP sh lv64 (Eq.mpr (v64_1b ..) ?_)
    have hl' := hl
    simp only [List.length_append, List.length_cons, B] at hl'
    have h1 := ih t List.mem_cons_self
    have h2 := l_w2Sh fr by1 lf k by_ h0 hk hb0 hb1 kd s n hin b (a ++ [t]) (acc ++ [walkF lf t (k + by_)]) (by simp) (by simp [hlen]) (by rw [ap]; exact hl)
      (by rw [List.append_assoc]; simpa [walkL] using hw) (fun u hu => ih u (List.mem_cons_of_mem _ hu))
    have h3 := ltI' a t b
    unfold stSh at h2
    rw [ap, show (((a ++ [t]).length : Nat) : Int) = (a.length : Int) + 1 from nx a t] at h2
    show br (decide ((a.length : Int) < (((a ++ t :: b).length : Nat) : Int))) ((FV.isSl 4 (.sl false 4 (FTs (a ++ t :: b))) = true ∧ _ ∧ _ ∧ _) ∧ _) _
    refine br_of (fun _ => ?_) (fun h => absurd (ltI a t b) (of_decide_eq_false h))
    have hm := midI a t b
    rw [show FV.ses (.sl false 4 (FTs (a ++ t :: b))) = FTs (a ++ t :: b) from rfl, hm, w64 (x := (a.length : Int) + 1) (by omega) (by omega), w64 (x := k + by_) (by omega) (by omega)]
    obtain ⟨k', s', n', l'⟩ := t
    refine ⟨⟨rfl, by omega, h3, rfl⟩, _, _, _, _, h1, Nat.le_refl _, ⟨by rw [FTs_length]; omega, roomI (by omega)⟩, ?_⟩
    have e5 : List.take acc.length (FTs acc) ++ FTs [walkF lf (.mk k' s' n' l') (k + by_)] = FTs (acc ++ [walkF lf (.mk k' s' n' l') (k + by_)]) := by rw [List.take_of_length_le (by rw [FTs_length]; omega), ← FTs_append]
    have e6 : FTs [walkF lf (.mk k' s' n' l') (k + by_)] = [[.int .i64 (walkF lf (.mk k' s' n' l') (k + by_)).k, .str (walkF lf (.mk k' s' n' l') (k + by_)).s, .int .i64 (walkF lf (.mk k' s' n' l') (k + by_)).n, .sl false 4 (FTs (walkF lf (.mk k' s' n' l') (k + by_)).l)]] := by
      rw [FTs, FTs, FT_eta]
    rw [e6] at e5
    rw [e5]
    rw [show acc ++ walkL lf (.mk k' s' n' l' :: b) (k + by_) = acc ++ walkF lf (.mk k' s' n' l') (k + by_) :: walkL lf b (k + by_) by simp [walkL]]
    rw [show (acc ++ [walkF lf (.mk k' s' n' l') (k + by_)]).length = acc.length + 1 by simp, List.append_assoc] at h2
    exact h2
theorem l_w1Sh (fr by1 : Int) (lf : Tm → Int → Tm) (k by_ : Int) (h0 : 0 ≤ k) (hk : k ≤ 2305843009213693952) (hb0 : 0 ≤ by_) (hb1 : by_ ≤ 1) (kd : Int) (s : List UInt8) (n : Int) (hin : (kd == 5 || kd == 6) = true) :
    ∀ (b : List Tm), b.length ≤ B → (∀ u ∈ walkL lf b (k + by_), u.l.length ≤ 2 * B) →
    (∀ u ∈ b, AC Try.prog 64 [cloSh, aT u, ci (k + by_)] [(obj1 fr), (obj1 by1)] (aT (walkF lf u (k + by_))) [(obj1 fr), (obj1 by1)]) →
    RPt Try.prog 64 2 (aT (withF (.mk kd s n b) (walkL lf b (k + by_)))) [(obj1 fr), (obj1 by1)] 1 (stSh fr by1 k by_ kd s n b (.fz .nils) 0 [] 5)
  | [], hl, hw, _ => by
    refine RPt.vc hP sh lv64 (Eq.mpr (v64_1a ..) ?_)
    have e : withF (.mk kd s n []) (walkL lf [] (k + by_)) = .mk kd s n [] := if_neg fun e => by have := e.2.1; simp [walkL] at this
    rw [e]
    exact br_of (fun h => absurd (of_decide_eq_true h) (by simp)) (fun _ => br_of (fun _ => ⟨rfl, leT leNil, rfl⟩) (fun _ => ⟨leT leNil, rfl⟩))
  | t :: b, hl, hw, ih => by
    refine RPt.vc hP sh lv64 (Eq.mpr (v64_1a ..) ?_)
    have hl' := hl
    simp only [List.length_cons, B] at hl'
    have h1 := ih t List.mem_cons_self
    have h2 := l_w2Sh fr by1 lf k by_ h0 hk hb0 hb1 kd s n hin b [t] [walkF lf t (k + by_)] (by simp) rfl (by simpa using hl) (by simpa [walkL] using hw) (fun u hu => ih u (List.mem_cons_of_mem _ hu))
    show br (decide ((0 : Int) < (((t :: b).length : Nat) : Int))) ((FV.isSl 4 (.sl false 4 (FTs (t :: b))) = true ∧ _ ∧ _ ∧ _) ∧ _) _
    refine br_of (fun _ => ?_) (fun h => absurd (of_decide_eq_false h) (by simp))
    rw [show FV.ses (.sl false 4 (FTs (t :: b))) = FTs (t :: b) from rfl, show List.getD (FTs (t :: b)) (Int.toNat ((0 : Nat) : Int)) [] = FT t from rfl, w64 (x := k + by_) (by omega) (by omega), w64 (x := ((0 : Nat) : Int) + 1) (by omega) (by omega)]
    obtain ⟨k', s', n', l'⟩ := t
    have h3 : (0 : Int) < (((FTs (.mk k' s' n' l' :: b)).length : Nat) : Int) := by rw [FTs_length]; simp
    refine ⟨⟨rfl, by omega, h3, rfl⟩, _, _, _, _, h1, Nat.le_refl _, roomI (by omega), ?_⟩
    have e6 : FTs [walkF lf (.mk k' s' n' l') (k + by_)] = [[.int .i64 (walkF lf (.mk k' s' n' l') (k + by_)).k, .str (walkF lf (.mk k' s' n' l') (k + by_)).s, .int .i64 (walkF lf (.mk k' s' n' l') (k + by_)).n, .sl false 4 (FTs (walkF lf (.mk k' s' n' l') (k + by_)).l)]] := by
      rw [FTs, FTs, FT_eta]
    unfold stSh at h2
    rw [e6] at h2
    exact h2
/-- THE CONTRACT: from the leaf function's. -/
theorem c_wSh (fr by1 : Int) (lf : Tm → Int → Tm) (Q : Tm → Int → Prop)
    (hq : ∀ (kd : Int) (s : List UInt8) (n : Int) (l : List Tm) (d : Int), Q (.mk kd s n l) d → (kd == 5 || kd == 6) = true → ∀ u ∈ l, Q u (d + if (kd == 5) = true then 1 else 0))
    (hleaf : ∀ (u : Tm) (d : Int), (u.k == 5 || u.k == 6) = false → Q u d → 0 ≤ d → d ≤ 2305843009213693952 → AC Try.prog 62 [aT u, ci d, .c (.a (.ep 0 1 0 0)), .c (.a (.ep 1 1 0 0))] [(obj1 fr), (obj1 by1)] (aT (lf u d)) [(obj1 fr), (obj1 by1)])
    (hwid : ∀ (u : Tm) (d : Int), Q u d → (walkF lf u d).l.length ≤ 2 * B) :
    ∀ t : Tm, t.sz ≤ B → ∀ k : Int, Q t k → 0 ≤ k → k + t.sz ≤ 2305843009213693952 → AC Try.prog 64 [cloSh, aT t, ci k] [(obj1 fr), (obj1 by1)] (aT (walkF lf t k)) [(obj1 fr), (obj1 by1)] := by
  refine Tm.ind fun t ih hs k hQ h0 h1 => ?_
  have hlen := Tm.szs_length t.l
  obtain ⟨kd, s, n, l⟩ := t
  simp only [Tm.sz, B, Tm.l] at hs hlen
  simp only [Tm.sz] at h1
  have key : ∀ by_ : Int, 0 ≤ by_ → by_ ≤ 1 → (by_ = if (kd == 5) = true then 1 else 0) → (hin : (kd == 5 || kd == 6) = true) → RPt Try.prog 64 2 (aT (walkF lf (.mk kd s n l) k)) [(obj1 fr), (obj1 by1)] 1 (stSh fr by1 k by_ kd s n l (.fz .nils) 0 [] 5) := by
    intro by_ hb0 hb1 hby hin
    have hQ' := hq kd s n l k hQ hin
    rw [← hby] at hQ'
    have := l_w1Sh fr by1 lf k by_ h0 (by omega) hb0 hb1 kd s n hin l (by simp only [B]; omega) (fun u hu => by
      have : ∀ {m : List Tm}, (∀ v ∈ m, Q v (k + by_)) → ∀ u ∈ walkL lf m (k + by_), u.l.length ≤ 2 * B := by
        intro m
        induction m with
        | nil => intro _ u hu; simp [walkL] at hu
        | cons v m ihm =>
          intro hm u hu
          simp only [walkL, List.mem_cons] at hu
          rcases hu with rfl | hu
          · exact hwid v _ (hm v List.mem_cons_self)
          · exact ihm (fun x hx => hm x (List.mem_cons_of_mem _ hx)) u hu
      exact this hQ' u hu) (fun u hu => ih u hu (by have := Tm.szs_mem hu; simp only [B]; omega) (k + by_) (hQ' u hu) (by omega) (by have := Tm.szs_mem hu; omega))
    rw [walkF, if_pos hin, ← hby]
    exact this
  refine AC.vc hP sh lv64 (Nat.le_refl _) (by simp [isLive]) (by simp) (Eq.mpr (v64 kd s n (FTs l) k fr by1 _ _) ?_)
  have wi : (kd == 5 || kd == 6) = true → AC Try.prog 69 [aT (.mk kd s n l)] [] (.tup [(false, [.a (.fz (.sl false 4 (FTs l)))]), (false, [.a (.fz (.int .i64 (if (kd == 5) = true then 1 else 0)))])]) [] := fun hin => by
    have hw := c_within (.mk kd s n l)
    rw [show kidsV (.mk kd s n l) = .sl false 4 (FTs l) from if_pos hin] at hw
    exact hw
  refine br_of (fun h => br_of (fun h2 => ?_) (fun h2 => ?_)) (fun h => ?_)
  · have e1 : (kd == 5) = false := by simpa using h
    have e2 : (kd == 6) = false := by simpa using h2
    have e : (kd == 5 || kd == 6) = false := by rw [e1, e2]; rfl
    have hl := hleaf (.mk kd s n l) k e hQ h0 (by omega)
    rw [show walkF lf (.mk kd s n l) k = lf (.mk kd s n l) k by rw [walkF, if_neg (by rw [e]; simp)]]
    exact ⟨_, _, _, _, hl, .refl _, rfl⟩
  · have e1 : (kd == 5) = false := by simpa using h
    have e2 : (kd == 6) = true := by simpa using h2
    have hin : (kd == 5 || kd == 6) = true := by rw [e1, e2]; rfl
    have hk := key 0 (by omega) (by omega) (by rw [e1]; rfl) hin
    have hw := wi hin
    rw [e1] at hw
    refine ⟨_, _, hw, rfl, ?_⟩
    show RPt _ _ _ _ _ _ ⟨[_, _, _, _, _, _, _, _, (31, ci (((FTs l).length : Nat) : Int)), _], _, _⟩
    rw [FTs_length]
    exact hk
  · have e1 : (kd == 5) = true := by simpa using h
    have hin : (kd == 5 || kd == 6) = true := by rw [e1]; rfl
    have hk := key 1 (by omega) (by omega) (by rw [e1]; rfl) hin
    have hw := wi hin
    rw [e1] at hw
    refine ⟨_, _, hw, rfl, ?_⟩
    show RPt _ _ _ _ _ _ ⟨[_, _, _, _, _, _, _, _, (31, ci (((FTs l).length : Nat) : Int)), _], _, _⟩
    rw [FTs_length]
    exact hk


/-! walk.term for Su -/
abbrev cloSu : TV := .agg [.fn (.func 65) [] [(false, [.ep 0 1 0 0]), (false, [.ep 1 4 0 0])]]
abbrev stSu (ix : Int) (sk : Int) (ss : List UInt8) (sn : Int) (sl : List Tm) (k by_ : Int) (kd : Int) (s : List UInt8) (n : Int) (l : List Tm) (w : AV) (i : Nat) (h : AHeap) (nx : Nat) : St :=
  ⟨[(2, ci k), (3, .c (.a (.ep 2 1 0 0))), (4, .c (.a (.ep 3 4 0 0))), (6, .c (.a (.ep 4 4 0 0))), (7, aL l), (8, ci by_), (9, .c (.a w)), (30, aL l), (31, ci l.length), (32, ci i)],
   [(0, (obj1 ix)), (1, (.arr 4 [fzs (FT (.mk sk ss sn sl))])), (2, .arr 1 [[.fn (.func 65) [] [(false, [.ep 0 1 0 0]), (false, [.ep 1 4 0 0])]]]), (3, .arr 4 [fzs (FT (.mk kd s n l))]), (4, .arr 4 [[.a (.fz (.int .i64 0)), .a (.fz (.str [])), .a (.fz (.int .i64 0)), .a (.fz .nils)]])] ++ h, nx⟩
theorem l_w2Su (ix : Int) (sk : Int) (ss : List UInt8) (sn : Int) (sl : List Tm) (lf : Tm → Int → Tm) (k by_ : Int) (h0 : 0 ≤ k) (hk : k ≤ 2305843009213693952) (hb0 : 0 ≤ by_) (hb1 : by_ ≤ 1) (kd : Int) (s : List UInt8) (n : Int) (hin : (kd == 5 || kd == 6) = true) :
    ∀ (b a acc : List Tm), acc ≠ [] → acc.length = a.length → (a ++ b).length ≤ B → (∀ u ∈ acc ++ walkL lf b (k + by_), u.l.length ≤ 2 * B) →
    (∀ u ∈ b, AC Try.prog 64 [cloSu, aT u, ci (k + by_)] [(obj1 ix), (.arr 4 [fzs (FT (.mk sk ss sn sl))])] (aT (walkF lf u (k + by_))) [(obj1 ix), (.arr 4 [fzs (FT (.mk sk ss sn sl))])]) →
    RPt Try.prog 64 2 (aT (withF (.mk kd s n (a ++ b)) (acc ++ walkL lf b (k + by_)))) [(obj1 ix), (.arr 4 [fzs (FT (.mk sk ss sn sl))])] 1 (stSu ix sk ss sn sl k by_ kd s n (a ++ b) (.osl 5 4 0 acc.length) a.length [(5, .arz 4 (FTs acc))] 6)
  | [], a, acc, hne, hlen, hl, hw, _ => by
    refine RPt.vc hP sh lv64 (Eq.mpr (v64_i1_1b ..) ?_)
    match acc, a, hne, hlen with
    | o :: r, u :: a', _, hlen =>
    have e1 : List.take (o :: r).length (List.drop 0 (FTs (o :: r))) = FTs (o :: r) := by rw [List.drop_zero, List.take_of_length_le (by rw [FTs_length]; omega)]
    have e2 : (0 : Nat) + (o :: r).length ≤ (FTs (o :: r)).length := by rw [FTs_length]; omega
    have hrest : ∀ (k' : Int) (s' : List UInt8) (n' : Int), TV.Le (.agg [.a (.fz (.int .i64 k')), .a (.fz (.str s')), .a (.fz (.int .i64 n')), .a (.fz (.sl true 4 (List.take (o :: r).length (List.drop 0 (FTs (o :: r))))))]) (aT (.mk k' s' n' (o :: r))) := fun k' s' n' => by rw [e1]; exact leT leSl
    refine br_of (fun h => absurd (of_decide_eq_true h) (by simp)) (fun _ => br_of (fun h6 => br_of (fun h1 => ⟨⟨by omega, by simp⟩, ⟨by rw [FTs_length]; simp, by cases o; rfl, rfl⟩, br_of (fun ho => ⟨⟨rfl, by omega, by rw [List.append_nil]; show (0 : Int) < (((FTs (u :: a')).length : Nat) : Int); rw [FTs_length]; simp, by cases u; rfl⟩, br_of (fun hu => ?_) (fun hu => ⟨⟨rfl, e2⟩, ?_, rfl⟩)⟩) (fun ho => ⟨⟨rfl, e2⟩, ?_, rfl⟩)⟩) (fun h1 => ⟨⟨rfl, e2⟩, ?_, rfl⟩)) (fun h6 => ⟨⟨rfl, e2⟩, ?_, rfl⟩))
    · -- flat
      have hap := c_apply o r (by
        have := hw o (by simp)
        simp only [List.length_cons, List.length_append, List.length_nil, B] at hl hlen this ⊢; omega)
      have e3 : withF (.mk kd s n (u :: a' ++ [])) (o :: r ++ walkL lf [] (k + by_)) = applyF o r := by
        have c1 : 1 < (o :: r ++ walkL lf [] (k + by_)).length := by have := of_decide_eq_true h1; simp only [walkL, List.append_nil]; omega
        have c2 : (o.k == 6) = true := by cases o; exact ho
        have c3 : (u.k != 6) = true := by cases u; exact hu
        unfold withF
        rw [if_pos ⟨h6, c1, c2, c3⟩]
        simp [walkL]
      have e4 : List.take (Int.toNat ((o :: r).length : Int) - 1) (List.drop 1 (FTs (o :: r))) = FTs r := by
        rw [show Int.toNat ((o :: r).length : Int) - 1 = r.length by simp only [List.length_cons]; omega]
        show List.take r.length (FTs r) = FTs r
        rw [List.take_of_length_le (by rw [FTs_length]; omega)]
      have e5 : (1 : Nat) + (Int.toNat ((o :: r).length : Int) - 1) ≤ (FTs (o :: r)).length := by rw [FTs_length]; simp only [List.length_cons]; omega
      rw [e3]
      refine ⟨⟨by omega, by simp⟩, ⟨by rw [FTs_length]; simp, by cases o; rfl, rfl⟩, ⟨by omega, by simp; omega, by omega⟩, ⟨rfl, e5⟩, ?_⟩
      rw [e4]
      obtain ⟨k1, s1, n1, l1⟩ := o
      exact ⟨_, _, _, _, hap.args ⟨.refl _, le_c leSl, trivial⟩, .refl _, rfl⟩
    · have e3 : withF (.mk kd s n (u :: a' ++ [])) (o :: r ++ walkL lf [] (k + by_)) = .mk kd s n (o :: r) := by
        simp only [walkL, List.append_nil]
        exact if_neg fun e => by
          have hu' : (u.k != 6) = false := by cases u; exact hu
          have : (u.k != 6) = true := e.2.2.2
          rw [hu'] at this; cases this
      rw [e3]; exact hrest _ _ _
    · have e3 : withF (.mk kd s n (u :: a' ++ [])) (o :: r ++ walkL lf [] (k + by_)) = .mk kd s n (o :: r) := by
        simp only [walkL, List.append_nil]
        exact if_neg fun e => by
          have ho' : (o.k == 6) = false := by cases o; exact ho
          have : (o.k == 6) = true := e.2.2.1
          rw [ho'] at this; cases this
      rw [e3]; exact hrest _ _ _
    · have e3 : withF (.mk kd s n (u :: a' ++ [])) (o :: r ++ walkL lf [] (k + by_)) = .mk kd s n (o :: r) := by
        simp only [walkL, List.append_nil]
        exact if_neg fun e => by have := e.2.1; have := of_decide_eq_false h1; omega
      rw [e3]; exact hrest _ _ _
    · have e3 : withF (.mk kd s n (u :: a' ++ [])) (o :: r ++ walkL lf [] (k + by_)) = .mk kd s n (o :: r) := by
        simp only [walkL, List.append_nil]
        exact if_neg fun e => by
          have h6' : (kd == 6) = false := h6
          have : (kd == 6) = true := e.1
          rw [h6'] at this; cases this
      rw [e3]; exact hrest _ _ _
  | t :: b, a, acc, hne, hlen, hl, hw, ih => by
    refine RPt.vc hP sh lv64 (Eq.mpr (v64_i1_1b ..) ?_)
    have hl' := hl
    simp only [List.length_append, List.length_cons, B] at hl'
    have h1 := ih t List.mem_cons_self
    have h2 := l_w2Su ix sk ss sn sl lf k by_ h0 hk hb0 hb1 kd s n hin b (a ++ [t]) (acc ++ [walkF lf t (k + by_)]) (by simp) (by simp [hlen]) (by rw [ap]; exact hl)
      (by rw [List.append_assoc]; simpa [walkL] using hw) (fun u hu => ih u (List.mem_cons_of_mem _ hu))
    have h3 := ltI' a t b
    unfold stSu at h2
    rw [ap, show (((a ++ [t]).length : Nat) : Int) = (a.length : Int) + 1 from nx a t] at h2
    show br (decide ((a.length : Int) < (((a ++ t :: b).length : Nat) : Int))) ((FV.isSl 4 (.sl false 4 (FTs (a ++ t :: b))) = true ∧ _ ∧ _ ∧ _) ∧ _) _
    refine br_of (fun _ => ?_) (fun h => absurd (ltI a t b) (of_decide_eq_false h))
    have hm := midI a t b
    rw [show FV.ses (.sl false 4 (FTs (a ++ t :: b))) = FTs (a ++ t :: b) from rfl, hm, w64 (x := (a.length : Int) + 1) (by omega) (by omega), w64 (x := k + by_) (by omega) (by omega)]
    obtain ⟨k', s', n', l'⟩ := t
    refine ⟨⟨rfl, by omega, h3, rfl⟩, _, _, _, _, h1, Nat.le_refl _, ⟨by rw [FTs_length]; omega, roomI (by omega)⟩, ?_⟩
    have e5 : List.take acc.length (FTs acc) ++ FTs [walkF lf (.mk k' s' n' l') (k + by_)] = FTs (acc ++ [walkF lf (.mk k' s' n' l') (k + by_)]) := by rw [List.take_of_length_le (by rw [FTs_length]; omega), ← FTs_append]
    have e6 : FTs [walkF lf (.mk k' s' n' l') (k + by_)] = [[.int .i64 (walkF lf (.mk k' s' n' l') (k + by_)).k, .str (walkF lf (.mk k' s' n' l') (k + by_)).s, .int .i64 (walkF lf (.mk k' s' n' l') (k + by_)).n, .sl false 4 (FTs (walkF lf (.mk k' s' n' l') (k + by_)).l)]] := by
      rw [FTs, FTs, FT_eta]
    rw [e6] at e5
    rw [e5]
    rw [show acc ++ walkL lf (.mk k' s' n' l' :: b) (k + by_) = acc ++ walkF lf (.mk k' s' n' l') (k + by_) :: walkL lf b (k + by_) by simp [walkL]]
    rw [show (acc ++ [walkF lf (.mk k' s' n' l') (k + by_)]).length = acc.length + 1 by simp, List.append_assoc] at h2
    exact h2
theorem l_w1Su (ix : Int) (sk : Int) (ss : List UInt8) (sn : Int) (sl : List Tm) (lf : Tm → Int → Tm) (k by_ : Int) (h0 : 0 ≤ k) (hk : k ≤ 2305843009213693952) (hb0 : 0 ≤ by_) (hb1 : by_ ≤ 1) (kd : Int) (s : List UInt8) (n : Int) (hin : (kd == 5 || kd == 6) = true) :
    ∀ (b : List Tm), b.length ≤ B → (∀ u ∈ walkL lf b (k + by_), u.l.length ≤ 2 * B) →
    (∀ u ∈ b, AC Try.prog 64 [cloSu, aT u, ci (k + by_)] [(obj1 ix), (.arr 4 [fzs (FT (.mk sk ss sn sl))])] (aT (walkF lf u (k + by_))) [(obj1 ix), (.arr 4 [fzs (FT (.mk sk ss sn sl))])]) →
    RPt Try.prog 64 2 (aT (withF (.mk kd s n b) (walkL lf b (k + by_)))) [(obj1 ix), (.arr 4 [fzs (FT (.mk sk ss sn sl))])] 1 (stSu ix sk ss sn sl k by_ kd s n b (.fz .nils) 0 [] 5)
  | [], hl, hw, _ => by
    refine RPt.vc hP sh lv64 (Eq.mpr (v64_i1_1a ..) ?_)
    have e : withF (.mk kd s n []) (walkL lf [] (k + by_)) = .mk kd s n [] := if_neg fun e => by have := e.2.1; simp [walkL] at this
    rw [e]
    exact br_of (fun h => absurd (of_decide_eq_true h) (by simp)) (fun _ => br_of (fun _ => ⟨rfl, leT leNil, rfl⟩) (fun _ => ⟨leT leNil, rfl⟩))
  | t :: b, hl, hw, ih => by
    refine RPt.vc hP sh lv64 (Eq.mpr (v64_i1_1a ..) ?_)
    have hl' := hl
    simp only [List.length_cons, B] at hl'
    have h1 := ih t List.mem_cons_self
    have h2 := l_w2Su ix sk ss sn sl lf k by_ h0 hk hb0 hb1 kd s n hin b [t] [walkF lf t (k + by_)] (by simp) rfl (by simpa using hl) (by simpa [walkL] using hw) (fun u hu => ih u (List.mem_cons_of_mem _ hu))
    show br (decide ((0 : Int) < (((t :: b).length : Nat) : Int))) ((FV.isSl 4 (.sl false 4 (FTs (t :: b))) = true ∧ _ ∧ _ ∧ _) ∧ _) _
    refine br_of (fun _ => ?_) (fun h => absurd (of_decide_eq_false h) (by simp))
    rw [show FV.ses (.sl false 4 (FTs (t :: b))) = FTs (t :: b) from rfl, show List.getD (FTs (t :: b)) (Int.toNat ((0 : Nat) : Int)) [] = FT t from rfl, w64 (x := k + by_) (by omega) (by omega), w64 (x := ((0 : Nat) : Int) + 1) (by omega) (by omega)]
    obtain ⟨k', s', n', l'⟩ := t
    have h3 : (0 : Int) < (((FTs (.mk k' s' n' l' :: b)).length : Nat) : Int) := by rw [FTs_length]; simp
    refine ⟨⟨rfl, by omega, h3, rfl⟩, _, _, _, _, h1, Nat.le_refl _, roomI (by omega), ?_⟩
    have e6 : FTs [walkF lf (.mk k' s' n' l') (k + by_)] = [[.int .i64 (walkF lf (.mk k' s' n' l') (k + by_)).k, .str (walkF lf (.mk k' s' n' l') (k + by_)).s, .int .i64 (walkF lf (.mk k' s' n' l') (k + by_)).n, .sl false 4 (FTs (walkF lf (.mk k' s' n' l') (k + by_)).l)]] := by
      rw [FTs, FTs, FT_eta]
    unfold stSu at h2
    rw [e6] at h2
    exact h2
/-- THE CONTRACT: from the leaf function's. -/
theorem c_wSu (ix : Int) (sk : Int) (ss : List UInt8) (sn : Int) (sl : List Tm) (lf : Tm → Int → Tm) (Q : Tm → Int → Prop)
    (hq : ∀ (kd : Int) (s : List UInt8) (n : Int) (l : List Tm) (d : Int), Q (.mk kd s n l) d → (kd == 5 || kd == 6) = true → ∀ u ∈ l, Q u (d + if (kd == 5) = true then 1 else 0))
    (hleaf : ∀ (u : Tm) (d : Int), (u.k == 5 || u.k == 6) = false → Q u d → 0 ≤ d → d ≤ 2305843009213693952 → AC Try.prog 65 [aT u, ci d, .c (.a (.ep 0 1 0 0)), .c (.a (.ep 1 4 0 0))] [(obj1 ix), (.arr 4 [fzs (FT (.mk sk ss sn sl))])] (aT (lf u d)) [(obj1 ix), (.arr 4 [fzs (FT (.mk sk ss sn sl))])])
    (hwid : ∀ (u : Tm) (d : Int), Q u d → (walkF lf u d).l.length ≤ 2 * B) :
    ∀ t : Tm, t.sz ≤ B → ∀ k : Int, Q t k → 0 ≤ k → k + t.sz ≤ 2305843009213693952 → AC Try.prog 64 [cloSu, aT t, ci k] [(obj1 ix), (.arr 4 [fzs (FT (.mk sk ss sn sl))])] (aT (walkF lf t k)) [(obj1 ix), (.arr 4 [fzs (FT (.mk sk ss sn sl))])] := by
  refine Tm.ind fun t ih hs k hQ h0 h1 => ?_
  have hlen := Tm.szs_length t.l
  obtain ⟨kd, s, n, l⟩ := t
  simp only [Tm.sz, B, Tm.l] at hs hlen
  simp only [Tm.sz] at h1
  have key : ∀ by_ : Int, 0 ≤ by_ → by_ ≤ 1 → (by_ = if (kd == 5) = true then 1 else 0) → (hin : (kd == 5 || kd == 6) = true) → RPt Try.prog 64 2 (aT (walkF lf (.mk kd s n l) k)) [(obj1 ix), (.arr 4 [fzs (FT (.mk sk ss sn sl))])] 1 (stSu ix sk ss sn sl k by_ kd s n l (.fz .nils) 0 [] 5) := by
    intro by_ hb0 hb1 hby hin
    have hQ' := hq kd s n l k hQ hin
    rw [← hby] at hQ'
    have := l_w1Su ix sk ss sn sl lf k by_ h0 (by omega) hb0 hb1 kd s n hin l (by simp only [B]; omega) (fun u hu => by
      have : ∀ {m : List Tm}, (∀ v ∈ m, Q v (k + by_)) → ∀ u ∈ walkL lf m (k + by_), u.l.length ≤ 2 * B := by
        intro m
        induction m with
        | nil => intro _ u hu; simp [walkL] at hu
        | cons v m ihm =>
          intro hm u hu
          simp only [walkL, List.mem_cons] at hu
          rcases hu with rfl | hu
          · exact hwid v _ (hm v List.mem_cons_self)
          · exact ihm (fun x hx => hm x (List.mem_cons_of_mem _ hx)) u hu
      exact this hQ' u hu) (fun u hu => ih u hu (by have := Tm.szs_mem hu; simp only [B]; omega) (k + by_) (hQ' u hu) (by omega) (by have := Tm.szs_mem hu; omega))
    rw [walkF, if_pos hin, ← hby]
    exact this
  refine AC.vc hP sh lv64 (Nat.le_refl _) (by simp [isLive]) (by simp) (Eq.mpr (v64_i1 kd s n (FTs l) k ix sk ss sn (FTs sl) _ _) ?_)
  have wi : (kd == 5 || kd == 6) = true → AC Try.prog 69 [aT (.mk kd s n l)] [] (.tup [(false, [.a (.fz (.sl false 4 (FTs l)))]), (false, [.a (.fz (.int .i64 (if (kd == 5) = true then 1 else 0)))])]) [] := fun hin => by
    have hw := c_within (.mk kd s n l)
    rw [show kidsV (.mk kd s n l) = .sl false 4 (FTs l) from if_pos hin] at hw
    exact hw
  refine br_of (fun h => br_of (fun h2 => ?_) (fun h2 => ?_)) (fun h => ?_)
  · have e1 : (kd == 5) = false := by simpa using h
    have e2 : (kd == 6) = false := by simpa using h2
    have e : (kd == 5 || kd == 6) = false := by rw [e1, e2]; rfl
    have hl := hleaf (.mk kd s n l) k e hQ h0 (by omega)
    rw [show walkF lf (.mk kd s n l) k = lf (.mk kd s n l) k by rw [walkF, if_neg (by rw [e]; simp)]]
    exact ⟨_, _, _, _, hl, .refl _, rfl⟩
  · have e1 : (kd == 5) = false := by simpa using h
    have e2 : (kd == 6) = true := by simpa using h2
    have hin : (kd == 5 || kd == 6) = true := by rw [e1, e2]; rfl
    have hk := key 0 (by omega) (by omega) (by rw [e1]; rfl) hin
    have hw := wi hin
    rw [e1] at hw
    refine ⟨_, _, hw, rfl, ?_⟩
    show RPt _ _ _ _ _ _ ⟨[_, _, _, _, _, _, _, _, (31, ci (((FTs l).length : Nat) : Int)), _], _, _⟩
    rw [FTs_length]
    exact hk
  · have e1 : (kd == 5) = true := by simpa using h
    have hin : (kd == 5 || kd == 6) = true := by rw [e1]; rfl
    have hk := key 1 (by omega) (by omega) (by rw [e1]; rfl) hin
    have hw := wi hin
    rw [e1] at hw
    refine ⟨_, _, hw, rfl, ?_⟩
    show RPt _ _ _ _ _ _ ⟨[_, _, _, _, _, _, _, _, (31, ci (((FTs l).length : Nat) : Int)), _], _, _⟩
    rw [FTs_length]
    exact hk

end Go.AM
