/- A calculus of plain values for the model's code, what the code of each function asks (computed by the kernel), contracts of the functions, and plain laws (part 5). No conditions. -/
import Derived.Test.YtdpjhpfjmjhhkaaPart4
import Derived.Test.YtdpjhpfjmjhhkaaPart3
import Derived.ProofKit
import Derived.OpenShut
import Derived.JoinedCond
import Derived.WalkKit
set_option maxRecDepth 100000
open Go Go.Proofs
namespace Go.AM


/-! ### Through a term -/
def withF (t : Tm) (out : List Tm) : Tm :=
  if (t.k == 6) = true ∧ 1 < out.length ∧ ((out.headD default).k == 6) = true ∧ ((t.l.headD default).k != 6) = true then applyF (out.headD default) out.tail else .mk t.k t.s t.n out
mutual
def walkF (lf : Tm → Int → Tm) : Tm → Int → Tm
  | .mk k s n l, d => if (k == 5 || k == 6) = true then withF (.mk k s n l) (walkL lf l (d + if (k == 5) = true then 1 else 0)) else lf (.mk k s n l) d
def walkL (lf : Tm → Int → Tm) : List Tm → Int → List Tm
  | [], _ => []
  | t :: l, d => walkF lf t d :: walkL lf l d
end


/-! walk.term for Sh -/
abbrev cloSh : TV := .agg [.fn (.func 119) [] [(false, [.ep 0 1 0 0]), (false, [.ep 1 1 0 0])]]
abbrev stSh (fr by1 : Int) (k by_ : Int) (kd : Int) (s : List UInt8) (n : Int) (l : List Tm) (w : AV) (i : Nat) (h : AHeap) (nx : Nat) : St :=
  ⟨[(2, ci k), (3, .c (.a (.ep 2 1 0 0))), (4, .c (.a (.ep 3 4 0 0))), (6, .c (.a (.ep 4 4 0 0))), (7, aL l), (8, ci by_), (9, .c (.a w)), (30, aL l), (31, ci l.length), (32, ci i)],
   [(0, (obj1 fr)), (1, (obj1 by1)), (2, .arr 1 [[.fn (.func 119) [] [(false, [.ep 0 1 0 0]), (false, [.ep 1 1 0 0])]]]), (3, .arr 4 [fzs (FT (.mk kd s n l))]), (4, .arr 4 [[.a (.fz (.int .i64 0)), .a (.fz (.str [])), .a (.fz (.int .i64 0)), .a (.fz .nils)]])] ++ h, nx⟩
theorem l_w2Sh (fr by1 : Int) (lf : Tm → Int → Tm) (k by_ : Int) (h0 : 0 ≤ k) (hk : k ≤ 2305843009213693952) (hb0 : 0 ≤ by_) (hb1 : by_ ≤ 1) (kd : Int) (s : List UInt8) (n : Int) (hin : (kd == 5 || kd == 6) = true) :
    ∀ (b a acc : List Tm), acc ≠ [] → acc.length = a.length → (a ++ b).length ≤ B → (∀ u ∈ acc ++ walkL lf b (k + by_), u.l.length ≤ 2 * B) →
    (∀ u ∈ b, AC Try.prog 121 [cloSh, aT u, ci (k + by_)] [(obj1 fr), (obj1 by1)] (aT (walkF lf u (k + by_))) [(obj1 fr), (obj1 by1)]) →
    RPt Try.prog 121 2 (aT (withF (.mk kd s n (a ++ b)) (acc ++ walkL lf b (k + by_)))) [(obj1 fr), (obj1 by1)] 1 (stSh fr by1 k by_ kd s n (a ++ b) (.osl 5 4 0 acc.length) a.length [(5, .arz 4 (FTs acc))] 6)
  | [], a, acc, hne, hlen, hl, hw, _ => by
    refine RPt.vc hP sh lv121 (Eq.mpr (v121_F119_1b ..) ?_)
    match acc, a, hne, hlen with
    | o :: r, u :: a', _, hlen =>
    have e1 : List.take (o :: r).length (List.drop 0 (FTs (o :: r))) = FTs (o :: r) := by rw [List.drop_zero, List.take_of_length_le (by rw [FTs_length]; omega)]
    have e2 : (0 : Nat) + (o :: r).length ≤ (FTs (o :: r)).length := by rw [FTs_length]; omega
    have hrest : ∀ (k' : Int) (s' : List UInt8) (n' : Int), TV.Le (.agg [.a (.fz (.int .i64 k')), .a (.fz (.str s')), .a (.fz (.int .i64 n')), .a (.fz (.sl false 4 (List.take (o :: r).length (List.drop 0 (FTs (o :: r))))))]) (aT (.mk k' s' n' (o :: r))) := fun k' s' n' => by rw [e1]; exact leT leSl
    refine br_of (fun h => absurd (of_decide_eq_true h) (by simp)) (fun _ => br_of (fun h6 => br_of (fun h1 => ⟨⟨by omega, by simp⟩, ⟨by rw [FTs_length]; simp, by cases o; rfl, rfl⟩, br_of (fun ho => ⟨⟨rfl, by omega, by rw [List.append_nil]; show (0 : Int) < (((FTs (u :: a')).length : Nat) : Int); rw [FTs_length]; simp, by cases u; rfl⟩, br_of (fun hu => ?_) (fun hu => ⟨⟨rfl, e2⟩, ?_, rfl⟩)⟩) (fun ho => ⟨⟨rfl, e2⟩, ?_, rfl⟩)⟩) (fun h1 => ⟨⟨rfl, e2⟩, ?_, rfl⟩)) (fun h6 => ⟨⟨rfl, e2⟩, ?_, rfl⟩))
    · -- flat
      have hap := c_apply o r (by
        have := hw o (by simp)
        simp only [List.length_cons, List.length_append, List.length_nil, B] at hl hlen this ⊢; omega)
      have e3 : withF (.mk kd s n (u :: a' ++ [])) (o :: r ++ walkL lf [] (k + by_)) = applyF o r := by
        have c1 : 1 < (o :: r ++ walkL lf [] (k + by_)).length := by have := of_decide_eq_true h1; simp only [walkL, List.append_nil]; omega
        have c2 : (o.k == 6) = true := by cases o; exact ho
        have c3 : (u.k != 6) = true := by cases u; exact hu
        unfold withF
        rw [if_pos ⟨h6, c1, c2, c3⟩]
        simp [walkL]
      have e4 : List.take (Int.toNat ((o :: r).length : Int) - 1) (List.drop 1 (FTs (o :: r))) = FTs r := by
        rw [show Int.toNat ((o :: r).length : Int) - 1 = r.length by simp only [List.length_cons]; omega]
        show List.take r.length (FTs r) = FTs r
        rw [List.take_of_length_le (by rw [FTs_length]; omega)]
      have e5 : (1 : Nat) + (Int.toNat ((o :: r).length : Int) - 1) ≤ (FTs (o :: r)).length := by rw [FTs_length]; simp only [List.length_cons]; omega
      rw [e3]
      refine ⟨⟨by omega, by simp⟩, ⟨by rw [FTs_length]; simp, by cases o; rfl, rfl⟩, ⟨by omega, by simp; omega, by omega⟩, ⟨rfl, e5⟩, ?_⟩
      rw [e4]
      obtain ⟨k1, s1, n1, l1⟩ := o
      exact ⟨_, hap.args ⟨.refl _, le_c leSl, trivial⟩, .refl _, rfl⟩
    · have e3 : withF (.mk kd s n (u :: a' ++ [])) (o :: r ++ walkL lf [] (k + by_)) = .mk kd s n (o :: r) := by
        simp only [walkL, List.append_nil]
        exact if_neg fun e => by
          have hu' : (u.k != 6) = false := by cases u; exact hu
          have : (u.k != 6) = true := e.2.2.2
          rw [hu'] at this; cases this
      rw [e3]; exact hrest _ _ _
    · have e3 : withF (.mk kd s n (u :: a' ++ [])) (o :: r ++ walkL lf [] (k + by_)) = .mk kd s n (o :: r) := by
        simp only [walkL, List.append_nil]
        exact if_neg fun e => by
          have ho' : (o.k == 6) = false := by cases o; exact ho
          have : (o.k == 6) = true := e.2.2.1
          rw [ho'] at this; cases this
      rw [e3]; exact hrest _ _ _
    · have e3 : withF (.mk kd s n (u :: a' ++ [])) (o :: r ++ walkL lf [] (k + by_)) = .mk kd s n (o :: r) := by
        simp only [walkL, List.append_nil]
        exact if_neg fun e => by have := e.2.1; have := of_decide_eq_false h1; omega
      rw [e3]; exact hrest _ _ _
    · have e3 : withF (.mk kd s n (u :: a' ++ [])) (o :: r ++ walkL lf [] (k + by_)) = .mk kd s n (o :: r) := by
        simp only [walkL, List.append_nil]
        exact if_neg fun e => by
          have h6' : (kd == 6) = false := h6
          have : (kd == 6) = true := e.1
          rw [h6'] at this; cases this
      rw [e3]; exact hrest _ _ _
  | t :: b, a, acc, hne, hlen, hl, hw, ih => by
    refine RPt.vc hP sh lv121 (Eq.mpr (v121_F119_1b ..) ?_)
    have hl' := hl
    simp only [List.length_append, List.length_cons, B] at hl'
    have h1 := ih t List.mem_cons_self
    have h2 := l_w2Sh fr by1 lf k by_ h0 hk hb0 hb1 kd s n hin b (a ++ [t]) (acc ++ [walkF lf t (k + by_)]) (by simp) (by simp [hlen]) (by rw [ap]; exact hl)
      (by rw [List.append_assoc]; simpa [walkL] using hw) (fun u hu => ih u (List.mem_cons_of_mem _ hu))
    have h3 := ltI' a t b
    unfold stSh at h2
    rw [ap, show (((a ++ [t]).length : Nat) : Int) = (a.length : Int) + 1 from nx a t] at h2
    show br (decide ((a.length : Int) < (((a ++ t :: b).length : Nat) : Int))) ((FV.isSl 4 (.sl false 4 (FTs (a ++ t :: b))) = true ∧ _ ∧ _ ∧ _) ∧ _) _
    refine br_of (fun _ => ?_) (fun h => absurd (ltI a t b) (of_decide_eq_false h))
    have hm := midI a t b
    rw [show FV.ses (.sl false 4 (FTs (a ++ t :: b))) = FTs (a ++ t :: b) from rfl, hm, w64 (x := (a.length : Int) + 1) (by omega) (by omega), w64 (x := k + by_) (by omega) (by omega)]
    obtain ⟨k', s', n', l'⟩ := t
    refine ⟨⟨rfl, by omega, h3, rfl⟩, _, h1, Nat.le_refl _, ⟨by rw [FTs_length]; omega, roomI (by omega)⟩, ?_⟩
    have e5 : List.take acc.length (FTs acc) ++ FTs [walkF lf (.mk k' s' n' l') (k + by_)] = FTs (acc ++ [walkF lf (.mk k' s' n' l') (k + by_)]) := by rw [List.take_of_length_le (by rw [FTs_length]; omega), ← FTs_append]
    have e6 : FTs [walkF lf (.mk k' s' n' l') (k + by_)] = [[.int .i64 (walkF lf (.mk k' s' n' l') (k + by_)).k, .str (walkF lf (.mk k' s' n' l') (k + by_)).s, .int .i64 (walkF lf (.mk k' s' n' l') (k + by_)).n, .sl false 4 (FTs (walkF lf (.mk k' s' n' l') (k + by_)).l)]] := by
      rw [FTs, FTs, FT_eta]
    rw [e6] at e5
    rw [e5]
    rw [show acc ++ walkL lf (.mk k' s' n' l' :: b) (k + by_) = acc ++ walkF lf (.mk k' s' n' l') (k + by_) :: walkL lf b (k + by_) by simp [walkL]]
    rw [show (acc ++ [walkF lf (.mk k' s' n' l') (k + by_)]).length = acc.length + 1 by simp, List.append_assoc] at h2
    exact h2
theorem l_w1Sh (fr by1 : Int) (lf : Tm → Int → Tm) (k by_ : Int) (h0 : 0 ≤ k) (hk : k ≤ 2305843009213693952) (hb0 : 0 ≤ by_) (hb1 : by_ ≤ 1) (kd : Int) (s : List UInt8) (n : Int) (hin : (kd == 5 || kd == 6) = true) :
    ∀ (b : List Tm), b.length ≤ B → (∀ u ∈ walkL lf b (k + by_), u.l.length ≤ 2 * B) →
    (∀ u ∈ b, AC Try.prog 121 [cloSh, aT u, ci (k + by_)] [(obj1 fr), (obj1 by1)] (aT (walkF lf u (k + by_))) [(obj1 fr), (obj1 by1)]) →
    RPt Try.prog 121 2 (aT (withF (.mk kd s n b) (walkL lf b (k + by_)))) [(obj1 fr), (obj1 by1)] 1 (stSh fr by1 k by_ kd s n b (.fz .nils) 0 [] 5)
  | [], hl, hw, _ => by
    refine RPt.vc hP sh lv121 (Eq.mpr (v121_F119_1a ..) ?_)
    have e : withF (.mk kd s n []) (walkL lf [] (k + by_)) = .mk kd s n [] := if_neg fun e => by have := e.2.1; simp [walkL] at this
    rw [e]
    exact br_of (fun h => absurd (of_decide_eq_true h) (by simp)) (fun _ => br_of (fun _ => ⟨rfl, leT leNil, rfl⟩) (fun _ => ⟨leT leNil, rfl⟩))
  | t :: b, hl, hw, ih => by
    refine RPt.vc hP sh lv121 (Eq.mpr (v121_F119_1a ..) ?_)
    have hl' := hl
    simp only [List.length_cons, B] at hl'
    have h1 := ih t List.mem_cons_self
    have h2 := l_w2Sh fr by1 lf k by_ h0 hk hb0 hb1 kd s n hin b [t] [walkF lf t (k + by_)] (by simp) rfl (by simpa using hl) (by simpa [walkL] using hw) (fun u hu => ih u (List.mem_cons_of_mem _ hu))
    show br (decide ((0 : Int) < (((t :: b).length : Nat) : Int))) ((FV.isSl 4 (.sl false 4 (FTs (t :: b))) = true ∧ _ ∧ _ ∧ _) ∧ _) _
    refine br_of (fun _ => ?_) (fun h => absurd (of_decide_eq_false h) (by simp))
    rw [show FV.ses (.sl false 4 (FTs (t :: b))) = FTs (t :: b) from rfl, show List.getD (FTs (t :: b)) (Int.toNat ((0 : Nat) : Int)) [] = FT t from rfl, w64 (x := k + by_) (by omega) (by omega), w64 (x := ((0 : Nat) : Int) + 1) (by omega) (by omega)]
    obtain ⟨k', s', n', l'⟩ := t
    have h3 : (0 : Int) < (((FTs (.mk k' s' n' l' :: b)).length : Nat) : Int) := by rw [FTs_length]; simp
    refine ⟨⟨rfl, by omega, h3, rfl⟩, _, h1, Nat.le_refl _, roomI (by omega), ?_⟩
    have e6 : FTs [walkF lf (.mk k' s' n' l') (k + by_)] = [[.int .i64 (walkF lf (.mk k' s' n' l') (k + by_)).k, .str (walkF lf (.mk k' s' n' l') (k + by_)).s, .int .i64 (walkF lf (.mk k' s' n' l') (k + by_)).n, .sl false 4 (FTs (walkF lf (.mk k' s' n' l') (k + by_)).l)]] := by
      rw [FTs, FTs, FT_eta]
    unfold stSh at h2
    rw [e6] at h2
    exact h2
/-- THE CONTRACT: from the leaf function's. -/
theorem c_wSh (fr by1 : Int) (lf : Tm → Int → Tm) (Q : Tm → Int → Prop)
    (hq : ∀ (kd : Int) (s : List UInt8) (n : Int) (l : List Tm) (d : Int), Q (.mk kd s n l) d → (kd == 5 || kd == 6) = true → ∀ u ∈ l, Q u (d + if (kd == 5) = true then 1 else 0))
    (hleaf : ∀ (u : Tm) (d : Int), (u.k == 5 || u.k == 6) = false → Q u d → 0 ≤ d → d ≤ 2305843009213693952 → AC Try.prog 119 [aT u, ci d, .c (.a (.ep 0 1 0 0)), .c (.a (.ep 1 1 0 0))] [(obj1 fr), (obj1 by1)] (aT (lf u d)) [(obj1 fr), (obj1 by1)])
    (hwid : ∀ (u : Tm) (d : Int), Q u d → (walkF lf u d).l.length ≤ 2 * B) :
    ∀ t : Tm, t.sz ≤ B → ∀ k : Int, Q t k → 0 ≤ k → k + t.sz ≤ 2305843009213693952 → AC Try.prog 121 [cloSh, aT t, ci k] [(obj1 fr), (obj1 by1)] (aT (walkF lf t k)) [(obj1 fr), (obj1 by1)] := by
  refine Tm.ind fun t ih hs k hQ h0 h1 => ?_
  have hlen := Tm.szs_length t.l
  obtain ⟨kd, s, n, l⟩ := t
  simp only [Tm.sz, B, Tm.l] at hs hlen
  simp only [Tm.sz] at h1
  have key : ∀ by_ : Int, 0 ≤ by_ → by_ ≤ 1 → (by_ = if (kd == 5) = true then 1 else 0) → (hin : (kd == 5 || kd == 6) = true) → RPt Try.prog 121 2 (aT (walkF lf (.mk kd s n l) k)) [(obj1 fr), (obj1 by1)] 1 (stSh fr by1 k by_ kd s n l (.fz .nils) 0 [] 5) := by
    intro by_ hb0 hb1 hby hin
    have hQ' := hq kd s n l k hQ hin
    rw [← hby] at hQ'
    have := l_w1Sh fr by1 lf k by_ h0 (by omega) hb0 hb1 kd s n hin l (by simp only [B]; omega) (fun u hu => by
      have : ∀ {m : List Tm}, (∀ v ∈ m, Q v (k + by_)) → ∀ u ∈ walkL lf m (k + by_), u.l.length ≤ 2 * B := by
        intro m
        induction m with
        | nil => intro _ u hu; simp [walkL] at hu
        | cons v m ihm =>
          intro hm u hu
          simp only [walkL, List.mem_cons] at hu
          rcases hu with rfl | hu
          · exact hwid v _ (hm v List.mem_cons_self)
          · exact ihm (fun x hx => hm x (List.mem_cons_of_mem _ hx)) u hu
      exact this hQ' u hu) (fun u hu => ih u hu (by have := Tm.szs_mem hu; simp only [B]; omega) (k + by_) (hQ' u hu) (by omega) (by have := Tm.szs_mem hu; omega))
    rw [walkF, if_pos hin, ← hby]
    exact this
  refine AC.vc hP sh lv121 (Nat.le_refl _) (by simp [isLive]) (by simp) (Eq.mpr (v121_F119 kd s n (FTs l) k fr by1 _ _) ?_)
  have wi : (kd == 5 || kd == 6) = true → AC Try.prog 84 [aT (.mk kd s n l)] [] (.tup [(false, [.a (.fz (.sl false 4 (FTs l)))]), (false, [.a (.fz (.int .i64 (if (kd == 5) = true then 1 else 0)))])]) [] := fun hin => by
    have hw := c_within (.mk kd s n l)
    rw [show kidsV (.mk kd s n l) = .sl false 4 (FTs l) from if_pos hin] at hw
    exact hw
  refine br_of (fun h => br_of (fun h2 => ?_) (fun h2 => ?_)) (fun h => ?_)
  · have e1 : (kd == 5) = false := by simpa using h
    have e2 : (kd == 6) = false := by simpa using h2
    have e : (kd == 5 || kd == 6) = false := by rw [e1, e2]; rfl
    have hl := hleaf (.mk kd s n l) k e hQ h0 (by omega)
    rw [show walkF lf (.mk kd s n l) k = lf (.mk kd s n l) k by rw [walkF, if_neg (by rw [e]; simp)]]
    exact ⟨_, hl, .refl _, rfl⟩
  · have e1 : (kd == 5) = false := by simpa using h
    have e2 : (kd == 6) = true := by simpa using h2
    have hin : (kd == 5 || kd == 6) = true := by rw [e1, e2]; rfl
    have hk := key 0 (by omega) (by omega) (by rw [e1]; rfl) hin
    have hw := wi hin
    rw [e1] at hw
    refine ⟨_, _, hw, rfl, ?_⟩
    show RPt _ _ _ _ _ _ ⟨[_, _, _, _, _, _, _, _, (31, ci (((FTs l).length : Nat) : Int)), _], _, _⟩
    rw [FTs_length]
    exact hk
  · have e1 : (kd == 5) = true := by simpa using h
    have hin : (kd == 5 || kd == 6) = true := by rw [e1]; rfl
    have hk := key 1 (by omega) (by omega) (by rw [e1]; rfl) hin
    have hw := wi hin
    rw [e1] at hw
    refine ⟨_, _, hw, rfl, ?_⟩
    show RPt _ _ _ _ _ _ ⟨[_, _, _, _, _, _, _, _, (31, ci (((FTs l).length : Nat) : Int)), _], _, _⟩
    rw [FTs_length]
    exact hk


/-! walk.term for Su -/
abbrev cloSu : TV := .agg [.fn (.func 126) [] [(false, [.ep 0 1 0 0]), (false, [.ep 1 4 0 0])]]
abbrev stSu (ix : Int) (sk : Int) (ss : List UInt8) (sn : Int) (sl : List Tm) (k by_ : Int) (kd : Int) (s : List UInt8) (n : Int) (l : List Tm) (w : AV) (i : Nat) (h : AHeap) (nx : Nat) : St :=
  ⟨[(2, ci k), (3, .c (.a (.ep 2 1 0 0))), (4, .c (.a (.ep 3 4 0 0))), (6, .c (.a (.ep 4 4 0 0))), (7, aL l), (8, ci by_), (9, .c (.a w)), (30, aL l), (31, ci l.length), (32, ci i)],
   [(0, (obj1 ix)), (1, (.arr 4 [fzs (FT (.mk sk ss sn sl))])), (2, .arr 1 [[.fn (.func 126) [] [(false, [.ep 0 1 0 0]), (false, [.ep 1 4 0 0])]]]), (3, .arr 4 [fzs (FT (.mk kd s n l))]), (4, .arr 4 [[.a (.fz (.int .i64 0)), .a (.fz (.str [])), .a (.fz (.int .i64 0)), .a (.fz .nils)]])] ++ h, nx⟩
theorem l_w2Su (ix : Int) (sk : Int) (ss : List UInt8) (sn : Int) (sl : List Tm) (lf : Tm → Int → Tm) (k by_ : Int) (h0 : 0 ≤ k) (hk : k ≤ 2305843009213693952) (hb0 : 0 ≤ by_) (hb1 : by_ ≤ 1) (kd : Int) (s : List UInt8) (n : Int) (hin : (kd == 5 || kd == 6) = true) :
    ∀ (b a acc : List Tm), acc ≠ [] → acc.length = a.length → (a ++ b).length ≤ B → (∀ u ∈ acc ++ walkL lf b (k + by_), u.l.length ≤ 2 * B) →
    (∀ u ∈ b, AC Try.prog 121 [cloSu, aT u, ci (k + by_)] [(obj1 ix), (.arr 4 [fzs (FT (.mk sk ss sn sl))])] (aT (walkF lf u (k + by_))) [(obj1 ix), (.arr 4 [fzs (FT (.mk sk ss sn sl))])]) →
    RPt Try.prog 121 2 (aT (withF (.mk kd s n (a ++ b)) (acc ++ walkL lf b (k + by_)))) [(obj1 ix), (.arr 4 [fzs (FT (.mk sk ss sn sl))])] 1 (stSu ix sk ss sn sl k by_ kd s n (a ++ b) (.osl 5 4 0 acc.length) a.length [(5, .arz 4 (FTs acc))] 6)
  | [], a, acc, hne, hlen, hl, hw, _ => by
    refine RPt.vc hP sh lv121 (Eq.mpr (v121_F126_1b ..) ?_)
    match acc, a, hne, hlen with
    | o :: r, u :: a', _, hlen =>
    have e1 : List.take (o :: r).length (List.drop 0 (FTs (o :: r))) = FTs (o :: r) := by rw [List.drop_zero, List.take_of_length_le (by rw [FTs_length]; omega)]
    have e2 : (0 : Nat) + (o :: r).length ≤ (FTs (o :: r)).length := by rw [FTs_length]; omega
    have hrest : ∀ (k' : Int) (s' : List UInt8) (n' : Int), TV.Le (.agg [.a (.fz (.int .i64 k')), .a (.fz (.str s')), .a (.fz (.int .i64 n')), .a (.fz (.sl false 4 (List.take (o :: r).length (List.drop 0 (FTs (o :: r))))))]) (aT (.mk k' s' n' (o :: r))) := fun k' s' n' => by rw [e1]; exact leT leSl
    refine br_of (fun h => absurd (of_decide_eq_true h) (by simp)) (fun _ => br_of (fun h6 => br_of (fun h1 => ⟨⟨by omega, by simp⟩, ⟨by rw [FTs_length]; simp, by cases o; rfl, rfl⟩, br_of (fun ho => ⟨⟨rfl, by omega, by rw [List.append_nil]; show (0 : Int) < (((FTs (u :: a')).length : Nat) : Int); rw [FTs_length]; simp, by cases u; rfl⟩, br_of (fun hu => ?_) (fun hu => ⟨⟨rfl, e2⟩, ?_, rfl⟩)⟩) (fun ho => ⟨⟨rfl, e2⟩, ?_, rfl⟩)⟩) (fun h1 => ⟨⟨rfl, e2⟩, ?_, rfl⟩)) (fun h6 => ⟨⟨rfl, e2⟩, ?_, rfl⟩))
    · -- flat
      have hap := c_apply o r (by
        have := hw o (by simp)
        simp only [List.length_cons, List.length_append, List.length_nil, B] at hl hlen this ⊢; omega)
      have e3 : withF (.mk kd s n (u :: a' ++ [])) (o :: r ++ walkL lf [] (k + by_)) = applyF o r := by
        have c1 : 1 < (o :: r ++ walkL lf [] (k + by_)).length := by have := of_decide_eq_true h1; simp only [walkL, List.append_nil]; omega
        have c2 : (o.k == 6) = true := by cases o; exact ho
        have c3 : (u.k != 6) = true := by cases u; exact hu
        unfold withF
        rw [if_pos ⟨h6, c1, c2, c3⟩]
        simp [walkL]
      have e4 : List.take (Int.toNat ((o :: r).length : Int) - 1) (List.drop 1 (FTs (o :: r))) = FTs r := by
        rw [show Int.toNat ((o :: r).length : Int) - 1 = r.length by simp only [List.length_cons]; omega]
        show List.take r.length (FTs r) = FTs r
        rw [List.take_of_length_le (by rw [FTs_length]; omega)]
      have e5 : (1 : Nat) + (Int.toNat ((o :: r).length : Int) - 1) ≤ (FTs (o :: r)).length := by rw [FTs_length]; simp only [List.length_cons]; omega
      rw [e3]
      refine ⟨⟨by omega, by simp⟩, ⟨by rw [FTs_length]; simp, by cases o; rfl, rfl⟩, ⟨by omega, by simp; omega, by omega⟩, ⟨rfl, e5⟩, ?_⟩
      rw [e4]
      obtain ⟨k1, s1, n1, l1⟩ := o
      exact ⟨_, hap.args ⟨.refl _, le_c leSl, trivial⟩, .refl _, rfl⟩
    · have e3 : withF (.mk kd s n (u :: a' ++ [])) (o :: r ++ walkL lf [] (k + by_)) = .mk kd s n (o :: r) := by
        simp only [walkL, List.append_nil]
        exact if_neg fun e => by
          have hu' : (u.k != 6) = false := by cases u; exact hu
          have : (u.k != 6) = true := e.2.2.2
          rw [hu'] at this; cases this
      rw [e3]; exact hrest _ _ _
    · have e3 : withF (.mk kd s n (u :: a' ++ [])) (o :: r ++ walkL lf [] (k + by_)) = .mk kd s n (o :: r) := by
        simp only [walkL, List.append_nil]
        exact if_neg fun e => by
          have ho' : (o.k == 6) = false := by cases o; exact ho
          have : (o.k == 6) = true := e.2.2.1
          rw [ho'] at this; cases this
      rw [e3]; exact hrest _ _ _
    · have e3 : withF (.mk kd s n (u :: a' ++ [])) (o :: r ++ walkL lf [] (k + by_)) = .mk kd s n (o :: r) := by
        simp only [walkL, List.append_nil]
        exact if_neg fun e => by have := e.2.1; have := of_decide_eq_false h1; omega
      rw [e3]; exact hrest _ _ _
    · have e3 : withF (.mk kd s n (u :: a' ++ [])) (o :: r ++ walkL lf [] (k + by_)) = .mk kd s n (o :: r) := by
        simp only [walkL, List.append_nil]
        exact if_neg fun e => by
          have h6' : (kd == 6) = false := h6
          have : (kd == 6) = true := e.1
          rw [h6'] at this; cases this
      rw [e3]; exact hrest _ _ _
  | t :: b, a, acc, hne, hlen, hl, hw, ih => by
    refine RPt.vc hP sh lv121 (Eq.mpr (v121_F126_1b ..) ?_)
    have hl' := hl
    simp only [List.length_append, List.length_cons, B] at hl'
    have h1 := ih t List.mem_cons_self
    have h2 := l_w2Su ix sk ss sn sl lf k by_ h0 hk hb0 hb1 kd s n hin b (a ++ [t]) (acc ++ [walkF lf t (k + by_)]) (by simp) (by simp [hlen]) (by rw [ap]; exact hl)
      (by rw [List.append_assoc]; simpa [walkL] using hw) (fun u hu => ih u (List.mem_cons_of_mem _ hu))
    have h3 := ltI' a t b
    unfold stSu at h2
    rw [ap, show (((a ++ [t]).length : Nat) : Int) = (a.length : Int) + 1 from nx a t] at h2
    show br (decide ((a.length : Int) < (((a ++ t :: b).length : Nat) : Int))) ((FV.isSl 4 (.sl false 4 (FTs (a ++ t :: b))) = true ∧ _ ∧ _ ∧ _) ∧ _) _
    refine br_of (fun _ => ?_) (fun h => absurd (ltI a t b) (of_decide_eq_false h))
    have hm := midI a t b
    rw [show FV.ses (.sl false 4 (FTs (a ++ t :: b))) = FTs (a ++ t :: b) from rfl, hm, w64 (x := (a.length : Int) + 1) (by omega) (by omega), w64 (x := k + by_) (by omega) (by omega)]
    obtain ⟨k', s', n', l'⟩ := t
    refine ⟨⟨rfl, by omega, h3, rfl⟩, _, h1, Nat.le_refl _, ⟨by rw [FTs_length]; omega, roomI (by omega)⟩, ?_⟩
    have e5 : List.take acc.length (FTs acc) ++ FTs [walkF lf (.mk k' s' n' l') (k + by_)] = FTs (acc ++ [walkF lf (.mk k' s' n' l') (k + by_)]) := by rw [List.take_of_length_le (by rw [FTs_length]; omega), ← FTs_append]
    have e6 : FTs [walkF lf (.mk k' s' n' l') (k + by_)] = [[.int .i64 (walkF lf (.mk k' s' n' l') (k + by_)).k, .str (walkF lf (.mk k' s' n' l') (k + by_)).s, .int .i64 (walkF lf (.mk k' s' n' l') (k + by_)).n, .sl false 4 (FTs (walkF lf (.mk k' s' n' l') (k + by_)).l)]] := by
      rw [FTs, FTs, FT_eta]
    rw [e6] at e5
    rw [e5]
    rw [show acc ++ walkL lf (.mk k' s' n' l' :: b) (k + by_) = acc ++ walkF lf (.mk k' s' n' l') (k + by_) :: walkL lf b (k + by_) by simp [walkL]]
    rw [show (acc ++ [walkF lf (.mk k' s' n' l') (k + by_)]).length = acc.length + 1 by simp, List.append_assoc] at h2
    exact h2
theorem l_w1Su (ix : Int) (sk : Int) (ss : List UInt8) (sn : Int) (sl : List Tm) (lf : Tm → Int → Tm) (k by_ : Int) (h0 : 0 ≤ k) (hk : k ≤ 2305843009213693952) (hb0 : 0 ≤ by_) (hb1 : by_ ≤ 1) (kd : Int) (s : List UInt8) (n : Int) (hin : (kd == 5 || kd == 6) = true) :
    ∀ (b : List Tm), b.length ≤ B → (∀ u ∈ walkL lf b (k + by_), u.l.length ≤ 2 * B) →
    (∀ u ∈ b, AC Try.prog 121 [cloSu, aT u, ci (k + by_)] [(obj1 ix), (.arr 4 [fzs (FT (.mk sk ss sn sl))])] (aT (walkF lf u (k + by_))) [(obj1 ix), (.arr 4 [fzs (FT (.mk sk ss sn sl))])]) →
    RPt Try.prog 121 2 (aT (withF (.mk kd s n b) (walkL lf b (k + by_)))) [(obj1 ix), (.arr 4 [fzs (FT (.mk sk ss sn sl))])] 1 (stSu ix sk ss sn sl k by_ kd s n b (.fz .nils) 0 [] 5)
  | [], hl, hw, _ => by
    refine RPt.vc hP sh lv121 (Eq.mpr (v121_F126_1a ..) ?_)
    have e : withF (.mk kd s n []) (walkL lf [] (k + by_)) = .mk kd s n [] := if_neg fun e => by have := e.2.1; simp [walkL] at this
    rw [e]
    exact br_of (fun h => absurd (of_decide_eq_true h) (by simp)) (fun _ => br_of (fun _ => ⟨rfl, leT leNil, rfl⟩) (fun _ => ⟨leT leNil, rfl⟩))
  | t :: b, hl, hw, ih => by
    refine RPt.vc hP sh lv121 (Eq.mpr (v121_F126_1a ..) ?_)
    have hl' := hl
    simp only [List.length_cons, B] at hl'
    have h1 := ih t List.mem_cons_self
    have h2 := l_w2Su ix sk ss sn sl lf k by_ h0 hk hb0 hb1 kd s n hin b [t] [walkF lf t (k + by_)] (by simp) rfl (by simpa using hl) (by simpa [walkL] using hw) (fun u hu => ih u (List.mem_cons_of_mem _ hu))
    show br (decide ((0 : Int) < (((t :: b).length : Nat) : Int))) ((FV.isSl 4 (.sl false 4 (FTs (t :: b))) = true ∧ _ ∧ _ ∧ _) ∧ _) _
    refine br_of (fun _ => ?_) (fun h => absurd (of_decide_eq_false h) (by simp))
    rw [show FV.ses (.sl false 4 (FTs (t :: b))) = FTs (t :: b) from rfl, show List.getD (FTs (t :: b)) (Int.toNat ((0 : Nat) : Int)) [] = FT t from rfl, w64 (x := k + by_) (by omega) (by omega), w64 (x := ((0 : Nat) : Int) + 1) (by omega) (by omega)]
    obtain ⟨k', s', n', l'⟩ := t
    have h3 : (0 : Int) < (((FTs (.mk k' s' n' l' :: b)).length : Nat) : Int) := by rw [FTs_length]; simp
    refine ⟨⟨rfl, by omega, h3, rfl⟩, _, h1, Nat.le_refl _, roomI (by omega), ?_⟩
    have e6 : FTs [walkF lf (.mk k' s' n' l') (k + by_)] = [[.int .i64 (walkF lf (.mk k' s' n' l') (k + by_)).k, .str (walkF lf (.mk k' s' n' l') (k + by_)).s, .int .i64 (walkF lf (.mk k' s' n' l') (k + by_)).n, .sl false 4 (FTs (walkF lf (.mk k' s' n' l') (k + by_)).l)]] := by
      rw [FTs, FTs, FT_eta]
    unfold stSu at h2
    rw [e6] at h2
    exact h2
/-- THE CONTRACT: from the leaf function's. -/
theorem c_wSu (ix : Int) (sk : Int) (ss : List UInt8) (sn : Int) (sl : List Tm) (lf : Tm → Int → Tm) (Q : Tm → Int → Prop)
    (hq : ∀ (kd : Int) (s : List UInt8) (n : Int) (l : List Tm) (d : Int), Q (.mk kd s n l) d → (kd == 5 || kd == 6) = true → ∀ u ∈ l, Q u (d + if (kd == 5) = true then 1 else 0))
    (hleaf : ∀ (u : Tm) (d : Int), (u.k == 5 || u.k == 6) = false → Q u d → 0 ≤ d → d ≤ 2305843009213693952 → AC Try.prog 126 [aT u, ci d, .c (.a (.ep 0 1 0 0)), .c (.a (.ep 1 4 0 0))] [(obj1 ix), (.arr 4 [fzs (FT (.mk sk ss sn sl))])] (aT (lf u d)) [(obj1 ix), (.arr 4 [fzs (FT (.mk sk ss sn sl))])])
    (hwid : ∀ (u : Tm) (d : Int), Q u d → (walkF lf u d).l.length ≤ 2 * B) :
    ∀ t : Tm, t.sz ≤ B → ∀ k : Int, Q t k → 0 ≤ k → k + t.sz ≤ 2305843009213693952 → AC Try.prog 121 [cloSu, aT t, ci k] [(obj1 ix), (.arr 4 [fzs (FT (.mk sk ss sn sl))])] (aT (walkF lf t k)) [(obj1 ix), (.arr 4 [fzs (FT (.mk sk ss sn sl))])] := by
  refine Tm.ind fun t ih hs k hQ h0 h1 => ?_
  have hlen := Tm.szs_length t.l
  obtain ⟨kd, s, n, l⟩ := t
  simp only [Tm.sz, B, Tm.l] at hs hlen
  simp only [Tm.sz] at h1
  have key : ∀ by_ : Int, 0 ≤ by_ → by_ ≤ 1 → (by_ = if (kd == 5) = true then 1 else 0) → (hin : (kd == 5 || kd == 6) = true) → RPt Try.prog 121 2 (aT (walkF lf (.mk kd s n l) k)) [(obj1 ix), (.arr 4 [fzs (FT (.mk sk ss sn sl))])] 1 (stSu ix sk ss sn sl k by_ kd s n l (.fz .nils) 0 [] 5) := by
    intro by_ hb0 hb1 hby hin
    have hQ' := hq kd s n l k hQ hin
    rw [← hby] at hQ'
    have := l_w1Su ix sk ss sn sl lf k by_ h0 (by omega) hb0 hb1 kd s n hin l (by simp only [B]; omega) (fun u hu => by
      have : ∀ {m : List Tm}, (∀ v ∈ m, Q v (k + by_)) → ∀ u ∈ walkL lf m (k + by_), u.l.length ≤ 2 * B := by
        intro m
        induction m with
        | nil => intro _ u hu; simp [walkL] at hu
        | cons v m ihm =>
          intro hm u hu
          simp only [walkL, List.mem_cons] at hu
          rcases hu with rfl | hu
          · exact hwid v _ (hm v List.mem_cons_self)
          · exact ihm (fun x hx => hm x (List.mem_cons_of_mem _ hx)) u hu
      exact this hQ' u hu) (fun u hu => ih u hu (by have := Tm.szs_mem hu; simp only [B]; omega) (k + by_) (hQ' u hu) (by omega) (by have := Tm.szs_mem hu; omega))
    rw [walkF, if_pos hin, ← hby]
    exact this
  refine AC.vc hP sh lv121 (Nat.le_refl _) (by simp [isLive]) (by simp) (Eq.mpr (v121_F126 kd s n (FTs l) k ix sk ss sn (FTs sl) _ _) ?_)
  have wi : (kd == 5 || kd == 6) = true → AC Try.prog 84 [aT (.mk kd s n l)] [] (.tup [(false, [.a (.fz (.sl false 4 (FTs l)))]), (false, [.a (.fz (.int .i64 (if (kd == 5) = true then 1 else 0)))])]) [] := fun hin => by
    have hw := c_within (.mk kd s n l)
    rw [show kidsV (.mk kd s n l) = .sl false 4 (FTs l) from if_pos hin] at hw
    exact hw
  refine br_of (fun h => br_of (fun h2 => ?_) (fun h2 => ?_)) (fun h => ?_)
  · have e1 : (kd == 5) = false := by simpa using h
    have e2 : (kd == 6) = false := by simpa using h2
    have e : (kd == 5 || kd == 6) = false := by rw [e1, e2]; rfl
    have hl := hleaf (.mk kd s n l) k e hQ h0 (by omega)
    rw [show walkF lf (.mk kd s n l) k = lf (.mk kd s n l) k by rw [walkF, if_neg (by rw [e]; simp)]]
    exact ⟨_, hl, .refl _, rfl⟩
  · have e1 : (kd == 5) = false := by simpa using h
    have e2 : (kd == 6) = true := by simpa using h2
    have hin : (kd == 5 || kd == 6) = true := by rw [e1, e2]; rfl
    have hk := key 0 (by omega) (by omega) (by rw [e1]; rfl) hin
    have hw := wi hin
    rw [e1] at hw
    refine ⟨_, _, hw, rfl, ?_⟩
    show RPt _ _ _ _ _ _ ⟨[_, _, _, _, _, _, _, _, (31, ci (((FTs l).length : Nat) : Int)), _], _, _⟩
    rw [FTs_length]
    exact hk
  · have e1 : (kd == 5) = true := by simpa using h
    have hin : (kd == 5 || kd == 6) = true := by rw [e1]; rfl
    have hk := key 1 (by omega) (by omega) (by rw [e1]; rfl) hin
    have hw := wi hin
    rw [e1] at hw
    refine ⟨_, _, hw, rfl, ?_⟩
    show RPt _ _ _ _ _ _ ⟨[_, _, _, _, _, _, _, _, (31, ci (((FTs l).length : Nat) : Int)), _], _, _⟩
    rw [FTs_length]
    exact hk


end Go.AM

set_option maxRecDepth 100000
open Go Go.Proofs
namespace Go.AM

/-! ### What walk makes: size, numbers, kinds -/
theorem applyF_sz (f : Tm) (l : List Tm) : (applyF f l).sz ≤ 1 + f.sz + Tm.szs l := by
  unfold applyF
  split
  · simp only [Tm.szs]; omega
  · split
    · have := f.sz_eq; simp only [Tm.sz, Tm.szs_append, List.length_nil]; omega
    · simp only [Tm.sz, Tm.szs, List.length_nil]; omega
theorem withF_sz (t : Tm) (o : List Tm) : (withF t o).sz ≤ 1 + Tm.szs o := by
  unfold withF
  split
  · rename_i h
    match o, h with
    | [], h => simp at h
    | x :: r, h =>
      simp only [List.headD_cons, List.tail_cons, Tm.szs] at h ⊢
      have hx : (x.k == 6) = true := h.2.2.1
      have hr : r ≠ [] := by intro e; rw [e] at h; simp at h
      unfold applyF
      split
      · exact absurd rfl hr
      · have := x.sz_eq
        by_cases hl : x.l = []
        · rw [if_neg (fun e => e.2 hl)]
          simp only [Tm.sz, Tm.szs, List.length_nil]; omega
        · rw [if_pos ⟨hx, hl⟩]
          simp only [Tm.sz, Tm.szs_append, List.length_nil]; omega
  · simp only [Tm.sz]; omega
mutual
/-- How many. -/
def nd : Tm → Nat
  | .mk _ _ _ l => 1 + nds l
def nds : List Tm → Nat
  | [] => 0
  | t :: l => nd t + nds l
end
theorem nd_eq (t : Tm) : nd t = 1 + nds t.l := by cases t; rfl
theorem nd_pos (t : Tm) : 1 ≤ nd t := by rw [nd_eq]; omega
theorem nds_append : ∀ (a b : List Tm), nds (a ++ b) = nds a + nds b
  | [], b => by simp [nds]
  | t :: a, b => by simp only [List.cons_append, nds, nds_append a b]; omega
theorem nds_mem : ∀ {l : List Tm} {t : Tm}, t ∈ l → nd t ≤ nds l
  | x :: l, t, h => by
    rcases List.mem_cons.1 h with rfl | h
    · simp only [nds]; omega
    · have := nds_mem h; simp only [nds]; omega
theorem withF_nd (t : Tm) (o : List Tm) : nd (withF t o) ≤ 1 + nds o := by
  unfold withF
  split
  · rename_i h
    match o, h with
    | [], h => simp at h
    | x :: r, h =>
      simp only [List.headD_cons, List.tail_cons, nds] at h ⊢
      have hx : (x.k == 6) = true := h.2.2.1
      have hr : r ≠ [] := by intro e; rw [e] at h; simp at h
      unfold applyF
      split
      · exact absurd rfl hr
      · have := nd_eq x
        by_cases hl : x.l = []
        · rw [if_neg (fun e => e.2 hl)]
          simp only [nd, nds]; omega
        · rw [if_pos ⟨hx, hl⟩]
          simp only [nd, nds_append]; omega
  · simp only [nd]; omega
mutual
theorem walkF_sz (lf : Tm → Int → Tm) (S : Nat) (h : ∀ u d, (lf u d).sz ≤ u.sz + S) : ∀ (t : Tm) (d : Int), (walkF lf t d).sz ≤ t.sz + nd t * S
  | .mk k s n l, d => by
    rw [walkF]
    split
    · refine Nat.le_trans (withF_sz ..) ?_
      have := walkL_sz lf S h l (d + if (k == 5) = true then 1 else 0)
      simp only [Tm.sz, Tm.s, nd, Nat.add_mul, Nat.one_mul]
      omega
    · refine Nat.le_trans (h _ _) ?_
      simp only [nd, Nat.add_mul, Nat.one_mul]; omega
theorem walkL_sz (lf : Tm → Int → Tm) (S : Nat) (h : ∀ u d, (lf u d).sz ≤ u.sz + S) : ∀ (l : List Tm) (d : Int), Tm.szs (walkL lf l d) ≤ Tm.szs l + nds l * S
  | [], _ => by simp [walkL, Tm.szs]
  | t :: l, d => by
    have := walkF_sz lf S h t d
    have := walkL_sz lf S h l d
    simp only [walkL, Tm.szs, nds, Nat.add_mul]; omega
end
mutual
theorem walkF_nd (lf : Tm → Int → Tm) (N : Nat) (hN : 1 ≤ N) (h : ∀ u d, nd (lf u d) ≤ nd u * N) : ∀ (t : Tm) (d : Int), nd (walkF lf t d) ≤ nd t * N
  | .mk k s n l, d => by
    rw [walkF]
    split
    · refine Nat.le_trans (withF_nd ..) ?_
      have := walkL_nd lf N hN h l (d + if (k == 5) = true then 1 else 0)
      simp only [nd, Nat.add_mul, Nat.one_mul]
      omega
    · exact h _ _
theorem walkL_nd (lf : Tm → Int → Tm) (N : Nat) (hN : 1 ≤ N) (h : ∀ u d, nd (lf u d) ≤ nd u * N) : ∀ (l : List Tm) (d : Int), nds (walkL lf l d) ≤ nds l * N
  | [], _ => by simp [walkL, nds]
  | t :: l, d => by
    have := walkF_nd lf N hN h t d
    have := walkL_nd lf N hN h l d
    simp only [walkL, nds, Nat.add_mul]; omega
end
theorem bds_append {M : Int} : ∀ {a b : List Tm}, bds M a → bds M b → bds M (a ++ b)
  | [], _, _, h => h
  | _ :: _, _, h, h' => ⟨h.1, bds_append h.2 h'⟩
theorem bds_of {M : Int} : ∀ {l : List Tm}, (∀ t ∈ l, bd M t) → bds M l
  | [], _ => trivial
  | t :: _, h => ⟨h t List.mem_cons_self, bds_of fun u hu => h u (List.mem_cons_of_mem _ hu)⟩
theorem bd6 {M : Int} {s : List UInt8} {n : Int} {l : List Tm} (h : bds M l) : bd M (.mk 6 s n l) := ⟨fun e => absurd e (by omega), h⟩
theorem applyF_bd {M : Int} {f : Tm} {l : List Tm} (hf : bd M f) (hl : bds M l) : bd M (applyF f l) := by
  unfold applyF
  split
  · exact hf
  · split
    · exact bd6 (bds_append (bd_l hf) hl)
    · exact bd6 ⟨hf, hl⟩
theorem withF_bd {M : Int} {t : Tm} {o : List Tm} (hk : t.k ≠ 3) (ho : bds M o) : bd M (withF t o) := by
  unfold withF
  split
  · rename_i h
    match o, h, ho with
    | [], h, _ => simp at h
    | x :: r, h, ho => exact applyF_bd ho.1 ho.2
  · exact ⟨fun e => absurd e hk, ho⟩
mutual
theorem walkF_bd (lf : Tm → Int → Tm) (M M' D : Int) (h : ∀ u d, bd M u → 0 ≤ d → d ≤ D → bd M' (lf u d)) : ∀ (t : Tm) (d : Int), bd M t → 0 ≤ d → d + t.sz ≤ D → bd M' (walkF lf t d)
  | .mk k s n l, d, hb, h0, h1 => by
    rw [walkF]
    simp only [Tm.sz] at h1
    split
    · rename_i hk
      refine withF_bd (fun e => ?_) (walkL_bd lf M M' D h l _ hb.2 (by split <;> omega) (by split <;> omega))
      have e : k = 3 := e
      rw [e] at hk; exact absurd hk (by decide)
    · exact h _ _ hb h0 (by omega)
theorem walkL_bd (lf : Tm → Int → Tm) (M M' D : Int) (h : ∀ u d, bd M u → 0 ≤ d → d ≤ D → bd M' (lf u d)) : ∀ (l : List Tm) (d : Int), bds M l → 0 ≤ d → d + Tm.szs l ≤ D → bds M' (walkL lf l d)
  | [], _, _, _, _ => trivial
  | t :: l, d, hb, h0, h1 => by
    simp only [Tm.szs] at h1
    exact ⟨walkF_bd lf M M' D h t d hb.1 h0 (by omega), walkL_bd lf M M' D h l d hb.2 h0 (by omega)⟩
end
theorem applyF_k {f : Tm} (l : List Tm) (h : (f.k == 6) = true) : (applyF f l).k = 6 := by
  unfold applyF
  split
  · simpa using h
  · split <;> rfl
theorem withF_k (t : Tm) (o : List Tm) : (withF t o).k = t.k := by
  unfold withF
  split
  · rename_i h6
    have e : t.k = 6 := by simpa using h6.1
    rw [applyF_k _ h6.2.2.1]; exact e.symm
  · rfl
theorem walkF_k (lf : Tm → Int → Tm) (h : ∀ u d, (lf u d).k = u.k) (t : Tm) (d : Int) : (walkF lf t d).k = t.k := by
  obtain ⟨k, s, n, l⟩ := t
  rw [walkF]
  split
  · exact withF_k _ _
  · exact h _ _
/-- Where leaves keep their kinds, nothing is made flat. -/
theorem walkF_keep (lf : Tm → Int → Tm) (h : ∀ u d, (lf u d).k = u.k) (k : Int) (s : List UInt8) (n : Int) (l : List Tm) (d : Int) (hk : (k == 5 || k == 6) = true) :
    walkF lf (.mk k s n l) d = .mk k s n (walkL lf l (d + if (k == 5) = true then 1 else 0)) := by
  rw [walkF, if_pos hk, withF, if_neg fun e => ?_]; rfl
  match l, e with
  | [], e => have := e.2.1; simp [walkL] at this
  | t :: l, e =>
    have e1 := e.2.2.1
    have e2 := e.2.2.2
    rw [walkL, List.headD_cons, walkF_k lf h] at e1
    have e2 : (t.k != 6) = true := e2
    rw [bne, e1] at e2; cases e2
theorem walkF_leaf (lf : Tm → Int → Tm) (k : Int) (s : List UInt8) (n : Int) (l : List Tm) (d : Int) (hk : (k == 5 || k == 6) = false) :
    walkF lf (.mk k s n l) d = lf (.mk k s n l) d := by rw [walkF, if_neg (by rw [hk]; simp)]
theorem walkL_length (lf : Tm → Int → Tm) : ∀ (l : List Tm) (d : Int), (walkL lf l d).length = l.length
  | [], _ => rfl
  | _ :: l, d => by simp only [walkL, List.length_cons, walkL_length lf l d]

/-! ### Shift -/
abbrev M61 : Int := 2305843009213693952
def shLeaf (fr by_ : Int) (u : Tm) (d : Int) : Tm := if (u.k == 3) = true ∧ d + fr ≤ u.n then .mk u.k u.s (u.n + by_) u.l else u
def shT (fr by_ : Int) (t : Tm) (d : Int) : Tm := walkF (shLeaf fr by_) t d
theorem shLeaf_k (fr by_ : Int) (u : Tm) (d : Int) : (shLeaf fr by_ u d).k = u.k := by unfold shLeaf; split <;> rfl
theorem shLeaf_sz (fr by_ : Int) (u : Tm) (d : Int) : (shLeaf fr by_ u d).sz = u.sz := by
  unfold shLeaf; split
  · cases u; rfl
  · rfl
theorem shT_sz (fr by_ : Int) (t : Tm) (d : Int) : (shT fr by_ t d).sz ≤ t.sz := by
  have := walkF_sz (shLeaf fr by_) 0 (fun u d => by rw [shLeaf_sz]; omega) t d
  rw [Nat.mul_zero] at this; exact this
theorem shLeaf_nd (fr by_ : Int) (u : Tm) (d : Int) : nd (shLeaf fr by_ u d) = nd u := by
  unfold shLeaf; split
  · cases u; rfl
  · rfl
theorem shT_nd (fr by_ : Int) (t : Tm) (d : Int) : nd (shT fr by_ t d) ≤ nd t := by
  have := walkF_nd (shLeaf fr by_) 1 (Nat.le_refl _) (fun u d => by rw [shLeaf_nd]; omega) t d
  rw [Nat.mul_one] at this; exact this
theorem bd_le {M M' : Int} (h : M ≤ M') : ∀ t : Tm, bd M t → bd M' t := by
  refine Tm.ind fun t ih hb => ?_
  obtain ⟨k, s, n, l⟩ := t
  exact ⟨fun e => by have := hb.1 e; omega, bds_of fun u hu => ih u hu (bds_mem hb.2 hu)⟩
theorem shLeaf_bd {fr by_ M : Int} (h0 : 0 ≤ by_) (u : Tm) (d : Int) (hb : bd M u) : bd (M + by_) (shLeaf fr by_ u d) := by
  unfold shLeaf
  split
  · obtain ⟨k, s, n, l⟩ := u
    exact ⟨fun e => by have := hb.1 e; simp only [Tm.n]; omega, bds_of fun u hu => bd_le (by omega) u (bds_mem hb.2 hu)⟩
  · exact bd_le (by omega) u hb
theorem shT_bd {fr by_ M : Int} (h0 : 0 ≤ by_) (t : Tm) (d : Int) (hb : bd M t) (hd : 0 ≤ d) : bd (M + by_) (shT fr by_ t d) :=
  walkF_bd (shLeaf fr by_) M (M + by_) (d + t.sz) (fun u d' hu _ _ => shLeaf_bd h0 u d' hu) t d hb hd (Int.le_refl _)
theorem c_moved (t : Tm) (by_ : Int) (h1 : -9223372036854775808 ≤ t.n + by_) (h2 : t.n + by_ ≤ 9223372036854775807) : AC Try.prog 120 [aT t, ci by_] [] (aT (.mk t.k t.s (t.n + by_) t.l)) [] := by
  obtain ⟨k, s, n, l⟩ := t
  refine AC.vc hP sh lv120 (Nat.le_refl _) (by simp) (by simp) (Eq.mpr (v120 k s n (FTs l) by_ _ _) ?_)
  rw [w64 (x := n + by_) h1 h2]
  exact ⟨.refl _, rfl⟩
theorem c_shift1 (fr by_ d : Int) (u : Tm) (hb : u.k = 3 → 0 - M61 ≤ u.n ∧ u.n ≤ M61) (hd0 : 0 ≤ d) (hd1 : d ≤ M61) (hf0 : 0 ≤ fr) (hf1 : fr ≤ M61) (hb0 : 0 - 1 ≤ by_) (hb1 : by_ ≤ M61) :
    AC Try.prog 119 [aT u, ci d, .c (.a (.ep 0 1 0 0)), .c (.a (.ep 1 1 0 0))] [obj1 fr, obj1 by_] (aT (shLeaf fr by_ u d)) [obj1 fr, obj1 by_] := by
  obtain ⟨k, s, n, l⟩ := u
  simp only [M61, Tm.k, Tm.n] at *
  refine AC.vc hP sh lv119 (Nat.le_refl _) (by simp [isLive]) (by simp) (Eq.mpr (v119 k s n (FTs l) d fr by_ _ _) ?_)
  rw [w64 (by omega) (by omega)]
  refine br_of (fun h => br_of (fun h2 => ?_) (fun h2 => ?_)) (fun h => ?_)
  · have hk : k = 3 := by simpa using h
    have h3 : d + fr ≤ n := of_decide_eq_true h2
    have := hb hk
    have e : shLeaf fr by_ (.mk k s n l) d = .mk k s (n + by_) l := if_pos ⟨h, h3⟩
    rw [e]
    exact ⟨_, c_moved (.mk k s n l) by_ (by simp only [Tm.n]; omega) (by simp only [Tm.n]; omega), .refl _, rfl⟩
  · have h3 : ¬ d + fr ≤ n := of_decide_eq_false h2
    have e : shLeaf fr by_ (.mk k s n l) d = .mk k s n l := if_neg fun e => h3 e.2
    rw [e]; exact ⟨.refl _, rfl⟩
  · have e : shLeaf fr by_ (.mk k s n l) d = .mk k s n l := if_neg fun e => by have := e.1; rw [show Tm.k (.mk k s n l) = k from rfl, h] at this; cases this
    rw [e]; exact ⟨.refl _, rfl⟩
theorem c_shift (t : Tm) (fr by_ : Int) (hs : t.sz ≤ B) (hb : bd M61 t) (hf0 : 0 ≤ fr) (hf1 : fr ≤ M61) (hb0 : 0 - 1 ≤ by_) (hb1 : by_ ≤ M61) :
    AC Try.prog 111 [aT t, ci fr, ci by_] [] (aT (shT fr by_ t 0)) [] := by
  have h := c_wSh fr by_ (shLeaf fr by_) (fun u _ => bd M61 u ∧ u.sz ≤ B) (fun kd s n l d hq hk u hu => ⟨bds_mem hq.1.2 hu, by have := Tm.szs_mem hu; have := hq.2; simp only [Tm.sz] at this; omega⟩)
    (fun u d hk hq h0 h1 => c_shift1 fr by_ d u (by obtain ⟨k, s, n, l⟩ := u; exact hq.1.1) h0 h1 hf0 hf1 hb0 hb1)
    (fun u d hq => by have := shT_sz fr by_ u d; have h1 := (shT fr by_ u d).sz_eq; have := Tm.szs_length (shT fr by_ u d).l; have := hq.2; show (shT fr by_ u d).l.length ≤ _; omega)
    t hs 0 ⟨hb, hs⟩ (Int.le_refl _) (by simp only [B] at hs; omega)
  obtain ⟨k, s, n, l⟩ := t
  refine AC.vc hP sh lv111 (Nat.le_refl _) (by simp) (by simp) (Eq.mpr (v111 k s n (FTs l) fr by_ _ _) ?_)
  exact ⟨_, h, .refl _, rfl⟩

/-! ### Subst -/
def suLeaf (i : Int) (s : Tm) (u : Tm) (d : Int) : Tm :=
  if (u.k == 3) = true then (if u.n < d + i then u else if (u.n == d + i) = true then shT 0 d s 0 else .mk u.k u.s (u.n - 1) u.l) else u
def suT (i : Int) (s t : Tm) (d : Int) : Tm := walkF (suLeaf i s) t d
theorem suLeaf_sz (i : Int) (s u : Tm) (d : Int) : (suLeaf i s u d).sz ≤ u.sz + s.sz := by
  have h3 := shT_sz 0 d s 0
  unfold suLeaf
  split
  · split
    · omega
    · split
      · omega
      · cases u; simp only [Tm.sz, Tm.s, Tm.l]; omega
  · omega
theorem suT_sz (i : Int) (s t : Tm) (d : Int) : (suT i s t d).sz ≤ t.sz + nd t * s.sz := walkF_sz _ _ (suLeaf_sz i s) t d
theorem suLeaf_nd (i : Int) (s u : Tm) (d : Int) : nd (suLeaf i s u d) ≤ nd u * nd s := by
  have h1 : nd u ≤ nd u * nd s := Nat.le_mul_of_pos_right _ (nd_pos s)
  have h2 : nd s ≤ nd u * nd s := Nat.le_mul_of_pos_left _ (nd_pos u)
  have h3 := shT_nd 0 d s 0
  unfold suLeaf
  split
  · split
    · exact h1
    · split
      · omega
      · cases u; exact h1
  · exact h1
theorem suT_nd (i : Int) (s t : Tm) (d : Int) : nd (suT i s t d) ≤ nd t * nd s := walkF_nd _ _ (nd_pos s) (suLeaf_nd i s) t d
theorem suT_bd {i M M' D : Int} (s t : Tm) (d : Int) (hb : bd M t) (hs : bd M' s) (hM : M' + D ≤ M) (hd : 0 ≤ d) (hD : d + t.sz ≤ D) (hi : 0 ≤ i) (hM' : 0 ≤ M): bd M (suT i s t d) := by
  refine walkF_bd (suLeaf i s) M M D (fun u d' hu h0 h1 => ?_) t d hb hd hD
  unfold suLeaf
  split
  · split
    · exact hu
    · split
      · exact bd_le (by omega) _ (shT_bd h0 s 0 hs (Int.le_refl _))
      · rename_i h2 h3
        obtain ⟨k, s', n, l⟩ := u
        have h3' : n ≠ d' + i := fun e => h3 (by rw [show Tm.n (.mk k s' n l) = n from rfl, e]; simp)
        have h2' : ¬ n < d' + i := h2
        exact ⟨fun e => by have := hu.1 e; simp only [Tm.n]; omega, hu.2⟩
  · exact hu
theorem c_subst1 (i d : Int) (s u : Tm) (hs : s.sz ≤ B) (hbs : bd M61 s) (hb : u.k = 3 → 0 - M61 ≤ u.n ∧ u.n ≤ M61) (hd0 : 0 ≤ d) (hd1 : d ≤ M61) (hi0 : 0 ≤ i) (hi1 : i ≤ M61) :
    AC Try.prog 126 [aT u, ci d, .c (.a (.ep 0 1 0 0)), .c (.a (.ep 1 4 0 0))] [obj1 i, .arr 4 [fzs (FT s)]] (aT (suLeaf i s u d)) [obj1 i, .arr 4 [fzs (FT s)]] := by
  obtain ⟨k, t, n, l⟩ := u
  have hsh := c_shift s 0 d hs hbs (Int.le_refl _) (by simp only [M61]; omega) (by omega) hd1
  rw [FT_eta]
  simp only [M61, Tm.k, Tm.n] at *
  refine AC.vc hP sh lv126 (Nat.le_refl _) (by simp [isLive]) (by simp) (Eq.mpr (v126 k t n (FTs l) d i s.k s.s s.n (FTs s.l) _ _) ?_)
  rw [w64 (by omega) (by omega)]
  refine br_of (fun h => ?_) (fun h => br_of (fun h2 => ?_) (fun h2 => br_of (fun h3 => ?_) (fun h3 => ?_)))
  · have e : suLeaf i s (.mk k t n l) d = .mk k t n l := if_neg fun e => by rw [show Tm.k (.mk k t n l) = k from rfl] at e; rw [bne, e] at h; cases h
    rw [e]; exact ⟨.refl _, rfl⟩
  · have hk : (k == 3) = true := by simpa [bne] using h
    have e : suLeaf i s (.mk k t n l) d = .mk k t n l := by rw [suLeaf, if_pos (show (Tm.k (.mk k t n l) == 3) = true from hk), if_pos (show Tm.n (.mk k t n l) < d + i from of_decide_eq_true h2)]
    rw [e]; exact ⟨.refl _, rfl⟩
  · have hk : (k == 3) = true := by simpa [bne] using h
    have e : suLeaf i s (.mk k t n l) d = shT 0 d s 0 := by rw [suLeaf, if_pos (show (Tm.k (.mk k t n l) == 3) = true from hk), if_neg (show ¬ Tm.n (.mk k t n l) < d + i from of_decide_eq_false h2), if_pos (show (Tm.n (.mk k t n l) == d + i) = true from h3)]
    rw [e]; exact ⟨_, hsh, .refl _, rfl⟩
  · have hk : (k == 3) = true := by simpa [bne] using h
    have e : suLeaf i s (.mk k t n l) d = .mk k t (n - 1) l := by rw [suLeaf, if_pos (show (Tm.k (.mk k t n l) == 3) = true from hk), if_neg (show ¬ Tm.n (.mk k t n l) < d + i from of_decide_eq_false h2), if_neg (by rw [show Tm.n (.mk k t n l) = n from rfl, h3]; simp)]; rfl
    have := hb (by simpa using hk)
    rw [e]; exact ⟨_, c_moved (.mk k t n l) (-1) (by simp only [Tm.n]; omega) (by simp only [Tm.n]; omega), .refl _, rfl⟩
theorem c_subst (t s : Tm) (i : Int) (hs : s.sz ≤ B) (ht : t.sz + nd t * s.sz ≤ B) (hb : bd M61 t) (hbs : bd M61 s) (hi0 : 0 ≤ i) (hi1 : i ≤ M61) :
    AC Try.prog 125 [aT t, ci i, aT s] [] (aT (suT i s t 0)) [] := by
  have ht' : t.sz ≤ B := by omega
  have hFT := FT_eta s
  obtain ⟨sk, ss, sn, sl⟩ := s
  have h := c_wSu i sk ss sn sl (suLeaf i (.mk sk ss sn sl)) (fun u _ => bd M61 u ∧ u.sz + nd u * (Tm.mk sk ss sn sl).sz ≤ B) (fun kd s n l d hq hk u hu => ⟨bds_mem hq.1.2 hu, by have h2 := hq.2; have := Nat.mul_le_mul_right (Tm.mk sk ss sn sl).sz (nds_mem hu); have := Tm.szs_mem hu; rw [Tm.sz_eq (.mk kd s n l), nd_eq (.mk kd s n l), Nat.add_mul] at h2; simp only [Tm.l, Tm.s] at h2; omega⟩)
    (fun u d hk hq h0 h1 => c_subst1 i d (.mk sk ss sn sl) u hs hbs (by obtain ⟨k, s, n, l⟩ := u; exact hq.1.1) h0 h1 hi0 hi1)
    (fun u d hq => by have := suT_sz i (.mk sk ss sn sl) u d; have h1 := (suT i (.mk sk ss sn sl) u d).sz_eq; have := Tm.szs_length (suT i (.mk sk ss sn sl) u d).l; have := hq.2; show (suT i (.mk sk ss sn sl) u d).l.length ≤ _; omega)
    t ht' 0 ⟨hb, ht⟩ (Int.le_refl _) (by simp only [B] at ht'; omega)
  obtain ⟨k, s, n, l⟩ := t
  refine AC.vc hP sh lv125 (Nat.le_refl _) (by simp) (by simp) (Eq.mpr (v125 k s n (FTs l) i sk ss sn (FTs sl) _ _) ?_)
  exact ⟨_, h, .refl _, rfl⟩

end Go.AM

set_option maxRecDepth 100000
open Go Go.Proofs
namespace Go.AM

/-! ### Below abstractions -/
def lamsF : Nat → Tm → Tm
  | 0, t => t
  | n + 1, t => lamsF n (.mk 5 [] 0 [t])
theorem l_lamsb (N : Int) (hN : N ≤ 4294967296) : ∀ (m : Nat) (i k : Int) (s : List UInt8) (n : Int) (rows : List (List FV)) (l : List Tm), 0 ≤ i → i + m = N → FV.Le (.sl false 4 rows) (.sl false 4 (FTs l)) →
    RPt Try.prog 43 0 (aT (lamsF m (.mk k s n l))) [] 1 ⟨[(3, .c (.a (.ep 0 4 0 0))), (4, .c (.a (.ep 1 4 0 0))), (6, ci N), (7, ci i)], [(0, .arr 4 [[.a (.fz (.int .i64 k)), .a (.fz (.str s)), .a (.fz (.int .i64 n)), .a (.fz (.sl false 4 rows))]]), (1, .arr 4 [[.a (.fz (.int .i64 0)), .a (.fz (.str [])), .a (.fz (.int .i64 0)), .a (.fz .nils)]])], 2⟩
  | 0, i, k, s, n, rows, l, h0, hi, hle => by
    refine RPt.vc hP sh lv43 (Eq.mpr (v43_1a ..) ?_)
    refine br_of (fun h => absurd (of_decide_eq_true h) (by omega)) (fun _ => ⟨leT hle, rfl⟩)
  | m + 1, i, k, s, n, rows, l, h0, hi, hle => by
    refine RPt.vc hP sh lv43 (Eq.mpr (v43_1a ..) ?_)
    have h2 := l_lamsb N hN m (i + 1) 5 [] 0 [[.int .i64 k, .str s, .int .i64 n, .sl false 4 rows]] [.mk k s n l] (by omega) (by omega) (leRows rfl fun j r t hr ht => by
      match j, hr, ht with
      | 0, hr, ht =>
        simp only [List.getElem?_cons_zero, Option.some.injEq] at hr ht
        subst hr; subst ht
        exact leFT hle
      | j + 1, hr, _ => simp at hr)
    rw [w64 (x := i + 1) (by omega) (by omega)]
    refine br_of (fun _ => ⟨⟨rfl, by omega⟩, ?_⟩) (fun h => absurd (of_decide_eq_false h) (by omega))
    exact h2
theorem foldMax0 {n : Int} (h : 0 ≤ n) : foldMax [n, 0] = n := by
  rw [foldMax2]; unfold maxI; split <;> omega
theorem c_lams (m : Nat) (t : Tm) (hm : m ≤ 4294967296) : AC Try.prog 43 [ci m, aT t] [] (aT (lamsF m t)) [] := by
  obtain ⟨k, s, n, l⟩ := t
  refine AC.vc hP sh lv43 (Nat.le_refl _) (by simp) (by simp) (Eq.mpr (v43 m k s n (FTs l) _ _) ?_)
  rw [foldMax0 (by omega)]
  refine RPt.vc hP sh lv43 (Eq.mpr (v43_1a ..) ?_)
  match m, hm with
  | 0, _ => exact br_of (fun h => absurd (of_decide_eq_true h) (by omega)) (fun _ => ⟨.refl _, rfl⟩)
  | m + 1, hm =>
    refine br_of (fun _ => ⟨⟨rfl, by omega⟩, ?_⟩) (fun h => absurd (of_decide_eq_false h) (by omega))
    exact l_lamsb ((m + 1 : Nat) : Int) (by omega) m 1 5 [] 0 [[.int .i64 k, .str s, .int .i64 n, .sl false 4 (FTs l)]] [.mk k s n l] (by omega) (by omega) (leRows rfl fun j r t hr ht => by
      match j, hr, ht with
      | 0, hr, ht =>
        simp only [List.getElem?_cons_zero, Option.some.injEq] at hr ht
        subst hr; subst ht
        exact leFT (.refl _)
      | j + 1, hr, _ => simp at hr)

/-! ### What may be -/
mutual
def validB : Tm → Bool
  | .mk k s n l =>
    if (k == 0) = true then (isName s || isSym s) && n == 0 && (((FTs l).length : Nat) : Int) == 0
    else if (k == 1) = true then decide (n ≥ 1) && s == [] && (((FTs l).length : Nat) : Int) == 0 && validL l
    else if (k == 2) = true then s == [] && (((FTs l).length : Nat) : Int) == 0 && validL l
    else if (k == 3) = true then decide (n ≥ 0) && decide (n ≤ 4611686018427387904) && s == [] && (((FTs l).length : Nat) : Int) == 0 && validL l
    else if (k == 4) = true then decide (n ≥ 0) && decide (n ≤ 4611686018427387904) && s == [] && (((FTs l).length : Nat) : Int) == 0 && validL l
    else if (k == 5) = true then n == 0 && s == [] && (((FTs l).length : Nat) : Int) == 1 && validL l
    else if (k == 6) = true then n == 0 && decide ((((FTs l).length : Nat) : Int) ≥ 2) && ((l.headD default).k != 6) && s == [] && validL l
    else false
def validL : List Tm → Bool
  | [] => true
  | t :: l => validB t && validL l
end
def badAt : List Tm → Int → Int
  | [], _ => -1
  | t :: l, i => if validB t = true then badAt l (i + 1) else i
theorem badAt_ge : ∀ (l : List Tm) (i : Int), 0 ≤ i → decide (badAt l i ≥ 0) = !validL l
  | [], _, _ => rfl
  | t :: l, i, h => by
    rw [badAt, validL]
    split
    · rename_i e; rw [badAt_ge l (i + 1) (by omega), e, Bool.true_and]
    · rename_i e; rw [show validB t = false by simpa using e]; simp; omega
theorem l_index : ∀ (b a : List Tm), (∀ u ∈ b, AC Try.prog 48 [aT u] [] (cb (!validB u)) []) → (a ++ b).length ≤ B →
    RPt Try.prog 75 0 (ci (badAt b a.length)) [] 1 ⟨[(0, aL (a ++ b)), (1, .c (.fn (.func 48) [] [])), (7, ci (((FTs (a ++ b)).length : Nat) : Int)), (8, ci a.length)], [], 0⟩
  | [], a, _, _ => by
    refine RPt.vc hP sh lv75 (Eq.mpr (v75_F48_1a ..) ?_)
    exact br_of (fun h => absurd (of_decide_eq_true h) (geI' a)) (fun _ => ret_i rfl)
  | t :: b, a, ih, hl => by
    refine RPt.vc hP sh lv75 (Eq.mpr (v75_F48_1a ..) ?_)
    have hl' := hl
    simp only [List.length_append, List.length_cons, B] at hl'
    have h1 := ih t List.mem_cons_self
    have h2 := l_index b (a ++ [t]) (fun u hu => ih u (List.mem_cons_of_mem _ hu)) (by rw [ap]; exact hl)
    have h3 := ltI' a t b
    rw [ap, nx] at h2
    rw [midI, w64 (x := (a.length : Int) + 1) (by omega) (by omega)]
    refine br_of (fun _ => ?_) (fun h => absurd h3 (of_decide_eq_false h))
    obtain ⟨k', s', n', l'⟩ := t
    refine ⟨⟨rfl, by omega, h3, rfl⟩, _, h1, br_of (fun h => ?_) (fun h => ?_)⟩
    · rw [badAt, if_neg (by simpa using h)]; exact ret_i rfl
    · rw [badAt, if_pos (by simpa using h)]; exact h2
theorem c_contf (l : List Tm) (hl : l.length ≤ B) (ih : ∀ u ∈ l, AC Try.prog 26 [aT u] [] (cb (validB u)) []) : AC Try.prog 47 [aL l, .c (.fn (.func 48) [] [])] [] (cb (!validL l)) [] := by
  have h1 : ∀ u ∈ l, AC Try.prog 48 [aT u] [] (cb (!validB u)) [] := fun u hu => by
    have h := ih u hu
    obtain ⟨k, s, n, l⟩ := u
    refine AC.vc hP sh lv48 (Nat.le_refl _) (by simp) (by simp) (Eq.mpr (v48 k s n (FTs l) _ _) ?_)
    exact ⟨_, h, ret_b rfl⟩
  have h2 : AC Try.prog 75 [aL l, .c (.fn (.func 48) [] [])] [] (ci (badAt l 0)) [] := by
    refine AC.vc hP sh lv75 (Nat.le_refl _) (by simp) (by simp) (Eq.mpr (v75_F48 ..) ?_)
    exact ⟨rfl, l_index l [] h1 hl⟩
  refine AC.vc hP sh lv47 (Nat.le_refl _) (by simp) (by simp) (Eq.mpr (v47_F48 ..) ?_)
  exact ⟨_, h2, ret_b (badAt_ge l 0 (Int.le_refl _))⟩
theorem head0 : ∀ {l : List Tm}, 2 ≤ (((FTs l).length : Nat) : Int) → List.getD (FTs l) 0 [] = FT (l.headD default)
  | [], h => by simp [FTs] at h
  | t :: l, _ => rfl
theorem c_valid : ∀ t : Tm, t.sz ≤ B → AC Try.prog 26 [aT t] [] (cb (validB t)) [] := by
  refine Tm.ind fun t ih hs => ?_
  have hlen := Tm.szs_length t.l
  obtain ⟨k, s, n, l⟩ := t
  simp only [Tm.sz, Tm.l] at hs hlen
  have hc := c_contf l (by omega) fun u hu => ih u hu (by have := Tm.szs_mem hu; omega)
  refine AC.vc hP sh lv26 (Nat.le_refl _) (by simp) (by simp) (Eq.mpr (v26 k s n (FTs l) _ _) ?_)
  refine br_of (fun h0 => ⟨_, c_isname s, br_of (fun h1 => br_of (fun h2 => ⟨rfl, ret_b ?_⟩) (fun h2 => ret_b ?_)) (fun h1 => ⟨_, c_issym s, br_of (fun h1' => br_of (fun h2 => ⟨rfl, ret_b ?_⟩) (fun h2 => ret_b ?_)) (fun h1' => ret_b ?_)⟩)⟩)
    (fun h0 => br_of (fun h1 => br_of (fun h2 => br_of (fun h3 => ⟨rfl, br_of (fun h4 => ⟨_, hc, ret_b ?_⟩) (fun h4 => ret_b ?_)⟩) (fun h3 => ret_b ?_)) (fun h2 => ret_b ?_))
    (fun h1 => br_of (fun h2 => br_of (fun h3 => ⟨rfl, br_of (fun h4 => ⟨_, hc, ret_b ?_⟩) (fun h4 => ret_b ?_)⟩) (fun h3 => ret_b ?_))
    (fun h2 => br_of (fun h3 => br_of (fun h4 => br_of (fun h5 => br_of (fun h6 => ⟨rfl, br_of (fun h7 => ⟨_, hc, ret_b ?_⟩) (fun h7 => ret_b ?_)⟩) (fun h6 => ret_b ?_)) (fun h5 => ret_b ?_)) (fun h4 => ret_b ?_))
    (fun h3 => br_of (fun h3' => br_of (fun h4 => br_of (fun h5 => br_of (fun h6 => ⟨rfl, br_of (fun h7 => ⟨_, hc, ret_b ?_⟩) (fun h7 => ret_b ?_)⟩) (fun h6 => ret_b ?_)) (fun h5 => ret_b ?_)) (fun h4 => ret_b ?_))
    (fun h3' => br_of (fun h5 => br_of (fun h6 => br_of (fun h7 => ⟨rfl, br_of (fun h8 => ⟨_, hc, ret_b ?_⟩) (fun h8 => ret_b ?_)⟩) (fun h7 => ret_b ?_)) (fun h6 => ret_b ?_))
    (fun h5 => br_of (fun h6 => br_of (fun h7 => ⟨rfl, br_of (fun h8 => ?app) (fun h8 => ⟨rfl, ret_b ?_⟩)⟩) (fun h7 => ⟨rfl, ret_b ?_⟩)) (fun h6 => ret_b ?_)))))))
  case app =>
    have h8' := of_decide_eq_true h8
    rw [head0 h8', FT_eta]
    refine ⟨⟨rfl, by omega, by omega, rfl⟩, rfl, br_of (fun h9 => br_of (fun h10 => ⟨rfl, br_of (fun h11 => ⟨_, hc, ret_b ?_⟩) (fun h11 => ret_b ?_)⟩) (fun h10 => ret_b ?_)) (fun h9 => ret_b ?_)⟩
    all_goals (have h9' : ((l.headD default).k != 6) = _ := h9; simp_all [validB])
  all_goals first
    | (simp_all [validB]; done)
    | (simp_all [validB]; intros; omega)

end Go.AM

set_option maxRecDepth 100000
open Go Go.Proofs
namespace Go.AM

/-! ### What is not more than is looked at -/
mutual
theorem left_sz : ∀ (t : Tm) (m : Int), 0 ≤ leftF t m → longB t = false → (nd t : Int) ≤ m - leftF t m ∧ t.sz ≤ 61 * nd t
  | .mk _ s _ l, m, h, hl => by
    simp only [longB, Bool.or_eq_false_iff] at hl
    simp only [leftF] at h ⊢
    have := left_szs l (m - 1) h hl.2
    have := of_decide_eq_false hl.1
    simp only [nd, Tm.sz]; omega
theorem left_szs : ∀ (l : List Tm) (m : Int), 0 ≤ leftL l m → longL l = false → (nds l : Int) ≤ m - leftL l m ∧ Tm.szs l ≤ 61 * nds l
  | [], m, h, _ => by simp [nds, leftL, Tm.szs]
  | t :: l, m, h, hl => by
    simp only [longL, Bool.or_eq_false_iff] at hl
    simp only [leftL] at h ⊢
    split at h
    · rename_i h0
      rw [if_pos h0]
      have h1 := left_szs l _ h hl.2
      have h3 := (leftL_le l (leftF t m)).1
      have h2 := left_sz t m (by omega) hl.1
      simp only [nds, Tm.szs]; omega
    · rename_i h0; exact absurd h h0
end
mutual
theorem near_bd {M : Int} : ∀ t : Tm, near M t = true → bd M t
  | .mk k s n l, h => by
    simp only [near, Bool.and_eq_true] at h
    refine ⟨fun e => ?_, nears_bd l h.2⟩
    have := h.1
    rw [e] at this
    simp at this; omega
theorem nears_bd {M : Int} : ∀ l : List Tm, nears M l = true → bds M l
  | [], _ => trivial
  | t :: l, h => by
    simp only [nears, Bool.and_eq_true] at h
    exact ⟨near_bd t h.1, nears_bd l h.2⟩
end
/-- What is looked at. -/
structure Okay (t : Tm) : Prop where
  nodes : nd t ≤ 80
  size : t.sz ≤ 4880
  nums : bd 1099511627776 t
theorem okay {t : Tm} (h : overB t = false) : Okay t := by
  simp only [overB, Bool.or_eq_false_iff, large] at h
  have h1 := of_decide_eq_false h.1.1
  have h2 := left_sz t 80 (by omega) h.1.2
  exact ⟨by omega, by omega, near_bd t (by simpa using h.2)⟩

/-! ### The document's example -/
abbrev exF : Tm := .mk 0 [102] 0 []
abbrev exA : Tm := .mk 0 [97] 0 []
abbrev exB : Tm := applyF exF [.mk 3 [] 0 [], lamsF 1 (.mk 3 [] 1 [])]
end Go.AM

set_option maxRecDepth 100000
open Go Go.Proofs
namespace Go.AM

/-! ### Rows of numbers -/
abbrev aI (l : List Int) : TV := .c (.a (.fz (.sl false 1 (IR l))))
theorem IR_length (l : List Int) : (IR l).length = l.length := by simp [IR]
theorem IR_append (a b : List Int) : IR (a ++ b) = IR a ++ IR b := by simp [IR]
theorem midN (a : List Int) (x : Int) (b : List Int) : List.getD (IR (a ++ x :: b)) (Int.toNat (a.length : Int)) [] = [.int .i64 x] := by
  rw [show Int.toNat (a.length : Int) = a.length by omega]
  simp [List.getD, IR]
theorem ltN (a : List Int) (t : Int) (b : List Int) : (a.length : Int) < (((IR (a ++ t :: b)).length : Nat) : Int) := by rw [IR_length]; exact ltI a t b
def hasI (v : Int) (l : List Int) : Bool := l.any fun x => v == x
def idxI (v : Int) : List Int → Int → Int
  | [], _ => -1
  | x :: l, i => if (v == x) = true then i else idxI v l (i + 1)
theorem idxI_ge (v : Int) : ∀ (l : List Int) (i : Int), 0 ≤ i → decide (idxI v l i ≥ 0) = hasI v l
  | [], _, _ => rfl
  | x :: l, i, h => by
    rw [idxI]
    split
    · rename_i e; simp [hasI, e, h]
    · rename_i e; rw [idxI_ge v l (i + 1) (by omega)]; simp [hasI, show (v == x) = false by simpa using e]
/-! ### Variables -/
def varsLeaf (u : Tm) (l : List Int) : List Int := if (u.k == 4 && !hasI u.n l) = true then l ++ [u.n] else l
mutual
def varsF : Tm → List Int → List Int
  | .mk k s n l, acc => if (k == 5 || k == 6) = true then varsL l acc else varsLeaf (.mk k s n l) acc
def varsL : List Tm → List Int → List Int
  | [], acc => acc
  | t :: l, acc => varsL l (varsF t acc)
end
mutual
theorem varsF_ext : ∀ (t : Tm) (acc : List Int), ∃ e, varsF t acc = acc ++ e
  | .mk k s n l, acc => by
    rw [varsF]
    split
    · exact varsL_ext l acc
    · unfold varsLeaf
      split
      · exact ⟨_, rfl⟩
      · exact ⟨[], by simp⟩
theorem varsL_ext : ∀ (l : List Tm) (acc : List Int), ∃ e, varsL l acc = acc ++ e
  | [], acc => ⟨[], by simp [varsL]⟩
  | t :: l, acc => by
    obtain ⟨e, h⟩ := varsF_ext t acc
    obtain ⟨e', h'⟩ := varsL_ext l (varsF t acc)
    exact ⟨e ++ e', by rw [varsL, h', h, List.append_assoc]⟩
end
mutual
theorem varsF_len : ∀ (t : Tm) (acc : List Int), (varsF t acc).length ≤ acc.length + t.sz
  | .mk k s n l, acc => by
    rw [varsF]
    split
    · have := varsL_len l acc; simp only [Tm.sz]; omega
    · unfold varsLeaf
      split
      · simp only [List.length_append, List.length_cons, List.length_nil, Tm.sz]; omega
      · omega
theorem varsL_len : ∀ (l : List Tm) (acc : List Int), (varsL l acc).length ≤ acc.length + Tm.szs l
  | [], acc => by simp [varsL]
  | t :: l, acc => by
    have h1 := varsF_len t acc
    have h2 := varsL_len l (varsF t acc)
    simp only [varsL, Tm.szs]; omega
end
/-- The variable that holds the row: nil, or what it points to. -/
def HsV : List Int → List AObj
  | [] => [.arr 1 [[.a (.fz .nils)]]]
  | x :: l => [.arr 1 [[.a (.osl 1 1 0 (x :: l).length)]], .arz 1 (IR (x :: l))]
/-- ... behind a call that came with l and leaves l'. -/
def HsW (l l' : List Int) : List AObj := if l' = l then HsV l else if l = [] then HsV l' else [.arr 1 [[.a (.osl 2 1 0 l'.length)]], .gone, .arz 1 (IR l')]
theorem HsV_ne {l : List Int} (h : l ≠ []) : HsV l = [.arr 1 [[.a (.osl 1 1 0 l.length)]], .arz 1 (IR l)] := by
  match l, h with
  | x :: l, _ => rfl
theorem HsV_len (l : List Int) : 1 ≤ (HsV l).length := by cases l <;> simp [HsV]
theorem HsV_live : ∀ (l : List Int) (x : AObj), x ∈ HsV l → isLive x
  | [], x, h => by simp [HsV] at h; subst h; trivial
  | y :: l, x, h => by
    simp only [HsV, List.mem_cons, List.not_mem_nil, or_false] at h
    rcases h with rfl | rfl <;> trivial
theorem HsW_nil (l' : List Int) : HsW [] l' = HsV l' := by unfold HsW; split <;> simp_all
theorem HsW_same (l : List Int) : HsW l l = HsV l := if_pos rfl
theorem HsW_more {l l' : List Int} (h : l ≠ []) (h' : l' ≠ l) : HsW l l' = [.arr 1 [[.a (.osl 2 1 0 l'.length)]], .gone, .arz 1 (IR l')] := by rw [HsW, if_neg h', if_neg h]
theorem takeIR (l : List Int) : List.take l.length (List.drop 0 (IR l)) = IR l := by rw [List.drop_zero, List.take_of_length_le (by rw [IR_length]; exact Nat.le_refl _)]
theorem roomN {n : Nat} (h : n ≤ 2199023255552) : roomB n 8 := by unfold roomB; omega
end Go.AM

set_option maxRecDepth 100000
open Go Go.Proofs
namespace Go.AM

theorem HsW_len (l l' : List Int) : (HsV l).length ≤ (HsW l l').length := by
  by_cases h : l = []
  · subst h; rw [HsW_nil]; exact HsV_len l'
  · by_cases h' : l' = l
    · rw [h', HsW_same]; exact Nat.le_refl _
    · rw [HsW_more h h', HsV_ne h]; simp
theorem HsW_live (l l' : List Int) : ∀ x ∈ (HsW l l').drop (HsV l).length, isLive x := by
  by_cases h : l = []
  · subst h; rw [HsW_nil]; exact fun x hx => HsV_live _ x (List.mem_of_mem_drop hx)
  · by_cases h' : l' = l
    · rw [h', HsW_same]; simp
    · rw [HsW_more h h', HsV_ne h]; simp [isLive]
end Go.AM

set_option maxRecDepth 100000
open Go Go.Proofs
namespace Go.AM

/-! ### The document's answers: letters -/
theorem c_rsmall (c : Int) : AC Try.prog 105 [c8 c] [] (cb (smallB c)) [] := by
  refine AC.vc hP sh lv105 (Nat.le_refl _) (by simp) (by simp) (Eq.mpr (v105 ..) ?_)
  refine br_of (fun h => ret_b ?_) (fun h => ret_b ?_) <;> simp_all [smallB] <;> omega
theorem c_rdigit (c : Int) : AC Try.prog 116 [c8 c] [] (cb (digitB c)) [] := by
  refine AC.vc hP sh lv116 (Nat.le_refl _) (by simp) (by simp) (Eq.mpr (v116 ..) ?_)
  refine br_of (fun h => ret_b ?_) (fun h => ret_b ?_) <;> simp_all [digitB] <;> omega
theorem c_rin (c : Int) : AC Try.prog 106 [c8 c] [] (cb (insideB c)) [] := by
  refine AC.vc hP sh lv106 (Nat.le_refl _) (by simp) (by simp) (Eq.mpr (v106 ..) ?_)
  have key : (decide (c ≥ 65) && decide (c ≤ 90)) = false → (c == 95) = false → smallB c = false → digitB c = false → (c == 39) = insideB c := fun h1 h2 h3 h4 => by
    have e : greatB c = false := by unfold greatB; rw [h2, show (decide (65 ≤ c) && decide (c ≤ 90)) = false from h1]; rfl
    simp only [insideB, h3, h4, e, Bool.false_or]
  have k1 : smallB c = true → true = insideB c := fun h => by simp only [insideB, h, Bool.true_or]
  have k2 : greatB c = true → true = insideB c := fun h => by simp only [insideB, h, Bool.true_or, Bool.or_true]
  have k3 : digitB c = true → true = insideB c := fun h => by simp only [insideB, h, Bool.true_or, Bool.or_true]
  have k4 : (c == 95) = true → greatB c = true := fun h => by unfold greatB; rw [h]; simp
  refine ⟨_, c_rsmall c, br_of (fun h => ret_b (k1 h)) (fun h => br_of (fun h1 => br_of (fun h2 => ret_b (k2 ?_)) (fun h2 => ⟨_, c_rdigit c, br_of (fun h3 => ret_b (k3 h3)) (fun h3 => br_of (fun h4 => ret_b (k2 (k4 h4))) (fun h4 => ret_b (key ?_ h4 h h3)))⟩)) (fun h1 => ⟨_, c_rdigit c, br_of (fun h3 => ret_b (k3 h3)) (fun h3 => br_of (fun h4 => ret_b (k2 (k4 h4))) (fun h4 => ret_b (key ?_ h4 h h3)))⟩))⟩
  · unfold greatB; rw [show decide (65 ≤ c) = true from h1, h2]; rfl
  · rw [h2]; simp
  · rw [h1]; simp
theorem sign_any (c : UInt8) : signB (c.toNat : Int) = signs.any fun x => ((x.toNat : Int) == (c.toNat : Int)) := by
  have key : ∀ n : Fin 256, signB (n.val : Int) = signs.any fun x => ((x.toNat : Int) == (n.val : Int)) := by decide +kernel
  exact key ⟨c.toNat, c.toNat_lt⟩
theorem l_rsign (c : Int) : ∀ (b a : List UInt8), a ++ b = signs → (a.any fun x => ((x.toNat : Int) == c)) = false →
    RPt Try.prog 107 0 (cb (signs.any fun x => ((x.toNat : Int) == c))) [] 1 ⟨[(0, c8 c), (3, ci a.length)], [], 0⟩
  | [], a, hab, ha => by
    rw [List.append_nil] at hab
    subst hab
    refine RPt.vc hP sh lv107 (Eq.mpr (v107_1a ..) ?_)
    exact br_of (fun h => absurd (of_decide_eq_true h) (by decide)) (fun _ => ret_b ha.symm)
  | x :: b, a, hab, ha => by
    have hl : a.length < 16 := by
      have : (a ++ x :: b).length = 16 := by rw [hab]; rfl
      simp at this; omega
    have hg : List.getD signs (Int.toNat (a.length : Int)) 0 = x := by rw [← hab]; exact gD_mid8 a x b
    refine RPt.vc hP sh lv107 (Eq.mpr (v107_1a ..) ?_)
    rw [w64 (x := (a.length : Int) + 1) (by omega) (by omega)]
    refine br_of (fun _ => ⟨⟨by omega, by omega⟩, br_of (fun h => ret_b ?_) (fun h => ?_)⟩) (fun h => absurd (of_decide_eq_false h) (by omega))
    · have h : (((List.getD signs (Int.toNat (a.length : Int)) 0).toNat : Int) == c) = true := h
      rw [hg] at h
      rw [← hab]; simp only [List.any_append, List.any_cons, h, Bool.true_or, Bool.or_true]
    · have h : (((List.getD signs (Int.toNat (a.length : Int)) 0).toNat : Int) == c) = false := h
      rw [hg] at h
      have := l_rsign c b (a ++ [x]) (by rw [ap]; exact hab) (by simp only [List.any_append, List.any_cons, List.any_nil, ha, h, Bool.or_self])
      rw [nx] at this; exact this
theorem c_rsign (c : UInt8) : AC Try.prog 107 [c8 (c.toNat : Int)] [] (cb (signB (c.toNat : Int))) [] := by
  rw [sign_any]
  refine AC.vc hP sh lv107 (Nat.le_refl _) (by simp) (by simp) (Eq.mpr (v107 ..) ?_)
  exact l_rsign _ signs [] rfl rfl
theorem l_risname : ∀ (b a : List UInt8), (a ++ b).length ≤ B → RPt Try.prog 96 0 (cb (b.all fun c => insideB (c.toNat : Int))) [] 1 ⟨[(0, cs (a ++ b)), (3, ci a.length)], [], 0⟩
  | [], a, _ => by
    refine RPt.vc hP sh lv96 (Eq.mpr (v96_1a ..) ?_)
    exact br_of (fun h => absurd (of_decide_eq_true h) (by simp)) (fun _ => ret_b rfl)
  | x :: b, a, hl => by
    have hl' := hl
    simp only [List.length_append, List.length_cons, B] at hl'
    have h2 := l_risname b (a ++ [x]) (by rw [ap]; exact hl)
    rw [ap, nx] at h2
    refine RPt.vc hP sh lv96 (Eq.mpr (v96_1a ..) ?_)
    rw [gD_mid8, w64 (x := (a.length : Int) + 1) (by omega) (by omega)]
    refine br_of (fun _ => ⟨⟨by omega, ltI a x b⟩, _, c_rin _, br_of (fun h => ret_b ?_) (fun h => ?_)⟩) (fun h => absurd (ltI a x b) (of_decide_eq_false h))
    · rw [List.all_cons, show insideB (x.toNat : Int) = false by simpa using h]; rfl
    · rw [List.all_cons, show insideB (x.toNat : Int) = true by simpa using h]; exact h2
theorem c_risname (s : List UInt8) : AC Try.prog 96 [cs s] [] (cb (isName s)) [] := by
  refine AC.vc hP sh lv96 (Nat.le_refl _) (by simp) (by simp) (Eq.mpr (v96 ..) ?_)
  refine br_of (fun h => ret_b ?_) (fun h => br_of (fun h1 => ret_b ?_) (fun h1 => ?_))
  · have h := of_decide_eq_true h
    cases s with
    | nil => rfl
    | cons c s => simp at h; omega
  · have h1 := of_decide_eq_true h1
    have : fitsB s = false := by simp only [fitsB]; rw [show decide ((s.length : Int) ≤ 32) = false by simp; omega]; simp
    simp only [isName, this, Bool.false_and]
  · have h := of_decide_eq_false h
    have h1 := of_decide_eq_false h1
    have hf : fitsB s = true := by
      simp only [fitsB]
      cases s with
      | nil => simp at h
      | cons c s => simp at h1 ⊢; omega
    refine ⟨⟨by omega, by omega⟩, _, c_rsmall _, br_of (fun h2 => ret_b ?_) (fun h2 => ?_)⟩
    · simp only [isName, show smallB ((s.getD 0 0).toNat : Int) = false by simpa using h2, Bool.and_false, Bool.false_and]
    · have := l_risname s [] (by simp only [List.nil_append, B]; omega)
      rw [show isName s = s.all fun c => insideB (c.toNat : Int) by simp only [isName, hf, show smallB ((s.getD 0 0).toNat : Int) = true by simpa using h2, Bool.true_and]]
      exact this
theorem l_rissym (s : List UInt8) : ∀ (b a : List UInt8), a ++ b = s → (s.length ≤ B) →
    RPt Try.prog 97 0 (cb ((b.all fun c => signB (c.toNat : Int)) && decide ((s.length : Int) ≥ 1) && decide ((s.length : Int) ≤ 32))) [] 1 ⟨[(0, cs s), (3, ci a.length)], [], 0⟩
  | [], a, hab, _ => by
    rw [List.append_nil] at hab
    subst hab
    refine RPt.vc hP sh lv97 (Eq.mpr (v97_1a ..) ?_)
    refine br_of (fun h => absurd (of_decide_eq_true h) (by omega)) (fun _ => br_of (fun h => ret_b ?_) (fun h => ret_b ?_))
    · rw [h]; simp
    · rw [h]; simp
  | x :: b, a, hab, hl => by
    have h3 := ltI a x b
    have hg := gD_mid8 a x b
    rw [hab] at h3 hg
    have h2 := l_rissym s b (a ++ [x]) (by rw [ap]; exact hab) hl
    rw [nx] at h2
    simp only [B] at hl
    refine RPt.vc hP sh lv97 (Eq.mpr (v97_1a ..) ?_)
    rw [hg, w64 (x := (a.length : Int) + 1) (by omega) (by omega)]
    refine br_of (fun _ => ⟨⟨by omega, h3⟩, _, c_rsign x, br_of (fun h => ret_b ?_) (fun h => ?_)⟩) (fun h => absurd h3 (of_decide_eq_false h))
    · rw [List.all_cons, show signB (x.toNat : Int) = false by simpa using h]; rfl
    · rw [List.all_cons, show signB (x.toNat : Int) = true by simpa using h]; exact h2
theorem sym_eq (s : List UInt8) : isSym s = (s == [44] || s == [59] || s == [33] || ((s.all fun c => signB (c.toNat : Int)) && decide ((s.length : Int) ≥ 1) && decide ((s.length : Int) ≤ 32))) := by
  match s with
  | [] => rfl
  | [c] =>
    have key : ∀ n : Fin 256, isSym [n.val.toUInt8] = ([n.val.toUInt8] == [44] || [n.val.toUInt8] == [59] || [n.val.toUInt8] == [33] || (([n.val.toUInt8].all fun c => signB (c.toNat : Int)) && decide ((([n.val.toUInt8].length : Nat) : Int) ≥ 1) && decide ((([n.val.toUInt8].length : Nat) : Int) ≤ 32))) := by decide +kernel
    have e : c.toNat.toUInt8 = c := by simp
    have := key ⟨c.toNat, c.toNat_lt⟩
    simp only [e] at this
    exact this
  | c :: d :: s =>
    have h2 : ∀ x : UInt8, ((c :: d :: s : List UInt8) == [x]) = false := fun x => by simp
    simp only [isSym, fitsB, h2, Bool.false_or]
    rw [show (((c :: d :: s).length : Int) == 1) = false by simp; omega, show decide (((c :: d :: s).length : Int) ≥ 1) = true by simp; omega]
    simp [Bool.and_comm]
theorem c_rissym (s : List UInt8) (hl : s.length ≤ B) : AC Try.prog 97 [cs s] [] (cb (isSym s)) [] := by
  rw [sym_eq]
  refine AC.vc hP sh lv97 (Nat.le_refl _) (by simp) (by simp) (Eq.mpr (v97 ..) ?_)
  refine br_of (fun h => ret_b ?_) (fun h => br_of (fun h1 => ret_b ?_) (fun h1 => br_of (fun h2 => ret_b ?_) (fun h2 => ?_)))
  · rw [h]; rfl
  · rw [h, h1]; rfl
  · rw [h, h1, h2]; rfl
  · rw [h, h1, h2, Bool.false_or, Bool.false_or, Bool.false_or]
    exact l_rissym s s [] rfl hl

end Go.AM

set_option maxRecDepth 100000
open Go Go.Proofs
namespace Go.AM

/-! ### The document's answers: terms -/
theorem c_rinner (t : Tm) : AC Try.prog 98 [aT t] [] (cb t.inner) [] := by
  obtain ⟨k, s, n, l⟩ := t
  refine AC.vc hP sh lv98 (Nat.le_refl _) (by simp) (by simp) (Eq.mpr (v98 k s n (FTs l) _ _) ?_)
  refine br_of (fun h => ret_b ?_) (fun h => ret_b ?_)
  · unfold Tm.inner; simp only [Tm.k, h, Bool.true_or]
  · unfold Tm.inner; simp only [Tm.k, h, Bool.false_or]
theorem c_runder (t : Tm) (k : Int) (h0 : 0 ≤ k) (h1 : k ≤ 4611686018427387904) : AC Try.prog 99 [aT t, ci k] [] (ci (k + t.by)) [] := by
  obtain ⟨kd, s, n, l⟩ := t
  refine AC.vc hP sh lv99 (Nat.le_refl _) (by simp) (by simp) (Eq.mpr (v99 kd s n (FTs l) k _ _) ?_)
  rw [w64 (x := k + 1) (by omega) (by omega)]
  refine br_of (fun h => ret_i ?_) (fun h => ret_i ?_)
  · unfold Tm.by; simp only [Tm.k, h, if_true]
  · unfold Tm.by; simp only [Tm.k, h, Bool.false_eq_true, if_false]; omega
/-! Valid. -/
theorem l_rvalid (kd : Int) (s : List UInt8) (n : Int) : ∀ (b a : List Tm) (ok : Bool), (∀ u ∈ b, AC Try.prog 77 [aT u] [] (cb (validB u)) []) → (a ++ b).length ≤ B →
    RPt Try.prog 77 0 (cb (ok && validL b)) [] 3 ⟨[(1, .c (.a (.ep 0 4 0 0))), (3, cb ok), (7, ci a.length)], [(0, .arr 4 [fzs (FT (.mk kd s n (a ++ b)))])], 1⟩
  | [], a, ok, _, _ => by
    refine RPt.vc hP sh lv77 (Eq.mpr (v77_3a ..) ?_)
    exact ⟨rfl, br_of (fun h => absurd (of_decide_eq_true h) (geI' a)) (fun _ => ret_b (by simp [validL]))⟩
  | t :: b, a, ok, ih, hl => by
    refine RPt.vc hP sh lv77 (Eq.mpr (v77_3a ..) ?_)
    have hl' := hl
    simp only [List.length_append, List.length_cons, B] at hl'
    have h1 := ih t List.mem_cons_self
    have h2 := l_rvalid kd s n b (a ++ [t]) (validB t) (fun u hu => ih u (List.mem_cons_of_mem _ hu)) (by rw [ap]; exact hl)
    have h3 := ltI' a t b
    rw [ap, nx] at h2
    rw [midI, w64 (x := (a.length : Int) + 1) (by omega) (by omega)]
    refine ⟨rfl, br_of (fun _ => br_of (fun hk => ?_) (fun hk => ret_b (by rw [hk]; rfl))) (fun h => absurd h3 (of_decide_eq_false h))⟩
    rw [hk, validL, Bool.true_and]
    obtain ⟨k', s', n', l'⟩ := t
    exact ⟨⟨rfl, by omega, h3, rfl⟩, _, h1, h2⟩
theorem c_rvalid : ∀ t : Tm, t.bk ≤ B → AC Try.prog 77 [aT t] [] (cb (validB t)) [] := by
  refine Tm.ind fun t ih hs => ?_
  have hlen := Nat.le_trans (Tm.szs_length t.l) (Tm.szs_bks t.l)
  obtain ⟨k, s, n, l⟩ := t
  simp only [Tm.bk, Tm.l] at hs hlen
  have loop : ∀ ok : Bool, (ok && validL l) = validB (.mk k s n l) → RPt Try.prog 77 0 (cb (validB (.mk k s n l))) [] 3 ⟨[(1, .c (.a (.ep 0 4 0 0))), (3, cb ok), (7, ci 0)], [(0, .arr 4 [fzs (FT (.mk k s n l))])], 1⟩ := fun ok h => by
    have := l_rvalid k s n l [] ok (fun u hu => ih u hu (by have := Tm.bks_mem hu; omega)) (by simp only [List.nil_append]; omega)
    rw [h] at this
    exact this
  refine AC.vc hP sh lv77 (Nat.le_refl _) (by simp) (by simp) (Eq.mpr (v77 k s n (FTs l) _ _) ?_)
  refine br_of (fun h0 => ⟨_, c_risname s, _, c_rissym s (by omega), br_of (fun h1 => br_of (fun h2 => ⟨rfl, ret_b ?_⟩) (fun h2 => ret_b ?_)) (fun h1 => br_of (fun h1' => br_of (fun h2 => ⟨rfl, ret_b ?_⟩) (fun h2 => ret_b ?_)) (fun h1' => ret_b ?_))⟩)
    (fun h0 => br_of (fun h1 => br_of (fun h2 => br_of (fun h3 => ⟨rfl, loop _ ?_⟩) (fun h3 => loop _ ?_)) (fun h2 => loop _ ?_))
    (fun h1 => br_of (fun h2 => br_of (fun h3 => ⟨rfl, loop _ ?_⟩) (fun h3 => loop _ ?_))
    (fun h2 => br_of (fun h3 => br_of (fun h4 => br_of (fun h5 => br_of (fun h6 => ⟨rfl, loop _ ?_⟩) (fun h6 => loop _ ?_)) (fun h5 => loop _ ?_)) (fun h4 => loop _ ?_))
    (fun h3 => br_of (fun h3' => br_of (fun h4 => br_of (fun h5 => br_of (fun h6 => ⟨rfl, loop _ ?_⟩) (fun h6 => loop _ ?_)) (fun h5 => loop _ ?_)) (fun h4 => loop _ ?_))
    (fun h3' => br_of (fun h5 => br_of (fun h6 => br_of (fun h7 => ⟨rfl, loop _ ?_⟩) (fun h7 => loop _ ?_)) (fun h6 => loop _ ?_))
    (fun h5 => br_of (fun h6 => br_of (fun h7 => ⟨rfl, br_of (fun h8 => ?app) (fun h8 => ⟨rfl, loop _ ?_⟩)⟩) (fun h7 => ⟨rfl, loop _ ?_⟩)) (fun h6 => loop _ ?_)))))))
  case app =>
    have h8' := of_decide_eq_true h8
    rw [head0 h8', FT_eta]
    refine ⟨⟨rfl, by omega, by omega, rfl⟩, rfl, br_of (fun h9 => br_of (fun h10 => ⟨rfl, loop _ ?_⟩) (fun h10 => loop _ ?_)) (fun h9 => loop _ ?_)⟩
    all_goals (have h9' : ((l.headD default).k != 6) = _ := h9; clear loop ih hs hlen h9; simp_all [validB])
  all_goals clear loop ih hs hlen
  all_goals first
    | (simp_all [validB]; done)
    | (simp_all [validB]; intros; omega)
/-! Same. -/
end Go.AM

set_option maxRecDepth 100000
open Go Go.Proofs
namespace Go.AM

/-! Size, looseness, variables. -/
mutual
def looseR : Tm → Int → Int
  | .mk kd _ n l, k => if (kd == 3) = true then maxI 0 (n - k + 1) else if (kd == 5 || kd == 6) = true then looseRL l (k + if (kd == 5) = true then 1 else 0) else 0
def looseRL : List Tm → Int → Int
  | [], _ => 0
  | t :: l, k => maxI (looseR t k) (looseRL l k)
end
theorem maxI_assoc (a b c : Int) : maxI (maxI a b) c = maxI a (maxI b c) := by
  unfold maxI; (repeat' split) <;> omega
theorem maxI0 {a : Int} (h : 0 ≤ a) : maxI a 0 = a := by unfold maxI; split <;> omega
theorem maxI_ge2 (a b : Int) : b ≤ maxI a b := by unfold maxI; split <;> omega
theorem looseRL_ge : ∀ (l : List Tm) (k : Int), 0 ≤ looseRL l k
  | [], _ => Int.le_refl _
  | t :: l, k => by rw [looseRL]; exact Int.le_trans (looseRL_ge l k) (maxI_ge2 _ _)
theorem maxI_ge (a b : Int) : a ≤ maxI a b := by unfold maxI; split <;> omega
mutual
theorem loose_acc : ∀ (t : Tm) (k acc : Int), 0 ≤ acc → looseF t k acc = maxI acc (looseR t k)
  | .mk kd _ n l, k, acc, h => by
    simp only [looseF, looseR]
    by_cases h5 : (kd == 5) = true
    · have e : kd = 5 := by simpa using h5
      subst e
      simp [loose_accs l _ acc h]
    · by_cases h6 : (kd == 6) = true
      · have e : kd = 6 := by simpa using h6
        subst e
        simp [loose_accs l _ acc h]
      · have e5 : (kd == 5) = false := by simpa using h5
        have e6 : (kd == 6) = false := by simpa using h6
        rw [if_neg h5, if_neg h6]
        by_cases h3 : (kd == 3) = true
        · rw [if_pos h3, if_pos h3, ← maxI_assoc, maxI0 h]
        · rw [if_neg h3, if_neg h3, if_neg (by rw [e5, e6]; simp), maxI0 h]
theorem loose_accs : ∀ (l : List Tm) (k acc : Int), 0 ≤ acc → looseL l k acc = maxI acc (looseRL l k)
  | [], _, acc, h => by rw [looseL, looseRL, maxI0 h]
  | t :: l, k, acc, h => by
    have h1 := loose_acc t k acc h
    rw [looseL, looseRL, h1, loose_accs l k _ (Int.le_trans h (maxI_ge _ _)), maxI_assoc]
end
theorem l_rloose (kd : Int) (s : List UInt8) (n : Int) (is : Bool) (k : Int) (h0 : 0 ≤ k) (hk : k ≤ 2305843009213693952) : ∀ (b a : List Tm) (acc : Int), (∀ u ∈ b, AC Try.prog 78 [aT u, ci (k + Tm.by (.mk kd s n []))] [] (ci (looseR u (k + Tm.by (.mk kd s n [])))) []) → (a ++ b).length ≤ B → 0 ≤ acc →
    RPt Try.prog 78 0 (ci (maxI acc (if is = true then looseRL b (k + Tm.by (.mk kd s n [])) else 0))) [] 1 ⟨[(1, ci k), (2, .c (.a (.ep 0 4 0 0))), (5, ci acc), (6, cb is), (7, ci a.length)], [(0, .arr 4 [fzs (FT (.mk kd s n (a ++ b)))])], 1⟩
  | [], a, acc, _, _, ha => by
    refine RPt.vc hP sh lv78 (Eq.mpr (v78_1a ..) ?_)
    exact ⟨rfl, br_of (fun h => absurd (of_decide_eq_true h) (geI' a)) (fun _ => ret_i (by cases is <;> simp [looseRL, maxI0 ha]))⟩
  | t :: b, a, acc, ih, hl, ha => by
    have hl' := hl
    simp only [List.length_append, List.length_cons, B] at hl'
    have h1 := ih t List.mem_cons_self
    have hu := c_runder (.mk kd s n (a ++ t :: b)) k h0 (by omega)
    have h2 := l_rloose kd s n is k h0 hk b (a ++ [t]) (maxI acc (looseR t (k + Tm.by (.mk kd s n [])))) (fun u hu => ih u (List.mem_cons_of_mem _ hu)) (by rw [ap]; exact hl) (Int.le_trans ha (maxI_ge _ _))
    have h3 := ltI' a t b
    rw [ap, nx] at h2
    refine RPt.vc hP sh lv78 (Eq.mpr (v78_1a ..) ?_)
    rw [midI, w64 (x := (a.length : Int) + 1) (by omega) (by omega)]
    refine ⟨rfl, br_of (fun _ => br_of (fun hk => ?_) (fun hk => ret_i (by rw [hk]; simp [maxI0 ha]))) (fun h => absurd h3 (of_decide_eq_false h))⟩
    rw [hk] at h2 ⊢
    rw [if_pos rfl] at h2
    rw [if_pos rfl, looseRL, ← maxI_assoc]
    obtain ⟨k', s', n', l'⟩ := t
    refine ⟨⟨rfl, by omega, h3, rfl⟩, _, hu, _, h1, ?_⟩
    rw [foldMax2]
    exact h2
theorem c_rloose : ∀ t : Tm, t.sz ≤ B → bd 2305843009213693952 t → ∀ k : Int, 0 ≤ k → k + t.sz ≤ 2305843009213693952 → AC Try.prog 78 [aT t, ci k] [] (ci (looseR t k)) [] := by
  refine Tm.ind fun t ih hs hb k h0 h1 => ?_
  have hlen := Tm.szs_length t.l
  have hi := c_rinner t
  obtain ⟨kd, s, n, l⟩ := t
  simp only [Tm.sz, Tm.l] at hs hlen h1
  refine AC.vc hP sh lv78 (Nat.le_refl _) (by simp) (by simp) (Eq.mpr (v78 kd s n (FTs l) k _ _) ?_)
  refine br_of (fun h => ret_i ?_) (fun h => ⟨_, hi, ?_⟩)
  · have := hb.1 (by simpa using h)
    rw [w64 (x := n - k) (by omega) (by omega), w64 (x := n - k + 1) (by omega) (by omega), foldMax2, looseR, if_pos h]
  · have hby : 0 ≤ Tm.by (.mk kd s n []) ∧ Tm.by (.mk kd s n []) ≤ 1 := by unfold Tm.by; split <;> omega
    have := l_rloose kd s n (Tm.inner (.mk kd s n l)) k h0 (by omega) l [] 0 (fun u hu => ih u hu (by have := Tm.szs_mem hu; omega) (bds_mem hb.2 hu) _ (by omega) (by have := Tm.szs_mem hu; omega)) (by simp only [List.nil_append]; omega) (Int.le_refl _)
    rw [show looseR (.mk kd s n l) k = maxI 0 (if Tm.inner (.mk kd s n l) = true then looseRL l (k + Tm.by (.mk kd s n [])) else 0) from ?_]
    · exact this
    · rw [looseR, if_neg (by rw [h]; simp)]
      have e : Tm.by (.mk kd s n []) = if (kd == 5) = true then 1 else 0 := rfl
      rw [e]
      show (if (kd == 5 || kd == 6) = true then _ else _) = maxI 0 (if (kd == 5 || kd == 6) = true then _ else _)
      split
      · have := looseRL_ge l (k + if (kd == 5) = true then 1 else 0)
        unfold maxI; rw [if_pos this]
      · unfold maxI; rfl

end Go.AM

set_option maxRecDepth 100000
open Go Go.Proofs
namespace Go.AM

/-! ### How often something is bound -/
mutual
def occF : Tm → Int → Nat
  | .mk k _ n l, i => if (k == 3) = true ∧ (n == i) = true then 1 else occL l (i + if (k == 5) = true then 1 else 0)
def occL : List Tm → Int → Nat
  | [], _ => 0
  | t :: l, i => occF t i + occL l i
end
mutual
theorem occF_le : ∀ (t : Tm) (i : Int), occF t i ≤ t.sz
  | .mk k s n l, i => by
    rw [occF]
    have := occL_le l (i + if (k == 5) = true then 1 else 0)
    split <;> simp only [Tm.sz] <;> omega
theorem occL_le : ∀ (l : List Tm) (i : Int), occL l i ≤ Tm.szs l
  | [], _ => Nat.le_refl _
  | t :: l, i => by have := occF_le t i; have := occL_le l i; simp only [occL, Tm.szs]; omega
end
theorem l_occurs (i : Int) : ∀ (b a : List Tm) (acc : Nat), (∀ u ∈ b, AC Try.prog 124 [aT u, ci i] [] (ci (occF u i)) []) → (a ++ b).length ≤ B → acc + occL b i ≤ 2 * B →
    RPt Try.prog 124 0 (ci ((acc + occL b i : Nat) : Int)) [] 3 ⟨[(1, ci i), (5, ci acc), (21, aL (a ++ b)), (22, ci (((FTs (a ++ b)).length : Nat) : Int)), (23, ci a.length)], [], 0⟩
  | [], a, acc, _, _, _ => by
    refine RPt.vc hP sh lv124 (Eq.mpr (v124_3a ..) ?_)
    exact br_of (fun h => absurd (of_decide_eq_true h) (geI' a)) (fun _ => ret_i (by simp [occL]))
  | t :: b, a, acc, ih, hl, ha => by
    have hl' := hl
    simp only [List.length_append, List.length_cons, B] at hl'
    simp only [occL, B] at ha
    have h1 := ih t List.mem_cons_self
    have h2 := l_occurs i b (a ++ [t]) (acc + occF t i) (fun u hu => ih u (List.mem_cons_of_mem _ hu)) (by rw [ap]; exact hl) (by simp only [B]; omega)
    have h3 := ltI' a t b
    rw [ap, nx] at h2
    refine RPt.vc hP sh lv124 (Eq.mpr (v124_3a ..) ?_)
    rw [midI, w64 (x := (a.length : Int) + 1) (by omega) (by omega)]
    refine br_of (fun _ => ?_) (fun h => absurd h3 (of_decide_eq_false h))
    rw [occL, ← Nat.add_assoc]
    obtain ⟨k', s', n', l'⟩ := t
    refine ⟨⟨rfl, by omega, h3, rfl⟩, _, h1, ?_⟩
    rw [w64 (by omega) (by omega), show (acc : Int) + ((occF (.mk k' s' n' l') i : Nat) : Int) = ((acc + occF (.mk k' s' n' l') i : Nat) : Int) by omega]
    exact h2
theorem c_occurs : ∀ t : Tm, t.sz ≤ B → ∀ i : Int, 0 - 2305843009213693952 ≤ i → i + t.sz ≤ 2305843009213693952 → AC Try.prog 124 [aT t, ci i] [] (ci (occF t i)) [] := by
  refine Tm.ind fun t ih hs i h0 h1 => ?_
  have hlen := Tm.szs_length t.l
  obtain ⟨k, s, n, l⟩ := t
  simp only [Tm.sz, Tm.l, B] at hs hlen h1
  have loop : ∀ j : Int, 0 - 2305843009213693952 ≤ j → j + Tm.szs l ≤ 2305843009213693952 → RPt Try.prog 124 0 (ci (occL l j)) [] 3 ⟨[(1, ci j), (5, ci 0), (21, aL l), (22, ci (((FTs l).length : Nat) : Int)), (23, ci 0)], [], 0⟩ := fun j hj0 hj1 => by
    have hle := occL_le l j
    have := l_occurs j l [] 0 (fun u hu => ih u hu (by have := Tm.szs_mem hu; simp only [B]; omega) j hj0 (by have := Tm.szs_mem hu; omega)) (by simp only [List.nil_append, B]; omega) (by simp only [B]; omega)
    rw [Nat.zero_add] at this
    exact this
  refine AC.vc hP sh lv124 (Nat.le_refl _) (by simp) (by simp) (Eq.mpr (v124 k s n (FTs l) i _ _) ?_)
  have no : ∀ (c : ¬ ((k == 3) = true ∧ (n == i) = true)), occF (.mk k s n l) i = occL l (i + if (k == 5) = true then 1 else 0) := fun c => by rw [occF, if_neg c]
  refine br_of (fun h => br_of (fun h2 => ret_i ?_) (fun h2 => ⟨rfl, ?_⟩)) (fun h => br_of (fun h2 => ⟨rfl, ?_⟩) (fun h2 => ⟨rfl, ?_⟩))
  · rw [occF, if_pos ⟨h, h2⟩]; rfl
  · have e : k = 3 := by simpa using h
    rw [no (fun c => by rw [c.2] at h2; cases h2)]
    subst e
    rw [show (i + if ((3 : Int) == 5) = true then 1 else 0) = i by simp]
    exact loop i (by omega) (by omega)
  · rw [no (fun c => by rw [c.1] at h; cases h), if_pos h2, w64 (by omega) (by omega)]
    exact loop (i + 1) (by omega) (by omega)
  · rw [no (fun c => by rw [c.1] at h; cases h), if_neg (by rw [h2]; simp), Int.add_zero]
    exact loop i (by omega) (by omega)
/-! Copies. -/
theorem c_clone : (∀ es : List (List FV), es ≠ [] → es.length ≤ B → AC Try.prog 81 [.c (.a (.fz (.sl false 4 es)))] [] (.c (.a (.osl 0 4 0 es.length))) [.arz 4 es]) ∧ AC Try.prog 81 [.c (.a (.fz (.sl false 4 [])))] [] (.c (.a (.fz (.sl false 4 [])))) [] := by
  have h0 : AC Try.prog 81 [.c (.a (.fz .nils))] [] (.c (.a (.fz .nils))) [] := by
    refine AC.vc hP sh lv81 (Nat.le_refl _) (by simp) (by simp) (Eq.mpr (v81 ..) ?_)
    exact ⟨.refl _, rfl⟩
  have h1 : ∀ es : List (List FV), es.length ≤ B → AC Try.prog 81 [.c (.a (.fz (.sl true 4 es)))] [] (.c (.a (.osl 0 4 0 es.length))) [.arz 4 es] := fun es hl => by
    refine AC.vc hP sh lv81 (by simp) (by simp) (by simp [isLive]) (Eq.mpr (v81_i1 ..) ?_)
    refine ⟨rfl, ⟨by omega, by rw [Nat.zero_add]; exact roomI (by simp only [B] at hl; omega)⟩, ?_⟩
    rw [Nat.zero_add]
    exact ⟨.refl _, rfl⟩
  exact AC.clone_le h0 h1
/-! The document's. -/
theorem c_boccurs (t : Tm) (hs : t.sz ≤ B) (i : Int) (h0 : 0 - 2305843009213693952 ≤ i) (h1 : i + t.sz ≤ 2305843009213693952) : AC Try.prog 118 [aT t, ci i] [] (ci (if validB t = true then (occF t i : Int) else 0)) [] := by
  have hv := c_valid t hs
  have ho := c_occurs t hs i h0 h1
  obtain ⟨k, s, n, l⟩ := t
  refine AC.vc hP sh lv118 (Nat.le_refl _) (by simp) (by simp) (Eq.mpr (v118 k s n (FTs l) i _ _) ?_)
  refine ⟨_, hv, br_of (fun h => ret_i ?_) (fun h => ⟨_, ho, ret_i ?_⟩)⟩
  · rw [if_neg (by simpa using h)]
  · rw [if_pos (by simpa using h)]

end Go.AM

set_option maxRecDepth 100000
open Go Go.Proofs
namespace Go.AM

/-! ### A body with an argument -/
/-- A term and an error's number. -/
abbrev aTE (t : Tm) (e : Int) : TV := .tup [(true, [.a (.fz (.int .i64 t.k)), .a (.fz (.str t.s)), .a (.fz (.int .i64 t.n)), .a (.fz (.sl false 4 (FTs t.l)))]), (false, [.a (.fz (.int .i64 e))])]
abbrev noT : Tm := .mk 0 [] 0 []
theorem leTE {k n e : Int} {s : List UInt8} {x : FV} {l : List Tm} (h : FV.Le x (.sl false 4 (FTs l))) : TV.Le (.tup [(true, [.a (.fz (.int .i64 k)), .a (.fz (.str s)), .a (.fz (.int .i64 n)), .a (.fz x)]), (false, [.a (.fz (.int .i64 e))])]) (aTE (.mk k s n l) e) := by
  refine .tup _ _ rfl fun i p q hp hq => ?_
  match i, hp, hq with
  | 0, hp, hq =>
    simp only [List.getElem?_cons_zero, Option.some.injEq] at hp hq
    subst hp; subst hq
    refine ⟨rfl, rfl, fun j x y hx hy => ?_⟩
    match j, hx, hy with
    | 0, hx, hy => simp at hx hy; subst hx; subst hy; exact .refl _
    | 1, hx, hy => simp at hx hy; subst hx; subst hy; exact .refl _
    | 2, hx, hy => simp at hx hy; subst hx; subst hy; exact .refl _
    | 3, hx, hy => simp at hx hy; subst hx; subst hy; exact .a _ _ (.fz _ _ h)
    | j + 4, hx, _ => simp at hx
  | 1, hp, hq =>
    simp only [List.getElem?_cons_zero, List.getElem?_cons_succ, Option.some.injEq] at hp hq
    subst hp; subst hq
    refine ⟨rfl, rfl, fun j x y hx hy => ?_⟩
    match j, hx, hy with
    | 0, hx, hy => simp at hx hy; subst hx; subst hy; exact .refl _
    | j + 1, hx, _ => simp at hx
  | i + 2, hp, _ => simp at hp
/-- Is there room? -/
def roomT (body arg : Tm) : Bool := !decide ((sizeF body : Int) + (occF body 0 : Int) * (sizeF arg : Int) > 4096)
def conF (body arg : Tm) : Tm := if roomT body arg = true then suT 0 arg body 0 else noT
def conE (body arg : Tm) : Int := if roomT body arg = true then 0 else 80

end Go.AM

set_option maxRecDepth 100000
open Go Go.Proofs
namespace Go.AM

/-! ### Redexes -/
def hd (l : List Tm) : Tm := l.headD default
def redexB (t : Tm) : Bool := t.k == 6 && (hd t.l).k == 5
mutual
/-- Its kinds have as many within as they must. -/
def okB : Tm → Bool
  | .mk k s n l => (if (k == 6) = true then decide (2 ≤ l.length) && (hd l).k != 6 && (s == [] && n == 0) else if (k == 5) = true then decide (l.length = 1) && (s == [] && n == 0) else decide (l.length = 0)) && okL l
def okL : List Tm → Bool
  | [] => true
  | t :: l => okB t && okL l
end
theorem okL_mem : ∀ {l : List Tm} {t : Tm}, okL l = true → t ∈ l → okB t = true
  | x :: l, t, h, hm => by
    simp only [okL, Bool.and_eq_true] at h
    rcases List.mem_cons.1 hm with rfl | hm
    · exact h.1
    · exact okL_mem h.2 hm
theorem okL_of : ∀ {l : List Tm}, (∀ t ∈ l, okB t = true) → okL l = true
  | [], _ => rfl
  | t :: l, h => by simp only [okL, h t List.mem_cons_self, okL_of (l := l) fun u hu => h u (List.mem_cons_of_mem _ hu), Bool.and_self]
theorem okB6 {k n : Int} {s : List UInt8} {l : List Tm} (h : okB (.mk k s n l) = true) (hk : k = 6) : ∃ x y r, l = x :: y :: r ∧ x.k ≠ 6 ∧ okL l = true := by
  subst hk
  simp only [okB, Bool.and_eq_true] at h
  match l, h with
  | [], h => simp at h
  | [x], h => simp at h
  | x :: y :: r, h => exact ⟨x, y, r, rfl, by have := h.1; simp [hd] at this; exact this.1, h.2⟩
theorem okB5 {k n : Int} {s : List UInt8} {l : List Tm} (h : okB (.mk k s n l) = true) (hk : k = 5) : ∃ x, l = [x] ∧ okB x = true := by
  subst hk
  simp only [okB, Bool.and_eq_true] at h
  match l, h with
  | [], h => simp at h
  | [x], h => exact ⟨x, rfl, by have := h.2; simpa [okL] using this⟩
  | x :: y :: r, h => simp at h
theorem okB0 {k n : Int} {s : List UInt8} {l : List Tm} (h : okB (.mk k s n l) = true) (h5 : k ≠ 5) (h6 : k ≠ 6) : l = [] := by
  simp only [okB, Bool.and_eq_true] at h
  have := h.1
  rw [if_neg (by simpa using h6), if_neg (by simpa using h5)] at this
  exact List.eq_nil_of_length_eq_zero (by simpa using this)
theorem okB_sn {k n : Int} {s : List UInt8} {l : List Tm} (h : okB (.mk k s n l) = true) (hk : k = 5 ∨ k = 6) : s = [] ∧ n = 0 := by
  simp only [okB, Bool.and_eq_true] at h
  have h := h.1
  rcases hk with rfl | rfl
  · simp at h; exact h.2
  · simp at h; exact h.2
theorem okB_l {t : Tm} (h : okB t = true) : okL t.l = true := by
  obtain ⟨k, s, n, l⟩ := t
  simp only [okB, Bool.and_eq_true] at h; exact h.2
mutual
theorem valid_ok : ∀ t : Tm, validB t = true → okB t = true
  | .mk k s n l, h => by
    rw [okB]
    have hl := valid_okL l
    rw [validB] at h
    split at h
    · rename_i e
      have e : k = 0 := by simpa using e
      subst e
      rw [lenI] at h
      have : l = [] := by simp at h; exact h.2
      subst this; rfl
    split at h
    · rename_i e
      have e : k = 1 := by simpa using e
      subst e
      rw [lenI] at h
      have : l = [] := by simp at h; exact h.1.2
      subst this; rfl
    split at h
    · rename_i e
      have e : k = 2 := by simpa using e
      subst e
      rw [lenI] at h
      have : l = [] := by simp at h; exact h.1.2
      subst this; rfl
    split at h
    · rename_i e
      have e : k = 3 := by simpa using e
      subst e
      rw [lenI] at h
      have : l = [] := by simp at h; exact h.1.2
      subst this; rfl
    split at h
    · rename_i e
      have e : k = 4 := by simpa using e
      subst e
      rw [lenI] at h
      have : l = [] := by simp at h; exact h.1.2
      subst this; rfl
    split at h
    · rename_i e
      have e : k = 5 := by simpa using e
      subst e
      rw [lenI] at h
      simp only [Bool.and_eq_true, beq_iff_eq] at h
      have h1 : l.length = 1 := by have := h.1.2; omega
      rw [hl h.2]
      simp [h1, h.1.1.1, h.1.1.2]
    split at h
    · rename_i e
      have e : k = 6 := by simpa using e
      subst e
      rw [lenI] at h
      simp only [Bool.and_eq_true, decide_eq_true_eq, beq_iff_eq] at h
      have h1 : 2 ≤ l.length := by have := h.1.1.1.2; omega
      have h2 : ((hd l).k != 6) = true := h.1.1.2
      rw [hl h.2, h2]
      simp [h1, h.1.1.1.1, h.1.2]
    · cases h
theorem valid_okL : ∀ l : List Tm, validL l = true → okL l = true
  | [], _ => rfl
  | t :: l, h => by
    simp only [validL, Bool.and_eq_true] at h
    simp only [okL, valid_ok t h.1, valid_okL l h.2, Bool.and_self]
end
theorem ok_ne {t : Tm} (h : okB t = true) : t.k = 6 → t.l ≠ [] := by
  obtain ⟨k, s, n, l⟩ := t
  intro hk
  obtain ⟨x, y, r, e, _⟩ := okB6 h hk
  show l ≠ []
  rw [e]; simp
/-! ### Normal -/
mutual
def normB : Tm → Bool
  | .mk k s n l => !redexB (.mk k s n l) && normL l
def normL : List Tm → Bool
  | [] => true
  | t :: l => normB t && normL l
end
def rednAt : List Tm → Int → Int
  | [], _ => -1
  | t :: l, i => if normB t = true then rednAt l (i + 1) else i
theorem rednAt_ge : ∀ (l : List Tm) (i : Int), 0 ≤ i → decide (rednAt l i ≥ 0) = !normL l
  | [], _, _ => rfl
  | t :: l, i, h => by
    rw [rednAt, normL]
    split
    · rename_i e; rw [rednAt_ge l (i + 1) (by omega), e, Bool.true_and]
    · rename_i e; rw [show normB t = false by simpa using e]; simp; omega
end Go.AM

set_option maxRecDepth 100000
open Go Go.Proofs
namespace Go.AM

/-! ### The document's: applied, with others within, shifted, put in -/
/-- No term's cells. -/
abbrev zT : List WV := [.a (.fz (.int .i64 0)), .a (.fz (.str [])), .a (.fz (.int .i64 0)), .a (.fz .nils)]
theorem apply_some (k : Int) (s : List UInt8) (n : Int) (l : List Tm) (a : Tm) (r : List Tm) : applyF (.mk k s n l) (a :: r) = if (k == 6) = true ∧ l ≠ [] then .mk 6 [] 0 (l ++ a :: r) else .mk 6 [] 0 (.mk k s n l :: a :: r) := rfl
end Go.AM

set_option maxRecDepth 100000
open Go Go.Proofs
namespace Go.AM

mutual
theorem nd_sz : ∀ t : Tm, nd t = t.sz
  | .mk _ _ _ l => by simp only [nd, Tm.sz, nds_szs l]
theorem nds_szs : ∀ l : List Tm, nds l = Tm.szs l
  | [] => rfl
  | t :: l => by simp only [nds, Tm.szs, nd_sz t, nds_szs l]
end
mutual
theorem ok_size : ∀ t : Tm, okB t = true → sizeF t = t.sz
  | .mk k s n l, h => by
    have hl := ok_sizes l (okB_l h)
    by_cases h6 : k = 6
    · subst h6; simp [sizeF, Tm.sz, hl]
    · by_cases h5 : k = 5
      · subst h5; simp [sizeF, Tm.sz, hl]
      · have : l = [] := okB0 h h5 h6
        subst this
        simp [sizeF, Tm.sz, sizeL, Tm.szs]
theorem ok_sizes : ∀ l : List Tm, okL l = true → sizeL l = Tm.szs l
  | [], _ => rfl
  | t :: l, h => by
    simp only [okL, Bool.and_eq_true] at h
    simp only [sizeL, Tm.szs, ok_size t h.1, ok_sizes l h.2]
end
/-- How large a term may be in what follows. -/
def SZ : Nat := 67108864
theorem room_sz {body arg : Tm} (ob : okB body = true) (oa : okB arg = true) (hr : roomT body arg = true) (ha : arg.sz ≤ SZ) : body.sz + nd body * arg.sz ≤ B ∧ body.sz + occF body 0 * arg.sz ≤ 4096 := by
  have h1 : ((sizeF body : Int) + (occF body 0 : Int) * (sizeF arg : Int) ≤ 4096) := by
    have : (!decide ((sizeF body : Int) + (occF body 0 : Int) * (sizeF arg : Int) > 4096)) = true := hr
    simp only [Bool.not_eq_true', decide_eq_false_iff_not] at this
    omega
  rw [ok_size body ob, ok_size arg oa, nd_sz] at *
  have h0 : body.sz + occF body 0 * arg.sz ≤ 4096 := by
    have : ((body.sz + occF body 0 * arg.sz : Nat) : Int) ≤ 4096 := by rw [Int.natCast_add, Int.natCast_mul]; exact h1
    omega
  have h2 : body.sz ≤ 4096 := by omega
  have h3 := Nat.mul_le_mul h2 ha
  simp only [SZ] at h3
  exact ⟨by simp only [B]; omega, h0⟩
theorem zm_le {body arg : Tm} (hb : body.sz ≤ 1073741824) (ha : arg.sz ≤ 1073741824) : 0 ≤ (occF body 0 : Int) * (sizeF arg : Int) ∧ (occF body 0 : Int) * (sizeF arg : Int) ≤ 1152921504606846976 := by
  have := Nat.mul_le_mul (Nat.le_trans (occF_le body 0) hb) (Nat.le_trans (sizeF_le arg) ha)
  exact ⟨Int.mul_nonneg (by omega) (by omega), by omega⟩
theorem c_bcontr (body arg : Tm) (ob : okB body = true) (oa : okB arg = true) (hb : body.sz ≤ SZ) (ha : arg.sz ≤ SZ) (db : bd M61 body) (da : bd M61 arg) : AC Try.prog 117 [aT body, aT arg] [] (aTE (conF body arg) (conE body arg)) [] := by
  simp only [SZ] at hb ha
  have h1 := c_size body (by simp only [B]; omega)
  have h2 := c_occurs body (by simp only [B]; omega) 0 (by omega) (by omega)
  have h3 := c_size arg (by simp only [B]; omega)
  have h4 := fun hr => c_subst body arg 0 (by simp only [B]; omega) (room_sz ob oa hr (by simp only [SZ]; omega)).1 db da (by omega) (by simp only [M61]; omega)
  have z1 := sizeF_le body
  have z2 := zm_le (body := body) (arg := arg) (by omega) (by omega)
  have cF : ∀ b, roomT body arg = b → conF body arg = (if b = true then suT 0 arg body 0 else noT) ∧ conE body arg = (if b = true then 0 else 80) := fun b h => by unfold conF conE; rw [h]; exact ⟨rfl, rfl⟩
  have hf : roomT body arg = !decide ((sizeF body : Int) + (occF body 0 : Int) * (sizeF arg : Int) > 4096) := rfl
  obtain ⟨k, s, n, l⟩ := body
  obtain ⟨k', s', n', l'⟩ := arg
  refine AC.vc hP sh lv117 (Nat.le_refl _) (by simp) (by simp) (Eq.mpr (v117 k s n (FTs l) k' s' n' (FTs l') _ _) ?_)
  refine ⟨_, h1, _, h2, _, h3, ?_⟩
  rw [w64 (x := (occF (.mk k s n l) 0 : Int) * (sizeF (.mk k' s' n' l') : Int)) (by omega) (by omega), w64 (by omega) (by omega)]
  refine br_of (fun h => ?_) (fun h => ?_)
  · obtain ⟨e1, e2⟩ := cF false (by rw [hf, h]; rfl)
    rw [e1, e2]
    exact ⟨leTE leNil, rfl⟩
  · obtain ⟨e1, e2⟩ := cF true (by rw [hf, h]; rfl)
    rw [e1, e2]
    exact ⟨_, h4 (by rw [hf, h]; rfl), .refl _, rfl⟩
theorem c_bcontract (body arg : Tm) (hb : body.sz ≤ SZ) (ha : arg.sz ≤ SZ) (db : bd M61 body) (da : bd M61 arg) : AC Try.prog 109 [aT body, aT arg] [] (if (validB body && validB arg) = true then aTE (conF body arg) (conE body arg) else aTE noT 1) [] := by
  have h1 := c_valid body (by simp only [SZ, B] at *; omega)
  have h2 := c_valid arg (by simp only [SZ, B] at *; omega)
  have h3 := fun ob oa => c_bcontr body arg (valid_ok body ob) (valid_ok arg oa) hb ha db da
  obtain ⟨k, s, n, l⟩ := body
  obtain ⟨k', s', n', l'⟩ := arg
  refine AC.vc hP sh lv109 (Nat.le_refl _) (by simp) (by simp) (Eq.mpr (v109 k s n (FTs l) k' s' n' (FTs l') _ _) ?_)
  refine ⟨_, h1, br_of (fun h => ?_) (fun h => ⟨_, h2, br_of (fun h' => ?_) (fun h' => ?_)⟩)⟩
  · rw [if_neg (by rw [show validB (.mk k s n l) = false by simpa using h]; simp)]
    exact ⟨leTE leNil, rfl⟩
  · rw [if_neg (by rw [show validB (.mk k' s' n' l') = false by simpa using h']; simp)]
    exact ⟨leTE leNil, rfl⟩
  · have e1 : validB (.mk k s n l) = true := by simpa using h
    have e2 : validB (.mk k' s' n' l') = true := by simpa using h'
    rw [if_pos (by rw [e1, e2]; rfl)]
    exact ⟨(_, _), h3 e1 e2, .refl _, rfl⟩
/-! ### One step -/
theorem redex_shape {t : Tm} (ho : okB t = true) (hr : redexB t = true) : ∃ s n s1 n1 body arg rest, t = .mk 6 s n (.mk 5 s1 n1 [body] :: arg :: rest) ∧ okB body = true ∧ okB arg = true ∧ okL rest = true := by
  obtain ⟨k, s, n, l⟩ := t
  simp only [redexB, Tm.k, Tm.l, Bool.and_eq_true, beq_iff_eq] at hr
  obtain ⟨rfl, h5⟩ := hr
  obtain ⟨x, y, r, rfl, _, hl⟩ := okB6 ho rfl
  simp only [okL, Bool.and_eq_true] at hl
  obtain ⟨k', s', n', l'⟩ := x
  have h5 : k' = 5 := h5
  subst h5
  obtain ⟨b, rfl, hb⟩ := okB5 hl.1 rfl
  exact ⟨s, n, s', n', b, y, r, rfl, hb, hl.2.1, hl.2.2⟩
mutual
def stepF : Tm → Tm × Int
  | .mk k s n l => if redexB (.mk k s n l) = true then (if roomT (hd (hd l).l) (hd l.tail) = true then (applyF (suT 0 (hd l.tail) (hd (hd l).l) 0) (l.drop 2), 1) else (noT, 2))
    else if (stepL l).2 = 0 then (.mk k s n l, 0) else if (stepL l).2 = 1 then (.mk k [] 0 (stepL l).1, 1) else (noT, 2)
def stepL : List Tm → List Tm × Int
  | [] => ([], 0)
  | t :: l => if (stepF t).2 = 0 then (t :: (stepL l).1, (stepL l).2) else ((stepF t).1 :: l, (stepF t).2)
end
mutual
theorem stepF_n : ∀ t : Tm, (stepF t).2 = 0 ∨ (stepF t).2 = 1 ∨ (stepF t).2 = 2
  | .mk k s n l => by
    rw [stepF]
    split
    · split
      · exact .inr (.inl rfl)
      · exact .inr (.inr rfl)
    · split
      · exact .inl rfl
      · split
        · exact .inr (.inl rfl)
        · exact .inr (.inr rfl)
theorem stepL_n : ∀ l : List Tm, (stepL l).2 = 0 ∨ (stepL l).2 = 1 ∨ (stepL l).2 = 2
  | [] => .inl rfl
  | t :: l => by
    rw [stepL]
    split
    · exact stepL_n l
    · exact stepF_n t
end
theorem stepF_leaf {t : Tm} (ho : okB t = true) (h5 : t.k ≠ 5) (h6 : t.k ≠ 6) : stepF t = (t, 0) := by
  obtain ⟨k, s, n, l⟩ := t
  have : l = [] := okB0 ho h5 h6
  subst this
  rw [stepF, if_neg (by simp only [redexB, Tm.k, Bool.and_eq_true, beq_iff_eq]; exact fun e => h6 e.1)]
  rfl
/-- The head of what is no redex has no step. -/
theorem stepF_hd {k n : Int} {s : List UInt8} {x : Tm} {l : List Tm} (ho : okB (.mk k s n (x :: l)) = true) (hr : redexB (.mk k s n (x :: l)) = false) (hk : k = 6) : stepF x = (x, 0) := by
  obtain ⟨y, z, r, e, h6, hl⟩ := okB6 ho hk
  injection e with e1 e2
  subst e1
  subst hk
  simp only [okL, Bool.and_eq_true] at hl
  refine stepF_leaf hl.1 (fun e => ?_) h6
  have : redexB (.mk 6 s n (x :: l)) = true := by simp only [redexB, Tm.k, Tm.l, hd, List.headD_cons, Bool.and_eq_true, beq_iff_eq]; exact ⟨trivial, e⟩
  rw [hr] at this; cases this
abbrev aSt (u : Tm) (n : Int) : TV := .tup [(true, cT u), (false, [.a (.fz (.bool (n != 0)))]), (false, [.a (.fz (.int .i64 (if n = 2 then 80 else 0)))])]
theorem leSt {k n e : Int} {b : Bool} {s : List UInt8} {x : FV} {l : List Tm} (h : FV.Le x (.sl false 4 (FTs l))) : TV.Le (.tup [(true, [.a (.fz (.int .i64 k)), .a (.fz (.str s)), .a (.fz (.int .i64 n)), .a (.fz x)]), (false, [.a (.fz (.bool b))]), (false, [.a (.fz (.int .i64 e))])]) (.tup [(true, cT (.mk k s n l)), (false, [.a (.fz (.bool b))]), (false, [.a (.fz (.int .i64 e))])]) := by
  refine .tup _ _ rfl fun i p q hp hq => ?_
  match i, hp, hq with
  | 0, hp, hq =>
    simp only [List.getElem?_cons_zero, Option.some.injEq] at hp hq
    subst hp; subst hq
    refine ⟨rfl, rfl, fun j x y hx hy => ?_⟩
    match j, hx, hy with
    | 0, hx, hy => simp at hx hy; subst hx; subst hy; exact .refl _
    | 1, hx, hy => simp at hx hy; subst hx; subst hy; exact .refl _
    | 2, hx, hy => simp at hx hy; subst hx; subst hy; exact .refl _
    | 3, hx, hy => simp at hx hy; subst hx; subst hy; exact .a _ _ (.fz _ _ h)
    | j + 4, hx, _ => simp at hx
  | 1, hp, hq =>
    simp only [List.getElem?_cons_zero, List.getElem?_cons_succ, Option.some.injEq] at hp hq
    subst hp; subst hq
    exact ⟨rfl, rfl, fun j x y hx hy => by rw [hx] at hy; injection hy with hy; subst hy; exact .refl _⟩
  | 2, hp, hq =>
    simp only [List.getElem?_cons_zero, List.getElem?_cons_succ, Option.some.injEq] at hp hq
    subst hp; subst hq
    exact ⟨rfl, rfl, fun j x y hx hy => by rw [hx] at hy; injection hy with hy; subst hy; exact .refl _⟩
  | i + 3, hp, _ => simp at hp
theorem el0 (x : Tm) (l : List Tm) : FV.isSl 4 (.sl false 4 (FTs (x :: l))) = true ∧ ((0 : Int) ≤ 0 ∧ ((0 : Int) < (((FTs (x :: l)).length : Nat) : Int) ∧ (rE (List.getD (FTs (x :: l)) 0 []) : List FV) = List.getD (FTs (x :: l)) 0 [])) := ⟨rfl, Int.le_refl _, by rw [lenI]; simp only [List.length_cons]; omega, rE_FT x⟩
theorem el1 (x y : Tm) (l : List Tm) : FV.isSl 4 (.sl false 4 (FTs (x :: y :: l))) = true ∧ ((0 : Int) ≤ 1 ∧ ((1 : Int) < (((FTs (x :: y :: l)).length : Nat) : Int) ∧ (rE (List.getD (FTs (x :: y :: l)) 1 []) : List FV) = List.getD (FTs (x :: y :: l)) 1 [])) := ⟨rfl, by omega, by rw [lenI]; simp only [List.length_cons]; omega, rE_FT y⟩
theorem set_mid (a : List Tm) (t : Tm) (b : List Tm) (u : Tm) : List.set (FTs (a ++ t :: b)) (0 + Int.toNat (a.length : Int)) (FT4 u) = FTs (a ++ u :: b) := by
  rw [Nat.zero_add, toNat_len, FT4_eq, FTs_set]
  congr 1
  simp
theorem leTB {k n : Int} {b : Bool} {s : List UInt8} {x : FV} {l : List Tm} (h : FV.Le x (.sl false 4 (FTs l))) : TV.Le (.tup [(true, [.a (.fz (.int .i64 k)), .a (.fz (.str s)), .a (.fz (.int .i64 n)), .a (.fz x)]), (false, [.a (.fz (.bool b))])]) (.tup [(true, cT (.mk k s n l)), (false, [.a (.fz (.bool b))])]) := by
  refine .tup _ _ rfl fun i p q hp hq => ?_
  match i, hp, hq with
  | 0, hp, hq =>
    simp only [List.getElem?_cons_zero, Option.some.injEq] at hp hq
    subst hp; subst hq
    refine ⟨rfl, rfl, fun j x y hx hy => ?_⟩
    match j, hx, hy with
    | 0, hx, hy => simp at hx hy; subst hx; subst hy; exact .refl _
    | 1, hx, hy => simp at hx hy; subst hx; subst hy; exact .refl _
    | 2, hx, hy => simp at hx hy; subst hx; subst hy; exact .refl _
    | 3, hx, hy => simp at hx hy; subst hx; subst hy; exact .a _ _ (.fz _ _ h)
    | j + 4, hx, _ => simp at hx
  | 1, hp, hq =>
    simp only [List.getElem?_cons_zero, List.getElem?_cons_succ, Option.some.injEq] at hp hq
    subst hp; subst hq
    exact ⟨rfl, rfl, fun j x y hx hy => by rw [hx] at hy; injection hy with hy; subst hy; exact .refl _⟩
  | i + 2, hp, _ => simp at hp
/-! The document's. -/
theorem not_t {b : Bool} (h : (!b) = true) : b = false := by cases b <;> simp_all
theorem not_f {b : Bool} (h : (!b) = false) : b = true := by cases b <;> simp_all
abbrev aRs (u : Tm) (n : Int) : TV := .tup [(true, cT u), (false, [.a (.fz (.int .i64 n))])]
end Go.AM

set_option maxRecDepth 100000
open Go Go.Proofs
namespace Go.AM

/-! ### What steps make: kinds, sizes, numbers -/
theorem applyF_ok {f : Tm} {args : List Tm} (hf : okB f = true) (ha : okL args = true) : okB (applyF f args) = true := by
  match args, ha with
  | [], _ => exact hf
  | a :: r, ha =>
    obtain ⟨k, s, n, l⟩ := f
    rw [apply_some]
    split
    · rename_i h
      have hk : k = 6 := by simpa using h.1
      obtain ⟨x, y, r', rfl, h6, hl⟩ := okB6 hf hk
      have hall : okL ((x :: y :: r') ++ a :: r) = true := okL_of fun t ht => by
        rcases List.mem_append.1 ht with ht | ht
        · exact okL_mem hl ht
        · exact okL_mem ha ht
      have h6' : (x.k != 6) = true := by simpa using h6
      rw [okB, hall]
      simp [hd, h6]
    · rename_i h
      have h6 : k ≠ 6 := fun e => h ⟨by simpa using e, ok_ne hf e⟩
      have hall : okL (.mk k s n l :: a :: r) = true := by simp only [okL, Bool.and_eq_true] at ha ⊢; exact ⟨hf, ha⟩
      rw [okB, hall]
      simp [hd, Tm.k, h6]
theorem withF_ok {k n : Int} {s : List UInt8} {l o : List Tm} (h : okB (.mk k s n l) = true) (hk : k = 5 ∨ k = 6) (ho : okL o = true) (hlen : o.length = l.length) : okB (withF (.mk k s n l) o) = true := by
  obtain ⟨rfl, rfl⟩ := okB_sn h hk
  unfold withF
  split
  · rename_i hc
    match o, ho, hc with
    | [], _, hc => simp at hc
    | x :: r, ho, hc =>
      simp only [okL, Bool.and_eq_true] at ho
      exact applyF_ok ho.1 ho.2
  · rename_i hc
    show okB (.mk k [] 0 o) = true
    rcases hk with rfl | rfl
    · obtain ⟨x, rfl, _⟩ := okB5 h rfl
      rw [okB, ho]; simp only [List.length_cons, List.length_nil] at hlen; simp [hlen]
    · obtain ⟨x, y, r, rfl, h6, _⟩ := okB6 h rfl
      have h1 : ¬ (hd o).k = 6 := fun e => hc ⟨rfl, by rw [hlen]; simp, by simpa [hd] using e, show (x.k != 6) = true by simpa using h6⟩
      rw [okB, ho]; simp only [List.length_cons] at hlen; simp [hlen, h1]
mutual
theorem walkF_ok (lf : Tm → Int → Tm) (h : ∀ u d, okB u = true → u.k ≠ 5 → u.k ≠ 6 → okB (lf u d) = true) : ∀ (t : Tm) (d : Int), okB t = true → okB (walkF lf t d) = true
  | .mk k s n l, d, ho => by
    rw [walkF]
    split
    · rename_i hk
      exact withF_ok ho (by simpa using hk) (walkL_ok lf h l _ (okB_l ho)) (walkL_length ..)
    · rename_i hk
      exact h _ _ ho (fun e => hk (by simp [show k = 5 from e])) (fun e => hk (by simp [show k = 6 from e]))
theorem walkL_ok (lf : Tm → Int → Tm) (h : ∀ u d, okB u = true → u.k ≠ 5 → u.k ≠ 6 → okB (lf u d) = true) : ∀ (l : List Tm) (d : Int), okL l = true → okL (walkL lf l d) = true
  | [], _, _ => rfl
  | t :: l, d, ho => by
    simp only [okL, Bool.and_eq_true] at ho
    simp only [walkL, okL, walkF_ok lf h t d ho.1, walkL_ok lf h l d ho.2, Bool.and_self]
end
theorem okB_leaf {k n m : Int} {s : List UInt8} {l : List Tm} (h : okB (.mk k s n l) = true) (h5 : k ≠ 5) (h6 : k ≠ 6) : okB (.mk k s m l) = true := by
  have : l = [] := okB0 h h5 h6
  subst this
  simp [okB, h5, h6, okL]
theorem shT_ok {fr by_ : Int} {t : Tm} (d : Int) (h : okB t = true) : okB (shT fr by_ t d) = true := by
  refine walkF_ok _ (fun u d hu h5 h6 => ?_) t d h
  unfold shLeaf
  split
  · obtain ⟨k, s, n, l⟩ := u; exact okB_leaf hu h5 h6
  · exact hu
theorem suT_ok {i : Int} {s t : Tm} (d : Int) (hs : okB s = true) (h : okB t = true) : okB (suT i s t d) = true := by
  refine walkF_ok _ (fun u d hu h5 h6 => ?_) t d h
  unfold suLeaf
  split
  · split
    · exact hu
    · split
      · exact shT_ok _ hs
      · obtain ⟨k, s, n, l⟩ := u; exact okB_leaf hu h5 h6
  · exact hu
mutual
theorem suT_occ (i : Int) (s : Tm) : ∀ (t : Tm) (d : Int), (suT i s t d).sz ≤ t.sz + occF t (d + i) * s.sz
  | .mk k s' n l, d => by
    rw [suT, walkF]
    split
    · rename_i hk
      have h1 := suT_occs i s l (d + if (k == 5) = true then 1 else 0)
      have h2 := withF_sz (.mk k s' n l) (walkL (suLeaf i s) l (d + if (k == 5) = true then 1 else 0))
      have h3 : occF (.mk k s' n l) (d + i) = occL l (d + (if (k == 5) = true then 1 else 0) + i) := by
        rw [occF, if_neg (by rintro ⟨e, _⟩; have : k = 3 := by simpa using e
                             subst this; simp at hk)]
        congr 1; omega
      rw [h3]
      simp only [Tm.sz]; omega
    · unfold suLeaf
      rw [occF]
      split
      · rename_i h3
        split
        · omega
        · split
          · rename_i h4
            have h5 := shT_sz 0 d s 0
            rw [if_pos ⟨h3, h4⟩]; omega
          · simp only [Tm.sz, Tm.l]; omega
      · omega
theorem suT_occs (i : Int) (s : Tm) : ∀ (l : List Tm) (d : Int), Tm.szs (walkL (suLeaf i s) l d) ≤ Tm.szs l + occL l (d + i) * s.sz
  | [], _ => by simp [walkL, Tm.szs]
  | t :: l, d => by
    have h1 := suT_occ i s t d
    have h2 := suT_occs i s l d
    have h1 : (walkF (suLeaf i s) t d).sz ≤ t.sz + occF t (d + i) * s.sz := h1
    simp only [walkL, Tm.szs, occL, Nat.add_mul]; omega
end
theorem stepL_app : ∀ (a b : List Tm), (∀ u ∈ a, (stepF u).2 = 0) → stepL (a ++ b) = (a ++ (stepL b).1, (stepL b).2)
  | [], b, _ => rfl
  | x :: a, b, h => by
    have := stepL_app a b fun u hu => h u (List.mem_cons_of_mem _ hu)
    rw [List.cons_append, stepL, if_pos (h x List.mem_cons_self), this]; rfl
theorem stepL_hit {t : Tm} (b : List Tm) (h : (stepF t).2 ≠ 0) : stepL (t :: b) = ((stepF t).1 :: b, (stepF t).2) := by rw [stepL, if_neg h]
theorem stepF_non {k n : Int} {s : List UInt8} {l : List Tm} (h : redexB (.mk k s n l) = false) : stepF (.mk k s n l) = (if (stepL l).2 = 0 then (.mk k s n l, 0) else if (stepL l).2 = 1 then (.mk k [] 0 (stepL l).1, 1) else (noT, 2)) := by rw [stepF, if_neg (by rw [h]; simp)]
mutual
theorem stepF_fit (M : Int) (hM : 0 ≤ M) : ∀ t : Tm, okB t = true → t.sz ≤ SZ → bd M t → (stepF t).2 = 1 → okB (stepF t).1 = true ∧ (stepF t).1.sz ≤ t.sz + 4200 ∧ bd (M + SZ) (stepF t).1
  | .mk k s n l, ho, hs, hb, h1 => by
    by_cases q : redexB (.mk k s n l) = true
    · obtain ⟨s', n', s1, n1, body, arg, rest, e, ob, oa, orr⟩ := redex_shape ho q
      injection e with e1 e2 e3 e4
      subst e1; subst e2; subst e3; subst e4
      have hF : stepF (.mk 6 s n (.mk 5 s1 n1 [body] :: arg :: rest)) = if roomT body arg = true then (applyF (suT 0 arg body 0) rest, 1) else (noT, 2) := by rw [stepF, if_pos q]; rfl
      rw [hF] at h1 ⊢
      by_cases hr : roomT body arg = true
      · simp only [Tm.sz, Tm.szs] at hs
        have h2 := (room_sz ob oa hr (by omega)).2
        have h3 := suT_occ 0 arg body 0
        have h4 := applyF_sz (suT 0 arg body 0) rest
        rw [Int.zero_add] at h3
        rw [if_pos hr]
        refine ⟨applyF_ok (suT_ok 0 oa ob) orr, by simp only [Tm.sz, Tm.szs]; omega, applyF_bd ?_ ?_⟩
        · exact suT_bd (M := M + SZ) (M' := M) (D := SZ) arg body 0 (bd_le (by omega) _ hb.2.1.2.1) hb.2.2.1 (Int.le_refl _) (Int.le_refl _) (by omega) (Int.le_refl _) (by omega)
        · exact bds_of fun u hu => bd_le (by omega) _ (bds_mem hb.2.2.2 hu)
      · rw [if_neg hr] at h1; cases h1
    · have q : redexB (.mk k s n l) = false := by simpa using q
      have hl := okB_l ho
      rw [stepF_non q] at h1 ⊢
      split at h1
      · cases h1
      split at h1
      · rename_i h0 h2
        rw [if_neg h0, if_pos h2]
        simp only [Tm.sz] at hs
        obtain ⟨g1, g2, g3, g4, g5⟩ := stepL_fit M hM l hl (by omega) hb.2 h2
        have hk : k = 5 ∨ k = 6 := by
          by_cases k5 : k = 5
          · exact .inl k5
          · by_cases k6 : k = 6
            · exact .inr k6
            · have : l = [] := okB0 ho k5 k6
              subst this
              exact absurd rfl h0
        refine ⟨?_, by simp only [Tm.sz]; omega, ⟨fun e => by omega, g4⟩⟩
        rcases hk with rfl | rfl
        · obtain ⟨x, rfl, _⟩ := okB5 ho rfl
          rw [okB, g1]; simp only [List.length_cons, List.length_nil] at g2; simp [g2]
        · obtain ⟨x, y, r, rfl, h6, _⟩ := okB6 ho rfl
          have hx := stepF_hd ho q rfl
          rw [okB, g1]; simp only [List.length_cons] at g2
          have : (hd (stepL (x :: y :: r)).1).k ≠ 6 := by rw [stepL, if_pos (by rw [hx])]; exact h6
          simp [g2, this]
      · cases h1
theorem stepL_fit (M : Int) (hM : 0 ≤ M) : ∀ l : List Tm, okL l = true → Tm.szs l ≤ SZ → bds M l → (stepL l).2 = 1 → okL (stepL l).1 = true ∧ (stepL l).1.length = l.length ∧ Tm.szs (stepL l).1 ≤ Tm.szs l + 4200 ∧ bds (M + SZ) (stepL l).1 ∧ True
  | [], _, _, _, h => by cases h
  | t :: l, ho, hs, hb, h => by
    simp only [okL, Bool.and_eq_true] at ho
    simp only [Tm.szs] at hs
    rw [stepL] at h ⊢
    split at h
    · rename_i h0
      rw [if_pos h0]
      obtain ⟨g1, g2, g3, g4, _⟩ := stepL_fit M hM l ho.2 (by omega) hb.2 h
      exact ⟨by simp only [okL, ho.1, g1, Bool.and_self], by simp [g2], by simp only [Tm.szs]; omega, ⟨bd_le (by omega) _ hb.1, g4⟩, trivial⟩
    · rename_i h0
      rw [if_neg h0]
      obtain ⟨g1, g2, g3⟩ := stepF_fit M hM t ho.1 (by omega) hb.1 h
      exact ⟨by simp only [okL, ho.2, g1, Bool.and_self], rfl, by simp only [Tm.szs]; omega, ⟨g3, bds_of fun u hu => bd_le (by omega) _ (bds_mem hb.2 hu)⟩, trivial⟩
end
/-! ### Step by step -/
def runS : Nat → Tm → Option (Tm × Nat)
  | 0, t => if (stepF t).2 = 0 then some (t, 0) else none
  | F + 1, t => if (stepF t).2 = 0 then some (t, F + 1) else if (stepF t).2 = 1 then runS F (stepF t).1 else none
def runL : Nat → List Tm → Option (List Tm × Nat)
  | F, [] => some ([], F)
  | F, t :: l => (runS F t).bind fun p => (runL p.2 l).map fun q => (p.1 :: q.1, q.2)
theorem runS_zero {F : Nat} {t : Tm} (h : (stepF t).2 = 0) : runS F t = some (t, F) := by
  cases F with
  | zero => rw [runS, if_pos h]
  | succ F => rw [runS, if_pos h]
theorem runS_end : ∀ {F : Nat} {t u : Tm} {G : Nat}, runS F t = some (u, G) → (stepF u).2 = 0 ∧ G ≤ F
  | 0, t, u, G, h => by
    rw [runS] at h
    split at h
    · rename_i h0; injection h with h; injection h with h1 h2; subst h1; subst h2; exact ⟨h0, Nat.le_refl _⟩
    · cases h
  | F + 1, t, u, G, h => by
    rw [runS] at h
    split at h
    · rename_i h0; injection h with h; injection h with h1 h2; subst h1; subst h2; exact ⟨h0, Nat.le_refl _⟩
    · split at h
      · have := runS_end h; exact ⟨this.1, by omega⟩
      · cases h
/-- How large what is run may become. -/
def Fit (F : Nat) (t : Tm) : Prop := okB t = true ∧ t.sz + 4200 * F ≤ SZ ∧ bd (M61 - SZ - SZ * F) t ∧ F ≤ 5000
theorem Fit.next {F : Nat} {t : Tm} (h : Fit (F + 1) t) (h1 : (stepF t).2 = 1) : Fit F (stepF t).1 := by
  obtain ⟨g1, g2, g3, g4⟩ := h
  have := stepF_fit (M61 - SZ - SZ * ((F + 1 : Nat) : Int)) (by simp only [M61, SZ]; omega) t g1 (by omega) g3 h1
  refine ⟨this.1, by have := this.2.1; omega, bd_le ?_ _ this.2.2, by omega⟩
  simp only [SZ]; omega
theorem Fit.mono {F G : Nat} {t : Tm} (h : Fit F t) (hg : G ≤ F) : Fit G t := ⟨h.1, by have := h.2.1; have := Nat.mul_le_mul_left 4200 hg; omega, bd_le (by simp only [SZ]; omega) _ h.2.2.1, by have := h.2.2.2; omega⟩
theorem Fit.kid {F : Nat} {t u : Tm} (h : Fit F t) (hu : u ∈ t.l) : Fit F u := by
  have h1 := Tm.szs_mem hu
  have h2 := t.sz_eq
  refine ⟨okL_mem (okB_l h.1) hu, by have := h.2.1; omega, ?_, h.2.2.2⟩
  obtain ⟨k, s, n, l⟩ := t
  exact bds_mem h.2.2.1.2 hu
theorem Fit.sz {F : Nat} {t : Tm} (h : Fit F t) : t.sz ≤ SZ := by have := h.2.1; omega
theorem Fit.bd {F : Nat} {t : Tm} (h : Fit F t) : bd M61 t := bd_le (by simp only [SZ]; omega) _ h.2.2.1
theorem Fit.ok {F : Nat} {t : Tm} (h : Fit F t) : okB t = true := h.1
theorem runS_fit : ∀ {F : Nat} {t u : Tm} {G : Nat}, Fit F t → runS F t = some (u, G) → Fit G u
  | 0, t, u, G, hf, h => by
    rw [runS] at h
    split at h
    · injection h with h; injection h with h1 h2; subst h1; subst h2; exact hf
    · cases h
  | F + 1, t, u, G, hf, h => by
    rw [runS] at h
    split at h
    · injection h with h; injection h with h1 h2; subst h1; subst h2; exact hf
    · split at h
      · rename_i h1; exact runS_fit (hf.next h1) h
      · cases h
/-- One of many goes on. -/
theorem run_mid (k : Int) (a b : List Tm) (hk : k ≠ 6 ∨ ∃ x a', a = x :: a' ∧ x.k ≠ 5) (ha : ∀ u ∈ a, (stepF u).2 = 0) : ∀ (F : Nat) (t : Tm), runS F (.mk k [] 0 (a ++ t :: b)) = (runS F t).bind fun p => runS p.2 (.mk k [] 0 (a ++ p.1 :: b)) := by
  have nr : ∀ t, redexB (.mk k [] 0 (a ++ t :: b)) = false := fun t => by
    rcases hk with hk | ⟨x, a', rfl, hx⟩
    · simp [redexB, Tm.k, hk]
    · simp [redexB, Tm.l, hd, hx]
  have st : ∀ t, (stepF t).2 = 1 → stepF (.mk k [] 0 (a ++ t :: b)) = (.mk k [] 0 (a ++ (stepF t).1 :: b), 1) := fun t h => by
    rw [stepF_non (nr t), stepL_app a _ ha, stepL_hit b (by omega), h]; simp
  have st2 : ∀ t, (stepF t).2 = 2 → (stepF (.mk k [] 0 (a ++ t :: b))).2 = 2 := fun t h => by
    rw [stepF_non (nr t), stepL_app a _ ha, stepL_hit b (by omega), h]; simp
  intro F
  induction F with
  | zero =>
    intro t
    rcases stepF_n t with h | h | h
    · rw [runS_zero h]; rfl
    · simp [runS, st t h, h]
    · simp [runS, st2 t h, h]
  | succ F ih =>
    intro t
    rcases stepF_n t with h | h | h
    · rw [runS_zero h]; rfl
    · rw [runS, st t h, if_neg (by simp), if_pos rfl, ih]
      conv => rhs; rw [runS, if_neg (by rw [h]; omega), if_pos h]
    · rw [runS, st2 t h, if_neg (by omega), if_neg (by omega)]
      conv => rhs; rw [runS, if_neg (by rw [h]; omega), if_neg (by rw [h]; omega)]
      rfl
theorem run_list (k : Int) : ∀ (b a : List Tm) (F : Nat), (k ≠ 6 ∨ ∃ x a', a = x :: a' ∧ x.k ≠ 5) → (∀ u ∈ a, (stepF u).2 = 0) → runS F (.mk k [] 0 (a ++ b)) = (runL F b).map fun q => (.mk k [] 0 (a ++ q.1), q.2)
  | [], a, F, hk, ha => by
    have nr : redexB (.mk k [] 0 a) = false := by
      rcases hk with hk | ⟨x, a', rfl, hx⟩
      · simp [redexB, Tm.k, hk]
      · simp [redexB, Tm.l, hd, hx]
    have h2 := stepL_app a [] ha
    rw [List.append_nil] at h2 ⊢
    have h0 : (stepF (.mk k [] 0 a)).2 = 0 := by rw [stepF_non nr, h2]; simp [stepL]
    rw [runS_zero h0, runL]; simp
  | t :: b, a, F, hk, ha => by
    rw [run_mid k a b hk ha F t, runL]
    cases h : runS F t with
    | none => rfl
    | some p =>
      have h0 := (runS_end h).1
      have := run_list k b (a ++ [p.1]) p.2 (hk.imp id fun ⟨x, a', e, hx⟩ => ⟨x, a' ++ [p.1], by rw [e]; rfl, hx⟩) (fun u hu => by
        rcases List.mem_append.1 hu with hu | hu
        · exact ha u hu
        · rw [List.mem_singleton.1 hu]; exact h0)
      rw [ap] at this
      simp only [Option.bind_some, this]
      cases runL p.2 b with
      | none => rfl
      | some q => simp
/-- What is no redex runs within. -/
theorem run_kids {k n : Int} {s : List UInt8} {l : List Tm} (ho : okB (.mk k s n l) = true) (hr : redexB (.mk k s n l) = false) (F : Nat) : runS F (.mk k s n l) = (runL F l).map fun q => (.mk k s n q.1, q.2) := by
  by_cases h5 : k = 5
  · obtain ⟨rfl, rfl⟩ := okB_sn ho (.inl h5)
    exact run_list k l [] F (.inl (by omega)) (fun u hu => by cases hu)
  · by_cases h6 : k = 6
    · obtain ⟨rfl, rfl⟩ := okB_sn ho (.inr h6)
      obtain ⟨x, y, r, rfl, hx6, _⟩ := okB6 ho h6
      have hx := stepF_hd ho hr h6
      have hx5 : x.k ≠ 5 := fun e => by
        have : redexB (.mk k [] 0 (x :: y :: r)) = true := by show (k == 6 && x.k == 5) = true; rw [h6, e]; rfl
        rw [hr] at this; cases this
      have := run_list k (y :: r) [x] F (.inr ⟨x, [], rfl, hx5⟩) (fun u hu => by rw [List.mem_singleton.1 hu, hx])
      rw [show x :: y :: r = [x] ++ y :: r from rfl, this, show [x] ++ y :: r = x :: y :: r from rfl]
      conv => rhs; rw [runL, runS_zero (by rw [hx])]
      simp only [Option.bind_some]
      cases runL F (y :: r) with
      | none => rfl
      | some q => rfl
    · have : l = [] := okB0 ho h5 h6
      subst this
      rw [runS_zero (by rw [stepF_non hr]; rfl)]; rfl
/-- A step at the root. -/
theorem redex_mk (s s1 : List UInt8) (n n1 : Int) (body arg : Tm) (rest : List Tm) : redexB (.mk 6 s n (.mk 5 s1 n1 [body] :: arg :: rest)) = true := rfl
theorem run_redex0 {s s1 : List UInt8} {n n1 : Int} {body arg : Tm} {rest : List Tm} : runS 0 (.mk 6 s n (.mk 5 s1 n1 [body] :: arg :: rest)) = none := by
  have hF : stepF (.mk 6 s n (.mk 5 s1 n1 [body] :: arg :: rest)) = if roomT body arg = true then (applyF (suT 0 arg body 0) rest, 1) else (noT, 2) := by rw [stepF, if_pos (redex_mk ..)]; rfl
  rw [runS, hF]; split <;> simp
theorem run_redex {s s1 : List UInt8} {n n1 : Int} {body arg : Tm} {rest : List Tm} (F : Nat) : runS (F + 1) (.mk 6 s n (.mk 5 s1 n1 [body] :: arg :: rest)) = if roomT body arg = true then runS F (applyF (suT 0 arg body 0) rest) else none := by
  have hF : stepF (.mk 6 s n (.mk 5 s1 n1 [body] :: arg :: rest)) = if roomT body arg = true then (applyF (suT 0 arg body 0) rest, 1) else (noT, 2) := by rw [stepF, if_pos (redex_mk ..)]; rfl
  rw [runS, hF]
  by_cases h : roomT body arg = true
  · rw [if_pos h, if_neg (by simp), if_pos rfl, if_pos h]
  · rw [if_neg h, if_neg (by simp), if_neg (by simp), if_neg h]
theorem run_noroom {s s1 : List UInt8} {n n1 : Int} {body arg : Tm} {rest : List Tm} (F : Nat) (h : ¬ roomT body arg = true) : runS F (.mk 6 s n (.mk 5 s1 n1 [body] :: arg :: rest)) = none := by
  cases F with
  | zero => exact run_redex0
  | succ F => rw [run_redex, if_neg h]
/-! Normal: there is no step. -/
mutual
theorem norm_step : ∀ t : Tm, normB t = true ↔ (stepF t).2 = 0
  | .mk k s n l => by
    by_cases q : redexB (.mk k s n l) = true
    · rw [normB, q, stepF, if_pos q]
      constructor
      · intro h; cases h
      · intro h; split at h <;> cases h
    · have q : redexB (.mk k s n l) = false := by simpa using q
      rw [normB, q, stepF_non q, Bool.not_false, Bool.true_and, norm_steps l]
      constructor
      · intro h; rw [if_pos h]
      · intro h
        split at h
        · assumption
        · split at h <;> cases h
theorem norm_steps : ∀ l : List Tm, normL l = true ↔ (stepL l).2 = 0
  | [] => by simp [normL, stepL]
  | t :: l => by
    rw [normL, Bool.and_eq_true, norm_step t, norm_steps l, stepL]
    constructor
    · rintro ⟨h1, h2⟩; rw [if_pos h1]; exact h2
    · intro h
      split at h
      · rename_i h0; exact ⟨h0, h⟩
      · rename_i h0; exact absurd h h0
end

end Go.AM

set_option maxRecDepth 100000
open Go Go.Proofs
namespace Go.AM

/-! ### At the head -/
mutual
def hnB : Tm → Bool
  | .mk k s n l => !redexB (.mk k s n l) && (if (k == 5) = true then hnL l else true)
def hnL : List Tm → Bool
  | [] => true
  | t :: l => hnB t && hnL l
end
theorem hn_redex {t : Tm} (h : hnB t = true) : redexB t = false := by
  obtain ⟨k, s, n, l⟩ := t
  rw [hnB, Bool.and_eq_true] at h
  simpa using h.1
/-- What a run of head comes to. -/
def HeadR (F : Nat) (f : Int) (t : Tm) (A : Tm → Int → Int → Prop) : Prop :=
  (∃ h G, hnB h = true ∧ runS F t = runS G h ∧ G ≤ F ∧ (G = F → h = t) ∧ (hnB t = true → h = t ∧ G = F) ∧ Fit G h ∧ h.sz + 4200 * G ≤ t.sz + 4200 * F ∧ A h 0 (f - (F - G : Nat))) ∨ (runS F t = none ∧ hnB t = false ∧ ∃ f', A noT 80 f')
/-! ### All steps -/
def NormR (F : Nat) (f : Int) (t : Tm) (A : Tm → Int → Int → Prop) : Prop :=
  (∃ u G, runS F t = some (u, G) ∧ G ≤ F ∧ A u 0 (f - (F - G : Nat))) ∨ (runS F t = none ∧ ∃ f', A noT 80 f')
def NormL (F : Nat) (f : Int) (l : List Tm) (A : List Tm → Int → Prop) (N : Prop) : Prop :=
  (∃ u G, runL F l = some (u, G) ∧ G ≤ F ∧ A u (f - (F - G : Nat))) ∨ (runL F l = none ∧ N)
end Go.AM

set_option maxRecDepth 100000
open Go Go.Proofs
namespace Go.AM

abbrev aTNE (t : Tm) (n e : Int) : TV := .tup [(true, cT t), (false, [.a (.fz (.int .i64 n))]), (false, [.a (.fz (.int .i64 e))])]
theorem leTNE {k n e m : Int} {s : List UInt8} {x : FV} {l : List Tm} (h : FV.Le x (.sl false 4 (FTs l))) : TV.Le (.tup [(true, [.a (.fz (.int .i64 k)), .a (.fz (.str s)), .a (.fz (.int .i64 n)), .a (.fz x)]), (false, [.a (.fz (.int .i64 m))]), (false, [.a (.fz (.int .i64 e))])]) (aTNE (.mk k s n l) m e) := by
  refine .tup _ _ rfl fun i p q hp hq => ?_
  match i, hp, hq with
  | 0, hp, hq =>
    simp only [List.getElem?_cons_zero, Option.some.injEq] at hp hq
    subst hp; subst hq
    refine ⟨rfl, rfl, fun j x y hx hy => ?_⟩
    match j, hx, hy with
    | 0, hx, hy => simp at hx hy; subst hx; subst hy; exact .refl _
    | 1, hx, hy => simp at hx hy; subst hx; subst hy; exact .refl _
    | 2, hx, hy => simp at hx hy; subst hx; subst hy; exact .refl _
    | 3, hx, hy => simp at hx hy; subst hx; subst hy; exact .a _ _ (.fz _ _ h)
    | j + 4, hx, _ => simp at hx
  | 1, hp, hq =>
    simp only [List.getElem?_cons_zero, List.getElem?_cons_succ, Option.some.injEq] at hp hq
    subst hp; subst hq
    exact ⟨rfl, rfl, fun j x y hx hy => by rw [hx] at hy; injection hy with hy; subst hy; exact .refl _⟩
  | 2, hp, hq =>
    simp only [List.getElem?_cons_zero, List.getElem?_cons_succ, Option.some.injEq] at hp hq
    subst hp; subst hq
    exact ⟨rfl, rfl, fun j x y hx hy => by rw [hx] at hy; injection hy with hy; subst hy; exact .refl _⟩
  | i + 3, hp, _ => simp at hp
/-- What Norm comes to. -/
def normV (F : Nat) (f : Int) (t : Tm) : Tm × Int × Int :=
  if validB t = true then (match runS F t with | some (u, G) => (u, f - ((F - G : Nat) : Int), 0) | none => (noT, 0, 80)) else (noT, 0, 1)
/-! ### What is looked at -/
mutual
theorem left_nd : ∀ (t : Tm) (m : Int), 0 ≤ leftF t m → (t.sz : Int) ≤ m - leftF t m
  | .mk _ s _ l, m, h => by
    simp only [leftF] at h ⊢
    have := left_nds l (m - 1) h
    simp only [Tm.sz]; omega
theorem left_nds : ∀ (l : List Tm) (m : Int), 0 ≤ leftL l m → (Tm.szs l : Int) ≤ m - leftL l m
  | [], m, h => by simp [leftL, Tm.szs]
  | t :: l, m, h => by
    simp only [leftL] at h ⊢
    split at h
    · rename_i h0
      rw [if_pos h0]
      have h1 := left_nds l _ h
      have h3 := (leftL_le l (leftF t m)).1
      have h2 := left_nd t m (by omega)
      simp only [Tm.szs]; omega
    · rename_i h0; exact absurd h h0
end
theorem large_sz {t : Tm} {m : Int} (h : large t m = false) : (t.sz : Int) ≤ m := by
  have h := of_decide_eq_false h
  have := left_nd t m (by omega)
  omega
def over60 (t : Tm) : Bool := large t 60 || !near 1099511627776 t
theorem okay60 {t : Tm} (h : over60 t = false) : t.sz ≤ 60 ∧ bd 1099511627776 t := by
  simp only [over60, Bool.or_eq_false_iff] at h
  have := large_sz h.1
  exact ⟨by omega, near_bd t (by simpa using h.2)⟩
theorem fit60 {t : Tm} (h : over60 t = false) (hv : validB t = true) {F : Nat} (hF : F ≤ 5000) : Fit F t := by
  obtain ⟨h1, h2⟩ := okay60 h
  exact ⟨valid_ok t hv, by simp only [SZ]; omega, bd_le (by simp only [M61, SZ]; omega) _ h2, hF⟩
/-! ### The document's examples -/
theorem args1 {a : List FV} {x : Tm} (ha : LeR a (FT x)) : TV.Le (.c (.a (.fz (.sl false 4 [a])))) (aL [x]) := le_c (leRows rfl fun i r t hr ht => by
  match i, hr, ht with
  | 0, hr, ht => simp only [List.getElem?_cons_zero, Option.some.injEq] at hr ht; subst hr; subst ht; exact ha
  | i + 1, hr, _ => simp at hr)
theorem args2 {a b : List FV} {x y : Tm} (ha : LeR a (FT x)) (hb : LeR b (FT y)) : TV.Le (.c (.a (.fz (.sl false 4 [a, b])))) (aL [x, y]) := le_c (leRows rfl fun i r t hr ht => by
  match i, hr, ht with
  | 0, hr, ht => simp only [List.getElem?_cons_zero, Option.some.injEq] at hr ht; subst hr; subst ht; exact ha
  | 1, hr, ht => simp only [List.getElem?_cons_zero, List.getElem?_cons_succ, Option.some.injEq] at hr ht; subst hr; subst ht; exact hb
  | i + 2, hr, _ => simp at hr)
theorem e0 {k n : Int} {s : List UInt8} : TV.Le (.agg [.a (.fz (.int .i64 k)), .a (.fz (.str s)), .a (.fz (.int .i64 n)), .a (.fz .nils)]) (aT (.mk k s n [])) := leT leNil
abbrev exZ : Tm := .mk 3 [] 0 []
/-- Of terms that are written out. -/
def fitD (F : Nat) (t : Tm) : Bool := okB t && decide (t.sz ≤ 60) && near 1099511627776 t && decide (F ≤ 5000)
theorem fit_of {F : Nat} {t : Tm} (h : fitD F t = true) : Fit F t := by
  simp only [fitD, Bool.and_eq_true, decide_eq_true_eq] at h
  exact ⟨h.1.1.1, by simp only [SZ]; omega, bd_le (by simp only [M61, SZ]; omega) _ (near_bd t h.1.2), h.2⟩
end Go.AM

set_option maxRecDepth 100000
open Go Go.Proofs
namespace Go.AM

/-! ### Leaves that may be -/
mutual
def lvB : Tm → Bool
  | .mk k s n l => if (k == 5 || k == 6) = true then lvL l else validB (.mk k s n l)
def lvL : List Tm → Bool
  | [] => true
  | t :: l => lvB t && lvL l
end
theorem lvL_mem : ∀ {l : List Tm} {t : Tm}, lvL l = true → t ∈ l → lvB t = true
  | x :: l, t, h, hm => by
    simp only [lvL, Bool.and_eq_true] at h
    rcases List.mem_cons.1 hm with rfl | hm
    · exact h.1
    · exact lvL_mem h.2 hm
theorem lvL_of : ∀ {l : List Tm}, (∀ t ∈ l, lvB t = true) → lvL l = true
  | [], _ => rfl
  | t :: l, h => by simp only [lvL, h t List.mem_cons_self, lvL_of (l := l) fun u hu => h u (List.mem_cons_of_mem _ hu), Bool.and_self]
theorem lvB_in {k n : Int} {s : List UInt8} {l : List Tm} (hk : k = 5 ∨ k = 6) : lvB (.mk k s n l) = lvL l := by
  rw [lvB, if_pos (by rcases hk with rfl | rfl <;> rfl)]
theorem lvB_out {k n : Int} {s : List UInt8} {l : List Tm} (h5 : k ≠ 5) (h6 : k ≠ 6) : lvB (.mk k s n l) = validB (.mk k s n l) := by
  rw [lvB, if_neg (by simp [h5, h6])]
theorem valid5 {s : List UInt8} {n : Int} {l : List Tm} : validB (.mk 5 s n l) = (n == 0 && s == [] && decide (l.length = 1) && validL l) := by
  rw [validB, lenI]
  simp only [show ((5 : Int) == 0) = false from rfl, show ((5 : Int) == 1) = false from rfl, show ((5 : Int) == 2) = false from rfl, show ((5 : Int) == 3) = false from rfl, show ((5 : Int) == 4) = false from rfl, Bool.false_eq_true, if_false, show ((5 : Int) == 5) = true from rfl, if_true]
  congr 2
  by_cases h : l.length = 1
  · rw [h]; rfl
  · rw [decide_eq_false h]; simp; omega
theorem valid6 {s : List UInt8} {n : Int} {l : List Tm} : validB (.mk 6 s n l) = (n == 0 && decide (2 ≤ l.length) && ((hd l).k != 6) && s == [] && validL l) := by
  rw [validB, lenI]
  simp only [show ((6 : Int) == 0) = false from rfl, show ((6 : Int) == 1) = false from rfl, show ((6 : Int) == 2) = false from rfl, show ((6 : Int) == 3) = false from rfl, show ((6 : Int) == 4) = false from rfl, show ((6 : Int) == 5) = false from rfl, Bool.false_eq_true, if_false, show ((6 : Int) == 6) = true from rfl, if_true]
  congr 4
  by_cases h : 2 ≤ l.length
  · rw [decide_eq_true h, decide_eq_true (by omega)]
  · rw [decide_eq_false h, decide_eq_false (by omega)]
mutual
theorem valid_iff : ∀ t : Tm, validB t = (okB t && lvB t)
  | .mk k s n l => by
    by_cases h5 : k = 5
    · subst h5
      rw [valid5, lvB_in (.inl rfl), valid_iffL l, okB]
      cases okL l <;> cases lvL l <;> simp [Bool.and_comm, Bool.and_assoc, Bool.and_left_comm]
    · by_cases h6 : k = 6
      · subst h6
        rw [valid6, lvB_in (.inr rfl), valid_iffL l, okB]
        cases okL l <;> cases lvL l <;> simp [Bool.and_comm, Bool.and_assoc, Bool.and_left_comm]
      · rw [lvB_out h5 h6]
        cases hv : validB (.mk k s n l) with
        | false => simp
        | true => rw [valid_ok _ hv]; rfl
theorem valid_iffL : ∀ l : List Tm, validL l = (okL l && lvL l)
  | [] => rfl
  | t :: l => by
    rw [validL, okL, lvL, valid_iff t, valid_iffL l]
    cases okB t <;> cases lvB t <;> simp
end
theorem valid_lv {t : Tm} (h : validB t = true) : lvB t = true := by rw [valid_iff] at h; simp at h; exact h.2
theorem applyF_lv {f : Tm} {args : List Tm} (hf : lvB f = true) (ha : lvL args = true) : lvB (applyF f args) = true := by
  match args, ha with
  | [], _ => exact hf
  | a :: r, ha =>
    obtain ⟨k, s, n, l⟩ := f
    rw [apply_some]
    split
    · rename_i h
      have hk : k = 6 := by simpa using h.1
      rw [lvB_in (.inr hk)] at hf
      rw [lvB_in (.inr rfl)]
      exact lvL_of fun t ht => by
        rcases List.mem_append.1 ht with ht | ht
        · exact lvL_mem hf ht
        · exact lvL_mem ha ht
    · rw [lvB_in (.inr rfl)]
      simp only [lvL, Bool.and_eq_true] at ha ⊢
      exact ⟨hf, ha⟩
theorem withF_lv {t : Tm} {o : List Tm} (hk : t.k = 5 ∨ t.k = 6) (ho : lvL o = true) : lvB (withF t o) = true := by
  obtain ⟨k, s, n, l⟩ := t
  unfold withF
  split
  · rename_i hc
    match o, ho, hc with
    | [], _, hc => exact absurd hc.2.1 (by simp)
    | x :: r, ho, hc =>
      simp only [lvL, Bool.and_eq_true] at ho
      exact applyF_lv ho.1 ho.2
  · exact (lvB_in hk).trans ho
mutual
theorem walkF_lv (lf : Tm → Int → Tm) (Q : Tm → Int → Prop) (hq : ∀ k s n l d, Q (.mk k s n l) d → ∀ u ∈ l, Q u (d + if (k == 5) = true then 1 else 0)) (h : ∀ u d, lvB u = true → Q u d → u.k ≠ 5 → u.k ≠ 6 → lvB (lf u d) = true) : ∀ (t : Tm) (d : Int), lvB t = true → Q t d → lvB (walkF lf t d) = true
  | .mk k s n l, d, ho, hQ => by
    rw [walkF]
    split
    · rename_i hk
      have hk : k = 5 ∨ k = 6 := by simpa using hk
      rw [lvB_in hk] at ho
      exact withF_lv hk (walkL_lv lf Q hq h l _ ho (hq k s n l d hQ))
    · rename_i hk
      exact h _ _ ho hQ (fun e => hk (by simp [show k = 5 from e])) (fun e => hk (by simp [show k = 6 from e]))
theorem walkL_lv (lf : Tm → Int → Tm) (Q : Tm → Int → Prop) (hq : ∀ k s n l d, Q (.mk k s n l) d → ∀ u ∈ l, Q u (d + if (k == 5) = true then 1 else 0)) (h : ∀ u d, lvB u = true → Q u d → u.k ≠ 5 → u.k ≠ 6 → lvB (lf u d) = true) : ∀ (l : List Tm) (d : Int), lvL l = true → (∀ u ∈ l, Q u d) → lvL (walkL lf l d) = true
  | [], _, _, _ => rfl
  | t :: l, d, ho, hQ => by
    simp only [lvL, Bool.and_eq_true] at ho
    simp only [walkL, lvL, walkF_lv lf Q hq h t d ho.1 (hQ t List.mem_cons_self), walkL_lv lf Q hq h l d ho.2 (fun u hu => hQ u (List.mem_cons_of_mem _ hu)), Bool.and_self]
end
theorem valid3 {s : List UInt8} {n : Int} {l : List Tm} : validB (.mk 3 s n l) = true ↔ 0 ≤ n ∧ n ≤ 4611686018427387904 ∧ s = [] ∧ l = [] := by
  rw [validB, lenI]
  simp only [show ((3 : Int) == 0) = false from rfl, show ((3 : Int) == 1) = false from rfl, show ((3 : Int) == 2) = false from rfl, Bool.false_eq_true, if_false, show ((3 : Int) == 3) = true from rfl, if_true]
  simp only [Bool.and_eq_true, decide_eq_true_eq, beq_iff_eq]
  constructor
  · rintro ⟨⟨⟨⟨h1, h2⟩, h3⟩, h4⟩, _⟩
    exact ⟨h1, h2, h3, List.eq_nil_of_length_eq_zero (by omega)⟩
  · rintro ⟨h1, h2, rfl, rfl⟩
    exact ⟨⟨⟨⟨h1, h2⟩, rfl⟩, rfl⟩, rfl⟩
/-- Shifted upwards. -/
theorem shT_lv {by_ M D : Int} (h0 : 0 ≤ by_) (hM : M + by_ ≤ 4611686018427387904) (t : Tm) (d : Int) (fr : Int) (hb : bd M t) (h : lvB t = true) (_ : d ≤ D) : lvB (shT fr by_ t d) = true := by
  refine walkF_lv _ (fun u _ => bd M u) (fun k s n l d hQ u hu => bds_mem hQ.2 hu) (fun u d hu hQ h5 h6 => ?_) t d h hb
  unfold shLeaf
  split
  · rename_i hc
    obtain ⟨k, s, n, l⟩ := u
    have hk : k = 3 := by have hc := hc.1; have hc : (k == 3) = true := hc; simpa using hc
    subst hk
    rw [lvB_out (by decide) (by decide), valid3] at hu
    have hb := hQ.1 rfl
    show lvB (.mk 3 s (n + by_) l) = true
    rw [lvB_out (by decide) (by decide), valid3]
    exact ⟨by omega, by omega, hu.2.2.1, hu.2.2.2⟩
  · exact hu
theorem suT_lv {i M : Int} {s t : Tm} {D : Int} (hi : 0 ≤ i) (hM : M + D ≤ 4611686018427387904) (hbs : bd M s) (hs : lvB s = true) (hl : lvB t = true) (d : Int) (h0 : 0 ≤ d) (hD : d + t.sz ≤ D) : lvB (suT i s t d) = true := by
  refine walkF_lv _ (fun u d => 0 ≤ d ∧ d + u.sz ≤ D) (fun k s n l d hQ u hu => ?_) (fun u d hu hQ h5 h6 => ?_) t d hl ⟨h0, hD⟩
  · have := Tm.szs_mem hu
    simp only [Tm.sz] at hQ
    constructor
    · have := hQ.1; split <;> omega
    · have := hQ.2; split <;> omega
  · unfold suLeaf
    split
    · rename_i hc
      split
      · exact hu
      · rename_i hlt
        split
        · have := hQ.2
          exact shT_lv hQ.1 (D := 0) (by omega) s 0 0 hbs hs (Int.le_refl _)
        · rename_i hne
          obtain ⟨k, s', n, l⟩ := u
          have hk : k = 3 := by have hc : (k == 3) = true := hc; simpa using hc
          subst hk
          rw [lvB_out (by decide) (by decide), valid3] at hu
          have h1 : ¬ n < d + i := hlt
          have h2 : n ≠ d + i := fun e => hne (by rw [show Tm.n (.mk 3 s' n l) = n from rfl, e]; simp)
          show lvB (.mk 3 s' (n - 1) l) = true
          rw [lvB_out (by decide) (by decide), valid3]
          have := hQ.1
          exact ⟨by omega, by omega, hu.2.2.1, hu.2.2.2⟩
    · exact hu
mutual
theorem stepF_lv (M : Int) (hM : M + SZ ≤ 4611686018427387904) : ∀ t : Tm, okB t = true → t.sz ≤ SZ → bd M t → lvB t = true → (stepF t).2 = 1 → lvB (stepF t).1 = true
  | .mk k s n l, ho, hs, hb, hl, h1 => by
    by_cases q : redexB (.mk k s n l) = true
    · obtain ⟨s', n', s1, n1, body, arg, rest, e, ob, oa, orr⟩ := redex_shape ho q
      injection e with e1 e2 e3 e4
      subst e1; subst e2; subst e3; subst e4
      have hF : stepF (.mk 6 s n (.mk 5 s1 n1 [body] :: arg :: rest)) = if roomT body arg = true then (applyF (suT 0 arg body 0) rest, 1) else (noT, 2) := by rw [stepF, if_pos q]; rfl
      rw [hF] at h1 ⊢
      by_cases hr : roomT body arg = true
      · rw [if_pos hr]
        rw [lvB_in (.inr rfl)] at hl
        simp only [lvL, Bool.and_eq_true] at hl
        have hb0 : lvB body = true := by have := hl.1; rw [lvB_in (.inl rfl)] at this; simpa [lvL] using this
        simp only [Tm.sz, Tm.szs] at hs
        exact applyF_lv (suT_lv (M := M) (D := SZ) (Int.le_refl _) hM hb.2.2.1 hl.2.1 hb0 0 (Int.le_refl _) (by omega)) hl.2.2
      · rw [if_neg hr] at h1; cases h1
    · have q : redexB (.mk k s n l) = false := by simpa using q
      rw [stepF_non q] at h1 ⊢
      split at h1
      · cases h1
      split at h1
      · rename_i h0 h2
        rw [if_neg h0, if_pos h2]
        simp only [Tm.sz] at hs
        have hk : k = 5 ∨ k = 6 := by
          by_cases k5 : k = 5
          · exact .inl k5
          · by_cases k6 : k = 6
            · exact .inr k6
            · have : l = [] := okB0 ho k5 k6
              subst this
              exact absurd rfl h0
        rw [lvB_in hk] at hl
        show lvB (.mk k [] 0 (stepL l).1) = true
        rw [lvB_in hk]
        exact stepL_lv M hM l (okB_l ho) (by omega) hb.2 hl h2
      · cases h1
theorem stepL_lv (M : Int) (hM : M + SZ ≤ 4611686018427387904) : ∀ l : List Tm, okL l = true → Tm.szs l ≤ SZ → bds M l → lvL l = true → (stepL l).2 = 1 → lvL (stepL l).1 = true
  | [], _, _, _, _, h => by cases h
  | t :: l, ho, hs, hb, hl, h => by
    simp only [okL, Bool.and_eq_true] at ho
    simp only [Tm.szs] at hs
    simp only [lvL, Bool.and_eq_true] at hl
    rw [stepL] at h ⊢
    split at h
    · rename_i h0
      rw [if_pos h0]
      simp only [lvL, hl.1, stepL_lv M hM l ho.2 (by omega) hb.2 hl.2 h, Bool.and_self]
    · rename_i h0
      rw [if_neg h0]
      simp only [lvL, hl.2, stepF_lv M hM t ho.1 (by omega) hb.1 hl.1 h, Bool.and_self]
end
theorem runS_lv : ∀ {F : Nat} {t u : Tm} {G : Nat}, Fit F t → lvB t = true → runS F t = some (u, G) → lvB u = true
  | 0, t, u, G, hf, hl, h => by
    rw [runS] at h
    split at h
    · injection h with h; injection h with h1 h2; subst h1; exact hl
    · cases h
  | F + 1, t, u, G, hf, hl, h => by
    rw [runS] at h
    split at h
    · injection h with h; injection h with h1 h2; subst h1; exact hl
    · split at h
      · rename_i h1
        exact runS_lv (hf.next h1) (stepF_lv M61 (by simp only [M61, SZ]; omega) t hf.ok hf.sz hf.bd hl h1) h
      · cases h

end Go.AM

set_option maxRecDepth 100000
open Go Go.Proofs
namespace Go.AM

/-! ### Stores -/
theorem kid_valid {k n : Int} {s : List UInt8} {l : List Tm} (h : validB (.mk k s n l) = true) (hk : k = 5 ∨ k = 6) : ∀ u ∈ l, validB u = true := fun u hu => by
  rw [valid_iff, Bool.and_eq_true] at h ⊢
  have h1 := okB_l h.1
  have h2 := h.2
  rw [lvB_in hk] at h2
  exact ⟨okL_mem h1 hu, lvL_mem h2 hu⟩
/-- Results, cell by cell. -/
def LeW (p q : Bool × List WV) : Prop := p.1 = q.1 ∧ All2 WV.Le p.2 q.2
theorem all2_get {α β : Type} {R : α → β → Prop} : ∀ {a : List α} {b : List β}, All2 R a b → a.length = b.length ∧ ∀ (i : Nat) (x : α) (y : β), a[i]? = some x → b[i]? = some y → R x y
  | [], [], _ => ⟨rfl, fun i x y hx _ => by simp at hx⟩
  | x :: a, y :: b, h => by
    have := all2_get h.2
    refine ⟨by simp [this.1], fun i u v hu hv => ?_⟩
    match i, hu, hv with
    | 0, hu, hv => simp at hu hv; subst hu; subst hv; exact h.1
    | i + 1, hu, hv => exact this.2 i u v (by simpa using hu) (by simpa using hv)
  | [], _ :: _, h => h.elim
  | _ :: _, [], h => h.elim
theorem le_tup {a b : List (Bool × List WV)} (h : All2 LeW a b) : TV.Le (.tup a) (.tup b) := by
  have := all2_get h
  refine .tup _ _ this.1 fun i p q hp hq => ?_
  have h1 := this.2 i p q hp hq
  have h2 := all2_get h1.2
  exact ⟨h1.1, h2.1, h2.2⟩
theorem leWn : WV.Le (.a (.fz .nils)) (.a (.fz (.sl false 4 (FTs [])))) := .a _ _ (.fz _ _ leNil)
theorem lw1 {x y : WV} {b : Bool} (h : WV.Le x y) : LeW (b, [x]) (b, [y]) := ⟨rfl, h, trivial⟩
theorem lwT {k n : Int} {s : List UInt8} {x : FV} {l : List Tm} {b : Bool} (h : FV.Le x (.sl false 4 (FTs l))) : LeW (b, [.a (.fz (.int .i64 k)), .a (.fz (.str s)), .a (.fz (.int .i64 n)), .a (.fz x)]) (b, cT (.mk k s n l)) := ⟨rfl, .refl _, .refl _, .refl _, .a _ _ (.fz _ _ h), trivial⟩
theorem lwR (p : Bool × List WV) : LeW p p := by
  obtain ⟨b, l⟩ := p
  refine ⟨rfl, ?_⟩
  show All2 WV.Le l l
  induction l with
  | nil => trivial
  | cons x l ih => exact ⟨.refl _, ih⟩
theorem SR_length (l : List Inf) : (SR l).length = l.length := by simp [SR]
theorem SR_get {l : List Inf} {i : Nat} (h : i < l.length) : List.getD (SR l) i [] = Inf.c l[i] := by simp [SR, List.getD, h]
theorem SR_append (a b : List Inf) : SR (a ++ b) = SR a ++ SR b := by simp [SR]
abbrev noI : Inf := ⟨0, false, noT⟩
/-- A store's pointer; the objects. -/
abbrev aS (o : Nat) : TV := .c (.a (.ep o 2 0 0))
abbrev sto2 (a b : Nat) (s : Sto) : AObj := .arr 2 [[.a (.osl a 6 0 s.V.length), .a (.osl b 1 0 s.T.length)]]
abbrev oS (s : Sto) : List AObj := [sto2 1 2 s, .arz 6 (SR s.V), .arz 1 (IR s.T)]
abbrev oSf (s : Sto) (f : Int) : List AObj := [sto2 1 2 s, .arz 6 (SR s.V), .arz 1 (IR s.T), obj1 f]
/-- What is known. -/
def infOf (V : List Inf) (x : Int) : Inf := if 0 ≤ x ∧ x < (V.length : Int) then (V[x.toNat]?).getD noI else noI
def inB (V : List Inf) (x : Int) : Bool := decide (0 ≤ x) && decide (x < (V.length : Int))
theorem infOf_in {V : List Inf} {x : Int} (h0 : 0 ≤ x) (h1 : x < (V.length : Int)) : ∃ h : x.toNat < V.length, infOf V x = V[x.toNat] := by
  have h : x.toNat < V.length := by omega
  exact ⟨h, by rw [infOf, if_pos ⟨h0, h1⟩, List.getElem?_eq_getElem h]; rfl⟩
theorem infOf_out {V : List Inf} {x : Int} (h : ¬ (0 ≤ x ∧ x < (V.length : Int))) : infOf V x = noI := if_neg h
abbrev tI (i : Inf) (b : Bool) : TV := .tup [(true, [.a (.fz (.int .i64 i.lv)), .a (.fz (.bool i.bd)), .a (.fz (.int .i64 i.v.k)), .a (.fz (.str i.v.s)), .a (.fz (.int .i64 i.v.n)), .a (.fz (.sl false 4 (FTs i.v.l)))]), (false, [.a (.fz (.bool b))])]
theorem inf_no {c d : Bool} (h : c = d) {n : Nat} : TV.Le (.tup [(true, [.a (.fz (.int .i64 0)), .a (.fz (.bool false)), .a (.fz (.int .i64 0)), .a (.fz (.str [])), .a (.fz (.int .i64 0)), .a (.fz .nils)]), (false, [.a (.fz (.bool c))])]) (tI noI d) ∧ n = n := by
  subst h
  exact ⟨le_tup ⟨⟨rfl, .refl _, .refl _, .refl _, .refl _, .refl _, leWn, trivial⟩, lwR _, trivial⟩, rfl⟩
theorem c_snew : AC Try.prog 34 [] [] (aS 0) (oS ⟨[], []⟩) := by
  refine AC.vc hP sh lv34 (by simp) (by simp) (by simp [isLive]) (Eq.mpr (v34 ..) ?_)
  exact ⟨.refl _, rfl⟩
theorem c_sinfo (s : Sto) (x : Int) : AC Try.prog 28 [aS 0, ci x] (oS s) (tI (infOf s.V x) (inB s.V x)) (oS s) := by
  refine AC.vc hP sh lv28 (Nat.le_refl _) (by simp [isLive]) (by simp) (Eq.mpr (v28 ..) ?_)
  refine br_of (fun h => ?_) (fun h => br_of (fun h' => ?_) (fun h' => ?_))
  · have h := of_decide_eq_true h
    rw [infOf_out (by omega)]
    exact ⟨(inf_no (by simp [inB]; omega) (n := 0)).1, rfl⟩
  · have h' := of_decide_eq_true h'
    rw [infOf_out (by omega)]
    exact ⟨(inf_no (by simp [inB]; omega) (n := 0)).1, rfl⟩
  · have h := of_decide_eq_false h
    have h' := of_decide_eq_false h'
    obtain ⟨hl, e⟩ := infOf_in (V := s.V) (x := x) (by omega) (by omega)
    rw [e, show List.getD (SR s.V) (0 + Int.toNat x) [] = Inf.c s.V[x.toNat] by rw [Nat.zero_add, SR_get hl], show inB s.V x = true by simp [inB]; omega]
    refine ⟨⟨by omega, by omega⟩, ⟨by rw [SR_length]; omega, rfl, rfl⟩, .refl _, rfl⟩
/-- What a term's variable stands for; does it? -/
def valS (s : Sto) (t : Tm) : Tm := (infOf s.V t.n).v
def valB (s : Sto) (t : Tm) : Bool := t.k == 4 && (infOf s.V t.n).bd
theorem c_svalue (s : Sto) (t : Tm) : AC Try.prog 108 [aS 0, aT t] (oS s) (.tup [(true, cT (valS s t)), (false, [.a (.fz (.bool (valB s t)))])]) (oS s) := by
  have hi := c_sinfo s t.n
  obtain ⟨k, str, n, l⟩ := t
  refine AC.vc hP sh lv108 (Nat.le_refl _) (by simp [isLive]) (by simp) (Eq.mpr (v108 k str n (FTs l) ..) ?_)
  have out : inB s.V n = false → (infOf s.V n).bd = false := fun h => by
    rw [infOf_out (by simp [inB] at h; omega)]
  refine ⟨(_, _, _, _), hi, br_of (fun h => br_of (fun h' => ?_) (fun h' => ?_)) (fun h => ?_)⟩
  · refine ⟨?_, rfl⟩
    show TV.Le _ (.tup [(true, cT (infOf s.V n).v), (false, [.a (.fz (.bool (k == 4 && (infOf s.V n).bd)))])])
    rw [show (k == 4) = true from h]; exact .refl _
  · refine ⟨?_, rfl⟩
    show TV.Le _ (.tup [(true, cT (infOf s.V n).v), (false, [.a (.fz (.bool (k == 4 && (infOf s.V n).bd)))])])
    rw [out h', Bool.and_false]; exact .refl _
  · refine ⟨?_, rfl⟩
    show TV.Le _ (.tup [(true, cT (infOf s.V n).v), (false, [.a (.fz (.bool (k == 4 && (infOf s.V n).bd)))])])
    rw [show (k == 4) = false from h]; exact .refl _
/-- What variables may stand for. -/
def OKV (v : Tm) : Prop := validB v = true ∧ v.sz ≤ 4000 ∧ bd 2199023255552 v
def OKS (s : Sto) : Prop := ∀ i ∈ s.V, i.bd = true → OKV i.v
theorem OKS.val {s : Sto} (h : OKS s) {t : Tm} (hb : valB s t = true) : OKV (valS s t) := by
  simp only [valB, Bool.and_eq_true] at hb
  by_cases q : 0 ≤ t.n ∧ t.n < (s.V.length : Int)
  · obtain ⟨hl, e⟩ := infOf_in q.1 q.2
    rw [valS, e]
    rw [e] at hb
    exact h _ (List.getElem_mem hl) hb.2
  · rw [infOf_out q] at hb; simp [noI] at hb
/-- One step at the head: 0: there is none, 2: too large. -/
def stepS (s : Sto) (t : Tm) : Tm × Int :=
  if valB s t = true then (valS s t, 1) else if t.k ≠ 6 then (t, 0)
  else if valB s (hd t.l) = true then (applyF (valS s (hd t.l)) (t.l.drop 1), 1) else if (hd t.l).k ≠ 5 then (t, 0)
  else (applyF (conF (hd (hd t.l).l) (hd (t.l.drop 1))) (t.l.drop 2), if roomT (hd (hd t.l).l) (hd (t.l.drop 1)) = true then 1 else 2)
theorem stepS_n (s : Sto) (t : Tm) : (stepS s t).2 = 0 ∨ (stepS s t).2 = 1 ∨ (stepS s t).2 = 2 := by
  unfold stepS
  split
  · exact .inr (.inl rfl)
  · split
    · exact .inl rfl
    · split
      · exact .inr (.inl rfl)
      · split
        · exact .inl rfl
        · simp only; split
          · exact .inr (.inl rfl)
          · exact .inr (.inr rfl)
theorem take_nat (t : List (List FV)) : List.take (Int.toNat ((t.length : Nat) : Int)) t = t := by rw [Int.toNat_natCast, List.take_of_length_le (Nat.le_refl _)]
theorem aE0 (x : Tm) (l : List Tm) : aE (List.getD (FTs (x :: l)) 0 []) = aT x := aE_FT x
theorem aE1 (x y : Tm) (l : List Tm) : aE (List.getD (FTs (x :: y :: l)) 1 []) = aT y := aE_FT y
theorem asI0 (x : Tm) (l : List Tm) : FV.asI (List.getD (List.getD (FTs (x :: l)) 0 []) 0 FV.nils) = x.k := by cases x; rfl
theorem c_sstep (s : Sto) (hs : OKS s) (t : Tm) (hv : validB t = true) (hz : t.sz ≤ SZ) (hb : bd M61 t) : AC Try.prog 100 [aS 0, aT t] (oS s) (aSt (stepS s t).1 (stepS s t).2) (oS s) := by
  have h1 := c_svalue s t
  have ok := valid_ok t hv
  obtain ⟨k, str, n, l⟩ := t
  refine AC.vc hP sh lv100 (Nat.le_refl _) (by simp [isLive]) (by simp) (Eq.mpr (v100 k str n (FTs l) ..) ?_)
  refine ⟨(_, _), h1, br_of (fun h => ?_) (fun h => br_of (fun h6 => ?_) (fun h6 => ?_))⟩
  · have h : valB s (.mk k str n l) = true := h
    rw [stepS, if_pos h]; exact ⟨.refl _, rfl⟩
  · have h : valB s (.mk k str n l) = false := h
    have h6 : k ≠ 6 := by simpa using h6
    rw [stepS, if_neg (by rw [h]; simp), if_pos (show Tm.k (.mk k str n l) ≠ 6 from h6)]; exact ⟨.refl _, rfl⟩
  have h : valB s (.mk k str n l) = false := h
  have h6 : k = 6 := by simpa using h6
  obtain ⟨x, y, r, rfl, hx6, hl⟩ := okB6 ok h6
  simp only [okL, Bool.and_eq_true] at hl
  subst h6
  simp only [Tm.sz, Tm.szs, SZ] at hz
  have szr := Tm.szs_length r
  have bx := hb.2.1
  have by_ := hb.2.2.1
  have h2 := c_svalue s x
  have e1 : List.drop 1 (List.take (Int.toNat (((FTs (x :: y :: r)).length : Nat) : Int)) (FTs (x :: y :: r))) = FTs (y :: r) := by rw [take_nat]; rfl
  have e2 : List.drop 2 (List.take (Int.toNat (((FTs (x :: y :: r)).length : Nat) : Int)) (FTs (x :: y :: r))) = FTs r := by rw [take_nat]; rfl
  rw [e1, e2, aE0, aE1, asI0]
  have len : ∀ n : Nat, n ≤ 2 → ((n : Nat) : Int) ≤ (((FTs (x :: y :: r)).length : Nat) : Int) := fun n hn => by rw [FTs_length]; simp only [List.length_cons]; omega
  have hS : stepS s (.mk 6 str n (x :: y :: r)) = if valB s x = true then (applyF (valS s x) (y :: r), 1) else if x.k ≠ 5 then (.mk 6 str n (x :: y :: r), 0) else (applyF (conF (hd x.l) y) r, if roomT (hd x.l) y = true then 1 else 2) := by
    rw [stepS, if_neg (by rw [h]; simp), if_neg (show ¬ Tm.k (.mk 6 str n (x :: y :: r)) ≠ 6 from fun e => e rfl)]; rfl
  refine ⟨el0 x (y :: r), (_, _), h2, br_of (fun h3 => ⟨rfl, ⟨by omega, len 1 (by omega), Int.le_refl _⟩, _, c_apply (valS s x) (y :: r) ?_, ?_⟩) (fun h3 => ⟨el0 x (y :: r), br_of (fun h5 => ?_) (fun h5 => ?_)⟩)⟩
  · have h3 : valB s x = true := h3
    have hv := (hs.val h3).2.1
    have := Tm.szs_length (valS s x).l
    have := (valS s x).sz_eq
    simp only [List.length_cons]; omega
  · have h3 : valB s x = true := h3
    rw [hS, if_pos h3]; exact ⟨.refl _, rfl⟩
  · have h3 : valB s x = false := h3
    have h5 : x.k ≠ 5 := by simpa using h5
    rw [hS, if_neg (by rw [h3]; simp), if_pos h5]; exact ⟨.refl _, rfl⟩
  · have h3 : valB s x = false := h3
    have h5 : x.k = 5 := by simpa using h5
    rw [hS, if_neg (by rw [h3]; simp), if_neg (by rw [h5]; simp)]
    have hvl := kid_valid hv (.inr rfl)
    have vx := hvl x List.mem_cons_self
    have vy := hvl y (List.mem_cons_of_mem _ List.mem_cons_self)
    obtain ⟨xk, xs, xn, xl⟩ := x
    have h5 : xk = 5 := h5
    subst h5
    obtain ⟨b, rfl, ob⟩ := okB5 hl.1 rfl
    have vb := kid_valid vx (.inl rfl) b List.mem_cons_self
    simp only [Tm.sz, Tm.szs] at hz
    have hc := c_bcontract b y (by simp only [SZ]; omega) (by simp only [SZ]; omega) bx.2.1 by_
    rw [if_pos (by rw [vb, vy]; rfl)] at hc
    rw [show aE (List.getD (FV.ses (List.getD (List.getD (FTs (.mk 5 xs xn [b] :: y :: r)) 0 []) 3 FV.nils)) 0 []) = aT b from aE_FT b]
    refine ⟨el0 _ _, el0 b [], el1 _ _ _, (_, _), hc, rfl, ⟨by omega, len 2 (by omega), Int.le_refl _⟩, _, c_apply (conF b y) r ?_, ?_⟩
    · unfold conF
      split
      · rename_i hr
        have h5 := (room_sz ob hl.2.1 hr (by simp only [SZ]; omega)).1
        have hz := suT_sz 0 y b 0
        have h6 := Tm.szs_length (suT 0 y b 0).l
        have h7 := (suT 0 y b 0).sz_eq
        simp only [B] at h5
        omega
      · simp only [Tm.l, List.length_nil]; omega
    · refine ⟨?_, rfl⟩
      show TV.Le (.tup [(true, cT (applyF (conF b y) r)), (false, [.a (.fz (.bool true))]), (false, [.a (.fz (.int .i64 (conE b y)))])]) (aSt (applyF (conF b y) r) (if roomT b y = true then 1 else 2))
      unfold conE
      by_cases q : roomT b y = true
      · rw [if_pos q, if_pos q]; exact .refl _
      · rw [if_neg q, if_neg q]; exact .refl _

end Go.AM

set_option maxRecDepth 100000
open Go Go.Proofs
namespace Go.AM

theorem stepS_fit {F : Nat} {s : Sto} {t : Tm} (hs : OKS s) (hv : validB t = true) (hf : Fit (F + 1) t) (h : (stepS s t).2 = 1) : validB (stepS s t).1 = true ∧ Fit F (stepS s t).1 := by
  have hM : (2199023255552 : Int) ≤ M61 - SZ - SZ * F := by have := hf.2.2.2; simp only [M61, SZ]; omega
  have hval : ∀ u, valB s u = true → validB (valS s u) = true ∧ okB (valS s u) = true ∧ lvB (valS s u) = true ∧ (valS s u).sz ≤ 4000 ∧ bd (M61 - SZ - SZ * F) (valS s u) := fun u hu => by
    have := hs.val hu
    exact ⟨this.1, valid_ok _ this.1, valid_lv this.1, this.2.1, bd_le hM _ this.2.2⟩
  have hF := hf.2.1
  have hF4 := hf.2.2.2
  unfold stepS at h ⊢
  split
  · rename_i q
    obtain ⟨v1, v2, v3, v4, v5⟩ := hval _ q
    exact ⟨v1, v2, by simp only; omega, v5, by omega⟩
  rename_i q
  rw [if_neg q] at h
  split
  · rename_i q2; rw [if_pos q2] at h; simp at h
  rename_i q2
  rw [if_neg q2] at h
  have ok := valid_ok t hv
  obtain ⟨k, str, n, l⟩ := t
  have h6 : k = 6 := by
    by_cases e : k = 6
    · exact e
    · exact absurd e q2
  obtain ⟨x, y, r, rfl, hx6, hl⟩ := okB6 ok h6
  subst h6
  simp only [okL, Bool.and_eq_true] at hl
  have kv := kid_valid hv (.inr rfl)
  have hb := bd_le (M' := M61 - SZ - SZ * F) (by simp only [SZ]; omega) _ hf.2.2.1
  simp only [Tm.sz, Tm.szs] at hF
  have lvr : lvL r = true := lvL_of fun u hu => valid_lv (kv u (List.mem_cons_of_mem _ (List.mem_cons_of_mem _ hu)))
  have ey : Tm.l (.mk 6 str n (x :: y :: r)) = x :: y :: r := rfl
  have eh : hd (x :: y :: r) = x := rfl
  have e1 : List.drop 1 (x :: y :: r) = y :: r := rfl
  have e2 : List.drop 2 (x :: y :: r) = r := rfl
  have ehy : hd (y :: r) = y := rfl
  simp only [ey, eh, e1, e2, ehy] at h ⊢
  split
  · rename_i q3
    obtain ⟨v1, v2, v3, v4, v5⟩ := hval _ q3
    have ok2 : okB (applyF (valS s x) (y :: r)) = true := applyF_ok v2 (by simp only [okL, hl.2.1, hl.2.2, Bool.and_self])
    have lv2 : lvB (applyF (valS s x) (y :: r)) = true := applyF_lv v3 (by simp only [lvL, lvr, valid_lv (kv y (List.mem_cons_of_mem _ List.mem_cons_self)), Bool.and_self])
    have z := applyF_sz (valS s x) (y :: r)
    simp only [Tm.szs] at z
    refine ⟨by rw [valid_iff, ok2, lv2]; rfl, ok2, by simp only; omega, applyF_bd v5 (show bds _ (y :: r) from ⟨hb.2.2.1, hb.2.2.2⟩), by omega⟩
  rename_i q3
  rw [if_neg q3] at h
  split
  · rename_i q4; rw [if_pos q4] at h; simp at h
  rename_i q4
  rw [if_neg q4] at h
  obtain ⟨xk, xs, xn, xl⟩ := x
  have h5 : xk = 5 := by
    by_cases e : xk = 5
    · exact e
    · exact absurd e q4
  subst h5
  obtain ⟨b, rfl, ob⟩ := okB5 hl.1 rfl
  have room : roomT b y = true := by
    by_cases e : roomT b y = true
    · exact e
    · exfalso
      have h : (if roomT b y = true then (1 : Int) else 2) = 1 := h
      rw [if_neg e] at h; cases h
  have hst : stepF (.mk 6 str n (.mk 5 xs xn [b] :: y :: r)) = (applyF (suT 0 y b 0) r, 1) := by
    rw [stepF, if_pos (redex_mk str xs n xn b y r)]; exact if_pos room
  have e3 : conF (hd (Tm.l (.mk 5 xs xn [b]))) y = suT 0 y b 0 := by show conF b y = _; rw [conF, if_pos room]
  rw [e3]
  have hn := hf.next (by rw [hst])
  have hlv := stepF_lv (M61 - SZ - SZ * ((F + 1 : Nat) : Int)) (by simp only [M61, SZ]; omega) _ ok hf.sz hf.2.2.1 (valid_lv hv) (by rw [hst])
  rw [hst] at hn hlv
  exact ⟨by rw [valid_iff, hn.1, hlv]; rfl, hn⟩
/-- All steps at the head: the term, what is wrong, how many. -/
def runH (s : Sto) : Nat → Tm → Tm × Int × Nat
  | 0, t => if (stepS s t).2 = 0 then (t, 0, 0) else (noT, 80, 0)
  | F + 1, t => if (stepS s t).2 = 0 then (t, 0, 0) else if (stepS s t).2 = 2 then (noT, 80, 0) else ((runH s F (stepS s t).1).1, (runH s F (stepS s t).1).2.1, (runH s F (stepS s t).1).2.2 + 1)
theorem runH_fit {s : Sto} (hs : OKS s) : ∀ {F : Nat} {t : Tm}, validB t = true → Fit F t → (runH s F t).2.2 ≤ F ∧ ((runH s F t).2.1 = 0 ∧ validB (runH s F t).1 = true ∧ Fit (F - (runH s F t).2.2) (runH s F t).1 ∧ (stepS s (runH s F t).1).2 = 0 ∨ (runH s F t).2.1 = 80 ∧ (runH s F t).1 = noT)
  | 0, t, hv, hf => by
    rw [runH]
    split
    · rename_i h; exact ⟨Nat.le_refl _, .inl ⟨rfl, hv, hf, h⟩⟩
    · exact ⟨Nat.le_refl _, .inr ⟨rfl, rfl⟩⟩
  | F + 1, t, hv, hf => by
    rw [runH]
    split
    · rename_i h; exact ⟨Nat.zero_le _, .inl ⟨rfl, hv, hf, h⟩⟩
    · rename_i h0
      split
      · exact ⟨Nat.zero_le _, .inr ⟨rfl, rfl⟩⟩
      · rename_i h2
        have h1 : (stepS s t).2 = 1 := by rcases stepS_n s t with q | q | q; · exact absurd q h0
                                          · exact q
                                          · exact absurd q h2
        obtain ⟨v, f⟩ := stepS_fit hs hv hf h1
        have := runH_fit hs v f
        refine ⟨by simp only; omega, ?_⟩
        rcases this.2 with ⟨a, b, c, d⟩ | ⟨a, b⟩
        · exact .inl ⟨a, b, by simp only; rw [show F + 1 - ((runH s F (stepS s t).1).2.2 + 1) = F - (runH s F (stepS s t).1).2.2 by omega]; exact c, d⟩
        · exact .inr ⟨a, b⟩
theorem l_shead (s : Sto) (hs : OKS s) : ∀ (F : Nat) (f : Int) (t : Tm), f.toNat = F → 0 - 9223372036854775808 ≤ f → validB t = true → Fit F t →
    RPt Try.prog 80 4 (aTE (runH s F t).1 (runH s F t).2.1) (oSf s (f - ((runH s F t).2.2 : Int))) 1
      ⟨[(0, aS 0), (2, .c (.a (.ep 3 1 0 0))), (4, .c (.a (.ep 4 4 0 0))), (6, .c (.a (.ep 5 4 0 0)))], [(0, sto2 1 2 s), (1, .arz 6 (SR s.V)), (2, .arz 1 (IR s.T)), (3, obj1 f), (4, .arr 4 [cT t]), (5, .arr 4 [zT])], 6⟩ := by
  intro F
  induction F with
  | zero =>
    intro f t hf hf0 hv hfit
    have hc := c_sstep s hs t hv hfit.sz hfit.bd
    have hr : runH s 0 t = if (stepS s t).2 = 0 then (t, 0, 0) else (noT, 80, 0) := rfl
    rw [hr]
    obtain ⟨k, str, n, l⟩ := t
    refine RPt.vc hP sh lv80 (Eq.mpr (v80_1a s.V.length s.T.length (SR s.V) (IR s.T) f k str n (FTs l) 0 [] 0 _ _) ?_)
    refine ⟨(_, _, _), hc, br_of (fun h => ?_) (fun h => br_of (fun h2 => ?_) (fun h2 => br_of (fun h3 => ?_) (fun h3 => absurd (of_decide_eq_false h3) (by omega))))⟩
    · have h : (stepS s (.mk k str n l)).2 = 0 := by have h : (!((stepS s (.mk k str n l)).2 != 0)) = true := h; simpa using h
      rw [if_pos h]
      exact ⟨.refl _, by simp⟩
    · have h : ¬ (stepS s (.mk k str n l)).2 = 0 := by have h : (!((stepS s (.mk k str n l)).2 != 0)) = false := h; simpa using h
      rw [if_neg h]
      exact ⟨leTE (l := []) leNil, by simp⟩
    · have h : ¬ (stepS s (.mk k str n l)).2 = 0 := by have h : (!((stepS s (.mk k str n l)).2 != 0)) = false := h; simpa using h
      rw [if_neg h]
      exact ⟨leTE (l := []) leNil, by simp⟩
  | succ F ih =>
    intro f t hf hf0 hv hfit
    have hc := c_sstep s hs t hv hfit.sz hfit.bd
    have hr : runH s (F + 1) t = if (stepS s t).2 = 0 then (t, 0, 0) else if (stepS s t).2 = 2 then (noT, 80, 0) else ((runH s F (stepS s t).1).1, (runH s F (stepS s t).1).2.1, (runH s F (stepS s t).1).2.2 + 1) := rfl
    rw [hr]
    have hF4 := hfit.2.2.2
    have next : ¬ (stepS s t).2 = 0 → ¬ (stepS s t).2 = 2 → _ := fun h0 h2 => by
      have h1 : (stepS s t).2 = 1 := by rcases stepS_n s t with q | q | q; · exact absurd q h0
                                        · exact q
                                        · exact absurd q h2
      obtain ⟨v, ff⟩ := stepS_fit hs hv hfit h1
      exact ih (f - 1) (stepS s t).1 (by omega) (by omega) v ff
    obtain ⟨k, str, n, l⟩ := t
    refine RPt.vc hP sh lv80 (Eq.mpr (v80_1a s.V.length s.T.length (SR s.V) (IR s.T) f k str n (FTs l) 0 [] 0 _ _) ?_)
    rw [w64 (x := f - 1) (by omega) (by omega)]
    refine ⟨(_, _, _), hc, br_of (fun h => ?_) (fun h => br_of (fun h2 => ?_) (fun h2 => br_of (fun h3 => absurd (of_decide_eq_true h3) (by omega)) (fun h3 => ?_)))⟩
    · have h : (stepS s (.mk k str n l)).2 = 0 := by have h : (!((stepS s (.mk k str n l)).2 != 0)) = true := h; simpa using h
      rw [if_pos h]
      exact ⟨.refl _, by simp⟩
    · have h : ¬ (stepS s (.mk k str n l)).2 = 0 := by have h : (!((stepS s (.mk k str n l)).2 != 0)) = false := h; simpa using h
      have h2 : (stepS s (.mk k str n l)).2 = 2 := by
        by_cases q : (stepS s (.mk k str n l)).2 = 2
        · exact q
        · have h2 : ((if (stepS s (.mk k str n l)).2 = 2 then (80 : Int) else 0) != 0) = true := h2
          rw [if_neg q] at h2; cases h2
      rw [if_neg h, if_pos h2]
      exact ⟨leTE (l := []) leNil, by simp⟩
    · have h : ¬ (stepS s (.mk k str n l)).2 = 0 := by have h : (!((stepS s (.mk k str n l)).2 != 0)) = false := h; simpa using h
      have h2 : ¬ (stepS s (.mk k str n l)).2 = 2 := fun q => by
        have h2 : ((if (stepS s (.mk k str n l)).2 = 2 then (80 : Int) else 0) != 0) = false := h2
        rw [if_pos q] at h2; cases h2
      rw [if_neg h, if_neg h2]
      have := next h h2
      rw [show f - 1 - (((runH s F (stepS s (.mk k str n l)).1).2.2 : Nat) : Int) = f - (((runH s F (stepS s (.mk k str n l)).1).2.2 + 1 : Nat) : Int) by omega] at this
      exact this
theorem c_shead (s : Sto) (hs : OKS s) (F : Nat) (f : Int) (t : Tm) (hF : f.toNat = F) (h0 : 0 - 9223372036854775808 ≤ f) (hv : validB t = true) (hf : Fit F t) :
    AC Try.prog 80 [aS 0, aT t, .c (.a (.ep 3 1 0 0))] (oSf s f) (aTE (runH s F t).1 (runH s F t).2.1) (oSf s (f - ((runH s F t).2.2 : Int))) := by
  have h := l_shead s hs F f t hF h0 hv hf
  obtain ⟨k, str, n, l⟩ := t
  exact AC.vc hP sh lv80 (Nat.le_refl _) (by simp [isLive]) (by simp) (Eq.mpr (v80 k str n (FTs l) ..) h)
/-- Head: the term, what is left, what is wrong. -/
def headV (s : Sto) (f : Int) (t : Tm) : Tm × Int × Int :=
  if validB t = true then (if (runH s f.toNat t).2.1 = 0 then ((runH s f.toNat t).1, f - ((runH s f.toNat t).2.2 : Int), 0) else (noT, 0, (runH s f.toNat t).2.1)) else (noT, 0, 1)
abbrev aHd (z : Tm × Int × Int) : TV := .tup [(true, cT z.1), (false, [.a (.fz (.int .i64 z.2.1))]), (false, [.a (.fz (.int .i64 z.2.2))])]
theorem leHd {k n a e : Int} {s : List UInt8} {x : FV} {l : List Tm} (h : FV.Le x (.sl false 4 (FTs l))) : TV.Le (.tup [(true, [.a (.fz (.int .i64 k)), .a (.fz (.str s)), .a (.fz (.int .i64 n)), .a (.fz x)]), (false, [.a (.fz (.int .i64 a))]), (false, [.a (.fz (.int .i64 e))])]) (aHd (.mk k s n l, a, e)) :=
  le_tup ⟨lwT h, lwR _, lwR _, trivial⟩
/-! ### Head and arguments -/
def splitF (t : Tm) : Tm × List Tm := if t.k = 6 ∧ validB t = true then (hd t.l, t.l.drop 1) else (t, [])
abbrev aSp (z : Tm × List Tm) : TV := .tup [(true, cT z.1), (false, [.a (.fz (.sl false 4 (FTs z.2)))])]
theorem stepS_sz {F : Nat} {s : Sto} {t : Tm} (hs : OKS s) (hv : validB t = true) (hf : Fit (F + 1) t) (h : (stepS s t).2 = 1) : (stepS s t).1.sz ≤ t.sz + 4200 := by
  unfold stepS at h ⊢
  split
  · rename_i q
    have := (hs.val q).2.1
    simp only; omega
  rename_i q
  rw [if_neg q] at h
  split
  · rename_i q2; rw [if_pos q2] at h; simp at h
  rename_i q2
  rw [if_neg q2] at h
  have ok := valid_ok t hv
  obtain ⟨k, str, n, l⟩ := t
  have h6 : k = 6 := by
    by_cases e : k = 6
    · exact e
    · exact absurd e q2
  obtain ⟨x, y, r, rfl, hx6, hl⟩ := okB6 ok h6
  subst h6
  simp only [okL, Bool.and_eq_true] at hl
  have ey : Tm.l (.mk 6 str n (x :: y :: r)) = x :: y :: r := rfl
  have eh : hd (x :: y :: r) = x := rfl
  have e1 : List.drop 1 (x :: y :: r) = y :: r := rfl
  have e2 : List.drop 2 (x :: y :: r) = r := rfl
  have ehy : hd (y :: r) = y := rfl
  simp only [ey, eh, e1, e2, ehy] at h ⊢
  split
  · rename_i q3
    have v4 := (hs.val q3).2.1
    have z := applyF_sz (valS s x) (y :: r)
    have zx := x.sz_pos
    simp only [Tm.szs, Tm.sz] at z ⊢
    omega
  rename_i q3
  rw [if_neg q3] at h
  split
  · rename_i q4; rw [if_pos q4] at h; simp at h
  rename_i q4
  rw [if_neg q4] at h
  obtain ⟨xk, xs, xn, xl⟩ := x
  have h5 : xk = 5 := by
    by_cases e : xk = 5
    · exact e
    · exact absurd e q4
  subst h5
  obtain ⟨b, rfl, ob⟩ := okB5 hl.1 rfl
  have room : roomT b y = true := by
    by_cases e : roomT b y = true
    · exact e
    · exfalso
      have h : (if roomT b y = true then (1 : Int) else 2) = 1 := h
      rw [if_neg e] at h; cases h
  have hst : stepF (.mk 6 str n (.mk 5 xs xn [b] :: y :: r)) = (applyF (suT 0 y b 0) r, 1) := by
    rw [stepF, if_pos (redex_mk str xs n xn b y r)]; exact if_pos room
  have e3 : conF (hd (Tm.l (.mk 5 xs xn [b]))) y = suT 0 y b 0 := by show conF b y = _; rw [conF, if_pos room]
  rw [e3]
  have := (stepF_fit M61 (by simp only [M61]; omega) _ hf.ok hf.sz hf.bd (by rw [hst])).2.1
  rw [hst] at this
  exact this

end Go.AM

set_option maxRecDepth 100000
open Go Go.Proofs
namespace Go.AM

/-! ### Variables more, bound -/
abbrev oS' (s : Sto) : List AObj := [sto2 3 4 s, .gone, .gone, .arz 6 (SR s.V), .arz 1 (IR s.T)]
def freshS (s : Sto) (lv : Int) : Sto := ⟨s.V ++ [⟨foldMax [lv, 0], false, noT⟩], s.T⟩
theorem sIR_length (l : List Int) : (IR l).length = l.length := by simp [IR]
theorem sIR_append (a b : List Int) : IR (a ++ b) = IR a ++ IR b := by simp [IR]
/-- Rows, one after another. -/
theorem ole_rows {n : Nat} {fs gs : List (List FV)} (hl : gs.length = fs.length) (h : ∀ (i : Nat) (e e' : List FV), fs[i]? = some e → gs[i]? = some e' → LeR e e') : OLe (.arz n fs) (.arz n gs) :=
  .rows n fs gs (by omega) (fun i e e' he he' => (h i e e' he he').length) (fun i j e e' f f' he he' hf hf' => (h i e e' he he').get j f f' hf hf')
theorem ole_app {n : Nat} {a : List (List FV)} {x y : List FV} (h : LeR x y) : OLe (.arz n (a ++ [x])) (.arz n (a ++ [y])) := by
  refine ole_rows (by simp) fun i e e' he he' => ?_
  by_cases q : i < a.length
  · rw [List.getElem?_append_left q] at he he'
    rw [he] at he'; injection he' with he'; subst he'; exact LeR.refl _
  · rw [List.getElem?_append_right (by omega)] at he he'
    cases hi : i - a.length with
    | zero => rw [hi] at he he'; simp at he he'; subst he; subst he'; exact h
    | succ k => rw [hi] at he; simp at he
theorem ole_set {n i : Nat} {a : List (List FV)} {x y : List FV} (h : LeR x y) : OLe (.arz n (a.set i x)) (.arz n (a.set i y)) := by
  refine ole_rows (by simp) fun j e e' he he' => ?_
  rw [List.getElem?_set] at he he'
  split at he
  · rename_i q
    rw [if_pos q] at he'
    split at he
    · rename_i q2; rw [if_pos q2] at he'; injection he with he; injection he' with he'; subst he; subst he'; exact h
    · cases he
  · rename_i q
    rw [if_neg q] at he'
    rw [he] at he'; injection he' with he'; subst he'; exact LeR.refl _
theorem c_sfresh (s : Sto) (lv : Int) (h : s.V.length ≤ 1073741824) : AC Try.prog 35 [aS 0, ci lv] (oS s) (ci (s.V.length : Int)) (oS' (freshS s lv)) := by
  have hrow : LeR [.int .i64 (foldMax [lv, 0]), .bool false, .int .i64 0, .str [], .int .i64 0, .nils] (Inf.c ⟨foldMax [lv, 0], false, noT⟩) := ⟨.refl _, .refl _, .refl _, .refl _, .refl _, leNil, trivial⟩
  have hV : (freshS s lv).V.length = s.V.length + 1 := by simp [freshS]
  refine AC.obj (Hs' := [.arr 2 [[.a (.osl 3 6 0 (s.V.length + 1)), .a (.osl 4 1 0 s.T.length)]], .gone, .gone, .arz 6 (SR s.V ++ [[.int .i64 (foldMax [lv, 0]), .bool false, .int .i64 0, .str [], .int .i64 0, .nils]]), .arz 1 (IR s.T)]) ?_ ⟨by rw [sto2, hV]; exact .refl _, .refl _, .refl _, ?_, .refl _, trivial⟩
  · refine AC.vc hP sh lv35 (by simp) (by simp [isLive]) (by simp [isLive]) (Eq.mpr (v35 ..) ?_)
    rw [w64 (x := (((s.V.length + 1 : Nat) : Int) - 1)) (by omega) (by omega), List.take_of_length_le (by rw [SR_length]; omega)]
    exact ⟨by omega, ⟨by rw [SR_length]; omega, by unfold roomB; omega⟩, by rw [show (((s.V.length + 1 : Nat) : Int) - 1) = (s.V.length : Int) by omega]; exact .refl _, rfl⟩
  · show OLe _ (.arz 6 (SR (s.V ++ [⟨foldMax [lv, 0], false, noT⟩])))
    rw [SR_append]
    exact ole_app hrow
theorem c_rfresh (s : Sto) (lv : Int) (h : s.V.length ≤ 1073741824) : AC Try.prog 49 [aS 0, ci lv] (oS s) (ci (s.V.length : Int)) (oS' (freshS s lv)) := by
  have hrow : LeR [.int .i64 (foldMax [lv, 0]), .bool false, .int .i64 0, .str [], .int .i64 0, .nils] (Inf.c ⟨foldMax [lv, 0], false, noT⟩) := ⟨.refl _, .refl _, .refl _, .refl _, .refl _, leNil, trivial⟩
  have hV : (freshS s lv).V.length = s.V.length + 1 := by simp [freshS]
  refine AC.obj (Hs' := [.arr 2 [[.a (.osl 3 6 0 (s.V.length + 1)), .a (.osl 4 1 0 s.T.length)]], .gone, .gone, .arz 6 (SR s.V ++ [[.int .i64 (foldMax [lv, 0]), .bool false, .int .i64 0, .str [], .int .i64 0, .nils]]), .arz 1 (IR s.T)]) ?_ ⟨by rw [sto2, hV]; exact .refl _, .refl _, .refl _, ?_, .refl _, trivial⟩
  · refine AC.vc hP sh lv49 (by simp) (by simp [isLive]) (by simp [isLive]) (Eq.mpr (v49 ..) ?_)
    rw [w64 (x := (((s.V.length + 1 : Nat) : Int) - 1)) (by omega) (by omega), List.take_of_length_le (by rw [SR_length]; omega)]
    exact ⟨by omega, ⟨by rw [SR_length]; omega, by unfold roomB; omega⟩, by rw [show (((s.V.length + 1 : Nat) : Int) - 1) = (s.V.length : Int) by omega]; exact .refl _, rfl⟩
  · show OLe _ (.arz 6 (SR (s.V ++ [⟨foldMax [lv, 0], false, noT⟩])))
    rw [SR_append]
    exact ole_app hrow
def bindB (s : Sto) (x : Int) (t : Tm) : Bool := inB s.V x && (!(infOf s.V x).bd && (validB t && decide (looseF t 0 0 ≤ 0)))
def bindS (s : Sto) (x : Int) (t : Tm) : Sto := if bindB s x t = true then ⟨s.V.set x.toNat ⟨(infOf s.V x).lv, true, t⟩, s.T ++ [x]⟩ else s
def bindE (s : Sto) (x : Int) (t : Tm) : Int := if bindB s x t = true then 0 else 1
theorem bind_no {s : Sto} {x : Int} {t : Tm} (h : bindB s x t = false) : bindS s x t = s ∧ bindE s x t = 1 := by
  unfold bindS bindE; rw [h]; exact ⟨rfl, rfl⟩
theorem bind_yes {s : Sto} {x : Int} {t : Tm} (h : bindB s x t = true) : bindS s x t = ⟨s.V.set x.toNat ⟨(infOf s.V x).lv, true, t⟩, s.T ++ [x]⟩ ∧ bindE s x t = 0 := by
  unfold bindS bindE; rw [h]; exact ⟨rfl, rfl⟩
theorem inB_of {V : List Inf} {x : Int} (h0 : 0 ≤ x) (h1 : x < (V.length : Int)) : inB V x = true := by simp [inB]; omega
theorem bind_end {s : Sto} {x : Int} {t : Tm} (hb : bindB s x t = true) (h0 : 0 ≤ x) (h1 : x < (s.V.length : Int)) {e : List FV} (he : LeR e (Inf.c ⟨(infOf s.V x).lv, true, t⟩)) :
    All2 OLe [.arr 2 [[.a (.osl 3 6 0 s.V.length), .a (.osl 4 1 0 (s.T.length + 1))]], .gone, .gone, .arz 6 (List.set (SR s.V) (0 + x.toNat) e), .arz 1 (IR s.T ++ [[.int .i64 x]])] (oS' (bindS s x t)) := by
  rw [(bind_yes hb).1]
  refine ⟨by rw [sto2, List.length_set, List.length_append]; exact .refl _, .refl _, .refl _, ?_, ?_, trivial⟩
  · show OLe _ (.arz 6 (SR (s.V.set x.toNat _)))
    rw [show SR (s.V.set x.toNat ⟨(infOf s.V x).lv, true, t⟩) = List.set (SR s.V) (0 + x.toNat) (Inf.c ⟨(infOf s.V x).lv, true, t⟩) by rw [Nat.zero_add, SR, SR, List.map_set]]
    exact ole_set he
  · show OLe _ (.arz 1 (IR (s.T ++ [x])))
    rw [sIR_append]; exact .refl _
theorem c_sbind (s : Sto) (x : Int) (t : Tm) (hT : s.T.length ≤ 1073741824) (hz : t.sz ≤ B) (hb : bd M61 t) : AC Try.prog 50 [aS 0, ci x, aT t] (oS s) (ci (bindE s x t)) (oS' (bindS s x t)) := by
  have h1 := c_sinfo s x
  have h2 := c_valid t hz
  have h3 := c_loose t hz hb
  have hB : bindB s x t = (inB s.V x && (!(infOf s.V x).bd && (validB t && decide (looseF t 0 0 ≤ 0)))) := rfl
  cases hq : bindB s x t with
  | false =>
    rw [(bind_no hq).1, (bind_no hq).2]
    rw [hq] at hB
    obtain ⟨k, str, n, l⟩ := t
    refine AC.vc hP sh lv50 (by simp) (by simp [isLive]) (by simp [isLive]) (Eq.mpr (v50 x k str n (FTs l) ..) ?_)
    refine ⟨(_, _, _, _), h1, br_of (fun _ => ⟨.refl _, rfl⟩) (fun e1 => br_of (fun _ => ⟨.refl _, rfl⟩) (fun e2 => ⟨_, h2, br_of (fun _ => ⟨.refl _, rfl⟩) (fun e3 => ⟨_, h3, br_of (fun _ => ⟨.refl _, rfl⟩) (fun e4 => ?_)⟩)⟩))⟩
    exfalso
    have e1 : (!(inB s.V x)) = false := e1
    have e1 : inB s.V x = true := by cases h : inB s.V x; · rw [h] at e1; cases e1
                                     · rfl
    have e2 : (infOf s.V x).bd = false := e2
    have e3 : validB (.mk k str n l) = true := by simpa using e3
    rw [e1, e2, e3, decide_eq_true (by have := of_decide_eq_false e4; omega)] at hB
    cases hB
  | true =>
    rw [(bind_yes hq).2]
    have hq' := hq
    rw [hB] at hq'
    simp only [Bool.and_eq_true, Bool.not_eq_true', decide_eq_true_eq] at hq'
    obtain ⟨g1, g2, g3, g4⟩ := hq'
    have g1' : 0 ≤ x ∧ x < (s.V.length : Int) := by simp [inB] at g1; omega
    refine AC.obj (Hs' := [.arr 2 [[.a (.osl 3 6 0 s.V.length), .a (.osl 4 1 0 (s.T.length + 1))]], .gone, .gone, .arz 6 (List.set (SR s.V) (0 + x.toNat) [.int .i64 (infOf s.V x).lv, .bool true, .int .i64 t.k, .str t.s, .int .i64 t.n, .sl false 4 (FTs t.l)]), .arz 1 (IR s.T ++ [[.int .i64 x]])]) ?_ (bind_end hq g1'.1 g1'.2 (show LeR [.int .i64 (infOf s.V x).lv, .bool true, .int .i64 t.k, .str t.s, .int .i64 t.n, .sl false 4 (FTs t.l)] (Inf.c ⟨(infOf s.V x).lv, true, t⟩) from LeR.refl _))
    obtain ⟨hl, ei⟩ := infOf_in g1'.1 g1'.2
    obtain ⟨k, str, n, l⟩ := t
    refine AC.vc hP sh lv50 (by simp) (by simp [isLive]) (by simp [isLive]) (Eq.mpr (v50 x k str n (FTs l) ..) ?_)
    refine ⟨(_, _, _, _), h1, br_of (fun e => by have e : (!(inB s.V x)) = true := e; rw [g1] at e; cases e) (fun _ => br_of (fun e => by have e : (infOf s.V x).bd = true := e; rw [g2] at e; cases e) (fun _ => ⟨_, h2, br_of (fun e => by rw [g3] at e; cases e) (fun _ => ⟨_, h3, br_of (fun e => absurd (of_decide_eq_true e) (by omega)) (fun _ => ⟨g1', ⟨by rw [SR_length]; omega, ?_⟩, by omega, ⟨by rw [sIR_length]; omega, by unfold roomB; omega⟩, .refl _, ?_⟩)⟩)⟩))⟩
    · rw [Nat.zero_add, SR_get hl]; rfl
    · rw [List.take_of_length_le (by rw [sIR_length]; omega)]; rfl
theorem looseR_pos (t : Tm) (k : Int) : 0 ≤ looseR t k := by
  obtain ⟨kd, s, n, l⟩ := t
  rw [looseR]
  split
  · unfold maxI; split <;> omega
  · split
    · exact looseRL_ge _ _
    · exact Int.le_refl _
theorem c_rbind (s : Sto) (x : Int) (t : Tm) (hT : s.T.length ≤ 1073741824) (hz : t.bk ≤ B) (hb : bd M61 t) : AC Try.prog 51 [aS 0, ci x, aT t] (oS s) (ci (bindE s x t)) (oS' (bindS s x t)) := by
  have h2 := c_rvalid t hz
  have hz' : t.sz ≤ B := Nat.le_trans (Tm.sz_bk t) hz
  have h3 := c_rloose t hz' hb 0 (Int.le_refl _) (by simp only [B] at hz'; omega)
  have hB : bindB s x t = (inB s.V x && (!(infOf s.V x).bd && (validB t && decide (looseF t 0 0 ≤ 0)))) := rfl
  have hloose : looseF t 0 0 = looseR t 0 := by
    rw [loose_acc t 0 0 (Int.le_refl _)]
    have := looseR_pos t 0
    unfold maxI; split <;> omega
  rw [hloose] at hB
  cases hq : bindB s x t with
  | false =>
    rw [(bind_no hq).1, (bind_no hq).2]
    rw [hq] at hB
    obtain ⟨k, str, n, l⟩ := t
    refine AC.vc hP sh lv51 (by simp) (by simp [isLive]) (by simp [isLive]) (Eq.mpr (v51 x k str n (FTs l) ..) ?_)
    refine ⟨_, h2, br_of (fun _ => ⟨.refl _, rfl⟩) (fun e1 => br_of (fun _ => ⟨.refl _, rfl⟩) (fun e2 => br_of (fun _ => ⟨.refl _, rfl⟩) (fun e3 => ?_)))⟩
    have e1 := of_decide_eq_false e1
    have e2 := of_decide_eq_false e2
    have g1' : 0 ≤ x ∧ x < (s.V.length : Int) := by omega
    obtain ⟨hl, ei⟩ := infOf_in g1'.1 g1'.2
    rw [show List.getD (SR s.V) (0 + Int.toNat x) [] = Inf.c s.V[x.toNat] by rw [Nat.zero_add, SR_get hl], ← ei]
    refine ⟨g1', ⟨by rw [SR_length]; omega, rfl, rfl⟩, br_of (fun _ => ⟨.refl _, rfl⟩) (fun e4 => ⟨_, h3, br_of (fun _ => ⟨.refl _, rfl⟩) (fun e5 => ?_)⟩)⟩
    exfalso
    have e3 : validB (.mk k str n l) = true := by simpa using e3
    have e4 : (infOf s.V x).bd = false := e4
    rw [inB_of g1'.1 g1'.2, e4, e3, decide_eq_true (by have := of_decide_eq_false e5; omega)] at hB
    cases hB
  | true =>
    rw [(bind_yes hq).2]
    have hq' := hq
    rw [hB] at hq'
    simp only [Bool.and_eq_true, Bool.not_eq_true', decide_eq_true_eq] at hq'
    obtain ⟨g1, g2, g3, g4⟩ := hq'
    have g1' : 0 ≤ x ∧ x < (s.V.length : Int) := by simp [inB] at g1; omega
    refine AC.obj (Hs' := [.arr 2 [[.a (.osl 3 6 0 s.V.length), .a (.osl 4 1 0 (s.T.length + 1))]], .gone, .gone, .arz 6 (List.set (SR s.V) (0 + x.toNat) [.int .i64 (infOf s.V x).lv, .bool true, .int .i64 t.k, .str t.s, .int .i64 t.n, .sl false 4 (FTs t.l)]), .arz 1 (IR s.T ++ [[.int .i64 x]])]) ?_ (bind_end hq g1'.1 g1'.2 (show LeR [.int .i64 (infOf s.V x).lv, .bool true, .int .i64 t.k, .str t.s, .int .i64 t.n, .sl false 4 (FTs t.l)] (Inf.c ⟨(infOf s.V x).lv, true, t⟩) from LeR.refl _))
    obtain ⟨hl, ei⟩ := infOf_in g1'.1 g1'.2
    obtain ⟨k, str, n, l⟩ := t
    refine AC.vc hP sh lv51 (by simp) (by simp [isLive]) (by simp [isLive]) (Eq.mpr (v51 x k str n (FTs l) ..) ?_)
    rw [show List.getD (SR s.V) (0 + Int.toNat x) [] = Inf.c s.V[x.toNat] by rw [Nat.zero_add, SR_get hl], ← ei]
    have hm : (0 + x.toNat) < (SR s.V).length := by rw [SR_length]; omega
    refine ⟨_, h2, br_of (fun e => absurd (of_decide_eq_true e) (by omega)) (fun _ => br_of (fun e => absurd (of_decide_eq_true e) (by omega)) (fun _ => br_of (fun e => by rw [g3] at e; cases e) (fun _ => ⟨g1', ⟨hm, rfl, rfl⟩, br_of (fun e => by rw [show (infOf s.V x).bd = true from e] at g2; cases g2) (fun _ => ⟨_, h3, br_of (fun e => absurd (of_decide_eq_true e) (by omega)) (fun _ => ⟨g1', ⟨hm, rfl, rfl⟩, g1', ⟨hm, rfl⟩, by omega, ⟨by rw [sIR_length]; omega, by unfold roomB; omega⟩, .refl _, ?_⟩)⟩)⟩)))⟩
    rw [List.take_of_length_le (by rw [sIR_length]; omega)]; rfl

end Go.AM

set_option maxRecDepth 100000
open Go Go.Proofs
namespace Go.AM

/-! ### Package invert: what hangs, what is kept -/
theorem c_ivariable (x : Int) : AC Try.prog 79 [ci x] [] (aT (.mk 4 [] x [])) [] := by
  refine AC.vc hP sh lv79 (Nat.le_refl _) (by simp) (by simp) (Eq.mpr (v79 ..) ?_)
  exact ⟨leT (l := []) leNil, rfl⟩
theorem c_ibound (n : Int) : AC Try.prog 52 [ci n] [] (aT (.mk 3 [] n [])) [] := by
  refine AC.vc hP sh lv52 (Nat.le_refl _) (by simp) (by simp) (Eq.mpr (v52 ..) ?_)
  exact ⟨leT (l := []) leNil, rfl⟩
/-- A new variable; another one is bound to it, below abstractions, applied to some. -/
def hangT (s : Sto) (lams : Nat) (on : List Tm) : Tm := lamsF lams (applyF (.mk 4 [] (s.V.length : Int) []) on)
def hangS (s : Sto) (x lv : Int) (lams : Nat) (on : List Tm) : Sto := bindS (freshS s lv) x (hangT s lams on)
theorem c_hang (s : Sto) (x lv : Int) (lams : Nat) (on : List Tm) (hl : lams ≤ 1000) (ho : on.length ≤ 1000) (hV : s.V.length ≤ 1073741824) (hT : s.T.length ≤ 1073741824) (hz : (hangT s lams on).sz ≤ B) (hb : bd M61 (hangT s lams on)) :
    AC Try.prog 53 [aS 0, ci x, ci lv, ci (lams : Int), aL on] (oS s) (aT (.mk 4 [] (s.V.length : Int) [])) (oS' (hangS s x lv lams on)) := by
  have h1 := c_sfresh s lv (by omega)
  have h2 := c_ivariable (s.V.length : Int)
  have h3 := c_apply (.mk 4 [] (s.V.length : Int) []) on (by simp only [Tm.l, List.length_nil]; omega)
  have h4 := c_lams lams (applyF (.mk 4 [] (s.V.length : Int) []) on) (by omega)
  have h5 := c_sbind (freshS s lv) x (hangT s lams on) hT hz hb
  refine AC.vc hP sh lv53 (by simp) (by simp [isLive]) (by simp [isLive]) (Eq.mpr (v53 ..) ?_)
  exact ⟨(_, freshS s lv), h1, _, h2, _, h3, _, h4, (_, hangS s x lv lams on), h5, .refl _, rfl⟩

end Go.AM

set_option maxRecDepth 100000
open Go Go.Proofs
namespace Go.AM

/-! ### Prune -/
def onK (n : Int) : List Bool → Int → List Tm
  | [], _ => []
  | b :: r, i => if b = true then .mk 3 [] (n - 1 - i) [] :: onK n r (i + 1) else onK n r (i + 1)
def BR (l : List Bool) : List (List FV) := l.map fun b => [.bool b]
theorem BR_length (l : List Bool) : (BR l).length = l.length := by simp [BR]
abbrev hsP16 (s : Sto) (e : Inf) (rest : List (Nat × AObj)) : List (Nat × AObj) := (0, sto2 3 4 s) :: (1, .gone) :: (2, .gone) :: (3, .arz 6 (SR s.V)) :: (4, .arz 1 (IR s.T)) :: (5, .arr 6 [[.a (.fz (.int .i64 e.lv)), .a (.fz (.bool e.bd)), .a (.fz (.int .i64 e.v.k)), .a (.fz (.str e.v.s)), .a (.fz (.int .i64 e.v.n)), .a (.fz (.sl false 4 (FTs e.v.l)))]]) :: rest
abbrev stPb (s : Sto) (x : Int) (e : Inf) (keep : List Bool) (i : Nat) (o : List Tm) : St :=
  ⟨[(0, aS 0), (1, ci x), (2, .c (.a (.fz (.sl false 1 (BR keep))))), (7, .c (.a (.ep 5 6 0 0))), (9, .c (.a (.osl 6 4 0 o.length))), (24, .c (.a (.fz (.sl false 1 (BR keep))))), (25, ci (keep.length : Int)), (26, ci (i : Int))], hsP16 s e [(6, .arz 4 (FTs o))], 7⟩
theorem l_pruneb (s : Sto) (x : Int) (e : Inf) (keep : List Bool) (hk : keep.length ≤ 1000) (res : List Tm) (hh : AC Try.prog 53 [aS 0, ci x, ci e.lv, ci (keep.length : Int), aL res] (oS s) (aT (.mk 4 [] (s.V.length : Int) [])) (oS' (hangS s x e.lv keep.length res))) :
    ∀ (j i : Nat) (o : List Tm), i + j = keep.length → o.length ≤ i → o ++ onK (keep.length : Int) (keep.drop i) (i : Int) = res → RPt Try.prog 30 3 (ci 0) (oS' (hangS s x e.lv keep.length res)) 1 (stPb s x e keep i o)
  | 0, i, o, hi, ho, hr => by
    have hlen := BR_length keep
    refine RPt.vc hP sh lv30 (Eq.mpr (v30_1b ..) ?_)
    rw [List.drop_eq_nil_of_le (by omega), onK, List.append_nil] at hr
    subst hr
    refine br_of (fun h => absurd (of_decide_eq_true h) (by omega)) (fun _ => ⟨rfl, ⟨rfl, by rw [FTs_length]; omega⟩, ((.mk 4 [] (s.V.length : Int) [] : Tm), hangS s x e.lv keep.length o), ?_, .refl _, rfl⟩)
    rw [List.drop_zero, List.take_of_length_le (by rw [FTs_length]; exact Nat.le_refl _), hlen]
    exact hh
  | j + 1, i, o, hi, ho, hr => by
    have hlen := BR_length keep
    have hi2 : i < keep.length := by omega
    have eg : List.getD (BR keep) (Int.toNat (i : Int)) [] = [.bool keep[i]] := by rw [Int.toNat_natCast]; simp [BR, List.getD, hi2]
    have ed : keep.drop i = keep[i] :: keep.drop (i + 1) := List.drop_eq_getElem_cons hi2
    rw [ed, onK] at hr
    refine RPt.vc hP sh lv30 (Eq.mpr (v30_1b ..) ?_)
    rw [eg, w64 (x := (i : Int) + 1) (by omega) (by omega), hlen, w64 (x := (keep.length : Int) - 1) (by omega) (by omega), w64 (x := (keep.length : Int) - 1 - (i : Int)) (by omega) (by omega)]
    refine br_of (fun _ => ⟨⟨rfl, by omega, by omega, rfl⟩, br_of (fun hb => ?_) (fun hb => ?_)⟩) (fun h => absurd (of_decide_eq_false h) (by omega))
    · have hb : keep[i] = true := hb
      rw [if_pos hb] at hr
      refine ⟨rfl, _, c_ibound _, Nat.le_refl _, ⟨by rw [FTs_length]; omega, by simp only [roomB]; omega⟩, ?_⟩
      have nx := l_pruneb s x e keep hk res hh j (i + 1) (o ++ [.mk 3 [] ((keep.length : Int) - 1 - (i : Int)) []]) (by omega) (by simp; omega) (by rw [List.append_assoc]; exact hr)
      rw [FT4_eq, show List.take o.length (FTs o) ++ [FT (.mk 3 [] ((keep.length : Int) - 1 - (i : Int)) [])] = FTs (o ++ [.mk 3 [] ((keep.length : Int) - 1 - (i : Int)) []]) by rw [List.take_of_length_le (by rw [FTs_length]; exact Nat.le_refl _), FTs_append]; rfl]
      simp only [stPb, List.length_append, List.length_singleton] at nx
      exact nx
    · have hb : keep[i] = false := hb
      rw [if_neg (by rw [hb]; simp)] at hr
      exact l_pruneb s x e keep hk res hh j (i + 1) o (by omega) (by omega) hr

end Go.AM

set_option maxRecDepth 100000
open Go Go.Proofs
namespace Go.AM

abbrev stPa (s : Sto) (x : Int) (e : Inf) (keep : List Bool) (i : Nat) : St :=
  ⟨[(0, aS 0), (1, ci x), (2, .c (.a (.fz (.sl false 1 (BR keep))))), (7, .c (.a (.ep 5 6 0 0))), (9, .c (.a (.fz .nils))), (24, .c (.a (.fz (.sl false 1 (BR keep))))), (25, ci (keep.length : Int)), (26, ci (i : Int))], hsP16 s e [], 6⟩
theorem l_prunea (s : Sto) (x : Int) (e : Inf) (keep : List Bool) (hk : keep.length ≤ 1000) (res : List Tm) (hh : AC Try.prog 53 [aS 0, ci x, ci e.lv, ci (keep.length : Int), aL res] (oS s) (aT (.mk 4 [] (s.V.length : Int) [])) (oS' (hangS s x e.lv keep.length res))) :
    ∀ (j i : Nat), i + j = keep.length → onK (keep.length : Int) (keep.drop i) (i : Int) = res → RPt Try.prog 30 3 (ci 0) (oS' (hangS s x e.lv keep.length res)) 1 (stPa s x e keep i)
  | 0, i, hi, hr => by
    have hlen := BR_length keep
    refine RPt.vc hP sh lv30 (Eq.mpr (v30_1a ..) ?_)
    rw [List.drop_eq_nil_of_le (by omega), onK] at hr
    subst hr
    refine br_of (fun h => absurd (of_decide_eq_true h) (by omega)) (fun _ => ⟨rfl, ((.mk 4 [] (s.V.length : Int) [] : Tm), hangS s x e.lv keep.length []), ?_, .refl _, rfl⟩)
    rw [hlen]
    exact hh.args ⟨.refl _, .refl _, .refl _, .refl _, .c _ _ (.a _ _ (.fz _ _ leNil)), trivial⟩
  | j + 1, i, hi, hr => by
    have hlen := BR_length keep
    have hi2 : i < keep.length := by omega
    have eg : List.getD (BR keep) (Int.toNat (i : Int)) [] = [.bool keep[i]] := by rw [Int.toNat_natCast]; simp [BR, List.getD, hi2]
    have ed : keep.drop i = keep[i] :: keep.drop (i + 1) := List.drop_eq_getElem_cons hi2
    rw [ed, onK] at hr
    refine RPt.vc hP sh lv30 (Eq.mpr (v30_1a ..) ?_)
    rw [eg, w64 (x := (i : Int) + 1) (by omega) (by omega), hlen, w64 (x := (keep.length : Int) - 1) (by omega) (by omega), w64 (x := (keep.length : Int) - 1 - (i : Int)) (by omega) (by omega)]
    refine br_of (fun _ => ⟨⟨rfl, by omega, by omega, rfl⟩, br_of (fun hb => ?_) (fun hb => ?_)⟩) (fun h => absurd (of_decide_eq_false h) (by omega))
    · have hb : keep[i] = true := hb
      rw [if_pos hb] at hr
      refine ⟨rfl, _, c_ibound _, Nat.le_refl _, by simp only [roomB]; omega, ?_⟩
      exact l_pruneb s x e keep hk res hh j (i + 1) [.mk 3 [] ((keep.length : Int) - 1 - (i : Int)) []] (by omega) (by simp) hr
    · have hb : keep[i] = false := hb
      rw [if_neg (by rw [hb]; simp)] at hr
      exact l_prunea s x e keep hk res hh j (i + 1) (by omega) hr

end Go.AM

set_option maxRecDepth 100000
open Go Go.Proofs
namespace Go.AM

def pruneS (s : Sto) (x : Int) (keep : List Bool) : Sto := if inB s.V x = true ∧ (infOf s.V x).bd = false then hangS s x (infOf s.V x).lv keep.length (onK (keep.length : Int) keep 0) else s
def pruneE (s : Sto) (x : Int) : Int := if inB s.V x = true ∧ (infOf s.V x).bd = false then 0 else 1
theorem c_iprune (s : Sto) (x : Int) (keep : List Bool) (hk : keep.length ≤ 1000) (hh : AC Try.prog 53 [aS 0, ci x, ci (infOf s.V x).lv, ci (keep.length : Int), aL (onK (keep.length : Int) keep 0)] (oS s) (aT (.mk 4 [] (s.V.length : Int) [])) (oS' (hangS s x (infOf s.V x).lv keep.length (onK (keep.length : Int) keep 0)))) :
    AC Try.prog 30 [aS 0, ci x, .c (.a (.fz (.sl false 1 (BR keep))))] (oS s) (ci (pruneE s x)) (oS' (pruneS s x keep)) := by
  have hi := c_sinfo s x
  have hlen := BR_length keep
  refine AC.vc hP sh lv30 (by simp) (by simp [isLive]) (by simp [isLive]) (Eq.mpr (v30 ..) ?_)
  refine ⟨((infOf s.V x).lv, (infOf s.V x).bd, (infOf s.V x).v, inB s.V x), hi, br_of (fun h => ?_) (fun h => br_of (fun h2 => ?_) (fun h2 => ⟨rfl, ?_⟩))⟩
  · have h : inB s.V x = false := by simpa using h
    rw [pruneE, pruneS, if_neg (by rw [h]; simp), if_neg (by rw [h]; simp)]; exact ⟨.refl _, rfl⟩
  · have h2 : (infOf s.V x).bd = true := h2
    rw [pruneE, pruneS, if_neg (by rw [h2]; simp), if_neg (by rw [h2]; simp)]; exact ⟨.refl _, rfl⟩
  · have h : inB s.V x = true := by simpa using h
    have h2 : (infOf s.V x).bd = false := h2
    rw [pruneE, pruneS, if_pos ⟨h, h2⟩, if_pos ⟨h, h2⟩, hlen]
    exact l_prunea s x (infOf s.V x) keep hk _ hh keep.length 0 (by omega) (by rw [List.drop_zero]; rfl)

end Go.AM

set_option maxRecDepth 100000
open Go Go.Proofs
namespace Go.AM

/-! ### What is undone -/
theorem c_slen (s : Sto) : AC Try.prog 29 [aS 0] (oS s) (ci (s.V.length : Int)) (oS s) := by
  refine AC.vc hP sh lv29 (Nat.le_refl _) (by simp [isLive]) (by simp) (Eq.mpr (v29 ..) ?_)
  exact ⟨.refl _, rfl⟩
theorem same_is {x y : Tm} (hx : x.sz ≤ B) (e : x = y) : AC Try.prog 33 [aT x, aT y] [] (cb true) [] := by
  have := c_rsame x hx y
  rw [(sameB_iff x y).2 e] at this; exact this
abbrev aInf (i : Inf) : TV := .agg [.a (.fz (.int .i64 i.lv)), .a (.fz (.bool i.bd)), .a (.fz (.int .i64 i.v.k)), .a (.fz (.str i.v.s)), .a (.fz (.int .i64 i.v.n)), .a (.fz (.sl false 4 (FTs i.v.l)))]
theorem foldMin2 (a b : Int) (h : a ≤ b) : foldMin [a, b] = a := by
  simp only [foldMin, List.foldl, min, minOfLe]; rw [if_pos h]
theorem drop_get {l : List Int} {j : Nat} {x : Int} {xs : List Int} (h : l.drop j = x :: xs) : j < l.length ∧ List.getD (IR l) j [] = [.int .i64 x] ∧ l.drop (j + 1) = xs := by
  have hj : j < l.length := by
    rcases Nat.lt_or_ge j l.length with q | q
    · exact q
    · rw [List.drop_eq_nil_of_le q] at h; cases h
  rw [List.drop_eq_getElem_cons hj] at h
  injection h with h1 h2
  exact ⟨hj, by simp [IR, List.getD, hj, h1], h2⟩
def clrI (i : Inf) : Inf := ⟨i.lv, false, noT⟩
def clrV (V : List Inf) (x : Int) : List Inf := V.modify x.toNat clrI
def clrR (h : List (List FV)) (x : Int) : List (List FV) := List.set h (0 + x.toNat) [.int .i64 (FV.asI (List.getD (List.getD h (0 + x.toNat) []) 0 FV.nils)), .bool false, .int .i64 0, .str [], .int .i64 0, .nils]
/-- How a variable's row looks. -/
def RowOf (i : Inf) (r : List FV) : Prop := r = Inf.c i ∨ (i.bd = false ∧ i.v = noT ∧ r = [.int .i64 i.lv, .bool false, .int .i64 0, .str [], .int .i64 0, .nils])
def RowsOf (V : List Inf) (h : List (List FV)) : Prop := h.length = V.length ∧ ∀ (i : Nat) (v : Inf) (r : List FV), V[i]? = some v → h[i]? = some r → RowOf v r
theorem RowOf.le {i : Inf} {r : List FV} (h : RowOf i r) : LeR r (Inf.c i) := by
  rcases h with rfl | ⟨h1, h2, rfl⟩
  · exact LeR.refl _
  · obtain ⟨lv, bd, v⟩ := i
    simp only at h1 h2
    subst h1; subst h2
    exact ⟨.refl _, .refl _, .refl _, .refl _, .refl _, leNil, trivial⟩
theorem RowOf.sz {i : Inf} {r : List FV} (h : RowOf i r) : r.length = 6 ∧ FV.asI (List.getD r 0 FV.nils) = i.lv ∧ List.take 1 r = [.int .i64 i.lv] := by
  rcases h with rfl | ⟨_, _, rfl⟩ <;> exact ⟨rfl, rfl, rfl⟩
theorem SR_of (V : List Inf) : RowsOf V (SR V) := ⟨SR_length V, fun i v r h1 h2 => by
  rw [SR, List.getElem?_map, h1] at h2
  injection h2 with h2; exact .inl h2.symm⟩
theorem RowsOf.get {V : List Inf} {h : List (List FV)} (hr : RowsOf V h) {i : Nat} (hi : i < V.length) : RowOf V[i] (List.getD h i []) := by
  have h2 : i < h.length := by rw [hr.1]; exact hi
  have := hr.2 i _ _ (List.getElem?_eq_getElem hi) (List.getElem?_eq_getElem h2)
  simpa [List.getD, h2] using this
theorem clrV_length (V : List Inf) (x : Int) : (clrV V x).length = V.length := by simp [clrV]
theorem clrV_get (V : List Inf) (x : Int) (i : Nat) : (clrV V x)[i]? = V[i]?.map fun v => if x.toNat = i then clrI v else v := by
  rw [clrV, List.getElem?_modify]
  cases V[i]? with
  | none => rfl
  | some v => rfl
theorem RowsOf.clr {V : List Inf} {h : List (List FV)} (hr : RowsOf V h) {x : Int} (h1 : x.toNat < V.length) : RowsOf (clrV V x) (clrR h x) := by
  refine ⟨by rw [clrV_length, clrR, List.length_set, hr.1], fun i v r hv hh => ?_⟩
  rw [clrV_get] at hv
  rw [clrR, Nat.zero_add, List.getElem?_set] at hh
  obtain ⟨v0, hv0, rfl⟩ := Option.map_eq_some_iff.1 hv
  by_cases e : x.toNat = i
  · subst e
    rw [if_pos rfl, if_pos (by rw [hr.1]; exact h1)] at hh
    injection hh with hh
    have hg := (hr.get h1).sz
    rw [hg.2.1] at hh
    rw [if_pos rfl]
    have : V[x.toNat] = v0 := by rw [List.getElem?_eq_getElem h1] at hv0; injection hv0
    exact .inr ⟨rfl, rfl, by rw [← hh, this]; rfl⟩
  · rw [if_neg e] at hh ⊢
    exact hr.2 i _ _ hv0 hh
theorem clrs_length : ∀ (xs : List Int) (V : List Inf), (xs.foldl clrV V).length = V.length
  | [], _ => rfl
  | x :: xs, V => by rw [List.foldl_cons, clrs_length xs, clrV_length]
theorem clrs_rows : ∀ (xs : List Int) (V : List Inf) (h : List (List FV)), RowsOf V h → (∀ x ∈ xs, 0 ≤ x ∧ x < (V.length : Int)) → RowsOf (xs.foldl clrV V) (xs.foldl clrR h)
  | [], _, _, hr, _ => hr
  | x :: xs, V, h, hr, hx => by
    have h1 := hx x List.mem_cons_self
    exact clrs_rows xs _ _ (hr.clr (by omega)) fun y hy => by rw [clrV_length]; exact hx y (List.mem_cons_of_mem _ hy)
theorem clrs_get : ∀ (xs : List Int) (V : List Inf) (i : Nat), (xs.foldl clrV V)[i]? = V[i]?.map fun v => if xs.any (fun x => x.toNat == i) = true then clrI v else v
  | [], V, i => by simp
  | x :: xs, V, i => by
    rw [List.foldl_cons, clrs_get xs, clrV_get, Option.map_map]
    congr 1
    funext v
    simp only [Function.comp, List.any_cons, Bool.or_eq_true, beq_iff_eq]
    by_cases e1 : x.toNat = i <;> by_cases e2 : xs.any (fun x => x.toNat == i) = true <;> simp [e1, e2, clrI]
theorem ole_cut {n : Nat} {fs gs : List (List FV)} (hl : gs.length ≤ fs.length) (h : ∀ (i : Nat) (e e' : List FV), fs[i]? = some e → gs[i]? = some e' → LeR e e') : OLe (.arz n fs) (.arz n gs) :=
  .rows n fs gs hl (fun i e e' he he' => (h i e e' he he').length) fun i j e e' f f' he he' hf hf' => (h i e e' he he').get j f f' hf hf'
abbrev stU (T : List Int) (L m n : Nat) (h : List (List FV)) (i : Nat) : St :=
  ⟨[(0, aS 0), (3, .c (.a (.ep 5 2 0 0))), (4, ci (m : Int)), (22, .c (.a (.osl 4 1 m (T.length - m)))), (23, ci ((T.length - m : Nat) : Int)), (24, ci (i : Int))],
    [(0, .arr 2 [[.a (.osl 3 6 0 L), .a (.osl 4 1 0 T.length)]]), (1, .gone), (2, .gone), (3, .arz 6 h), (4, .arz 1 (IR T)), (5, .arr 2 [[.a (.fz (.int .i64 (m : Int))), .a (.fz (.int .i64 (n : Int)))]])], 6⟩
def undoS (s : Sto) (m n : Nat) : Sto := ⟨((s.T.drop m).foldl clrV s.V).take n, s.T.take m⟩
def OKT (s : Sto) : Prop := ∀ x ∈ s.T, 0 ≤ x ∧ x < (s.V.length : Int)
end Go.AM

set_option maxRecDepth 100000
open Go Go.Proofs
namespace Go.AM

/-! ### In full -/
def kidsF (fu : Int → Tm → Tm × Int × Int) : Bool → List Tm → Int → List Tm × Int × Int
  | _, [], g => ([], 0, g)
  | true, t :: l, g => (t :: (kidsF fu false l g).1, (kidsF fu false l g).2)
  | false, t :: l, g => if (fu g t).2.1 ≠ 0 then ([], (fu g t).2) else ((fu g t).1 :: (kidsF fu false l (fu g t).2.2).1, (kidsF fu false l (fu g t).2.2).2)
def fullN (h : Tm) (r : List Tm × Int × Int) : Tm × Int × Int := if r.2.1 ≠ 0 then (noT, r.2) else (.mk h.k h.s h.n r.1, r.2)
def fullK (fu : Int → Tm → Tm × Int × Int) (q : Tm × Int × Int) : Tm × Int × Int := if q.2.1 ≠ 0 then (noT, q.2) else fullN q.1 (kidsF fu (q.1.k == 6) q.1.l q.2.2)
def headP (s : Sto) (f : Int) (t : Tm) : Tm × Int × Int := ((runH s f.toNat t).1, (runH s f.toNat t).2.1, f - ((runH s f.toNat t).2.2 : Int))
def fullF (s : Sto) : Nat → Int → Tm → Tm × Int × Int
  | 0, f, _ => (noT, 80, f)
  | D + 1, f, t => if f ≤ 0 then (noT, 80, f) else fullK (fullF s D) (headP s (f - 1) t)
theorem runH_le (s : Sto) : ∀ (F : Nat) (t : Tm), (runH s F t).2.2 ≤ F
  | 0, t => by
    have hr : runH s 0 t = if (stepS s t).2 = 0 then (t, 0, 0) else (noT, 80, 0) := rfl
    rw [hr]; split <;> exact Nat.le_refl _
  | F + 1, t => by
    have hr : runH s (F + 1) t = if (stepS s t).2 = 0 then (t, 0, 0) else if (stepS s t).2 = 2 then (noT, 80, 0) else ((runH s F (stepS s t).1).1, (runH s F (stepS s t).1).2.1, (runH s F (stepS s t).1).2.2 + 1) := rfl
    rw [hr]
    split
    · exact Nat.zero_le _
    · split
      · exact Nat.zero_le _
      · have := runH_le s F (stepS s t).1; simp only; omega
theorem kidsF_left {fu : Int → Tm → Tm × Int × Int} (h : ∀ g t, 0 ≤ g → 0 ≤ (fu g t).2.2 ∧ (fu g t).2.2 ≤ g) : ∀ (l : List Tm) (sk : Bool) (g : Int), 0 ≤ g → 0 ≤ (kidsF fu sk l g).2.2 ∧ (kidsF fu sk l g).2.2 ≤ g
  | [], _, g, hg => ⟨hg, Int.le_refl _⟩
  | t :: l, true, g, hg => kidsF_left h l false g hg
  | t :: l, false, g, hg => by
    have h1 := h g t hg
    rw [kidsF]
    split
    · exact h1
    · have := kidsF_left h l false _ h1.1
      exact ⟨this.1, by simp only; omega⟩
theorem fullF_left (s : Sto) : ∀ (D : Nat) (f : Int) (t : Tm), 0 ≤ f → 0 ≤ (fullF s D f t).2.2 ∧ (fullF s D f t).2.2 ≤ f
  | 0, f, t, h => ⟨h, Int.le_refl _⟩
  | D + 1, f, t, h => by
    rw [fullF]
    split
    · exact ⟨h, Int.le_refl _⟩
    · have h1 := runH_le s (f - 1).toNat t
      have h2 : 0 ≤ (headP s (f - 1) t).2.2 ∧ (headP s (f - 1) t).2.2 ≤ f - 1 := by simp only [headP]; omega
      unfold fullK
      split
      · exact ⟨h2.1, by simp only; omega⟩
      · have h3 := kidsF_left (fullF_left s D) (headP s (f - 1) t).1.l ((headP s (f - 1) t).1.k == 6) _ h2.1
        unfold fullN
        split <;> exact ⟨h3.1, by simp only; omega⟩
abbrev aFT (z : Tm × Int × Int) : TV := aTE z.1 z.2.1
abbrev aEP3 : TV := .c (.a (.ep 3 1 0 0))
abbrev stF (s : Sto) (k : Int) (str : List UInt8) (n : Int) (l0 : List Tm) (g : Int) (l : List Tm) (i : Int) : St :=
  ⟨[(0, aS 0), (2, aEP3), (4, .c (.a (.ep 4 4 0 0))), (6, .c (.a (.ep 5 4 0 0))), (9, .c (.a (.osl 6 4 0 l0.length))), (36, ci l0.length), (37, ci i)],
    [(0, sto2 1 2 s), (1, .arz 6 (SR s.V)), (2, .arz 1 (IR s.T)), (3, obj1 g), (4, .arr 4 [cT (.mk k str n l0)]), (5, .arr 4 [zT]), (6, .arz 4 (FTs l))], 7⟩
theorem l_sfull (s : Sto) (k : Int) (str : List UInt8) (n : Int) (l0 : List Tm) (hl0 : l0.length ≤ SZ) (fu : Int → Tm → Tm × Int × Int) (hfu : ∀ g t, 0 ≤ g → 0 ≤ (fu g t).2.2 ∧ (fu g t).2.2 ≤ g) :
    ∀ (b a : List Tm) (sk : Bool) (g : Int), sk = ((k == 6) && (a.length == 0)) → a.length + b.length = l0.length → 0 ≤ g →
    (∀ u ∈ b, ∀ g' : Int, 0 ≤ g' → g' ≤ g → AC Try.prog 55 [aS 0, aT u, aEP3] (oSf s g') (aFT (fu g' u)) (oSf s (fu g' u).2.2)) →
    RPt Try.prog 55 4 (aFT (fullN (.mk k str n l0) (a ++ (kidsF fu sk b g).1, (kidsF fu sk b g).2))) (oSf s (kidsF fu sk b g).2.2) 1 (stF s k str n l0 g (a ++ b) a.length)
  | [], a, sk, g, hsk, hlen, hg, _ => by
    refine RPt.vc hP sh lv55 (Eq.mpr (v55_1b l0.length l0.length a.length s.V.length s.T.length (SR s.V) (IR s.T) g k str n (FTs l0) 0 [] 0 (FTs (a ++ [])) _ _) ?_)
    simp only [List.length_nil, Nat.add_zero] at hlen
    refine br_of (fun h => absurd (of_decide_eq_true h) (by omega)) (fun _ => ⟨⟨⟨rfl, by rw [FTs_length]; simp; omega⟩, trivial⟩, ?_, rfl⟩)
    rw [List.drop_zero, List.take_of_length_le (by rw [FTs_length]; simp; omega)]
    exact leTE leSl
  | t :: b, a, sk, g, hsk, hlen, hg, ih => by
    simp only [List.length_cons, SZ] at hlen hl0
    have em := rE_mid a t b
    have h3 := ltI' a t b
    have el : (0 + Int.toNat (a.length : Int)) < (FTs (a ++ t :: b)).length ∧ ((rE (List.getD (FTs (a ++ t :: b)) (0 + Int.toNat (a.length : Int)) []) : List FV) = List.take 4 (List.drop 0 (List.getD (FTs (a ++ t :: b)) (0 + Int.toNat (a.length : Int)) [])) ∧ (4 : Nat) = 4) := by
      rw [Nat.zero_add, em]
      refine ⟨by omega, ?_, rfl⟩
      rw [midI, List.drop_zero, List.take_of_length_le (by rw [FT_length]; exact Nat.le_refl _)]
    have el2 : (0 + Int.toNat (a.length : Int)) < (FTs (a ++ t :: b)).length ∧ (List.getD (FTs (a ++ t :: b)) (0 + Int.toNat (a.length : Int)) []).length = 4 := ⟨el.1, by rw [Nat.zero_add, midI]; exact FT_length t⟩
    have ea : aE (List.getD (FTs (a ++ t :: b)) (0 + Int.toNat (a.length : Int)) []) = aT t := by rw [Nat.zero_add, aE_mid]
    refine RPt.vc hP sh lv55 (Eq.mpr (v55_1b l0.length l0.length a.length s.V.length s.T.length (SR s.V) (IR s.T) g k str n (FTs l0) 0 [] 0 (FTs (a ++ t :: b)) _ _) ?_)
    rw [ea, w64 (x := (a.length : Int) + 1) (by omega) (by omega)]
    refine br_of (fun _ => ?_) (fun h => absurd (of_decide_eq_false h) (by omega))
    cases sk with
    | true =>
      have hsk : (k == 6) = true ∧ (a.length == 0) = true := by rw [← Bool.and_eq_true]; exact hsk.symm
      have ha : a = [] := List.eq_nil_of_length_eq_zero (by simpa using hsk.2)
      subst ha
      have h2 := l_sfull s k str n l0 (by simp only [SZ]; omega) fu hfu b [t] false g (by simp) (by simp at hlen ⊢; omega) hg (fun u hu => ih u (List.mem_cons_of_mem _ hu))
      exact br_of (fun _ => br_of (fun _ => h2) (fun h => by cases h)) (fun h => absurd hsk.1 (by rw [h]; simp))
    | false =>
      have hc := ih t List.mem_cons_self g hg (Int.le_refl _)
      have hq := hfu g t hg
      have go : ((0 : Int) ≤ (a.length : Int) ∧ (a.length : Int) < ((l0.length : Nat) : Int)) := by omega
      have eK : kidsF fu false (t :: b) g = if (fu g t).2.1 ≠ 0 then ([], (fu g t).2) else ((fu g t).1 :: (kidsF fu false b (fu g t).2.2).1, (kidsF fu false b (fu g t).2.2).2) := rfl
      have next := l_sfull s k str n l0 (by simp only [SZ]; omega) fu hfu b (a ++ [(fu g t).1]) false (fu g t).2.2 (by simp) (by simp; omega) hq.1 (fun u hu g' h0 h1 => ih u (List.mem_cons_of_mem _ hu) g' h0 (by omega))
      generalize fu g t = z at *
      obtain ⟨z1, z2, z3⟩ := z
      simp only at hc hq eK next
      have step : br (z2 != 0) (TV.Le (.tup [(true, [.a (.fz (.int .i64 0)), .a (.fz (.str [])), .a (.fz (.int .i64 0)), .a (.fz .nils)]), (false, [.a (.fz (.int .i64 z2))])]) (aFT (fullN (.mk k str n l0) (a ++ (kidsF fu false (t :: b) g).1, (kidsF fu false (t :: b) g).2))) ∧ oSf s z3 = oSf s (kidsF fu false (t :: b) g).2.2)
          (RPt Try.prog 55 4 (aFT (fullN (.mk k str n l0) (a ++ (kidsF fu false (t :: b) g).1, (kidsF fu false (t :: b) g).2))) (oSf s (kidsF fu false (t :: b) g).2.2) 1 (stF s k str n l0 z3 (a ++ z1 :: b) ((a.length : Int) + 1))) := by
        refine br_of (fun h => ?_) (fun h => ?_)
        · have h : z2 ≠ 0 := by simpa using h
          rw [if_pos h] at eK
          rw [eK, fullN, if_pos h]
          exact ⟨leTE (l := []) leNil, rfl⟩
        · have h : ¬ z2 ≠ 0 := by simpa using h
          rw [if_neg h] at eK
          rw [eK]
          rw [List.append_assoc, ap a z1 b, nx] at next
          exact next
      have tail := step
      rw [show stF s k str n l0 z3 (a ++ z1 :: b) ((a.length : Int) + 1) = ⟨[(0, aS 0), (2, aEP3), (4, .c (.a (.ep 4 4 0 0))), (6, .c (.a (.ep 5 4 0 0))), (9, .c (.a (.osl 6 4 0 l0.length))), (36, ci l0.length), (37, ci ((a.length : Int) + 1))],
    [(0, sto2 1 2 s), (1, .arz 6 (SR s.V)), (2, .arz 1 (IR s.T)), (3, obj1 z3), (4, .arr 4 [cT (.mk k str n l0)]), (5, .arr 4 [zT]), (6, .arz 4 (List.set (FTs (a ++ t :: b)) (0 + Int.toNat (a.length : Int)) (FT4 z1)))], 7⟩ by rw [set_mid]] at tail
      have hsk : ((k == 6) && (a.length == 0)) = false := hsk.symm
      refine br_of (fun h6 => br_of (fun h0 => ?_) (fun _ => ⟨go, el, (z1, z2, z3), hc, go, el2, tail⟩)) (fun _ => ⟨go, el, (z1, z2, z3), hc, go, el2, tail⟩)
      exfalso
      have h6 : (k == 6) = true := h6
      have h0 : ((a.length : Int) == 0) = true := h0
      rw [h6, Bool.true_and] at hsk
      simp at hsk h0
      exact hsk h0
theorem c_sfull (s : Sto) (hs : OKS s) : ∀ (D : Nat) (f : Int) (t : Tm), f.toNat ≤ D → 0 - 9223372036854775808 ≤ f → validB t = true → Fit f.toNat t → AC Try.prog 55 [aS 0, aT t, aEP3] (oSf s f) (aFT (fullF s D f t)) (oSf s (fullF s D f t).2.2) := by
  intro D
  induction D with
  | zero =>
    intro f t hD h0 hv hf
    obtain ⟨k, str, n, l⟩ := t
    refine AC.vc hP sh lv55 (Nat.le_refl _) (by simp [isLive]) (by simp) (Eq.mpr (v55 k str n (FTs l) ..) ?_)
    exact br_of (fun _ => ⟨leTE (l := []) leNil, rfl⟩) (fun h => absurd (of_decide_eq_false h) (by omega))
  | succ D ihD =>
    intro f t hD h0 hv hf
    by_cases hf0 : f ≤ 0
    · have e : fullF s (D + 1) f t = (noT, 80, f) := by rw [fullF, if_pos hf0]
      rw [e]
      obtain ⟨k, str, n, l⟩ := t
      refine AC.vc hP sh lv55 (Nat.le_refl _) (by simp [isLive]) (by simp) (Eq.mpr (v55 k str n (FTs l) ..) ?_)
      exact br_of (fun _ => ⟨leTE (l := []) leNil, rfl⟩) (fun h => absurd (of_decide_eq_false h) (by omega))
    · have hfit := hf.mono (show (f - 1).toNat ≤ f.toNat by omega)
      have hf5 := hf.2.2.2
      have hh := c_shead s hs (f - 1).toNat (f - 1) t rfl (by omega) hv hfit
      have hq := runH_fit hs hv hfit
      have e : fullF s (D + 1) f t = fullK (fullF s D) (headP s (f - 1) t) := by rw [fullF, if_neg hf0]
      rw [e]
      have eh : headP s (f - 1) t = ((runH s (f - 1).toNat t).1, (runH s (f - 1).toNat t).2.1, f - 1 - ((runH s (f - 1).toNat t).2.2 : Int)) := rfl
      rw [eh]
      generalize runH s (f - 1).toNat t = q at *
      obtain ⟨h, er, u⟩ := q
      simp only at hh hq ⊢
      obtain ⟨hu, hq⟩ := hq
      have start : ∀ (r : TV) (o : Int), br (er != 0) (TV.Le (.tup [(true, [.a (.fz (.int .i64 0)), .a (.fz (.str [])), .a (.fz (.int .i64 0)), .a (.fz .nils)]), (false, [.a (.fz (.int .i64 er))])]) r ∧ oSf s (f - 1 - (u : Int)) = oSf s o)
          ((∃ b : Bool, AC Try.prog 81 [.c (.a (.fz (.sl false 4 (FTs h.l))))] [] (.c (.a (.fz (.sl b 4 [])))) [] ∧ FV.isSl 4 (.sl b 4 []) = true ∧ RPt Try.prog 55 4 r (oSf s o) 1 ⟨[(0, aS 0), (2, aEP3), (4, .c (.a (.ep 4 4 0 0))), (6, .c (.a (.ep 5 4 0 0))), (9, .c (.a (.fz (.sl b 4 [])))), (36, ci 0), (37, ci 0)],
              [(0, sto2 1 2 s), (1, .arz 6 (SR s.V)), (2, .arz 1 (IR s.T)), (3, obj1 (f - 1 - (u : Int))), (4, .arr 4 [cT h]), (5, .arr 4 [zT])], 6⟩) ∨
           (∃ z : List (List FV), AC Try.prog 81 [.c (.a (.fz (.sl false 4 (FTs h.l))))] [] (.c (.a (.osl 0 4 0 z.length))) [.arz 4 z] ∧ RPt Try.prog 55 4 r (oSf s o) 1 ⟨[(0, aS 0), (2, aEP3), (4, .c (.a (.ep 4 4 0 0))), (6, .c (.a (.ep 5 4 0 0))), (9, .c (.a (.osl 6 4 0 z.length))), (36, ci z.length), (37, ci 0)],
              [(0, sto2 1 2 s), (1, .arz 6 (SR s.V)), (2, .arz 1 (IR s.T)), (3, obj1 (f - 1 - (u : Int))), (4, .arr 4 [cT h]), (5, .arr 4 [zT]), (6, .arz 4 z)], 7⟩)) →
          AC Try.prog 55 [aS 0, aT t, aEP3] (oSf s f) r (oSf s o) := fun r o hb => by
        obtain ⟨tk, ts, tn, tl⟩ := t
        refine AC.vc hP sh lv55 (Nat.le_refl _) (by simp [isLive]) (by simp) (Eq.mpr (v55 tk ts tn (FTs tl) ..) ?_)
        rw [w64 (x := f - 1) (by omega) (by omega)]
        exact br_of (fun h => absurd (of_decide_eq_true h) (by omega)) (fun _ => ⟨(h, er, f - 1 - (u : Int)), hh, hb⟩)
      refine start _ _ (br_of (fun he => ?_) (fun he => ?_))
      · have he : er ≠ 0 := by simpa using he
        rw [fullK, if_pos he]
        exact ⟨leTE (l := []) leNil, rfl⟩
      · have he : er = 0 := by simpa using he
        subst he
        rcases hq with ⟨_, hvh, hfh, _⟩ | ⟨h80, _⟩
        · have hls : h.l.length ≤ SZ := by have := hfh.sz; have := h.sz_eq; have := Tm.szs_length h.l; omega
          rw [fullK, if_neg (by simp)]
          have hg0 : 0 ≤ f - 1 - (u : Int) := by omega
          have kid : ∀ x ∈ h.l, ∀ g' : Int, 0 ≤ g' → g' ≤ f - 1 - (u : Int) → AC Try.prog 55 [aS 0, aT x, aEP3] (oSf s g') (aFT (fullF s D g' x)) (oSf s (fullF s D g' x).2.2) := fun x hx g' h0 h1 => by
            have hvx : validB x = true := by
              obtain ⟨hk, hst, hn, hl⟩ := h
              by_cases h5 : hk = 5 ∨ hk = 6
              · exact kid_valid hvh h5 x hx
              · rw [not_or] at h5
                have := okB0 (valid_ok _ hvh) h5.1 h5.2
                have hx : x ∈ hl := hx
                rw [this] at hx; cases hx
            exact ihD g' x (by omega) (by omega) hvx ((hfh.kid hx).mono (by omega))
          have loop := l_sfull s h.k h.s h.n h.l hls (fullF s D) (fullF_left s D) h.l [] (h.k == 6) (f - 1 - (u : Int)) (by simp) (by simp) hg0 kid
          obtain ⟨hk, hst, hn, hl⟩ := h
          simp only [Tm.l, Tm.k, Tm.s, Tm.n, List.nil_append] at loop hls ⊢
          have e9 : fullN (.mk hk hst hn hl) ((kidsF (fullF s D) (hk == 6) hl (f - 1 - (u : Int))).1, (kidsF (fullF s D) (hk == 6) hl (f - 1 - (u : Int))).2) = fullN (.mk hk hst hn hl) (kidsF (fullF s D) (hk == 6) hl (f - 1 - (u : Int))) := rfl
          have e8 : (fullN (.mk hk hst hn hl) (kidsF (fullF s D) (hk == 6) hl (f - 1 - (u : Int)))).2.2 = (kidsF (fullF s D) (hk == 6) hl (f - 1 - (u : Int))).2.2 := by unfold fullN; split <;> rfl
          rw [e8]
          by_cases hnil : hl = []
          · subst hnil
            refine .inl ⟨false, c_clone.2, rfl, ?_⟩
            refine RPt.vc hP sh lv55 (Eq.mpr (v55_1a false [] 0 0 s.V.length s.T.length (SR s.V) (IR s.T) (f - 1 - (u : Int)) hk hst hn (FTs []) 0 [] 0 _ _) ?_)
            exact br_of (fun h => by cases h) (fun _ => ⟨.refl _, rfl⟩)
          · refine .inr ⟨FTs hl, c_clone.1 (FTs hl) (by rw [FTs_map]; simp [hnil]) (by rw [FTs_length]; simp only [SZ, B] at *; omega), ?_⟩
            rw [FTs_length]
            exact loop
        · cases h80

end Go.AM

set_option maxRecDepth 100000
open Go Go.Proofs
namespace Go.AM

/-! ### Without abstractions that do nothing -/
def lastT (l : List Tm) : Tm := l.getLastD default
def restF (b : Tm) : Tm := applyF (hd b.l) b.l.tail.dropLast
def dropB (b : Tm) : Bool := b.k == 6 && (lastT b.l).k == 3 && (lastT b.l).n == 0 && occF (restF b) 0 == 0
def dropF (b : Tm) : Tm := if dropB b = true then shT 0 (-1) (restF b) 0 else noT
mutual
def shortF : Tm → Tm
  | .mk k s n l => if (k == 5) = true then (if dropB (hd (shortL l)) = true then dropF (hd (shortL l)) else .mk 5 [] 0 [hd (shortL l)]) else if (k == 6) = true then applyF (hd (shortL l)) (shortL l).tail else .mk k s n l
def shortL : List Tm → List Tm
  | [] => []
  | t :: l => shortF t :: shortL l
end
theorem shortL_length : ∀ l : List Tm, (shortL l).length = l.length
  | [] => rfl
  | _ :: l => by simp only [shortL, List.length_cons, shortL_length l]
/-- An application's parts. -/
theorem app_parts {k n : Int} {s : List UInt8} {l : List Tm} (h : okB (.mk k s n l) = true) (hk : k = 6) : ∃ x a z, l = x :: a ++ [z] ∧ x.k ≠ 6 ∧ okB x = true ∧ okL a = true ∧ okB z = true := by
  obtain ⟨x, y, r, rfl, h6, hl⟩ := okB6 h hk
  refine ⟨x, (y :: r).dropLast, (y :: r).getLast (by simp), by rw [List.cons_append, List.dropLast_concat_getLast], h6, okL_mem hl List.mem_cons_self, okL_of fun u hu => okL_mem hl (List.mem_cons_of_mem _ (List.dropLast_subset _ hu)), okL_mem hl (List.mem_cons_of_mem _ (List.getLast_mem _))⟩
theorem last_app (x : Tm) (a : List Tm) (z : Tm) : lastT (x :: a ++ [z]) = z := by
  rw [lastT, List.getLastD_eq_getLast?, List.getLast?_append]; rfl
theorem rest_app (k n : Int) (s : List UInt8) (x : Tm) (a : List Tm) (z : Tm) : restF (.mk k s n (x :: a ++ [z])) = applyF x a := by
  rw [restF]; show applyF x ((a ++ [z]).dropLast) = _
  rw [List.dropLast_concat]
theorem drop6 {b : Tm} (h : dropB b = true) : b.k = 6 := by
  simp only [dropB, Bool.and_eq_true, beq_iff_eq] at h; exact h.1.1.1
theorem drop0 {b : Tm} (h : dropB b = true) : occF (restF b) 0 = 0 := by
  simp only [dropB, Bool.and_eq_true, beq_iff_eq] at h; exact h.2
theorem restF_ok {b : Tm} (h : okB b = true) (hk : b.k = 6) : okB (restF b) = true ∧ (lvB b = true → lvB (restF b) = true) ∧ (restF b).sz ≤ b.sz ∧ ∀ M, bd M b → bd M (restF b) := by
  obtain ⟨k, s, n, l⟩ := b
  have hk' : k = 6 := hk
  obtain ⟨x, a, z, rfl, h6, hx, ha, hz⟩ := app_parts h hk'
  rw [rest_app]
  refine ⟨applyF_ok hx ha, fun hl => ?_, ?_, fun M hb => ?_⟩
  · rw [lvB_in (.inr hk')] at hl
    exact applyF_lv (lvL_mem hl List.mem_cons_self) (lvL_of fun u hu => lvL_mem hl (List.mem_cons_of_mem _ (List.mem_append_left _ hu)))
  · have := applyF_sz x a
    simp only [Tm.sz, List.cons_append, Tm.szs, Tm.szs_append]; omega
  · exact applyF_bd (bds_mem hb.2 List.mem_cons_self) (bds_of fun u hu => bds_mem hb.2 (List.mem_cons_of_mem _ (List.mem_append_left _ hu)))
theorem occL_mem : ∀ {l : List Tm} {i : Int}, occL l i = 0 → ∀ u ∈ l, occF u i = 0
  | x :: l, i, h, u, hu => by
    simp only [occL] at h
    rcases List.mem_cons.1 hu with rfl | hu
    · omega
    · exact occL_mem (l := l) (by omega) u hu
theorem occ_kids {k n : Int} {s : List UInt8} {l : List Tm} {d : Int} (h : occF (.mk k s n l) d = 0) : ∀ u ∈ l, occF u (d + if (k == 5) = true then 1 else 0) = 0 := by
  rw [occF] at h
  split at h
  · cases h
  · exact occL_mem h
theorem shDown_lv {t : Tm} (h : lvB t = true) (d : Int) (h0 : occF t d = 0) (hd : 0 ≤ d) : lvB (shT 0 (-1) t d) = true := by
  refine walkF_lv _ (fun u d => occF u d = 0 ∧ 0 ≤ d) (fun k s n l d hQ u hu => ⟨occ_kids hQ.1 u hu, by have := hQ.2; split <;> omega⟩) (fun u d hu hQ h5 h6 => ?_) t d h ⟨h0, hd⟩
  unfold shLeaf
  split
  · rename_i hc
    obtain ⟨k, s, n, l⟩ := u
    have hk : k = 3 := by have hc := hc.1; have hc : (k == 3) = true := hc; simpa using hc
    subst hk
    rw [lvB_out (by decide) (by decide), valid3] at hu
    have h1 : n ≠ d := fun e => by
      have := hQ.1
      rw [occF, if_pos ⟨rfl, by simp [e]⟩] at this; cases this
    have h2 : d + 0 ≤ n := hc.2
    have := hQ.2
    show lvB (.mk 3 s (n + -1) l) = true
    rw [lvB_out (by decide) (by decide), valid3]
    exact ⟨by omega, by omega, hu.2.2.1, hu.2.2.2⟩
  · exact hu
theorem shDown_bd {M : Int} (hM : 1 ≤ M) {t : Tm} (h : bd M t) (d : Int) (hd : 0 ≤ d) : bd M (shT 0 (-1) t d) := by
  refine walkF_bd _ M M (d + t.sz) (fun u d' hu h0 _ => ?_) t d h hd (Int.le_refl _)
  unfold shLeaf
  split
  · rename_i hc
    obtain ⟨k, s, n, l⟩ := u
    exact ⟨fun e => by have := hu.1 e; have h2 : d' + 0 ≤ n := hc.2; simp only [Tm.n]; omega, hu.2⟩
  · exact hu
theorem dropF_ok {b : Tm} (h : okB b = true) (hd : dropB b = true) : okB (dropF b) = true ∧ (lvB b = true → lvB (dropF b) = true) ∧ (dropF b).sz ≤ b.sz ∧ ∀ M, 1 ≤ M → bd M b → bd M (dropF b) := by
  obtain ⟨h1, h2, h3, h4⟩ := restF_ok h (drop6 hd)
  rw [dropF, if_pos hd]
  exact ⟨shT_ok 0 h1, fun hl => shDown_lv (h2 hl) 0 (drop0 hd) (Int.le_refl _), Nat.le_trans (shT_sz ..) h3, fun M hM hb => shDown_bd hM (h4 M hb) 0 (Int.le_refl _)⟩
mutual
theorem shortF_ok : ∀ t : Tm, okB t = true → okB (shortF t) = true ∧ (lvB t = true → lvB (shortF t) = true) ∧ (shortF t).sz ≤ t.sz ∧ ∀ M, 1 ≤ M → bd M t → bd M (shortF t)
  | .mk k s n l, h => by
    have hl := shortL_ok l (okB_l h)
    rw [shortF]
    split
    · rename_i h5
      have h5 : k = 5 := by simpa using h5
      obtain ⟨x, rfl, hx⟩ := okB5 h h5
      obtain ⟨g1, g2, g3, g4⟩ := hl
      simp only [shortL, okL, lvL, Bool.and_true, Tm.szs] at g1 g2 g3 g4
      show okB (if dropB (shortF x) = true then dropF (shortF x) else .mk 5 [] 0 [shortF x]) = true ∧ _
      rw [show hd (shortL [x]) = shortF x from rfl]
      split
      · rename_i hd
        obtain ⟨f1, f2, f3, f4⟩ := dropF_ok g1 hd
        refine ⟨f1, fun hl => f2 (g2 ?_), by simp only [Tm.sz, Tm.szs]; omega, fun M hM hb => f4 M hM (g4 M hM hb.2).1⟩
        rw [lvB_in (.inl h5)] at hl
        simpa [lvL] using hl
      · refine ⟨by simp [okB, okL, g1], fun hl => ?_, by simp only [Tm.sz, Tm.szs]; omega, fun M hM hb => ⟨fun e => by omega, g4 M hM hb.2⟩⟩
        rw [lvB_in (.inl h5)] at hl
        rw [lvB_in (.inl rfl)]
        simp only [lvL, Bool.and_true] at hl ⊢
        exact g2 hl
    · split
      · rename_i h6
        have h6 : k = 6 := by simpa using h6
        obtain ⟨x, y, r, rfl, _, _⟩ := okB6 h h6
        obtain ⟨g1, g2, g3, g4⟩ := hl
        rw [show hd (shortL (x :: y :: r)) = shortF x from rfl, show (shortL (x :: y :: r)).tail = shortL (y :: r) from rfl]
        rw [show shortL (x :: y :: r) = shortF x :: shortL (y :: r) from rfl] at g1 g2 g3 g4
        simp only [okL, Bool.and_eq_true] at g1
        refine ⟨applyF_ok g1.1 g1.2, fun hl => ?_, ?_, fun M hM hb => ?_⟩
        · rw [lvB_in (.inr h6)] at hl
          have := g2 hl
          simp only [lvL, Bool.and_eq_true] at this
          exact applyF_lv this.1 this.2
        · have := applyF_sz (shortF x) (shortL (y :: r))
          simp only [Tm.szs] at g3
          simp only [Tm.sz, Tm.szs]; omega
        · have := g4 M hM hb.2
          exact applyF_bd this.1 this.2
      · exact ⟨h, fun hl => hl, Nat.le_refl _, fun M _ hb => hb⟩
theorem shortL_ok : ∀ l : List Tm, okL l = true → okL (shortL l) = true ∧ (lvL l = true → lvL (shortL l) = true) ∧ Tm.szs (shortL l) ≤ Tm.szs l ∧ ∀ M, 1 ≤ M → bds M l → bds M (shortL l)
  | [], _ => ⟨rfl, fun _ => rfl, Nat.le_refl _, fun _ _ _ => trivial⟩
  | t :: l, h => by
    simp only [okL, Bool.and_eq_true] at h
    obtain ⟨a1, a2, a3, a4⟩ := shortF_ok t h.1
    obtain ⟨b1, b2, b3, b4⟩ := shortL_ok l h.2
    refine ⟨by simp only [shortL, okL, a1, b1, Bool.and_self], fun hl => ?_, by simp only [shortL, Tm.szs]; omega, fun M hM hb => ⟨a4 M hM hb.1, b4 M hM hb.2⟩⟩
    simp only [lvL, Bool.and_eq_true] at hl
    simp only [shortL, lvL, a2 hl.1, b2 hl.2, Bool.and_self]
end
/-! ### Contracts -/
theorem c_efree (t : Tm) (i : Int) (hs : t.sz ≤ B) (h0 : 0 - 2305843009213693952 ≤ i) (h1 : i + t.sz ≤ 2305843009213693952) : AC Try.prog 110 [aT t, ci i] [] (cb (validB t && decide (occF t i > 0))) [] := by
  have h := c_boccurs t hs i h0 h1
  obtain ⟨k, s, n, l⟩ := t
  refine AC.vc hP sh lv110 (Nat.le_refl _) (by simp) (by simp) (Eq.mpr (v110 k s n (FTs l) i _ _) ?_)
  refine ⟨_, h, ret_b ?_⟩
  cases validB (.mk k s n l) with
  | false => rfl
  | true => simp
/-- The last one. -/
theorem lastI (x : Tm) (a : List Tm) (z : Tm) (hl : a.length ≤ SZ) : IntKind.wrap .i64 ((((FTs (x :: a ++ [z])).length : Nat) : Int) - 1) = ((x :: a).length : Int) := by
  rw [FTs_length]; simp only [SZ] at hl
  rw [w64 (by simp; omega) (by simp; omega)]; simp
theorem c_edrop (b : Tm) (ho : okB b = true) (hl : lvB b = true) (hs : b.sz ≤ SZ) (hb : bd M61 b) : AC Try.prog 101 [aT b] [] (.tup [(true, cT (dropF b)), (false, [.a (.fz (.bool (dropB b)))])]) [] := by
  have no : dropB b = false → dropF b = noT := fun h => if_neg (by rw [h]; simp)
  obtain ⟨k, s, n, l⟩ := b
  have hlen := Tm.szs_length l
  simp only [Tm.sz, SZ] at hs
  refine AC.vc hP sh lv101 (Nat.le_refl _) (by simp) (by simp) (Eq.mpr (v101 k s n (FTs l) _ _) ?_)
  refine ⟨rfl, br_of (fun h => ?_) (fun h => ?_)⟩
  · have hd : dropB (.mk k s n l) = false := by
      have h : (k != 6) = true := h
      rw [dropB, show (Tm.k (.mk k s n l) == 6) = false by show (k == 6) = false; simpa using h]; rfl
    rw [no hd, hd]
    exact ⟨leTB (l := []) leNil, rfl⟩
  · have h6 : k = 6 := by simpa using h
    subst h6
    obtain ⟨x, a, z, rfl, hx6, hx, ha, hz⟩ := app_parts ho rfl
    obtain ⟨r1, r2, r3, r4⟩ := restF_ok ho rfl
    have hd : dropB (.mk 6 s n (x :: a ++ [z])) = (z.k == 3 && z.n == 0 && occF (applyF x a) 0 == 0) := by
      rw [dropB, rest_app, show Tm.l (.mk 6 s n (x :: a ++ [z])) = x :: a ++ [z] from rfl, last_app]; rfl
    have hdF : dropB (.mk 6 s n (x :: a ++ [z])) = true → dropF (.mk 6 s n (x :: a ++ [z])) = shT 0 (-1) (applyF x a) 0 := fun h => by rw [dropF, if_pos h, rest_app]
    rw [rest_app] at r1 r2 r3 r4
    have hal : a.length ≤ 67108864 := by rw [List.length_append, List.length_cons] at hlen; omega
    rw [lastI x a z hal]
    have el : FV.isSl 4 (.sl false 4 (FTs (x :: a ++ [z]))) = true ∧ ((0 : Int) ≤ ((x :: a).length : Int) ∧ (((x :: a).length : Int) < (((FTs (x :: a ++ [z])).length : Nat) : Int) ∧ (rE (List.getD (FTs (x :: a ++ [z])) (Int.toNat ((x :: a).length : Int)) []) : List FV) = List.getD (FTs (x :: a ++ [z])) (Int.toNat ((x :: a).length : Int)) [])) := ⟨rfl, by omega, ltI' (x :: a) z [], rE_mid (x :: a) z []⟩
    have ez : List.getD (FTs (x :: a ++ [z])) (Int.toNat ((x :: a).length : Int)) [] = FT z := midI (x :: a) z []
    have ek : FV.asI (List.getD (List.getD (FTs (x :: a ++ [z])) (Int.toNat ((x :: a).length : Int)) []) 0 FV.nils) = z.k := by rw [ez]; cases z; rfl
    have en : FV.asI (List.getD (List.getD (FTs (x :: a ++ [z])) (Int.toNat ((x :: a).length : Int)) []) 2 FV.nils) = z.n := by rw [ez]; cases z; rfl
    rw [ek, en]
    refine ⟨el, br_of (fun h1 => ?_) (fun h1 => ⟨el, br_of (fun h2 => ?_) (fun h2 => ⟨el0 x (a ++ [z]), rfl, ⟨by omega, by simp only [List.length_cons]; omega, by rw [lenI, List.length_append]; omega⟩, ?_⟩)⟩)⟩
    · have hd' : dropB (.mk 6 s n (x :: a ++ [z])) = false := by
        have h1 : (z.k != 3) = true := h1
        rw [hd, show (z.k == 3) = false by simpa using h1]; rfl
      rw [no hd', hd']
      exact ⟨leTB (l := []) leNil, rfl⟩
    · have hd' : dropB (.mk 6 s n (x :: a ++ [z])) = false := by
        have h2 : (z.n != 0) = true := h2
        rw [hd, show (z.n == 0) = false by simpa using h2]; simp
      rw [no hd', hd']
      exact ⟨leTB (l := []) leNil, rfl⟩
    · have e1 : aE (List.getD (FTs (x :: a ++ [z])) 0 []) = aT x := aE_FT x
      have e2 : List.drop 1 (List.take (Int.toNat ((x :: a).length : Int)) (FTs (x :: a ++ [z]))) = FTs a := by
        rw [toNat_len, FTs_take, FTs_drop, List.take_left]; rfl
      rw [e1, e2]
      have hxs : x.l.length ≤ x.sz := by have := x.sz_eq; have := Tm.szs_length x.l; omega
      have hxz : x.sz ≤ 67108864 := by simp only [List.cons_append, Tm.szs] at hs; omega
      have hap := c_apply x a (by omega)
      have hrz : (applyF x a).sz ≤ SZ := by simp only [Tm.sz] at r3; simp only [SZ]; omega
      have hfr := c_efree (applyF x a) 0 (by simp only [SZ, B] at *; omega) (by omega) (by simp only [SZ] at hrz; omega)
      have hva : validB (applyF x a) = true := by rw [valid_iff, r1, r2 hl]; rfl
      rw [hva, Bool.true_and] at hfr
      have hsh := c_shift (applyF x a) 0 (-1) (by simp only [SZ, B] at *; omega) (r4 _ hb) (Int.le_refl _) (by simp only [M61]; omega) (by omega) (by simp only [M61]; omega)
      have hz3 : (z.k == 3) = true := by
        have h1 : (z.k != 3) = false := h1
        simpa using h1
      have hz0 : (z.n == 0) = true := by
        have h2 : (z.n != 0) = false := h2
        simpa using h2
      refine ⟨_, hap, _, hfr, br_of (fun h3 => ?_) (fun h3 => ?_)⟩
      · have hd' : dropB (.mk 6 s n (x :: a ++ [z])) = false := by
          have h3 := of_decide_eq_true h3
          rw [hd, show (occF (applyF x a) 0 == 0) = false by simp; omega, Bool.and_false]
        rw [no hd', hd']
        exact ⟨leTB (l := []) leNil, rfl⟩
      · have hd' : dropB (.mk 6 s n (x :: a ++ [z])) = true := by
          have h3 := of_decide_eq_false h3
          rw [hd, hz3, hz0, show (occF (applyF x a) 0 == 0) = true by simp; omega]; rfl
        rw [hdF hd', hd']
        exact ⟨_, hsh, .refl _, rfl⟩
theorem l_eshortb : ∀ (b a acc : List Tm), acc ≠ [] → acc.length = a.length → (∀ u ∈ b, AC Try.prog 82 [aT u] [] (aT (shortF u)) []) → (a ++ b).length ≤ SZ → (hd (acc ++ shortL b)).l.length ≤ B →
    RPt Try.prog 82 0 (aT (applyF (hd (acc ++ shortL b)) (acc ++ shortL b).tail)) [] 3 ⟨[(2, .c (.a (.ep 0 4 0 0))), (6, .c (.a (.osl 1 4 0 acc.length))), (30, aL (a ++ b)), (31, ci (((FTs (a ++ b)).length : Nat) : Int)), (32, ci a.length)], [(0, .arr 4 [zT]), (1, .arz 4 (FTs acc))], 2⟩
  | [], a, acc, hne, hlen, _, hl, hh => by
    simp only [shortL, List.append_nil] at hh hl ⊢
    refine RPt.vc hP sh lv82 (Eq.mpr (v82_3b ..) ?_)
    match acc, hne, hlen, hh with
    | x :: r, _, hlen, hh =>
      simp only [SZ, B, List.length_cons] at hl hlen hh
      have hh : x.l.length ≤ 549755813888 := hh
      have hap := c_apply x r (by omega)
      have e2 : List.take (Int.toNat ((x :: r).length : Int) - 1) (List.drop 1 (FTs (x :: r))) = FTs r := by
        rw [toNat_len, FTs_drop, List.take_of_length_le (by rw [FTs_length]; simp)]; rfl
      have e1 : aE (List.getD (FTs (x :: r)) 0 []) = aT x := aE_FT x
      rw [e2, e1]
      refine br_of (fun h => absurd (of_decide_eq_true h) (by rw [FTs_length]; omega)) (fun _ => ⟨⟨by omega, by simp⟩, ⟨by rw [FTs_length]; simp, ?_, rfl⟩, ⟨by omega, by simp; omega, Int.le_refl _⟩, ⟨rfl, by rw [toNat_len, FTs_length]; simp; omega⟩, _, hap.args ⟨.refl _, le_c leSl, trivial⟩, ret_r (.refl _)⟩)
      rw [show List.getD (FTs (x :: r)) 0 [] = FT x from rfl, rE_FT, List.drop_zero, List.take_of_length_le (by rw [FT_length]; exact Nat.le_refl _)]
  | t :: b, a, acc, hne, hlen, ih, hl, hh => by
    have hl' := hl
    simp only [List.length_append, List.length_cons, SZ] at hl'
    have h1 := ih t List.mem_cons_self
    have h2 := l_eshortb b (a ++ [t]) (acc ++ [shortF t]) (by simp) (by simp [hlen]) (fun u hu => ih u (List.mem_cons_of_mem _ hu)) (by rw [ap]; exact hl) (by rw [ap]; exact hh)
    have h3 := ltI' a t b
    rw [ap, ap, nx] at h2
    rw [shortL]
    refine RPt.vc hP sh lv82 (Eq.mpr (v82_3b ..) ?_)
    rw [aE_mid, w64 (x := (a.length : Int) + 1) (by omega) (by omega)]
    refine br_of (fun _ => ⟨⟨rfl, by omega, h3, rE_mid ..⟩, shortF t, h1, Nat.le_refl _, ⟨by rw [FTs_length]; omega, roomI (by omega)⟩, ?_⟩) (fun h => absurd h3 (of_decide_eq_false h))
    have e5 : List.take acc.length (FTs acc) ++ [FT4 (shortF t)] = FTs (acc ++ [shortF t]) := by rw [List.take_of_length_le (by rw [FTs_length]; omega), FT4_eq, FTs_append]; rfl
    rw [e5]
    rw [List.length_append] at h2
    exact h2
theorem c_eshort : ∀ t : Tm, okB t = true → lvB t = true → t.sz ≤ SZ → bd M61 t → AC Try.prog 82 [aT t] [] (aT (shortF t)) [] := by
  refine Tm.ind fun t ih ho hl hs hb => ?_
  have hlen := Tm.szs_length t.l
  have hol := okB_l ho
  obtain ⟨k, s, n, l⟩ := t
  simp only [Tm.sz, Tm.l, SZ] at hs hlen hol
  refine AC.vc hP sh lv82 (Nat.le_refl _) (by simp) (by simp) (Eq.mpr (v82 k s n (FTs l) _ _) ?_)
  refine br_of (fun h => ?_) (fun h => br_of (fun h' => ⟨rfl, ?_⟩) (fun h' => ?_))
  · have h5 : k = 5 := by simpa using h
    subst h5
    obtain ⟨x, rfl, hx⟩ := okB5 ho rfl
    rw [lvB_in (.inl rfl)] at hl
    have hlx : lvB x = true := by simpa [lvL] using hl
    simp only [Tm.szs] at hs
    obtain ⟨g1, g2, g3, g4⟩ := shortF_ok x hx
    have h1 := ih x (List.mem_singleton.2 rfl) hx hlx (by simp only [SZ]; omega) hb.2.1
    have h2 := c_edrop (shortF x) g1 (g2 hlx) (by simp only [SZ]; omega) (g4 _ (by simp only [M61]; omega) hb.2.1)
    have h3 := c_lams 1 (shortF x) (by omega)
    have e : shortF (.mk 5 s n [x]) = if dropB (shortF x) = true then dropF (shortF x) else .mk 5 [] 0 [shortF x] := by rw [shortF, if_pos (show ((5 : Int) == 5) = true from rfl)]; rfl
    rw [show aE (List.getD (FTs [x]) 0 []) = aT x from aE_FT x, e]
    refine ⟨el0 x [], _, h1, (dropF (shortF x), dropB (shortF x)), h2, br_of (fun hd => ?_) (fun hd => ⟨_, h3, ?_⟩)⟩
    · have hd : dropB (shortF x) = true := hd
      rw [if_pos hd]; exact ⟨.refl _, rfl⟩
    · rw [if_neg (by rw [show dropB (shortF x) = false from hd]; simp)]; exact ⟨.refl _, rfl⟩
  · have h6 : k = 6 := by simpa using h'
    subst h6
    obtain ⟨x, y, r, rfl, hx6, _⟩ := okB6 ho rfl
    rw [lvB_in (.inr rfl)] at hl
    have ihl : ∀ u ∈ x :: y :: r, AC Try.prog 82 [aT u] [] (aT (shortF u)) [] := fun u hu => ih u hu (okL_mem hol hu) (lvL_mem hl hu) (by have := Tm.szs_mem hu; simp only [SZ]; omega) (bds_mem hb.2 hu)
    have hx := (shortF_ok x (okL_mem hol List.mem_cons_self)).2.2.1
    have hxl : (shortF x).l.length ≤ B := by
      have h1 := (shortF x).sz_eq
      have h2 := Tm.szs_length (shortF x).l
      simp only [Tm.szs] at hs
      simp only [B]; omega
    have loop := l_eshortb (y :: r) [x] [shortF x] (by simp) rfl (fun u hu => ihl u (List.mem_cons_of_mem _ hu)) (show (x :: y :: r).length ≤ SZ by simp only [SZ]; omega) hxl
    have h1 := ihl x List.mem_cons_self
    have h3 := ltI' [] x (y :: r)
    refine RPt.vc hP sh lv82 (Eq.mpr (v82_3a ..) ?_)
    rw [show aE (List.getD (FTs (x :: y :: r)) (Int.toNat 0) []) = aT x from aE_FT x, w64 (by omega) (by omega)]
    refine br_of (fun _ => ⟨⟨rfl, by omega, h3, rE_FT x⟩, shortF x, h1, Nat.le_refl _, roomI (by omega), ?_⟩) (fun h => absurd h3 (of_decide_eq_false h))
    rw [FT4_eq]
    exact loop
  · have h : (k == 5) = false := h
    have h' : (k == 6) = false := h'
    rw [shortF, if_neg (by rw [h]; simp), if_neg (by rw [h']; simp)]
    exact ⟨.refl _, rfl⟩
theorem c_eShort (t : Tm) (hs : t.sz ≤ SZ) (hb : bd M61 t) : AC Try.prog 56 [aT t] [] (aT (if validB t = true then shortF t else t)) [] := by
  have h1 := c_valid t (by simp only [SZ, B] at *; omega)
  have h2 := fun h => c_eshort t (valid_ok t h) (valid_lv h) hs hb
  obtain ⟨k, s, n, l⟩ := t
  refine AC.vc hP sh lv56 (Nat.le_refl _) (by simp) (by simp) (Eq.mpr (v56 k s n (FTs l) _ _) ?_)
  refine ⟨_, h1, br_of (fun h => ?_) (fun h => ?_)⟩
  · rw [if_neg (by rw [not_t h]; simp)]; exact ⟨.refl _, rfl⟩
  · rw [if_pos (not_f h)]; exact ⟨_, h2 (not_f h), .refl _, rfl⟩

end Go.AM

namespace Go.AM
open Go.ChangeShapes Go.WideShapes Go.ChangeAt Go.RowKit

section
variable {H : Type} {enc : TypeId × Value → H} {P : Program} {w : World}

/-- Nothing is shut out. -/
abbrev none1 : Nat → Prop := fun _ => False
/-- Whatever reads (with so much fuel) at type t is some F a, of size at most that of what was read. -/
def RdN (enc : TypeId × Value → H) (P : Program) (w : World) (b : DataW H → Nat) (fuel : Nat) (t : TypeId) {α : Type} (F : α → List FV) (sz : α → Nat) : Prop :=
  ∀ cs x, DataW.trod enc P w 0 (fun _ => true) true fuel t cs = some x → ∃ a, LRep (FRep w none1) (F a) cs ∧ sz a ≤ b x.1

theorem rd_int {b : DataW H → Nat} {t : TypeId} {k : IntKind} (ht : P.underlying t = some (.int k)) (hb : ∀ d, 1 ≤ b d) (fuel : Nat) : RdN enc P w b fuel t (fun n : Int => [.int k n]) (fun _ => 1) := by
  intro cs x h
  obtain ⟨n, rfl, rfl, _⟩ := DataW.trod_int ht h
  exact ⟨n, .cons (.int k n) .nil, hb _⟩
/-- A number within its kind. -/
def Num (k : IntKind) := { n : Int // (Lit.int k n).wf = true }
theorem rd_num {b : DataW H → Nat} {t : TypeId} {k : IntKind} (ht : P.underlying t = some (.int k)) (hb : ∀ d, 1 ≤ b d) (fuel : Nat) : RdN enc P w b fuel t (fun n : Num k => [.int k n.1]) (fun _ => 1) := by
  intro cs x h
  obtain ⟨n, rfl, rfl, hw⟩ := DataW.trod_int ht h
  exact ⟨⟨n, hw⟩, .cons (.int k n) .nil, hb _⟩
theorem rd_bool {b : DataW H → Nat} {t : TypeId} (ht : P.underlying t = some .bool) (hb : ∀ d, 1 ≤ b d) (fuel : Nat) : RdN enc P w b fuel t (fun n : Bool => [.bool n]) (fun _ => 1) := by
  intro cs x h
  obtain ⟨n, rfl, rfl⟩ := DataW.trod_bool ht h
  exact ⟨n, .cons (.bool n) .nil, hb _⟩
theorem rd_str {b : DataW H → Nat} {t : TypeId} (ht : P.underlying t = some .string) (hb : ∀ l : List UInt8, l.length + 1 ≤ b (.lit (.string l))) (fuel : Nat) : RdN enc P w b fuel t (fun l : List UInt8 => [.str l]) (fun l => l.length + 1) := by
  intro cs x h
  obtain ⟨s, rfl, rfl, _⟩ := DataW.trod_string ht h
  refine ⟨s.data.toList, .cons ?_ .nil, hb _⟩
  have : (⟨s.data.toList.toArray⟩ : ByteArray) = s := by simp
  have h2 := FRep.str (w := w) (X := none1) s.data.toList
  rw [this] at h2
  exact h2

def sumBy {α : Type} (sz : α → Nat) : List α → Nat
  | [] => 0
  | a :: l => sz a + sumBy sz l
theorem sumBy_mem {α : Type} {sz : α → Nat} : ∀ {l : List α} {a : α}, a ∈ l → sz a ≤ sumBy sz l
  | x :: l, a, h => by
    rcases List.mem_cons.1 h with rfl | h
    · simp [sumBy]
    · have := sumBy_mem (sz := sz) h; simp only [sumBy]; omega
theorem sumBy_length {α : Type} {sz : α → Nat} (h : ∀ a, 1 ≤ sz a) : ∀ l : List α, l.length ≤ sumBy sz l
  | [] => Nat.le_refl _
  | a :: l => by have := sumBy_length h l; have := h a; simp only [sumBy, List.length_cons]; omega

theorem choose_list {α β : Type} {R : α → β → Prop} : ∀ {l : List β}, (∀ (i : Nat) (y : β), l[i]? = some y → ∃ x, R x y) → ∃ xs : List α, xs.length = l.length ∧ ∀ (i : Nat) (x : α) (y : β), xs[i]? = some x → l[i]? = some y → R x y
  | [], _ => ⟨[], rfl, fun i x y h => by simp at h⟩
  | y :: l, h => by
    obtain ⟨x, hx⟩ := h 0 y rfl
    obtain ⟨xs, h1, h2⟩ := choose_list (l := l) fun i y' hy => h (i + 1) y' (by simpa using hy)
    refine ⟨x :: xs, by simp [h1], fun i x' y' hx' hy' => ?_⟩
    cases i with
    | zero => simp at hx' hy'; subst hx'; subst hy'; exact hx
    | succ i => exact h2 i x' y' (by simpa using hx') (by simpa using hy')

theorem sum_le {α : Type} {sz : α → Nat} {b : DataW H → Nat} {bs : List (DataW H) → Nat} (hbs : ∀ d l, bs (d :: l) = b d + bs l) : ∀ {xs : List α} {es : List (DataW H × List MemPlace)}, xs.length = es.length → (∀ (i : Nat) (x : α) (y : DataW H × List MemPlace), xs[i]? = some x → es[i]? = some y → sz x ≤ b y.1) → sumBy sz xs ≤ bs (es.map (·.1))
  | [], _, _, _ => by simp [sumBy]
  | x :: xs, [], h, _ => by simp at h
  | x :: xs, e :: es, h, hr => by
    have h1 := hr 0 x e rfl rfl
    have h2 := sum_le (sz := sz) hbs (xs := xs) (es := es) (by simpa using h) fun i x y hx hy => hr (i + 1) x y (by simpa using hx) (by simpa using hy)
    simp only [sumBy, List.map_cons, hbs]
    omega

theorem cells_get {a : Addr} {n : Nat} {cs : List Value} (h : w.cells? 0 a n = some cs) : cs.length = n ∧ ∀ j u, cs[j]? = some u → w.cell? (a.add j) = some u := by
  unfold World.cells? at h
  rw [if_pos (Nat.zero_le _)] at h
  refine ⟨by have := mapM_some_length h; simpa using this, fun j u hu => ?_⟩
  have hj : j < n := by
    have h1 := (List.getElem?_eq_some_iff.1 hu).1
    have := mapM_some_length h; simp at this; omega
  have := mapM_some_get h j j (by simp [hj])
  rw [this, hu]

theorem cell_lt {b off : Nat} {u : Value} (h : w.cell? ⟨b, off, none⟩ = some u) : b < w.heap.size := by
  apply Decidable.byContradiction
  intro hn
  have : w.heap[b]? = none := by simp; omega
  simp [World.cell?, this] at h

theorem cell_spot {a : Addr} {u : Value} (h : w.cell? a = some u) : a.spot = none := by
  unfold World.cell? at h
  split at h
  · split at h
    · cases h
    · rename_i hs; simpa using hs
  · cases h
theorem cell_blk {a : Addr} {u : Value} (h : w.cell? a = some u) : a.block < w.heap.size := by
  apply Decidable.byContradiction
  intro hn
  have : w.heap[a.block]? = none := by simp; omega
  simp [World.cell?, this] at h

theorem add_zero (a : Addr) : a.add 0 = a := rfl
theorem add_none (b o k : Nat) : (Addr.mk b o none).add k = ⟨b, o + k, none⟩ := by
  unfold Addr.add
  split
  · rename_i h; rw [h]; rfl
  · rfl
/-- Slices. -/
theorem rd_slice {b : DataW H → Nat} {bs : List (DataW H) → Nat} (hbs : ∀ d l, bs (d :: l) = b d + bs l) (hb0 : ∀ d, 1 ≤ b d) (hb : ∀ es sp, bs es + 1 ≤ b (.slice es sp)) {t e : TypeId} (ht : P.underlying t = some (.slice e)) {n : Nat} (hn : P.cellsOf e = n) (hn0 : 0 < n)
    {α : Type} {F : α → List FV} {sz : α → Nat} (hF : ∀ a, (F a).length = n) {fuel : Nat} (ih : ∀ k, k < fuel → RdN enc P w b k e F sz) : RdN enc P w b fuel t (fun l : List α => [.sl false n (l.map F)]) (fun l => sumBy sz l + 1) := by
  intro cs x h
  rcases DataW.trod_slice ht h with ⟨rfl, rfl⟩ | ⟨a, len, cap, elems, rest, k, rfl, rfl, rfl, _, hlc, _, hlen, hel, hrest, _⟩
  · exact ⟨[], .cons (.slnil n) .nil, by simpa [sumBy] using hb0 _⟩
  · rw [hn] at hel
    have key : ∀ (i : Nat) (y : DataW H × List MemPlace), elems[i]? = some y → ∃ x : α, (∃ cs, w.cells? 0 (a.add (i * n)) n = some cs ∧ LRep (FRep w none1) (F x) cs) ∧ sz x ≤ b y.1 := by
      intro i y hy
      have hi : i < len := by rw [← hlen]; exact (List.getElem?_eq_some_iff.1 hy).1
      have h1 := hel i hi
      rw [hy] at h1
      obtain ⟨cs, h2, h3⟩ := Option.bind_eq_some_iff.1 h1
      obtain ⟨x, h4, h5⟩ := ih k (Nat.lt_succ_self _) cs y h3
      exact ⟨x, ⟨cs, h2, h4⟩, h5⟩
    -- the element at i, with its place
    have key2 : ∃ xs : List α, xs.length = elems.length ∧ ∀ (i : Nat) (x : α), xs[i]? = some x → (∃ cs, w.cells? 0 (a.add (i * n)) n = some cs ∧ LRep (FRep w none1) (F x) cs) ∧ ∀ y, elems[i]? = some y → sz x ≤ b y.1 := by
      have : ∀ (l : List (DataW H × List MemPlace)) (o : Nat), (∀ i, l[i]? = elems[o + i]?) → ∃ xs : List α, xs.length = l.length ∧ ∀ (i : Nat) (x : α), xs[i]? = some x → (∃ cs, w.cells? 0 (a.add ((o + i) * n)) n = some cs ∧ LRep (FRep w none1) (F x) cs) ∧ ∀ y, l[i]? = some y → sz x ≤ b y.1 := by
        intro l
        induction l with
        | nil => exact fun o _ => ⟨[], rfl, fun i x h => by simp at h⟩
        | cons y l ih =>
          intro o ho
          obtain ⟨x, hx1, hx2⟩ := key o y (by have := ho 0; simpa using this.symm)
          obtain ⟨xs, h1, h2⟩ := ih (o + 1) (fun i => by have := ho (i + 1); rw [show o + 1 + i = o + (i + 1) by omega]; simpa using this)
          refine ⟨x :: xs, by simp [h1], fun i x' hx' => ?_⟩
          cases i with
          | zero => simp at hx'; subst hx'; exact ⟨by simpa using hx1, fun y' hy' => by simp at hy'; subst hy'; exact hx2⟩
          | succ i =>
            have := h2 i x' (by simpa using hx')
            rw [show o + 1 + i = o + (i + 1) by omega] at this
            exact ⟨this.1, fun y' hy' => this.2 y' (by simpa using hy')⟩
      obtain ⟨xs, h1, h2⟩ := this elems 0 (fun i => by simp)
      exact ⟨xs, h1, fun i x hx => by simpa using h2 i x hx⟩
    obtain ⟨xs, hxl, hx⟩ := key2
    have hsum := sum_le (sz := sz) (b := b) hbs hxl (fun i x y h1 h2 => (hx i x h1).2 y h2)
    have hb' := hb (elems.map (·.1)) (rest.map (·.1))
    refine ⟨xs, ?_, show sumBy sz xs + 1 ≤ b (.slice (elems.map (·.1)) (rest.map (·.1))) by omega⟩
    by_cases hc0 : cap = 0
    · have h0 : len = 0 := by omega
      subst hc0; subst h0
      have : xs = [] := List.length_eq_zero_iff.1 (by omega)
      subst this
      exact .cons (.sl0 false n a) .nil
    · have hone : ∃ cs, w.cells? 0 a n = some cs := by
        by_cases h0 : len = 0
        · have hr := (hrest rfl).2 0 (by omega)
          have hr' : rest[0]? ≠ none := by
            rw [List.getElem?_eq_getElem (by rw [(hrest rfl).1]; omega)]; simp
          rw [hn] at hr
          rw [h0, show (0 + 0) * n = 0 by simp, add_zero] at hr
          cases hcl : w.cells? 0 a n with
          | none => rw [hcl] at hr; exact absurd hr.symm hr'
          | some cs => exact ⟨cs, rfl⟩
        · have : 0 < xs.length := by omega
          obtain ⟨⟨cs, h1, _⟩, _⟩ := hx 0 xs[0] (by simp [this])
          rw [show 0 * n = 0 by simp, add_zero] at h1
          exact ⟨cs, h1⟩
      obtain ⟨cs0, hq⟩ := hone
      obtain ⟨hl0, hq'⟩ := cells_get hq
      have hq0 := hq' 0 (cs0[0]'(by omega)) (by simp)
      rw [add_zero] at hq0
      have hsp : a.spot = none := cell_spot hq0
      have hbl : a.block < w.heap.size := cell_blk hq0
      obtain ⟨blk, off, sp⟩ := a
      have hsp : sp = none := hsp
      subst hsp
      refine .cons (.sl false n (xs.map F) blk off cap len (fun i j => (w.cell? ⟨blk, off + i * n + j, none⟩).getD (.bool false)) (by rw [List.length_map]; omega) (by rw [List.length_map]; omega) (fun h => h) hbl (fun i e he => ?_) (fun i j e f he hf => ?_) (fun i j e f he hf => ?_)) .nil
      · rw [List.getElem?_map] at he
        obtain ⟨x, _, rfl⟩ := Option.map_eq_some_iff.1 he
        exact hF x
      all_goals
        rw [List.getElem?_map] at he
        obtain ⟨x, hxi, rfl⟩ := Option.map_eq_some_iff.1 he
        obtain ⟨⟨cs, h1, h2⟩, _⟩ := hx i x hxi
        obtain ⟨h3, h4⟩ := cells_get h1
        have hj : j < cs.length := by rw [← h2.1]; exact (List.getElem?_eq_some_iff.1 hf).1
        have h5 := h4 j cs[j] (by simp)
        rw [add_none, add_none] at h5
      · rw [h5]; rfl
      · rw [h5]
        exact h2.2 j f cs[j] hf (by simp)

/-- Terms. -/
theorem FT_sum : ∀ l : List Tm, Tm.bks l = sumBy Tm.bk l
  | [] => rfl
  | t :: l => by rw [Tm.bks, sumBy, FT_sum l]
/-- How a term lies. -/
structure TmTy (P : Program) (T : TypeId) (f0 f1 f2 f3 : Field) : Prop where
  str : P.underlying T = some (.struct #[f0, f1, f2, f3])
  u0 : P.underlying f0.type = some (.int .i64)
  u1 : P.underlying f1.type = some .string
  u2 : P.underlying f2.type = some (.int .i64)
  u3 : P.underlying f3.type = some (.slice T)
  o0 : f0.offset = 0
  o1 : f1.offset = 1
  o2 : f2.offset = 2
  o3 : f3.offset = 3
  c0 : P.cellsOf f0.type = 1
  c1 : P.cellsOf f1.type = 1
  c2 : P.cellsOf f2.type = 1
  c3 : P.cellsOf f3.type = 1
  cT : P.cellsOf T = 4
/-- How much a reading holds. -/
structure Bulk (b : DataW H → Nat) (bs : List (DataW H) → Nat) : Prop where
  nil : bs [] = 0
  cons : ∀ d l, bs (d :: l) = b d + bs l
  one : ∀ d, 1 ≤ b d
  slice : ∀ es sp, bs es + 1 ≤ b (.slice es sp)
  str : ∀ l : List UInt8, l.length + 1 ≤ b (.lit (.string l))
  agg : ∀ l, bs l + 1 ≤ b (.agg l)
theorem LRep.one {α : Type} {R : α → Value → Prop} {c : α} {u : Value} (h : LRep R [c] [u]) : R c u := h.2 0 c u rfl rfl
theorem rd_term {b : DataW H → Nat} {bs : List (DataW H) → Nat} (hb : Bulk b bs) {T : TypeId} {f0 f1 f2 f3 : Field} (hT : TmTy P T f0 f1 f2 f3) : ∀ fuel, RdN enc P w b fuel T FT Tm.bk := by
  intro fuel
  induction fuel using Nat.strongRecOn with
  | _ fuel ih =>
    intro cs x h
    obtain ⟨xs, n, rfl, rfl, hl, hxl, hf⟩ := DataW.trod_struct hT.str h
    rw [hT.cT] at hl
    match cs, hl with
    | [v0, v1, v2, v3], _ =>
    match xs, hxl with
    | [x0, x1, x2, x3], _ =>
    have g0 := hf 0 f0 rfl
    have g1 := hf 1 f1 rfl
    have g2 := hf 2 f2 rfl
    have g3 := hf 3 f3 rfl
    rw [hT.o0, hT.c0] at g0
    rw [hT.o1, hT.c1] at g1
    rw [hT.o2, hT.c2] at g2
    rw [hT.o3, hT.c3] at g3
    obtain ⟨k, r0, _⟩ := rd_int (b := b) hT.u0 hb.one n _ _ g0
    obtain ⟨s, r1, z1⟩ := rd_str (b := b) hT.u1 hb.str n _ _ g1
    have z1 : s.length + 1 ≤ b x1.1 := z1
    obtain ⟨m, r2, _⟩ := rd_int (b := b) hT.u2 hb.one n _ _ g2
    obtain ⟨l, r3, z3⟩ := rd_slice (F := FT) (sz := Tm.bk) hb.cons hb.one hb.slice hT.u3 hT.cT (by omega) FT_length (fun k hk => ih k (by omega)) _ _ g3
    have z3 : sumBy Tm.bk l + 1 ≤ b x3.1 := z3
    refine ⟨.mk k s m l, ?_, ?_⟩
    · rw [FT, FTs_map]
      exact .cons (LRep.one r0) (.cons (LRep.one r1) (.cons (LRep.one r2) (.cons (LRep.one r3) .nil)))
    · have := hb.one x0.1
      simp only [Tm.bk, FT_sum]
      show _ ≤ b (.agg [x0.1, x1.1, x2.1, x3.1])
      have h9 := hb.agg [x0.1, x1.1, x2.1, x3.1]
      simp only [hb.cons, hb.nil] at h9
      omega

/-! ### Arguments -/
theorem none_own {Y : Nat → Prop} (hY : ∀ b, ¬ Y b) {Hs : List AObj} : (fun b => Y b ∨ Own (fun o => Hs.getD o .gone) (fun _ => none) b) = none1 := by
  funext b
  refine propext ⟨fun h => ?_, fun h => h.elim⟩
  rcases h with h | ⟨o, _, h⟩
  · exact (hY b h).elim
  · cases h
abbrev β0 : Nat → Option Nat := fun _ => none
theorem open_term {b : DataW H → Nat} {bs : List (DataW H) → Nat} (hb : Bulk b bs) {T : TypeId} {f0 f1 f2 f3 : Field} (hT : TmTy P T f0 f1 f2 f3) {r : Reach} {base : Nat} {v : Value} {d : DataW H} {ps : List MemPlace}
    (hv : Value.okWide P w r base T v) (hd : DataW.Trod enc P w 0 (fun _ => true) true T v d ps) : ∃ t : Tm, TRep w none1 β0 (aT t) v ∧ t.bk ≤ b d := by
  obtain ⟨cs, rfl, _⟩ := okWide_struct hT.str hv
  obtain ⟨fuel, hf⟩ := hd
  obtain ⟨t, h1, h2⟩ := rd_term hb hT fuel _ _ hf
  refine ⟨t, ⟨cs.toList, by simp, ?_⟩, h2⟩
  rw [FT_eta] at h1
  have h1 : LRep (FRep w none1) [.int .i64 t.k, .str t.s, .int .i64 t.n, .sl false 4 (FTs t.l)] cs.toList := h1
  exact h1.map (g := fun x => WV.a (.fz x)) fun c u _ h => .a _ _ (.fz _ _ h)
theorem open_terms {b : DataW H → Nat} {bs : List (DataW H) → Nat} (hb : Bulk b bs) {T S : TypeId} {f0 f1 f2 f3 : Field} (hT : TmTy P T f0 f1 f2 f3) (hS : P.underlying S = some (.slice T)) {r : Reach} {base : Nat} {v : Value} {d : DataW H} {ps : List MemPlace}
    (hv : Value.okWide P w r base S v) (hd : DataW.Trod enc P w 0 (fun _ => true) true S v d ps) : ∃ l : List Tm, TRep w none1 β0 (aL l) v ∧ Tm.bks l + 1 ≤ b d := by
  obtain ⟨a, len, cap, rfl⟩ := okWide_slice hS hv
  obtain ⟨fuel, hf⟩ := hd
  obtain ⟨l, h1, h2⟩ := rd_slice (F := FT) (sz := Tm.bk) hb.cons hb.one hb.slice hS hT.cT (by omega) FT_length (fun k _ => rd_term hb hT k) _ _ hf
  have h2 : sumBy Tm.bk l + 1 ≤ b d := h2
  rw [← FT_sum] at h2
  have h1 : LRep (FRep w none1) [.sl false 4 (l.map FT)] [_] := h1
  rw [← FTs_map] at h1
  exact ⟨l, .a _ _ (.fz _ _ h1.one), h2⟩
theorem open_num {t : TypeId} {k : IntKind} (ht : P.underlying t = some (.int k)) {r : Reach} {base : Nat} {v : Value} {d : DataW H} {ps : List MemPlace}
    (hv : Value.okWide P w r base t v) (hd : DataW.Trod enc P w 0 (fun _ => true) true t v d ps) : ∃ n : Int, TRep w none1 β0 (.c (.a (.fz (.int k n)))) v ∧ (Lit.int k n).wf = true := by
  obtain ⟨n, rfl, _, _, hw⟩ := open_int ht hv hd
  exact ⟨n, .a _ _ (.fz _ _ (.int k n)), hw⟩
theorem open_str {t : TypeId} (ht : P.underlying t = some .string) {b : DataW H → Nat} {bs : List (DataW H) → Nat} (hb : Bulk b bs) {r : Reach} {base : Nat} {v : Value} {d : DataW H} {ps : List MemPlace}
    (hv : Value.okWide P w r base t v) (hd : DataW.Trod enc P w 0 (fun _ => true) true t v d ps) : ∃ s : List UInt8, TRep w none1 β0 (cs s) v ∧ s.length + 1 ≤ b d := by
  obtain ⟨s, rfl⟩ := okWide_string ht hv
  obtain ⟨fuel, hf⟩ := hd
  obtain ⟨l, h1, h2⟩ := rd_str (b := b) ht hb.str fuel _ _ hf
  exact ⟨l, .a _ _ (.fz _ _ h1.one), h2⟩

/-! ### The end -/
theorem kept_good {w' : World} {foot : Nat → Prop} (g : Good w foot w') (hf : ∀ b, ¬ foot b) (may : MemPlace → Prop) : w.keptBut w' may := by
  refine ⟨g.os, g.output, fun i hi => ?_⟩
  rw [g.blk i hi (hf i)]
  exact (World.keptBut_refl w may).2.2 i hi
theorem same_good {w' : World} {foot : Nat → Prop} (g : Good w foot w') (hf : ∀ b, ¬ foot b) {p : MemPlace} (hp : p.block < w.heap.size) : w.sameAt w' p := by
  cases p with
  | cell b o => exact World.cell?_of_block (a := ⟨b, o, none⟩) (g.blk b hp (hf b))
  | map b => exact g.blk b hp (hf b)
theorem trodAll_stays (hl : laidOutB P = true) {w' : World} {sp : Nat → Bool} : ∀ {ts : List TypeId} {vs : List Value} {ds : List (DataW H)} {p : List MemPlace}, DataW.TrodAll enc P w 0 (fun _ => true) true ts vs ds p →
    (∀ t ∈ ts, P.readableRec t = true ∧ t < P.types.size) → (∀ x ∈ p, w.sameAt w' x) → (∀ x ∈ p, sp x.block = true) → DataW.TrodAll enc P w' 0 sp true ts vs ds p
  | [], _, _, _, h, _, _, _ => by
    obtain ⟨rfl, rfl, rfl⟩ := trodAll_nil h
    exact trodAll_mk0
  | t :: ts, _, _, _, h, ht, hs, hsp => by
    obtain ⟨v, vs', d, ds', p, q, rfl, rfl, rfl, ⟨n, h1⟩, h2⟩ := trodAll_cons h
    have hr := (ht t List.mem_cons_self).1
    exact ⟨p, q, ⟨n, DataW.trod_stays (kids_book hl hr) (book_sized hr) (fun h => by cases h) ⟨(ht t List.mem_cons_self).2, book_self t⟩ h1 (fun x hx => hs x (List.mem_append_left _ hx)) (fun x hx => hsp x (List.mem_append_left _ hx))⟩,
      trodAll_stays hl h2 (fun u hu => ht u (List.mem_cons_of_mem _ hu)) (fun x hx => hs x (List.mem_append_right _ hx)) (fun x hx => hsp x (List.mem_append_right _ hx)), rfl⟩
/-- A law's end: it returns true, and what was read reads as before. -/
theorem post_good (hl : laidOutB P = true) {f : Func} {s : ChangeSpec} {apart fresh handsOn again : Bool} {w' : World} {args : Array Value} {ds gs : List (DataW H)} {before : List MemPlace} {foot : Nat → Prop} {tb : TypeId}
    (hW : DataW.Whole enc P f.params.toList s.vars apart w args.toList ds gs before) (hv : s.vars = []) (hs : ∀ ds' : List (DataW H), ds'.length = ds.length → s.fn H ds' = { results := [.lit (.bool true)], args := ds' })
    (ht : ∀ t ∈ f.params.toList, P.readableRec t = true ∧ t < P.types.size) (hr : f.resultTypes = #[tb]) (hb : P.underlying tb = some .bool) (g : Good w foot w') (hf : ∀ b, ¬ foot b) :
    s.post enc P f apart fresh handsOn again w args (.bool true) w' := by
  have hlt := hW.lt
  obtain ⟨p, q, h1, h2, he, hz, hn⟩ := hW
  rw [hv] at h2
  obtain ⟨rfl, rfl⟩ := trodVars_none h2
  rw [List.append_nil] at he
  subst he
  have hold : ∀ x ∈ before, (fun b => decide (b < w.heap.size)) x.block = true := fun x hx => by simpa using hlt x hx
  have hfn := hs (ds ++ []) (by simp)
  have hargs : ∀ sp : Nat → Bool, (∀ x ∈ before, sp x.block = true) → DataW.TrodAll enc P w' 0 sp true f.params.toList args.toList (s.fn H (ds ++ [])).args before := fun sp hsp => by
    rw [hfn, List.append_nil]
    exact trodAll_stays hl h1 ht (fun x hx => same_good g hf (hlt x hx)) hsp
  have hres : ∀ (b : Nat) (sp : Nat → Bool) (hd : Bool), DataW.TrodAll enc P w' b sp hd f.resultTypes.toList ((Value.bool true).resultList f.resultTypes.size) (s.fn H (ds ++ [])).results [] := fun b sp hd => by
    rw [hfn, hr]
    exact trodAll_mk1 ⟨1, by simp [DataW.trod, Value.cells, hb]⟩
  have hvars : ∀ sp : Nat → Bool, DataW.TrodVars enc P w' sp s.vars (s.fn H (ds ++ [])).vars [] := fun sp => by
    rw [hfn, hv]
    rfl
  refine ⟨ds, [], before, [], before, [], ⟨before, [], h1, by rw [hv]; rfl, by simp, hz, hn⟩, hres _ _ _, hargs _ hold, hvars _, World.keptBut_mono (fun x hx => ⟨hx, ?_⟩) (kept_good g hf (· ∈ before)), fun _ => ?_⟩
  · simpa using hx
  · refine ⟨ok_one hr rfl (okWide_bool_mk hb _), _, _, ([] ++ before) ++ [], ⟨[] ++ before, [], trodAll_append (hargs _ (fun _ _ => rfl)) (hres _ _ _), hvars _, rfl, ?_, ?_⟩, ?_⟩
    · intro b off hp
      have hp : MemPlace.cell b off ∈ before := by simpa using hp
      have hb := hlt _ hp
      have : w'.frozen? ⟨b, off, none⟩ = w.frozen? ⟨b, off, none⟩ := by
        unfold World.frozen?
        rw [g.blk b hb (hf b)]
      rw [this]
      exact hz b off hp
    · intro ha
      simpa using hn ha
    · intro x hx _
      simpa using hx
/-- A contract that a law's function answers: true. -/
theorem law_true {f : FuncId} {args : List TV} (hgl : Gl P w none1) (h : AC P f args [] (cb true) []) {vals : List Value} (hv : LRep (TRep w none1 β0) args vals) :
    Calls P f vals.toArray w fun e w' => e = .returned (.bool true) ∧ ∃ foot, (∀ b, ¬ foot b) ∧ Good w foot w' := by
  have hX : (fun b => (fun _ : Nat => False) b ∨ Own (fun o => ([] : List AObj).getD o .gone) β0 b) = none1 := none_own (fun _ h => h)
  refine (h.2.2 w vals β0 (fun _ => False) (fun o b h => by cases h) (fun b h => h.elim) (hgl.sub fun b ⟨o, h5, _⟩ => by simp [isLive] at h5) ⟨fun o b h _ => by simp [isLive] at h, fun o h => by simp [isLive] at h, fun o o' b h => by simp [isLive] at h, fun o b h => by cases h⟩ (by rw [hX]; exact hv)).mono fun e w' ⟨v, β', h1, h2, h3, h4, _⟩ => ?_
  subst h1
  cases h4 with
  | a _ _ h4 =>
    cases h4 with
    | fz _ _ h4 =>
      cases h4
      exact ⟨rfl, _, fun b ⟨o, h5, _⟩ => by simp [isLive] at h5, h2⟩
end
end Go.AM

namespace Go.AM
open Go.ChangeShapes Go.WideShapes Go.ChangeAt Go.RowKit

section
variable {H : Type} {enc : TypeId × Value → H} {P : Program} {w : World}
theorem wf_range {n : Int} (h : (Lit.int .i64 n).wf = true) : -9223372036854775808 ≤ n ∧ n ≤ 9223372036854775807 := by
  simp only [Lit.wf, IntKind.min, IntKind.max, IntKind.signed, IntKind.bits, Bool.and_eq_true, decide_eq_true_eq, if_true] at h; omega
abbrev TmI := { t : Tm // okI t }
theorem sumBy_val : ∀ l : List TmI, Tm.bks (l.map (·.1)) = sumBy (fun t : TmI => t.1.bk) l
  | [] => rfl
  | t :: l => by rw [List.map_cons, Tm.bks, sumBy, sumBy_val l]
theorem okIs_val (l : List TmI) : okIs (l.map (·.1)) := okIs_of fun t ht => by
  obtain ⟨u, _, rfl⟩ := List.mem_map.1 ht
  exact u.2
theorem rd_termI {b : DataW H → Nat} {bs : List (DataW H) → Nat} (hb : Bulk b bs) {T : TypeId} {f0 f1 f2 f3 : Field} (hT : TmTy P T f0 f1 f2 f3) : ∀ fuel, RdN enc P w b fuel T (fun t : TmI => FT t.1) (fun t => t.1.bk) := by
  intro fuel
  induction fuel using Nat.strongRecOn with
  | _ fuel ih =>
    intro cs x h
    obtain ⟨xs, n, rfl, rfl, hl, hxl, hf⟩ := DataW.trod_struct hT.str h
    rw [hT.cT] at hl
    match cs, hl with
    | [v0, v1, v2, v3], _ =>
    match xs, hxl with
    | [x0, x1, x2, x3], _ =>
    have g0 := hf 0 f0 rfl
    have g1 := hf 1 f1 rfl
    have g2 := hf 2 f2 rfl
    have g3 := hf 3 f3 rfl
    rw [hT.o0, hT.c0] at g0
    rw [hT.o1, hT.c1] at g1
    rw [hT.o2, hT.c2] at g2
    rw [hT.o3, hT.c3] at g3
    obtain ⟨k, r0, _⟩ := rd_int (b := b) hT.u0 hb.one n _ _ g0
    obtain ⟨s, r1, z1⟩ := rd_str (b := b) hT.u1 hb.str n _ _ g1
    have z1 : s.length + 1 ≤ b x1.1 := z1
    obtain ⟨m, r2, _⟩ := rd_num (b := b) hT.u2 hb.one n _ _ g2
    obtain ⟨l, r3, z3⟩ := rd_slice (F := fun t : TmI => FT t.1) (sz := fun t : TmI => t.1.bk) hb.cons hb.one hb.slice hT.u3 hT.cT (by omega) (fun t => FT_length t.1) (fun k hk => ih k (by omega)) _ _ g3
    have z3 : sumBy (fun t : TmI => t.1.bk) l + 1 ≤ b x3.1 := z3
    refine ⟨⟨.mk k s m.1 (l.map (·.1)), wf_range m.2, okIs_val l⟩, ?_, ?_⟩
    · have e : FTs (l.map (·.1)) = l.map fun t : TmI => FT t.1 := by rw [FTs_map, List.map_map]; rfl
      show LRep (FRep w none1) (FT (.mk k s m.1 (l.map (·.1)))) _
      rw [FT, e]
      exact .cons (LRep.one r0) (.cons (LRep.one r1) (.cons (LRep.one r2) (.cons (LRep.one r3) .nil)))
    · have := hb.one x0.1
      show Tm.bk (.mk k s m.1 (l.map (·.1))) ≤ b (.agg [x0.1, x1.1, x2.1, x3.1])
      simp only [Tm.bk, sumBy_val]
      have h9 := hb.agg [x0.1, x1.1, x2.1, x3.1]
      simp only [hb.cons, hb.nil] at h9
      omega
theorem open_termI {b : DataW H → Nat} {bs : List (DataW H) → Nat} (hb : Bulk b bs) {T : TypeId} {f0 f1 f2 f3 : Field} (hT : TmTy P T f0 f1 f2 f3) {r : Reach} {base : Nat} {v : Value} {d : DataW H} {ps : List MemPlace}
    (hv : Value.okWide P w r base T v) (hd : DataW.Trod enc P w 0 (fun _ => true) true T v d ps) : ∃ t : Tm, TRep w none1 β0 (aT t) v ∧ t.bk ≤ b d ∧ okI t := by
  obtain ⟨cs, rfl, _⟩ := okWide_struct hT.str hv
  obtain ⟨fuel, hf⟩ := hd
  obtain ⟨t, h1, h2⟩ := rd_termI hb hT fuel _ _ hf
  refine ⟨t.1, ⟨cs.toList, by simp, ?_⟩, h2, t.2⟩
  have h1 : LRep (FRep w none1) (FT t.1) cs.toList := h1
  rw [FT_eta] at h1
  exact h1.map (g := fun x => WV.a (.fz x)) fun c u _ h => .a _ _ (.fz _ _ h)
end
end Go.AM

namespace Go.AM
open Go.ChangeShapes Go.WideShapes Go.ChangeAt Go.RowKit

section
variable {H : Type} {enc : TypeId × Value → H} {P : Program} {w : World}
/-- A row of structs, from what one is. -/
theorem open_rows {b : DataW H → Nat} {bs : List (DataW H) → Nat} (hb : Bulk b bs) {T S : TypeId} {n : Nat} {α : Type} {F : α → List FV} {sz : α → Nat} (hF : ∀ a, (F a).length = n) (hn : P.cellsOf T = n) (hn0 : 0 < n) (hz : ∀ a, 1 ≤ sz a)
    (h1 : ∀ k, RdN enc P w b k T F sz) (hS : P.underlying S = some (.slice T)) {r : Reach} {base : Nat} {v : Value} {d : DataW H} {ps : List MemPlace}
    (hv : Value.okWide P w r base S v) (hd : DataW.Trod enc P w 0 (fun _ => true) true S v d ps) : ∃ l : List α, TRep w none1 β0 (.c (.a (.fz (.sl false n (l.map F))))) v ∧ sumBy sz l + 1 ≤ b d := by
  obtain ⟨a, len, cap, rfl⟩ := okWide_slice hS hv
  obtain ⟨fuel, hf⟩ := hd
  obtain ⟨l, h1, h2⟩ := rd_slice hb.cons hb.one hb.slice hS hn hn0 hF (fun k _ => h1 k) _ _ hf
  have h1 : LRep (FRep w none1) [.sl false n (l.map F)] [_] := h1
  exact ⟨l, .a _ _ (.fz _ _ h1.one), h2⟩
/-- A truth value and a term. -/
abbrev FBT (v : Bool × TmI) : List FV := .bool v.1 :: FT v.2.1
structure BTTy (P : Program) (T Tt : TypeId) (f0 f1 : Field) : Prop where
  str : P.underlying T = some (.struct #[f0, f1])
  u0 : P.underlying f0.type = some .bool
  t1 : f1.type = Tt
  o0 : f0.offset = 0
  o1 : f1.offset = 1
  c0 : P.cellsOf f0.type = 1
  cT : P.cellsOf T = 5
theorem rd_bt {b : DataW H → Nat} {bs : List (DataW H) → Nat} (hb : Bulk b bs) {T Tt : TypeId} {g0 g1 g2 g3 f0 f1 : Field} (hT : TmTy P Tt g0 g1 g2 g3) (hV : BTTy P T Tt f0 f1) (fuel : Nat) :
    RdN enc P w b fuel T FBT (fun v => v.2.1.bk + 1) := by
  intro cs x h
  obtain ⟨xs, n, rfl, rfl, hl, hxl, hf⟩ := DataW.trod_struct hV.str h
  rw [hV.cT] at hl
  match cs, hl with
  | [v0, v1, v2, v3, v4], _ =>
  match xs, hxl with
  | [x0, x1], _ =>
  have q0 := hf 0 f0 rfl
  have q1 := hf 1 f1 rfl
  rw [hV.o0, hV.c0] at q0
  rw [hV.o1, hV.t1, hT.cT] at q1
  obtain ⟨p, r0, _⟩ := rd_bool (b := b) hV.u0 hb.one n _ _ q0
  obtain ⟨t, r1, z1⟩ := rd_termI hb hT n _ _ q1
  have z1 : t.1.bk ≤ b x1.1 := z1
  refine ⟨(p, t), .cons (LRep.one r0) r1, ?_⟩
  show t.1.bk + 1 ≤ b (.agg [x0.1, x1.1])
  have h9 := hb.agg [x0.1, x1.1]
  simp only [hb.cons, hb.nil] at h9
  omega
/-- A number, a truth value and a term. -/
abbrev IBT := { n : Int // -9223372036854775808 ≤ n ∧ n ≤ 9223372036854775807 } × Bool × TmI
abbrev FIBT (v : IBT) : List FV := .int .i64 v.1.1 :: .bool v.2.1 :: FT v.2.2.1
structure IBTTy (P : Program) (T Tt : TypeId) (f0 f1 f2 : Field) : Prop where
  str : P.underlying T = some (.struct #[f0, f1, f2])
  u0 : P.underlying f0.type = some (.int .i64)
  u1 : P.underlying f1.type = some .bool
  t2 : f2.type = Tt
  o0 : f0.offset = 0
  o1 : f1.offset = 1
  o2 : f2.offset = 2
  c0 : P.cellsOf f0.type = 1
  c1 : P.cellsOf f1.type = 1
  cT : P.cellsOf T = 6
theorem rd_ibt {b : DataW H → Nat} {bs : List (DataW H) → Nat} (hb : Bulk b bs) {T Tt : TypeId} {g0 g1 g2 g3 f0 f1 f2 : Field} (hT : TmTy P Tt g0 g1 g2 g3) (hV : IBTTy P T Tt f0 f1 f2) (fuel : Nat) :
    RdN enc P w b fuel T FIBT (fun v => v.2.2.1.bk + 2) := by
  intro cs x h
  obtain ⟨xs, n, rfl, rfl, hl, hxl, hf⟩ := DataW.trod_struct hV.str h
  rw [hV.cT] at hl
  match cs, hl with
  | [v0, v1, v2, v3, v4, v5], _ =>
  match xs, hxl with
  | [x0, x1, x2], _ =>
  have q0 := hf 0 f0 rfl
  have q1 := hf 1 f1 rfl
  have q2 := hf 2 f2 rfl
  rw [hV.o0, hV.c0] at q0
  rw [hV.o1, hV.c1] at q1
  rw [hV.o2, hV.t2, hT.cT] at q2
  obtain ⟨i, r0, z0⟩ := rd_num (b := b) hV.u0 hb.one n _ _ q0
  obtain ⟨p, r1, z1⟩ := rd_bool (b := b) hV.u1 hb.one n _ _ q1
  obtain ⟨t, r2, z2⟩ := rd_termI hb hT n _ _ q2
  have z2 : t.1.bk ≤ b x2.1 := z2
  have z0 : 1 ≤ b x0.1 := z0
  refine ⟨(⟨i.1, wf_range i.2⟩, p, t), .cons (LRep.one r0) (.cons (LRep.one r1) r2), ?_⟩
  show t.1.bk + 2 ≤ b (.agg [x0.1, x1.1, x2.1])
  have h9 := hb.agg [x0.1, x1.1, x2.1]
  simp only [hb.cons, hb.nil] at h9
  omega
/-- Three numbers and a term. -/
abbrev I3T := { n : Int × Int × Int // (-9223372036854775808 ≤ n.1 ∧ n.1 ≤ 9223372036854775807) ∧ (-9223372036854775808 ≤ n.2.1 ∧ n.2.1 ≤ 9223372036854775807) ∧ (-9223372036854775808 ≤ n.2.2 ∧ n.2.2 ≤ 9223372036854775807) } × TmI
abbrev FI3T (v : I3T) : List FV := .int .i64 v.1.1.1 :: .int .i64 v.1.1.2.1 :: .int .i64 v.1.1.2.2 :: FT v.2.1
structure I3TTy (P : Program) (T Tt : TypeId) (f0 f1 f2 f3 : Field) : Prop where
  str : P.underlying T = some (.struct #[f0, f1, f2, f3])
  u0 : P.underlying f0.type = some (.int .i64)
  u1 : P.underlying f1.type = some (.int .i64)
  u2 : P.underlying f2.type = some (.int .i64)
  t3 : f3.type = Tt
  o0 : f0.offset = 0
  o1 : f1.offset = 1
  o2 : f2.offset = 2
  o3 : f3.offset = 3
  c0 : P.cellsOf f0.type = 1
  c1 : P.cellsOf f1.type = 1
  c2 : P.cellsOf f2.type = 1
  cT : P.cellsOf T = 7
theorem rd_i3t {b : DataW H → Nat} {bs : List (DataW H) → Nat} (hb : Bulk b bs) {T Tt : TypeId} {g0 g1 g2 g3 f0 f1 f2 f3 : Field} (hT : TmTy P Tt g0 g1 g2 g3) (hV : I3TTy P T Tt f0 f1 f2 f3) (fuel : Nat) :
    RdN enc P w b fuel T FI3T (fun v => v.2.1.bk + 3) := by
  intro cs x h
  obtain ⟨xs, n, rfl, rfl, hl, hxl, hf⟩ := DataW.trod_struct hV.str h
  rw [hV.cT] at hl
  match cs, hl with
  | [v0, v1, v2, v3, v4, v5, v6], _ =>
  match xs, hxl with
  | [x0, x1, x2, x3], _ =>
  have q0 := hf 0 f0 rfl
  have q1 := hf 1 f1 rfl
  have q2 := hf 2 f2 rfl
  have q3 := hf 3 f3 rfl
  rw [hV.o0, hV.c0] at q0
  rw [hV.o1, hV.c1] at q1
  rw [hV.o2, hV.c2] at q2
  rw [hV.o3, hV.t3, hT.cT] at q3
  obtain ⟨i, r0, z0⟩ := rd_num (b := b) hV.u0 hb.one n _ _ q0
  obtain ⟨j, r1, z1⟩ := rd_num (b := b) hV.u1 hb.one n _ _ q1
  obtain ⟨k, r2, z2⟩ := rd_num (b := b) hV.u2 hb.one n _ _ q2
  obtain ⟨t, r3, z3⟩ := rd_termI hb hT n _ _ q3
  have z0 : 1 ≤ b x0.1 := z0
  have z1 : 1 ≤ b x1.1 := z1
  have z3 : t.1.bk ≤ b x3.1 := z3
  refine ⟨(⟨(i.1, j.1, k.1), wf_range i.2, wf_range j.2, wf_range k.2⟩, t), .cons (LRep.one r0) (.cons (LRep.one r1) (.cons (LRep.one r2) r3)), ?_⟩
  show t.1.bk + 3 ≤ b (.agg [x0.1, x1.1, x2.1, x3.1])
  have h9 := hb.agg [x0.1, x1.1, x2.1, x3.1]
  simp only [hb.cons, hb.nil] at h9
  omega
end
end Go.AM
