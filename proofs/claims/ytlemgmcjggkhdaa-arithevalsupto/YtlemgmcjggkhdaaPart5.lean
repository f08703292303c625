/- A calculus of plain values for the model's code, what the code of each function asks (computed by the kernel), contracts of the functions, and plain laws (part 5). No conditions. -/
import Derived.Test.YtlemgmcjggkhdaaPart4
import Derived.Test.YtlemgmcjggkhdaaPart2
import Derived.ProofKit
import Derived.OpenShut
import Derived.JoinedCond
import Derived.WalkKit
import Derived.Test.YtlemgmcjggkhdaaRows
set_option maxRecDepth 100000
open Go Go.Proofs
namespace Go.AM

/-! ### Eval: its code -/
def evOK (f : Int) (z : Int × Int × Int) : Prop := z.2.2 = 0 → I64 z.1 ∧ ∃ u : Nat, u ≤ f.toNat ∧ z.2.1 = f - (u : Int)
theorem finE_ok {op : List UInt8} {a b l f : Int} (ha : I64 a) (hb : I64 b) (hl : ∃ u : Nat, u ≤ f.toNat ∧ l = f - (u : Int)) : evOK f (finE op a b l) := by
  intro h
  unfold finE at *
  split at h
  · rename_i q; exact absurd h q
  · rename_i q; rw [if_neg q]; exact ⟨doV_I64 _ _ _ ha hb, hl⟩
theorem I64_0 : I64 0 := by unfold I64; omega
abbrev hpE (s : Sto) (h : Tm) (a b : Int) : AHeap := [(0, sto2 1 2 s), (1, .arz 6 (SR s.V)), (2, .arz 1 (IR s.T)), (3, .arr 4 [cT h]), (4, .arr 2 [[.a (.fz (.int .i64 a)), .a (.fz (.int .i64 b))]])]
abbrev enE (f : Int) (l : List Tm) (i : Int) : Env := [(0, aS 0), (2, ci f), (10, .c (.a (.ep 3 4 0 0))), (13, .c (.a (.ep 4 2 0 0))), (55, aL l), (56, ci (((FTs l).length : Nat) : Int)), (57, ci i)]
theorem end_in : ((0 : Int) ≤ 0 ∧ (0 : Int) < ((2 : Nat) : Int)) ∧ ((0 : Int) ≤ 1 ∧ (1 : Int) < ((2 : Nat) : Int)) := by omega
theorem fin_br {s : Sto} {op : List UInt8} {a b left : Int} : br ((doV op a b).2 != 0) (TV.Le (.tup [(false, [.a (.fz (.int .i64 0))]), (false, [.a (.fz (.int .i64 0))]), (false, [.a (.fz (.int .i64 (doV op a b).2))])]) (t3 (finE op a b left)) ∧ oS s = oS s)
    (TV.Le (.tup [(false, [.a (.fz (.int .i64 (doV op a b).1))]), (false, [.a (.fz (.int .i64 left))]), (false, [.a (.fz (.int .i64 0))])]) (t3 (finE op a b left)) ∧ oS s = oS s) := by
  refine br_of (fun h => ?_) (fun h => ?_)
  · exact le3 (if_pos (by simpa using h))
  · exact le3 (if_neg (by simpa using h))
/-- One argument. -/
theorem l_eval1 (s : Sto) (h x : Tm) (f : Int) (z : Int × Int × Int) (hx : AC Try.prog 40 [aS 0, aT x, ci f] (oS s) (t3 z) (oS s)) (hz : z.2.2 = 0 → I64 z.1) :
    RPt Try.prog 40 3 (t3 (ev1 h.s z)) (oS s) 1 ⟨enE f [x] 0, hpE s h 0 0, 5⟩ := by
  obtain ⟨k, str, n, l⟩ := h
  refine RPt.vc hP sh lv40 (Eq.mpr (v40_1a f (FTs [x]) _ s.V.length s.T.length (SR s.V) (IR s.T) k str n (FTs l) 0 0 _ _) ?_)
  rw [aE0]
  refine br_of (fun _ => ⟨el0 x [], _, _, _, hx, end_in.1, br_of (fun h => le3 (if_pos (by simpa using h))) (fun h => ?_)⟩) (fun h => absurd (of_decide_eq_false h) (by rw [FTs_length]; simp))
  have hz0 : z.2.2 = 0 := by simpa using h
  have e : ev1 str z = finE str z.1 0 z.2.1 := if_neg (by rw [hz0]; simp)
  show RPt _ _ _ (t3 (ev1 str z)) _ _ _
  rw [e]
  refine RPt.vc hP sh lv40 (Eq.mpr (v40_1b z.2.1 (FTs [x]) _ s.V.length s.T.length (SR s.V) (IR s.T) k str n (FTs l) z.1 0 _ _) ?_)
  refine br_of (fun h => absurd (of_decide_eq_true h) (by rw [FTs_length]; simp)) (fun _ => ⟨end_in.1, end_in.2, _, _, c_ado str z.1 0 (hz hz0) I64_0, fin_br⟩)
/-- Two. -/
theorem l_eval2 (s : Sto) (h x y : Tm) (f : Int) (z z2 : Int × Int × Int) (hx : AC Try.prog 40 [aS 0, aT x, ci f] (oS s) (t3 z) (oS s)) (hz : z.2.2 = 0 → I64 z.1) (hy : z.2.2 = 0 → AC Try.prog 40 [aS 0, aT y, ci z.2.1] (oS s) (t3 z2) (oS s) ∧ (z2.2.2 = 0 → I64 z2.1))
    (r : Int × Int × Int) (hr : r = if z.2.2 ≠ 0 then (0, 0, z.2.2) else if z2.2.2 ≠ 0 then (0, 0, z2.2.2) else finE h.s z.1 z2.1 z2.2.1) :
    RPt Try.prog 40 3 (t3 r) (oS s) 1 ⟨enE f [x, y] 0, hpE s h 0 0, 5⟩ := by
  subst hr
  obtain ⟨k, str, n, l⟩ := h
  refine RPt.vc hP sh lv40 (Eq.mpr (v40_1a f (FTs [x, y]) _ s.V.length s.T.length (SR s.V) (IR s.T) k str n (FTs l) 0 0 _ _) ?_)
  rw [aE0]
  refine br_of (fun _ => ⟨el0 x [y], _, _, _, hx, end_in.1, br_of (fun h => le3 (if_pos (by simpa using h))) (fun h => ?_)⟩) (fun h => absurd (of_decide_eq_false h) (by rw [FTs_length]; simp))
  have hz0 : z.2.2 = 0 := by simpa using h
  rw [if_neg (by rw [hz0]; simp)]
  obtain ⟨hy1, hy2⟩ := hy hz0
  refine RPt.vc hP sh lv40 (Eq.mpr (v40_1b z.2.1 (FTs [x, y]) _ s.V.length s.T.length (SR s.V) (IR s.T) k str n (FTs l) z.1 0 _ _) ?_)
  rw [aE1]
  refine br_of (fun _ => ⟨el1 x y [], _, _, _, hy1, end_in.2, br_of (fun h => le3 (if_pos (by simpa using h))) (fun h => ?_)⟩) (fun h => absurd (of_decide_eq_false h) (by rw [FTs_length]; simp))
  have hz2 : z2.2.2 = 0 := by simpa using h
  rw [if_neg (by rw [hz2]; simp)]
  refine RPt.vc hP sh lv40 (Eq.mpr (v40_1c z2.2.1 (FTs [x, y]) _ s.V.length s.T.length (SR s.V) (IR s.T) k str n (FTs l) z.1 z2.1 _ _) ?_)
  refine br_of (fun h => absurd (of_decide_eq_true h) (by rw [FTs_length]; simp)) (fun _ => ⟨end_in.1, end_in.2, _, _, c_ado str z.1 z2.1 (hz hz0) (hy2 hz2), fin_br⟩)
theorem splitF_kid {t : Tm} : ∀ u ∈ (splitF t).2, u ∈ t.l ∧ validB t = true ∧ t.k = 6 := by
  intro u hu
  unfold splitF at hu
  split at hu
  · rename_i q; exact ⟨List.mem_of_mem_drop hu, q.2, q.1⟩
  · cases hu
theorem c_aeval (s : Sto) (hs : OKS s) (hn : OKN s) : ∀ (D : Nat) (f : Int) (t : Tm), 0 - 9223372036854775808 ≤ f → f ≤ 4611686018427387904 → t.sz ≤ B → (validB t = true → Fit f.toNat t) → okN t → t.sz + 4200 * f.toNat ≤ D →
    AC Try.prog 40 [aS 0, aT t, ci f] (oS s) (t3 (evalV s D f t)) (oS s) ∧ evOK f (evalV s D f t) := by
  intro D
  induction D with
  | zero => intro f t _ _ _ _ _ h; have := t.sz_pos; omega
  | succ D ih =>
    intro f t h0 h1 hz hf hN hD
    have hH := c_sHead s hs f t h0 hz hf
    have hK := headV_spec hs (f := f) (t := t) hf
    have hN2 := headV_N (f := f) hn hN
    have eE : evalV s (D + 1) f t = evK (evalV s D) (headV s f t) := rfl
    rw [eE]
    generalize headV s f t = q at *
    obtain ⟨h, left, e⟩ := q
    simp only at hH hK hN2
    by_cases he : e = 0
    case neg =>
      have e1 : evK (evalV s D) (h, left, e) = (0, 0, e) := if_pos he
      rw [e1]
      refine ⟨?_, fun q => absurd q he⟩
      obtain ⟨k, str, n, l⟩ := t
      refine AC.vc hP sh lv40 (Nat.le_refl _) (by simp [isLive]) (by simp) (Eq.mpr (v40 k str n (FTs l) ..) ?_)
      exact ⟨(_, _, _), hH, br_of (fun _ => le3 rfl) (fun q => absurd (by simpa using q) he)⟩
    subst he
    obtain ⟨u, hu1, hu2, hv, hfh, hsz⟩ := hK rfl
    clear hK
    have hft : left.toNat = f.toNat - u := by omega
    by_cases h2 : h.k = 2
    · have e1 : evK (evalV s D) (h, left, 0) = (h.n, left, 0) := by rw [evK, if_neg (by simp), if_pos h2]
      rw [e1]
      refine ⟨?_, fun _ => ⟨?_, u, hu1, hu2⟩⟩
      · obtain ⟨k, str, n, l⟩ := t
        refine AC.vc hP sh lv40 (Nat.le_refl _) (by simp [isLive]) (by simp) (Eq.mpr (v40 k str n (FTs l) ..) ?_)
        exact ⟨(_, _, _), hH, br_of (fun q => by cases q) (fun _ => br_of (fun _ => le3 rfl) (fun q => absurd h2 (by simpa using q)))⟩
      · obtain ⟨k, str, n, l⟩ := h; exact hN2.1 h2
    have e1 : evK (evalV s D) (h, left, 0) = evA (evalV s D) left (splitF h).1 (splitF h).2 := by rw [evK, if_neg (by simp), if_neg h2]
    rw [e1]
    have hsp := c_csplit h (by have := hfh.sz; simp only [SZ, B] at *; omega)
    have kid := fun u hu => splitF_kid (t := h) u hu
    generalize splitF h = p at *
    obtain ⟨ph, pl⟩ := p
    simp only at hsp kid ⊢
    have ha := c_aargs ph.s
    -- what an argument comes to
    have arg : ∀ x ∈ pl, ∀ g : Int, (∃ w : Nat, w ≤ left.toNat ∧ g = left - (w : Int)) → AC Try.prog 40 [aS 0, aT x, ci g] (oS s) (t3 (evalV s D g x)) (oS s) ∧ evOK g (evalV s D g x) := by
      intro x hx g hg
      obtain ⟨w, hw1, hw2⟩ := hg
      obtain ⟨k1, k2, k3⟩ := kid x hx
      have hlt := Tm.szs_mem k1
      have hse := h.sz_eq
      have hgt : g.toNat = left.toNat - w := by omega
      have hfx : Fit left.toNat x := by rw [hft]; exact hfh.kid k1
      refine ih g x (by omega) (by omega) (by have := hfx.sz; simp only [SZ, B] at *; omega) (fun _ => hfx.mono (by omega)) ?_ (by omega)
      exact okNs_mem (okN_l hN2) k1
    have left0 : ∃ w : Nat, w ≤ left.toNat ∧ left = left - (w : Int) := ⟨0, Nat.zero_le _, by omega⟩
    have back : ∀ {g : Int} {z : Int × Int × Int}, (∃ w : Nat, w ≤ left.toNat ∧ g = left - (w : Int)) → (∃ v : Nat, v ≤ g.toNat ∧ z.2.1 = g - (v : Int)) → ∃ v : Nat, v ≤ f.toNat ∧ z.2.1 = f - (v : Int) := by
      intro g z h1 h2
      obtain ⟨w, a, b⟩ := h1
      obtain ⟨v, c, d⟩ := h2
      exact ⟨u + w + v, by omega, by omega⟩
    have back2 : ∀ {g : Int} {z : Int × Int × Int}, (∃ w : Nat, w ≤ left.toNat ∧ g = left - (w : Int)) → (∃ v : Nat, v ≤ g.toNat ∧ z.2.1 = g - (v : Int)) → ∃ v : Nat, v ≤ left.toNat ∧ z.2.1 = left - (v : Int) := by
      intro g z h1 h2
      obtain ⟨w, a, b⟩ := h1
      obtain ⟨v, c, d⟩ := h2
      exact ⟨w + v, by omega, by omega⟩
    have goal : ∀ r : Int × Int × Int, r = evA (evalV s D) left ph pl → (ph.k = 0 → argsV ph.s ≠ 0 → argsV ph.s = (pl.length : Int) → RPt Try.prog 40 3 (t3 r) (oS s) 1 ⟨enE left pl 0, hpE s ph 0 0, 5⟩) → AC Try.prog 40 [aS 0, aT t, ci f] (oS s) (t3 r) (oS s) := fun r hr hgo => by
      obtain ⟨k, str, n, l⟩ := t
      refine AC.vc hP sh lv40 (Nat.le_refl _) (by simp [isLive]) (by simp) (Eq.mpr (v40 k str n (FTs l) ..) ?_)
      have no : (ph.k ≠ 0 ∨ argsV ph.s = 0 ∨ argsV ph.s ≠ (pl.length : Int)) → r = (0, 0, 180) := fun q => hr.trans (if_pos q)
      refine ⟨(_, _, _), hH, br_of (fun q => by cases q) (fun _ => br_of (fun q => absurd (by simpa using q) h2) (fun _ => ⟨(_, _), hsp, _, ha, br_of (fun q => le3 (no (.inl (by simpa using q)))) (fun q1 => br_of (fun q => le3 (no (.inr (.inl (by simpa using q))))) (fun q2 => ⟨rfl, br_of (fun q => le3 (no (.inr (.inr ?_)))) (fun q3 => ⟨rfl, ?_⟩)⟩))⟩))⟩
      · rw [lenI] at q; simpa using q
      · rw [lenI] at q3
        exact hgo (by simpa using q1) (by simpa using q2) (by simpa using q3)
    by_cases hc : ph.k ≠ 0 ∨ argsV ph.s = 0 ∨ argsV ph.s ≠ (pl.length : Int)
    · have e2 : evA (evalV s D) left ph pl = (0, 0, 180) := if_pos hc
      refine ⟨goal _ rfl (fun a b c => by rcases hc with q | q | q; · exact absurd a q
                                          · exact absurd q b
                                          · exact absurd c q), fun q => by rw [e2] at q; cases q⟩
    match pl, arg, goal, hc with
    | [], _, _, hc => rcases argsV_n ph.s with q | q | q <;> exfalso <;> exact hc (by rw [q]; simp)
    | [x], arg, goal, hc =>
      have e2 : evA (evalV s D) left ph [x] = ev1 ph.s (evalV s D left x) := if_neg hc
      obtain ⟨a1, a2⟩ := arg x (by simp) left left0
      rw [e2]
      refine ⟨goal _ e2.symm fun _ _ _ => l_eval1 s ph x left _ a1 (fun q => (a2 q).1), fun q => ?_⟩
      by_cases q0 : (evalV s D left x).2.2 = 0
      · have e3 : ev1 ph.s (evalV s D left x) = finE ph.s (evalV s D left x).1 0 (evalV s D left x).2.1 := if_neg (by rw [q0]; simp)
        rw [e3] at q ⊢
        exact finE_ok (f := f) (a2 q0).1 I64_0 (back left0 (a2 q0).2) q
      · have e3 : ev1 ph.s (evalV s D left x) = (0, 0, (evalV s D left x).2.2) := if_pos q0
        rw [e3] at q; exact absurd q q0
    | x :: y :: r, arg, goal, hc =>
      have hr : r = [] := by
        rcases argsV_n ph.s with q | q | q
        · exact absurd (.inr (.inl q)) hc
        · exact absurd (.inr (.inr (by rw [q]; simp only [List.length_cons]; omega))) hc
        · refine List.eq_nil_of_length_eq_zero ?_
          by_cases w : r.length = 0
          · exact w
          · exact absurd (.inr (.inr (by rw [q]; simp only [List.length_cons]; omega))) hc
      subst hr
      have e2 : evA (evalV s D) left ph [x, y] = ev2 (evalV s D) ph.s y (evalV s D left x) := if_neg hc
      obtain ⟨a1, a2⟩ := arg x (by simp) left left0
      have a3 := fun q => arg y (by simp) (evalV s D left x).2.1 (back2 left0 (a2 q).2)
      rw [e2]
      refine ⟨goal _ e2.symm fun _ _ _ => l_eval2 s ph x y left _ _ a1 (fun q => (a2 q).1) (fun q => ⟨(a3 q).1, fun w => ((a3 q).2 w).1⟩) _ rfl, fun q => ?_⟩
      unfold ev2 at q ⊢
      by_cases q0 : (evalV s D left x).2.2 = 0
      · rw [if_neg (by rw [q0]; simp)] at q ⊢
        by_cases q1 : (evalV s D (evalV s D left x).2.1 y).2.2 = 0
        · rw [if_neg (by rw [q1]; simp)] at q ⊢
          exact finE_ok (f := f) (a2 q0).1 ((a3 q0).2 q1).1 (back (back2 left0 (a2 q0).2) ((a3 q0).2 q1).2) q
        · rw [if_pos q1] at q; exact absurd q q1
      · rw [if_pos q0] at q; exact absurd q q0

end Go.AM

set_option maxRecDepth 100000
open Go Go.Proofs
namespace Go.AM

/-! ### A store without variables -/
abbrev s0 : Sto := ⟨[], []⟩
theorem ok_s0 : OKS s0 := fun i hi => by cases hi
theorem okn_s0 : OKN s0 := fun i hi => by cases hi
theorem val_s0 (t : Tm) : valB s0 t = false := by
  rw [valB, infOf_out (by simp only [List.length_nil]; omega)]; simp [noI]
/-! ### More fuel -/
theorem runH_used (s : Sto) : ∀ (F : Nat) (t : Tm), (runH s F t).2.2 ≤ F
  | 0, t => by rw [runH]; split <;> exact Nat.le_refl _
  | F + 1, t => by
    rw [runH]
    split
    · exact Nat.zero_le _
    · split
      · exact Nat.zero_le _
      · have := runH_used s F (stepS s t).1
        simp only; omega
theorem runH_err (s : Sto) : ∀ (F : Nat) (t : Tm), (runH s F t).2.1 = 0 ∨ (runH s F t).2.1 = 80
  | 0, t => by rw [runH]; split; · exact .inl rfl
               · exact .inr rfl
  | F + 1, t => by
    rw [runH]
    split
    · exact .inl rfl
    · split
      · exact .inr rfl
      · exact runH_err s F _
theorem runH_more (s : Sto) : ∀ (F : Nat) (t : Tm) (d : Nat), (runH s F t).2.1 = 0 → runH s (F + d) t = runH s F t
  | 0, t, d, h => by
    have h0 : (stepS s t).2 = 0 := by
      by_cases q : (stepS s t).2 = 0
      · exact q
      · rw [runH, if_neg q] at h; cases h
    have e : ∀ F, runH s F t = (t, 0, 0) := fun F => by
      cases F with
      | zero => rw [runH, if_pos h0]
      | succ F => rw [runH, if_pos h0]
    rw [e, e]
  | F + 1, t, d, h => by
    rw [show F + 1 + d = (F + d) + 1 by omega]
    rw [runH] at h
    rw [runH, runH]
    split
    · rfl
    · rename_i q
      rw [if_neg q] at h
      split
      · rfl
      · rename_i q2
        rw [if_neg q2] at h
        rw [runH_more s F _ d h]
theorem headV_more (s : Sto) {f f' : Int} (t : Tm) (h0 : 0 ≤ f) (h1 : f ≤ f') (h : (headV s f t).2.2 ≠ 80) :
    (headV s f' t).1 = (headV s f t).1 ∧ (headV s f' t).2.2 = (headV s f t).2.2 ∧ ((headV s f t).2.2 = 0 → (headV s f' t).2.1 = (headV s f t).2.1 + (f' - f) ∧ 0 ≤ (headV s f t).2.1) := by
  unfold headV at h ⊢
  split
  · rename_i hv
    rw [if_pos hv] at h
    have e0 : (runH s f.toNat t).2.1 = 0 := by
      rcases runH_err s f.toNat t with q | q
      · exact q
      · rw [if_neg (by rw [q]; simp)] at h; exact absurd q h
    have em := runH_more s f.toNat t (f'.toNat - f.toNat) e0
    rw [show f.toNat + (f'.toNat - f.toNat) = f'.toNat by omega] at em
    have hu := runH_used s f.toNat t
    rw [em, if_pos e0, if_pos e0]
    refine ⟨rfl, rfl, fun _ => ⟨?_, ?_⟩⟩
    · simp only; omega
    · simp only; omega
  · exact ⟨rfl, rfl, fun q => by cases q⟩
def More (f f' : Int) (z z' : Int × Int × Int) : Prop := z.2.2 ≠ 80 → z'.1 = z.1 ∧ z'.2.2 = z.2.2 ∧ (z.2.2 = 0 → z'.2.1 = z.2.1 + (f' - f) ∧ 0 ≤ z.2.1)
theorem More.same {f f' : Int} {z : Int × Int × Int} (h : z.2.2 ≠ 0) : More f f' z z := fun _ => ⟨rfl, rfl, fun q => absurd q h⟩
theorem finE_more {op : List UInt8} {a b l l' f f' : Int} (h : l' = l + (f' - f)) (h0 : 0 ≤ l) : More f f' (finE op a b l) (finE op a b l') := by
  intro _
  unfold finE
  split
  · rename_i q; exact ⟨rfl, rfl, fun r => absurd r q⟩
  · exact ⟨rfl, rfl, fun _ => ⟨h, h0⟩⟩
theorem ev1_more {op : List UInt8} {z z' : Int × Int × Int} {f f' : Int} (h : More f f' z z') : More f f' (ev1 op z) (ev1 op z') := by
  unfold ev1
  by_cases q : z.2.2 = 0
  · obtain ⟨h1, h2, h3⟩ := h (by rw [q]; simp)
    rw [if_neg (by rw [q]; simp), if_neg (by rw [h2, q]; simp), h1]
    exact finE_more (h3 q).1 (h3 q).2
  · intro h80
    rw [if_pos q] at h80
    obtain ⟨h1, h2, h3⟩ := h h80
    rw [if_pos q, if_pos (by rw [h2]; exact q), h2]
    exact ⟨rfl, rfl, fun r => absurd r q⟩
theorem ev2_more {ev : Int → Tm → Int × Int × Int} {op : List UInt8} {y : Tm} {z z' : Int × Int × Int} {f f' : Int} (hf : f ≤ f') (hev : ∀ g g' : Int, 0 ≤ g → g ≤ g' → More g g' (ev g y) (ev g' y)) (h : More f f' z z') : More f f' (ev2 ev op y z) (ev2 ev op y z') := by
  unfold ev2
  by_cases q : z.2.2 = 0
  · obtain ⟨h1, h2, h3⟩ := h (by rw [q]; simp)
    obtain ⟨h4, h5⟩ := h3 q
    have hy := hev z.2.1 z'.2.1 h5 (by omega)
    rw [if_neg (by rw [q]; simp), if_neg (show ¬ z'.2.2 ≠ 0 by rw [h2, q]; simp)]
    by_cases w : (ev z.2.1 y).2.2 = 0
    · obtain ⟨k1, k2, k3⟩ := hy (by rw [w]; simp)
      rw [if_neg (by rw [w]; simp), if_neg (show ¬ (ev z'.2.1 y).2.2 ≠ 0 by rw [k2, w]; simp), h1, k1]
      exact finE_more (by have := (k3 w).1; omega) (k3 w).2
    · intro h80
      rw [if_pos w] at h80
      obtain ⟨k1, k2, k3⟩ := hy h80
      rw [if_pos w, if_pos (show (ev z'.2.1 y).2.2 ≠ 0 by rw [k2]; exact w), k2]
      exact ⟨rfl, rfl, fun r => absurd r w⟩
  · intro h80
    rw [if_pos q] at h80
    obtain ⟨h1, h2, h3⟩ := h h80
    rw [if_pos q, if_pos (show z'.2.2 ≠ 0 by rw [h2]; exact q), h2]
    exact ⟨rfl, rfl, fun r => absurd r q⟩
theorem evA_more {ev : Int → Tm → Int × Int × Int} (hev : ∀ (x : Tm) (g g' : Int), 0 ≤ g → g ≤ g' → More g g' (ev g x) (ev g' x)) (h : Tm) (l : List Tm) {f f' : Int} (h0 : 0 ≤ f) (h1 : f ≤ f') : More f f' (evA ev f h l) (evA ev f' h l) := by
  unfold evA
  split
  · exact More.same (by simp)
  · match l with
    | [] => exact More.same (by simp)
    | [x] => exact ev1_more (hev x f f' h0 h1)
    | x :: y :: _ => exact ev2_more h1 (hev y) (hev x f f' h0 h1)
theorem evalV_more (s : Sto) : ∀ (D : Nat) (t : Tm) (f f' : Int), 0 ≤ f → f ≤ f' → More f f' (evalV s D f t) (evalV s D f' t)
  | 0, _, _, _, _, _ => More.same (by rw [evalV]; simp)
  | D + 1, t, f, f', h0, h1 => by
    show More f f' (evK (evalV s D) (headV s f t)) (evK (evalV s D) (headV s f' t))
    by_cases q : (headV s f t).2.2 = 0
    · obtain ⟨g1, g2, g3⟩ := headV_more s t h0 h1 (by rw [q]; simp)
      obtain ⟨g4, g5⟩ := g3 q
      unfold evK
      rw [if_neg (by rw [q]; simp), if_neg (show ¬ (headV s f' t).2.2 ≠ 0 by rw [g2, q]; simp), g1]
      split
      · exact fun _ => ⟨rfl, rfl, fun _ => ⟨g4, g5⟩⟩
      · have := evA_more (ev := evalV s D) (fun x g g' a b => evalV_more s D x g g' a b) (splitF (headV s f t).1).1 (splitF (headV s f t).1).2 g5 (show (headV s f t).2.1 ≤ (headV s f' t).2.1 by omega)
        intro h80
        obtain ⟨k1, k2, k3⟩ := this h80
        exact ⟨k1, k2, fun r => by have := k3 r; omega⟩
    · intro h80
      have e : evK (evalV s D) (headV s f t) = (0, 0, (headV s f t).2.2) := if_pos q
      rw [e] at h80 ⊢
      obtain ⟨g1, g2, g3⟩ := headV_more s t h0 h1 h80
      have e' : evK (evalV s D) (headV s f' t) = (0, 0, (headV s f' t).2.2) := if_pos (by rw [g2]; exact q)
      rw [e', g2]
      exact ⟨rfl, rfl, fun r => absurd r q⟩
/-! ### An operation of two terms -/
theorem headV_none {s : Sto} {f : Int} {t : Tm} (hv : validB t = true) (h : (stepS s t).2 = 0) : headV s f t = (t, f, 0) := by
  have e : ∀ F, runH s F t = (t, 0, 0) := fun F => by
    cases F with
    | zero => rw [runH, if_pos h]
    | succ F => rw [runH, if_pos h]
  rw [headV, if_pos hv, e, if_pos rfl]; simp
theorem validB_bin {op : List UInt8} {a b : Tm} (ho : validB (.mk 0 op 0 []) = true) (ha : validB a = true) (hb : validB b = true) : validB (.mk 6 [] 0 [.mk 0 op 0 [], a, b]) = true := by
  rw [valid_iff, Bool.and_eq_true] at ho ha hb ⊢
  refine ⟨?_, ?_⟩
  · rw [okB]; simp only [okL, ho.1, ha.1, hb.1]; rfl
  · rw [lvB_in (.inr rfl)]; simp only [lvL, ho.2, ha.2, hb.2, Bool.and_self]
theorem eval_bin (D : Nat) (f : Int) (op : List UInt8) (a b : Tm) (ho : validB (.mk 0 op 0 []) = true) (ha : validB a = true) (hb : validB b = true) (h2 : argsV op = 2) :
    evalV s0 (D + 1) f (.mk 6 [] 0 [.mk 0 op 0 [], a, b]) = ev2 (evalV s0 D) op b (evalV s0 D f a) := by
  have hv := validB_bin ho ha hb
  have hst : (stepS s0 (.mk 6 [] 0 [.mk 0 op 0 [], a, b])).2 = 0 := by
    rw [stepS, if_neg (by rw [val_s0]; simp), if_neg (by simp [Tm.k]), if_neg (by rw [val_s0]; simp), if_pos (by simp [hd, Tm.l, Tm.k])]
  show evK (evalV s0 D) (headV s0 f _) = _
  rw [headV_none hv hst]
  have hs : splitF (.mk 6 [] 0 [.mk 0 op 0 [], a, b]) = (.mk 0 op 0 [], [a, b]) := if_pos ⟨rfl, hv⟩
  unfold evK
  rw [if_neg (by simp), if_neg (by simp [Tm.k]), hs]
  have hc : ¬ ((Tm.mk 0 op 0 []).k ≠ 0 ∨ argsV (Tm.mk 0 op 0 []).s = 0 ∨ argsV (Tm.mk 0 op 0 []).s ≠ (([a, b] : List Tm).length : Int)) := by
    show ¬ ((0 : Int) ≠ 0 ∨ argsV op = 0 ∨ argsV op ≠ _)
    rw [h2]; simp
  exact if_neg hc
theorem eval_int (D : Nat) (f n : Int) : evalV s0 (D + 1) f (.mk 2 [] n []) = (n, f, 0) := by
  show evK (evalV s0 D) (headV s0 f _) = _
  have hst : (stepS s0 (.mk 2 [] n [])).2 = 0 := by rw [stepS, if_neg (by rw [val_s0]; simp), if_pos (by simp [Tm.k])]
  rw [headV_none (by rfl) hst]
  rfl
/-! ### The document's examples -/
abbrev exI (n : Int) : Tm := .mk 2 [] n []
theorem c_works18 : AC Try.prog 35 [] [] (cb true) [] := by
  have d1 : doV [100, 105, 118] (-7) 2 = (-3, 0) := by decide
  have d2 : doV [109, 111, 100] (-7) 2 = (-1, 0) := by decide
  have d3 : doV [126] (-9223372036854775808) 0 = (0, 182) := by decide
  have r2 : I64 2 := by unfold I64; omega
  have r7 : I64 (-7) := by unfold I64; omega
  have rm : I64 (-9223372036854775808) := by unfold I64; omega
  have h1 := c_ado [100, 105, 118] (-7) 2 r7 r2
  have h2 := c_ado [109, 111, 100] (-7) 2 r7 r2
  have h3 := c_ado [126] (-9223372036854775808) 0 rm I64_0
  have h4 := c_apply (.mk 0 [42] 0 []) [exI 2, exI 3] (by decide)
  have h5 := c_apply (.mk 0 [43] 0 []) [exI 1, .mk 6 [] 0 [.mk 0 [42] 0 [], exI 2, exI 3]] (by decide)
  have fit : Fit 5 (.mk 6 [] 0 [.mk 0 [43] 0 [], exI 1, .mk 6 [] 0 [.mk 0 [42] 0 [], exI 2, exI 3]]) := fit_of (by decide +kernel)
  have h6 := (c_aeval s0 ok_s0 okn_s0 30000 5 (.mk 6 [] 0 [.mk 0 [43] 0 [], exI 1, .mk 6 [] 0 [.mk 0 [42] 0 [], exI 2, exI 3]]) (by omega) (by omega) (by decide) (fun _ => fit)
    (okI_N _ (by simp [okI, okIs])) (by decide)).1
  have e6 : evalV s0 30000 5 (.mk 6 [] 0 [.mk 0 [43] 0 [], exI 1, .mk 6 [] 0 [.mk 0 [42] 0 [], exI 2, exI 3]]) = (7, 5, 0) := by
    have hm : evalV s0 29999 5 (.mk 6 [] 0 [.mk 0 [42] 0 [], exI 2, exI 3]) = (6, 5, 0) := by
      rw [show (29999 : Nat) = 29998 + 1 from rfl, eval_bin _ _ _ _ _ (by rfl) (by rfl) (by rfl) (by rfl)]
      have h2 : evalV s0 29998 5 (exI 2) = (2, 5, 0) := eval_int 29997 5 2
      have h3 : evalV s0 29998 5 (exI 3) = (3, 5, 0) := eval_int 29997 5 3
      simp only [ev2, h2, h3]; decide
    rw [show (30000 : Nat) = 29999 + 1 from rfl, eval_bin _ _ _ _ _ (by rfl) (by rfl) (by rfl) (by rfl)]
    have h1 : evalV s0 29999 5 (exI 1) = (1, 5, 0) := eval_int 29998 5 1
    simp only [ev2, h1, hm]; decide
  have h7 := c_atest [61, 60] 3 3
  rw [d1] at h1; rw [d2] at h2; rw [d3] at h3; rw [e6] at h6
  refine AC.vc hP sh lv35 (Nat.le_refl _) (by simp) (by simp) (Eq.mpr (v35 ..) ?_)
  refine ⟨_, _, h1, _, _, h2, _, _, h3, (), c_snew, ⟨rfl, by omega⟩, .mk 6 [] 0 [.mk 0 [42] 0 [], exI 2, exI 3], h4.args ⟨e0, args2 (leFT (l := []) leNil) (leFT (l := []) leNil), trivial⟩, ⟨rfl, by omega⟩, .mk 6 [] 0 [.mk 0 [43] 0 [], exI 1, .mk 6 [] 0 [.mk 0 [42] 0 [], exI 2, exI 3]],
    h5.args ⟨e0, args2 (leFT (l := []) leNil) (LeR.refl _), trivial⟩, _, _, _, h6, _, _, h7, ?_⟩
  exact ret_b (by decide)

end Go.AM

set_option maxRecDepth 100000
open Go Go.Proofs
namespace Go.AM

/-! ### Variables more, bound -/
abbrev oS' (s : Sto) : List AObj := [sto2 3 4 s, .gone, .gone, .arz 6 (SR s.V), .arz 1 (IR s.T)]
def freshS (s : Sto) (lv : Int) : Sto := ⟨s.V ++ [⟨foldMax [lv, 0], false, noT⟩], s.T⟩
theorem sIR_length (l : List Int) : (IR l).length = l.length := by simp [IR]
theorem sIR_append (a b : List Int) : IR (a ++ b) = IR a ++ IR b := by simp [IR]
/-- Rows, one after another. -/
theorem ole_rows {n : Nat} {fs gs : List (List FV)} (hl : gs.length = fs.length) (h : ∀ (i : Nat) (e e' : List FV), fs[i]? = some e → gs[i]? = some e' → LeR e e') : OLe (.arz n fs) (.arz n gs) :=
  .rows n fs gs (by omega) (fun i e e' he he' => (h i e e' he he').length) (fun i j e e' f f' he he' hf hf' => (h i e e' he he').get j f f' hf hf')
theorem ole_app {n : Nat} {a : List (List FV)} {x y : List FV} (h : LeR x y) : OLe (.arz n (a ++ [x])) (.arz n (a ++ [y])) := by
  refine ole_rows (by simp) fun i e e' he he' => ?_
  by_cases q : i < a.length
  · rw [List.getElem?_append_left q] at he he'
    rw [he] at he'; injection he' with he'; subst he'; exact LeR.refl _
  · rw [List.getElem?_append_right (by omega)] at he he'
    cases hi : i - a.length with
    | zero => rw [hi] at he he'; simp at he he'; subst he; subst he'; exact h
    | succ k => rw [hi] at he; simp at he
theorem ole_set {n i : Nat} {a : List (List FV)} {x y : List FV} (h : LeR x y) : OLe (.arz n (a.set i x)) (.arz n (a.set i y)) := by
  refine ole_rows (by simp) fun j e e' he he' => ?_
  rw [List.getElem?_set] at he he'
  split at he
  · rename_i q
    rw [if_pos q] at he'
    split at he
    · rename_i q2; rw [if_pos q2] at he'; injection he with he; injection he' with he'; subst he; subst he'; exact h
    · cases he
  · rename_i q
    rw [if_neg q] at he'
    rw [he] at he'; injection he' with he'; subst he'; exact LeR.refl _
theorem c_sfresh (s : Sto) (lv : Int) (h : s.V.length ≤ 1073741824) : AC Try.prog 19 [aS 0, ci lv] (oS s) (ci (s.V.length : Int)) (oS' (freshS s lv)) := by
  have hrow : LeR [.int .i64 (foldMax [lv, 0]), .bool false, .int .i64 0, .str [], .int .i64 0, .nils] (Inf.c ⟨foldMax [lv, 0], false, noT⟩) := ⟨.refl _, .refl _, .refl _, .refl _, .refl _, leNil, trivial⟩
  have hV : (freshS s lv).V.length = s.V.length + 1 := by simp [freshS]
  refine AC.obj (Hs' := [.arr 2 [[.a (.osl 3 6 0 (s.V.length + 1)), .a (.osl 4 1 0 s.T.length)]], .gone, .gone, .arz 6 (SR s.V ++ [[.int .i64 (foldMax [lv, 0]), .bool false, .int .i64 0, .str [], .int .i64 0, .nils]]), .arz 1 (IR s.T)]) ?_ ⟨by rw [sto2, hV]; exact .refl _, .refl _, .refl _, ?_, .refl _, trivial⟩
  · refine AC.vc hP sh lv19 (by simp) (by simp [isLive]) (by simp [isLive]) (Eq.mpr (v19 ..) ?_)
    rw [w64 (x := (((s.V.length + 1 : Nat) : Int) - 1)) (by omega) (by omega), List.take_of_length_le (by rw [SR_length]; omega)]
    exact ⟨by omega, ⟨by rw [SR_length]; omega, by unfold roomB; omega⟩, by rw [show (((s.V.length + 1 : Nat) : Int) - 1) = (s.V.length : Int) by omega]; exact .refl _, rfl⟩
  · show OLe _ (.arz 6 (SR (s.V ++ [⟨foldMax [lv, 0], false, noT⟩])))
    rw [SR_append]
    exact ole_app hrow
theorem c_rfresh (s : Sto) (lv : Int) (h : s.V.length ≤ 1073741824) : AC Try.prog 42 [aS 0, ci lv] (oS s) (ci (s.V.length : Int)) (oS' (freshS s lv)) := by
  have hrow : LeR [.int .i64 (foldMax [lv, 0]), .bool false, .int .i64 0, .str [], .int .i64 0, .nils] (Inf.c ⟨foldMax [lv, 0], false, noT⟩) := ⟨.refl _, .refl _, .refl _, .refl _, .refl _, leNil, trivial⟩
  have hV : (freshS s lv).V.length = s.V.length + 1 := by simp [freshS]
  refine AC.obj (Hs' := [.arr 2 [[.a (.osl 3 6 0 (s.V.length + 1)), .a (.osl 4 1 0 s.T.length)]], .gone, .gone, .arz 6 (SR s.V ++ [[.int .i64 (foldMax [lv, 0]), .bool false, .int .i64 0, .str [], .int .i64 0, .nils]]), .arz 1 (IR s.T)]) ?_ ⟨by rw [sto2, hV]; exact .refl _, .refl _, .refl _, ?_, .refl _, trivial⟩
  · refine AC.vc hP sh lv42 (by simp) (by simp [isLive]) (by simp [isLive]) (Eq.mpr (v42 ..) ?_)
    rw [w64 (x := (((s.V.length + 1 : Nat) : Int) - 1)) (by omega) (by omega), List.take_of_length_le (by rw [SR_length]; omega)]
    exact ⟨by omega, ⟨by rw [SR_length]; omega, by unfold roomB; omega⟩, by rw [show (((s.V.length + 1 : Nat) : Int) - 1) = (s.V.length : Int) by omega]; exact .refl _, rfl⟩
  · show OLe _ (.arz 6 (SR (s.V ++ [⟨foldMax [lv, 0], false, noT⟩])))
    rw [SR_append]
    exact ole_app hrow
def bindB (s : Sto) (x : Int) (t : Tm) : Bool := inB s.V x && (!(infOf s.V x).bd && (validB t && decide (looseF t 0 0 ≤ 0)))
def bindS (s : Sto) (x : Int) (t : Tm) : Sto := if bindB s x t = true then ⟨s.V.set x.toNat ⟨(infOf s.V x).lv, true, t⟩, s.T ++ [x]⟩ else s
def bindE (s : Sto) (x : Int) (t : Tm) : Int := if bindB s x t = true then 0 else 1
theorem bind_no {s : Sto} {x : Int} {t : Tm} (h : bindB s x t = false) : bindS s x t = s ∧ bindE s x t = 1 := by
  unfold bindS bindE; rw [h]; exact ⟨rfl, rfl⟩
theorem bind_yes {s : Sto} {x : Int} {t : Tm} (h : bindB s x t = true) : bindS s x t = ⟨s.V.set x.toNat ⟨(infOf s.V x).lv, true, t⟩, s.T ++ [x]⟩ ∧ bindE s x t = 0 := by
  unfold bindS bindE; rw [h]; exact ⟨rfl, rfl⟩
theorem inB_of {V : List Inf} {x : Int} (h0 : 0 ≤ x) (h1 : x < (V.length : Int)) : inB V x = true := by simp [inB]; omega
theorem bind_end {s : Sto} {x : Int} {t : Tm} (hb : bindB s x t = true) (h0 : 0 ≤ x) (h1 : x < (s.V.length : Int)) {e : List FV} (he : LeR e (Inf.c ⟨(infOf s.V x).lv, true, t⟩)) :
    All2 OLe [.arr 2 [[.a (.osl 3 6 0 s.V.length), .a (.osl 4 1 0 (s.T.length + 1))]], .gone, .gone, .arz 6 (List.set (SR s.V) (0 + x.toNat) e), .arz 1 (IR s.T ++ [[.int .i64 x]])] (oS' (bindS s x t)) := by
  rw [(bind_yes hb).1]
  refine ⟨by rw [sto2, List.length_set, List.length_append]; exact .refl _, .refl _, .refl _, ?_, ?_, trivial⟩
  · show OLe _ (.arz 6 (SR (s.V.set x.toNat _)))
    rw [show SR (s.V.set x.toNat ⟨(infOf s.V x).lv, true, t⟩) = List.set (SR s.V) (0 + x.toNat) (Inf.c ⟨(infOf s.V x).lv, true, t⟩) by rw [Nat.zero_add, SR, SR, List.map_set]]
    exact ole_set he
  · show OLe _ (.arz 1 (IR (s.T ++ [x])))
    rw [sIR_append]; exact .refl _
theorem c_sbind (s : Sto) (x : Int) (t : Tm) (hT : s.T.length ≤ 1073741824) (hz : t.sz ≤ B) (hb : bd M61 t) : AC Try.prog 20 [aS 0, ci x, aT t] (oS s) (ci (bindE s x t)) (oS' (bindS s x t)) := by
  have h1 := c_sinfo s x
  have h2 := c_valid t hz
  have h3 := c_loose t hz hb
  have hB : bindB s x t = (inB s.V x && (!(infOf s.V x).bd && (validB t && decide (looseF t 0 0 ≤ 0)))) := rfl
  cases hq : bindB s x t with
  | false =>
    rw [(bind_no hq).1, (bind_no hq).2]
    rw [hq] at hB
    obtain ⟨k, str, n, l⟩ := t
    refine AC.vc hP sh lv20 (by simp) (by simp [isLive]) (by simp [isLive]) (Eq.mpr (v20 x k str n (FTs l) ..) ?_)
    refine ⟨(_, _, _, _), h1, br_of (fun _ => ⟨.refl _, rfl⟩) (fun e1 => br_of (fun _ => ⟨.refl _, rfl⟩) (fun e2 => ⟨_, h2, br_of (fun _ => ⟨.refl _, rfl⟩) (fun e3 => ⟨_, h3, br_of (fun _ => ⟨.refl _, rfl⟩) (fun e4 => ?_)⟩)⟩))⟩
    exfalso
    have e1 : (!(inB s.V x)) = false := e1
    have e1 : inB s.V x = true := by cases h : inB s.V x; · rw [h] at e1; cases e1
                                     · rfl
    have e2 : (infOf s.V x).bd = false := e2
    have e3 : validB (.mk k str n l) = true := by simpa using e3
    rw [e1, e2, e3, decide_eq_true (by have := of_decide_eq_false e4; omega)] at hB
    cases hB
  | true =>
    rw [(bind_yes hq).2]
    have hq' := hq
    rw [hB] at hq'
    simp only [Bool.and_eq_true, Bool.not_eq_true', decide_eq_true_eq] at hq'
    obtain ⟨g1, g2, g3, g4⟩ := hq'
    have g1' : 0 ≤ x ∧ x < (s.V.length : Int) := by simp [inB] at g1; omega
    refine AC.obj (Hs' := [.arr 2 [[.a (.osl 3 6 0 s.V.length), .a (.osl 4 1 0 (s.T.length + 1))]], .gone, .gone, .arz 6 (List.set (SR s.V) (0 + x.toNat) [.int .i64 (infOf s.V x).lv, .bool true, .int .i64 t.k, .str t.s, .int .i64 t.n, .sl false 4 (FTs t.l)]), .arz 1 (IR s.T ++ [[.int .i64 x]])]) ?_ (bind_end hq g1'.1 g1'.2 (show LeR [.int .i64 (infOf s.V x).lv, .bool true, .int .i64 t.k, .str t.s, .int .i64 t.n, .sl false 4 (FTs t.l)] (Inf.c ⟨(infOf s.V x).lv, true, t⟩) from LeR.refl _))
    obtain ⟨hl, ei⟩ := infOf_in g1'.1 g1'.2
    obtain ⟨k, str, n, l⟩ := t
    refine AC.vc hP sh lv20 (by simp) (by simp [isLive]) (by simp [isLive]) (Eq.mpr (v20 x k str n (FTs l) ..) ?_)
    refine ⟨(_, _, _, _), h1, br_of (fun e => by have e : (!(inB s.V x)) = true := e; rw [g1] at e; cases e) (fun _ => br_of (fun e => by have e : (infOf s.V x).bd = true := e; rw [g2] at e; cases e) (fun _ => ⟨_, h2, br_of (fun e => by rw [g3] at e; cases e) (fun _ => ⟨_, h3, br_of (fun e => absurd (of_decide_eq_true e) (by omega)) (fun _ => ⟨g1', ⟨by rw [SR_length]; omega, ?_⟩, by omega, ⟨by rw [sIR_length]; omega, by unfold roomB; omega⟩, .refl _, ?_⟩)⟩)⟩))⟩
    · rw [Nat.zero_add, SR_get hl]; rfl
    · rw [List.take_of_length_le (by rw [sIR_length]; omega)]; rfl
theorem looseR_pos (t : Tm) (k : Int) : 0 ≤ looseR t k := by
  obtain ⟨kd, s, n, l⟩ := t
  rw [looseR]
  split
  · unfold maxI; split <;> omega
  · split
    · exact looseRL_ge _ _
    · exact Int.le_refl _
theorem c_rbind (s : Sto) (x : Int) (t : Tm) (hT : s.T.length ≤ 1073741824) (hz : t.bk ≤ B) (hb : bd M61 t) : AC Try.prog 43 [aS 0, ci x, aT t] (oS s) (ci (bindE s x t)) (oS' (bindS s x t)) := by
  have h2 := c_rvalid t hz
  have hz' : t.sz ≤ B := Nat.le_trans (Tm.sz_bk t) hz
  have h3 := c_rloose t hz' hb 0 (Int.le_refl _) (by simp only [B] at hz'; omega)
  have hB : bindB s x t = (inB s.V x && (!(infOf s.V x).bd && (validB t && decide (looseF t 0 0 ≤ 0)))) := rfl
  have hloose : looseF t 0 0 = looseR t 0 := by
    rw [loose_acc t 0 0 (Int.le_refl _)]
    have := looseR_pos t 0
    unfold maxI; split <;> omega
  rw [hloose] at hB
  cases hq : bindB s x t with
  | false =>
    rw [(bind_no hq).1, (bind_no hq).2]
    rw [hq] at hB
    obtain ⟨k, str, n, l⟩ := t
    refine AC.vc hP sh lv43 (by simp) (by simp [isLive]) (by simp [isLive]) (Eq.mpr (v43 x k str n (FTs l) ..) ?_)
    refine ⟨_, h2, br_of (fun _ => ⟨.refl _, rfl⟩) (fun e1 => br_of (fun _ => ⟨.refl _, rfl⟩) (fun e2 => br_of (fun _ => ⟨.refl _, rfl⟩) (fun e3 => ?_)))⟩
    have e1 := of_decide_eq_false e1
    have e2 := of_decide_eq_false e2
    have g1' : 0 ≤ x ∧ x < (s.V.length : Int) := by omega
    obtain ⟨hl, ei⟩ := infOf_in g1'.1 g1'.2
    rw [show List.getD (SR s.V) (0 + Int.toNat x) [] = Inf.c s.V[x.toNat] by rw [Nat.zero_add, SR_get hl], ← ei]
    refine ⟨g1', ⟨by rw [SR_length]; omega, rfl, rfl⟩, br_of (fun _ => ⟨.refl _, rfl⟩) (fun e4 => ⟨_, h3, br_of (fun _ => ⟨.refl _, rfl⟩) (fun e5 => ?_)⟩)⟩
    exfalso
    have e3 : validB (.mk k str n l) = true := by simpa using e3
    have e4 : (infOf s.V x).bd = false := e4
    rw [inB_of g1'.1 g1'.2, e4, e3, decide_eq_true (by have := of_decide_eq_false e5; omega)] at hB
    cases hB
  | true =>
    rw [(bind_yes hq).2]
    have hq' := hq
    rw [hB] at hq'
    simp only [Bool.and_eq_true, Bool.not_eq_true', decide_eq_true_eq] at hq'
    obtain ⟨g1, g2, g3, g4⟩ := hq'
    have g1' : 0 ≤ x ∧ x < (s.V.length : Int) := by simp [inB] at g1; omega
    refine AC.obj (Hs' := [.arr 2 [[.a (.osl 3 6 0 s.V.length), .a (.osl 4 1 0 (s.T.length + 1))]], .gone, .gone, .arz 6 (List.set (SR s.V) (0 + x.toNat) [.int .i64 (infOf s.V x).lv, .bool true, .int .i64 t.k, .str t.s, .int .i64 t.n, .sl false 4 (FTs t.l)]), .arz 1 (IR s.T ++ [[.int .i64 x]])]) ?_ (bind_end hq g1'.1 g1'.2 (show LeR [.int .i64 (infOf s.V x).lv, .bool true, .int .i64 t.k, .str t.s, .int .i64 t.n, .sl false 4 (FTs t.l)] (Inf.c ⟨(infOf s.V x).lv, true, t⟩) from LeR.refl _))
    obtain ⟨hl, ei⟩ := infOf_in g1'.1 g1'.2
    obtain ⟨k, str, n, l⟩ := t
    refine AC.vc hP sh lv43 (by simp) (by simp [isLive]) (by simp [isLive]) (Eq.mpr (v43 x k str n (FTs l) ..) ?_)
    rw [show List.getD (SR s.V) (0 + Int.toNat x) [] = Inf.c s.V[x.toNat] by rw [Nat.zero_add, SR_get hl], ← ei]
    have hm : (0 + x.toNat) < (SR s.V).length := by rw [SR_length]; omega
    refine ⟨_, h2, br_of (fun e => absurd (of_decide_eq_true e) (by omega)) (fun _ => br_of (fun e => absurd (of_decide_eq_true e) (by omega)) (fun _ => br_of (fun e => by rw [g3] at e; cases e) (fun _ => ⟨g1', ⟨hm, rfl, rfl⟩, br_of (fun e => by rw [show (infOf s.V x).bd = true from e] at g2; cases g2) (fun _ => ⟨_, h3, br_of (fun e => absurd (of_decide_eq_true e) (by omega)) (fun _ => ⟨g1', ⟨hm, rfl, rfl⟩, g1', ⟨hm, rfl⟩, by omega, ⟨by rw [sIR_length]; omega, by unfold roomB; omega⟩, .refl _, ?_⟩)⟩)⟩)))⟩
    rw [List.take_of_length_le (by rw [sIR_length]; omega)]; rfl

end Go.AM

set_option maxRecDepth 100000
open Go Go.Proofs
namespace Go.AM

/-! ### The document's store -/
theorem SR_in {s : Sto} {x : Int} (h0 : 0 ≤ x) (h1 : x < (s.V.length : Int)) : List.getD (SR s.V) (0 + Int.toNat x) [] = Inf.c (infOf s.V x) ∧ (0 + Int.toNat x) < (SR s.V).length := by
  obtain ⟨hl, ei⟩ := infOf_in h0 h1
  exact ⟨by rw [Nat.zero_add, SR_get hl, ei], by rw [SR_length]; omega⟩
theorem valB_in {s : Sto} {t : Tm} (h : valB s t = true) : 0 ≤ t.n ∧ t.n < (s.V.length : Int) := by
  by_cases q : 0 ≤ t.n ∧ t.n < (s.V.length : Int)
  · exact q
  · rw [valB, infOf_out q] at h; simp [noI] at h
theorem c_rbound15 (s : Sto) (t : Tm) (h : t.k = 4 → 0 ≤ t.n) : AC Try.prog 128 [aS 0, aT t] (oS s) (cb (valB s t)) (oS s) := by
  obtain ⟨k, str, n, l⟩ := t
  refine AC.vc hP sh lv128 (Nat.le_refl _) (by simp [isLive]) (by simp) (Eq.mpr (v128 k str n (FTs l) ..) ?_)
  have e : valB s (.mk k str n l) = (k == 4 && (infOf s.V n).bd) := rfl
  rw [e]
  refine br_of (fun h4 => br_of (fun h1 => ?_) (fun h1 => ?_)) (fun h4 => ?_)
  · have hn : 0 ≤ n := h (show k = 4 from by simpa using h4)
    obtain ⟨g1, g2⟩ := SR_in (s := s) hn (of_decide_eq_true h1)
    rw [g1, h4, Bool.true_and]
    exact ⟨⟨hn, of_decide_eq_true h1⟩, ⟨g2, rfl, rfl⟩, .refl _, rfl⟩
  · have h1 := of_decide_eq_false h1
    rw [infOf_out (fun q => h1 q.2), Bool.and_false]
    exact ⟨.refl _, rfl⟩
  · rw [h4, Bool.false_and]; exact ⟨.refl _, rfl⟩
theorem valid_n {t : Tm} (hv : validB t = true) (h4 : t.k = 4) : 0 ≤ t.n := by
  obtain ⟨k, s, n, l⟩ := t
  have h4 : k = 4 := h4
  show 0 ≤ n
  subst h4
  rw [validB] at hv
  simp at hv
  omega
abbrev tT2 (u : Tm) (n : Int) : TV := .tup [(true, cT u), (false, [.a (.fz (.int .i64 n))])]
theorem leT2 {k n m : Int} {s : List UInt8} {x : FV} {l : List Tm} (h : FV.Le x (.sl false 4 (FTs l))) : TV.Le (.tup [(true, [.a (.fz (.int .i64 k)), .a (.fz (.str s)), .a (.fz (.int .i64 n)), .a (.fz x)]), (false, [.a (.fz (.int .i64 m))])]) (tT2 (.mk k s n l) m) := le_tup ⟨lwT h, lwR _, trivial⟩
/-- The term of a step that may not be done is none. -/
def stepR (s : Sto) (t : Tm) : Tm := if (stepS s t).2 = 2 then noT else (stepS s t).1
theorem c_rstep15 (s : Sto) (hs : OKS s) (t : Tm) (hv : validB t = true) (hz : t.sz ≤ SZ) (hb : bd M61 t) : AC Try.prog 111 [aS 0, aT t] (oS s) (tT2 (stepR s t) (stepS s t).2) (oS s) := by
  have h1 := c_rbound15 s t (valid_n hv)
  have ok := valid_ok t hv
  have hin := fun h => valB_in (s := s) (t := t) h
  obtain ⟨k, str, n, l⟩ := t
  refine AC.vc hP sh lv111 (Nat.le_refl _) (by simp [isLive]) (by simp) (Eq.mpr (v111 k str n (FTs l) ..) ?_)
  refine ⟨_, h1, br_of (fun h => ?_) (fun h => br_of (fun h6 => ?_) (fun h6 => ?_))⟩
  · have q := hin h
    obtain ⟨g1, g2⟩ := SR_in (s := s) (x := n) q.1 q.2
    have e : stepS s (.mk k str n l) = (valS s (.mk k str n l), 1) := if_pos h
    rw [stepR, e, if_neg (by simp), g1]
    exact ⟨q, ⟨g2, rfl, rfl⟩, .refl _, rfl⟩
  · have h6 : k ≠ 6 := by simpa using h6
    have e : stepS s (.mk k str n l) = (.mk k str n l, 0) := by rw [stepS, if_neg (by rw [h]; simp), if_pos (show Tm.k (.mk k str n l) ≠ 6 from h6)]
    rw [stepR, e, if_neg (by simp)]; exact ⟨.refl _, rfl⟩
  have h6 : k = 6 := by simpa using h6
  obtain ⟨x, y, r, rfl, hx6, hl⟩ := okB6 ok h6
  simp only [okL, Bool.and_eq_true] at hl
  subst h6
  simp only [Tm.sz, Tm.szs, SZ] at hz
  have szr := Tm.szs_length r
  have bx := hb.2.1
  have by_ := hb.2.2.1
  have hvl := kid_valid hv (.inr rfl)
  have vx := hvl x List.mem_cons_self
  have vy := hvl y (List.mem_cons_of_mem _ List.mem_cons_self)
  have h2 := c_rbound15 s x (valid_n vx)
  have e1 : List.drop 1 (List.take (Int.toNat (((FTs (x :: y :: r)).length : Nat) : Int)) (FTs (x :: y :: r))) = FTs (y :: r) := by rw [take_nat]; rfl
  have en : FV.asI (List.getD (List.getD (FTs (x :: y :: r)) 0 []) 2 FV.nils) = x.n := by cases x; rfl
  rw [e1, aE0, asI0, en]
  have len : ∀ n : Nat, n ≤ 2 → ((n : Nat) : Int) ≤ (((FTs (x :: y :: r)).length : Nat) : Int) := fun n hn => by rw [FTs_length]; simp only [List.length_cons]; omega
  have hS : stepS s (.mk 6 str n (x :: y :: r)) = if valB s x = true then (applyF (valS s x) (y :: r), 1) else if x.k ≠ 5 then (.mk 6 str n (x :: y :: r), 0) else (applyF (conF (hd x.l) y) r, if roomT (hd x.l) y = true then 1 else 2) := by
    rw [stepS, if_neg (by rw [h]; simp), if_neg (show ¬ Tm.k (.mk 6 str n (x :: y :: r)) ≠ 6 from fun e => e rfl)]; rfl
  refine ⟨el0 x (y :: r), _, h2, br_of (fun h3 => ?_) (fun h3 => ⟨el0 x (y :: r), br_of (fun h5 => ?_) (fun h5 => ?_)⟩)⟩
  · have q := valB_in h3
    obtain ⟨g1, g2⟩ := SR_in (s := s) (x := x.n) q.1 q.2
    rw [g1]
    have hv := (hs.val h3).2.1
    have l1 := Tm.szs_length (valS s x).l
    have l2 := (valS s x).sz_eq
    have hap := c_rapply (valS s x) (y :: r) (by simp only [List.length_cons]; omega)
    rw [stepR, hS, if_pos h3, if_neg (by simp)]
    exact ⟨el0 x (y :: r), q, ⟨g2, rfl, rfl⟩, rfl, ⟨by omega, len 1 (by omega), Int.le_refl _⟩, _, hap, .refl _, rfl⟩
  · have h5 : x.k = 5 := by simpa using h5
    obtain ⟨xk, xs, xn, xl⟩ := x
    have h5 : xk = 5 := h5
    subst h5
    obtain ⟨b, rfl, ob⟩ := okB5 hl.1 rfl
    have e : stepS s (.mk 6 str n (.mk 5 xs xn [b] :: y :: r)) = (applyF (conF b y) r, if roomT b y = true then 1 else 2) := by
      rw [hS, if_neg (by rw [h3]; simp), if_neg (show ¬ Tm.k (.mk 5 xs xn [b]) ≠ 5 from fun w => w rfl)]; rfl
    simp only [Tm.sz, Tm.szs] at hz
    have hc := c_rcontract str n xs xn b y r ob hl.2.1 (by simp only [SZ]; omega) (by simp only [SZ]; omega) (by simp only [SZ]; omega) bx.2.1 by_
    refine ⟨(if roomT b y = true then applyF (suT 0 y b 0) r else noT, roomT b y), hc, br_of (fun h => ?_) (fun h => ?_)⟩
    · have h : roomT b y = false := (Bool.not_eq_true' _).mp (show (!roomT b y) = true from h)
      have e2 : stepS s (.mk 6 str n (.mk 5 xs xn [b] :: y :: r)) = (applyF (conF b y) r, 2) := by rw [e, h]; rfl
      have e3 : stepR s (.mk 6 str n (.mk 5 xs xn [b] :: y :: r)) = noT := by rw [stepR, e2]; rfl
      rw [e3, e2]
      exact ⟨leT2 (l := []) leNil, rfl⟩
    · have h : roomT b y = true := (Bool.not_eq_false' _).mp (show (!roomT b y) = false from h)
      have e2 : stepS s (.mk 6 str n (.mk 5 xs xn [b] :: y :: r)) = (applyF (suT 0 y b 0) r, 1) := by rw [e, h, conF, if_pos h]; rfl
      have e3 : stepR s (.mk 6 str n (.mk 5 xs xn [b] :: y :: r)) = applyF (suT 0 y b 0) r := by rw [stepR, e2]; rfl
      rw [e3, e2]
      refine ⟨?_, rfl⟩
      show TV.Le (.tup [(true, cT (if roomT b y = true then applyF (suT 0 y b 0) r else noT)), _]) _
      rw [if_pos h]; exact .refl _
  · have h5 : x.k ≠ 5 := by simpa using h5
    have e : stepS s (.mk 6 str n (x :: y :: r)) = (.mk 6 str n (x :: y :: r), 0) := by rw [hS, if_neg (by rw [h3]; simp), if_pos h5]
    rw [stepR, e, if_neg (by simp)]; exact ⟨.refl _, rfl⟩
theorem l_rHead15 (s : Sto) (hs : OKS s) : ∀ (F : Nat) (f : Int) (t : Tm), f.toNat = F → 0 - 9223372036854775808 ≤ f → validB t = true → Fit F t →
    RPt Try.prog 80 3 (aHd (if (runH s F t).2.1 = 0 then ((runH s F t).1, f - ((runH s F t).2.2 : Int), 0) else (noT, 0, (runH s F t).2.1))) (oS s) 1
      ⟨[(0, aS 0), (2, ci f), (4, .c (.a (.ep 3 4 0 0))), (6, .c (.a (.ep 4 4 0 0)))], [(0, sto2 1 2 s), (1, .arz 6 (SR s.V)), (2, .arz 1 (IR s.T)), (3, .arr 4 [cT t]), (4, .arr 4 [zT])], 5⟩ := by
  intro F
  induction F with
  | zero =>
    intro f t hf hf0 hv hfit
    have hc := c_rstep15 s hs t hv hfit.sz hfit.bd
    have hr : runH s 0 t = if (stepS s t).2 = 0 then (t, 0, 0) else (noT, 80, 0) := rfl
    rw [hr]
    obtain ⟨k, str, n, l⟩ := t
    refine RPt.vc hP sh lv80 (Eq.mpr (v80_1a f s.V.length s.T.length (SR s.V) (IR s.T) k str n (FTs l) 0 [] 0 _ _) ?_)
    refine ⟨(stepR s (.mk k str n l), (stepS s (.mk k str n l)).2), hc, br_of (fun h => ?_) (fun h => br_of (fun _ => ?_) (fun h3 => absurd (of_decide_eq_false h3) (by omega)))⟩
    · have h : (stepS s (.mk k str n l)).2 = 0 := by simpa using h
      rw [if_pos h, if_pos rfl]
      exact ⟨by simp only [Int.natCast_zero, Int.sub_zero]; exact .refl _, rfl⟩
    · have h : ¬ (stepS s (.mk k str n l)).2 = 0 := by simpa using h
      rw [if_neg h, if_neg (by simp)]
      exact ⟨leHd (l := []) leNil, rfl⟩
  | succ F ih =>
    intro f t hf hf0 hv hfit
    have hc := c_rstep15 s hs t hv hfit.sz hfit.bd
    have hr : runH s (F + 1) t = if (stepS s t).2 = 0 then (t, 0, 0) else if (stepS s t).2 = 2 then (noT, 80, 0) else ((runH s F (stepS s t).1).1, (runH s F (stepS s t).1).2.1, (runH s F (stepS s t).1).2.2 + 1) := rfl
    rw [hr]
    have hF4 := hfit.2.2.2
    have next : ¬ (stepS s t).2 = 0 → ¬ (stepS s t).2 = 2 → _ := fun h0 h2 => by
      have h1 : (stepS s t).2 = 1 := by rcases stepS_n s t with q | q | q; · exact absurd q h0
                                        · exact q
                                        · exact absurd q h2
      obtain ⟨v, ff⟩ := stepS_fit hs hv hfit h1
      exact ih (f - 1) (stepS s t).1 (by omega) (by omega) v ff
    obtain ⟨k, str, n, l⟩ := t
    refine RPt.vc hP sh lv80 (Eq.mpr (v80_1a f s.V.length s.T.length (SR s.V) (IR s.T) k str n (FTs l) 0 [] 0 _ _) ?_)
    rw [w64 (x := f - 1) (by omega) (by omega)]
    refine ⟨(stepR s (.mk k str n l), (stepS s (.mk k str n l)).2), hc, br_of (fun h => ?_) (fun h => br_of (fun h3 => absurd (of_decide_eq_true h3) (by omega)) (fun _ => br_of (fun h2 => ?_) (fun h2 => ?_)))⟩
    · have h : (stepS s (.mk k str n l)).2 = 0 := by simpa using h
      rw [if_pos h, if_pos rfl]
      exact ⟨by simp only [Int.natCast_zero, Int.sub_zero]; exact .refl _, rfl⟩
    · have h : ¬ (stepS s (.mk k str n l)).2 = 0 := by simpa using h
      have h2 : (stepS s (.mk k str n l)).2 = 2 := by simpa using h2
      rw [if_neg h, if_pos h2, if_neg (by simp)]
      exact ⟨leHd (l := []) leNil, rfl⟩
    · have h : ¬ (stepS s (.mk k str n l)).2 = 0 := by simpa using h
      have h2 : ¬ (stepS s (.mk k str n l)).2 = 2 := by simpa using h2
      rw [if_neg h, if_neg h2]
      have := next h h2
      rw [show f - 1 - (((runH s F (stepS s (.mk k str n l)).1).2.2 : Nat) : Int) = f - (((runH s F (stepS s (.mk k str n l)).1).2.2 + 1 : Nat) : Int) by omega] at this
      rw [show stepR s (.mk k str n l) = (stepS s (.mk k str n l)).1 from if_neg h2]
      exact this
theorem c_rHead15 (s : Sto) (hs : OKS s) (f : Int) (t : Tm) (h0 : 0 - 9223372036854775808 ≤ f) (hv : validB t = true) (hf : Fit f.toNat t) : AC Try.prog 80 [aS 0, aT t, ci f] (oS s) (aHd (headV s f t)) (oS s) := by
  have h := l_rHead15 s hs f.toNat f t rfl h0 hv hf
  rw [headV, if_pos hv]
  obtain ⟨k, str, n, l⟩ := t
  exact AC.vc hP sh lv80 (Nat.le_refl _) (by simp [isLive]) (by simp) (Eq.mpr (v80 k str n (FTs l) ..) h)

end Go.AM

set_option maxRecDepth 100000
open Go Go.Proofs
namespace Go.AM

/-! ### The document's Eval -/
theorem c_rsplit (t : Tm) (hv : validB t = true) : AC Try.prog 81 [aT t] [] (aSp (splitF t)) [] := by
  have ok := valid_ok t hv
  obtain ⟨k, str, n, l⟩ := t
  refine AC.vc hP sh lv81 (Nat.le_refl _) (by simp) (by simp) (Eq.mpr (v81 k str n (FTs l) _ _) ?_)
  refine br_of (fun h => ?_) (fun h => ?_)
  · have h6 : k = 6 := by simpa using h
    subst h6
    obtain ⟨x, y, r, rfl, hx6, hl⟩ := okB6 ok rfl
    rw [splitF, if_pos ⟨rfl, hv⟩]
    refine ⟨el0 x (y :: r), rfl, ⟨by omega, by rw [FTs_length]; simp only [List.length_cons]; omega, Int.le_refl _⟩, ?_, rfl⟩
    rw [take_nat, show cE (List.getD (FTs (x :: y :: r)) 0 []) = cT x from cE_FT x]
    exact .refl _
  · rw [splitF, if_neg (fun e => by have e1 : k = 6 := e.1; subst e1; cases h)]
    exact ⟨le_tup ⟨lwR _, lw1 (.a _ _ (.fz _ _ leNil)), trivial⟩, rfl⟩
theorem p_reval46 (s : Sto) (h : Tm) (a m b : Int) (ha : I64 a) (hb : I64 b) : RPt Try.prog 45 3 (t3 (finE h.s a b m)) (oS s) 46
    ⟨[(12, .c (.a (.ep 3 4 0 0))), (16, ci a), (17, ci m), (19, ci b)], [(0, sto2 1 2 s), (1, .arz 6 (SR s.V)), (2, .arz 1 (IR s.T)), (3, .arr 4 [cT h])], 4⟩ := by
  obtain ⟨k, str, n, l⟩ := h
  refine RPt.vc hP sh lv45 (Eq.mpr (v45_46a a m b s.V.length s.T.length (SR s.V) (IR s.T) k str n (FTs l) _ _) ?_)
  exact ⟨_, _, c_rdo str a b ha hb, fin_br⟩
/-- What is asked of a term's arguments. -/
theorem p_reval22 (s : Sto) (h : Tm) (l : List Tm) (left : Int) (known : Bool) (want : Int) (ev : Int → Tm → Int × Int × Int)
    (hk : known = true → argsV h.s = want) (hk0 : known = false → argsV h.s = 0) (hw : want = 1 ∨ want = 2)
    (arg : ∀ x ∈ l, AC Try.prog 45 [aS 0, aT x, ci left] (oS s) (t3 (ev left x)) (oS s) ∧ ((ev left x).2.2 = 0 → I64 (ev left x).1 ∧ ∀ y ∈ l, AC Try.prog 45 [aS 0, aT y, ci (ev left x).2.1] (oS s) (t3 (ev (ev left x).2.1 y)) (oS s) ∧ ((ev (ev left x).2.1 y).2.2 = 0 → I64 (ev (ev left x).2.1 y).1))) :
    RPt Try.prog 45 3 (t3 (evA ev left h l)) (oS s) 22
      ⟨[(0, aS 0), (10, ci left), (12, .c (.a (.ep 3 4 0 0))), (13, aL l), (14, ci want), (15, cb known)], [(0, sto2 1 2 s), (1, .arz 6 (SR s.V)), (2, .arz 1 (IR s.T)), (3, .arr 4 [cT h])], 4⟩ := by
  have no : (h.k ≠ 0 ∨ argsV h.s = 0 ∨ argsV h.s ≠ (l.length : Int)) → evA ev left h l = (0, 0, 180) := fun q => if_pos q
  have fin := fun a m b ha hb => p_reval46 s h a m b ha hb
  obtain ⟨k, str, n, hl⟩ := h
  have hk : known = true → argsV str = want := hk
  have hk0 : known = false → argsV str = 0 := hk0
  refine RPt.vc hP sh lv45 (Eq.mpr (v45_22a left (FTs l) want known s.V.length s.T.length (SR s.V) (IR s.T) k str n (FTs hl) _ _) ?_)
  refine br_of (fun q => le3 (no (.inl (show k ≠ 0 from by simpa using q)))) (fun q1 => br_of (fun q => le3 (no (.inr (.inl (hk0 (by simpa using q)))))) (fun q2 => ⟨rfl, br_of (fun q => le3 (no (.inr (.inr ?_)))) (fun q3 => ?_)⟩))
  · rw [lenI] at q
    have q : (l.length : Int) ≠ want := by simpa using q
    show argsV str ≠ _
    rw [hk (by simpa using q2)]; exact fun e => q e.symm
  rw [lenI] at q3
  have q3 : (l.length : Int) = want := by simpa using q3
  have e1 : argsV str = want := hk (by simpa using q2)
  have hc : ¬ ((Tm.mk k str n hl).k ≠ 0 ∨ argsV (Tm.mk k str n hl).s = 0 ∨ argsV (Tm.mk k str n hl).s ≠ (l.length : Int)) := by
    show ¬ (k ≠ 0 ∨ argsV str = 0 ∨ argsV str ≠ _)
    rw [e1, q3]
    have : k = 0 := by simpa using q1
    rcases hw with w | w <;> rw [w] <;> simp [this]
  match l, q3, hc, arg with
  | [], q3, _, _ => rcases hw with w | w <;> rw [w] at q3 <;> simp at q3
  | [x], q3, hc, arg =>
    have e2 : evA ev left (.mk k str n hl) [x] = ev1 str (ev left x) := if_neg hc
    have hw1 : want = 1 := by simp at q3; omega
    subst hw1
    obtain ⟨a1, a2⟩ := arg x (by simp)
    rw [aE0, e2]
    refine ⟨el0 x [], _, _, _, a1, br_of (fun q => le3 (if_pos (by simpa using q))) (fun q => br_of (fun w => by cases w) (fun _ => ?_))⟩
    have q0 : (ev left x).2.2 = 0 := by simpa using q
    rw [show ev1 str (ev left x) = finE str (ev left x).1 0 (ev left x).2.1 from if_neg (by rw [q0]; simp)]
    exact fin _ _ _ (a2 q0).1 I64_0
  | x :: y :: r, q3, hc, arg =>
    have hw2 : want = 2 := by rcases hw with w | w; · rw [w] at q3; simp only [List.length_cons] at q3; omega
                              · exact w
    subst hw2
    have hr : r = [] := List.eq_nil_of_length_eq_zero (by simp only [List.length_cons] at q3; omega)
    subst hr
    have e2 : evA ev left (.mk k str n hl) [x, y] = ev2 ev str y (ev left x) := if_neg hc
    obtain ⟨a1, a2⟩ := arg x (by simp)
    rw [aE0, aE1, e2]
    refine ⟨el0 x [y], _, _, _, a1, br_of (fun q => le3 (if_pos (by simpa using q))) (fun q => br_of (fun _ => ?_) (fun w => by cases w))⟩
    have q0 : (ev left x).2.2 = 0 := by simpa using q
    obtain ⟨i1, a3⟩ := a2 q0
    obtain ⟨b1, b2⟩ := a3 y (by simp)
    have e3 : ev2 ev str y (ev left x) = if (ev (ev left x).2.1 y).2.2 ≠ 0 then (0, 0, (ev (ev left x).2.1 y).2.2) else finE str (ev left x).1 (ev (ev left x).2.1 y).1 (ev (ev left x).2.1 y).2.1 := if_neg (by rw [q0]; simp)
    rw [e3]
    refine ⟨el1 x y [], _, _, _, b1, br_of (fun q => le3 (if_pos (by simpa using q))) (fun q => ?_)⟩
    have q1 : (ev (ev left x).2.1 y).2.2 = 0 := by simpa using q
    rw [if_neg (by rw [q1]; simp)]
    exact fin _ _ _ i1 (b2 q1)
theorem c_reval (s : Sto) (hs : OKS s) (hn : OKN s) : ∀ (D : Nat) (f : Int) (t : Tm), 0 - 9223372036854775808 ≤ f → f ≤ 4611686018427387904 → validB t = true → Fit f.toNat t → okN t → t.sz + 4200 * f.toNat ≤ D →
    AC Try.prog 45 [aS 0, aT t, ci f] (oS s) (t3 (evalV s D f t)) (oS s) := by
  intro D
  induction D with
  | zero => intro f t _ _ _ _ _ h; have := t.sz_pos; omega
  | succ D ih =>
    intro f t h0 h1 hv hf hN hD
    have hH := c_rHead15 s hs f t h0 hv hf
    have hK := headV_spec hs (f := f) (t := t) (fun _ => hf)
    have hN2 := headV_N (f := f) hn hN
    have eE : evalV s (D + 1) f t = evK (evalV s D) (headV s f t) := rfl
    rw [eE]
    generalize headV s f t = q at *
    obtain ⟨h, left, e⟩ := q
    simp only at hH hK hN2
    obtain ⟨k, str, n, l⟩ := t
    refine AC.vc hP sh lv45 (Nat.le_refl _) (by simp [isLive]) (by simp) (Eq.mpr (v45 k str n (FTs l) ..) ?_)
    refine ⟨(_, _, _), hH, br_of (fun q => le3 (if_pos (by simpa using q))) (fun q0 => br_of (fun q => le3 ?_) (fun q2 => ?_))⟩
    · have q0 : e = 0 := by simpa using q0
      subst q0
      rw [evK, if_neg (by simp), if_pos (by simpa using q)]
    have q0 : e = 0 := by simpa using q0
    subst q0
    have h2 : ¬ h.k = 2 := by simpa using q2
    have e1 : evK (evalV s D) (h, left, 0) = evA (evalV s D) left (splitF h).1 (splitF h).2 := by rw [evK, if_neg (by simp), if_neg h2]
    rw [e1]
    obtain ⟨u, hu1, hu2, hvh, hfh, hsz⟩ := hK rfl
    clear hK
    have hft : left.toNat = f.toNat - u := by omega
    have hsp := c_rsplit h hvh
    have kid := fun u hu => splitF_kid (t := h) u hu
    have arg : ∀ x ∈ (splitF h).2, ∀ g : Int, (∃ w : Nat, w ≤ left.toNat ∧ g = left - (w : Int)) → AC Try.prog 45 [aS 0, aT x, ci g] (oS s) (t3 (evalV s D g x)) (oS s) ∧ evOK g (evalV s D g x) := by
      intro x hx g hg
      obtain ⟨w, hw1, hw2⟩ := hg
      obtain ⟨k1, k2, k3⟩ := kid x hx
      have hlt := Tm.szs_mem k1
      have hse := h.sz_eq
      have hgt : g.toNat = left.toNat - w := by omega
      have hfx : Fit left.toNat x := by rw [hft]; exact hfh.kid k1
      have hfg : Fit g.toNat x := hfx.mono (by omega)
      have hnx : okN x := okNs_mem (okN_l hN2) k1
      have hvx : validB x = true := by
        have hv2 := k2
        obtain ⟨hk, hst, hnn, hll⟩ := h
        have k3 : hk = 6 := k3
        subst k3
        exact kid_valid hv2 (.inr rfl) x k1
      exact ⟨ih g x (by omega) (by omega) hvx hfg hnx (by omega), (c_aeval s hs hn D g x (by omega) (by omega) (by have := hfg.sz; simp only [SZ, B] at *; omega) (fun _ => hfg) hnx (by omega)).2⟩
    have hev : ∀ x ∈ (splitF h).2, AC Try.prog 45 [aS 0, aT x, ci left] (oS s) (t3 (evalV s D left x)) (oS s) ∧ ((evalV s D left x).2.2 = 0 → I64 (evalV s D left x).1 ∧ ∀ y ∈ (splitF h).2, AC Try.prog 45 [aS 0, aT y, ci (evalV s D left x).2.1] (oS s) (t3 (evalV s D (evalV s D left x).2.1 y)) (oS s) ∧
        ((evalV s D (evalV s D left x).2.1 y).2.2 = 0 → I64 (evalV s D (evalV s D left x).2.1 y).1)) := fun x hx => by
      obtain ⟨a1, a2⟩ := arg x hx left ⟨0, Nat.zero_le _, by omega⟩
      refine ⟨a1, fun q => ⟨(a2 q).1, fun y hy => ?_⟩⟩
      obtain ⟨b1, b2⟩ := arg y hy _ (a2 q).2
      exact ⟨b1, fun w => (b2 w).1⟩
    generalize splitF h = p at *
    obtain ⟨ph, pl⟩ := p
    simp only at hsp hev ⊢
    have go := fun known want a b c => p_reval22 s ph pl left known want (evalV s D) a b c hev
    refine ⟨(_, _), hsp, ?_⟩
    have ar : ∀ o : List UInt8, ph.s = o → argsV ph.s = argsV o := fun o e => by rw [e]
    refine br_of (fun w => ?_) (fun w => ?_)
    · have w : ph.s = [126] := op_eq w
      have av : argsV ph.s = 1 := by rw [ar _ w]; rfl
      refine br_of (fun w1 => by have w1 := op_eq w1; rw [w] at w1; cases w1) (fun _ => br_of (fun w1 => by have w1 := op_eq w1; rw [w] at w1; cases w1) (fun _ => br_of (fun w1 => by have w1 := op_eq w1; rw [w] at w1; cases w1) (fun _ => br_of (fun w1 => by have w1 := op_eq w1; rw [w] at w1; cases w1) (fun _ => br_of (fun w1 => by have w1 := op_eq w1; rw [w] at w1; cases w1) (fun _ => ?_)))))
      exact go _ 1 (fun _ => av) (fun q => by rw [w] at q; cases q) (.inl rfl)
    · refine br_of (fun w1 => go _ 2 (fun _ => by rw [ar _ (op_eq w1)]; rfl) (fun q => by cases q) (.inr rfl)) (fun w1 => br_of (fun w2 => go _ 2 (fun _ => by rw [ar _ (op_eq w2)]; rfl) (fun q => by cases q) (.inr rfl)) (fun w2 => br_of (fun w3 => go _ 2 (fun _ => by rw [ar _ (op_eq w3)]; rfl) (fun q => by cases q) (.inr rfl)) (fun w3 =>
        br_of (fun w4 => go _ 2 (fun _ => by rw [ar _ (op_eq w4)]; rfl) (fun q => by cases q) (.inr rfl)) (fun w4 => br_of (fun w5 => go _ 2 (fun _ => by rw [ar _ (op_eq w5)]; rfl) (fun q => by cases q) (.inr rfl)) (fun w5 => ?_)))))
      refine go _ 2 (fun q => by have q : (ph.s == [126]) = true := q; rw [w] at q; cases q) (fun _ => ?_) (.inr rfl)
      rw [argsV, if_neg (op_ne w1), if_neg (op_ne w2), if_neg (op_ne w3), if_neg (op_ne w4), if_neg (op_ne w5), if_neg (op_ne w)]

end Go.AM

namespace Go.AM
open Go.ChangeShapes Go.WideShapes Go.ChangeAt Go.RowKit

section
variable {H : Type} {enc : TypeId × Value → H} {P : Program} {w : World}

/-- Nothing is shut out. -/
abbrev none1 : Nat → Prop := fun _ => False
/-- Whatever reads (with so much fuel) at type t is some F a, of size at most that of what was read. -/
def RdN (enc : TypeId × Value → H) (P : Program) (w : World) (b : DataW H → Nat) (fuel : Nat) (t : TypeId) {α : Type} (F : α → List FV) (sz : α → Nat) : Prop :=
  ∀ cs x, DataW.trod enc P w 0 (fun _ => true) true fuel t cs = some x → ∃ a, LRep (FRep w none1) (F a) cs ∧ sz a ≤ b x.1

theorem rd_int {b : DataW H → Nat} {t : TypeId} {k : IntKind} (ht : P.underlying t = some (.int k)) (hb : ∀ d, 1 ≤ b d) (fuel : Nat) : RdN enc P w b fuel t (fun n : Int => [.int k n]) (fun _ => 1) := by
  intro cs x h
  obtain ⟨n, rfl, rfl, _⟩ := DataW.trod_int ht h
  exact ⟨n, .cons (.int k n) .nil, hb _⟩
/-- A number within its kind. -/
def Num (k : IntKind) := { n : Int // (Lit.int k n).wf = true }
theorem rd_num {b : DataW H → Nat} {t : TypeId} {k : IntKind} (ht : P.underlying t = some (.int k)) (hb : ∀ d, 1 ≤ b d) (fuel : Nat) : RdN enc P w b fuel t (fun n : Num k => [.int k n.1]) (fun _ => 1) := by
  intro cs x h
  obtain ⟨n, rfl, rfl, hw⟩ := DataW.trod_int ht h
  exact ⟨⟨n, hw⟩, .cons (.int k n) .nil, hb _⟩
theorem rd_bool {b : DataW H → Nat} {t : TypeId} (ht : P.underlying t = some .bool) (hb : ∀ d, 1 ≤ b d) (fuel : Nat) : RdN enc P w b fuel t (fun n : Bool => [.bool n]) (fun _ => 1) := by
  intro cs x h
  obtain ⟨n, rfl, rfl⟩ := DataW.trod_bool ht h
  exact ⟨n, .cons (.bool n) .nil, hb _⟩
theorem rd_str {b : DataW H → Nat} {t : TypeId} (ht : P.underlying t = some .string) (hb : ∀ l : List UInt8, l.length + 1 ≤ b (.lit (.string l))) (fuel : Nat) : RdN enc P w b fuel t (fun l : List UInt8 => [.str l]) (fun l => l.length + 1) := by
  intro cs x h
  obtain ⟨s, rfl, rfl, _⟩ := DataW.trod_string ht h
  refine ⟨s.data.toList, .cons ?_ .nil, hb _⟩
  have : (⟨s.data.toList.toArray⟩ : ByteArray) = s := by simp
  have h2 := FRep.str (w := w) (X := none1) s.data.toList
  rw [this] at h2
  exact h2

def sumBy {α : Type} (sz : α → Nat) : List α → Nat
  | [] => 0
  | a :: l => sz a + sumBy sz l
theorem sumBy_mem {α : Type} {sz : α → Nat} : ∀ {l : List α} {a : α}, a ∈ l → sz a ≤ sumBy sz l
  | x :: l, a, h => by
    rcases List.mem_cons.1 h with rfl | h
    · simp [sumBy]
    · have := sumBy_mem (sz := sz) h; simp only [sumBy]; omega
theorem sumBy_length {α : Type} {sz : α → Nat} (h : ∀ a, 1 ≤ sz a) : ∀ l : List α, l.length ≤ sumBy sz l
  | [] => Nat.le_refl _
  | a :: l => by have := sumBy_length h l; have := h a; simp only [sumBy, List.length_cons]; omega

theorem choose_list {α β : Type} {R : α → β → Prop} : ∀ {l : List β}, (∀ (i : Nat) (y : β), l[i]? = some y → ∃ x, R x y) → ∃ xs : List α, xs.length = l.length ∧ ∀ (i : Nat) (x : α) (y : β), xs[i]? = some x → l[i]? = some y → R x y
  | [], _ => ⟨[], rfl, fun i x y h => by simp at h⟩
  | y :: l, h => by
    obtain ⟨x, hx⟩ := h 0 y rfl
    obtain ⟨xs, h1, h2⟩ := choose_list (l := l) fun i y' hy => h (i + 1) y' (by simpa using hy)
    refine ⟨x :: xs, by simp [h1], fun i x' y' hx' hy' => ?_⟩
    cases i with
    | zero => simp at hx' hy'; subst hx'; subst hy'; exact hx
    | succ i => exact h2 i x' y' (by simpa using hx') (by simpa using hy')

theorem sum_le {α : Type} {sz : α → Nat} {b : DataW H → Nat} {bs : List (DataW H) → Nat} (hbs : ∀ d l, bs (d :: l) = b d + bs l) : ∀ {xs : List α} {es : List (DataW H × List MemPlace)}, xs.length = es.length → (∀ (i : Nat) (x : α) (y : DataW H × List MemPlace), xs[i]? = some x → es[i]? = some y → sz x ≤ b y.1) → sumBy sz xs ≤ bs (es.map (·.1))
  | [], _, _, _ => by simp [sumBy]
  | x :: xs, [], h, _ => by simp at h
  | x :: xs, e :: es, h, hr => by
    have h1 := hr 0 x e rfl rfl
    have h2 := sum_le (sz := sz) hbs (xs := xs) (es := es) (by simpa using h) fun i x y hx hy => hr (i + 1) x y (by simpa using hx) (by simpa using hy)
    simp only [sumBy, List.map_cons, hbs]
    omega

theorem cells_get {a : Addr} {n : Nat} {cs : List Value} (h : w.cells? 0 a n = some cs) : cs.length = n ∧ ∀ j u, cs[j]? = some u → w.cell? (a.add j) = some u := by
  unfold World.cells? at h
  rw [if_pos (Nat.zero_le _)] at h
  refine ⟨by have := mapM_some_length h; simpa using this, fun j u hu => ?_⟩
  have hj : j < n := by
    have h1 := (List.getElem?_eq_some_iff.1 hu).1
    have := mapM_some_length h; simp at this; omega
  have := mapM_some_get h j j (by simp [hj])
  rw [this, hu]

theorem cell_lt {b off : Nat} {u : Value} (h : w.cell? ⟨b, off, none⟩ = some u) : b < w.heap.size := by
  apply Decidable.byContradiction
  intro hn
  have : w.heap[b]? = none := by simp; omega
  simp [World.cell?, this] at h

theorem cell_spot {a : Addr} {u : Value} (h : w.cell? a = some u) : a.spot = none := by
  unfold World.cell? at h
  split at h
  · split at h
    · cases h
    · rename_i hs; simpa using hs
  · cases h
theorem cell_blk {a : Addr} {u : Value} (h : w.cell? a = some u) : a.block < w.heap.size := by
  apply Decidable.byContradiction
  intro hn
  have : w.heap[a.block]? = none := by simp; omega
  simp [World.cell?, this] at h

theorem add_zero (a : Addr) : a.add 0 = a := rfl
theorem add_none (b o k : Nat) : (Addr.mk b o none).add k = ⟨b, o + k, none⟩ := by
  unfold Addr.add
  split
  · rename_i h; rw [h]; rfl
  · rfl
/-- Slices. -/
theorem rd_slice {b : DataW H → Nat} {bs : List (DataW H) → Nat} (hbs : ∀ d l, bs (d :: l) = b d + bs l) (hb0 : ∀ d, 1 ≤ b d) (hb : ∀ es sp, bs es + 1 ≤ b (.slice es sp)) {t e : TypeId} (ht : P.underlying t = some (.slice e)) {n : Nat} (hn : P.cellsOf e = n) (hn0 : 0 < n)
    {α : Type} {F : α → List FV} {sz : α → Nat} (hF : ∀ a, (F a).length = n) {fuel : Nat} (ih : ∀ k, k < fuel → RdN enc P w b k e F sz) : RdN enc P w b fuel t (fun l : List α => [.sl false n (l.map F)]) (fun l => sumBy sz l + 1) := by
  intro cs x h
  rcases DataW.trod_slice ht h with ⟨rfl, rfl⟩ | ⟨a, len, cap, elems, rest, k, rfl, rfl, rfl, _, hlc, _, hlen, hel, hrest, _⟩
  · exact ⟨[], .cons (.slnil n) .nil, by simpa [sumBy] using hb0 _⟩
  · rw [hn] at hel
    have key : ∀ (i : Nat) (y : DataW H × List MemPlace), elems[i]? = some y → ∃ x : α, (∃ cs, w.cells? 0 (a.add (i * n)) n = some cs ∧ LRep (FRep w none1) (F x) cs) ∧ sz x ≤ b y.1 := by
      intro i y hy
      have hi : i < len := by rw [← hlen]; exact (List.getElem?_eq_some_iff.1 hy).1
      have h1 := hel i hi
      rw [hy] at h1
      obtain ⟨cs, h2, h3⟩ := Option.bind_eq_some_iff.1 h1
      obtain ⟨x, h4, h5⟩ := ih k (Nat.lt_succ_self _) cs y h3
      exact ⟨x, ⟨cs, h2, h4⟩, h5⟩
    -- the element at i, with its place
    have key2 : ∃ xs : List α, xs.length = elems.length ∧ ∀ (i : Nat) (x : α), xs[i]? = some x → (∃ cs, w.cells? 0 (a.add (i * n)) n = some cs ∧ LRep (FRep w none1) (F x) cs) ∧ ∀ y, elems[i]? = some y → sz x ≤ b y.1 := by
      have : ∀ (l : List (DataW H × List MemPlace)) (o : Nat), (∀ i, l[i]? = elems[o + i]?) → ∃ xs : List α, xs.length = l.length ∧ ∀ (i : Nat) (x : α), xs[i]? = some x → (∃ cs, w.cells? 0 (a.add ((o + i) * n)) n = some cs ∧ LRep (FRep w none1) (F x) cs) ∧ ∀ y, l[i]? = some y → sz x ≤ b y.1 := by
        intro l
        induction l with
        | nil => exact fun o _ => ⟨[], rfl, fun i x h => by simp at h⟩
        | cons y l ih =>
          intro o ho
          obtain ⟨x, hx1, hx2⟩ := key o y (by have := ho 0; simpa using this.symm)
          obtain ⟨xs, h1, h2⟩ := ih (o + 1) (fun i => by have := ho (i + 1); rw [show o + 1 + i = o + (i + 1) by omega]; simpa using this)
          refine ⟨x :: xs, by simp [h1], fun i x' hx' => ?_⟩
          cases i with
          | zero => simp at hx'; subst hx'; exact ⟨by simpa using hx1, fun y' hy' => by simp at hy'; subst hy'; exact hx2⟩
          | succ i =>
            have := h2 i x' (by simpa using hx')
            rw [show o + 1 + i = o + (i + 1) by omega] at this
            exact ⟨this.1, fun y' hy' => this.2 y' (by simpa using hy')⟩
      obtain ⟨xs, h1, h2⟩ := this elems 0 (fun i => by simp)
      exact ⟨xs, h1, fun i x hx => by simpa using h2 i x hx⟩
    obtain ⟨xs, hxl, hx⟩ := key2
    have hsum := sum_le (sz := sz) (b := b) hbs hxl (fun i x y h1 h2 => (hx i x h1).2 y h2)
    have hb' := hb (elems.map (·.1)) (rest.map (·.1))
    refine ⟨xs, ?_, show sumBy sz xs + 1 ≤ b (.slice (elems.map (·.1)) (rest.map (·.1))) by omega⟩
    by_cases hc0 : cap = 0
    · have h0 : len = 0 := by omega
      subst hc0; subst h0
      have : xs = [] := List.length_eq_zero_iff.1 (by omega)
      subst this
      exact .cons (.sl0 false n a) .nil
    · have hone : ∃ cs, w.cells? 0 a n = some cs := by
        by_cases h0 : len = 0
        · have hr := (hrest rfl).2 0 (by omega)
          have hr' : rest[0]? ≠ none := by
            rw [List.getElem?_eq_getElem (by rw [(hrest rfl).1]; omega)]; simp
          rw [hn] at hr
          rw [h0, show (0 + 0) * n = 0 by simp, add_zero] at hr
          cases hcl : w.cells? 0 a n with
          | none => rw [hcl] at hr; exact absurd hr.symm hr'
          | some cs => exact ⟨cs, rfl⟩
        · have : 0 < xs.length := by omega
          obtain ⟨⟨cs, h1, _⟩, _⟩ := hx 0 xs[0] (by simp [this])
          rw [show 0 * n = 0 by simp, add_zero] at h1
          exact ⟨cs, h1⟩
      obtain ⟨cs0, hq⟩ := hone
      obtain ⟨hl0, hq'⟩ := cells_get hq
      have hq0 := hq' 0 (cs0[0]'(by omega)) (by simp)
      rw [add_zero] at hq0
      have hsp : a.spot = none := cell_spot hq0
      have hbl : a.block < w.heap.size := cell_blk hq0
      obtain ⟨blk, off, sp⟩ := a
      have hsp : sp = none := hsp
      subst hsp
      refine .cons (.sl false n (xs.map F) blk off cap len (fun i j => (w.cell? ⟨blk, off + i * n + j, none⟩).getD (.bool false)) (by rw [List.length_map]; omega) (by rw [List.length_map]; omega) (fun h => h) hbl (fun i e he => ?_) (fun i j e f he hf => ?_) (fun i j e f he hf => ?_)) .nil
      · rw [List.getElem?_map] at he
        obtain ⟨x, _, rfl⟩ := Option.map_eq_some_iff.1 he
        exact hF x
      all_goals
        rw [List.getElem?_map] at he
        obtain ⟨x, hxi, rfl⟩ := Option.map_eq_some_iff.1 he
        obtain ⟨⟨cs, h1, h2⟩, _⟩ := hx i x hxi
        obtain ⟨h3, h4⟩ := cells_get h1
        have hj : j < cs.length := by rw [← h2.1]; exact (List.getElem?_eq_some_iff.1 hf).1
        have h5 := h4 j cs[j] (by simp)
        rw [add_none, add_none] at h5
      · rw [h5]; rfl
      · rw [h5]
        exact h2.2 j f cs[j] hf (by simp)

/-- Terms. -/
theorem FT_sum : ∀ l : List Tm, Tm.bks l = sumBy Tm.bk l
  | [] => rfl
  | t :: l => by rw [Tm.bks, sumBy, FT_sum l]
/-- How a term lies. -/
structure TmTy (P : Program) (T : TypeId) (f0 f1 f2 f3 : Field) : Prop where
  str : P.underlying T = some (.struct #[f0, f1, f2, f3])
  u0 : P.underlying f0.type = some (.int .i64)
  u1 : P.underlying f1.type = some .string
  u2 : P.underlying f2.type = some (.int .i64)
  u3 : P.underlying f3.type = some (.slice T)
  o0 : f0.offset = 0
  o1 : f1.offset = 1
  o2 : f2.offset = 2
  o3 : f3.offset = 3
  c0 : P.cellsOf f0.type = 1
  c1 : P.cellsOf f1.type = 1
  c2 : P.cellsOf f2.type = 1
  c3 : P.cellsOf f3.type = 1
  cT : P.cellsOf T = 4
/-- How much a reading holds. -/
structure Bulk (b : DataW H → Nat) (bs : List (DataW H) → Nat) : Prop where
  nil : bs [] = 0
  cons : ∀ d l, bs (d :: l) = b d + bs l
  one : ∀ d, 1 ≤ b d
  slice : ∀ es sp, bs es + 1 ≤ b (.slice es sp)
  str : ∀ l : List UInt8, l.length + 1 ≤ b (.lit (.string l))
  agg : ∀ l, bs l + 1 ≤ b (.agg l)
theorem LRep.one {α : Type} {R : α → Value → Prop} {c : α} {u : Value} (h : LRep R [c] [u]) : R c u := h.2 0 c u rfl rfl
theorem rd_term {b : DataW H → Nat} {bs : List (DataW H) → Nat} (hb : Bulk b bs) {T : TypeId} {f0 f1 f2 f3 : Field} (hT : TmTy P T f0 f1 f2 f3) : ∀ fuel, RdN enc P w b fuel T FT Tm.bk := by
  intro fuel
  induction fuel using Nat.strongRecOn with
  | _ fuel ih =>
    intro cs x h
    obtain ⟨xs, n, rfl, rfl, hl, hxl, hf⟩ := DataW.trod_struct hT.str h
    rw [hT.cT] at hl
    match cs, hl with
    | [v0, v1, v2, v3], _ =>
    match xs, hxl with
    | [x0, x1, x2, x3], _ =>
    have g0 := hf 0 f0 rfl
    have g1 := hf 1 f1 rfl
    have g2 := hf 2 f2 rfl
    have g3 := hf 3 f3 rfl
    rw [hT.o0, hT.c0] at g0
    rw [hT.o1, hT.c1] at g1
    rw [hT.o2, hT.c2] at g2
    rw [hT.o3, hT.c3] at g3
    obtain ⟨k, r0, _⟩ := rd_int (b := b) hT.u0 hb.one n _ _ g0
    obtain ⟨s, r1, z1⟩ := rd_str (b := b) hT.u1 hb.str n _ _ g1
    have z1 : s.length + 1 ≤ b x1.1 := z1
    obtain ⟨m, r2, _⟩ := rd_int (b := b) hT.u2 hb.one n _ _ g2
    obtain ⟨l, r3, z3⟩ := rd_slice (F := FT) (sz := Tm.bk) hb.cons hb.one hb.slice hT.u3 hT.cT (by omega) FT_length (fun k hk => ih k (by omega)) _ _ g3
    have z3 : sumBy Tm.bk l + 1 ≤ b x3.1 := z3
    refine ⟨.mk k s m l, ?_, ?_⟩
    · rw [FT, FTs_map]
      exact .cons (LRep.one r0) (.cons (LRep.one r1) (.cons (LRep.one r2) (.cons (LRep.one r3) .nil)))
    · have := hb.one x0.1
      simp only [Tm.bk, FT_sum]
      show _ ≤ b (.agg [x0.1, x1.1, x2.1, x3.1])
      have h9 := hb.agg [x0.1, x1.1, x2.1, x3.1]
      simp only [hb.cons, hb.nil] at h9
      omega

/-! ### Arguments -/
theorem none_own {Y : Nat → Prop} (hY : ∀ b, ¬ Y b) {Hs : List AObj} : (fun b => Y b ∨ Own (fun o => Hs.getD o .gone) (fun _ => none) b) = none1 := by
  funext b
  refine propext ⟨fun h => ?_, fun h => h.elim⟩
  rcases h with h | ⟨o, _, h⟩
  · exact (hY b h).elim
  · cases h
abbrev β0 : Nat → Option Nat := fun _ => none
theorem open_term {b : DataW H → Nat} {bs : List (DataW H) → Nat} (hb : Bulk b bs) {T : TypeId} {f0 f1 f2 f3 : Field} (hT : TmTy P T f0 f1 f2 f3) {r : Reach} {base : Nat} {v : Value} {d : DataW H} {ps : List MemPlace}
    (hv : Value.okWide P w r base T v) (hd : DataW.Trod enc P w 0 (fun _ => true) true T v d ps) : ∃ t : Tm, TRep w none1 β0 (aT t) v ∧ t.bk ≤ b d := by
  obtain ⟨cs, rfl, _⟩ := okWide_struct hT.str hv
  obtain ⟨fuel, hf⟩ := hd
  obtain ⟨t, h1, h2⟩ := rd_term hb hT fuel _ _ hf
  refine ⟨t, ⟨cs.toList, by simp, ?_⟩, h2⟩
  rw [FT_eta] at h1
  have h1 : LRep (FRep w none1) [.int .i64 t.k, .str t.s, .int .i64 t.n, .sl false 4 (FTs t.l)] cs.toList := h1
  exact h1.map (g := fun x => WV.a (.fz x)) fun c u _ h => .a _ _ (.fz _ _ h)
theorem open_terms {b : DataW H → Nat} {bs : List (DataW H) → Nat} (hb : Bulk b bs) {T S : TypeId} {f0 f1 f2 f3 : Field} (hT : TmTy P T f0 f1 f2 f3) (hS : P.underlying S = some (.slice T)) {r : Reach} {base : Nat} {v : Value} {d : DataW H} {ps : List MemPlace}
    (hv : Value.okWide P w r base S v) (hd : DataW.Trod enc P w 0 (fun _ => true) true S v d ps) : ∃ l : List Tm, TRep w none1 β0 (aL l) v ∧ Tm.bks l + 1 ≤ b d := by
  obtain ⟨a, len, cap, rfl⟩ := okWide_slice hS hv
  obtain ⟨fuel, hf⟩ := hd
  obtain ⟨l, h1, h2⟩ := rd_slice (F := FT) (sz := Tm.bk) hb.cons hb.one hb.slice hS hT.cT (by omega) FT_length (fun k _ => rd_term hb hT k) _ _ hf
  have h2 : sumBy Tm.bk l + 1 ≤ b d := h2
  rw [← FT_sum] at h2
  have h1 : LRep (FRep w none1) [.sl false 4 (l.map FT)] [_] := h1
  rw [← FTs_map] at h1
  exact ⟨l, .a _ _ (.fz _ _ h1.one), h2⟩
theorem open_num {t : TypeId} {k : IntKind} (ht : P.underlying t = some (.int k)) {r : Reach} {base : Nat} {v : Value} {d : DataW H} {ps : List MemPlace}
    (hv : Value.okWide P w r base t v) (hd : DataW.Trod enc P w 0 (fun _ => true) true t v d ps) : ∃ n : Int, TRep w none1 β0 (.c (.a (.fz (.int k n)))) v ∧ (Lit.int k n).wf = true := by
  obtain ⟨n, rfl, _, _, hw⟩ := open_int ht hv hd
  exact ⟨n, .a _ _ (.fz _ _ (.int k n)), hw⟩
theorem open_str {t : TypeId} (ht : P.underlying t = some .string) {b : DataW H → Nat} {bs : List (DataW H) → Nat} (hb : Bulk b bs) {r : Reach} {base : Nat} {v : Value} {d : DataW H} {ps : List MemPlace}
    (hv : Value.okWide P w r base t v) (hd : DataW.Trod enc P w 0 (fun _ => true) true t v d ps) : ∃ s : List UInt8, TRep w none1 β0 (cs s) v ∧ s.length + 1 ≤ b d := by
  obtain ⟨s, rfl⟩ := okWide_string ht hv
  obtain ⟨fuel, hf⟩ := hd
  obtain ⟨l, h1, h2⟩ := rd_str (b := b) ht hb.str fuel _ _ hf
  exact ⟨l, .a _ _ (.fz _ _ h1.one), h2⟩

/-! ### The end -/
theorem kept_good {w' : World} {foot : Nat → Prop} (g : Good w foot w') (hf : ∀ b, ¬ foot b) (may : MemPlace → Prop) : w.keptBut w' may := by
  refine ⟨g.os, g.output, fun i hi => ?_⟩
  rw [g.blk i hi (hf i)]
  exact (World.keptBut_refl w may).2.2 i hi
theorem same_good {w' : World} {foot : Nat → Prop} (g : Good w foot w') (hf : ∀ b, ¬ foot b) {p : MemPlace} (hp : p.block < w.heap.size) : w.sameAt w' p := by
  cases p with
  | cell b o => exact World.cell?_of_block (a := ⟨b, o, none⟩) (g.blk b hp (hf b))
  | map b => exact g.blk b hp (hf b)
theorem trodAll_stays (hl : laidOutB P = true) {w' : World} {sp : Nat → Bool} : ∀ {ts : List TypeId} {vs : List Value} {ds : List (DataW H)} {p : List MemPlace}, DataW.TrodAll enc P w 0 (fun _ => true) true ts vs ds p →
    (∀ t ∈ ts, P.readableRec t = true ∧ t < P.types.size) → (∀ x ∈ p, w.sameAt w' x) → (∀ x ∈ p, sp x.block = true) → DataW.TrodAll enc P w' 0 sp true ts vs ds p
  | [], _, _, _, h, _, _, _ => by
    obtain ⟨rfl, rfl, rfl⟩ := trodAll_nil h
    exact trodAll_mk0
  | t :: ts, _, _, _, h, ht, hs, hsp => by
    obtain ⟨v, vs', d, ds', p, q, rfl, rfl, rfl, ⟨n, h1⟩, h2⟩ := trodAll_cons h
    have hr := (ht t List.mem_cons_self).1
    exact ⟨p, q, ⟨n, DataW.trod_stays (kids_book hl hr) (book_sized hr) (fun h => by cases h) ⟨(ht t List.mem_cons_self).2, book_self t⟩ h1 (fun x hx => hs x (List.mem_append_left _ hx)) (fun x hx => hsp x (List.mem_append_left _ hx))⟩,
      trodAll_stays hl h2 (fun u hu => ht u (List.mem_cons_of_mem _ hu)) (fun x hx => hs x (List.mem_append_right _ hx)) (fun x hx => hsp x (List.mem_append_right _ hx)), rfl⟩
/-- A law's end: it returns true, and what was read reads as before. -/
theorem post_good (hl : laidOutB P = true) {f : Func} {s : ChangeSpec} {apart fresh handsOn again : Bool} {w' : World} {args : Array Value} {ds gs : List (DataW H)} {before : List MemPlace} {foot : Nat → Prop} {tb : TypeId}
    (hW : DataW.Whole enc P f.params.toList s.vars apart w args.toList ds gs before) (hv : s.vars = []) (hs : ∀ ds' : List (DataW H), ds'.length = ds.length → s.fn H ds' = { results := [.lit (.bool true)], args := ds' })
    (ht : ∀ t ∈ f.params.toList, P.readableRec t = true ∧ t < P.types.size) (hr : f.resultTypes = #[tb]) (hb : P.underlying tb = some .bool) (g : Good w foot w') (hf : ∀ b, ¬ foot b) :
    s.post enc P f apart fresh handsOn again w args (.bool true) w' := by
  have hlt := hW.lt
  obtain ⟨p, q, h1, h2, he, hz, hn⟩ := hW
  rw [hv] at h2
  obtain ⟨rfl, rfl⟩ := trodVars_none h2
  rw [List.append_nil] at he
  subst he
  have hold : ∀ x ∈ before, (fun b => decide (b < w.heap.size)) x.block = true := fun x hx => by simpa using hlt x hx
  have hfn := hs (ds ++ []) (by simp)
  have hargs : ∀ sp : Nat → Bool, (∀ x ∈ before, sp x.block = true) → DataW.TrodAll enc P w' 0 sp true f.params.toList args.toList (s.fn H (ds ++ [])).args before := fun sp hsp => by
    rw [hfn, List.append_nil]
    exact trodAll_stays hl h1 ht (fun x hx => same_good g hf (hlt x hx)) hsp
  have hres : ∀ (b : Nat) (sp : Nat → Bool) (hd : Bool), DataW.TrodAll enc P w' b sp hd f.resultTypes.toList ((Value.bool true).resultList f.resultTypes.size) (s.fn H (ds ++ [])).results [] := fun b sp hd => by
    rw [hfn, hr]
    exact trodAll_mk1 ⟨1, by simp [DataW.trod, Value.cells, hb]⟩
  have hvars : ∀ sp : Nat → Bool, DataW.TrodVars enc P w' sp s.vars (s.fn H (ds ++ [])).vars [] := fun sp => by
    rw [hfn, hv]
    rfl
  refine ⟨ds, [], before, [], before, [], ⟨before, [], h1, by rw [hv]; rfl, by simp, hz, hn⟩, hres _ _ _, hargs _ hold, hvars _, World.keptBut_mono (fun x hx => ⟨hx, ?_⟩) (kept_good g hf (· ∈ before)), fun _ => ?_⟩
  · simpa using hx
  · refine ⟨ok_one hr rfl (okWide_bool_mk hb _), _, _, ([] ++ before) ++ [], ⟨[] ++ before, [], trodAll_append (hargs _ (fun _ _ => rfl)) (hres _ _ _), hvars _, rfl, ?_, ?_⟩, ?_⟩
    · intro b off hp
      have hp : MemPlace.cell b off ∈ before := by simpa using hp
      have hb := hlt _ hp
      have : w'.frozen? ⟨b, off, none⟩ = w.frozen? ⟨b, off, none⟩ := by
        unfold World.frozen?
        rw [g.blk b hb (hf b)]
      rw [this]
      exact hz b off hp
    · intro ha
      simpa using hn ha
    · intro x hx _
      simpa using hx
/-- A contract that a law's function answers: true. -/
theorem law_true {f : FuncId} {args : List TV} (hgl : Gl P w none1) (h : AC P f args [] (cb true) []) {vals : List Value} (hv : LRep (TRep w none1 β0) args vals) :
    Calls P f vals.toArray w fun e w' => e = .returned (.bool true) ∧ ∃ foot, (∀ b, ¬ foot b) ∧ Good w foot w' := by
  have hX : (fun b => (fun _ : Nat => False) b ∨ Own (fun o => ([] : List AObj).getD o .gone) β0 b) = none1 := none_own (fun _ h => h)
  refine (h.2.2 w vals β0 (fun _ => False) (fun o b h => by cases h) (fun b h => h.elim) (hgl.sub fun b ⟨o, h5, _⟩ => by simp [isLive] at h5) ⟨fun o b h _ => by simp [isLive] at h, fun o h => by simp [isLive] at h, fun o o' b h => by simp [isLive] at h, fun o b h => by cases h⟩ (by rw [hX]; exact hv)).mono fun e w' ⟨v, β', h1, h2, h3, h4, _⟩ => ?_
  subst h1
  cases h4 with
  | a _ _ h4 =>
    cases h4 with
    | fz _ _ h4 =>
      cases h4
      exact ⟨rfl, _, fun b ⟨o, h5, _⟩ => by simp [isLive] at h5, h2⟩
end
end Go.AM

namespace Go.AM
open Go.ChangeShapes Go.WideShapes Go.ChangeAt Go.RowKit

section
variable {H : Type} {enc : TypeId × Value → H} {P : Program} {w : World}
theorem wf_range {n : Int} (h : (Lit.int .i64 n).wf = true) : -9223372036854775808 ≤ n ∧ n ≤ 9223372036854775807 := by
  simp only [Lit.wf, IntKind.min, IntKind.max, IntKind.signed, IntKind.bits, Bool.and_eq_true, decide_eq_true_eq, if_true] at h; omega
abbrev TmI := { t : Tm // okI t }
theorem sumBy_val : ∀ l : List TmI, Tm.bks (l.map (·.1)) = sumBy (fun t : TmI => t.1.bk) l
  | [] => rfl
  | t :: l => by rw [List.map_cons, Tm.bks, sumBy, sumBy_val l]
theorem okIs_val (l : List TmI) : okIs (l.map (·.1)) := okIs_of fun t ht => by
  obtain ⟨u, _, rfl⟩ := List.mem_map.1 ht
  exact u.2
theorem rd_termI {b : DataW H → Nat} {bs : List (DataW H) → Nat} (hb : Bulk b bs) {T : TypeId} {f0 f1 f2 f3 : Field} (hT : TmTy P T f0 f1 f2 f3) : ∀ fuel, RdN enc P w b fuel T (fun t : TmI => FT t.1) (fun t => t.1.bk) := by
  intro fuel
  induction fuel using Nat.strongRecOn with
  | _ fuel ih =>
    intro cs x h
    obtain ⟨xs, n, rfl, rfl, hl, hxl, hf⟩ := DataW.trod_struct hT.str h
    rw [hT.cT] at hl
    match cs, hl with
    | [v0, v1, v2, v3], _ =>
    match xs, hxl with
    | [x0, x1, x2, x3], _ =>
    have g0 := hf 0 f0 rfl
    have g1 := hf 1 f1 rfl
    have g2 := hf 2 f2 rfl
    have g3 := hf 3 f3 rfl
    rw [hT.o0, hT.c0] at g0
    rw [hT.o1, hT.c1] at g1
    rw [hT.o2, hT.c2] at g2
    rw [hT.o3, hT.c3] at g3
    obtain ⟨k, r0, _⟩ := rd_int (b := b) hT.u0 hb.one n _ _ g0
    obtain ⟨s, r1, z1⟩ := rd_str (b := b) hT.u1 hb.str n _ _ g1
    have z1 : s.length + 1 ≤ b x1.1 := z1
    obtain ⟨m, r2, _⟩ := rd_num (b := b) hT.u2 hb.one n _ _ g2
    obtain ⟨l, r3, z3⟩ := rd_slice (F := fun t : TmI => FT t.1) (sz := fun t : TmI => t.1.bk) hb.cons hb.one hb.slice hT.u3 hT.cT (by omega) (fun t => FT_length t.1) (fun k hk => ih k (by omega)) _ _ g3
    have z3 : sumBy (fun t : TmI => t.1.bk) l + 1 ≤ b x3.1 := z3
    refine ⟨⟨.mk k s m.1 (l.map (·.1)), wf_range m.2, okIs_val l⟩, ?_, ?_⟩
    · have e : FTs (l.map (·.1)) = l.map fun t : TmI => FT t.1 := by rw [FTs_map, List.map_map]; rfl
      show LRep (FRep w none1) (FT (.mk k s m.1 (l.map (·.1)))) _
      rw [FT, e]
      exact .cons (LRep.one r0) (.cons (LRep.one r1) (.cons (LRep.one r2) (.cons (LRep.one r3) .nil)))
    · have := hb.one x0.1
      show Tm.bk (.mk k s m.1 (l.map (·.1))) ≤ b (.agg [x0.1, x1.1, x2.1, x3.1])
      simp only [Tm.bk, sumBy_val]
      have h9 := hb.agg [x0.1, x1.1, x2.1, x3.1]
      simp only [hb.cons, hb.nil] at h9
      omega
theorem open_termI {b : DataW H → Nat} {bs : List (DataW H) → Nat} (hb : Bulk b bs) {T : TypeId} {f0 f1 f2 f3 : Field} (hT : TmTy P T f0 f1 f2 f3) {r : Reach} {base : Nat} {v : Value} {d : DataW H} {ps : List MemPlace}
    (hv : Value.okWide P w r base T v) (hd : DataW.Trod enc P w 0 (fun _ => true) true T v d ps) : ∃ t : Tm, TRep w none1 β0 (aT t) v ∧ t.bk ≤ b d ∧ okI t := by
  obtain ⟨cs, rfl, _⟩ := okWide_struct hT.str hv
  obtain ⟨fuel, hf⟩ := hd
  obtain ⟨t, h1, h2⟩ := rd_termI hb hT fuel _ _ hf
  refine ⟨t.1, ⟨cs.toList, by simp, ?_⟩, h2, t.2⟩
  have h1 : LRep (FRep w none1) (FT t.1) cs.toList := h1
  rw [FT_eta] at h1
  exact h1.map (g := fun x => WV.a (.fz x)) fun c u _ h => .a _ _ (.fz _ _ h)
end
end Go.AM

namespace Go.AM
open Go.ChangeShapes Go.WideShapes Go.ChangeAt Go.RowKit

section
variable {H : Type} {enc : TypeId × Value → H} {P : Program} {w : World}
/-- A row of structs, from what one is. -/
theorem open_rows {b : DataW H → Nat} {bs : List (DataW H) → Nat} (hb : Bulk b bs) {T S : TypeId} {n : Nat} {α : Type} {F : α → List FV} {sz : α → Nat} (hF : ∀ a, (F a).length = n) (hn : P.cellsOf T = n) (hn0 : 0 < n) (hz : ∀ a, 1 ≤ sz a)
    (h1 : ∀ k, RdN enc P w b k T F sz) (hS : P.underlying S = some (.slice T)) {r : Reach} {base : Nat} {v : Value} {d : DataW H} {ps : List MemPlace}
    (hv : Value.okWide P w r base S v) (hd : DataW.Trod enc P w 0 (fun _ => true) true S v d ps) : ∃ l : List α, TRep w none1 β0 (.c (.a (.fz (.sl false n (l.map F))))) v ∧ sumBy sz l + 1 ≤ b d := by
  obtain ⟨a, len, cap, rfl⟩ := okWide_slice hS hv
  obtain ⟨fuel, hf⟩ := hd
  obtain ⟨l, h1, h2⟩ := rd_slice hb.cons hb.one hb.slice hS hn hn0 hF (fun k _ => h1 k) _ _ hf
  have h1 : LRep (FRep w none1) [.sl false n (l.map F)] [_] := h1
  exact ⟨l, .a _ _ (.fz _ _ h1.one), h2⟩
/-- A truth value and a term. -/
abbrev FBT (v : Bool × TmI) : List FV := .bool v.1 :: FT v.2.1
structure BTTy (P : Program) (T Tt : TypeId) (f0 f1 : Field) : Prop where
  str : P.underlying T = some (.struct #[f0, f1])
  u0 : P.underlying f0.type = some .bool
  t1 : f1.type = Tt
  o0 : f0.offset = 0
  o1 : f1.offset = 1
  c0 : P.cellsOf f0.type = 1
  cT : P.cellsOf T = 5
theorem rd_bt {b : DataW H → Nat} {bs : List (DataW H) → Nat} (hb : Bulk b bs) {T Tt : TypeId} {g0 g1 g2 g3 f0 f1 : Field} (hT : TmTy P Tt g0 g1 g2 g3) (hV : BTTy P T Tt f0 f1) (fuel : Nat) :
    RdN enc P w b fuel T FBT (fun v => v.2.1.bk + 1) := by
  intro cs x h
  obtain ⟨xs, n, rfl, rfl, hl, hxl, hf⟩ := DataW.trod_struct hV.str h
  rw [hV.cT] at hl
  match cs, hl with
  | [v0, v1, v2, v3, v4], _ =>
  match xs, hxl with
  | [x0, x1], _ =>
  have q0 := hf 0 f0 rfl
  have q1 := hf 1 f1 rfl
  rw [hV.o0, hV.c0] at q0
  rw [hV.o1, hV.t1, hT.cT] at q1
  obtain ⟨p, r0, _⟩ := rd_bool (b := b) hV.u0 hb.one n _ _ q0
  obtain ⟨t, r1, z1⟩ := rd_termI hb hT n _ _ q1
  have z1 : t.1.bk ≤ b x1.1 := z1
  refine ⟨(p, t), .cons (LRep.one r0) r1, ?_⟩
  show t.1.bk + 1 ≤ b (.agg [x0.1, x1.1])
  have h9 := hb.agg [x0.1, x1.1]
  simp only [hb.cons, hb.nil] at h9
  omega
/-- A number, a truth value and a term. -/
abbrev IBT := { n : Int // -9223372036854775808 ≤ n ∧ n ≤ 9223372036854775807 } × Bool × TmI
abbrev FIBT (v : IBT) : List FV := .int .i64 v.1.1 :: .bool v.2.1 :: FT v.2.2.1
structure IBTTy (P : Program) (T Tt : TypeId) (f0 f1 f2 : Field) : Prop where
  str : P.underlying T = some (.struct #[f0, f1, f2])
  u0 : P.underlying f0.type = some (.int .i64)
  u1 : P.underlying f1.type = some .bool
  t2 : f2.type = Tt
  o0 : f0.offset = 0
  o1 : f1.offset = 1
  o2 : f2.offset = 2
  c0 : P.cellsOf f0.type = 1
  c1 : P.cellsOf f1.type = 1
  cT : P.cellsOf T = 6
theorem rd_ibt {b : DataW H → Nat} {bs : List (DataW H) → Nat} (hb : Bulk b bs) {T Tt : TypeId} {g0 g1 g2 g3 f0 f1 f2 : Field} (hT : TmTy P Tt g0 g1 g2 g3) (hV : IBTTy P T Tt f0 f1 f2) (fuel : Nat) :
    RdN enc P w b fuel T FIBT (fun v => v.2.2.1.bk + 2) := by
  intro cs x h
  obtain ⟨xs, n, rfl, rfl, hl, hxl, hf⟩ := DataW.trod_struct hV.str h
  rw [hV.cT] at hl
  match cs, hl with
  | [v0, v1, v2, v3, v4, v5], _ =>
  match xs, hxl with
  | [x0, x1, x2], _ =>
  have q0 := hf 0 f0 rfl
  have q1 := hf 1 f1 rfl
  have q2 := hf 2 f2 rfl
  rw [hV.o0, hV.c0] at q0
  rw [hV.o1, hV.c1] at q1
  rw [hV.o2, hV.t2, hT.cT] at q2
  obtain ⟨i, r0, z0⟩ := rd_num (b := b) hV.u0 hb.one n _ _ q0
  obtain ⟨p, r1, z1⟩ := rd_bool (b := b) hV.u1 hb.one n _ _ q1
  obtain ⟨t, r2, z2⟩ := rd_termI hb hT n _ _ q2
  have z2 : t.1.bk ≤ b x2.1 := z2
  have z0 : 1 ≤ b x0.1 := z0
  refine ⟨(⟨i.1, wf_range i.2⟩, p, t), .cons (LRep.one r0) (.cons (LRep.one r1) r2), ?_⟩
  show t.1.bk + 2 ≤ b (.agg [x0.1, x1.1, x2.1])
  have h9 := hb.agg [x0.1, x1.1, x2.1]
  simp only [hb.cons, hb.nil] at h9
  omega
/-- Three numbers and a term. -/
abbrev I3T := { n : Int × Int × Int // (-9223372036854775808 ≤ n.1 ∧ n.1 ≤ 9223372036854775807) ∧ (-9223372036854775808 ≤ n.2.1 ∧ n.2.1 ≤ 9223372036854775807) ∧ (-9223372036854775808 ≤ n.2.2 ∧ n.2.2 ≤ 9223372036854775807) } × TmI
abbrev FI3T (v : I3T) : List FV := .int .i64 v.1.1.1 :: .int .i64 v.1.1.2.1 :: .int .i64 v.1.1.2.2 :: FT v.2.1
structure I3TTy (P : Program) (T Tt : TypeId) (f0 f1 f2 f3 : Field) : Prop where
  str : P.underlying T = some (.struct #[f0, f1, f2, f3])
  u0 : P.underlying f0.type = some (.int .i64)
  u1 : P.underlying f1.type = some (.int .i64)
  u2 : P.underlying f2.type = some (.int .i64)
  t3 : f3.type = Tt
  o0 : f0.offset = 0
  o1 : f1.offset = 1
  o2 : f2.offset = 2
  o3 : f3.offset = 3
  c0 : P.cellsOf f0.type = 1
  c1 : P.cellsOf f1.type = 1
  c2 : P.cellsOf f2.type = 1
  cT : P.cellsOf T = 7
theorem rd_i3t {b : DataW H → Nat} {bs : List (DataW H) → Nat} (hb : Bulk b bs) {T Tt : TypeId} {g0 g1 g2 g3 f0 f1 f2 f3 : Field} (hT : TmTy P Tt g0 g1 g2 g3) (hV : I3TTy P T Tt f0 f1 f2 f3) (fuel : Nat) :
    RdN enc P w b fuel T FI3T (fun v => v.2.1.bk + 3) := by
  intro cs x h
  obtain ⟨xs, n, rfl, rfl, hl, hxl, hf⟩ := DataW.trod_struct hV.str h
  rw [hV.cT] at hl
  match cs, hl with
  | [v0, v1, v2, v3, v4, v5, v6], _ =>
  match xs, hxl with
  | [x0, x1, x2, x3], _ =>
  have q0 := hf 0 f0 rfl
  have q1 := hf 1 f1 rfl
  have q2 := hf 2 f2 rfl
  have q3 := hf 3 f3 rfl
  rw [hV.o0, hV.c0] at q0
  rw [hV.o1, hV.c1] at q1
  rw [hV.o2, hV.c2] at q2
  rw [hV.o3, hV.t3, hT.cT] at q3
  obtain ⟨i, r0, z0⟩ := rd_num (b := b) hV.u0 hb.one n _ _ q0
  obtain ⟨j, r1, z1⟩ := rd_num (b := b) hV.u1 hb.one n _ _ q1
  obtain ⟨k, r2, z2⟩ := rd_num (b := b) hV.u2 hb.one n _ _ q2
  obtain ⟨t, r3, z3⟩ := rd_termI hb hT n _ _ q3
  have z0 : 1 ≤ b x0.1 := z0
  have z1 : 1 ≤ b x1.1 := z1
  have z3 : t.1.bk ≤ b x3.1 := z3
  refine ⟨(⟨(i.1, j.1, k.1), wf_range i.2, wf_range j.2, wf_range k.2⟩, t), .cons (LRep.one r0) (.cons (LRep.one r1) (.cons (LRep.one r2) r3)), ?_⟩
  show t.1.bk + 3 ≤ b (.agg [x0.1, x1.1, x2.1, x3.1])
  have h9 := hb.agg [x0.1, x1.1, x2.1, x3.1]
  simp only [hb.cons, hb.nil] at h9
  omega
end
end Go.AM

set_option maxRecDepth 100000
open Go Go.Proofs
namespace Go.AM

/-! ### The law: the number that a term is -/
abbrev aV5 (l : List (Bool × TmI)) : TV := .c (.a (.fz (.sl false 5 (l.map FBT))))
abbrev stE (l : List (Bool × TmI)) (f : Int) (t : Tm) (u : Sto) (i : Nat) (x : Int) : St :=
  ⟨[(0, aV5 l), (2, ci f), (4, .c (.a (.ep 0 4 0 0))), (7, cb true), (10, .c (.a (.ep 1 2 0 0))), (11, .c (.a (.ep 4 2 0 0))), (i, ci x)],
    [(0, .arr 4 [cT t]), (1, sto2 2 3 u), (2, .arz 6 (SR u.V)), (3, .arz 1 (IR u.T)), (4, sto2 5 6 u), (5, .arz 6 (SR u.V)), (6, .arz 1 (IR u.T))], 7⟩
theorem FBT_get {l : List (Bool × TmI)} {i : Nat} (h : i < l.length) : List.getD (l.map FBT) i [] = FBT l[i] := by simp [List.getD, h]
theorem OKS.bind {s : Sto} {x : Int} {t : Tm} (h : OKS s) (hz : t.sz ≤ 4000) (hb : bd 2199023255552 t) : OKS (bindS s x t) := by
  by_cases q : bindB s x t = true
  · rw [(bind_yes q).1]
    intro i hi hbd
    rcases List.mem_or_eq_of_mem_set hi with hi | rfl
    · exact h i hi hbd
    · refine ⟨?_, hz, hb⟩
      simp only [bindB, Bool.and_eq_true] at q
      exact q.2.2.1
  · rw [(bind_no (by simpa using q)).1]; exact h
theorem OKN.bind {s : Sto} {x : Int} {t : Tm} (h : OKN s) (ht : okN t) : OKN (bindS s x t) := by
  by_cases q : bindB s x t = true
  · rw [(bind_yes q).1]
    intro i hi
    rcases List.mem_or_eq_of_mem_set hi with hi | rfl
    · exact h i hi
    · exact ht
  · rw [(bind_no (by simpa using q)).1]; exact h
theorem bindS_T (s : Sto) (x : Int) (t : Tm) : (bindS s x t).T.length ≤ s.T.length + 1 := by
  unfold bindS; split <;> simp
theorem OKS.fresh {s : Sto} (h : OKS s) (lv : Int) : OKS (freshS s lv) := fun i hi hb => by
  rcases List.mem_append.1 hi with hi | hi
  · exact h i hi hb
  · simp at hi; subst hi; cases hb
theorem OKN.fresh {s : Sto} (h : OKN s) (lv : Int) : OKN (freshS s lv) := fun i hi => by
  rcases List.mem_append.1 hi with hi | hi
  · exact h i hi
  · simp at hi; subst hi; exact okN_no
theorem I64_wrap {x : Int} (h0 : 0 - 9223372036854775808 ≤ x) (h1 : x ≤ 9223372036854775807) : IntKind.wrap .i64 x = x := w64 h0 h1
theorem p_evals5 (l : List (Bool × TmI)) (f : Int) (t : Tm) (hl : l.length ≤ 6) (hf : f ≤ 100) (hf0 : 0 - 9223372036854775808 ≤ f) (hN : okN t) (hz : t.sz ≤ 30) (hbk : t.bk ≤ B) (hb : bd 1000 t) (hbl : ∀ v ∈ l, v.2.1.bk ≤ B) :
    ∀ (n : Nat) (u : Sto) (i : Nat), i + n = l.length → OKS u → OKN u → u.T.length ≤ i → RPt Try.prog 10 0 (cb true) [] 5 (stE l f t u 13 (i : Int)) := by
  intro n
  induction n with
  | zero =>
    intro u i hi hs hn hT
    have fit : validB t = true → Fit f.toNat t := fun hv => ⟨valid_ok _ hv, by simp only [SZ]; omega, bd_le (by simp only [M61, SZ]; omega) _ hb, by omega⟩
    have ha := (c_aeval u hs hn (t.sz + 4200 * f.toNat) f t hf0 (by omega) (by simp only [B]; omega) fit hN (Nat.le_refl _)).1
    have hv := c_rvalid t hbk
    have hr := fun hv => c_reval u hs hn (t.sz + 4200 * f.toNat) f t hf0 (by omega) hv (fit hv) hN (Nat.le_refl _)
    have hno : validB t = false → evalV u (t.sz + 4200 * f.toNat) f t = (0, 0, 1) := fun h => by
      have : t.sz + 4200 * f.toNat = (t.sz - 1 + 4200 * f.toNat) + 1 := by have := t.sz_pos; omega
      rw [this]
      show evK _ (headV u f t) = _
      rw [headV, if_neg (by rw [h]; simp)]; rfl
    obtain ⟨k, str, m, tl⟩ := t
    refine RPt.vc hP sh lv10 (Eq.mpr (v10_5a (l.map FBT) f true i k str m (FTs tl) u.V.length u.T.length (SR u.V) (IR u.T) u.V.length u.T.length (SR u.V) (IR u.T) _ _) ?_)
    refine ⟨rfl, br_of (fun h => ?_) (fun _ => ?_)⟩
    · have h := of_decide_eq_true h
      rw [List.length_map] at h; omega
    · refine ⟨_, _, _, ha, _, hv, br_of (fun h => ?_) (fun h => ?_)⟩
      · have h : validB (.mk k str m tl) = false := (Bool.not_eq_true' _).mp h
        rw [hno h]
        exact ret_b rfl
      · have h : validB (.mk k str m tl) = true := (Bool.not_eq_false' _).mp h
        refine ⟨_, _, _, hr h, br_of (fun _ => br_of (fun _ => br_of (fun _ => ret_b (by simp)) (fun h => by simp at h)) (fun h => by simp at h)) (fun h => by cases h)⟩
  | succ n ih =>
    intro u i hi hs hn hT
    obtain ⟨k, str, m, tl⟩ := t
    have hlt : i < l.length := by omega
    have hmem := hbl _ (List.getElem_mem hlt)
    have hg := FBT_get hlt
    refine RPt.vc hP sh lv10 (Eq.mpr (v10_5a (l.map FBT) f true i k str m (FTs tl) u.V.length u.T.length (SR u.V) (IR u.T) u.V.length u.T.length (SR u.V) (IR u.T) _ _) ?_)
    refine ⟨rfl, br_of (fun _ => ?_) (fun h => ?_)⟩
    · rw [Int.toNat_natCast, List.length_map, hg, I64_wrap (by omega) (by omega)]
      generalize l[i] = e at *
      obtain ⟨bb, ⟨⟨ek, es, en, el⟩, eI⟩⟩ := e
      have zb := Tm.sz_bk (.mk ek es en el)
      have hmem : Tm.bk (.mk ek es en el) ≤ B := hmem
      have c1 := c_large (.mk ek es en el) (by omega) 12 (by omega) (by omega)
      have c2 := c_near 1000 (by omega) (by omega) (.mk ek es en el) (by omega)
      have op : (FV.isSl 5 (.sl false 5 (l.map FBT)) = true) ∧ ((0 : Int) ≤ (i : Int)) ∧ ((i : Int) < (l.length : Int)) ∧ (FBT (bb, ⟨.mk ek es en el, eI⟩) = FBT (bb, ⟨.mk ek es en el, eI⟩)) := ⟨rfl, by omega, by omega, rfl⟩
      refine ⟨op, _, c1, op, _, c2, br_of (fun _ => ret_b rfl) (fun e1 => br_of (fun _ => ret_b rfl) (fun e2 => ⟨op, br_of (fun e3 => ?_) (fun _ => ?_)⟩))⟩
      · have e2 : near 1000 (.mk ek es en el) = true := (Bool.not_eq_false' _).mp e2
        have z1 := large_sz e1
        have b1 := near_bd _ e2
        have bM : bd M61 (.mk ek es en el) := bd_le (by simp only [M61]; omega) _ b1
        have hb1 := c_sbind u i (.mk ek es en el) (by omega) (by omega) bM
        have hb2 := c_rbind u i (.mk ek es en el) (by omega) hmem bM
        refine ⟨op, (bindE u i (.mk ek es en el), bindS u i (.mk ek es en el)), hb1, op, (bindE u i (.mk ek es en el), bindS u i (.mk ek es en el)), hb2, ?_⟩
        have := bindS_T u i (.mk ek es en el)
        have := ih (bindS u i (.mk ek es en el)) (i + 1) (by omega) (hs.bind (by omega) (bd_le (by omega) _ b1)) (hn.bind (okI_N _ eI)) (by omega)
        exact this
      · exact ih u (i + 1) (by omega) hs hn (by omega)
    · have h := of_decide_eq_false h
      rw [List.length_map] at h; omega
theorem p_evals1 (l : List (Bool × TmI)) (f : Int) (t : Tm) (hl : l.length ≤ 6) (hf : f ≤ 100) (hf0 : 0 - 9223372036854775808 ≤ f) (hN : okN t) (hz : t.sz ≤ 30) (hbk : t.bk ≤ B) (hb : bd 1000 t) (hbl : ∀ v ∈ l, v.2.1.bk ≤ B) :
    ∀ (n : Nat) (u : Sto) (i : Nat), i + n = l.length → OKS u → OKN u → u.T.length = 0 → u.V.length ≤ i → RPt Try.prog 10 0 (cb true) [] 1 (stE l f t u 12 (i : Int)) := by
  intro n
  induction n with
  | zero =>
    intro u i hi hs hn hT hV
    have nx := p_evals5 l f t hl hf hf0 hN hz hbk hb hbl l.length u 0 (by omega) hs hn (by omega)
    obtain ⟨k, str, m, tl⟩ := t
    refine RPt.vc hP sh lv10 (Eq.mpr (v10_1a (l.map FBT) f true i k str m (FTs tl) u.V.length u.T.length (SR u.V) (IR u.T) u.V.length u.T.length (SR u.V) (IR u.T) _ _) ?_)
    refine ⟨rfl, br_of (fun h => ?_) (fun _ => nx)⟩
    have h := of_decide_eq_true h
    rw [List.length_map] at h; omega
  | succ n ih =>
    intro u i hi hs hn hT hV
    have c1 := c_sfresh u 0 (by omega)
    have c2 := c_rfresh u 0 (by omega)
    have nx := ih (freshS u 0) (i + 1) (by omega) (hs.fresh 0) (hn.fresh 0) hT (by simp [freshS]; omega)
    obtain ⟨k, str, m, tl⟩ := t
    refine RPt.vc hP sh lv10 (Eq.mpr (v10_1a (l.map FBT) f true i k str m (FTs tl) u.V.length u.T.length (SR u.V) (IR u.T) u.V.length u.T.length (SR u.V) (IR u.T) _ _) ?_)
    refine ⟨rfl, br_of (fun _ => ?_) (fun h => ?_)⟩
    · rw [I64_wrap (by omega) (by omega)]
      exact ⟨(_, freshS u 0), c1, (_, freshS u 0), c2, nx⟩
    · have h := of_decide_eq_false h
      rw [List.length_map] at h; omega
theorem c_arithevals (l : List (Bool × TmI)) (t : Tm) (f : Int) (hbk : t.bk ≤ B) (hI : okI t) (hbl : ∀ v ∈ l, v.2.1.bk ≤ B) (hf0 : 0 - 9223372036854775808 ≤ f) : AC Try.prog 10 [aV5 l, aT t, ci f] [] (cb true) [] := by
  have hz := Nat.le_trans (Tm.sz_bk t) hbk
  have l1 := c_large t hz 30 (by omega) (by omega)
  have n1 := c_near 1000 (by omega) (by omega) t hz
  have nx := fun hl hf h1 h2 => p_evals1 l f t hl hf hf0 (okI_N _ hI) h1 hbk h2 hbl l.length s0 0 (by omega) ok_s0 okn_s0 rfl (Nat.le_refl _)
  obtain ⟨k, str, n, tl⟩ := t
  refine AC.vc hP sh lv10 (Nat.le_refl _) (by simp) (by simp) (Eq.mpr (v10 (l.map FBT) k str n (FTs tl) f _ _) ?_)
  refine ⟨_, c_works18, br_of (fun h => by cases h) (fun _ => ⟨_, l1, _, n1, rfl, br_of (fun _ => ret_b rfl) (fun e1 => br_of (fun _ => ret_b rfl) (fun e2 => br_of (fun _ => ret_b rfl) (fun e3 => br_of (fun _ => ret_b rfl) (fun e4 => ⟨(), c_snew, ?_⟩))))⟩)⟩
  have e1 := of_decide_eq_false e1
  rw [List.length_map] at e1
  have e3 : near 1000 (.mk k str n tl) = true := (Bool.not_eq_false' _).mp e3
  have e4 := of_decide_eq_false e4
  have z1 := large_sz e2
  exact nx (by omega) (by omega) (by omega) (near_bd _ e3)

end Go.AM

set_option maxRecDepth 100000
open Go Go.Proofs
namespace Go.Proofs.Ytlemgmcjggkhdaa.base
open Go.ChangeShapes Go.WideShapes Go.ChangeAt Go.RowKit Go.AM

theorem one_le {H : Type} (d : DataW H) : 1 ≤ Rows.uptoBulk d := by
  cases d with
  | lit l => cases l <;> simp [Rows.uptoBulk]
  | _ => simp [Rows.uptoBulk]
theorem bulk {H : Type} : Bulk (H := H) Rows.uptoBulk Rows.uptoBulkAll :=
  ⟨rfl, fun _ _ => rfl, one_le, fun es sp => by simp only [Rows.uptoBulk]; omega, fun l => by simp [Rows.uptoBulk], fun l => by simp [Rows.uptoBulk]⟩
theorem own : ownKnob Try.prog.godebug = none := by kernel_rfl
theorem laidOut : laidOutB Try.prog = true := by kernel_rfl
theorem tmTy : ∃ f0 f1 f2 f3 : Field, TmTy Try.prog 35 f0 f1 f2 f3 :=
  ⟨_, _, _, _, Try.underlying35, Try.underlying32, Try.underlying9, Try.underlying3, Try.underlying33, rfl, rfl, rfl, rfl, by kernel_rfl, by kernel_rfl, by kernel_rfl, by kernel_rfl, by kernel_rfl⟩
theorem rec3 : Try.prog.readableRec 3 = true := by kernel_rfl
theorem lt3 : 3 < Try.prog.types.size := of_decide_eq_true (by kernel_rfl)
theorem rec9 : Try.prog.readableRec 9 = true := by kernel_rfl
theorem lt9 : 9 < Try.prog.types.size := of_decide_eq_true (by kernel_rfl)
theorem rec22 : Try.prog.readableRec 22 = true := by kernel_rfl
theorem lt22 : 22 < Try.prog.types.size := of_decide_eq_true (by kernel_rfl)
theorem rec30 : Try.prog.readableRec 30 = true := by kernel_rfl
theorem lt30 : 30 < Try.prog.types.size := of_decide_eq_true (by kernel_rfl)
theorem rec33 : Try.prog.readableRec 33 = true := by kernel_rfl
theorem lt33 : 33 < Try.prog.types.size := of_decide_eq_true (by kernel_rfl)
theorem rec35 : Try.prog.readableRec 35 = true := by kernel_rfl
theorem lt35 : 35 < Try.prog.types.size := of_decide_eq_true (by kernel_rfl)
theorem rec71 : Try.prog.readableRec 71 = true := by kernel_rfl
theorem lt71 : 71 < Try.prog.types.size := of_decide_eq_true (by kernel_rfl)
theorem noGl (g : Nat) (h : Try.prog.globalNamed "internal/strconv.uint64pow10" = some g) : False := by
  rw [show Try.prog.globalNamed "internal/strconv.uint64pow10" = none by kernel_rfl] at h; cases h
theorem num_range {n : Int} (h : (Lit.int .i64 n).wf = true) : -9223372036854775808 ≤ n ∧ n ≤ 9223372036854775807 := by
  simp only [Lit.wf, IntKind.min, IntKind.max, IntKind.signed, IntKind.bits, Bool.and_eq_true, decide_eq_true_eq, if_true] at h; omega
theorem upto {H : Type} {l : List (DataW H)} (hk : Rows.uptoSmall H l = true) : Rows.uptoBulkAll l ≤ 1048576 := of_decide_eq_true hk
end Go.Proofs.Ytlemgmcjggkhdaa.base
