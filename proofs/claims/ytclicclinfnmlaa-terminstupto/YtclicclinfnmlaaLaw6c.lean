/- The contracts of law functions, and the plain laws behind them (Law6c). No conditions. -/
import Derived.Test.YtclicclinfnmlaaLaw6b
set_option maxRecDepth 100000
open Go Go.Proofs
namespace Go.AM
section
variable (tk : Int) (ts : List UInt8) (tn : Int) (tl : List Tm) (sk : Int) (ss : List UInt8) (sn : Int) (sl al bl : List Tm)
theorem l_i5 (ka : ∀ u ∈ al, Okay u) (kb : ∀ u ∈ bl, Okay u) (hal : al.length ≤ 8)
    (hend : (∀ u ∈ al, validB u = true) → RPt Try.prog 6 0 (cb true) [] 9 (stI tk ts tn tl sk ss sn sl al bl 23 0 al)) : ∀ (b' a' : List Tm), a' ++ b' = al → (∀ u ∈ a', validB u = true) → RPt Try.prog 6 0 (cb true) [] 5 (stI tk ts tn tl sk ss sn sl al bl 21 a'.length a')
  | [], a', hab, hva => by
    rw [List.append_nil] at hab
    subst hab
    have hend := hend hva
    have hno : ¬ (a'.length : Int) < (((FTs a').length : Nat) : Int) := by rw [FTs_length]; omega
    match a', hend, hno with
    | [], hend, hno =>
      refine RPt.vc hP sh lv6 (Eq.mpr (v6_5a ..) ?_)
      exact ⟨rfl, br_of (fun h => absurd (of_decide_eq_true h) hno) (fun _ => hend)⟩
    | x :: d, hend, hno =>
      refine RPt.vc hP sh lv6 (Eq.mpr (v6_5b ..) ?_)
      exact ⟨rfl, br_of (fun h => absurd (of_decide_eq_true h) hno) (fun _ => hend)⟩
  | u :: b', a', hab, hva => by
    have hu : u ∈ al := by rw [← hab]; simp
    have hvc := c_valid u (by have := (ka u hu).size; simp only [B]; omega)
    have h3 := ltI' a' u b'
    have hlen : a'.length ≤ 8 := by have : a'.length ≤ al.length := by rw [← hab]; simp
                                    omega
    have hin := (inst_okay (ka u hu) kb).1
    have hsh := ((ka u hu).shift 0 1 (by omega) (by omega) (by omega) (by omega)).1
    have next : validB u = true → RPt Try.prog 6 0 (cb true) [] 5 (stI tk ts tn tl sk ss sn sl al bl 21 ((a'.length : Int) + 1) (a' ++ [u])) := fun hvu => by
      have := l_i5 ka kb hal hend b' (a' ++ [u]) (by rw [ap]; exact hab) (fun w hw => by
        rcases List.mem_append.1 hw with hw | hw
        · exact hva w hw
        · rw [List.mem_singleton.1 hw]; exact hvu)
      rw [nx] at this; exact this
    have hm := midI a' u b'
    rw [hab] at h3 hm
    have row : ∀ x : Tm, FTs [x] = [[.int .i64 x.k, .str x.s, .int .i64 x.n, .sl false 4 (FTs x.l)]] := fun x => by rw [FTs, FTs, FT_eta]
    match a', next, hlen, hm, h3 with
    | [], next, hlen, hm, h3 =>
      refine RPt.vc hP sh lv6 (Eq.mpr (v6_5a ..) ?_)
      have hm : List.getD (FTs al) (Int.toNat ((([] : List Tm).length : Nat) : Int)) [] = FT u := hm
      rw [hm, w64 (x := ((([] : List Tm).length : Nat) : Int) + 1) (by simp) (by simp)]
      refine ⟨rfl, br_of (fun _ => ?_) (fun h => absurd h3 (of_decide_eq_false h))⟩
      have r1 := row (inT bl u 0)
      have r2 := row (shT 0 1 u 0)
      obtain ⟨k', s', n', l'⟩ := u
      refine ⟨⟨rfl, by simp, h3, rfl⟩, _, hvc, br_of (fun _ => ret1 rfl) (fun h => ⟨⟨rfl, by simp, h3, rfl⟩, _, _, _, _, hin, by omega, roomI (by omega), by omega, roomI (by omega), ⟨rfl, by simp, h3, rfl⟩, _, _, _, _, hsh, by omega, roomI (by omega), ?_⟩)⟩
      rw [← r1, ← r2]
      exact next (by simpa using h)
    | x :: d, next, hlen, hm, h3 =>
      refine RPt.vc hP sh lv6 (Eq.mpr (v6_5b ..) ?_)
      rw [hm, w64 (x := (((x :: d).length : Nat) : Int) + 1) (by omega) (by omega)]
      refine ⟨rfl, br_of (fun _ => ?_) (fun h => absurd h3 (of_decide_eq_false h))⟩
      have r1 := row (inT bl u 0)
      have r2 := row (shT 0 1 u 0)
      have tk1 : ∀ f : Tm → Tm, List.take (x :: d).length (FTs ((x :: d).map f)) = FTs ((x :: d).map f) := fun f => List.take_of_length_le (by rw [FTs_length, List.length_map]; exact Nat.le_refl _)
      have tk2 : List.take (x :: d).length (OR (x :: d).length) = OR (x :: d).length := List.take_of_length_le (by rw [OR_length]; exact Nat.le_refl _)
      have ln1 : ∀ f : Tm → Tm, (x :: d).length ≤ (FTs ((x :: d).map f)).length := fun f => by rw [FTs_length, List.length_map]; exact Nat.le_refl _
      have ln2 : (x :: d).length ≤ (OR (x :: d).length).length := by rw [OR_length]; exact Nat.le_refl _
      have ap1 : ∀ f : Tm → Tm, FTs ((x :: d).map f) ++ FTs [f u] = FTs ((x :: (d ++ [u])).map f) := fun f => by rw [← FTs_append]; simp
      have e1 := ap1 fun u => inT bl u 0
      have e2 := ap1 fun u => shT 0 1 u 0
      obtain ⟨k', s', n', l'⟩ := u
      refine ⟨⟨rfl, by omega, h3, rfl⟩, _, hvc, br_of (fun _ => ret1 rfl) (fun h => ⟨⟨rfl, by omega, h3, rfl⟩, _, _, _, _, hin, by omega, ⟨ln1 _, roomI (by omega)⟩, by omega, ⟨ln2, roomI (by omega)⟩, ⟨rfl, by omega, h3, rfl⟩, _, _, _, _, hsh, by omega, ⟨ln1 _, roomI (by omega)⟩, ?_⟩)⟩
      rw [← r1, ← r2, tk1, tk1, tk2, e1, e2, ← OR_succ]
      have hn := next (by simpa using h)
      rw [show x :: d ++ [Tm.mk k' s' n' l'] = x :: (d ++ [Tm.mk k' s' n' l']) from rfl] at hn
      rw [stI] at hn
      rw [show (x :: (d ++ [Tm.mk k' s' n' l'])).length = (x :: d).length + 1 by simp] at hn
      exact hn
theorem l_i1 (vs : List Int) (hvs : vs.length ≤ B) (hend : (∀ v ∈ vs, v < (al.length : Int)) → RPt Try.prog 6 0 (cb true) [] 5 (stI tk ts tn tl sk ss sn sl al bl 21 0 [])) :
    ∀ (b' a' : List Int), a' ++ b' = vs → (∀ v ∈ a', v < (al.length : Int)) →
    RPt Try.prog 6 0 (cb true) [] 1 ⟨[(1, aL al), (2, aL bl), (4, .c (.a (.ep 0 4 0 0))), (7, .c (.a (.ep 1 4 0 0))), (9, cb true), (16, aI vs), (17, ci a'.length)], [(0, .arr 4 [fzs (FT (.mk tk ts tn tl))]), (1, .arr 4 [fzs (FT (.mk sk ss sn sl))])], 2⟩
  | [], a', hab, hva => by
    rw [List.append_nil] at hab
    subst hab
    refine RPt.vc hP sh lv6 (Eq.mpr (v6_1a ..) ?_)
    have hno : ¬ (a'.length : Int) < (((IR a').length : Nat) : Int) := by rw [IR_length]; omega
    exact ⟨rfl, br_of (fun h => absurd (of_decide_eq_true h) hno) (fun _ => hend hva)⟩
  | x :: b', a', hab, hva => by
    have h3 := ltN a' x b'
    have hm := midN a' x b'
    have hlen : a'.length ≤ vs.length := by rw [← hab]; simp
    have next : x < (al.length : Int) → RPt Try.prog 6 0 (cb true) [] 1 ⟨[(1, aL al), (2, aL bl), (4, .c (.a (.ep 0 4 0 0))), (7, .c (.a (.ep 1 4 0 0))), (9, cb true), (16, aI vs), (17, ci ((a'.length : Int) + 1))], [(0, .arr 4 [fzs (FT (.mk tk ts tn tl))]), (1, .arr 4 [fzs (FT (.mk sk ss sn sl))])], 2⟩ := fun hx => by
      have := l_i1 vs hvs hend b' (a' ++ [x]) (by rw [ap]; exact hab) (fun w hw => by
        rcases List.mem_append.1 hw with hw | hw
        · exact hva w hw
        · rw [List.mem_singleton.1 hw]; exact hx)
      rw [nx] at this; exact this
    rw [hab] at h3 hm
    simp only [B] at hvs
    refine RPt.vc hP sh lv6 (Eq.mpr (v6_1a ..) ?_)
    rw [show FV.ses (.sl false 1 (IR vs)) = IR vs from rfl, hm, w64 (x := (a'.length : Int) + 1) (by omega) (by omega)]
    refine ⟨rfl, br_of (fun _ => ⟨⟨rfl, by omega, h3, rfl⟩, rfl, br_of (fun _ => ret1 rfl) (fun h => next ?_)⟩) (fun h => absurd h3 (of_decide_eq_false h))⟩
    have h : ¬ x ≥ (((FTs al).length : Nat) : Int) := of_decide_eq_false h
    rw [FTs_length] at h; omega
end
theorem c_insts (t : Tm) (al bl : List Tm) (s : Tm) (ht : t.sz ≤ B) (ha : Tm.szs al ≤ B) (hb : Tm.szs bl ≤ B) (hs : s.sz ≤ B) : AC Try.prog 6 [aT t, aL al, aL bl, aT s] [] (cb true) [] := by
  have ot := c_over t ht
  have oa := c_row al ha
  have ob := c_row bl hb
  have os := c_over s hs
  have vt := c_valid t ht
  have vs := c_valid s hs
  have cv := c_vars t ht
  have lv := varsF_len t []
  obtain ⟨tk, ts, tn, tl⟩ := t
  obtain ⟨sk, ss, sn, sl⟩ := s
  refine AC.vc hP sh lv6 (Nat.le_refl _) (by simp) (by simp) (Eq.mpr (v6 tk ts tn (FTs tl) (FTs al) (FTs bl) sk ss sn (FTs sl) _ _) ?_)
  refine ⟨_, c_works, br_of (fun h => by cases h) (fun _ => ⟨_, ot, _, oa, _, ob, _, os, _, vt, _, vs, br_of (fun _ => ret1 rfl) (fun h1 => br_of (fun _ => ret1 rfl) (fun h2 => br_of (fun _ => ret1 rfl) (fun h3 => br_of (fun _ => ret1 rfl) (fun h4 =>
    br_of (fun _ => ret1 rfl) (fun h5 => br_of (fun _ => ret1 rfl) (fun h6 => ⟨_, cv, ?_⟩))))))⟩)⟩
  have kt := okay h1
  have ks := okay h4
  have ka := row_okay h2
  have kb := row_okay h3
  have v1 : validB (.mk tk ts tn tl) = true := by simpa using h5
  have v2 : validB (.mk sk ss sn sl) = true := by simpa using h6
  exact l_i1 tk ts tn tl sk ss sn sl al bl _ (by simp only [List.length_nil] at lv; omega) (fun hv =>
    l_i5 tk ts tn tl sk ss sn sl al bl ka.2 kb.2 ka.1 (fun va => l_i9 tk ts tn tl sk ss sn sl al bl kt ks ka.2 kb.2 kb.1 v1 v2 va hv bl [] rfl (fun u hu => by cases hu)) al [] rfl (fun u hu => by cases hu)) _ [] rfl (fun u hu => by cases hu)
end Go.AM
