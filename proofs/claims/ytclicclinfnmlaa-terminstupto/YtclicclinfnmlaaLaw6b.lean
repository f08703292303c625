/- The contracts of law functions, and the plain laws behind them (Law6b). No conditions. -/
import Derived.Test.YtclicclinfnmlaaLaw6
set_option maxRecDepth 100000
open Go Go.Proofs
namespace Go.AM
/-! ### THE LAW: inst -/
theorem row_okay {l : List Tm} (h : rowL l = false) : l.length ≤ 8 ∧ ∀ u ∈ l, Okay u := by
  refine ⟨row_len h, fun u hu => okay ?_⟩
  simp only [rowL, Bool.or_eq_false_iff] at h
  have := List.any_eq_false.1 h.2 u hu
  simpa using this
theorem up61 {x : Tm} (h : bd 2199023255552 x) : bd M61 x := bd_le (by simp only [M61]; omega) _ h
theorem Okay.up {x : Tm} (h : Okay x) : bd 2199023255552 x := bd_le (by omega) _ h.nums
theorem bds_okay {l : List Tm} (h : ∀ u ∈ l, Okay u) : bds 1099511627776 l := bds_of fun u hu => (h u hu).nums
theorem bds61 {l : List Tm} (h : ∀ u ∈ l, bd 2199023255552 u) : bds M61 l := bds_of fun u hu => up61 (h u hu)
/-- Of what is looked at. -/
theorem inst_okay {u : Tm} {bl : List Tm} (hu : Okay u) (hb : ∀ x ∈ bl, Okay x) : AC Try.prog 25 [aT u, aL bl] [] (aT (inT bl u 0)) [] ∧ (inT bl u 0).sz ≤ 395280 ∧ nd (inT bl u 0) ≤ 6400 ∧ bd 2199023255552 (inT bl u 0) := by
  have h1 := hu.size
  have h2 := mul80 hu.nodes (Nat.le_refl 4880)
  have h3 := inT_sz bl 4880 (fun x hx => (hb x hx).size) u 0
  have h4 := inT_nd bl 80 (by omega) (fun x hx => (hb x hx).nodes) u 0
  have h5 : nd u * 80 ≤ 80 * 80 := Nat.mul_le_mul_right 80 hu.nodes
  exact ⟨c_inst u bl 4880 (fun x hx => (hb x hx).size) (by simp only [B]; omega) (bds61 fun x hx => (hb x hx).up), by omega, by omega, inT_bd (M' := 1099511627776) (D := 4880) bl u 0 hu.up (bds_okay hb) (by omega) (by omega) (by omega)⟩
theorem insts_calls (t s : Tm) (al bl : List Tm) (kt : Okay t) (ks : Okay s) (ka : ∀ u ∈ al, Okay u) (kb : ∀ u ∈ bl, Okay u) (vt : validB t = true) (vs : validB s = true) (va : ∀ u ∈ al, validB u = true) (vb : ∀ u ∈ bl, validB u = true)
    (hv : ∀ v ∈ varsF t [], v < (al.length : Int)) :
    AC Try.prog 25 [aT t, aL al] [] (aT (inT al t 0)) [] ∧ AC Try.prog 25 [aT (inT al t 0), aL bl] [] (aT (inT bl (inT al t 0) 0)) [] ∧ AC Try.prog 25 [aT t, aL (al.map fun u => inT bl u 0)] [] (aT (inT (al.map fun u => inT bl u 0) t 0)) [] ∧
    AC Try.prog 16 [aT (inT bl (inT al t 0) 0), aT (inT (al.map fun u => inT bl u 0) t 0)] [] (cb true) [] ∧ AC Try.prog 25 [aT t, aL (ownF al.length)] [] (aT (inT (ownF al.length) t 0)) [] ∧ AC Try.prog 16 [aT (inT (ownF al.length) t 0), aT t] [] (cb true) [] ∧
    AC Try.prog 25 [aT s, .c (.a (.fz .nils))] [] (aT s) [] ∧ AC Try.prog 18 [aT t, ci 0, aT s] [] (aT (suT 0 s t 0)) [] ∧ AC Try.prog 25 [aT (suT 0 s t 0), aL al] [] (aT (inT al (suT 0 s t 0) 0)) [] ∧
    AC Try.prog 25 [aT t, aL (al.map fun u => shT 0 1 u 0)] [] (aT (inT (al.map fun u => shT 0 1 u 0) t 0)) [] ∧ AC Try.prog 25 [aT s, aL al] [] (aT (inT al s 0)) [] ∧
    AC Try.prog 18 [aT (inT (al.map fun u => shT 0 1 u 0) t 0), ci 0, aT (inT al s 0)] [] (aT (suT 0 (inT al s 0) (inT (al.map fun u => shT 0 1 u 0) t 0) 0)) [] ∧
    AC Try.prog 16 [aT (inT al (suT 0 s t 0) 0), aT (suT 0 (inT al s 0) (inT (al.map fun u => shT 0 1 u 0) t 0) 0)] [] (cb true) [] := by
  have g1 := inst_okay kt ka
  have g2 := inst_okay ks ka
  have zt := kt.size
  have zs := ks.size
  have A1 : ∀ x ∈ al, x.sz ≤ 4880 := fun x hx => (ka x hx).size
  have B1 : ∀ x ∈ bl, x.sz ≤ 4880 := fun x hx => (kb x hx).size
  have Bo : ∀ x ∈ al.map fun u => inT bl u 0, x.sz ≤ 395280 ∧ bd 2199023255552 x := fun x hx => by
    obtain ⟨y, hy, rfl⟩ := List.mem_map.1 hx
    have := inst_okay (ka y hy) kb
    exact ⟨this.2.1, this.2.2.2⟩
  have Mo : ∀ x ∈ al.map fun u => shT 0 1 u 0, x.sz ≤ 4880 ∧ nd x ≤ 80 ∧ bd 1099511629776 x := fun x hx => by
    obtain ⟨y, hy, rfl⟩ := List.mem_map.1 hx
    exact ((ka y hy).shift 0 1 (by omega) (by omega) (by omega) (by omega)).2
  have Ow : ∀ x ∈ ownF al.length, x.sz ≤ 1 ∧ bd 2199023255552 x := fun x hx => by
    obtain ⟨i, _, rfl⟩ := List.mem_map.1 hx
    exact ⟨by simp [Tm.sz, Tm.szs], fun e => absurd e (by decide), trivial⟩
  have ba := bds61 (fun x hx => (ka x hx).up)
  have m1 : nd (inT al t 0) * 4880 ≤ 6400 * 4880 := Nat.mul_le_mul_right _ g1.2.2.1
  have z1 := inT_sz bl 4880 B1 (inT al t 0) 0
  have m2 : nd t * 395280 ≤ 80 * 395280 := Nat.mul_le_mul_right _ kt.nodes
  have m3 : nd t * 1 ≤ 80 * 1 := Nat.mul_le_mul_right _ kt.nodes
  have z3 := suT_sz 0 s t 0
  have m4 := mul80 kt.nodes zs
  have n3 := suT_nd 0 s t 0
  have k3 : nd t * nd s ≤ 6400 := Nat.mul_le_mul kt.nodes ks.nodes
  have m5 : nd (suT 0 s t 0) * 4880 ≤ 6400 * 4880 := Nat.mul_le_mul_right _ (by omega)
  have z5 := inT_sz al 4880 A1 (suT 0 s t 0) 0
  have m6 := mul80 kt.nodes (Nat.le_refl 4880)
  have z6 := inT_sz (al.map fun u => shT 0 1 u 0) 4880 (fun x hx => (Mo x hx).1) t 0
  have n6 := inT_nd (al.map fun u => shT 0 1 u 0) 80 (by omega) (fun x hx => (Mo x hx).2.1) t 0
  have k6 : nd t * 80 ≤ 80 * 80 := Nat.mul_le_mul_right 80 kt.nodes
  have m7 : nd (inT (al.map fun u => shT 0 1 u 0) t 0) * (inT al s 0).sz ≤ 6400 * 395280 := Nat.mul_le_mul (by omega) g2.2.1
  have b6 : bd 2199023255552 (inT (al.map fun u => shT 0 1 u 0) t 0) := inT_bd (M' := 1099511629776) (D := 4880) _ t 0 kt.up (bds_of fun x hx => (Mo x hx).2.2) (by omega) (by omega) (by omega)
  have c7 := c_inst s [] 0 (fun x hx => by cases hx) (by simp only [B]; omega) trivial
  rw [in_none] at c7
  refine ⟨g1.1, c_inst _ bl 4880 B1 (by simp only [B]; omega) (bds61 fun x hx => (kb x hx).up), c_inst t _ 395280 (fun x hx => (Bo x hx).1) (by simp only [B]; omega) (bds61 fun x hx => (Bo x hx).2), same_ok (by simp only [B]; omega) (in_both al bl t va vb vt hv),
    c_inst t _ 1 (fun x hx => (Ow x hx).1) (by simp only [B]; omega) (bds61 fun x hx => (Ow x hx).2), same_ok (by rw [in_own _ _ vt]; simp only [B]; omega) (in_own _ _ vt), c7.args ⟨.refl _, le_c leNil, trivial⟩,
    c_subst t s 0 (by simp only [B]; omega) (by simp only [B]; omega) (up61 kt.up) (up61 ks.up) (by omega) (by simp only [M61]; omega), c_inst _ al 4880 A1 (by simp only [B]; omega) ba,
    c_inst t _ 4880 (fun x hx => (Mo x hx).1) (by simp only [B]; omega) (bds_of fun x hx => bd_le (by simp only [M61]; omega) _ (Mo x hx).2.2), g2.1,
    c_subst _ _ 0 (by simp only [B]; omega) (by simp only [B]; omega) (up61 b6) (up61 g2.2.2.2) (by omega) (by simp only [M61]; omega), same_ok (by simp only [B]; omega) (in_su al s t va vs vt)⟩
/-- Variables as they were laid. -/
def OR (n : Nat) : List (List FV) := (List.range n).map fun i : Nat => [.int .i64 4, .str [], .int .i64 (i : Int), .nils]
theorem OR_length (n : Nat) : (OR n).length = n := by simp [OR]
theorem OR_succ (n : Nat) : OR (n + 1) = OR n ++ [[.int .i64 4, .str [], .int .i64 (n : Int), .nils]] := by simp [OR, List.range_succ]
theorem OR_le (n : Nat) : FV.Le (.sl true 4 (OR n)) (.sl false 4 (FTs (ownF n))) := leRows (by rw [OR_length, ownF_len]) fun i r t hr ht => by
  have hi : i < n := by have := (List.getElem?_eq_some_iff.1 hr).1; rwa [OR_length] at this
  have e1 : r = [.int .i64 4, .str [], .int .i64 (i : Int), .nils] := by simp [OR, hi] at hr; exact hr.symm
  have e2 : t = .mk 4 [] i [] := by simp [ownF, hi] at ht; exact ht.symm
  subst e1; subst e2
  exact leFT leNil
section
variable (tk : Int) (ts : List UInt8) (tn : Int) (tl : List Tm) (sk : Int) (ss : List UInt8) (sn : Int) (sl al bl : List Tm)
/-- A state: so many were looked at. -/
def stI (v : Nat) (i : Int) : List Tm → St
  | [] => ⟨[(1, aL al), (2, aL bl), (4, .c (.a (.ep 0 4 0 0))), (7, .c (.a (.ep 1 4 0 0))), (9, cb true), (18, .c (.a (.fz .nils))), (19, .c (.a (.fz .nils))), (20, .c (.a (.fz .nils))), (v, ci i)],
      [(0, .arr 4 [fzs (FT (.mk tk ts tn tl))]), (1, .arr 4 [fzs (FT (.mk sk ss sn sl))])], 2⟩
  | x :: d => ⟨[(1, aL al), (2, aL bl), (4, .c (.a (.ep 0 4 0 0))), (7, .c (.a (.ep 1 4 0 0))), (9, cb true), (18, .c (.a (.osl 2 4 0 (x :: d).length))), (19, .c (.a (.osl 3 4 0 (x :: d).length))), (20, .c (.a (.osl 4 4 0 (x :: d).length))), (v, ci i)],
      [(0, .arr 4 [fzs (FT (.mk tk ts tn tl))]), (1, .arr 4 [fzs (FT (.mk sk ss sn sl))]), (2, .arz 4 (FTs ((x :: d).map fun u => inT bl u 0))), (3, .arz 4 (OR (x :: d).length)), (4, .arz 4 (FTs ((x :: d).map fun u => shT 0 1 u 0)))], 5⟩
theorem l_i9 (kt : Okay (.mk tk ts tn tl)) (ks : Okay (.mk sk ss sn sl)) (ka : ∀ u ∈ al, Okay u) (kb : ∀ u ∈ bl, Okay u) (hbl : bl.length ≤ 8) (vt : validB (.mk tk ts tn tl) = true) (vs : validB (.mk sk ss sn sl) = true) (va : ∀ u ∈ al, validB u = true)
    (hv : ∀ v ∈ varsF (.mk tk ts tn tl) [], v < (al.length : Int)) : ∀ (b' a' : List Tm), a' ++ b' = bl → (∀ u ∈ a', validB u = true) → RPt Try.prog 6 0 (cb true) [] 9 (stI tk ts tn tl sk ss sn sl al bl 23 a'.length al)
  | [], a', hab, hva => by
    rw [List.append_nil] at hab
    subst hab
    obtain ⟨c1, c2, c3, c4, c5, c6, c7, c8, c9, c10, c11, c12, c13⟩ := insts_calls _ _ al a' kt ks ka kb vt vs va hva hv
    have hend : ¬ (a'.length : Int) < (((FTs a').length : Nat) : Int) := by rw [FTs_length]; omega
    match al, c1, c2, c3, c4, c5, c6, c9, c10, c11, c12, c13 with
    | [], c1, c2, c3, c4, c5, c6, c9, c10, c11, c12, c13 =>
      refine RPt.vc hP sh lv6 (Eq.mpr (v6_9a ..) ?_)
      refine ⟨rfl, br_of (fun h => absurd (of_decide_eq_true h) hend) (fun _ => ?_)⟩
      have nil : ∀ {x y : Tm}, AC Try.prog 25 [aT x, aL []] [] (aT y) [] → AC Try.prog 25 [aT x, .c (.a (.fz .nils))] [] (aT y) [] := fun h => h.args ⟨.refl _, le_c leNil, trivial⟩
      exact ⟨_, _, _, _, c1, _, _, _, _, c2, _, _, _, _, nil c3, _, c4, _, _, _, _, nil c5, _, c6, _, _, _, _, c7, _, _, _, _, c8, _, _, _, _, c9, _, _, _, _, nil c10, _, _, _, _, c11, _, _, _, _, c12, _, c13,
        br_of (fun _ => br_of (fun _ => br_of (fun _ => ret1 rfl) (fun h => by cases h)) (fun h => by cases h)) (fun h => by cases h)⟩
    | x :: d, c1, c2, c3, c4, c5, c6, c9, c10, c11, c12, c13 =>
      refine RPt.vc hP sh lv6 (Eq.mpr (v6_9b ..) ?_)
      refine ⟨rfl, br_of (fun h => absurd (of_decide_eq_true h) hend) (fun _ => ?_)⟩
      have e2 : ∀ f : Tm → Tm, List.take (x :: d).length (List.drop 0 (FTs ((x :: d).map f))) = FTs ((x :: d).map f) := fun f => by rw [List.drop_zero, List.take_of_length_le (by rw [FTs_length, List.length_map]; exact Nat.le_refl _)]
      have e3 : List.take (x :: d).length (List.drop 0 (OR (x :: d).length)) = OR (x :: d).length := by rw [List.drop_zero, List.take_of_length_le (by rw [OR_length]; exact Nat.le_refl _)]
      have l2 : ∀ f : Tm → Tm, 0 + (x :: d).length ≤ (FTs ((x :: d).map f)).length := fun f => by rw [FTs_length, List.length_map]; omega
      have l3 : 0 + (x :: d).length ≤ (OR (x :: d).length).length := by rw [OR_length]; omega
      have sl1 : ∀ {x y : Tm} {m : List Tm}, AC Try.prog 25 [aT x, aL m] [] (aT y) [] → AC Try.prog 25 [aT x, .c (.a (.fz (.sl true 4 (FTs m))))] [] (aT y) [] := fun h => h.args ⟨.refl _, le_c leSl, trivial⟩
      rw [e2, e2, e3]
      exact ⟨_, _, _, _, c1, _, _, _, _, c2, ⟨rfl, l2 _⟩, _, _, _, _, sl1 c3, _, c4, ⟨rfl, l3⟩, _, _, _, _, c5.args ⟨.refl _, le_c (OR_le _), trivial⟩, _, c6, _, _, _, _, c7, _, _, _, _, c8, _, _, _, _, c9, ⟨rfl, l2 _⟩, _, _, _, _, sl1 c10, _, _, _, _, c11, _, _, _, _, c12, _, c13,
        br_of (fun _ => br_of (fun _ => br_of (fun _ => ret1 rfl) (fun h => by cases h)) (fun h => by cases h)) (fun h => by cases h)⟩
  | u :: b', a', hab, hva => by
    have hu : u ∈ bl := by rw [← hab]; simp
    have hvc := c_valid u (by have := (kb u hu).size; simp only [B]; omega)
    have h3 := ltI' a' u b'
    have hlen : a'.length ≤ 8 := by have : a'.length ≤ bl.length := by rw [← hab]; simp
                                    omega
    have next : validB u = true → RPt Try.prog 6 0 (cb true) [] 9 (stI tk ts tn tl sk ss sn sl al bl 23 ((a'.length : Int) + 1) al) := fun hvu => by
      have := l_i9 kt ks ka kb hbl vt vs va hv b' (a' ++ [u]) (by rw [ap]; exact hab) (fun w hw => by
        rcases List.mem_append.1 hw with hw | hw
        · exact hva w hw
        · rw [List.mem_singleton.1 hw]; exact hvu)
      rw [nx] at this; exact this
    have hm := midI a' u b'
    rw [hab] at h3 hm
    match al, next with
    | [], next =>
      refine RPt.vc hP sh lv6 (Eq.mpr (v6_9a ..) ?_)
      rw [hm, w64 (x := (a'.length : Int) + 1) (by omega) (by omega)]
      refine ⟨rfl, br_of (fun _ => ?_) (fun h => absurd h3 (of_decide_eq_false h))⟩
      obtain ⟨k', s', n', l'⟩ := u
      exact ⟨⟨rfl, by omega, h3, rfl⟩, _, hvc, br_of (fun _ => ret1 rfl) (fun h => next (by simpa using h))⟩
    | x :: d, next =>
      refine RPt.vc hP sh lv6 (Eq.mpr (v6_9b ..) ?_)
      rw [hm, w64 (x := (a'.length : Int) + 1) (by omega) (by omega)]
      refine ⟨rfl, br_of (fun _ => ?_) (fun h => absurd h3 (of_decide_eq_false h))⟩
      obtain ⟨k', s', n', l'⟩ := u
      exact ⟨⟨rfl, by omega, h3, rfl⟩, _, hvc, br_of (fun _ => ret1 rfl) (fun h => next (by simpa using h))⟩
end
end Go.AM
