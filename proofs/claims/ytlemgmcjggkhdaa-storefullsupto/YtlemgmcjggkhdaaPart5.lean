/- A calculus of plain values for the model's code, what the code of each function asks (computed by the kernel), contracts of the functions, and plain laws (part 5). No conditions. -/
import Derived.Test.YtlemgmcjggkhdaaPart4
import Derived.Test.YtlemgmcjggkhdaaPart2
import Derived.ProofKit
import Derived.OpenShut
import Derived.JoinedCond
import Derived.WalkKit
import Derived.Test.YtlemgmcjggkhdaaRows
set_option maxRecDepth 100000
open Go Go.Proofs
namespace Go.AM

/-! ### What is undone -/
theorem c_smark (s : Sto) : AC Try.prog 16 [aS 0] (oS s) (.agg [.a (.fz (.int .i64 (s.T.length : Int))), .a (.fz (.int .i64 (s.V.length : Int)))]) (oS s) := by
  refine AC.vc hP sh lv16 (Nat.le_refl _) (by simp [isLive]) (by simp) (Eq.mpr (v16 ..) ?_)
  exact ⟨.refl _, rfl⟩
theorem c_slen (s : Sto) : AC Try.prog 17 [aS 0] (oS s) (ci (s.V.length : Int)) (oS s) := by
  refine AC.vc hP sh lv17 (Nat.le_refl _) (by simp [isLive]) (by simp) (Eq.mpr (v17 ..) ?_)
  exact ⟨.refl _, rfl⟩
theorem same_is {x y : Tm} (hx : x.sz ≤ B) (e : x = y) : AC Try.prog 29 [aT x, aT y] [] (cb true) [] := by
  have := c_rsame x hx y
  rw [(sameB_iff x y).2 e] at this; exact this
abbrev aInf (i : Inf) : TV := .agg [.a (.fz (.int .i64 i.lv)), .a (.fz (.bool i.bd)), .a (.fz (.int .i64 i.v.k)), .a (.fz (.str i.v.s)), .a (.fz (.int .i64 i.v.n)), .a (.fz (.sl false 4 (FTs i.v.l)))]
theorem c_sameinf (i j : Inf) (h : i.v.sz ≤ B) (e : i = j) : AC Try.prog 22 [aInf i, aInf j] [] (cb true) [] := by
  subst e
  obtain ⟨lv, bd, ⟨k, s, n, l⟩⟩ := i
  refine AC.vc hP sh lv22 (Nat.le_refl _) (by simp) (by simp) (Eq.mpr (v22 lv bd k s n (FTs l) lv bd k s n (FTs l) _ _) ?_)
  exact ⟨_, same_is h rfl, br_of (fun _ => br_of (fun _ => ret_b rfl) (fun h => by cases bd <;> cases h)) (fun h => by simp at h)⟩
theorem foldMin2 (a b : Int) (h : a ≤ b) : foldMin [a, b] = a := by
  simp only [foldMin, List.foldl, min, minOfLe]; rw [if_pos h]
theorem drop_get {l : List Int} {j : Nat} {x : Int} {xs : List Int} (h : l.drop j = x :: xs) : j < l.length ∧ List.getD (IR l) j [] = [.int .i64 x] ∧ l.drop (j + 1) = xs := by
  have hj : j < l.length := by
    rcases Nat.lt_or_ge j l.length with q | q
    · exact q
    · rw [List.drop_eq_nil_of_le q] at h; cases h
  rw [List.drop_eq_getElem_cons hj] at h
  injection h with h1 h2
  exact ⟨hj, by simp [IR, List.getD, hj, h1], h2⟩
def clrI (i : Inf) : Inf := ⟨i.lv, false, noT⟩
def clrV (V : List Inf) (x : Int) : List Inf := V.modify x.toNat clrI
def clrR (h : List (List FV)) (x : Int) : List (List FV) := List.set h (0 + x.toNat) [.int .i64 (FV.asI (List.getD (List.getD h (0 + x.toNat) []) 0 FV.nils)), .bool false, .int .i64 0, .str [], .int .i64 0, .nils]
/-- How a variable's row looks. -/
def RowOf (i : Inf) (r : List FV) : Prop := r = Inf.c i ∨ (i.bd = false ∧ i.v = noT ∧ r = [.int .i64 i.lv, .bool false, .int .i64 0, .str [], .int .i64 0, .nils])
def RowsOf (V : List Inf) (h : List (List FV)) : Prop := h.length = V.length ∧ ∀ (i : Nat) (v : Inf) (r : List FV), V[i]? = some v → h[i]? = some r → RowOf v r
theorem RowOf.le {i : Inf} {r : List FV} (h : RowOf i r) : LeR r (Inf.c i) := by
  rcases h with rfl | ⟨h1, h2, rfl⟩
  · exact LeR.refl _
  · obtain ⟨lv, bd, v⟩ := i
    simp only at h1 h2
    subst h1; subst h2
    exact ⟨.refl _, .refl _, .refl _, .refl _, .refl _, leNil, trivial⟩
theorem RowOf.sz {i : Inf} {r : List FV} (h : RowOf i r) : r.length = 6 ∧ FV.asI (List.getD r 0 FV.nils) = i.lv ∧ List.take 1 r = [.int .i64 i.lv] := by
  rcases h with rfl | ⟨_, _, rfl⟩ <;> exact ⟨rfl, rfl, rfl⟩
theorem SR_of (V : List Inf) : RowsOf V (SR V) := ⟨SR_length V, fun i v r h1 h2 => by
  rw [SR, List.getElem?_map, h1] at h2
  injection h2 with h2; exact .inl h2.symm⟩
theorem RowsOf.get {V : List Inf} {h : List (List FV)} (hr : RowsOf V h) {i : Nat} (hi : i < V.length) : RowOf V[i] (List.getD h i []) := by
  have h2 : i < h.length := by rw [hr.1]; exact hi
  have := hr.2 i _ _ (List.getElem?_eq_getElem hi) (List.getElem?_eq_getElem h2)
  simpa [List.getD, h2] using this
theorem clrV_length (V : List Inf) (x : Int) : (clrV V x).length = V.length := by simp [clrV]
theorem clrV_get (V : List Inf) (x : Int) (i : Nat) : (clrV V x)[i]? = V[i]?.map fun v => if x.toNat = i then clrI v else v := by
  rw [clrV, List.getElem?_modify]
  cases V[i]? with
  | none => rfl
  | some v => rfl
theorem RowsOf.clr {V : List Inf} {h : List (List FV)} (hr : RowsOf V h) {x : Int} (h1 : x.toNat < V.length) : RowsOf (clrV V x) (clrR h x) := by
  refine ⟨by rw [clrV_length, clrR, List.length_set, hr.1], fun i v r hv hh => ?_⟩
  rw [clrV_get] at hv
  rw [clrR, Nat.zero_add, List.getElem?_set] at hh
  obtain ⟨v0, hv0, rfl⟩ := Option.map_eq_some_iff.1 hv
  by_cases e : x.toNat = i
  · subst e
    rw [if_pos rfl, if_pos (by rw [hr.1]; exact h1)] at hh
    injection hh with hh
    have hg := (hr.get h1).sz
    rw [hg.2.1] at hh
    rw [if_pos rfl]
    have : V[x.toNat] = v0 := by rw [List.getElem?_eq_getElem h1] at hv0; injection hv0
    exact .inr ⟨rfl, rfl, by rw [← hh, this]; rfl⟩
  · rw [if_neg e] at hh ⊢
    exact hr.2 i _ _ hv0 hh
theorem clrs_length : ∀ (xs : List Int) (V : List Inf), (xs.foldl clrV V).length = V.length
  | [], _ => rfl
  | x :: xs, V => by rw [List.foldl_cons, clrs_length xs, clrV_length]
theorem clrs_rows : ∀ (xs : List Int) (V : List Inf) (h : List (List FV)), RowsOf V h → (∀ x ∈ xs, 0 ≤ x ∧ x < (V.length : Int)) → RowsOf (xs.foldl clrV V) (xs.foldl clrR h)
  | [], _, _, hr, _ => hr
  | x :: xs, V, h, hr, hx => by
    have h1 := hx x List.mem_cons_self
    exact clrs_rows xs _ _ (hr.clr (by omega)) fun y hy => by rw [clrV_length]; exact hx y (List.mem_cons_of_mem _ hy)
theorem clrs_get : ∀ (xs : List Int) (V : List Inf) (i : Nat), (xs.foldl clrV V)[i]? = V[i]?.map fun v => if xs.any (fun x => x.toNat == i) = true then clrI v else v
  | [], V, i => by simp
  | x :: xs, V, i => by
    rw [List.foldl_cons, clrs_get xs, clrV_get, Option.map_map]
    congr 1
    funext v
    simp only [Function.comp, List.any_cons, Bool.or_eq_true, beq_iff_eq]
    by_cases e1 : x.toNat = i <;> by_cases e2 : xs.any (fun x => x.toNat == i) = true <;> simp [e1, e2, clrI]
theorem ole_cut {n : Nat} {fs gs : List (List FV)} (hl : gs.length ≤ fs.length) (h : ∀ (i : Nat) (e e' : List FV), fs[i]? = some e → gs[i]? = some e' → LeR e e') : OLe (.arz n fs) (.arz n gs) :=
  .rows n fs gs hl (fun i e e' he he' => (h i e e' he he').length) fun i j e e' f f' he he' hf hf' => (h i e e' he he').get j f f' hf hf'
theorem c_sundo1 (x v : Int) : AC Try.prog 53 [ci x, .c (.a (.ep 0 1 0 0))] [obj1 v] (cb (decide (x ≥ v))) [obj1 v] := by
  refine AC.vc hP sh lv53 (Nat.le_refl _) (by simp [isLive]) (by simp) (Eq.mpr (v53 ..) ?_)
  exact ⟨.refl _, rfl⟩
abbrev fnU : TV := .c (.fn (.func 53) [] [(false, [.ep 1 1 0 0])])
theorem l_sidx (T : List Int) (m : Nat) (v : Int) (hm : m ≤ T.length) (hB : T.length ≤ 1073741824) (h : ∀ x ∈ T.take m, x < v) : ∀ (j i : Nat), i + j = m →
    RPt Try.prog 90 2 (ci (-1)) [.arz 1 (IR T), obj1 v] 1 ⟨[(0, .c (.a (.osl 0 1 0 m))), (1, fnU), (7, ci (m : Int)), (8, ci (i : Int))], [(0, .arz 1 (IR T)), (1, obj1 v)], 2⟩
  | 0, i, hi => by
    refine RPt.vc hP sh lv90 (Eq.mpr (v90_F53_1a ..) ?_)
    exact br_of (fun h => absurd (of_decide_eq_true h) (by omega)) (fun _ => ⟨.refl _, rfl⟩)
  | j + 1, i, hi => by
    refine RPt.vc hP sh lv90 (Eq.mpr (v90_F53_1a ..) ?_)
    have hi2 : i < T.length := by omega
    have eg : List.getD (IR T) (0 + Int.toNat (i : Int)) [] = [.int .i64 T[i]] := by rw [Nat.zero_add, Int.toNat_natCast]; simp [IR, List.getD, hi2]
    have hx : T[i] < v := h _ (by rw [List.mem_take_iff_getElem]; exact ⟨i, by omega, rfl⟩)
    have hc := c_sundo1 T[i] v
    rw [eg, w64 (x := (i : Int) + 1) (by omega) (by omega)]
    refine br_of (fun _ => ⟨⟨by omega, by omega⟩, ⟨by rw [sIR_length]; omega, rfl, rfl⟩, _, hc, br_of (fun e => absurd (of_decide_eq_true e) (by omega)) (fun _ => ?_)⟩) (fun h => absurd (of_decide_eq_false h) (by omega))
    exact l_sidx T m v hm hB h j (i + 1) (by omega)
theorem c_sdel (T : List Int) (m : Nat) (v : Int) (hm : m ≤ T.length) (hB : T.length ≤ 1073741824) (h : ∀ x ∈ T.take m, x < v) :
    AC Try.prog 52 [.c (.a (.osl 0 1 0 m)), fnU] [.arz 1 (IR T), obj1 v] (.c (.a (.osl 0 1 0 m))) [.arz 1 (IR T), obj1 v] := by
  have h1 : AC Try.prog 90 [.c (.a (.osl 0 1 0 m)), fnU] [.arz 1 (IR T), obj1 v] (ci (-1)) [.arz 1 (IR T), obj1 v] := by
    refine AC.vc hP sh lv90 (Nat.le_refl _) (by simp [isLive]) (by simp) (Eq.mpr (v90_F53 ..) ?_)
    exact l_sidx T m v hm hB h m 0 (by omega)
  refine AC.vc hP sh lv52 (Nat.le_refl _) (by simp [isLive]) (by simp) (Eq.mpr (v52_F53 ..) ?_)
  exact ⟨_, h1, br_of (fun _ => ⟨.refl _, rfl⟩) (fun h => by cases h)⟩
abbrev stU (T : List Int) (L m n : Nat) (h : List (List FV)) (i : Nat) : St :=
  ⟨[(0, aS 0), (3, .c (.a (.ep 5 2 0 0))), (4, ci (m : Int)), (22, .c (.a (.osl 4 1 m (T.length - m)))), (23, ci ((T.length - m : Nat) : Int)), (24, ci (i : Int))],
    [(0, .arr 2 [[.a (.osl 3 6 0 L), .a (.osl 4 1 0 T.length)]]), (1, .gone), (2, .gone), (3, .arz 6 h), (4, .arz 1 (IR T)), (5, .arr 2 [[.a (.fz (.int .i64 (m : Int))), .a (.fz (.int .i64 (n : Int)))]])], 6⟩
theorem l_sundo (T : List Int) (L m n : Nat) (hm : m ≤ T.length) (hB : T.length ≤ 1073741824) (hn : n ≤ L) (hT : ∀ x ∈ T, 0 ≤ x ∧ x < (L : Int)) (hk : ∀ x ∈ T.take m, x < (n : Int)) :
    ∀ (xs : List Int) (i : Nat) (V : List Inf) (h : List (List FV)), T.drop (m + i) = xs → i + xs.length = T.length - m → RowsOf V h → V.length = L →
    RPt Try.prog 21 3 (.tup []) [.arr 2 [[.a (.osl 3 6 0 n), .a (.osl 4 1 0 m)]], .gone, .gone, .arz 6 (xs.foldl clrR h), .arz 1 (IR T)] 1 (stU T L m n h i)
  | [], i, V, h, hd, hi, hr, hV => by
    refine RPt.vc hP sh lv21 (Eq.mpr (v21_1a ..) ?_)
    have hc := c_sdel T m (n : Int) hm hB hk
    simp only [List.length_nil, Nat.add_zero] at hi
    rw [foldMax0 (by omega), foldMin2 _ _ (by omega), Int.toNat_natCast, Int.toNat_natCast]
    exact br_of (fun h => absurd (of_decide_eq_true h) (by omega)) (fun _ => ⟨by omega, by omega, _, hc, .refl _, rfl⟩)
  | x :: xs, i, V, h, hd, hi, hr, hV => by
    refine RPt.vc hP sh lv21 (Eq.mpr (v21_1a ..) ?_)
    obtain ⟨g1, g2, g3⟩ := drop_get hd
    have hx := hT x (List.mem_of_mem_drop (by rw [hd]; exact List.mem_cons_self))
    have hxl : x.toNat < V.length := by omega
    have hrow := (hr.get hxl).sz
    have hlen := hr.1
    simp only [List.length_cons] at hi
    have nx := l_sundo T L m n hm hB hn hT hk xs (i + 1) (clrV V x) (clrR h x) (by rw [← Nat.add_assoc]; exact g3) (by omega) (hr.clr hxl) (by rw [clrV_length]; exact hV)
    rw [show (Int.toNat (i : Int)) = i from Int.toNat_natCast i, g2, w64 (x := (i : Int) + 1) (by omega) (by omega)]
    refine br_of (fun _ => ⟨⟨by omega, by omega⟩, ⟨by rw [sIR_length]; omega, rfl, rfl⟩, hx, ⟨by show 0 + x.toNat < _; omega, ?_, rfl⟩, hx, ⟨by show 0 + x.toNat < _; omega, by show (List.getD h (0 + x.toNat) []).length = 6; rw [Nat.zero_add]; exact hrow.1⟩, nx⟩) (fun h => absurd (of_decide_eq_false h) (by omega))
    show [FV.int .i64 (FV.asI (List.getD (List.getD h (0 + x.toNat) []) 0 FV.nils))] = List.take 1 (List.drop 0 (List.getD h (0 + x.toNat) []))
    rw [Nat.zero_add, List.drop_zero, hrow.2.1, hrow.2.2]
def undoS (s : Sto) (m n : Nat) : Sto := ⟨((s.T.drop m).foldl clrV s.V).take n, s.T.take m⟩
def OKT (s : Sto) : Prop := ∀ x ∈ s.T, 0 ≤ x ∧ x < (s.V.length : Int)
theorem c_sundo (s : Sto) (m n : Nat) (hm : m ≤ s.T.length) (hB : s.T.length ≤ 1073741824) (hn : n ≤ s.V.length) (hT : OKT s) (hk : ∀ x ∈ s.T.take m, x < (n : Int)) :
    AC Try.prog 21 [aS 0, .agg [.a (.fz (.int .i64 (m : Int))), .a (.fz (.int .i64 (n : Int)))]] (oS s) (.tup []) (oS' (undoS s m n)) := by
  have hr := clrs_rows (s.T.drop m) s.V (SR s.V) (SR_of _) fun x hx => hT x (List.mem_of_mem_drop hx)
  refine AC.obj (Hs' := [.arr 2 [[.a (.osl 3 6 0 n), .a (.osl 4 1 0 m)]], .gone, .gone, .arz 6 ((s.T.drop m).foldl clrR (SR s.V)), .arz 1 (IR s.T)]) ?_ ⟨?_, .refl _, .refl _, ?_, ?_, trivial⟩
  · refine AC.vc hP sh lv21 (by simp) (by simp [isLive]) (by simp [isLive]) (Eq.mpr (v21 ..) ?_)
    rw [foldMax0 (by omega), foldMin2 _ _ (by omega), Int.toNat_natCast, Int.toNat_natCast, Nat.zero_add]
    exact ⟨by omega, l_sundo s.T s.V.length m n hm hB hn hT hk (s.T.drop m) 0 s.V (SR s.V) rfl (by simp) (SR_of _) rfl⟩
  · have e1 : (undoS s m n).V.length = n := by simp only [undoS, List.length_take, clrs_length]; omega
    have e2 : (undoS s m n).T.length = m := by simp only [undoS, List.length_take]; omega
    rw [sto2, e1, e2]; exact .refl _
  · have e0 := clrs_length (s.T.drop m) s.V
    refine ole_cut (by rw [SR_length, hr.1, undoS, List.length_take]; omega) fun i e e' he he' => ?_
    rw [SR, List.getElem?_map] at he'
    obtain ⟨v, hv, rfl⟩ := Option.map_eq_some_iff.1 he'
    rw [undoS, List.getElem?_take] at hv
    split at hv
    · exact (hr.2 i v e hv he).le
    · cases hv
  · refine ole_cut (by rw [sIR_length, sIR_length, undoS, List.length_take]; omega) fun i e e' he he' => ?_
    rw [IR, List.getElem?_map] at he he'
    obtain ⟨v, hv, rfl⟩ := Option.map_eq_some_iff.1 he'
    obtain ⟨v2, hv2, rfl⟩ := Option.map_eq_some_iff.1 he
    rw [undoS, List.getElem?_take] at hv
    split at hv
    · rw [hv2] at hv; injection hv with hv; subst hv; exact LeR.refl _
    · cases hv

end Go.AM

set_option maxRecDepth 100000
open Go Go.Proofs
namespace Go.AM

/-! ### In full -/
def kidsF (fu : Int → Tm → Tm × Int × Int) : Bool → List Tm → Int → List Tm × Int × Int
  | _, [], g => ([], 0, g)
  | true, t :: l, g => (t :: (kidsF fu false l g).1, (kidsF fu false l g).2)
  | false, t :: l, g => if (fu g t).2.1 ≠ 0 then ([], (fu g t).2) else ((fu g t).1 :: (kidsF fu false l (fu g t).2.2).1, (kidsF fu false l (fu g t).2.2).2)
def fullN (h : Tm) (r : List Tm × Int × Int) : Tm × Int × Int := if r.2.1 ≠ 0 then (noT, r.2) else (.mk h.k h.s h.n r.1, r.2)
def fullK (fu : Int → Tm → Tm × Int × Int) (q : Tm × Int × Int) : Tm × Int × Int := if q.2.1 ≠ 0 then (noT, q.2) else fullN q.1 (kidsF fu (q.1.k == 6) q.1.l q.2.2)
def headP (s : Sto) (f : Int) (t : Tm) : Tm × Int × Int := ((runH s f.toNat t).1, (runH s f.toNat t).2.1, f - ((runH s f.toNat t).2.2 : Int))
def fullF (s : Sto) : Nat → Int → Tm → Tm × Int × Int
  | 0, f, _ => (noT, 80, f)
  | D + 1, f, t => if f ≤ 0 then (noT, 80, f) else fullK (fullF s D) (headP s (f - 1) t)
theorem runH_le (s : Sto) : ∀ (F : Nat) (t : Tm), (runH s F t).2.2 ≤ F
  | 0, t => by
    have hr : runH s 0 t = if (stepS s t).2 = 0 then (t, 0, 0) else (noT, 80, 0) := rfl
    rw [hr]; split <;> exact Nat.le_refl _
  | F + 1, t => by
    have hr : runH s (F + 1) t = if (stepS s t).2 = 0 then (t, 0, 0) else if (stepS s t).2 = 2 then (noT, 80, 0) else ((runH s F (stepS s t).1).1, (runH s F (stepS s t).1).2.1, (runH s F (stepS s t).1).2.2 + 1) := rfl
    rw [hr]
    split
    · exact Nat.zero_le _
    · split
      · exact Nat.zero_le _
      · have := runH_le s F (stepS s t).1; simp only; omega
theorem kidsF_left {fu : Int → Tm → Tm × Int × Int} (h : ∀ g t, 0 ≤ g → 0 ≤ (fu g t).2.2 ∧ (fu g t).2.2 ≤ g) : ∀ (l : List Tm) (sk : Bool) (g : Int), 0 ≤ g → 0 ≤ (kidsF fu sk l g).2.2 ∧ (kidsF fu sk l g).2.2 ≤ g
  | [], _, g, hg => ⟨hg, Int.le_refl _⟩
  | t :: l, true, g, hg => kidsF_left h l false g hg
  | t :: l, false, g, hg => by
    have h1 := h g t hg
    rw [kidsF]
    split
    · exact h1
    · have := kidsF_left h l false _ h1.1
      exact ⟨this.1, by simp only; omega⟩
theorem fullF_left (s : Sto) : ∀ (D : Nat) (f : Int) (t : Tm), 0 ≤ f → 0 ≤ (fullF s D f t).2.2 ∧ (fullF s D f t).2.2 ≤ f
  | 0, f, t, h => ⟨h, Int.le_refl _⟩
  | D + 1, f, t, h => by
    rw [fullF]
    split
    · exact ⟨h, Int.le_refl _⟩
    · have h1 := runH_le s (f - 1).toNat t
      have h2 : 0 ≤ (headP s (f - 1) t).2.2 ∧ (headP s (f - 1) t).2.2 ≤ f - 1 := by simp only [headP]; omega
      unfold fullK
      split
      · exact ⟨h2.1, by simp only; omega⟩
      · have h3 := kidsF_left (fullF_left s D) (headP s (f - 1) t).1.l ((headP s (f - 1) t).1.k == 6) _ h2.1
        unfold fullN
        split <;> exact ⟨h3.1, by simp only; omega⟩
abbrev aFT (z : Tm × Int × Int) : TV := aTE z.1 z.2.1
abbrev aEP3 : TV := .c (.a (.ep 3 1 0 0))
abbrev stF (s : Sto) (k : Int) (str : List UInt8) (n : Int) (l0 : List Tm) (g : Int) (l : List Tm) (i : Int) : St :=
  ⟨[(0, aS 0), (2, aEP3), (4, .c (.a (.ep 4 4 0 0))), (6, .c (.a (.ep 5 4 0 0))), (9, .c (.a (.osl 6 4 0 l0.length))), (36, ci l0.length), (37, ci i)],
    [(0, sto2 1 2 s), (1, .arz 6 (SR s.V)), (2, .arz 1 (IR s.T)), (3, obj1 g), (4, .arr 4 [cT (.mk k str n l0)]), (5, .arr 4 [zT]), (6, .arz 4 (FTs l))], 7⟩
theorem l_sfull (s : Sto) (k : Int) (str : List UInt8) (n : Int) (l0 : List Tm) (hl0 : l0.length ≤ SZ) (fu : Int → Tm → Tm × Int × Int) (hfu : ∀ g t, 0 ≤ g → 0 ≤ (fu g t).2.2 ∧ (fu g t).2.2 ≤ g) :
    ∀ (b a : List Tm) (sk : Bool) (g : Int), sk = ((k == 6) && (a.length == 0)) → a.length + b.length = l0.length → 0 ≤ g →
    (∀ u ∈ b, ∀ g' : Int, 0 ≤ g' → g' ≤ g → AC Try.prog 56 [aS 0, aT u, aEP3] (oSf s g') (aFT (fu g' u)) (oSf s (fu g' u).2.2)) →
    RPt Try.prog 56 4 (aFT (fullN (.mk k str n l0) (a ++ (kidsF fu sk b g).1, (kidsF fu sk b g).2))) (oSf s (kidsF fu sk b g).2.2) 1 (stF s k str n l0 g (a ++ b) a.length)
  | [], a, sk, g, hsk, hlen, hg, _ => by
    refine RPt.vc hP sh lv56 (Eq.mpr (v56_1b l0.length l0.length a.length s.V.length s.T.length (SR s.V) (IR s.T) g k str n (FTs l0) 0 [] 0 (FTs (a ++ [])) _ _) ?_)
    simp only [List.length_nil, Nat.add_zero] at hlen
    refine br_of (fun h => absurd (of_decide_eq_true h) (by omega)) (fun _ => ⟨⟨⟨rfl, by rw [FTs_length]; simp; omega⟩, trivial⟩, ?_, rfl⟩)
    rw [List.drop_zero, List.take_of_length_le (by rw [FTs_length]; simp; omega)]
    exact leTE leSl
  | t :: b, a, sk, g, hsk, hlen, hg, ih => by
    simp only [List.length_cons, SZ] at hlen hl0
    have em := rE_mid a t b
    have h3 := ltI' a t b
    have el : (0 + Int.toNat (a.length : Int)) < (FTs (a ++ t :: b)).length ∧ ((rE (List.getD (FTs (a ++ t :: b)) (0 + Int.toNat (a.length : Int)) []) : List FV) = List.take 4 (List.drop 0 (List.getD (FTs (a ++ t :: b)) (0 + Int.toNat (a.length : Int)) [])) ∧ (4 : Nat) = 4) := by
      rw [Nat.zero_add, em]
      refine ⟨by omega, ?_, rfl⟩
      rw [midI, List.drop_zero, List.take_of_length_le (by rw [FT_length]; exact Nat.le_refl _)]
    have el2 : (0 + Int.toNat (a.length : Int)) < (FTs (a ++ t :: b)).length ∧ (List.getD (FTs (a ++ t :: b)) (0 + Int.toNat (a.length : Int)) []).length = 4 := ⟨el.1, by rw [Nat.zero_add, midI]; exact FT_length t⟩
    have ea : aE (List.getD (FTs (a ++ t :: b)) (0 + Int.toNat (a.length : Int)) []) = aT t := by rw [Nat.zero_add, aE_mid]
    refine RPt.vc hP sh lv56 (Eq.mpr (v56_1b l0.length l0.length a.length s.V.length s.T.length (SR s.V) (IR s.T) g k str n (FTs l0) 0 [] 0 (FTs (a ++ t :: b)) _ _) ?_)
    rw [ea, w64 (x := (a.length : Int) + 1) (by omega) (by omega)]
    refine br_of (fun _ => ?_) (fun h => absurd (of_decide_eq_false h) (by omega))
    cases sk with
    | true =>
      have hsk : (k == 6) = true ∧ (a.length == 0) = true := by rw [← Bool.and_eq_true]; exact hsk.symm
      have ha : a = [] := List.eq_nil_of_length_eq_zero (by simpa using hsk.2)
      subst ha
      have h2 := l_sfull s k str n l0 (by simp only [SZ]; omega) fu hfu b [t] false g (by simp) (by simp at hlen ⊢; omega) hg (fun u hu => ih u (List.mem_cons_of_mem _ hu))
      exact br_of (fun _ => br_of (fun _ => h2) (fun h => by cases h)) (fun h => absurd hsk.1 (by rw [h]; simp))
    | false =>
      have hc := ih t List.mem_cons_self g hg (Int.le_refl _)
      have hq := hfu g t hg
      have go : ((0 : Int) ≤ (a.length : Int) ∧ (a.length : Int) < ((l0.length : Nat) : Int)) := by omega
      have eK : kidsF fu false (t :: b) g = if (fu g t).2.1 ≠ 0 then ([], (fu g t).2) else ((fu g t).1 :: (kidsF fu false b (fu g t).2.2).1, (kidsF fu false b (fu g t).2.2).2) := rfl
      have next := l_sfull s k str n l0 (by simp only [SZ]; omega) fu hfu b (a ++ [(fu g t).1]) false (fu g t).2.2 (by simp) (by simp; omega) hq.1 (fun u hu g' h0 h1 => ih u (List.mem_cons_of_mem _ hu) g' h0 (by omega))
      generalize fu g t = z at *
      obtain ⟨z1, z2, z3⟩ := z
      simp only at hc hq eK next
      have step : br (z2 != 0) (TV.Le (.tup [(true, [.a (.fz (.int .i64 0)), .a (.fz (.str [])), .a (.fz (.int .i64 0)), .a (.fz .nils)]), (false, [.a (.fz (.int .i64 z2))])]) (aFT (fullN (.mk k str n l0) (a ++ (kidsF fu false (t :: b) g).1, (kidsF fu false (t :: b) g).2))) ∧ oSf s z3 = oSf s (kidsF fu false (t :: b) g).2.2)
          (RPt Try.prog 56 4 (aFT (fullN (.mk k str n l0) (a ++ (kidsF fu false (t :: b) g).1, (kidsF fu false (t :: b) g).2))) (oSf s (kidsF fu false (t :: b) g).2.2) 1 (stF s k str n l0 z3 (a ++ z1 :: b) ((a.length : Int) + 1))) := by
        refine br_of (fun h => ?_) (fun h => ?_)
        · have h : z2 ≠ 0 := by simpa using h
          rw [if_pos h] at eK
          rw [eK, fullN, if_pos h]
          exact ⟨leTE (l := []) leNil, rfl⟩
        · have h : ¬ z2 ≠ 0 := by simpa using h
          rw [if_neg h] at eK
          rw [eK]
          rw [List.append_assoc, ap a z1 b, nx] at next
          exact next
      have tail := step
      rw [show stF s k str n l0 z3 (a ++ z1 :: b) ((a.length : Int) + 1) = ⟨[(0, aS 0), (2, aEP3), (4, .c (.a (.ep 4 4 0 0))), (6, .c (.a (.ep 5 4 0 0))), (9, .c (.a (.osl 6 4 0 l0.length))), (36, ci l0.length), (37, ci ((a.length : Int) + 1))],
    [(0, sto2 1 2 s), (1, .arz 6 (SR s.V)), (2, .arz 1 (IR s.T)), (3, obj1 z3), (4, .arr 4 [cT (.mk k str n l0)]), (5, .arr 4 [zT]), (6, .arz 4 (List.set (FTs (a ++ t :: b)) (0 + Int.toNat (a.length : Int)) (FT4 z1)))], 7⟩ by rw [set_mid]] at tail
      have hsk : ((k == 6) && (a.length == 0)) = false := hsk.symm
      refine br_of (fun h6 => br_of (fun h0 => ?_) (fun _ => ⟨go, el, (z1, z2, z3), hc, go, el2, tail⟩)) (fun _ => ⟨go, el, (z1, z2, z3), hc, go, el2, tail⟩)
      exfalso
      have h6 : (k == 6) = true := h6
      have h0 : ((a.length : Int) == 0) = true := h0
      rw [h6, Bool.true_and] at hsk
      simp at hsk h0
      exact hsk h0
theorem c_sfull (s : Sto) (hs : OKS s) : ∀ (D : Nat) (f : Int) (t : Tm), f.toNat ≤ D → 0 - 9223372036854775808 ≤ f → validB t = true → Fit f.toNat t → AC Try.prog 56 [aS 0, aT t, aEP3] (oSf s f) (aFT (fullF s D f t)) (oSf s (fullF s D f t).2.2) := by
  intro D
  induction D with
  | zero =>
    intro f t hD h0 hv hf
    obtain ⟨k, str, n, l⟩ := t
    refine AC.vc hP sh lv56 (Nat.le_refl _) (by simp [isLive]) (by simp) (Eq.mpr (v56 k str n (FTs l) ..) ?_)
    exact br_of (fun _ => ⟨leTE (l := []) leNil, rfl⟩) (fun h => absurd (of_decide_eq_false h) (by omega))
  | succ D ihD =>
    intro f t hD h0 hv hf
    by_cases hf0 : f ≤ 0
    · have e : fullF s (D + 1) f t = (noT, 80, f) := by rw [fullF, if_pos hf0]
      rw [e]
      obtain ⟨k, str, n, l⟩ := t
      refine AC.vc hP sh lv56 (Nat.le_refl _) (by simp [isLive]) (by simp) (Eq.mpr (v56 k str n (FTs l) ..) ?_)
      exact br_of (fun _ => ⟨leTE (l := []) leNil, rfl⟩) (fun h => absurd (of_decide_eq_false h) (by omega))
    · have hfit := hf.mono (show (f - 1).toNat ≤ f.toNat by omega)
      have hf5 := hf.2.2.2
      have hh := c_shead s hs (f - 1).toNat (f - 1) t rfl (by omega) hv hfit
      have hq := runH_fit hs hv hfit
      have e : fullF s (D + 1) f t = fullK (fullF s D) (headP s (f - 1) t) := by rw [fullF, if_neg hf0]
      rw [e]
      have eh : headP s (f - 1) t = ((runH s (f - 1).toNat t).1, (runH s (f - 1).toNat t).2.1, f - 1 - ((runH s (f - 1).toNat t).2.2 : Int)) := rfl
      rw [eh]
      generalize runH s (f - 1).toNat t = q at *
      obtain ⟨h, er, u⟩ := q
      simp only at hh hq ⊢
      obtain ⟨hu, hq⟩ := hq
      have start : ∀ (r : TV) (o : Int), br (er != 0) (TV.Le (.tup [(true, [.a (.fz (.int .i64 0)), .a (.fz (.str [])), .a (.fz (.int .i64 0)), .a (.fz .nils)]), (false, [.a (.fz (.int .i64 er))])]) r ∧ oSf s (f - 1 - (u : Int)) = oSf s o)
          ((∃ b : Bool, AC Try.prog 91 [.c (.a (.fz (.sl false 4 (FTs h.l))))] [] (.c (.a (.fz (.sl b 4 [])))) [] ∧ FV.isSl 4 (.sl b 4 []) = true ∧ RPt Try.prog 56 4 r (oSf s o) 1 ⟨[(0, aS 0), (2, aEP3), (4, .c (.a (.ep 4 4 0 0))), (6, .c (.a (.ep 5 4 0 0))), (9, .c (.a (.fz (.sl b 4 [])))), (36, ci 0), (37, ci 0)],
              [(0, sto2 1 2 s), (1, .arz 6 (SR s.V)), (2, .arz 1 (IR s.T)), (3, obj1 (f - 1 - (u : Int))), (4, .arr 4 [cT h]), (5, .arr 4 [zT])], 6⟩) ∨
           (∃ z : List (List FV), AC Try.prog 91 [.c (.a (.fz (.sl false 4 (FTs h.l))))] [] (.c (.a (.osl 0 4 0 z.length))) [.arz 4 z] ∧ RPt Try.prog 56 4 r (oSf s o) 1 ⟨[(0, aS 0), (2, aEP3), (4, .c (.a (.ep 4 4 0 0))), (6, .c (.a (.ep 5 4 0 0))), (9, .c (.a (.osl 6 4 0 z.length))), (36, ci z.length), (37, ci 0)],
              [(0, sto2 1 2 s), (1, .arz 6 (SR s.V)), (2, .arz 1 (IR s.T)), (3, obj1 (f - 1 - (u : Int))), (4, .arr 4 [cT h]), (5, .arr 4 [zT]), (6, .arz 4 z)], 7⟩)) →
          AC Try.prog 56 [aS 0, aT t, aEP3] (oSf s f) r (oSf s o) := fun r o hb => by
        obtain ⟨tk, ts, tn, tl⟩ := t
        refine AC.vc hP sh lv56 (Nat.le_refl _) (by simp [isLive]) (by simp) (Eq.mpr (v56 tk ts tn (FTs tl) ..) ?_)
        rw [w64 (x := f - 1) (by omega) (by omega)]
        exact br_of (fun h => absurd (of_decide_eq_true h) (by omega)) (fun _ => ⟨(h, er, f - 1 - (u : Int)), hh, hb⟩)
      refine start _ _ (br_of (fun he => ?_) (fun he => ?_))
      · have he : er ≠ 0 := by simpa using he
        rw [fullK, if_pos he]
        exact ⟨leTE (l := []) leNil, rfl⟩
      · have he : er = 0 := by simpa using he
        subst he
        rcases hq with ⟨_, hvh, hfh, _⟩ | ⟨h80, _⟩
        · have hls : h.l.length ≤ SZ := by have := hfh.sz; have := h.sz_eq; have := Tm.szs_length h.l; omega
          rw [fullK, if_neg (by simp)]
          have hg0 : 0 ≤ f - 1 - (u : Int) := by omega
          have kid : ∀ x ∈ h.l, ∀ g' : Int, 0 ≤ g' → g' ≤ f - 1 - (u : Int) → AC Try.prog 56 [aS 0, aT x, aEP3] (oSf s g') (aFT (fullF s D g' x)) (oSf s (fullF s D g' x).2.2) := fun x hx g' h0 h1 => by
            have hvx : validB x = true := by
              obtain ⟨hk, hst, hn, hl⟩ := h
              by_cases h5 : hk = 5 ∨ hk = 6
              · exact kid_valid hvh h5 x hx
              · rw [not_or] at h5
                have := okB0 (valid_ok _ hvh) h5.1 h5.2
                have hx : x ∈ hl := hx
                rw [this] at hx; cases hx
            exact ihD g' x (by omega) (by omega) hvx ((hfh.kid hx).mono (by omega))
          have loop := l_sfull s h.k h.s h.n h.l hls (fullF s D) (fullF_left s D) h.l [] (h.k == 6) (f - 1 - (u : Int)) (by simp) (by simp) hg0 kid
          obtain ⟨hk, hst, hn, hl⟩ := h
          simp only [Tm.l, Tm.k, Tm.s, Tm.n, List.nil_append] at loop hls ⊢
          have e9 : fullN (.mk hk hst hn hl) ((kidsF (fullF s D) (hk == 6) hl (f - 1 - (u : Int))).1, (kidsF (fullF s D) (hk == 6) hl (f - 1 - (u : Int))).2) = fullN (.mk hk hst hn hl) (kidsF (fullF s D) (hk == 6) hl (f - 1 - (u : Int))) := rfl
          have e8 : (fullN (.mk hk hst hn hl) (kidsF (fullF s D) (hk == 6) hl (f - 1 - (u : Int)))).2.2 = (kidsF (fullF s D) (hk == 6) hl (f - 1 - (u : Int))).2.2 := by unfold fullN; split <;> rfl
          rw [e8]
          by_cases hnil : hl = []
          · subst hnil
            refine .inl ⟨false, c_clone.2, rfl, ?_⟩
            refine RPt.vc hP sh lv56 (Eq.mpr (v56_1a false [] 0 0 s.V.length s.T.length (SR s.V) (IR s.T) (f - 1 - (u : Int)) hk hst hn (FTs []) 0 [] 0 _ _) ?_)
            exact br_of (fun h => by cases h) (fun _ => ⟨.refl _, rfl⟩)
          · refine .inr ⟨FTs hl, c_clone.1 (FTs hl) (by rw [FTs_map]; simp [hnil]) (by rw [FTs_length]; simp only [SZ, B] at *; omega), ?_⟩
            rw [FTs_length]
            exact loop
        · cases h80

end Go.AM

set_option maxRecDepth 100000
open Go Go.Proofs
namespace Go.AM

/-! ### Without abstractions that do nothing -/
def lastT (l : List Tm) : Tm := l.getLastD default
def restF (b : Tm) : Tm := applyF (hd b.l) b.l.tail.dropLast
def dropB (b : Tm) : Bool := b.k == 6 && (lastT b.l).k == 3 && (lastT b.l).n == 0 && occF (restF b) 0 == 0
def dropF (b : Tm) : Tm := if dropB b = true then shT 0 (-1) (restF b) 0 else noT
mutual
def shortF : Tm → Tm
  | .mk k s n l => if (k == 5) = true then (if dropB (hd (shortL l)) = true then dropF (hd (shortL l)) else .mk 5 [] 0 [hd (shortL l)]) else if (k == 6) = true then applyF (hd (shortL l)) (shortL l).tail else .mk k s n l
def shortL : List Tm → List Tm
  | [] => []
  | t :: l => shortF t :: shortL l
end
theorem shortL_length : ∀ l : List Tm, (shortL l).length = l.length
  | [] => rfl
  | _ :: l => by simp only [shortL, List.length_cons, shortL_length l]
/-- An application's parts. -/
theorem app_parts {k n : Int} {s : List UInt8} {l : List Tm} (h : okB (.mk k s n l) = true) (hk : k = 6) : ∃ x a z, l = x :: a ++ [z] ∧ x.k ≠ 6 ∧ okB x = true ∧ okL a = true ∧ okB z = true := by
  obtain ⟨x, y, r, rfl, h6, hl⟩ := okB6 h hk
  refine ⟨x, (y :: r).dropLast, (y :: r).getLast (by simp), by rw [List.cons_append, List.dropLast_concat_getLast], h6, okL_mem hl List.mem_cons_self, okL_of fun u hu => okL_mem hl (List.mem_cons_of_mem _ (List.dropLast_subset _ hu)), okL_mem hl (List.mem_cons_of_mem _ (List.getLast_mem _))⟩
theorem last_app (x : Tm) (a : List Tm) (z : Tm) : lastT (x :: a ++ [z]) = z := by
  rw [lastT, List.getLastD_eq_getLast?, List.getLast?_append]; rfl
theorem rest_app (k n : Int) (s : List UInt8) (x : Tm) (a : List Tm) (z : Tm) : restF (.mk k s n (x :: a ++ [z])) = applyF x a := by
  rw [restF]; show applyF x ((a ++ [z]).dropLast) = _
  rw [List.dropLast_concat]
theorem drop6 {b : Tm} (h : dropB b = true) : b.k = 6 := by
  simp only [dropB, Bool.and_eq_true, beq_iff_eq] at h; exact h.1.1.1
theorem drop0 {b : Tm} (h : dropB b = true) : occF (restF b) 0 = 0 := by
  simp only [dropB, Bool.and_eq_true, beq_iff_eq] at h; exact h.2
theorem restF_ok {b : Tm} (h : okB b = true) (hk : b.k = 6) : okB (restF b) = true ∧ (lvB b = true → lvB (restF b) = true) ∧ (restF b).sz ≤ b.sz ∧ ∀ M, bd M b → bd M (restF b) := by
  obtain ⟨k, s, n, l⟩ := b
  have hk' : k = 6 := hk
  obtain ⟨x, a, z, rfl, h6, hx, ha, hz⟩ := app_parts h hk'
  rw [rest_app]
  refine ⟨applyF_ok hx ha, fun hl => ?_, ?_, fun M hb => ?_⟩
  · rw [lvB_in (.inr hk')] at hl
    exact applyF_lv (lvL_mem hl List.mem_cons_self) (lvL_of fun u hu => lvL_mem hl (List.mem_cons_of_mem _ (List.mem_append_left _ hu)))
  · have := applyF_sz x a
    simp only [Tm.sz, List.cons_append, Tm.szs, Tm.szs_append]; omega
  · exact applyF_bd (bds_mem hb.2 List.mem_cons_self) (bds_of fun u hu => bds_mem hb.2 (List.mem_cons_of_mem _ (List.mem_append_left _ hu)))
theorem occL_mem : ∀ {l : List Tm} {i : Int}, occL l i = 0 → ∀ u ∈ l, occF u i = 0
  | x :: l, i, h, u, hu => by
    simp only [occL] at h
    rcases List.mem_cons.1 hu with rfl | hu
    · omega
    · exact occL_mem (l := l) (by omega) u hu
theorem occ_kids {k n : Int} {s : List UInt8} {l : List Tm} {d : Int} (h : occF (.mk k s n l) d = 0) : ∀ u ∈ l, occF u (d + if (k == 5) = true then 1 else 0) = 0 := by
  rw [occF] at h
  split at h
  · cases h
  · exact occL_mem h
theorem shDown_lv {t : Tm} (h : lvB t = true) (d : Int) (h0 : occF t d = 0) (hd : 0 ≤ d) : lvB (shT 0 (-1) t d) = true := by
  refine walkF_lv _ (fun u d => occF u d = 0 ∧ 0 ≤ d) (fun k s n l d hQ u hu => ⟨occ_kids hQ.1 u hu, by have := hQ.2; split <;> omega⟩) (fun u d hu hQ h5 h6 => ?_) t d h ⟨h0, hd⟩
  unfold shLeaf
  split
  · rename_i hc
    obtain ⟨k, s, n, l⟩ := u
    have hk : k = 3 := by have hc := hc.1; have hc : (k == 3) = true := hc; simpa using hc
    subst hk
    rw [lvB_out (by decide) (by decide), valid3] at hu
    have h1 : n ≠ d := fun e => by
      have := hQ.1
      rw [occF, if_pos ⟨rfl, by simp [e]⟩] at this; cases this
    have h2 : d + 0 ≤ n := hc.2
    have := hQ.2
    show lvB (.mk 3 s (n + -1) l) = true
    rw [lvB_out (by decide) (by decide), valid3]
    exact ⟨by omega, by omega, hu.2.2.1, hu.2.2.2⟩
  · exact hu
theorem shDown_bd {M : Int} (hM : 1 ≤ M) {t : Tm} (h : bd M t) (d : Int) (hd : 0 ≤ d) : bd M (shT 0 (-1) t d) := by
  refine walkF_bd _ M M (d + t.sz) (fun u d' hu h0 _ => ?_) t d h hd (Int.le_refl _)
  unfold shLeaf
  split
  · rename_i hc
    obtain ⟨k, s, n, l⟩ := u
    exact ⟨fun e => by have := hu.1 e; have h2 : d' + 0 ≤ n := hc.2; simp only [Tm.n]; omega, hu.2⟩
  · exact hu
theorem dropF_ok {b : Tm} (h : okB b = true) (hd : dropB b = true) : okB (dropF b) = true ∧ (lvB b = true → lvB (dropF b) = true) ∧ (dropF b).sz ≤ b.sz ∧ ∀ M, 1 ≤ M → bd M b → bd M (dropF b) := by
  obtain ⟨h1, h2, h3, h4⟩ := restF_ok h (drop6 hd)
  rw [dropF, if_pos hd]
  exact ⟨shT_ok 0 h1, fun hl => shDown_lv (h2 hl) 0 (drop0 hd) (Int.le_refl _), Nat.le_trans (shT_sz ..) h3, fun M hM hb => shDown_bd hM (h4 M hb) 0 (Int.le_refl _)⟩
mutual
theorem shortF_ok : ∀ t : Tm, okB t = true → okB (shortF t) = true ∧ (lvB t = true → lvB (shortF t) = true) ∧ (shortF t).sz ≤ t.sz ∧ ∀ M, 1 ≤ M → bd M t → bd M (shortF t)
  | .mk k s n l, h => by
    have hl := shortL_ok l (okB_l h)
    rw [shortF]
    split
    · rename_i h5
      have h5 : k = 5 := by simpa using h5
      obtain ⟨x, rfl, hx⟩ := okB5 h h5
      obtain ⟨g1, g2, g3, g4⟩ := hl
      simp only [shortL, okL, lvL, Bool.and_true, Tm.szs] at g1 g2 g3 g4
      show okB (if dropB (shortF x) = true then dropF (shortF x) else .mk 5 [] 0 [shortF x]) = true ∧ _
      rw [show hd (shortL [x]) = shortF x from rfl]
      split
      · rename_i hd
        obtain ⟨f1, f2, f3, f4⟩ := dropF_ok g1 hd
        refine ⟨f1, fun hl => f2 (g2 ?_), by simp only [Tm.sz, Tm.szs]; omega, fun M hM hb => f4 M hM (g4 M hM hb.2).1⟩
        rw [lvB_in (.inl h5)] at hl
        simpa [lvL] using hl
      · refine ⟨by simp [okB, okL, g1], fun hl => ?_, by simp only [Tm.sz, Tm.szs]; omega, fun M hM hb => ⟨fun e => by omega, g4 M hM hb.2⟩⟩
        rw [lvB_in (.inl h5)] at hl
        rw [lvB_in (.inl rfl)]
        simp only [lvL, Bool.and_true] at hl ⊢
        exact g2 hl
    · split
      · rename_i h6
        have h6 : k = 6 := by simpa using h6
        obtain ⟨x, y, r, rfl, _, _⟩ := okB6 h h6
        obtain ⟨g1, g2, g3, g4⟩ := hl
        rw [show hd (shortL (x :: y :: r)) = shortF x from rfl, show (shortL (x :: y :: r)).tail = shortL (y :: r) from rfl]
        rw [show shortL (x :: y :: r) = shortF x :: shortL (y :: r) from rfl] at g1 g2 g3 g4
        simp only [okL, Bool.and_eq_true] at g1
        refine ⟨applyF_ok g1.1 g1.2, fun hl => ?_, ?_, fun M hM hb => ?_⟩
        · rw [lvB_in (.inr h6)] at hl
          have := g2 hl
          simp only [lvL, Bool.and_eq_true] at this
          exact applyF_lv this.1 this.2
        · have := applyF_sz (shortF x) (shortL (y :: r))
          simp only [Tm.szs] at g3
          simp only [Tm.sz, Tm.szs]; omega
        · have := g4 M hM hb.2
          exact applyF_bd this.1 this.2
      · exact ⟨h, fun hl => hl, Nat.le_refl _, fun M _ hb => hb⟩
theorem shortL_ok : ∀ l : List Tm, okL l = true → okL (shortL l) = true ∧ (lvL l = true → lvL (shortL l) = true) ∧ Tm.szs (shortL l) ≤ Tm.szs l ∧ ∀ M, 1 ≤ M → bds M l → bds M (shortL l)
  | [], _ => ⟨rfl, fun _ => rfl, Nat.le_refl _, fun _ _ _ => trivial⟩
  | t :: l, h => by
    simp only [okL, Bool.and_eq_true] at h
    obtain ⟨a1, a2, a3, a4⟩ := shortF_ok t h.1
    obtain ⟨b1, b2, b3, b4⟩ := shortL_ok l h.2
    refine ⟨by simp only [shortL, okL, a1, b1, Bool.and_self], fun hl => ?_, by simp only [shortL, Tm.szs]; omega, fun M hM hb => ⟨a4 M hM hb.1, b4 M hM hb.2⟩⟩
    simp only [lvL, Bool.and_eq_true] at hl
    simp only [shortL, lvL, a2 hl.1, b2 hl.2, Bool.and_self]
end
/-! ### Contracts -/
theorem c_efree (t : Tm) (i : Int) (hs : t.sz ≤ B) (h0 : 0 - 2305843009213693952 ≤ i) (h1 : i + t.sz ≤ 2305843009213693952) : AC Try.prog 123 [aT t, ci i] [] (cb (validB t && decide (occF t i > 0))) [] := by
  have h := c_boccurs t hs i h0 h1
  obtain ⟨k, s, n, l⟩ := t
  refine AC.vc hP sh lv123 (Nat.le_refl _) (by simp) (by simp) (Eq.mpr (v123 k s n (FTs l) i _ _) ?_)
  refine ⟨_, h, ret_b ?_⟩
  cases validB (.mk k s n l) with
  | false => rfl
  | true => simp
/-- The last one. -/
theorem lastI (x : Tm) (a : List Tm) (z : Tm) (hl : a.length ≤ SZ) : IntKind.wrap .i64 ((((FTs (x :: a ++ [z])).length : Nat) : Int) - 1) = ((x :: a).length : Int) := by
  rw [FTs_length]; simp only [SZ] at hl
  rw [w64 (by simp; omega) (by simp; omega)]; simp
theorem c_edrop (b : Tm) (ho : okB b = true) (hl : lvB b = true) (hs : b.sz ≤ SZ) (hb : bd M61 b) : AC Try.prog 102 [aT b] [] (.tup [(true, cT (dropF b)), (false, [.a (.fz (.bool (dropB b)))])]) [] := by
  have no : dropB b = false → dropF b = noT := fun h => if_neg (by rw [h]; simp)
  obtain ⟨k, s, n, l⟩ := b
  have hlen := Tm.szs_length l
  simp only [Tm.sz, SZ] at hs
  refine AC.vc hP sh lv102 (Nat.le_refl _) (by simp) (by simp) (Eq.mpr (v102 k s n (FTs l) _ _) ?_)
  refine ⟨rfl, br_of (fun h => ?_) (fun h => ?_)⟩
  · have hd : dropB (.mk k s n l) = false := by
      have h : (k != 6) = true := h
      rw [dropB, show (Tm.k (.mk k s n l) == 6) = false by show (k == 6) = false; simpa using h]; rfl
    rw [no hd, hd]
    exact ⟨leTB (l := []) leNil, rfl⟩
  · have h6 : k = 6 := by simpa using h
    subst h6
    obtain ⟨x, a, z, rfl, hx6, hx, ha, hz⟩ := app_parts ho rfl
    obtain ⟨r1, r2, r3, r4⟩ := restF_ok ho rfl
    have hd : dropB (.mk 6 s n (x :: a ++ [z])) = (z.k == 3 && z.n == 0 && occF (applyF x a) 0 == 0) := by
      rw [dropB, rest_app, show Tm.l (.mk 6 s n (x :: a ++ [z])) = x :: a ++ [z] from rfl, last_app]; rfl
    have hdF : dropB (.mk 6 s n (x :: a ++ [z])) = true → dropF (.mk 6 s n (x :: a ++ [z])) = shT 0 (-1) (applyF x a) 0 := fun h => by rw [dropF, if_pos h, rest_app]
    rw [rest_app] at r1 r2 r3 r4
    have hal : a.length ≤ 67108864 := by rw [List.length_append, List.length_cons] at hlen; omega
    rw [lastI x a z hal]
    have el : FV.isSl 4 (.sl false 4 (FTs (x :: a ++ [z]))) = true ∧ ((0 : Int) ≤ ((x :: a).length : Int) ∧ (((x :: a).length : Int) < (((FTs (x :: a ++ [z])).length : Nat) : Int) ∧ (rE (List.getD (FTs (x :: a ++ [z])) (Int.toNat ((x :: a).length : Int)) []) : List FV) = List.getD (FTs (x :: a ++ [z])) (Int.toNat ((x :: a).length : Int)) [])) := ⟨rfl, by omega, ltI' (x :: a) z [], rE_mid (x :: a) z []⟩
    have ez : List.getD (FTs (x :: a ++ [z])) (Int.toNat ((x :: a).length : Int)) [] = FT z := midI (x :: a) z []
    have ek : FV.asI (List.getD (List.getD (FTs (x :: a ++ [z])) (Int.toNat ((x :: a).length : Int)) []) 0 FV.nils) = z.k := by rw [ez]; cases z; rfl
    have en : FV.asI (List.getD (List.getD (FTs (x :: a ++ [z])) (Int.toNat ((x :: a).length : Int)) []) 2 FV.nils) = z.n := by rw [ez]; cases z; rfl
    rw [ek, en]
    refine ⟨el, br_of (fun h1 => ?_) (fun h1 => ⟨el, br_of (fun h2 => ?_) (fun h2 => ⟨el0 x (a ++ [z]), rfl, ⟨by omega, by simp only [List.length_cons]; omega, by rw [lenI, List.length_append]; omega⟩, ?_⟩)⟩)⟩
    · have hd' : dropB (.mk 6 s n (x :: a ++ [z])) = false := by
        have h1 : (z.k != 3) = true := h1
        rw [hd, show (z.k == 3) = false by simpa using h1]; rfl
      rw [no hd', hd']
      exact ⟨leTB (l := []) leNil, rfl⟩
    · have hd' : dropB (.mk 6 s n (x :: a ++ [z])) = false := by
        have h2 : (z.n != 0) = true := h2
        rw [hd, show (z.n == 0) = false by simpa using h2]; simp
      rw [no hd', hd']
      exact ⟨leTB (l := []) leNil, rfl⟩
    · have e1 : aE (List.getD (FTs (x :: a ++ [z])) 0 []) = aT x := aE_FT x
      have e2 : List.drop 1 (List.take (Int.toNat ((x :: a).length : Int)) (FTs (x :: a ++ [z]))) = FTs a := by
        rw [toNat_len, FTs_take, FTs_drop, List.take_left]; rfl
      rw [e1, e2]
      have hxs : x.l.length ≤ x.sz := by have := x.sz_eq; have := Tm.szs_length x.l; omega
      have hxz : x.sz ≤ 67108864 := by simp only [List.cons_append, Tm.szs] at hs; omega
      have hap := c_apply x a (by omega)
      have hrz : (applyF x a).sz ≤ SZ := by simp only [Tm.sz] at r3; simp only [SZ]; omega
      have hfr := c_efree (applyF x a) 0 (by simp only [SZ, B] at *; omega) (by omega) (by simp only [SZ] at hrz; omega)
      have hva : validB (applyF x a) = true := by rw [valid_iff, r1, r2 hl]; rfl
      rw [hva, Bool.true_and] at hfr
      have hsh := c_shift (applyF x a) 0 (-1) (by simp only [SZ, B] at *; omega) (r4 _ hb) (Int.le_refl _) (by simp only [M61]; omega) (by omega) (by simp only [M61]; omega)
      have hz3 : (z.k == 3) = true := by
        have h1 : (z.k != 3) = false := h1
        simpa using h1
      have hz0 : (z.n == 0) = true := by
        have h2 : (z.n != 0) = false := h2
        simpa using h2
      refine ⟨_, hap, _, hfr, br_of (fun h3 => ?_) (fun h3 => ?_)⟩
      · have hd' : dropB (.mk 6 s n (x :: a ++ [z])) = false := by
          have h3 := of_decide_eq_true h3
          rw [hd, show (occF (applyF x a) 0 == 0) = false by simp; omega, Bool.and_false]
        rw [no hd', hd']
        exact ⟨leTB (l := []) leNil, rfl⟩
      · have hd' : dropB (.mk 6 s n (x :: a ++ [z])) = true := by
          have h3 := of_decide_eq_false h3
          rw [hd, hz3, hz0, show (occF (applyF x a) 0 == 0) = true by simp; omega]; rfl
        rw [hdF hd', hd']
        exact ⟨_, hsh, .refl _, rfl⟩
theorem l_eshortb : ∀ (b a acc : List Tm), acc ≠ [] → acc.length = a.length → (∀ u ∈ b, AC Try.prog 64 [aT u] [] (aT (shortF u)) []) → (a ++ b).length ≤ SZ → (hd (acc ++ shortL b)).l.length ≤ B →
    RPt Try.prog 64 0 (aT (applyF (hd (acc ++ shortL b)) (acc ++ shortL b).tail)) [] 3 ⟨[(2, .c (.a (.ep 0 4 0 0))), (6, .c (.a (.osl 1 4 0 acc.length))), (30, aL (a ++ b)), (31, ci (((FTs (a ++ b)).length : Nat) : Int)), (32, ci a.length)], [(0, .arr 4 [zT]), (1, .arz 4 (FTs acc))], 2⟩
  | [], a, acc, hne, hlen, _, hl, hh => by
    simp only [shortL, List.append_nil] at hh hl ⊢
    refine RPt.vc hP sh lv64 (Eq.mpr (v64_3b ..) ?_)
    match acc, hne, hlen, hh with
    | x :: r, _, hlen, hh =>
      simp only [SZ, B, List.length_cons] at hl hlen hh
      have hh : x.l.length ≤ 549755813888 := hh
      have hap := c_apply x r (by omega)
      have e2 : List.take (Int.toNat ((x :: r).length : Int) - 1) (List.drop 1 (FTs (x :: r))) = FTs r := by
        rw [toNat_len, FTs_drop, List.take_of_length_le (by rw [FTs_length]; simp)]; rfl
      have e1 : aE (List.getD (FTs (x :: r)) 0 []) = aT x := aE_FT x
      rw [e2, e1]
      refine br_of (fun h => absurd (of_decide_eq_true h) (by rw [FTs_length]; omega)) (fun _ => ⟨⟨by omega, by simp⟩, ⟨by rw [FTs_length]; simp, ?_, rfl⟩, ⟨by omega, by simp; omega, Int.le_refl _⟩, ⟨rfl, by rw [toNat_len, FTs_length]; simp; omega⟩, _, hap.args ⟨.refl _, le_c leSl, trivial⟩, ret_r (.refl _)⟩)
      rw [show List.getD (FTs (x :: r)) 0 [] = FT x from rfl, rE_FT, List.drop_zero, List.take_of_length_le (by rw [FT_length]; exact Nat.le_refl _)]
  | t :: b, a, acc, hne, hlen, ih, hl, hh => by
    have hl' := hl
    simp only [List.length_append, List.length_cons, SZ] at hl'
    have h1 := ih t List.mem_cons_self
    have h2 := l_eshortb b (a ++ [t]) (acc ++ [shortF t]) (by simp) (by simp [hlen]) (fun u hu => ih u (List.mem_cons_of_mem _ hu)) (by rw [ap]; exact hl) (by rw [ap]; exact hh)
    have h3 := ltI' a t b
    rw [ap, ap, nx] at h2
    rw [shortL]
    refine RPt.vc hP sh lv64 (Eq.mpr (v64_3b ..) ?_)
    rw [aE_mid, w64 (x := (a.length : Int) + 1) (by omega) (by omega)]
    refine br_of (fun _ => ⟨⟨rfl, by omega, h3, rE_mid ..⟩, shortF t, h1, Nat.le_refl _, ⟨by rw [FTs_length]; omega, roomI (by omega)⟩, ?_⟩) (fun h => absurd h3 (of_decide_eq_false h))
    have e5 : List.take acc.length (FTs acc) ++ [FT4 (shortF t)] = FTs (acc ++ [shortF t]) := by rw [List.take_of_length_le (by rw [FTs_length]; omega), FT4_eq, FTs_append]; rfl
    rw [e5]
    rw [List.length_append] at h2
    exact h2
theorem c_eshort : ∀ t : Tm, okB t = true → lvB t = true → t.sz ≤ SZ → bd M61 t → AC Try.prog 64 [aT t] [] (aT (shortF t)) [] := by
  refine Tm.ind fun t ih ho hl hs hb => ?_
  have hlen := Tm.szs_length t.l
  have hol := okB_l ho
  obtain ⟨k, s, n, l⟩ := t
  simp only [Tm.sz, Tm.l, SZ] at hs hlen hol
  refine AC.vc hP sh lv64 (Nat.le_refl _) (by simp) (by simp) (Eq.mpr (v64 k s n (FTs l) _ _) ?_)
  refine br_of (fun h => ?_) (fun h => br_of (fun h' => ⟨rfl, ?_⟩) (fun h' => ?_))
  · have h5 : k = 5 := by simpa using h
    subst h5
    obtain ⟨x, rfl, hx⟩ := okB5 ho rfl
    rw [lvB_in (.inl rfl)] at hl
    have hlx : lvB x = true := by simpa [lvL] using hl
    simp only [Tm.szs] at hs
    obtain ⟨g1, g2, g3, g4⟩ := shortF_ok x hx
    have h1 := ih x (List.mem_singleton.2 rfl) hx hlx (by simp only [SZ]; omega) hb.2.1
    have h2 := c_edrop (shortF x) g1 (g2 hlx) (by simp only [SZ]; omega) (g4 _ (by simp only [M61]; omega) hb.2.1)
    have h3 := c_lams 1 (shortF x) (by omega)
    have e : shortF (.mk 5 s n [x]) = if dropB (shortF x) = true then dropF (shortF x) else .mk 5 [] 0 [shortF x] := by rw [shortF, if_pos (show ((5 : Int) == 5) = true from rfl)]; rfl
    rw [show aE (List.getD (FTs [x]) 0 []) = aT x from aE_FT x, e]
    refine ⟨el0 x [], _, h1, (dropF (shortF x), dropB (shortF x)), h2, br_of (fun hd => ?_) (fun hd => ⟨_, h3, ?_⟩)⟩
    · have hd : dropB (shortF x) = true := hd
      rw [if_pos hd]; exact ⟨.refl _, rfl⟩
    · rw [if_neg (by rw [show dropB (shortF x) = false from hd]; simp)]; exact ⟨.refl _, rfl⟩
  · have h6 : k = 6 := by simpa using h'
    subst h6
    obtain ⟨x, y, r, rfl, hx6, _⟩ := okB6 ho rfl
    rw [lvB_in (.inr rfl)] at hl
    have ihl : ∀ u ∈ x :: y :: r, AC Try.prog 64 [aT u] [] (aT (shortF u)) [] := fun u hu => ih u hu (okL_mem hol hu) (lvL_mem hl hu) (by have := Tm.szs_mem hu; simp only [SZ]; omega) (bds_mem hb.2 hu)
    have hx := (shortF_ok x (okL_mem hol List.mem_cons_self)).2.2.1
    have hxl : (shortF x).l.length ≤ B := by
      have h1 := (shortF x).sz_eq
      have h2 := Tm.szs_length (shortF x).l
      simp only [Tm.szs] at hs
      simp only [B]; omega
    have loop := l_eshortb (y :: r) [x] [shortF x] (by simp) rfl (fun u hu => ihl u (List.mem_cons_of_mem _ hu)) (show (x :: y :: r).length ≤ SZ by simp only [SZ]; omega) hxl
    have h1 := ihl x List.mem_cons_self
    have h3 := ltI' [] x (y :: r)
    refine RPt.vc hP sh lv64 (Eq.mpr (v64_3a ..) ?_)
    rw [show aE (List.getD (FTs (x :: y :: r)) (Int.toNat 0) []) = aT x from aE_FT x, w64 (by omega) (by omega)]
    refine br_of (fun _ => ⟨⟨rfl, by omega, h3, rE_FT x⟩, shortF x, h1, Nat.le_refl _, roomI (by omega), ?_⟩) (fun h => absurd h3 (of_decide_eq_false h))
    rw [FT4_eq]
    exact loop
  · have h : (k == 5) = false := h
    have h' : (k == 6) = false := h'
    rw [shortF, if_neg (by rw [h]; simp), if_neg (by rw [h']; simp)]
    exact ⟨.refl _, rfl⟩
theorem c_eShort (t : Tm) (hs : t.sz ≤ SZ) (hb : bd M61 t) : AC Try.prog 31 [aT t] [] (aT (if validB t = true then shortF t else t)) [] := by
  have h1 := c_valid t (by simp only [SZ, B] at *; omega)
  have h2 := fun h => c_eshort t (valid_ok t h) (valid_lv h) hs hb
  obtain ⟨k, s, n, l⟩ := t
  refine AC.vc hP sh lv31 (Nat.le_refl _) (by simp) (by simp) (Eq.mpr (v31 k s n (FTs l) _ _) ?_)
  refine ⟨_, h1, br_of (fun h => ?_) (fun h => ?_)⟩
  · rw [if_neg (by rw [not_t h]; simp)]; exact ⟨.refl _, rfl⟩
  · rw [if_pos (not_f h)]; exact ⟨_, h2 (not_f h), .refl _, rfl⟩

end Go.AM

namespace Go.AM
open Go.ChangeShapes Go.WideShapes Go.ChangeAt Go.RowKit

section
variable {H : Type} {enc : TypeId × Value → H} {P : Program} {w : World}

/-- Nothing is shut out. -/
abbrev none1 : Nat → Prop := fun _ => False
/-- Whatever reads (with so much fuel) at type t is some F a, of size at most that of what was read. -/
def RdN (enc : TypeId × Value → H) (P : Program) (w : World) (b : DataW H → Nat) (fuel : Nat) (t : TypeId) {α : Type} (F : α → List FV) (sz : α → Nat) : Prop :=
  ∀ cs x, DataW.trod enc P w 0 (fun _ => true) true fuel t cs = some x → ∃ a, LRep (FRep w none1) (F a) cs ∧ sz a ≤ b x.1

theorem rd_int {b : DataW H → Nat} {t : TypeId} {k : IntKind} (ht : P.underlying t = some (.int k)) (hb : ∀ d, 1 ≤ b d) (fuel : Nat) : RdN enc P w b fuel t (fun n : Int => [.int k n]) (fun _ => 1) := by
  intro cs x h
  obtain ⟨n, rfl, rfl, _⟩ := DataW.trod_int ht h
  exact ⟨n, .cons (.int k n) .nil, hb _⟩
/-- A number within its kind. -/
def Num (k : IntKind) := { n : Int // (Lit.int k n).wf = true }
theorem rd_num {b : DataW H → Nat} {t : TypeId} {k : IntKind} (ht : P.underlying t = some (.int k)) (hb : ∀ d, 1 ≤ b d) (fuel : Nat) : RdN enc P w b fuel t (fun n : Num k => [.int k n.1]) (fun _ => 1) := by
  intro cs x h
  obtain ⟨n, rfl, rfl, hw⟩ := DataW.trod_int ht h
  exact ⟨⟨n, hw⟩, .cons (.int k n) .nil, hb _⟩
theorem rd_bool {b : DataW H → Nat} {t : TypeId} (ht : P.underlying t = some .bool) (hb : ∀ d, 1 ≤ b d) (fuel : Nat) : RdN enc P w b fuel t (fun n : Bool => [.bool n]) (fun _ => 1) := by
  intro cs x h
  obtain ⟨n, rfl, rfl⟩ := DataW.trod_bool ht h
  exact ⟨n, .cons (.bool n) .nil, hb _⟩
theorem rd_str {b : DataW H → Nat} {t : TypeId} (ht : P.underlying t = some .string) (hb : ∀ l : List UInt8, l.length + 1 ≤ b (.lit (.string l))) (fuel : Nat) : RdN enc P w b fuel t (fun l : List UInt8 => [.str l]) (fun l => l.length + 1) := by
  intro cs x h
  obtain ⟨s, rfl, rfl, _⟩ := DataW.trod_string ht h
  refine ⟨s.data.toList, .cons ?_ .nil, hb _⟩
  have : (⟨s.data.toList.toArray⟩ : ByteArray) = s := by simp
  have h2 := FRep.str (w := w) (X := none1) s.data.toList
  rw [this] at h2
  exact h2

def sumBy {α : Type} (sz : α → Nat) : List α → Nat
  | [] => 0
  | a :: l => sz a + sumBy sz l
theorem sumBy_mem {α : Type} {sz : α → Nat} : ∀ {l : List α} {a : α}, a ∈ l → sz a ≤ sumBy sz l
  | x :: l, a, h => by
    rcases List.mem_cons.1 h with rfl | h
    · simp [sumBy]
    · have := sumBy_mem (sz := sz) h; simp only [sumBy]; omega
theorem sumBy_length {α : Type} {sz : α → Nat} (h : ∀ a, 1 ≤ sz a) : ∀ l : List α, l.length ≤ sumBy sz l
  | [] => Nat.le_refl _
  | a :: l => by have := sumBy_length h l; have := h a; simp only [sumBy, List.length_cons]; omega

theorem choose_list {α β : Type} {R : α → β → Prop} : ∀ {l : List β}, (∀ (i : Nat) (y : β), l[i]? = some y → ∃ x, R x y) → ∃ xs : List α, xs.length = l.length ∧ ∀ (i : Nat) (x : α) (y : β), xs[i]? = some x → l[i]? = some y → R x y
  | [], _ => ⟨[], rfl, fun i x y h => by simp at h⟩
  | y :: l, h => by
    obtain ⟨x, hx⟩ := h 0 y rfl
    obtain ⟨xs, h1, h2⟩ := choose_list (l := l) fun i y' hy => h (i + 1) y' (by simpa using hy)
    refine ⟨x :: xs, by simp [h1], fun i x' y' hx' hy' => ?_⟩
    cases i with
    | zero => simp at hx' hy'; subst hx'; subst hy'; exact hx
    | succ i => exact h2 i x' y' (by simpa using hx') (by simpa using hy')

theorem sum_le {α : Type} {sz : α → Nat} {b : DataW H → Nat} {bs : List (DataW H) → Nat} (hbs : ∀ d l, bs (d :: l) = b d + bs l) : ∀ {xs : List α} {es : List (DataW H × List MemPlace)}, xs.length = es.length → (∀ (i : Nat) (x : α) (y : DataW H × List MemPlace), xs[i]? = some x → es[i]? = some y → sz x ≤ b y.1) → sumBy sz xs ≤ bs (es.map (·.1))
  | [], _, _, _ => by simp [sumBy]
  | x :: xs, [], h, _ => by simp at h
  | x :: xs, e :: es, h, hr => by
    have h1 := hr 0 x e rfl rfl
    have h2 := sum_le (sz := sz) hbs (xs := xs) (es := es) (by simpa using h) fun i x y hx hy => hr (i + 1) x y (by simpa using hx) (by simpa using hy)
    simp only [sumBy, List.map_cons, hbs]
    omega

theorem cells_get {a : Addr} {n : Nat} {cs : List Value} (h : w.cells? 0 a n = some cs) : cs.length = n ∧ ∀ j u, cs[j]? = some u → w.cell? (a.add j) = some u := by
  unfold World.cells? at h
  rw [if_pos (Nat.zero_le _)] at h
  refine ⟨by have := mapM_some_length h; simpa using this, fun j u hu => ?_⟩
  have hj : j < n := by
    have h1 := (List.getElem?_eq_some_iff.1 hu).1
    have := mapM_some_length h; simp at this; omega
  have := mapM_some_get h j j (by simp [hj])
  rw [this, hu]

theorem cell_lt {b off : Nat} {u : Value} (h : w.cell? ⟨b, off, none⟩ = some u) : b < w.heap.size := by
  apply Decidable.byContradiction
  intro hn
  have : w.heap[b]? = none := by simp; omega
  simp [World.cell?, this] at h

theorem cell_spot {a : Addr} {u : Value} (h : w.cell? a = some u) : a.spot = none := by
  unfold World.cell? at h
  split at h
  · split at h
    · cases h
    · rename_i hs; simpa using hs
  · cases h
theorem cell_blk {a : Addr} {u : Value} (h : w.cell? a = some u) : a.block < w.heap.size := by
  apply Decidable.byContradiction
  intro hn
  have : w.heap[a.block]? = none := by simp; omega
  simp [World.cell?, this] at h

theorem add_zero (a : Addr) : a.add 0 = a := rfl
theorem add_none (b o k : Nat) : (Addr.mk b o none).add k = ⟨b, o + k, none⟩ := by
  unfold Addr.add
  split
  · rename_i h; rw [h]; rfl
  · rfl
/-- Slices. -/
theorem rd_slice {b : DataW H → Nat} {bs : List (DataW H) → Nat} (hbs : ∀ d l, bs (d :: l) = b d + bs l) (hb0 : ∀ d, 1 ≤ b d) (hb : ∀ es sp, bs es + 1 ≤ b (.slice es sp)) {t e : TypeId} (ht : P.underlying t = some (.slice e)) {n : Nat} (hn : P.cellsOf e = n) (hn0 : 0 < n)
    {α : Type} {F : α → List FV} {sz : α → Nat} (hF : ∀ a, (F a).length = n) {fuel : Nat} (ih : ∀ k, k < fuel → RdN enc P w b k e F sz) : RdN enc P w b fuel t (fun l : List α => [.sl false n (l.map F)]) (fun l => sumBy sz l + 1) := by
  intro cs x h
  rcases DataW.trod_slice ht h with ⟨rfl, rfl⟩ | ⟨a, len, cap, elems, rest, k, rfl, rfl, rfl, _, hlc, _, hlen, hel, hrest, _⟩
  · exact ⟨[], .cons (.slnil n) .nil, by simpa [sumBy] using hb0 _⟩
  · rw [hn] at hel
    have key : ∀ (i : Nat) (y : DataW H × List MemPlace), elems[i]? = some y → ∃ x : α, (∃ cs, w.cells? 0 (a.add (i * n)) n = some cs ∧ LRep (FRep w none1) (F x) cs) ∧ sz x ≤ b y.1 := by
      intro i y hy
      have hi : i < len := by rw [← hlen]; exact (List.getElem?_eq_some_iff.1 hy).1
      have h1 := hel i hi
      rw [hy] at h1
      obtain ⟨cs, h2, h3⟩ := Option.bind_eq_some_iff.1 h1
      obtain ⟨x, h4, h5⟩ := ih k (Nat.lt_succ_self _) cs y h3
      exact ⟨x, ⟨cs, h2, h4⟩, h5⟩
    -- the element at i, with its place
    have key2 : ∃ xs : List α, xs.length = elems.length ∧ ∀ (i : Nat) (x : α), xs[i]? = some x → (∃ cs, w.cells? 0 (a.add (i * n)) n = some cs ∧ LRep (FRep w none1) (F x) cs) ∧ ∀ y, elems[i]? = some y → sz x ≤ b y.1 := by
      have : ∀ (l : List (DataW H × List MemPlace)) (o : Nat), (∀ i, l[i]? = elems[o + i]?) → ∃ xs : List α, xs.length = l.length ∧ ∀ (i : Nat) (x : α), xs[i]? = some x → (∃ cs, w.cells? 0 (a.add ((o + i) * n)) n = some cs ∧ LRep (FRep w none1) (F x) cs) ∧ ∀ y, l[i]? = some y → sz x ≤ b y.1 := by
        intro l
        induction l with
        | nil => exact fun o _ => ⟨[], rfl, fun i x h => by simp at h⟩
        | cons y l ih =>
          intro o ho
          obtain ⟨x, hx1, hx2⟩ := key o y (by have := ho 0; simpa using this.symm)
          obtain ⟨xs, h1, h2⟩ := ih (o + 1) (fun i => by have := ho (i + 1); rw [show o + 1 + i = o + (i + 1) by omega]; simpa using this)
          refine ⟨x :: xs, by simp [h1], fun i x' hx' => ?_⟩
          cases i with
          | zero => simp at hx'; subst hx'; exact ⟨by simpa using hx1, fun y' hy' => by simp at hy'; subst hy'; exact hx2⟩
          | succ i =>
            have := h2 i x' (by simpa using hx')
            rw [show o + 1 + i = o + (i + 1) by omega] at this
            exact ⟨this.1, fun y' hy' => this.2 y' (by simpa using hy')⟩
      obtain ⟨xs, h1, h2⟩ := this elems 0 (fun i => by simp)
      exact ⟨xs, h1, fun i x hx => by simpa using h2 i x hx⟩
    obtain ⟨xs, hxl, hx⟩ := key2
    have hsum := sum_le (sz := sz) (b := b) hbs hxl (fun i x y h1 h2 => (hx i x h1).2 y h2)
    have hb' := hb (elems.map (·.1)) (rest.map (·.1))
    refine ⟨xs, ?_, show sumBy sz xs + 1 ≤ b (.slice (elems.map (·.1)) (rest.map (·.1))) by omega⟩
    by_cases hc0 : cap = 0
    · have h0 : len = 0 := by omega
      subst hc0; subst h0
      have : xs = [] := List.length_eq_zero_iff.1 (by omega)
      subst this
      exact .cons (.sl0 false n a) .nil
    · have hone : ∃ cs, w.cells? 0 a n = some cs := by
        by_cases h0 : len = 0
        · have hr := (hrest rfl).2 0 (by omega)
          have hr' : rest[0]? ≠ none := by
            rw [List.getElem?_eq_getElem (by rw [(hrest rfl).1]; omega)]; simp
          rw [hn] at hr
          rw [h0, show (0 + 0) * n = 0 by simp, add_zero] at hr
          cases hcl : w.cells? 0 a n with
          | none => rw [hcl] at hr; exact absurd hr.symm hr'
          | some cs => exact ⟨cs, rfl⟩
        · have : 0 < xs.length := by omega
          obtain ⟨⟨cs, h1, _⟩, _⟩ := hx 0 xs[0] (by simp [this])
          rw [show 0 * n = 0 by simp, add_zero] at h1
          exact ⟨cs, h1⟩
      obtain ⟨cs0, hq⟩ := hone
      obtain ⟨hl0, hq'⟩ := cells_get hq
      have hq0 := hq' 0 (cs0[0]'(by omega)) (by simp)
      rw [add_zero] at hq0
      have hsp : a.spot = none := cell_spot hq0
      have hbl : a.block < w.heap.size := cell_blk hq0
      obtain ⟨blk, off, sp⟩ := a
      have hsp : sp = none := hsp
      subst hsp
      refine .cons (.sl false n (xs.map F) blk off cap len (fun i j => (w.cell? ⟨blk, off + i * n + j, none⟩).getD (.bool false)) (by rw [List.length_map]; omega) (by rw [List.length_map]; omega) (fun h => h) hbl (fun i e he => ?_) (fun i j e f he hf => ?_) (fun i j e f he hf => ?_)) .nil
      · rw [List.getElem?_map] at he
        obtain ⟨x, _, rfl⟩ := Option.map_eq_some_iff.1 he
        exact hF x
      all_goals
        rw [List.getElem?_map] at he
        obtain ⟨x, hxi, rfl⟩ := Option.map_eq_some_iff.1 he
        obtain ⟨⟨cs, h1, h2⟩, _⟩ := hx i x hxi
        obtain ⟨h3, h4⟩ := cells_get h1
        have hj : j < cs.length := by rw [← h2.1]; exact (List.getElem?_eq_some_iff.1 hf).1
        have h5 := h4 j cs[j] (by simp)
        rw [add_none, add_none] at h5
      · rw [h5]; rfl
      · rw [h5]
        exact h2.2 j f cs[j] hf (by simp)

/-- Terms. -/
theorem FT_sum : ∀ l : List Tm, Tm.bks l = sumBy Tm.bk l
  | [] => rfl
  | t :: l => by rw [Tm.bks, sumBy, FT_sum l]
/-- How a term lies. -/
structure TmTy (P : Program) (T : TypeId) (f0 f1 f2 f3 : Field) : Prop where
  str : P.underlying T = some (.struct #[f0, f1, f2, f3])
  u0 : P.underlying f0.type = some (.int .i64)
  u1 : P.underlying f1.type = some .string
  u2 : P.underlying f2.type = some (.int .i64)
  u3 : P.underlying f3.type = some (.slice T)
  o0 : f0.offset = 0
  o1 : f1.offset = 1
  o2 : f2.offset = 2
  o3 : f3.offset = 3
  c0 : P.cellsOf f0.type = 1
  c1 : P.cellsOf f1.type = 1
  c2 : P.cellsOf f2.type = 1
  c3 : P.cellsOf f3.type = 1
  cT : P.cellsOf T = 4
/-- How much a reading holds. -/
structure Bulk (b : DataW H → Nat) (bs : List (DataW H) → Nat) : Prop where
  nil : bs [] = 0
  cons : ∀ d l, bs (d :: l) = b d + bs l
  one : ∀ d, 1 ≤ b d
  slice : ∀ es sp, bs es + 1 ≤ b (.slice es sp)
  str : ∀ l : List UInt8, l.length + 1 ≤ b (.lit (.string l))
  agg : ∀ l, bs l + 1 ≤ b (.agg l)
theorem LRep.one {α : Type} {R : α → Value → Prop} {c : α} {u : Value} (h : LRep R [c] [u]) : R c u := h.2 0 c u rfl rfl
theorem rd_term {b : DataW H → Nat} {bs : List (DataW H) → Nat} (hb : Bulk b bs) {T : TypeId} {f0 f1 f2 f3 : Field} (hT : TmTy P T f0 f1 f2 f3) : ∀ fuel, RdN enc P w b fuel T FT Tm.bk := by
  intro fuel
  induction fuel using Nat.strongRecOn with
  | _ fuel ih =>
    intro cs x h
    obtain ⟨xs, n, rfl, rfl, hl, hxl, hf⟩ := DataW.trod_struct hT.str h
    rw [hT.cT] at hl
    match cs, hl with
    | [v0, v1, v2, v3], _ =>
    match xs, hxl with
    | [x0, x1, x2, x3], _ =>
    have g0 := hf 0 f0 rfl
    have g1 := hf 1 f1 rfl
    have g2 := hf 2 f2 rfl
    have g3 := hf 3 f3 rfl
    rw [hT.o0, hT.c0] at g0
    rw [hT.o1, hT.c1] at g1
    rw [hT.o2, hT.c2] at g2
    rw [hT.o3, hT.c3] at g3
    obtain ⟨k, r0, _⟩ := rd_int (b := b) hT.u0 hb.one n _ _ g0
    obtain ⟨s, r1, z1⟩ := rd_str (b := b) hT.u1 hb.str n _ _ g1
    have z1 : s.length + 1 ≤ b x1.1 := z1
    obtain ⟨m, r2, _⟩ := rd_int (b := b) hT.u2 hb.one n _ _ g2
    obtain ⟨l, r3, z3⟩ := rd_slice (F := FT) (sz := Tm.bk) hb.cons hb.one hb.slice hT.u3 hT.cT (by omega) FT_length (fun k hk => ih k (by omega)) _ _ g3
    have z3 : sumBy Tm.bk l + 1 ≤ b x3.1 := z3
    refine ⟨.mk k s m l, ?_, ?_⟩
    · rw [FT, FTs_map]
      exact .cons (LRep.one r0) (.cons (LRep.one r1) (.cons (LRep.one r2) (.cons (LRep.one r3) .nil)))
    · have := hb.one x0.1
      simp only [Tm.bk, FT_sum]
      show _ ≤ b (.agg [x0.1, x1.1, x2.1, x3.1])
      have h9 := hb.agg [x0.1, x1.1, x2.1, x3.1]
      simp only [hb.cons, hb.nil] at h9
      omega

/-! ### Arguments -/
theorem none_own {Y : Nat → Prop} (hY : ∀ b, ¬ Y b) {Hs : List AObj} : (fun b => Y b ∨ Own (fun o => Hs.getD o .gone) (fun _ => none) b) = none1 := by
  funext b
  refine propext ⟨fun h => ?_, fun h => h.elim⟩
  rcases h with h | ⟨o, _, h⟩
  · exact (hY b h).elim
  · cases h
abbrev β0 : Nat → Option Nat := fun _ => none
theorem open_term {b : DataW H → Nat} {bs : List (DataW H) → Nat} (hb : Bulk b bs) {T : TypeId} {f0 f1 f2 f3 : Field} (hT : TmTy P T f0 f1 f2 f3) {r : Reach} {base : Nat} {v : Value} {d : DataW H} {ps : List MemPlace}
    (hv : Value.okWide P w r base T v) (hd : DataW.Trod enc P w 0 (fun _ => true) true T v d ps) : ∃ t : Tm, TRep w none1 β0 (aT t) v ∧ t.bk ≤ b d := by
  obtain ⟨cs, rfl, _⟩ := okWide_struct hT.str hv
  obtain ⟨fuel, hf⟩ := hd
  obtain ⟨t, h1, h2⟩ := rd_term hb hT fuel _ _ hf
  refine ⟨t, ⟨cs.toList, by simp, ?_⟩, h2⟩
  rw [FT_eta] at h1
  have h1 : LRep (FRep w none1) [.int .i64 t.k, .str t.s, .int .i64 t.n, .sl false 4 (FTs t.l)] cs.toList := h1
  exact h1.map (g := fun x => WV.a (.fz x)) fun c u _ h => .a _ _ (.fz _ _ h)
theorem open_terms {b : DataW H → Nat} {bs : List (DataW H) → Nat} (hb : Bulk b bs) {T S : TypeId} {f0 f1 f2 f3 : Field} (hT : TmTy P T f0 f1 f2 f3) (hS : P.underlying S = some (.slice T)) {r : Reach} {base : Nat} {v : Value} {d : DataW H} {ps : List MemPlace}
    (hv : Value.okWide P w r base S v) (hd : DataW.Trod enc P w 0 (fun _ => true) true S v d ps) : ∃ l : List Tm, TRep w none1 β0 (aL l) v ∧ Tm.bks l + 1 ≤ b d := by
  obtain ⟨a, len, cap, rfl⟩ := okWide_slice hS hv
  obtain ⟨fuel, hf⟩ := hd
  obtain ⟨l, h1, h2⟩ := rd_slice (F := FT) (sz := Tm.bk) hb.cons hb.one hb.slice hS hT.cT (by omega) FT_length (fun k _ => rd_term hb hT k) _ _ hf
  have h2 : sumBy Tm.bk l + 1 ≤ b d := h2
  rw [← FT_sum] at h2
  have h1 : LRep (FRep w none1) [.sl false 4 (l.map FT)] [_] := h1
  rw [← FTs_map] at h1
  exact ⟨l, .a _ _ (.fz _ _ h1.one), h2⟩
theorem open_num {t : TypeId} {k : IntKind} (ht : P.underlying t = some (.int k)) {r : Reach} {base : Nat} {v : Value} {d : DataW H} {ps : List MemPlace}
    (hv : Value.okWide P w r base t v) (hd : DataW.Trod enc P w 0 (fun _ => true) true t v d ps) : ∃ n : Int, TRep w none1 β0 (.c (.a (.fz (.int k n)))) v ∧ (Lit.int k n).wf = true := by
  obtain ⟨n, rfl, _, _, hw⟩ := open_int ht hv hd
  exact ⟨n, .a _ _ (.fz _ _ (.int k n)), hw⟩
theorem open_str {t : TypeId} (ht : P.underlying t = some .string) {b : DataW H → Nat} {bs : List (DataW H) → Nat} (hb : Bulk b bs) {r : Reach} {base : Nat} {v : Value} {d : DataW H} {ps : List MemPlace}
    (hv : Value.okWide P w r base t v) (hd : DataW.Trod enc P w 0 (fun _ => true) true t v d ps) : ∃ s : List UInt8, TRep w none1 β0 (cs s) v ∧ s.length + 1 ≤ b d := by
  obtain ⟨s, rfl⟩ := okWide_string ht hv
  obtain ⟨fuel, hf⟩ := hd
  obtain ⟨l, h1, h2⟩ := rd_str (b := b) ht hb.str fuel _ _ hf
  exact ⟨l, .a _ _ (.fz _ _ h1.one), h2⟩

/-! ### The end -/
theorem kept_good {w' : World} {foot : Nat → Prop} (g : Good w foot w') (hf : ∀ b, ¬ foot b) (may : MemPlace → Prop) : w.keptBut w' may := by
  refine ⟨g.os, g.output, fun i hi => ?_⟩
  rw [g.blk i hi (hf i)]
  exact (World.keptBut_refl w may).2.2 i hi
theorem same_good {w' : World} {foot : Nat → Prop} (g : Good w foot w') (hf : ∀ b, ¬ foot b) {p : MemPlace} (hp : p.block < w.heap.size) : w.sameAt w' p := by
  cases p with
  | cell b o => exact World.cell?_of_block (a := ⟨b, o, none⟩) (g.blk b hp (hf b))
  | map b => exact g.blk b hp (hf b)
theorem trodAll_stays (hl : laidOutB P = true) {w' : World} {sp : Nat → Bool} : ∀ {ts : List TypeId} {vs : List Value} {ds : List (DataW H)} {p : List MemPlace}, DataW.TrodAll enc P w 0 (fun _ => true) true ts vs ds p →
    (∀ t ∈ ts, P.readableRec t = true ∧ t < P.types.size) → (∀ x ∈ p, w.sameAt w' x) → (∀ x ∈ p, sp x.block = true) → DataW.TrodAll enc P w' 0 sp true ts vs ds p
  | [], _, _, _, h, _, _, _ => by
    obtain ⟨rfl, rfl, rfl⟩ := trodAll_nil h
    exact trodAll_mk0
  | t :: ts, _, _, _, h, ht, hs, hsp => by
    obtain ⟨v, vs', d, ds', p, q, rfl, rfl, rfl, ⟨n, h1⟩, h2⟩ := trodAll_cons h
    have hr := (ht t List.mem_cons_self).1
    exact ⟨p, q, ⟨n, DataW.trod_stays (kids_book hl hr) (book_sized hr) (fun h => by cases h) ⟨(ht t List.mem_cons_self).2, book_self t⟩ h1 (fun x hx => hs x (List.mem_append_left _ hx)) (fun x hx => hsp x (List.mem_append_left _ hx))⟩,
      trodAll_stays hl h2 (fun u hu => ht u (List.mem_cons_of_mem _ hu)) (fun x hx => hs x (List.mem_append_right _ hx)) (fun x hx => hsp x (List.mem_append_right _ hx)), rfl⟩
/-- A law's end: it returns true, and what was read reads as before. -/
theorem post_good (hl : laidOutB P = true) {f : Func} {s : ChangeSpec} {apart fresh handsOn again : Bool} {w' : World} {args : Array Value} {ds gs : List (DataW H)} {before : List MemPlace} {foot : Nat → Prop} {tb : TypeId}
    (hW : DataW.Whole enc P f.params.toList s.vars apart w args.toList ds gs before) (hv : s.vars = []) (hs : ∀ ds' : List (DataW H), ds'.length = ds.length → s.fn H ds' = { results := [.lit (.bool true)], args := ds' })
    (ht : ∀ t ∈ f.params.toList, P.readableRec t = true ∧ t < P.types.size) (hr : f.resultTypes = #[tb]) (hb : P.underlying tb = some .bool) (g : Good w foot w') (hf : ∀ b, ¬ foot b) :
    s.post enc P f apart fresh handsOn again w args (.bool true) w' := by
  have hlt := hW.lt
  obtain ⟨p, q, h1, h2, he, hz, hn⟩ := hW
  rw [hv] at h2
  obtain ⟨rfl, rfl⟩ := trodVars_none h2
  rw [List.append_nil] at he
  subst he
  have hold : ∀ x ∈ before, (fun b => decide (b < w.heap.size)) x.block = true := fun x hx => by simpa using hlt x hx
  have hfn := hs (ds ++ []) (by simp)
  have hargs : ∀ sp : Nat → Bool, (∀ x ∈ before, sp x.block = true) → DataW.TrodAll enc P w' 0 sp true f.params.toList args.toList (s.fn H (ds ++ [])).args before := fun sp hsp => by
    rw [hfn, List.append_nil]
    exact trodAll_stays hl h1 ht (fun x hx => same_good g hf (hlt x hx)) hsp
  have hres : ∀ (b : Nat) (sp : Nat → Bool) (hd : Bool), DataW.TrodAll enc P w' b sp hd f.resultTypes.toList ((Value.bool true).resultList f.resultTypes.size) (s.fn H (ds ++ [])).results [] := fun b sp hd => by
    rw [hfn, hr]
    exact trodAll_mk1 ⟨1, by simp [DataW.trod, Value.cells, hb]⟩
  have hvars : ∀ sp : Nat → Bool, DataW.TrodVars enc P w' sp s.vars (s.fn H (ds ++ [])).vars [] := fun sp => by
    rw [hfn, hv]
    rfl
  refine ⟨ds, [], before, [], before, [], ⟨before, [], h1, by rw [hv]; rfl, by simp, hz, hn⟩, hres _ _ _, hargs _ hold, hvars _, World.keptBut_mono (fun x hx => ⟨hx, ?_⟩) (kept_good g hf (· ∈ before)), fun _ => ?_⟩
  · simpa using hx
  · refine ⟨ok_one hr rfl (okWide_bool_mk hb _), _, _, ([] ++ before) ++ [], ⟨[] ++ before, [], trodAll_append (hargs _ (fun _ _ => rfl)) (hres _ _ _), hvars _, rfl, ?_, ?_⟩, ?_⟩
    · intro b off hp
      have hp : MemPlace.cell b off ∈ before := by simpa using hp
      have hb := hlt _ hp
      have : w'.frozen? ⟨b, off, none⟩ = w.frozen? ⟨b, off, none⟩ := by
        unfold World.frozen?
        rw [g.blk b hb (hf b)]
      rw [this]
      exact hz b off hp
    · intro ha
      simpa using hn ha
    · intro x hx _
      simpa using hx
/-- A contract that a law's function answers: true. -/
theorem law_true {f : FuncId} {args : List TV} (hgl : Gl P w none1) (h : AC P f args [] (cb true) []) {vals : List Value} (hv : LRep (TRep w none1 β0) args vals) :
    Calls P f vals.toArray w fun e w' => e = .returned (.bool true) ∧ ∃ foot, (∀ b, ¬ foot b) ∧ Good w foot w' := by
  have hX : (fun b => (fun _ : Nat => False) b ∨ Own (fun o => ([] : List AObj).getD o .gone) β0 b) = none1 := none_own (fun _ h => h)
  refine (h.2.2 w vals β0 (fun _ => False) (fun o b h => by cases h) (fun b h => h.elim) (hgl.sub fun b ⟨o, h5, _⟩ => by simp [isLive] at h5) ⟨fun o b h _ => by simp [isLive] at h, fun o h => by simp [isLive] at h, fun o o' b h => by simp [isLive] at h, fun o b h => by cases h⟩ (by rw [hX]; exact hv)).mono fun e w' ⟨v, β', h1, h2, h3, h4, _⟩ => ?_
  subst h1
  cases h4 with
  | a _ _ h4 =>
    cases h4 with
    | fz _ _ h4 =>
      cases h4
      exact ⟨rfl, _, fun b ⟨o, h5, _⟩ => by simp [isLive] at h5, h2⟩
end
end Go.AM

namespace Go.AM
open Go.ChangeShapes Go.WideShapes Go.ChangeAt Go.RowKit

section
variable {H : Type} {enc : TypeId × Value → H} {P : Program} {w : World}
theorem wf_range {n : Int} (h : (Lit.int .i64 n).wf = true) : -9223372036854775808 ≤ n ∧ n ≤ 9223372036854775807 := by
  simp only [Lit.wf, IntKind.min, IntKind.max, IntKind.signed, IntKind.bits, Bool.and_eq_true, decide_eq_true_eq, if_true] at h; omega
abbrev TmI := { t : Tm // okI t }
theorem sumBy_val : ∀ l : List TmI, Tm.bks (l.map (·.1)) = sumBy (fun t : TmI => t.1.bk) l
  | [] => rfl
  | t :: l => by rw [List.map_cons, Tm.bks, sumBy, sumBy_val l]
theorem okIs_val (l : List TmI) : okIs (l.map (·.1)) := okIs_of fun t ht => by
  obtain ⟨u, _, rfl⟩ := List.mem_map.1 ht
  exact u.2
theorem rd_termI {b : DataW H → Nat} {bs : List (DataW H) → Nat} (hb : Bulk b bs) {T : TypeId} {f0 f1 f2 f3 : Field} (hT : TmTy P T f0 f1 f2 f3) : ∀ fuel, RdN enc P w b fuel T (fun t : TmI => FT t.1) (fun t => t.1.bk) := by
  intro fuel
  induction fuel using Nat.strongRecOn with
  | _ fuel ih =>
    intro cs x h
    obtain ⟨xs, n, rfl, rfl, hl, hxl, hf⟩ := DataW.trod_struct hT.str h
    rw [hT.cT] at hl
    match cs, hl with
    | [v0, v1, v2, v3], _ =>
    match xs, hxl with
    | [x0, x1, x2, x3], _ =>
    have g0 := hf 0 f0 rfl
    have g1 := hf 1 f1 rfl
    have g2 := hf 2 f2 rfl
    have g3 := hf 3 f3 rfl
    rw [hT.o0, hT.c0] at g0
    rw [hT.o1, hT.c1] at g1
    rw [hT.o2, hT.c2] at g2
    rw [hT.o3, hT.c3] at g3
    obtain ⟨k, r0, _⟩ := rd_int (b := b) hT.u0 hb.one n _ _ g0
    obtain ⟨s, r1, z1⟩ := rd_str (b := b) hT.u1 hb.str n _ _ g1
    have z1 : s.length + 1 ≤ b x1.1 := z1
    obtain ⟨m, r2, _⟩ := rd_num (b := b) hT.u2 hb.one n _ _ g2
    obtain ⟨l, r3, z3⟩ := rd_slice (F := fun t : TmI => FT t.1) (sz := fun t : TmI => t.1.bk) hb.cons hb.one hb.slice hT.u3 hT.cT (by omega) (fun t => FT_length t.1) (fun k hk => ih k (by omega)) _ _ g3
    have z3 : sumBy (fun t : TmI => t.1.bk) l + 1 ≤ b x3.1 := z3
    refine ⟨⟨.mk k s m.1 (l.map (·.1)), wf_range m.2, okIs_val l⟩, ?_, ?_⟩
    · have e : FTs (l.map (·.1)) = l.map fun t : TmI => FT t.1 := by rw [FTs_map, List.map_map]; rfl
      show LRep (FRep w none1) (FT (.mk k s m.1 (l.map (·.1)))) _
      rw [FT, e]
      exact .cons (LRep.one r0) (.cons (LRep.one r1) (.cons (LRep.one r2) (.cons (LRep.one r3) .nil)))
    · have := hb.one x0.1
      show Tm.bk (.mk k s m.1 (l.map (·.1))) ≤ b (.agg [x0.1, x1.1, x2.1, x3.1])
      simp only [Tm.bk, sumBy_val]
      have h9 := hb.agg [x0.1, x1.1, x2.1, x3.1]
      simp only [hb.cons, hb.nil] at h9
      omega
theorem open_termI {b : DataW H → Nat} {bs : List (DataW H) → Nat} (hb : Bulk b bs) {T : TypeId} {f0 f1 f2 f3 : Field} (hT : TmTy P T f0 f1 f2 f3) {r : Reach} {base : Nat} {v : Value} {d : DataW H} {ps : List MemPlace}
    (hv : Value.okWide P w r base T v) (hd : DataW.Trod enc P w 0 (fun _ => true) true T v d ps) : ∃ t : Tm, TRep w none1 β0 (aT t) v ∧ t.bk ≤ b d ∧ okI t := by
  obtain ⟨cs, rfl, _⟩ := okWide_struct hT.str hv
  obtain ⟨fuel, hf⟩ := hd
  obtain ⟨t, h1, h2⟩ := rd_termI hb hT fuel _ _ hf
  refine ⟨t.1, ⟨cs.toList, by simp, ?_⟩, h2, t.2⟩
  have h1 : LRep (FRep w none1) (FT t.1) cs.toList := h1
  rw [FT_eta] at h1
  exact h1.map (g := fun x => WV.a (.fz x)) fun c u _ h => .a _ _ (.fz _ _ h)
end
end Go.AM

namespace Go.AM
open Go.ChangeShapes Go.WideShapes Go.ChangeAt Go.RowKit

section
variable {H : Type} {enc : TypeId × Value → H} {P : Program} {w : World}
/-- A row of structs, from what one is. -/
theorem open_rows {b : DataW H → Nat} {bs : List (DataW H) → Nat} (hb : Bulk b bs) {T S : TypeId} {n : Nat} {α : Type} {F : α → List FV} {sz : α → Nat} (hF : ∀ a, (F a).length = n) (hn : P.cellsOf T = n) (hn0 : 0 < n) (hz : ∀ a, 1 ≤ sz a)
    (h1 : ∀ k, RdN enc P w b k T F sz) (hS : P.underlying S = some (.slice T)) {r : Reach} {base : Nat} {v : Value} {d : DataW H} {ps : List MemPlace}
    (hv : Value.okWide P w r base S v) (hd : DataW.Trod enc P w 0 (fun _ => true) true S v d ps) : ∃ l : List α, TRep w none1 β0 (.c (.a (.fz (.sl false n (l.map F))))) v ∧ sumBy sz l + 1 ≤ b d := by
  obtain ⟨a, len, cap, rfl⟩ := okWide_slice hS hv
  obtain ⟨fuel, hf⟩ := hd
  obtain ⟨l, h1, h2⟩ := rd_slice hb.cons hb.one hb.slice hS hn hn0 hF (fun k _ => h1 k) _ _ hf
  have h1 : LRep (FRep w none1) [.sl false n (l.map F)] [_] := h1
  exact ⟨l, .a _ _ (.fz _ _ h1.one), h2⟩
/-- A truth value and a term. -/
abbrev FBT (v : Bool × TmI) : List FV := .bool v.1 :: FT v.2.1
structure BTTy (P : Program) (T Tt : TypeId) (f0 f1 : Field) : Prop where
  str : P.underlying T = some (.struct #[f0, f1])
  u0 : P.underlying f0.type = some .bool
  t1 : f1.type = Tt
  o0 : f0.offset = 0
  o1 : f1.offset = 1
  c0 : P.cellsOf f0.type = 1
  cT : P.cellsOf T = 5
theorem rd_bt {b : DataW H → Nat} {bs : List (DataW H) → Nat} (hb : Bulk b bs) {T Tt : TypeId} {g0 g1 g2 g3 f0 f1 : Field} (hT : TmTy P Tt g0 g1 g2 g3) (hV : BTTy P T Tt f0 f1) (fuel : Nat) :
    RdN enc P w b fuel T FBT (fun v => v.2.1.bk + 1) := by
  intro cs x h
  obtain ⟨xs, n, rfl, rfl, hl, hxl, hf⟩ := DataW.trod_struct hV.str h
  rw [hV.cT] at hl
  match cs, hl with
  | [v0, v1, v2, v3, v4], _ =>
  match xs, hxl with
  | [x0, x1], _ =>
  have q0 := hf 0 f0 rfl
  have q1 := hf 1 f1 rfl
  rw [hV.o0, hV.c0] at q0
  rw [hV.o1, hV.t1, hT.cT] at q1
  obtain ⟨p, r0, _⟩ := rd_bool (b := b) hV.u0 hb.one n _ _ q0
  obtain ⟨t, r1, z1⟩ := rd_termI hb hT n _ _ q1
  have z1 : t.1.bk ≤ b x1.1 := z1
  refine ⟨(p, t), .cons (LRep.one r0) r1, ?_⟩
  show t.1.bk + 1 ≤ b (.agg [x0.1, x1.1])
  have h9 := hb.agg [x0.1, x1.1]
  simp only [hb.cons, hb.nil] at h9
  omega
/-- A number, a truth value and a term. -/
abbrev IBT := { n : Int // -9223372036854775808 ≤ n ∧ n ≤ 9223372036854775807 } × Bool × TmI
abbrev FIBT (v : IBT) : List FV := .int .i64 v.1.1 :: .bool v.2.1 :: FT v.2.2.1
structure IBTTy (P : Program) (T Tt : TypeId) (f0 f1 f2 : Field) : Prop where
  str : P.underlying T = some (.struct #[f0, f1, f2])
  u0 : P.underlying f0.type = some (.int .i64)
  u1 : P.underlying f1.type = some .bool
  t2 : f2.type = Tt
  o0 : f0.offset = 0
  o1 : f1.offset = 1
  o2 : f2.offset = 2
  c0 : P.cellsOf f0.type = 1
  c1 : P.cellsOf f1.type = 1
  cT : P.cellsOf T = 6
theorem rd_ibt {b : DataW H → Nat} {bs : List (DataW H) → Nat} (hb : Bulk b bs) {T Tt : TypeId} {g0 g1 g2 g3 f0 f1 f2 : Field} (hT : TmTy P Tt g0 g1 g2 g3) (hV : IBTTy P T Tt f0 f1 f2) (fuel : Nat) :
    RdN enc P w b fuel T FIBT (fun v => v.2.2.1.bk + 2) := by
  intro cs x h
  obtain ⟨xs, n, rfl, rfl, hl, hxl, hf⟩ := DataW.trod_struct hV.str h
  rw [hV.cT] at hl
  match cs, hl with
  | [v0, v1, v2, v3, v4, v5], _ =>
  match xs, hxl with
  | [x0, x1, x2], _ =>
  have q0 := hf 0 f0 rfl
  have q1 := hf 1 f1 rfl
  have q2 := hf 2 f2 rfl
  rw [hV.o0, hV.c0] at q0
  rw [hV.o1, hV.c1] at q1
  rw [hV.o2, hV.t2, hT.cT] at q2
  obtain ⟨i, r0, z0⟩ := rd_num (b := b) hV.u0 hb.one n _ _ q0
  obtain ⟨p, r1, z1⟩ := rd_bool (b := b) hV.u1 hb.one n _ _ q1
  obtain ⟨t, r2, z2⟩ := rd_termI hb hT n _ _ q2
  have z2 : t.1.bk ≤ b x2.1 := z2
  have z0 : 1 ≤ b x0.1 := z0
  refine ⟨(⟨i.1, wf_range i.2⟩, p, t), .cons (LRep.one r0) (.cons (LRep.one r1) r2), ?_⟩
  show t.1.bk + 2 ≤ b (.agg [x0.1, x1.1, x2.1])
  have h9 := hb.agg [x0.1, x1.1, x2.1]
  simp only [hb.cons, hb.nil] at h9
  omega
/-- Three numbers and a term. -/
abbrev I3T := { n : Int × Int × Int // (-9223372036854775808 ≤ n.1 ∧ n.1 ≤ 9223372036854775807) ∧ (-9223372036854775808 ≤ n.2.1 ∧ n.2.1 ≤ 9223372036854775807) ∧ (-9223372036854775808 ≤ n.2.2 ∧ n.2.2 ≤ 9223372036854775807) } × TmI
abbrev FI3T (v : I3T) : List FV := .int .i64 v.1.1.1 :: .int .i64 v.1.1.2.1 :: .int .i64 v.1.1.2.2 :: FT v.2.1
structure I3TTy (P : Program) (T Tt : TypeId) (f0 f1 f2 f3 : Field) : Prop where
  str : P.underlying T = some (.struct #[f0, f1, f2, f3])
  u0 : P.underlying f0.type = some (.int .i64)
  u1 : P.underlying f1.type = some (.int .i64)
  u2 : P.underlying f2.type = some (.int .i64)
  t3 : f3.type = Tt
  o0 : f0.offset = 0
  o1 : f1.offset = 1
  o2 : f2.offset = 2
  o3 : f3.offset = 3
  c0 : P.cellsOf f0.type = 1
  c1 : P.cellsOf f1.type = 1
  c2 : P.cellsOf f2.type = 1
  cT : P.cellsOf T = 7
theorem rd_i3t {b : DataW H → Nat} {bs : List (DataW H) → Nat} (hb : Bulk b bs) {T Tt : TypeId} {g0 g1 g2 g3 f0 f1 f2 f3 : Field} (hT : TmTy P Tt g0 g1 g2 g3) (hV : I3TTy P T Tt f0 f1 f2 f3) (fuel : Nat) :
    RdN enc P w b fuel T FI3T (fun v => v.2.1.bk + 3) := by
  intro cs x h
  obtain ⟨xs, n, rfl, rfl, hl, hxl, hf⟩ := DataW.trod_struct hV.str h
  rw [hV.cT] at hl
  match cs, hl with
  | [v0, v1, v2, v3, v4, v5, v6], _ =>
  match xs, hxl with
  | [x0, x1, x2, x3], _ =>
  have q0 := hf 0 f0 rfl
  have q1 := hf 1 f1 rfl
  have q2 := hf 2 f2 rfl
  have q3 := hf 3 f3 rfl
  rw [hV.o0, hV.c0] at q0
  rw [hV.o1, hV.c1] at q1
  rw [hV.o2, hV.c2] at q2
  rw [hV.o3, hV.t3, hT.cT] at q3
  obtain ⟨i, r0, z0⟩ := rd_num (b := b) hV.u0 hb.one n _ _ q0
  obtain ⟨j, r1, z1⟩ := rd_num (b := b) hV.u1 hb.one n _ _ q1
  obtain ⟨k, r2, z2⟩ := rd_num (b := b) hV.u2 hb.one n _ _ q2
  obtain ⟨t, r3, z3⟩ := rd_termI hb hT n _ _ q3
  have z0 : 1 ≤ b x0.1 := z0
  have z1 : 1 ≤ b x1.1 := z1
  have z3 : t.1.bk ≤ b x3.1 := z3
  refine ⟨(⟨(i.1, j.1, k.1), wf_range i.2, wf_range j.2, wf_range k.2⟩, t), .cons (LRep.one r0) (.cons (LRep.one r1) (.cons (LRep.one r2) r3)), ?_⟩
  show t.1.bk + 3 ≤ b (.agg [x0.1, x1.1, x2.1, x3.1])
  have h9 := hb.agg [x0.1, x1.1, x2.1, x3.1]
  simp only [hb.cons, hb.nil] at h9
  omega
end
end Go.AM

set_option maxRecDepth 100000
open Go Go.Proofs
namespace Go.AM

/-! ### What is in full is valid, and not too large -/
theorem runH_sz {s : Sto} (hs : OKS s) : ∀ (F : Nat) (t : Tm), validB t = true → Fit F t → (runH s F t).2.1 = 0 → (runH s F t).1.sz + 4200 * (F - (runH s F t).2.2) ≤ t.sz + 4200 * F := by
  intro F
  induction F with
  | zero => intro t hv hf h; rw [runH] at h ⊢; split <;> rename_i q
            · exact Nat.le_refl _
            · rw [if_neg q] at h; cases h
  | succ F ih =>
    intro t hv hf h
    rw [runH] at h ⊢
    split
    · exact Nat.le_refl _
    · rename_i q
      rw [if_neg q] at h
      split
      · rename_i q2; rw [if_pos q2] at h; cases h
      · rename_i q2
        rw [if_neg q2] at h
        have q1 : (stepS s t).2 = 1 := by rcases stepS_n s t with q' | q' | q'; · exact absurd q' q
                                          · exact q'
                                          · exact absurd q' q2
        obtain ⟨v, ff⟩ := stepS_fit hs hv hf q1
        have h1 := ih _ v ff h
        have h2 := stepS_sz hs hv hf q1
        simp only
        omega
/-- The rows within, done in full. -/
theorem kidsF_ok {fu : Int → Tm → Tm × Int × Int} (hfu : ∀ g t, 0 ≤ g → 0 ≤ (fu g t).2.2 ∧ (fu g t).2.2 ≤ g) {A : Tm → Tm → Prop} :
    ∀ (l : List Tm) (sk : Bool) (g : Int), 0 ≤ g → (∀ u ∈ (if sk = true then l.drop 1 else l), ∀ g' : Int, 0 ≤ g' → g' ≤ g → (fu g' u).2.1 = 0 → A u (fu g' u).1 ∧ (fu g' u).1.sz + 4200 * (fu g' u).2.2.toNat ≤ u.sz + 4200 * g'.toNat) →
    (kidsF fu sk l g).2.1 = 0 → Tm.szs (kidsF fu sk l g).1 + 4200 * (kidsF fu sk l g).2.2.toNat ≤ Tm.szs l + 4200 * g.toNat ∧ (kidsF fu sk l g).1.length = l.length ∧ (sk = true → hd (kidsF fu sk l g).1 = hd l) ∧ All2 A (if sk = true then l.drop 1 else l) (if sk = true then (kidsF fu sk l g).1.drop 1 else (kidsF fu sk l g).1)
  | [], sk, g, _, _, _ => by
    refine ⟨Nat.le_refl _, rfl, fun _ => rfl, ?_⟩
    cases sk <;> trivial
  | t :: l, true, g, hg, h, h0 => by
    have := kidsF_ok hfu l false g hg h h0
    refine ⟨?_, by rw [kidsF, List.length_cons, this.2.1]; rfl, fun _ => rfl, this.2.2.2⟩
    have h1 := this.1
    show t.sz + Tm.szs _ + _ ≤ t.sz + Tm.szs l + _
    have e : (kidsF fu true (t :: l) g).2.2 = (kidsF fu false l g).2.2 := rfl
    rw [e]; omega
  | t :: l, false, g, hg, h, h0 => by
    have eK : kidsF fu false (t :: l) g = if (fu g t).2.1 ≠ 0 then ([], (fu g t).2) else ((fu g t).1 :: (kidsF fu false l (fu g t).2.2).1, (kidsF fu false l (fu g t).2.2).2) := rfl
    rw [eK] at h0 ⊢
    by_cases q : (fu g t).2.1 ≠ 0
    · rw [if_pos q] at h0; exact absurd h0 q
    · rw [if_neg q] at h0 ⊢
      have q : (fu g t).2.1 = 0 := by simpa using q
      have h1 := hfu g t hg
      have h2 := h t List.mem_cons_self g hg (Int.le_refl _) q
      have h3 := kidsF_ok hfu l false (fu g t).2.2 h1.1 (fun u hu g' a b c => h u (List.mem_cons_of_mem _ hu) g' a (by omega) c) h0
      refine ⟨?_, by simp only [List.length_cons, h3.2.1], fun e => (by cases e), ⟨h2.1, h3.2.2.2⟩⟩
      have h4 := h3.1
      have h5 := h2.2
      simp only [Tm.szs]
      omega
theorem all2_mem {α β : Type} {R : α → β → Prop} {Q : β → Prop} (h : ∀ x y, R x y → Q y) : ∀ {a : List α} {b : List β}, All2 R a b → ∀ y ∈ b, Q y
  | [], [], _, y, hy => by cases hy
  | x :: a, z :: b, hr, y, hy => by
    rcases List.mem_cons.1 hy with rfl | hy
    · exact h _ _ hr.1
    · exact all2_mem h hr.2 y hy
  | [], _ :: _, h, _, _ => h.elim
  | _ :: _, [], h, _, _ => h.elim
theorem mem_hd {l : List Tm} {y : Tm} (h : y ∈ l) : y = hd l ∨ y ∈ l.drop 1 := by
  cases l with
  | nil => cases h
  | cons x l => exact (List.mem_cons.1 h).imp id id
theorem validL_iff {l : List Tm} : validL l = true ↔ ∀ u ∈ l, validB u = true := by
  induction l with
  | nil => exact ⟨(fun _ u hu => nomatch hu), fun _ => rfl⟩
  | cons x l ih =>
    rw [validL, Bool.and_eq_true, ih]
    exact ⟨fun h u hu => (List.mem_cons.1 hu).elim (fun e => e ▸ h.1) (h.2 u), fun h => ⟨h x List.mem_cons_self, fun u hu => h u (List.mem_cons_of_mem _ hu)⟩⟩
/-- New rows within what is valid. -/
theorem valid_node {k n : Int} {s : List UInt8} {l us : List Tm} (hv : validB (.mk k s n l) = true) (hl : us.length = l.length) (hk : k = 6 → hd us = hd l) (hu : k = 5 ∨ k = 6 → ∀ u ∈ us, validB u = true) : validB (.mk k s n us) = true := by
  by_cases h5 : k = 5
  · subst h5
    rw [valid5] at hv ⊢
    simp only [Bool.and_eq_true] at hv ⊢
    exact ⟨⟨hv.1.1, by rw [hl]; exact hv.1.2⟩, validL_iff.2 (hu (.inl rfl))⟩
  · by_cases h6 : k = 6
    · subst h6
      rw [valid6] at hv ⊢
      simp only [Bool.and_eq_true] at hv ⊢
      rw [hk rfl, hl]
      exact ⟨hv.1, validL_iff.2 (hu (.inr rfl))⟩
    · have := okB0 (valid_ok _ hv) h5 h6
      subst this
      have : us = [] := List.eq_nil_of_length_eq_zero hl
      subst this; exact hv
theorem bds_iff {M : Int} {l : List Tm} (h : ∀ u ∈ l, bd M u) : bds M l := bds_of h
theorem fullF_ok {s : Sto} (hs : OKS s) : ∀ (D : Nat) (f : Int) (t : Tm), f.toNat ≤ D → 0 ≤ f → validB t = true → Fit f.toNat t → (fullF s D f t).2.1 = 0 →
    (validB (fullF s D f t).1 = true ∧ bd M61 (fullF s D f t).1) ∧ (fullF s D f t).1.sz + 4200 * (fullF s D f t).2.2.toNat ≤ t.sz + 4200 * f.toNat
  | 0, f, t, _, _, _, _, h => by rw [fullF] at h; cases h
  | D + 1, f, t, hD, h0, hv, hf, h => by
    rw [fullF] at h ⊢
    split
    · rename_i q; rw [if_pos q] at h; cases h
    rename_i q
    rw [if_neg q] at h
    have hfit := hf.mono (show (f - 1).toNat ≤ f.toNat by omega)
    have hq := runH_fit hs hv hfit
    have hz := runH_sz hs (f - 1).toNat t hv hfit
    have eh : headP s (f - 1) t = ((runH s (f - 1).toNat t).1, (runH s (f - 1).toNat t).2.1, f - 1 - ((runH s (f - 1).toNat t).2.2 : Int)) := rfl
    rw [eh] at h ⊢
    generalize runH s (f - 1).toNat t = q at *
    obtain ⟨x, er, u⟩ := q
    simp only at hq hz h ⊢
    obtain ⟨hu, hq⟩ := hq
    rw [fullK] at h ⊢
    split
    · rename_i q2; rw [if_pos q2] at h; exact absurd h q2
    rename_i q2
    rw [if_neg q2] at h
    have he : er = 0 := by simpa using q2
    subst he
    rcases hq with ⟨_, hvx, hfx, _⟩ | ⟨h80, _⟩
    · have hz := hz rfl
      obtain ⟨k, str, n, l⟩ := x
      simp only [Tm.l, Tm.k, Tm.s, Tm.n] at h ⊢
      have hg0 : 0 ≤ f - 1 - (u : Int) := by omega
      have hkid : ∀ x ∈ l, k = 5 ∨ k = 6 := fun x hx => by
        by_cases h5 : k = 5 ∨ k = 6
        · exact h5
        · rw [not_or] at h5
          have := okB0 (valid_ok _ hvx) h5.1 h5.2
          rw [this] at hx; cases hx
      have kid : ∀ x ∈ l, ∀ g' : Int, 0 ≤ g' → g' ≤ f - 1 - (u : Int) → (fullF s D g' x).2.1 = 0 → (validB (fullF s D g' x).1 = true ∧ bd M61 (fullF s D g' x).1) ∧ (fullF s D g' x).1.sz + 4200 * (fullF s D g' x).2.2.toNat ≤ x.sz + 4200 * g'.toNat := fun x hx g' a b c =>
        fullF_ok hs D g' x (by omega) a (kid_valid hvx (hkid x hx) x hx) ((hfx.kid (show x ∈ Tm.l (.mk k str n l) from hx)).mono (by omega)) c
      unfold fullN at h ⊢
      split
      · rename_i q3; rw [if_pos q3] at h; exact absurd h q3
      rename_i q3
      have h9 : (kidsF (fullF s D) (k == 6) l (f - 1 - (u : Int))).2.1 = 0 := by simpa using q3
      have sub : ∀ x ∈ (if (k == 6) = true then l.drop 1 else l), x ∈ l := fun x hx => by
        split at hx
        · exact List.mem_of_mem_drop hx
        · exact hx
      have hk := kidsF_ok (A := fun _ y => validB y = true ∧ bd M61 y) (fullF_left s D) l (k == 6) (f - 1 - (u : Int)) hg0 (fun x hx g' a b c => kid x (sub x hx) g' a b c) h9
      generalize kidsF (fullF s D) (k == 6) l (f - 1 - (u : Int)) = r at *
      obtain ⟨us, er2, g2⟩ := r
      simp only at hk ⊢
      obtain ⟨k1, k2, k3, k4⟩ := hk
      have k5 := all2_mem (Q := fun y => validB y = true ∧ bd M61 y) (fun _ _ h => h) k4
      have all : ∀ y ∈ us, validB y = true ∧ bd M61 y := fun y hy => by
        by_cases h6 : (k == 6) = true
        · rcases mem_hd hy with e | e
          · rw [k3 h6] at e
            have hl : l ≠ [] := fun e2 => by rw [e2] at k2; rw [List.eq_nil_of_length_eq_zero k2] at hy; cases hy
            have hm : y ∈ l := by cases l with
              | nil => exact absurd rfl hl
              | cons z l => rw [e]; exact List.mem_cons_self
            exact ⟨kid_valid hvx (hkid y hm) y hm, bds_mem hfx.bd.2 hm⟩
          · exact k5 y (by rw [if_pos h6]; exact e)
        · exact k5 y (by rw [if_neg h6]; exact hy)
      refine ⟨⟨valid_node hvx k2 (fun e => k3 (by have e : k = 6 := e; rw [e]; rfl)) (fun _ y hy => (all y hy).1), ⟨hfx.bd.1, bds_of fun y hy => (all y hy).2⟩⟩, ?_⟩
      simp only [Tm.sz] at hz ⊢
      omega
    · cases h80
/-- Full: the term, what is left, what is wrong. -/
def FullV (s : Sto) (f : Int) (t : Tm) : Tm × Int × Int :=
  if validB t = true then (if (fullF s f.toNat f t).2.1 = 0 then (shortF (fullF s f.toNat f t).1, (fullF s f.toNat f t).2.2, 0) else (noT, 0, (fullF s f.toNat f t).2.1)) else (noT, 0, 1)
theorem fullF_neg (s : Sto) (D : Nat) {f : Int} (t : Tm) (h : f ≤ 0) : fullF s D f t = (noT, 80, f) := by
  cases D with
  | zero => rfl
  | succ D => rw [fullF, if_pos h]
def fullR (s : Sto) (f : Int) (t : Tm) : Tm × Int × Int :=
  if validB t = true then (if (fullF s f.toNat f t).2.1 = 0 then ((fullF s f.toNat f t).1, (fullF s f.toNat f t).2.2, 0) else (noT, 0, (fullF s f.toNat f t).2.1)) else (noT, 0, 1)
theorem c_srun_full (s : Sto) (hs : OKS s) (f : Int) (t : Tm) (h0 : 0 - 9223372036854775808 ≤ f) (hz : t.sz ≤ B) (hf : validB t = true → Fit f.toNat t) :
    AC Try.prog 55 [aT t, ci f, .c (.fn (.func 56) [(false, [.ep 0 2 0 0])] [])] (oS s) (aHd (fullR s f t)) (oS s) := by
  have h1 := c_valid t hz
  have h2 := fun hv => c_sfull s hs f.toNat f t (Nat.le_refl _) h0 hv (hf hv)
  have hV : fullR s f t = if validB t = true then (if (fullF s f.toNat f t).2.1 = 0 then ((fullF s f.toNat f t).1, (fullF s f.toNat f t).2.2, 0) else (noT, 0, (fullF s f.toNat f t).2.1)) else (noT, 0, 1) := rfl
  rw [hV]
  generalize fullF s f.toNat f t = z at *
  obtain ⟨z1, z2, z3⟩ := z
  obtain ⟨k, str, n, l⟩ := t
  refine AC.vc hP sh lv55 (Nat.le_refl _) (by simp [isLive]) (by simp) (Eq.mpr (v55_F56 k str n (FTs l) ..) ?_)
  refine ⟨_, h1, br_of (fun h => ?_) (fun h => ⟨(z1, z2, z3), h2 (by simpa using h), br_of (fun h' => ?_) (fun h' => ?_)⟩)⟩
  · rw [if_neg (by simpa using h)]; exact ⟨leHd (l := []) leNil, rfl⟩
  · have h : validB (.mk k str n l) = true := by simpa using h
    rw [if_pos h, if_neg (by simpa using h')]; exact ⟨leHd (l := []) leNil, rfl⟩
  · have h : validB (.mk k str n l) = true := by simpa using h
    rw [if_pos h, if_pos (by simpa using h')]; exact ⟨.refl _, rfl⟩
theorem c_sFull (s : Sto) (hs : OKS s) (f : Int) (t : Tm) (h0 : 0 - 9223372036854775808 ≤ f) (hz : t.sz ≤ B) (hf : validB t = true → Fit f.toNat t) : AC Try.prog 26 [aS 0, aT t, ci f] (oS s) (aHd (FullV s f t)) (oS s) := by
  have h := c_srun_full s hs f t h0 hz hf
  have hsh : validB t = true → (fullF s f.toNat f t).2.1 = 0 → AC Try.prog 31 [aT (fullF s f.toNat f t).1] [] (aT (shortF (fullF s f.toNat f t).1)) [] := fun hv he => by
    have h0 : 0 ≤ f := by
      rcases Int.le_total 0 f with q | q
      · exact q
      · rw [fullF_neg s _ t q] at he; cases he
    obtain ⟨⟨a, b⟩, c⟩ := fullF_ok hs f.toNat f t (Nat.le_refl _) h0 hv (hf hv) he
    have := (hf hv).2.1
    have h3 := c_eShort (fullF s f.toNat f t).1 (by omega) b
    rw [if_pos a] at h3
    exact h3
  have e1 : FullV s f t = if validB t = true then (if (fullF s f.toNat f t).2.1 = 0 then (shortF (fullF s f.toNat f t).1, (fullF s f.toNat f t).2.2, 0) else (noT, 0, (fullF s f.toNat f t).2.1)) else (noT, 0, 1) := rfl
  have e2 : fullR s f t = if validB t = true then (if (fullF s f.toNat f t).2.1 = 0 then ((fullF s f.toNat f t).1, (fullF s f.toNat f t).2.2, 0) else (noT, 0, (fullF s f.toNat f t).2.1)) else (noT, 0, 1) := rfl
  have go : ∀ z : Tm × Int × Int, AC Try.prog 55 [aT t, ci f, .c (.fn (.func 56) [(false, [.ep 0 2 0 0])] [])] (oS s) (aHd z) (oS s) → ∀ r : TV, br (z.2.2 != 0) (TV.Le (.tup [(true, [.a (.fz (.int .i64 0)), .a (.fz (.str [])), .a (.fz (.int .i64 0)), .a (.fz .nils)]), (false, [.a (.fz (.int .i64 0))]), (false, [.a (.fz (.int .i64 z.2.2))])]) r ∧ oS s = oS s)
      (∃ u : Tm, AC Try.prog 31 [aT z.1] [] (aT u) [] ∧ TV.Le (.tup [(true, cT u), (false, [.a (.fz (.int .i64 z.2.1))]), (false, [.a (.fz (.int .i64 0))])]) r ∧ oS s = oS s) → AC Try.prog 26 [aS 0, aT t, ci f] (oS s) r (oS s) := fun z hz r hb => by
    obtain ⟨k, str, n, l⟩ := t
    refine AC.vc hP sh lv26 (Nat.le_refl _) (by simp [isLive]) (by simp) (Eq.mpr (v26 k str n (FTs l) ..) ?_)
    exact ⟨z, hz, hb⟩
  refine go _ h _ ?_
  rw [e1, e2]
  by_cases hv : validB t = true
  · rw [if_pos hv, if_pos hv]
    by_cases he : (fullF s f.toNat f t).2.1 = 0
    · rw [if_pos he, if_pos he]
      exact br_of (fun h => by cases h) (fun _ => ⟨_, hsh hv he, .refl _, rfl⟩)
    · rw [if_neg he, if_neg he]
      exact br_of (fun _ => ⟨leHd (l := []) leNil, rfl⟩) (fun h => absurd (by simpa using h) he)
  · rw [if_neg hv, if_neg hv]
    exact br_of (fun _ => ⟨leHd (l := []) leNil, rfl⟩) (fun h => by cases h)
/-! ### Stores of acts -/
abbrev aV7 (l : List I3T) : TV := .c (.a (.fz (.sl false 7 (l.map FI3T))))
def badT (t : Tm) : Bool := large t 30 || !near 1099511627776 t
theorem FI3T_get {l : List I3T} {i : Nat} (h : i < l.length) : List.getD (l.map FI3T) i [] = FI3T l[i] := by simp [List.getD, h]
theorem l_over15 (l : List I3T) (hl : l.length ≤ 40) (hb : ∀ v ∈ l, v.2.1.bk ≤ B) : ∀ (n i : Nat), i + n = l.length → RPt Try.prog 14 0 (cb ((l.drop i).any fun a => badT a.2.1)) [] 1 ⟨[(0, aV7 l), (3, ci (i : Int))], [], 0⟩
  | 0, i, hi => by
    refine RPt.vc hP sh lv14 (Eq.mpr (v14_1a ..) ?_)
    refine ⟨rfl, br_of (fun h => ?_) (fun _ => ?_)⟩
    · have h := of_decide_eq_true h
      rw [List.length_map] at h; omega
    · rw [List.drop_eq_nil_of_le (by omega)]; exact ret_b rfl
  | n + 1, i, hi => by
    have hlt : i < l.length := by omega
    have hmem := hb _ (List.getElem_mem hlt)
    have hg := FI3T_get hlt
    have next := l_over15 l hl hb n (i + 1) (by omega)
    rw [List.drop_eq_getElem_cons hlt, List.any_cons]
    refine RPt.vc hP sh lv14 (Eq.mpr (v14_1a ..) ?_)
    refine ⟨rfl, br_of (fun _ => ?_) (fun h => ?_)⟩
    · rw [Int.toNat_natCast, List.length_map, hg, w64 (x := (i : Int) + 1) (by omega) (by omega)]
      generalize l[i] = e at *
      obtain ⟨⟨⟨a1, a2, a3⟩, aI⟩, ⟨⟨ek, es, en, el⟩, eI⟩⟩ := e
      have hmem : Tm.bk (.mk ek es en el) ≤ B := hmem
      have zb := Tm.sz_bk (.mk ek es en el)
      have c1 := c_large (.mk ek es en el) (by omega) 30 (by omega) (by omega)
      have c2 := c_near 1099511627776 (by omega) (by omega) (.mk ek es en el) (by omega)
      have op : (FV.isSl 7 (.sl false 7 (l.map FI3T)) = true) ∧ ((0 : Int) ≤ (i : Int)) ∧ ((i : Int) < (l.length : Int)) ∧ (FI3T (⟨(a1, a2, a3), aI⟩, ⟨.mk ek es en el, eI⟩) = FI3T (⟨(a1, a2, a3), aI⟩, ⟨.mk ek es en el, eI⟩)) := ⟨rfl, by omega, by omega, rfl⟩
      have eb : badT (.mk ek es en el) = (large (.mk ek es en el) 30 || !near 1099511627776 (.mk ek es en el)) := rfl
      show _ ∧ _
      refine ⟨op, _, c1, op, _, c2, br_of (fun e1 => ?_) (fun e1 => br_of (fun e2 => ?_) (fun e2 => ?_))⟩
      · rw [eb, e1]; exact ret_b rfl
      · rw [eb, e1, e2]; exact ret_b rfl
      · rw [eb, e1, e2, Bool.false_or, Bool.false_or]; exact next
    · have h := of_decide_eq_false h
      rw [List.length_map] at h; omega
def overV (l : List I3T) : Bool := decide ((l.length : Int) > 40) || l.any fun a => badT a.2.1
theorem c_over15 (l : List I3T) (hb : ∀ v ∈ l, v.2.1.bk ≤ B) : AC Try.prog 14 [aV7 l] [] (cb (overV l)) [] := by
  refine AC.vc hP sh lv14 (Nat.le_refl _) (by simp) (by simp) (Eq.mpr (v14 ..) ?_)
  rw [List.length_map]
  refine ⟨rfl, br_of (fun h => ?_) (fun h => ?_)⟩
  · rw [overV, h]; exact ret_b rfl
  · rw [overV, h, Bool.false_or]
    have h := of_decide_eq_false h
    exact l_over15 l (by omega) hb l.length 0 (by omega)
theorem over_no {l : List I3T} (h : overV l = false) : l.length ≤ 40 ∧ ∀ v ∈ l, v.2.1.sz ≤ 30 ∧ bd 1099511627776 v.2.1 := by
  rw [overV, Bool.or_eq_false_iff] at h
  refine ⟨by have := of_decide_eq_false h.1; omega, fun v hv => ?_⟩
  have := List.any_eq_false.1 h.2 v hv
  simp only [badT, Bool.or_eq_true, Bool.not_eq_true', not_or, Bool.not_eq_true, Bool.not_eq_false] at this
  exact ⟨by have := large_sz this.1; omega, near_bd _ this.2⟩
/-- One act. -/
def actS (s : Sto) (a : I3T) : Sto := if (a.1.1.1.tmod 2 == 0) = true then freshS s a.1.1.2.1 else bindS s a.1.1.2.1 a.2.1
def laidV (s : Sto) (l : List I3T) : Sto := l.foldl actS s
/-- What stays so for a store of acts. -/
structure OKA (s : Sto) (n : Nat) : Prop where
  ok : OKS s
  V : s.V.length ≤ n
  T : s.T.length ≤ n
  tr : OKT s
  wf : ∀ i ∈ s.V, i.bd = false → i.v = noT
  nn : ∀ i ∈ s.V, i.bd = true → i.v.bk ≤ B
theorem bindV_length (s : Sto) (x : Int) (t : Tm) : (bindS s x t).V.length = s.V.length := by unfold bindS; split <;> simp
theorem OKS.bindA {s : Sto} {x : Int} {t : Tm} (h : OKS s) (hz : t.sz ≤ 4000) (hb : bd 2199023255552 t) : OKS (bindS s x t) := by
  by_cases q : bindB s x t = true
  · rw [(bind_yes q).1]
    intro i hi hbd
    rcases List.mem_or_eq_of_mem_set hi with hi | rfl
    · exact h i hi hbd
    · refine ⟨?_, hz, hb⟩
      simp only [bindB, Bool.and_eq_true] at q
      exact q.2.2.1
  · rw [(bind_no (by simpa using q)).1]; exact h
theorem bindB_in {s : Sto} {x : Int} {t : Tm} (q : bindB s x t = true) : 0 ≤ x ∧ x < (s.V.length : Int) := by
  simp only [bindB, Bool.and_eq_true, inB, decide_eq_true_eq] at q
  exact q.1
theorem OKA.bind {s : Sto} {n : Nat} {x : Int} {t : Tm} (h : OKA s n) (hz : t.sz ≤ 4000) (hb : bd 2199023255552 t) (hk : t.bk ≤ B) : OKA (bindS s x t) (n + 1) := by
  have h1 := h.V
  have h2 := h.T
  by_cases q : bindB s x t = true
  · have hx := bindB_in q
    refine ⟨h.ok.bindA hz hb, by rw [bindV_length]; omega, by rw [(bind_yes q).1]; simp; omega, fun y hy => ?_, fun i hi hbd => ?_, fun i hi hbd => ?_⟩
    · rw [bindV_length]
      rw [(bind_yes q).1] at hy
      rcases List.mem_append.1 hy with hy | hy
      · exact h.tr y hy
      · simp at hy; subst hy; exact hx
    · rw [(bind_yes q).1] at hi
      rcases List.mem_or_eq_of_mem_set hi with hi | rfl
      · exact h.wf i hi hbd
      · cases hbd
    · rw [(bind_yes q).1] at hi
      rcases List.mem_or_eq_of_mem_set hi with hi | rfl
      · exact h.nn i hi hbd
      · exact hk
  · rw [(bind_no (by simpa using q)).1]
    exact ⟨h.ok, by omega, by omega, h.tr, h.wf, h.nn⟩
theorem OKA.fresh {s : Sto} {n : Nat} (h : OKA s n) (lv : Int) : OKA (freshS s lv) (n + 1) := by
  have h1 := h.V
  have h2 := h.T
  have hl : (freshS s lv).V.length = s.V.length + 1 := by simp [freshS]
  refine ⟨fun i hi hb => ?_, by omega, by simp only [freshS]; omega, fun y hy => ?_, fun i hi hbd => ?_, fun i hi hbd => ?_⟩
  · rcases List.mem_append.1 hi with hi | hi
    · exact h.ok i hi hb
    · simp at hi; subst hi; cases hb
  · rw [hl]; have := h.tr y hy; omega
  · rcases List.mem_append.1 hi with hi | hi
    · exact h.wf i hi hbd
    · simp at hi; subst hi; rfl
  · rcases List.mem_append.1 hi with hi | hi
    · exact h.nn i hi hbd
    · simp at hi; subst hi; cases hbd
theorem OKA.act {s : Sto} {n : Nat} (h : OKA s n) {a : I3T} (hz : a.2.1.sz ≤ 30) (hb : bd 1099511627776 a.2.1) (hk : a.2.1.bk ≤ B) : OKA (actS s a) (n + 1) := by
  unfold actS
  split
  · exact h.fresh _
  · exact h.bind (by omega) (bd_le (by omega) _ hb) hk
theorem OKA.nil : OKA ⟨[], []⟩ 0 := ⟨(fun i hi => nomatch hi), Nat.le_refl _, Nat.le_refl _, (fun i hi => nomatch hi), (fun i hi => nomatch hi), (fun i hi => nomatch hi)⟩
theorem OKA.more {s : Sto} {n m : Nat} (h : OKA s n) (hm : n ≤ m) : OKA s m := ⟨h.ok, Nat.le_trans h.V hm, Nat.le_trans h.T hm, h.tr, h.wf, h.nn⟩
theorem OKA.acts : ∀ {l : List I3T} {s : Sto} {n : Nat}, OKA s n → (∀ v ∈ l, v.2.1.sz ≤ 30 ∧ bd 1099511627776 v.2.1) → (∀ v ∈ l, v.2.1.bk ≤ B) → OKA (laidV s l) (n + l.length)
  | [], s, n, h, _, _ => h
  | a :: l, s, n, h, h1, h2 => by
    have := OKA.acts (l := l) (h.act (h1 a List.mem_cons_self).1 (h1 a List.mem_cons_self).2 (h2 a List.mem_cons_self)) (fun v hv => h1 v (List.mem_cons_of_mem _ hv)) (fun v hv => h2 v (List.mem_cons_of_mem _ hv))
    exact this.more (by simp only [List.length_cons]; omega)

end Go.AM

set_option maxRecDepth 100000
open Go Go.Proofs
namespace Go.AM

/-! ### Stores of acts: the law's -/
abbrev rI3 (l : List I3T) (i : Nat) (e : I3T) : Prop := (FV.isSl 7 (.sl false 7 (l.map FI3T)) = true) ∧ ((0 : Int) ≤ (i : Int)) ∧ ((i : Int) < (l.length : Int)) ∧ (FI3T e = FI3T e)
theorem l_laid15 (l : List I3T) (hl : ∀ v ∈ l, v.2.1.sz ≤ 30 ∧ bd 1099511627776 v.2.1) (hk : ∀ v ∈ l, v.2.1.bk ≤ B) (h40 : l.length ≤ 40) :
    ∀ (n i : Nat) (u : Sto), i + n = l.length → OKA u i → RPt Try.prog 15 0 (aS 0) (oS ((l.drop i).foldl actS u)) 1 ⟨[(0, aV7 l), (3, aS 0), (4, ci (i : Int))], [(0, sto2 1 2 u), (1, .arz 6 (SR u.V)), (2, .arz 1 (IR u.T))], 3⟩
  | 0, i, u, hi, ha => by
    refine RPt.vc hP sh lv15 (Eq.mpr (v15_1a ..) ?_)
    refine ⟨rfl, br_of (fun h => ?_) (fun _ => ?_)⟩
    · have h := of_decide_eq_true h
      rw [List.length_map] at h; omega
    · rw [List.drop_eq_nil_of_le (by omega)]; exact ⟨.refl _, rfl⟩
  | n + 1, i, u, hi, ha => by
    have hlt : i < l.length := by omega
    have hm := List.getElem_mem hlt
    have hz := hl _ hm
    have hmk := hk _ hm
    have hg := FI3T_get hlt
    have next := l_laid15 l hl hk h40 n (i + 1)
    have act := ha.act hz.1 hz.2 hmk
    rw [List.drop_eq_getElem_cons hlt, List.foldl_cons]
    refine RPt.vc hP sh lv15 (Eq.mpr (v15_1a ..) ?_)
    refine ⟨rfl, br_of (fun _ => ?_) (fun h => ?_)⟩
    · rw [Int.toNat_natCast, List.length_map, hg, w64 (x := (i : Int) + 1) (by omega) (by omega)]
      generalize l[i] = e at *
      have hV := ha.V
      have hT := ha.T
      have hf := c_sfresh u e.1.1.2.1 (by omega)
      have hb := c_sbind u e.1.1.2.1 e.2.1 (by omega) (by have := Tm.sz_bk e.2.1; omega) (bd_le (by simp only [M61]; omega) _ hz.2)
      obtain ⟨⟨⟨a1, a2, a3⟩, aI⟩, ⟨⟨ek, es, en, el⟩, eI⟩⟩ := e
      have op : rI3 l i (⟨(a1, a2, a3), aI⟩, ⟨.mk ek es en el, eI⟩) := ⟨rfl, by omega, by omega, rfl⟩
      refine ⟨op, ⟨rfl, by omega⟩, br_of (fun h => ?_) (fun h => ?_)⟩
      · have ea : actS u (⟨(a1, a2, a3), aI⟩, ⟨.mk ek es en el, eI⟩) = freshS u a2 := if_pos h
        rw [ea] at act ⊢
        exact ⟨op, (_, freshS u a2), hf, next (freshS u a2) (by omega) act⟩
      · have ea : actS u (⟨(a1, a2, a3), aI⟩, ⟨.mk ek es en el, eI⟩) = bindS u a2 (.mk ek es en el) := if_neg (fun q => by rw [show (a1.tmod 2 == 0) = false from h] at q; cases q)
        rw [ea] at act ⊢
        exact ⟨op, op, (_, bindS u a2 (.mk ek es en el)), hb, next (bindS u a2 (.mk ek es en el)) (by omega) act⟩
    · have h := of_decide_eq_false h
      rw [List.length_map] at h; omega
abbrev sNil : Sto := ⟨[], []⟩
theorem c_laid15 (l : List I3T) (hl : ∀ v ∈ l, v.2.1.sz ≤ 30 ∧ bd 1099511627776 v.2.1) (hk : ∀ v ∈ l, v.2.1.bk ≤ B) (h40 : l.length ≤ 40) : AC Try.prog 15 [aV7 l] [] (aS 0) (oS (laidV sNil l)) := by
  refine AC.vc hP sh lv15 (by simp) (by simp) (by simp [isLive]) (Eq.mpr (v15 ..) ?_)
  exact ⟨(), c_snew, l_laid15 l hl hk h40 l.length 0 sNil (by omega) OKA.nil⟩
/-! ### What is undone is as it was -/
def Ext (s0 s : Sto) : Prop := ∃ xs, s.T = s0.T ++ xs ∧ s0.V.length ≤ s.V.length ∧ ∀ j, j < s0.V.length → (xs.foldl clrV s.V)[j]? = s0.V[j]?
theorem Ext.refl (s : Sto) : Ext s s := ⟨[], by simp, Nat.le_refl _, fun _ _ => rfl⟩
theorem Ext.fresh {s0 s : Sto} (h : Ext s0 s) (lv : Int) : Ext s0 (freshS s lv) := by
  obtain ⟨xs, h1, h2, h3⟩ := h
  refine ⟨xs, h1, by simp only [freshS, List.length_append]; omega, fun j hj => ?_⟩
  rw [← h3 j hj, clrs_get, clrs_get]
  show (s.V ++ _)[j]?.map _ = _
  rw [List.getElem?_append_left (by omega)]
theorem Ext.bind {s0 s : Sto} (h : Ext s0 s) (wf : ∀ i ∈ s.V, i.bd = false → i.v = noT) (x : Int) (t : Tm) : Ext s0 (bindS s x t) := by
  by_cases q : bindB s x t = true
  · obtain ⟨xs, h1, h2, h3⟩ := h
    have hx := bindB_in q
    obtain ⟨hl, ei⟩ := infOf_in hx.1 hx.2
    have hub : (infOf s.V x).bd = false := by
      simp only [bindB, Bool.and_eq_true, Bool.not_eq_true'] at q; exact q.2.1
    rw [ei] at hub
    have hw := wf _ (List.getElem_mem hl) hub
    rw [(bind_yes q).1, ei]
    refine ⟨xs ++ [x], by rw [h1, List.append_assoc], by rw [List.length_set]; exact h2, fun j hj => ?_⟩
    rw [← h3 j hj, clrs_get, clrs_get, List.getElem?_set]
    by_cases e : x.toNat = j
    · subst e
      rw [if_pos rfl, if_pos hl, List.getElem?_eq_getElem hl]
      simp only [Option.map_some, List.any_append, List.any_cons, beq_self_eq_true, Bool.true_or, Bool.or_true, if_true]
      congr 1
      generalize s.V[x.toNat] = v at *
      obtain ⟨lv, bd, v⟩ := v
      simp only at hub hw
      subst hub; subst hw
      unfold clrI; split <;> rfl
    · rw [if_neg e]
      congr 1
      funext v
      simp [List.any_append, e]
  · rw [(bind_no (by simpa using q)).1]; exact h
theorem Ext.act {s0 s : Sto} (h : Ext s0 s) (wf : ∀ i ∈ s.V, i.bd = false → i.v = noT) (a : I3T) : Ext s0 (actS s a) := by
  unfold actS; split
  · exact h.fresh _
  · exact h.bind wf _ _
theorem Ext.undo {s0 s : Sto} (h : Ext s0 s) : undoS s s0.T.length s0.V.length = s0 := by
  obtain ⟨xs, h1, h2, h3⟩ := h
  obtain ⟨V0, T0⟩ := s0
  have e1 : s.T.drop T0.length = xs := by rw [h1, List.drop_left]
  have e2 : s.T.take T0.length = T0 := by rw [h1, List.take_left]
  show (⟨((s.T.drop T0.length).foldl clrV s.V).take V0.length, s.T.take T0.length⟩ : Sto) = _
  rw [e1, e2]
  congr 1
  apply List.ext_getElem?
  intro j
  rw [List.getElem?_take]
  split
  · rename_i hj; exact h3 j hj
  · rename_i hj; rw [List.getElem?_eq_none (by omega)]
theorem Ext.cut {s0 s : Sto} (h : Ext s0 s) (h0 : OKT s0) : s0.T.length ≤ s.T.length ∧ s0.V.length ≤ s.V.length ∧ ∀ x ∈ s.T.take s0.T.length, x < (s0.V.length : Int) := by
  obtain ⟨xs, h1, h2, h3⟩ := h
  refine ⟨by rw [h1, List.length_append]; omega, h2, fun x hx => ?_⟩
  rw [h1, List.take_left] at hx
  exact (h0 x hx).2
/-! ### The law: what is undone is as it was -/
abbrev hpU (u : Sto) (m n : Nat) : AHeap := [(0, sto2 1 2 u), (1, .arz 6 (SR u.V)), (2, .arz 1 (IR u.T)), (3, .arr 2 [[.a (.fz (.int .i64 (m : Int))), .a (.fz (.int .i64 (n : Int)))]])]
theorem info_at (s : Sto) {i : Nat} (h : i < s.V.length) : infOf s.V (i : Int) = s.V[i] ∧ inB s.V (i : Int) = true := by
  obtain ⟨hl, e⟩ := infOf_in (V := s.V) (x := (i : Int)) (by omega) (by omega)
  exact ⟨e, inB_of (by omega) (by omega)⟩
theorem val_sz {s : Sto} {n : Nat} (h : OKA s n) {i : Nat} (hi : i < s.V.length) : (s.V[i]).v.sz ≤ B := by
  have hm := List.getElem_mem hi
  cases hb : (s.V[i]).bd with
  | true => exact Nat.le_trans (Tm.sz_bk _) (h.nn _ hm hb)
  | false => rw [h.wf _ hm hb]; simp only [Tm.sz, Tm.szs, B]; omega
theorem p_und9a (u : Sto) (hV : u.V.length = 0) : RPt Try.prog 3 0 (cb true) [] 9 ⟨[(5, cb true), (8, aS 0), (10, .c (.a (.fz .nils))), (15, ci 0)], [(0, sto2 1 2 u), (1, .arz 6 (SR u.V)), (2, .arz 1 (IR u.T))], 3⟩ := by
  refine RPt.vc hP sh lv3 (Eq.mpr (v3_9a ..) ?_)
  exact ⟨rfl, br_of (fun h => by cases h) (fun _ => ret_b rfl)⟩
theorem p_und9b (u : Sto) {N : Nat} (hu : OKA u N) (hN : N ≤ 1000) : ∀ (n i : Nat), i + n = u.V.length → RPt Try.prog 3 0 (cb true) [] 9 ⟨[(5, cb true), (8, aS 0), (10, .c (.a (.osl 3 6 0 u.V.length))), (15, ci (i : Int))], [(0, sto2 1 2 u), (1, .arz 6 (SR u.V)), (2, .arz 1 (IR u.T)), (3, .arz 6 (SR u.V))], 4⟩
  | 0, i, hi => by
    refine RPt.vc hP sh lv3 (Eq.mpr (v3_9b ..) ?_)
    exact br_of (fun h => absurd (of_decide_eq_true h) (by omega)) (fun _ => ret_b rfl)
  | n + 1, i, hi => by
    have hlt : i < u.V.length := by omega
    have hV := hu.V
    have hc := c_sinfo u (i : Int)
    have hs := c_sameinf u.V[i] u.V[i] (val_sz hu hlt) rfl
    have next := p_und9b u hu hN n (i + 1) (by omega)
    rw [(info_at u hlt).1, (info_at u hlt).2] at hc
    refine RPt.vc hP sh lv3 (Eq.mpr (v3_9b ..) ?_)
    rw [show 0 + Int.toNat (i : Int) = i by rw [Nat.zero_add, Int.toNat_natCast], SR_get hlt, w64 (x := (i : Int) + 1) (by omega) (by omega)]
    generalize u.V[i] = v at *
    obtain ⟨lv, bd, ⟨k, s, m, l⟩⟩ := v
    exact br_of (fun _ => ⟨(lv, bd, .mk k s m l, true), hc, ⟨by omega, by omega⟩, ⟨by rw [SR_length]; omega, rfl, rfl⟩, _, hs, br_of (fun h => by cases h) (fun _ => br_of (fun h => by cases h) (fun _ => next))⟩) (fun h => absurd (of_decide_eq_false h) (by omega))
theorem und_nxa (s0 : Sto) (h0 : OKA s0 40) (hq : s0.V.length = 0) : (FV.isSl 6 .nils = true) ∧ br ((s0.V.length : Int) != (0 : Int)) (TV.Le (cb false) (cb true) ∧ ([] : List AObj) = []) (RPt Try.prog 3 0 (cb true) [] 9 ⟨[(5, cb true), (8, aS 0), (10, .c (.a (.fz .nils))), (15, ci 0)], [(0, sto2 1 2 s0), (1, .arz 6 (SR s0.V)), (2, .arz 1 (IR s0.T))], 3⟩) :=
  ⟨rfl, br_of (fun h => by rw [hq] at h; cases h) (fun _ => p_und9a s0 hq)⟩
theorem und_nxb (s0 : Sto) (h0 : OKA s0 40) (_ : 0 < s0.V.length) : br ((s0.V.length : Int) != (s0.V.length : Int)) (TV.Le (cb false) (cb true) ∧ ([] : List AObj) = []) (RPt Try.prog 3 0 (cb true) [] 9 ⟨[(5, cb true), (8, aS 0), (10, .c (.a (.osl 3 6 0 s0.V.length))), (15, ci 0)], [(0, sto2 1 2 s0), (1, .arz 6 (SR s0.V)), (2, .arz 1 (IR s0.T)), (3, .arz 6 (SR s0.V))], 4⟩) :=
  br_of (fun h => by simp at h) (fun _ => p_und9b s0 h0 (by omega) s0.V.length 0 (by omega))
theorem p_und5a (l : List I3T) (hl : ∀ v ∈ l, v.2.1.sz ≤ 30 ∧ bd 1099511627776 v.2.1) (hk : ∀ v ∈ l, v.2.1.bk ≤ B) (h40 : l.length ≤ 40) (s0 : Sto) (h0 : OKA s0 40) (hq : s0.V.length = 0) :
    ∀ (n i : Nat) (u : Sto), i + n = l.length → OKA u (40 + i) → Ext s0 u → RPt Try.prog 3 0 (cb true) [] 5 ⟨[(1, aV7 l), (5, cb true), (8, aS 0), (9, .c (.a (.ep 3 2 0 0))), (10, .c (.a (.fz .nils))), (14, ci (i : Int))], hpU u s0.T.length s0.V.length, 4⟩
  | 0, i, u, hi, ha, hx => by
    obtain ⟨c1, c2, c3⟩ := hx.cut h0.tr
    have hV := ha.V
    have hT := ha.T
    have hU := c_sundo u s0.T.length s0.V.length c1 (by omega) c2 ha.tr c3
    rw [hx.undo] at hU
    have hM := c_smark s0
    have hL := c_slen s0
    have nx := und_nxa s0 h0 hq
    refine RPt.vc hP sh lv3 (Eq.mpr (v3_5a ..) ?_)
    refine ⟨rfl, br_of (fun h => ?_) (fun _ => ?_)⟩
    · have h := of_decide_eq_true h
      rw [List.length_map] at h; omega
    · refine ⟨s0, hU, _, _, hM, br_of (fun h => by simp at h) (fun _ => ⟨_, hL, nx⟩)⟩
  | n + 1, i, u, hi, ha, hx => by
    have hlt : i < l.length := by omega
    have hm := List.getElem_mem hlt
    have hz := hl _ hm
    have hmk := hk _ hm
    have hg := FI3T_get hlt
    have next := p_und5a l hl hk h40 s0 h0 hq n (i + 1)
    have act := ha.act hz.1 hz.2 hmk
    have ext := hx.act ha.wf l[i]
    refine RPt.vc hP sh lv3 (Eq.mpr (v3_5a ..) ?_)
    refine ⟨rfl, br_of (fun _ => ?_) (fun h => ?_)⟩
    · rw [Int.toNat_natCast, List.length_map, hg, w64 (x := (i : Int) + 1) (by omega) (by omega)]
      generalize l[i] = e at *
      have hV := ha.V
      have hT := ha.T
      have hf := c_sfresh u e.1.1.2.1 (by omega)
      have hb := c_sbind u e.1.1.2.1 e.2.1 (by omega) (by have := Tm.sz_bk e.2.1; omega) (bd_le (by simp only [M61]; omega) _ hz.2)
      obtain ⟨⟨⟨a1, a2, a3⟩, aI⟩, ⟨⟨ek, es, en, el⟩, eI⟩⟩ := e
      have op : rI3 l i (⟨(a1, a2, a3), aI⟩, ⟨.mk ek es en el, eI⟩) := ⟨rfl, by omega, by omega, rfl⟩
      refine ⟨op, ⟨rfl, by omega⟩, br_of (fun h => ?_) (fun h => ?_)⟩
      · have ea : actS u (⟨(a1, a2, a3), aI⟩, ⟨.mk ek es en el, eI⟩) = freshS u a2 := if_pos h
        rw [ea] at act ext
        exact ⟨op, (_, freshS u a2), hf, next (freshS u a2) (by omega) act ext⟩
      · have ea : actS u (⟨(a1, a2, a3), aI⟩, ⟨.mk ek es en el, eI⟩) = bindS u a2 (.mk ek es en el) := if_neg (fun q => by rw [show (a1.tmod 2 == 0) = false from h] at q; cases q)
        rw [ea] at act ext
        exact ⟨op, op, (_, bindS u a2 (.mk ek es en el)), hb, next (bindS u a2 (.mk ek es en el)) (by omega) act ext⟩
    · have h := of_decide_eq_false h
      rw [List.length_map] at h; omega
theorem p_und5b (l : List I3T) (hl : ∀ v ∈ l, v.2.1.sz ≤ 30 ∧ bd 1099511627776 v.2.1) (hk : ∀ v ∈ l, v.2.1.bk ≤ B) (h40 : l.length ≤ 40) (s0 : Sto) (h0 : OKA s0 40) (hq : 0 < s0.V.length) :
    ∀ (n i : Nat) (u : Sto), i + n = l.length → OKA u (40 + i) → Ext s0 u → RPt Try.prog 3 0 (cb true) [] 5 ⟨[(1, aV7 l), (5, cb true), (8, aS 0), (9, .c (.a (.ep 3 2 0 0))), (10, .c (.a (.osl 4 6 0 s0.V.length))), (14, ci (i : Int))], hpU u s0.T.length s0.V.length ++ [(4, .arz 6 (SR s0.V))], 5⟩
  | 0, i, u, hi, ha, hx => by
    obtain ⟨c1, c2, c3⟩ := hx.cut h0.tr
    have hV := ha.V
    have hT := ha.T
    have hU := c_sundo u s0.T.length s0.V.length c1 (by omega) c2 ha.tr c3
    rw [hx.undo] at hU
    have hM := c_smark s0
    have hL := c_slen s0
    have nx := und_nxb s0 h0 hq
    refine RPt.vc hP sh lv3 (Eq.mpr (v3_5b ..) ?_)
    refine ⟨rfl, br_of (fun h => ?_) (fun _ => ?_)⟩
    · have h := of_decide_eq_true h
      rw [List.length_map] at h; omega
    · refine ⟨s0, hU, _, _, hM, br_of (fun h => by simp at h) (fun _ => ⟨_, hL, nx⟩)⟩
  | n + 1, i, u, hi, ha, hx => by
    have hlt : i < l.length := by omega
    have hm := List.getElem_mem hlt
    have hz := hl _ hm
    have hmk := hk _ hm
    have hg := FI3T_get hlt
    have next := p_und5b l hl hk h40 s0 h0 hq n (i + 1)
    have act := ha.act hz.1 hz.2 hmk
    have ext := hx.act ha.wf l[i]
    refine RPt.vc hP sh lv3 (Eq.mpr (v3_5b ..) ?_)
    refine ⟨rfl, br_of (fun _ => ?_) (fun h => ?_)⟩
    · rw [Int.toNat_natCast, List.length_map, hg, w64 (x := (i : Int) + 1) (by omega) (by omega)]
      generalize l[i] = e at *
      have hV := ha.V
      have hT := ha.T
      have hf := c_sfresh u e.1.1.2.1 (by omega)
      have hb := c_sbind u e.1.1.2.1 e.2.1 (by omega) (by have := Tm.sz_bk e.2.1; omega) (bd_le (by simp only [M61]; omega) _ hz.2)
      obtain ⟨⟨⟨a1, a2, a3⟩, aI⟩, ⟨⟨ek, es, en, el⟩, eI⟩⟩ := e
      have op : rI3 l i (⟨(a1, a2, a3), aI⟩, ⟨.mk ek es en el, eI⟩) := ⟨rfl, by omega, by omega, rfl⟩
      refine ⟨op, ⟨rfl, by omega⟩, br_of (fun h => ?_) (fun h => ?_)⟩
      · have ea : actS u (⟨(a1, a2, a3), aI⟩, ⟨.mk ek es en el, eI⟩) = freshS u a2 := if_pos h
        rw [ea] at act ext
        exact ⟨op, (_, freshS u a2), hf, next (freshS u a2) (by omega) act ext⟩
      · have ea : actS u (⟨(a1, a2, a3), aI⟩, ⟨.mk ek es en el, eI⟩) = bindS u a2 (.mk ek es en el) := if_neg (fun q => by rw [show (a1.tmod 2 == 0) = false from h] at q; cases q)
        rw [ea] at act ext
        exact ⟨op, op, (_, bindS u a2 (.mk ek es en el)), hb, next (bindS u a2 (.mk ek es en el)) (by omega) act ext⟩
    · have h := of_decide_eq_false h
      rw [List.length_map] at h; omega

end Go.AM

set_option maxRecDepth 100000
open Go Go.Proofs
namespace Go.AM

/-! ### The document's example -/
abbrev vx1 (n : Int) : Tm := .mk 4 [] n []
abbrev w15S : Sto := freshS (freshS sNil 0) 0
abbrev w15B : Sto := bindS w15S 0 (.mk 6 [] 0 [exF, vx1 1])
abbrev exG : Tm := .mk 0 [103] 0 []
theorem okS2 : OKA w15S 2 := (OKA.nil.fresh 0).fresh 0
theorem okB2 : OKA w15B 3 := okS2.bind (by decide) (near_bd _ (by decide)) (by simp only [B]; decide)
theorem full_is {s : Sto} {f : Int} {t u : Tm} {n : Int} (h : sameB (FullV s f t).1 u = true) (h2 : (FullV s f t).2 = (n, 0)) : FullV s f t = (u, n, 0) := by
  exact Prod.ext ((sameB_iff _ _).1 h) h2
theorem c_works15 : AC Try.prog 13 [] [] (cb true) [] := by
  have f1 : Fit (9 : Int).toNat (.mk 6 [] 0 [exG, vx1 0]) := fit_of (by decide +kernel)
  have hb := c_sbind w15S 0 (.mk 6 [] 0 [exF, vx1 1]) (by decide) (by decide) (near_bd _ (by decide))
  have hF := c_sFull w15B okB2.ok 9 (.mk 6 [] 0 [exG, vx1 0]) (by omega) (by decide) (fun _ => f1)
  have eF : FullV w15B 9 (.mk 6 [] 0 [exG, vx1 0]) = (.mk 6 [] 0 [exG, .mk 6 [] 0 [exF, vx1 1]], 5, 0) := full_is (by decide +kernel) (by decide +kernel)
  have hG := c_sFull w15S okS2.ok 9 (.mk 6 [] 0 [exG, vx1 0]) (by omega) (by decide) (fun _ => f1)
  have eG : FullV w15S 9 (.mk 6 [] 0 [exG, vx1 0]) = (.mk 6 [] 0 [exG, vx1 0], 7, 0) := full_is (by decide +kernel) (by decide +kernel)
  have hx : Ext w15S w15B := (Ext.refl w15S).bind okS2.wf 0 _
  obtain ⟨c1, c2, c3⟩ := hx.cut okS2.tr
  have hU := c_sundo w15B w15S.T.length w15S.V.length c1 (by decide) c2 okB2.tr c3
  rw [hx.undo] at hU
  rw [eF] at hF
  rw [eG] at hG
  have ap := fun (f a : Tm) (h : f.l.length + [a].length < 2199023255552) => c_apply f [a] h
  have eb : bindE w15S 0 (.mk 6 [] 0 [exF, vx1 1]) = 0 := by decide
  rw [eb] at hb
  refine AC.vc hP sh lv13 (Nat.le_refl _) (by simp) (by simp) (Eq.mpr (v13 ..) ?_)
  refine ⟨(), c_snew, (0, freshS sNil 0), c_sfresh sNil 0 (by decide), (1, w15S), c_sfresh (freshS sNil 0) 0 (by decide), _, _, c_smark w15S, ⟨rfl, by omega⟩,
    .mk 6 [] 0 [exF, vx1 1], (ap exF (vx1 1) (by decide)).args ⟨e0, args1 (leFT (l := []) leNil), trivial⟩, (0, w15B), hb, ⟨rfl, by omega⟩,
    .mk 6 [] 0 [exG, vx1 0], (ap exG (vx1 0) (by decide)).args ⟨e0, args1 (leFT (l := []) leNil), trivial⟩, (_, _, _), hF, ⟨rfl, by omega⟩,
    .mk 6 [] 0 [exF, vx1 1], (ap exF (vx1 1) (by decide)).args ⟨e0, args1 (leFT (l := []) leNil), trivial⟩, ⟨rfl, by omega⟩,
    .mk 6 [] 0 [exG, .mk 6 [] 0 [exF, vx1 1]], (ap exG (.mk 6 [] 0 [exF, vx1 1]) (by decide)).args ⟨e0, args1 (LeR.refl _), trivial⟩, _, same_is (by decide) rfl, w15S, hU, ⟨rfl, by omega⟩,
    .mk 6 [] 0 [exG, vx1 0], (ap exG (vx1 0) (by decide)).args ⟨e0, args1 (leFT (l := []) leNil), trivial⟩, (_, _, _), hG, ⟨rfl, by omega⟩,
    .mk 6 [] 0 [exG, vx1 0], (ap exG (vx1 0) (by decide)).args ⟨e0, args1 (leFT (l := []) leNil), trivial⟩, _, same_is (by decide) rfl, ?_⟩
  exact br_of (fun _ => br_of (fun _ => br_of (fun _ => br_of (fun _ => br_of (fun _ => br_of (fun _ => br_of (fun _ => br_of (fun _ => br_of (fun _ => ⟨_, c_slen w15S, ret_b (by decide)⟩) (fun h => absurd h (by decide))) (fun h => absurd h (by decide))) (fun h => absurd h (by decide))) (fun h => absurd h (by decide))) (fun h => absurd h (by decide))) (fun h => absurd h (by decide))) (fun h => absurd h (by decide))) (fun h => absurd h (by decide))) (fun h => absurd h (by decide))
/-! ### The law: what is undone is as it was -/
theorem SR_take_succ {V : List Inf} {i : Nat} (h : i < V.length) : List.take i (SR (V.take i)) ++ [Inf.c V[i]] = SR (V.take (i + 1)) := by
  rw [List.take_of_length_le (by rw [SR_length, List.length_take]; omega), List.take_succ_eq_append_getElem h, SR_append]; rfl
theorem p_und1b (later : List I3T) (hl : ∀ v ∈ later, v.2.1.sz ≤ 30 ∧ bd 1099511627776 v.2.1) (hk : ∀ v ∈ later, v.2.1.bk ≤ B) (h40 : later.length ≤ 40) (u : Sto) (hu : OKA u 40) :
    ∀ (n i : Nat), i + n = u.V.length → 1 ≤ i → RPt Try.prog 3 0 (cb true) [] 1 ⟨[(1, aV7 later), (5, cb true), (8, aS 0), (9, .c (.a (.ep 3 2 0 0))), (10, .c (.a (.osl 4 6 0 i))), (11, ci (i : Int))], hpU u u.T.length u.V.length ++ [(4, .arz 6 (SR (u.V.take i)))], 5⟩
  | 0, i, hi, h1 => by
    have hL := c_slen u
    have nx := p_und5b later hl hk h40 u hu (by omega) later.length 0 u (by omega) hu (Ext.refl u)
    have hi : i = u.V.length := hi
    subst hi
    rw [List.take_of_length_le (Nat.le_refl _)]
    refine RPt.vc hP sh lv3 (Eq.mpr (v3_1b ..) ?_)
    exact ⟨_, hL, br_of (fun h => absurd (of_decide_eq_true h) (by omega)) (fun _ => nx)⟩
  | n + 1, i, hi, h1 => by
    have hlt : i < u.V.length := by omega
    have hV := hu.V
    have hL := c_slen u
    have hc := c_sinfo u (i : Int)
    rw [(info_at u hlt).1, (info_at u hlt).2] at hc
    have next := p_und1b later hl hk h40 u hu n (i + 1) (by omega) (by omega)
    have es := SR_take_succ hlt
    have el : (SR (u.V.take i)).length = i := by rw [SR_length, List.length_take]; omega
    rw [← es] at next
    refine RPt.vc hP sh lv3 (Eq.mpr (v3_1b ..) ?_)
    rw [w64 (x := (i : Int) + 1) (by omega) (by omega)]
    generalize u.V[i] = v at *
    obtain ⟨lv, bd, ⟨k, s, m, l⟩⟩ := v
    exact ⟨_, hL, br_of (fun _ => ⟨(lv, bd, .mk k s m l, true), hc, by omega, ⟨by omega, by unfold roomB; omega⟩, next⟩) (fun h => absurd (of_decide_eq_false h) (by omega))⟩
theorem p_und1a (later : List I3T) (hl : ∀ v ∈ later, v.2.1.sz ≤ 30 ∧ bd 1099511627776 v.2.1) (hk : ∀ v ∈ later, v.2.1.bk ≤ B) (h40 : later.length ≤ 40) (u : Sto) (hu : OKA u 40) :
    RPt Try.prog 3 0 (cb true) [] 1 ⟨[(1, aV7 later), (5, cb true), (8, aS 0), (9, .c (.a (.ep 3 2 0 0))), (10, .c (.a (.fz .nils))), (11, ci 0)], hpU u u.T.length u.V.length, 4⟩ := by
  have hL := c_slen u
  have hc := c_sinfo u 0
  have nxa := fun h => p_und5a later hl hk h40 u hu h later.length 0 u (by omega) hu (Ext.refl u)
  have nxb := fun (n : Nat) h => p_und1b later hl hk h40 u hu n 1 h (Nat.le_refl _)
  refine RPt.vc hP sh lv3 (Eq.mpr (v3_1a ..) ?_)
  refine ⟨_, hL, br_of (fun h => ?_) (fun h => nxa (by have := of_decide_eq_false h; omega))⟩
  have h := of_decide_eq_true h
  have hlt : 0 < u.V.length := by omega
  have nx := nxb (u.V.length - 1) (by omega)
  have es := SR_take_succ hlt
  rw [show List.take 0 (SR (u.V.take 0)) ++ [Inf.c u.V[0]] = [Inf.c u.V[0]] from rfl] at es
  rw [← es] at nx
  have e1 := info_at u hlt
  rw [show ((0 : Nat) : Int) = 0 from rfl] at e1
  rw [e1.1, e1.2] at hc
  rw [w64 (x := (0 : Int) + 1) (by omega) (by omega)]
  generalize u.V[0] = v at *
  obtain ⟨lv, bd, ⟨k, s, m, l⟩⟩ := v
  exact ⟨(lv, bd, .mk k s m l, true), hc, by omega, by unfold roomB; omega, nx⟩
theorem c_storeundoes (l later : List I3T) (hk1 : ∀ v ∈ l, v.2.1.bk ≤ B) (hk2 : ∀ v ∈ later, v.2.1.bk ≤ B) : AC Try.prog 3 [aV7 l, aV7 later] [] (cb true) [] := by
  have o1 := c_over15 l hk1
  have o2 := c_over15 later hk2
  refine AC.vc hP sh lv3 (Nat.le_refl _) (by simp) (by simp) (Eq.mpr (v3 ..) ?_)
  refine ⟨_, c_works15, br_of (fun h => by cases h) (fun _ => ⟨_, o1, _, o2, br_of (fun _ => ret_b rfl) (fun e1 => br_of (fun _ => ret_b rfl) (fun e2 => ?_))⟩)⟩
  obtain ⟨a1, a2⟩ := over_no e1
  obtain ⟨b1, b2⟩ := over_no e2
  have hu : OKA (laidV sNil l) 40 := (OKA.acts OKA.nil a2 hk1).more (by omega)
  exact ⟨_, c_laid15 l a2 hk1 a1, _, _, c_smark _, p_und1a later b2 hk2 b1 (laidV sNil l) hu⟩

end Go.AM

set_option maxRecDepth 100000
open Go Go.Proofs
namespace Go.AM

/-! ### More fuel -/
theorem runH_more2 (s : Sto) : ∀ (F : Nat) (t : Tm) (d : Nat), (runH s F t).2.1 = 0 → runH s (F + d) t = runH s F t
  | 0, t, d, h => by
    have h0 : (stepS s t).2 = 0 := by
      by_cases q : (stepS s t).2 = 0
      · exact q
      · rw [runH, if_neg q] at h; cases h
    have e : ∀ F, runH s F t = (t, 0, 0) := fun F => by
      cases F with
      | zero => rw [runH, if_pos h0]
      | succ F => rw [runH, if_pos h0]
    rw [e, e]
  | F + 1, t, d, h => by
    rw [show F + 1 + d = (F + d) + 1 by omega]
    rw [runH] at h
    rw [runH, runH]
    split
    · rfl
    · rename_i q
      rw [if_neg q] at h
      split
      · rfl
      · rename_i q2
        rw [if_neg q2] at h
        rw [runH_more2 s F _ d h]
theorem kidsF_same {fu fu' : Int → Tm → Tm × Int × Int} (hfu : ∀ g t, 0 ≤ g → 0 ≤ (fu g t).2.2 ∧ (fu g t).2.2 ≤ g) : ∀ (l : List Tm) (sk : Bool) (g : Int), 0 ≤ g → (∀ t, ∀ g' : Int, 0 ≤ g' → g' ≤ g → fu g' t = fu' g' t) → kidsF fu sk l g = kidsF fu' sk l g
  | [], _, _, _, _ => by simp only [kidsF]
  | t :: l, true, g, hg, h => by rw [kidsF, kidsF, kidsF_same hfu l false g hg h]
  | t :: l, false, g, hg, h => by
    have h1 := hfu g t hg
    rw [kidsF, kidsF, ← h t g hg (Int.le_refl _)]
    split
    · rfl
    · rw [kidsF_same hfu l false (fu g t).2.2 h1.1 fun t g' a b => h t g' a (by omega)]
theorem fullF_same (s : Sto) : ∀ (D D' : Nat) (f : Int) (t : Tm), f.toNat ≤ D → f.toNat ≤ D' → fullF s D f t = fullF s D' f t
  | 0, D', f, t, h, _ => by rw [fullF_neg s _ t (by omega), fullF_neg s _ t (by omega)]
  | D + 1, 0, f, t, _, h => by rw [fullF_neg s _ t (by omega), fullF_neg s _ t (by omega)]
  | D + 1, D' + 1, f, t, h, h' => by
    rw [fullF, fullF]
    split
    · rfl
    · have h1 := runH_le s (f - 1).toNat t
      have h2 : 0 ≤ (headP s (f - 1) t).2.2 ∧ (headP s (f - 1) t).2.2 ≤ f - 1 := by simp only [headP]; omega
      unfold fullK
      split
      · rfl
      · rw [kidsF_same (fullF_left s D) _ _ _ h2.1 fun t g a b => fullF_same s D D' g t (by omega) (by omega)]
theorem kidsF_more {fu fu' : Int → Tm → Tm × Int × Int} {d : Int} (hfu : ∀ g t, 0 ≤ g → 0 ≤ (fu g t).2.2 ∧ (fu g t).2.2 ≤ g) : ∀ (l : List Tm) (sk : Bool) (g : Int), 0 ≤ g →
    (∀ t, ∀ g' : Int, 0 ≤ g' → g' ≤ g → (fu g' t).2.1 = 0 → fu' (g' + d) t = ((fu g' t).1, 0, (fu g' t).2.2 + d)) → (kidsF fu sk l g).2.1 = 0 → kidsF fu' sk l (g + d) = ((kidsF fu sk l g).1, 0, (kidsF fu sk l g).2.2 + d)
  | [], _, _, _, _, _ => by simp only [kidsF]
  | t :: l, true, g, hg, h, h0 => by
    have h0 : (kidsF fu false l g).2.1 = 0 := h0
    rw [kidsF, kidsF, kidsF_more hfu l false g hg h h0]
  | t :: l, false, g, hg, h, h0 => by
    have h1 := hfu g t hg
    have eK : kidsF fu false (t :: l) g = if (fu g t).2.1 ≠ 0 then ([], (fu g t).2) else ((fu g t).1 :: (kidsF fu false l (fu g t).2.2).1, (kidsF fu false l (fu g t).2.2).2) := rfl
    rw [eK] at h0 ⊢
    by_cases q : (fu g t).2.1 ≠ 0
    · rw [if_pos q] at h0; exact absurd h0 q
    · rw [if_neg q] at h0 ⊢
      have q : (fu g t).2.1 = 0 := by simpa using q
      have h2 := h t g hg (Int.le_refl _) q
      have h3 := kidsF_more hfu l false (fu g t).2.2 h1.1 (fun t g' a b => h t g' a (by omega)) h0
      rw [kidsF, h2]
      simp only [ne_eq, not_true_eq_false, if_false]
      rw [h3]
theorem fullF_more (s : Sto) (d : Nat) : ∀ (D D' : Nat) (f : Int) (t : Tm), f.toNat ≤ D → (f + d).toNat ≤ D' → (fullF s D f t).2.1 = 0 → fullF s D' (f + d) t = ((fullF s D f t).1, 0, (fullF s D f t).2.2 + d)
  | 0, D', f, t, h, _, h0 => by rw [fullF_neg s _ t (by omega)] at h0; cases h0
  | D + 1, 0, f, t, _, h, h0 => by rw [fullF_neg s _ t (by omega)] at h0; cases h0
  | D + 1, D' + 1, f, t, h, h', h0 => by
    have hf0 : ¬ f ≤ 0 := fun q => by rw [fullF_neg s _ t q] at h0; cases h0
    have h1 := runH_le s (f - 1).toNat t
    have eA : fullF s (D + 1) f t = fullK (fullF s D) (headP s (f - 1) t) := by rw [fullF, if_neg hf0]
    have eB : fullF s (D' + 1) (f + d) t = fullK (fullF s D') (headP s (f + d - 1) t) := by rw [fullF, if_neg (by omega)]
    rw [eA] at h0 ⊢
    rw [eB]
    have h2 : 0 ≤ (headP s (f - 1) t).2.2 ∧ (headP s (f - 1) t).2.2 ≤ f - 1 := by simp only [headP]; omega
    have hp : (headP s (f - 1) t).2.1 = 0 → headP s (f + d - 1) t = ((headP s (f - 1) t).1, 0, (headP s (f - 1) t).2.2 + d) := fun e => by
      have e : (runH s (f - 1).toNat t).2.1 = 0 := e
      have := runH_more2 s (f - 1).toNat t d e
      unfold headP
      rw [show (f + d - 1).toNat = (f - 1).toNat + d by omega, this, e]
      exact Prod.ext rfl (Prod.ext rfl (by simp only; omega))
    generalize headP s (f - 1) t = q at *
    obtain ⟨x, er, g⟩ := q
    simp only at hp h2 h0
    unfold fullK at h0 ⊢
    simp only at h0 ⊢
    by_cases he : er = 0
    · subst he
      rw [hp rfl]
      simp only [ne_eq, not_true_eq_false, if_false] at h0 ⊢
      unfold fullN at h0 ⊢
      by_cases q3 : (kidsF (fullF s D) (x.k == 6) x.l g).2.1 = 0
      · have hk := kidsF_more (d := d) (fu' := fullF s D') (fullF_left s D) x.l (x.k == 6) g h2.1 (fun t g' a b c => fullF_more s d D D' g' t (by omega) (by omega) c) q3
        rw [hk, if_neg (by simp), if_neg (by rw [q3]; simp)]
      · rw [if_pos q3] at h0; exact absurd h0 q3
    · rw [if_pos he] at h0; exact absurd h0 he
theorem FullV_more {s : Sto} {f : Int} {t : Tm} (d : Nat) (h : (FullV s f t).2.2 = 0) : FullV s (f + d) t = ((FullV s f t).1, (FullV s f t).2.1 + d, 0) := by
  unfold FullV at h ⊢
  by_cases hv : validB t = true
  · rw [if_pos hv] at h ⊢
    rw [if_pos hv]
    by_cases he : (fullF s f.toNat f t).2.1 = 0
    · rw [fullF_more s d f.toNat (f + d).toNat f t (Nat.le_refl _) (Nat.le_refl _) he, if_pos rfl, if_pos he]
    · rw [if_neg he] at h; exact absurd h he
  · rw [if_neg hv] at h; cases h
/-! ### What is bound stands for its term -/
theorem runH_var {s : Sto} {x : Int} {t : Tm} (h : stepS s (.mk 4 [] x []) = (t, 1)) (F : Nat) : runH s (F + 1) (.mk 4 [] x []) = ((runH s F t).1, (runH s F t).2.1, (runH s F t).2.2 + 1) := by
  rw [runH, h, if_neg (show ¬ (1 : Int) = 0 by decide), if_neg (show ¬ (1 : Int) = 2 by decide)]
theorem fullF_var {s : Sto} {x : Int} {t : Tm} (h : stepS s (.mk 4 [] x []) = (t, 1)) (f : Int) (hf : (fullF s f.toNat f (.mk 4 [] x [])).2.1 = 0) : fullF s f.toNat f (.mk 4 [] x []) = fullF s (f - 1).toNat (f - 1) t := by
  have hf0 : ¬ f ≤ 0 := fun q => by rw [fullF_neg s _ _ q] at hf; cases hf
  obtain ⟨D, hD⟩ : ∃ D, f.toNat = D + 1 := ⟨f.toNat - 1, by omega⟩
  rw [hD, fullF, if_neg hf0] at hf ⊢
  by_cases h1 : f - 1 ≤ 0
  · exfalso
    have e : headP s (f - 1) (.mk 4 [] x []) = (noT, 80, f - 1 - ((0 : Nat) : Int)) := by
      unfold headP
      rw [show (f - 1).toNat = 0 by omega, runH, h, if_neg (show ¬ (1 : Int) = 0 by decide)]
    rw [e, fullK, if_pos (show (80 : Int) ≠ 0 by decide)] at hf
    cases hf
  · obtain ⟨D2, hD2⟩ : ∃ D2, (f - 1).toNat = D2 + 1 := ⟨(f - 1).toNat - 1, by omega⟩
    have e : headP s (f - 1) (.mk 4 [] x []) = headP s (f - 1 - 1) t := by
      unfold headP
      rw [hD2, runH_var h, show (f - 1 - 1).toNat = D2 by omega]
      exact Prod.ext rfl (Prod.ext rfl (by simp only; omega))
    rw [e, hD2, fullF, if_neg h1]
    have h5 := runH_le s (f - 1 - 1).toNat t
    have h2 : 0 ≤ (headP s (f - 1 - 1) t).2.2 ∧ (headP s (f - 1 - 1) t).2.2 ≤ f - 1 - 1 := by simp only [headP]; omega
    unfold fullK
    split
    · rfl
    · rw [kidsF_same (fullF_left s D) _ _ _ h2.1 fun t g a b => fullF_same s D D2 g t (by omega) (by omega)]
theorem bound_info {s : Sto} {x : Int} {t : Tm} (h : bindB s x t = true) : infOf (bindS s x t).V x = ⟨(infOf s.V x).lv, true, t⟩ ∧ inB (bindS s x t).V x = true := by
  have hx := bindB_in h
  have hl := bindV_length s x t
  obtain ⟨h1, e1⟩ := infOf_in (V := (bindS s x t).V) (x := x) hx.1 (by rw [hl]; exact hx.2)
  refine ⟨?_, inB_of hx.1 (by rw [hl]; exact hx.2)⟩
  rw [e1]
  have e2 : (bindS s x t).V = s.V.set x.toNat ⟨(infOf s.V x).lv, true, t⟩ := by rw [(bind_yes h).1]
  have : (bindS s x t).V[x.toNat]? = some ⟨(infOf s.V x).lv, true, t⟩ := by rw [e2, List.getElem?_set_self (by omega)]
  rw [List.getElem?_eq_getElem h1] at this
  injection this
theorem bound_step {s : Sto} {x : Int} {t : Tm} (h : bindB s x t = true) : stepS (bindS s x t) (.mk 4 [] x []) = (t, 1) := by
  have hi := (bound_info h).1
  have e : valB (bindS s x t) (.mk 4 [] x []) = true := by
    show ((4 : Int) == 4 && (infOf (bindS s x t).V x).bd) = true
    rw [hi]; rfl
  have e2 : valS (bindS s x t) (.mk 4 [] x []) = t := by
    show (infOf (bindS s x t).V x).v = t
    rw [hi]
  rw [stepS, if_pos e, e2]
theorem info_sz {s : Sto} {n : Nat} (h : OKA s n) (x : Int) : (infOf s.V x).v.sz ≤ B := by
  by_cases q : 0 ≤ x ∧ x < (s.V.length : Int)
  · obtain ⟨hl, e⟩ := infOf_in q.1 q.2
    rw [e]; exact val_sz h hl
  · rw [infOf_out q]; simp only [Tm.sz, Tm.szs, B]; omega
theorem loose_pos (t : Tm) : 0 ≤ looseF t 0 0 := by
  rw [loose_acc t 0 0 (Int.le_refl _)]
  unfold maxI; split <;> omega
/-! ### The law: what is bound stands for its term -/
abbrev hpB (t : Tm) (u : Sto) (a b : Inf) : AHeap := [(0, .arr 4 [cT t]), (1, sto2 2 3 u), (2, .arz 6 (SR u.V)), (3, .arz 1 (IR u.T)), (4, .arr 6 [fzs (Inf.c a)]), (5, .arr 6 [fzs (Inf.c b)])]
abbrev evB (x f mo e : Int) : Env := [(1, ci x), (3, ci f), (4, ci mo), (7, .c (.a (.ep 0 4 0 0))), (11, cb true), (15, .c (.a (.ep 1 2 0 0))), (16, .c (.a (.ep 4 6 0 0))), (19, ci e), (20, .c (.a (.ep 5 6 0 0)))]
theorem p_bnd32n (t : Tm) (u : Sto) (i : Inf) (x f mo : Int) (hz : i.v.sz ≤ B) : RPt Try.prog 5 0 (cb true) [] 32 ⟨evB x f mo 1, hpB t u i i, 6⟩ := by
  have hs := c_sameinf i i hz rfl
  obtain ⟨lv, bd, ⟨k, s, n, l⟩⟩ := i
  obtain ⟨tk, ts, tn, tl⟩ := t
  refine RPt.vc hP sh lv5 (Eq.mpr (v5_32a x f mo true 1 tk ts tn (FTs tl) u.V.length u.T.length (SR u.V) (IR u.T) lv bd k s n (FTs l) lv bd k s n (FTs l) _ _) ?_)
  exact br_of (fun _ => ⟨_, hs, br_of (fun _ => br_of (fun _ => ret_b rfl) (fun h => by cases h)) (fun h => by cases h)⟩) (fun h => by cases h)
theorem p_bnd32y (t : Tm) (s : Sto) (x f mo : Int) (lv : Int) (w : Inf) (hw : w.lv = lv) {N : Nat} (hu : OKA (bindS s x t) N) (hb : bindB s x t = true) (hz : t.sz ≤ 30) (hbd : bd 1099511627776 t)
    (hf : f ≤ 60) (hf0 : 0 - 60 ≤ f) (hm : mo ≤ 60) (hm0 : 0 ≤ mo) (hx : x ≤ 4611686018427387904) : RPt Try.prog 5 0 (cb true) [] 32 ⟨evB x f mo 0, hpB t (bindS s x t) w ⟨lv, true, t⟩, 6⟩ := by
  have fit : ∀ g : Int, g ≤ 120 → Fit g.toNat t := fun g hg => ⟨valid_ok _ (by simp only [bindB, Bool.and_eq_true] at hb; exact hb.2.2.1), by simp only [SZ]; omega, bd_le (by simp only [M61, SZ]; omega) _ hbd, by omega⟩
  have hx0 := bindB_in hb
  have vv : validB (.mk 4 [] x []) = true := by rw [validB, decide_eq_true (show x ≥ 0 from hx0.1), decide_eq_true (show x ≤ 4611686018427387904 from hx)]; rfl
  have fv : Fit f.toNat (.mk 4 [] x []) := ⟨rfl, by simp only [Tm.sz, Tm.szs, SZ]; omega, ⟨fun e => (by cases e), trivial⟩, by omega⟩
  have h1 := c_sFull (bindS s x t) hu.ok f (.mk 4 [] x []) (by omega) (by simp only [Tm.sz, Tm.szs, B]; omega) (fun _ => fv)
  have h2 := c_sFull (bindS s x t) hu.ok (f - 1) t (by omega) (by simp only [B]; omega) (fun _ => fit _ (by omega))
  have h3 := c_sFull (bindS s x t) hu.ok (f - 1 + mo) t (by omega) (by simp only [B]; omega) (fun _ => fit _ (by omega))
  have hsame := same_is (x := t) (y := t) (by simp only [B]; omega) rfl
  have hvt : validB t = true := by simp only [bindB, Bool.and_eq_true] at hb; exact hb.2.2.1
  have key : (FullV (bindS s x t) f (.mk 4 [] x [])).2.2 = 0 → FullV (bindS s x t) (f - 1) t = FullV (bindS s x t) f (.mk 4 [] x []) := fun h => by
    unfold FullV at h ⊢
    rw [if_pos vv] at h ⊢
    rw [if_pos hvt]
    by_cases q : (fullF (bindS s x t) f.toNat f (.mk 4 [] x [])).2.1 = 0
    · rw [fullF_var (bound_step hb) f q]
    · rw [if_neg q] at h; exact absurd h q
  have more : (FullV (bindS s x t) (f - 1) t).2.2 = 0 → FullV (bindS s x t) (f - 1 + mo) t = ((FullV (bindS s x t) (f - 1) t).1, (FullV (bindS s x t) (f - 1) t).2.1 + mo, 0) := fun h => by
    have := FullV_more mo.toNat h
    rw [show ((mo.toNat : Nat) : Int) = mo by omega] at this
    exact this
  have hsz : (FullV (bindS s x t) (f - 1) t).1.sz ≤ B ∧ 0 - 200 ≤ (FullV (bindS s x t) (f - 1) t).2.1 ∧ (FullV (bindS s x t) (f - 1) t).2.1 ≤ 200 := by
    unfold FullV
    rw [if_pos hvt]
    split
    · rename_i q
      have g0 : 0 ≤ f - 1 := by
        rcases Int.le_total 0 (f - 1) with q' | q'
        · exact q'
        · rw [fullF_neg _ _ t q'] at q; cases q
      have ok := fullF_ok hu.ok (f - 1).toNat (f - 1) t (Nat.le_refl _) g0 hvt (fit _ (by omega)) q
      have lf := fullF_left (bindS s x t) (f - 1).toNat (f - 1) t g0
      have so := shortF_ok _ (valid_ok _ ok.1.1)
      have so3 := so.2.2.1
      refine ⟨?_, by simp only; omega, by simp only; omega⟩
      simp only [B]; omega
    · exact ⟨by simp only [Tm.sz, Tm.szs, B]; omega, by simp only; omega, by simp only; omega⟩
  subst hw
  generalize FullV (bindS s x t) f (.mk 4 [] x []) = A at *
  generalize FullV (bindS s x t) (f - 1) t = Bv at *
  generalize FullV (bindS s x t) (f - 1 + mo) t = C at *
  generalize bindS s x t = u at *
  obtain ⟨wl, wb, ⟨wk, ws, wn, wll⟩⟩ := w
  obtain ⟨tk, ts, tn, tl⟩ := t
  refine RPt.vc hP sh lv5 (Eq.mpr (v5_32a x f mo true 0 tk ts tn (FTs tl) u.V.length u.T.length (SR u.V) (IR u.T) wl wb wk ws wn (FTs wll) wl true tk ts tn (FTs tl) _ _) ?_)
  rw [w64 (x := f - 1) (by omega) (by omega), w64 (x := f - 1 + mo) (by omega) (by omega)]
  refine br_of (fun h => by cases h) (fun _ => ⟨_, hsame, br_of (fun h => by cases h) (fun _ => br_of (fun h => by cases h) (fun _ => br_of (fun h => by simp at h) (fun _ => ?_)))⟩)
  refine ⟨A, h1.args ⟨.refl _, e0, .refl _, trivial⟩, Bv, h2, br_of (fun h => br_of (fun _ => ?_) (fun h => by cases h)) (fun h => ?_)⟩
  · rw [h]; exact ret_b rfl
  · have hA : A.2.2 = 0 := by simpa using h
    have e1 := key hA
    subst e1
    have e2 := more hA
    subst e2
    refine br_of (fun h2 => by rw [hA] at h2; cases h2) (fun _ => ⟨_, h3, _, same_is hsz.1 rfl, _, same_is hsz.1 rfl, ?_⟩)
    rw [w64 (x := Bv.2.1 + mo) (by omega) (by omega)]
    exact br_of (fun _ => br_of (fun _ => br_of (fun _ => br_of (fun _ => br_of (fun _ => ret_b rfl) (fun h => by simp at h)) (fun h => by simp at h)) (fun h => by cases h)) (fun h => by cases h)) (fun h => by cases h)
theorem c_storebinds (l : List I3T) (x : Int) (t : Tm) (f mo : Int) (hk : ∀ v ∈ l, v.2.1.bk ≤ B) (hkt : t.bk ≤ B) : AC Try.prog 5 [aV7 l, ci x, aT t, ci f, ci mo] [] (cb true) [] := by
  have o1 := c_over15 l hk
  have hz := Nat.le_trans (Tm.sz_bk t) hkt
  have l1 := c_large t hz 30 (by omega) (by omega)
  have n1 := c_near 1099511627776 (by omega) (by omega) t hz
  have v1 := c_valid t hz
  have lo := fun hb => c_loose t hz hb
  have hlo := loose_pos t
  have hB : ∀ s, bindB s x t = (inB s.V x && (!(infOf s.V x).bd && (validB t && decide (looseF t 0 0 ≤ 0)))) := fun _ => rfl
  have cb := fun s (hT : s.T.length ≤ 1073741824) hb => c_sbind s x t hT hz hb
  have go : ∀ s, OKA s 40 → t.sz ≤ 30 → bd 1099511627776 t → f ≤ 60 → 0 - 60 ≤ f → mo ≤ 60 → 0 ≤ mo → RPt Try.prog 5 0 (.c (.a (.fz (.bool true)))) [] 32 ⟨evB x f mo (bindE s x t), hpB t (bindS s x t) (infOf s.V x) (infOf (bindS s x t).V x), 6⟩ := fun s hs hz30 hbd h1 h2 h3 h4 => by
    cases q : bindB s x t with
    | false => rw [(bind_no q).1, (bind_no q).2]; exact p_bnd32n t s (infOf s.V x) x f mo (info_sz hs x)
    | true =>
      have hu : OKA (bindS s x t) 41 := hs.bind (by omega) (bd_le (by omega) _ hbd) hkt
      have hx := bindB_in q
      have hV := hs.V
      rw [(bound_info q).1, (bind_yes q).2]
      exact p_bnd32y t s x f mo _ (infOf s.V x) rfl hu q hz30 hbd h1 h2 h3 h4 (by omega)
  have infs := fun s => c_sinfo s x
  obtain ⟨k, str, n, tl⟩ := t
  refine AC.vc hP sh lv5 (Nat.le_refl _) (by simp) (by simp) (Eq.mpr (v5 (l.map FI3T) x k str n (FTs tl) f mo _ _) ?_)
  refine ⟨_, c_works15, br_of (fun h => by cases h) (fun _ => ⟨_, o1, _, l1, _, n1, br_of (fun _ => ret_b rfl) (fun e1 => br_of (fun _ => ret_b rfl) (fun e2 => br_of (fun _ => ret_b rfl) (fun e3 => br_of (fun _ => ret_b rfl) (fun e4 => br_of (fun _ => ret_b rfl) (fun e5 => br_of (fun _ => ret_b rfl) (fun e6 => br_of (fun _ => ret_b rfl) (fun e7 => ?_)))))))⟩)⟩
  obtain ⟨a1, a2⟩ := over_no e1
  have z1 := large_sz e2
  have e3 : near 1099511627776 (.mk k str n tl) = true := (Bool.not_eq_false' _).mp e3
  have hbd := near_bd _ e3
  have e4 := of_decide_eq_false e4
  have e5 := of_decide_eq_false e5
  have e6 := of_decide_eq_false e6
  have e7 := of_decide_eq_false e7
  have hs : OKA (laidV sNil l) 40 := (OKA.acts OKA.nil a2 hk).more (by omega)
  have hT := hs.T
  have G := go (laidV sNil l) hs (by omega) hbd (by omega) (by omega) (by omega) (by omega)
  have cB := cb (laidV sNil l) (by omega) (bd_le (by simp only [M61]; omega) _ hbd)
  have i1 := infs (laidV sNil l)
  have i2 := infs (bindS (laidV sNil l) x (.mk k str n tl))
  have hB := hB (laidV sNil l)
  have cl := c_laid15 l a2 hk a1
  have hE : bindE (laidV sNil l) x (.mk k str n tl) = if bindB (laidV sNil l) x (.mk k str n tl) = true then 0 else 1 := rfl
  generalize laidV sNil l = s at *
  refine ⟨_, cl, (_, _, _, _), i1, _, v1, (_, _), cB, (_, _, _, _), i2, ?_⟩
  have sel : ∀ b : Bool, bindB s x (.mk k str n tl) = b → ((bindE s x (.mk k str n tl) == 0) : Bool) = b := fun b hb => by
    rw [hE, hb]; cases b <;> rfl
  refine br_of (fun g1 => br_of (fun g2 => br_of (fun g3 => ⟨_, lo (bd_le (by omega) _ hbd), br_of (fun h => ?_) (fun _ => G)⟩) (fun g3 => br_of (fun h => ?_) (fun _ => G))) (fun g2 => br_of (fun h => ?_) (fun _ => G))) (fun g1 => br_of (fun h => ?_) (fun _ => G))
  · exfalso
    have g1 : inB s.V x = true := g1
    have g2 : (!(infOf s.V x).bd) = true := g2
    have g3 : validB (.mk k str n tl) = true := g3
    rw [g1, g2, g3, Bool.true_and, Bool.true_and, Bool.true_and] at hB
    have h : (!((bindE s x (.mk k str n tl) == 0) == (looseF (.mk k str n tl) 0 0 == 0))) = true := h
    rw [sel _ hB] at h
    by_cases q : looseF (.mk k str n tl) 0 0 ≤ 0
    · have q2 : looseF (.mk k str n tl) 0 0 = 0 := by omega
      rw [q2] at h; simp at h
    · rw [decide_eq_false q, show (looseF (.mk k str n tl) 0 0 == 0) = false by simp; omega] at h; cases h
  · exfalso
    have g3 : validB (.mk k str n tl) = false := g3
    rw [g3, Bool.false_and, Bool.and_false, Bool.and_false] at hB
    have h : (!((bindE s x (.mk k str n tl) == 0) == false)) = true := h
    rw [sel _ hB] at h; cases h
  · exfalso
    have g2 : (!(infOf s.V x).bd) = false := g2
    rw [g2, Bool.false_and, Bool.and_false] at hB
    have h : (!((bindE s x (.mk k str n tl) == 0) == false)) = true := h
    rw [sel _ hB] at h; cases h
  · exfalso
    have g1 : inB s.V x = false := g1
    rw [g1, Bool.false_and] at hB
    have h : (!((bindE s x (.mk k str n tl) == 0) == false)) = true := h
    rw [sel _ hB] at h; cases h

end Go.AM

set_option maxRecDepth 100000
open Go Go.Proofs
namespace Go.AM

/-! ### What is shifted downwards -/
theorem shT_inn {fr by_ : Int} {k n : Int} {s : List UInt8} {l : List Tm} (d : Int) (hk : k = 5 ∨ k = 6) : shT fr by_ (.mk k s n l) d = .mk k s n (walkL (shLeaf fr by_) l (d + if (k == 5) = true then 1 else 0)) := walkF_keep _ (shLeaf_k fr by_) k s n l d (by rcases hk with rfl | rfl <;> rfl)
theorem shT_out {fr by_ : Int} {k n : Int} {s : List UInt8} {l : List Tm} (d : Int) (h5 : k ≠ 5) (h6 : k ≠ 6) : shT fr by_ (.mk k s n l) d = shLeaf fr by_ (.mk k s n l) d := walkF_leaf _ k s n l d (by simp [h5, h6])
theorem shT_k (fr by_ : Int) (t : Tm) (d : Int) : (shT fr by_ t d).k = t.k := walkF_k _ (shLeaf_k fr by_) t d
theorem walkL_hd (fr by_ : Int) (l : List Tm) (d : Int) : (hd (walkL (shLeaf fr by_) l d)).k = (hd l).k := by
  cases l with
  | nil => rfl
  | cons x l => exact shT_k fr by_ x d
theorem walkL_app (lf : Tm → Int → Tm) (d : Int) : ∀ a b : List Tm, walkL lf (a ++ b) d = walkL lf a d ++ walkL lf b d
  | [], _ => rfl
  | x :: a, b => by simp only [List.cons_append, walkL, walkL_app lf d a b]
mutual
theorem norm_shift (fr by_ : Int) : ∀ (t : Tm) (d : Int), normB (shT fr by_ t d) = normB t
  | .mk k s n l, d => by
    by_cases hk : k = 5 ∨ k = 6
    · rw [shT_inn d hk, normB, normB, norm_shifts fr by_ l]
      congr 2
      show (k == 6 && (hd (walkL (shLeaf fr by_) l (d + if (k == 5) = true then 1 else 0))).k == 5) = (k == 6 && (hd l).k == 5)
      rw [walkL_hd]
    · have h5 : k ≠ 5 := fun e => hk (.inl e)
      have h6 : k ≠ 6 := fun e => hk (.inr e)
      rw [shT_out d h5 h6]
      unfold shLeaf
      split <;> rfl
theorem norm_shifts (fr by_ : Int) : ∀ (l : List Tm) (d : Int), normL (walkL (shLeaf fr by_) l d) = normL l
  | [], _ => rfl
  | t :: l, d => by
    have := norm_shift fr by_ t d
    rw [walkL, normL, normL, norm_shifts fr by_ l d]
    exact congrArg (· && _) this
end
mutual
theorem loose_shift : ∀ (t : Tm) (d e : Int), occF t e = 0 → 0 ≤ d → 0 ≤ e → looseR (shT 0 (-1) t e) (d + e) = looseR t (d + e + 1)
  | .mk k s n l, d, e, ho, hd, he => by
    by_cases hk : k = 5 ∨ k = 6
    · have h3 : ¬ (k == 3) = true := by rcases hk with rfl | rfl <;> decide
      have hin : (k == 5 || k == 6) = true := by rcases hk with rfl | rfl <;> rfl
      rw [shT_inn e hk, looseR, looseR, if_neg h3, if_neg h3, if_pos hin, if_pos hin]
      have hb : (0 : Int) ≤ if (k == 5) = true then 1 else 0 := by split <;> omega
      have := loose_shifts l d (e + if (k == 5) = true then 1 else 0) (by
        rw [occF, if_neg (fun q => h3 q.1)] at ho; exact ho) hd (by omega)
      rw [show d + e + (if (k == 5) = true then 1 else 0) = d + (e + if (k == 5) = true then 1 else 0) by omega, this]
      congr 1; omega
    · have h5 : k ≠ 5 := fun e => hk (.inl e)
      have h6 : k ≠ 6 := fun e => hk (.inr e)
      rw [shT_out e h5 h6]
      by_cases h3 : k = 3
      · subst h3
        have hne : n ≠ e := fun q => by rw [occF, if_pos ⟨rfl, by simp [q]⟩] at ho; cases ho
        unfold shLeaf
        by_cases hc : e + 0 ≤ n
        · rw [if_pos ⟨rfl, hc⟩]
          show looseR (.mk 3 s (n + -1) l) (d + e) = _
          rw [looseR, looseR, if_pos (show ((3 : Int) == 3) = true from rfl), if_pos (show ((3 : Int) == 3) = true from rfl)]
          congr 1; omega
        · rw [if_neg (fun q => hc q.2), looseR, looseR, if_pos (show ((3 : Int) == 3) = true from rfl), if_pos (show ((3 : Int) == 3) = true from rfl)]
          unfold maxI
          (repeat' split) <;> omega
      · have h3' : ¬ (k == 3) = true := by simpa using h3
        have hin : ¬ (k == 5 || k == 6) = true := by simp [h5, h6]
        unfold shLeaf
        rw [if_neg (fun q => h3' q.1), looseR, looseR, if_neg h3', if_neg h3', if_neg hin, if_neg hin]
theorem loose_shifts : ∀ (l : List Tm) (d e : Int), occL l e = 0 → 0 ≤ d → 0 ≤ e → looseRL (walkL (shLeaf 0 (-1)) l e) (d + e) = looseRL l (d + e + 1)
  | [], _, _, _, _, _ => rfl
  | t :: l, d, e, ho, hd, he => by
    simp only [occL] at ho
    have h1 := loose_shift t d e (by omega) hd he
    have h2 := loose_shifts l d e (by omega) hd he
    rw [walkL, looseRL, looseRL, h2]
    exact congrArg (maxI · _) h1
end
mutual
theorem occ_shift : ∀ (t : Tm) (e j : Int), occF t e = 0 → j < e → occF (shT 0 (-1) t e) j = occF t j
  | .mk k s n l, e, j, ho, hj => by
    by_cases hk : k = 5 ∨ k = 6
    · have h3 : ¬ (k == 3) = true := by rcases hk with rfl | rfl <;> decide
      have a1 : ∀ i, ¬ ((k == 3) = true ∧ (n == i) = true) := fun i q => h3 q.1
      rw [occF, if_neg (a1 e)] at ho
      rw [shT_inn e hk, occF, occF, if_neg (a1 j), if_neg (a1 j)]
      exact occ_shifts l _ _ ho (by omega)
    · have h5 : k ≠ 5 := fun e => hk (.inl e)
      have h6 : k ≠ 6 := fun e => hk (.inr e)
      rw [shT_out e h5 h6]
      by_cases h3 : k = 3
      · subst h3
        have hne : n ≠ e := fun q => by rw [occF, if_pos ⟨rfl, by simp [q]⟩] at ho; cases ho
        unfold shLeaf
        by_cases hc : e + 0 ≤ n
        · rw [if_pos ⟨rfl, hc⟩]
          show occF (.mk 3 s (n + -1) l) j = _
          have a1 : ¬ (((3 : Int) == 3) = true ∧ (n + -1 == j) = true) := fun q => by have := q.2; simp at this; omega
          have a2 : ¬ (((3 : Int) == 3) = true ∧ (n == j) = true) := fun q => by have := q.2; simp at this; omega
          rw [occF, occF, if_neg a1, if_neg a2]
        · rw [if_neg (fun q => hc q.2)]
      · have h3' : ¬ (k == 3) = true := by simpa using h3
        unfold shLeaf
        rw [if_neg (fun q => h3' q.1)]
theorem occ_shifts : ∀ (l : List Tm) (e j : Int), occL l e = 0 → j < e → occL (walkL (shLeaf 0 (-1)) l e) j = occL l j
  | [], _, _, _, _ => rfl
  | t :: l, e, j, ho, hj => by
    simp only [occL] at ho
    have h1 := occ_shift t e j (by omega) hj
    have h2 := occ_shifts l e j (by omega) hj
    rw [walkL, occL, occL, h2]
    exact congrArg (· + _) h1
end
theorem apply_leaf {x : Tm} (hx : x.k ≠ 6) (a : List Tm) : applyF x a = if a = [] then x else .mk 6 [] 0 (x :: a) := by
  cases a with
  | nil => rfl
  | cons y r =>
    obtain ⟨k, s, n, l⟩ := x
    rw [apply_some, if_neg (fun e => hx (show k = 6 by simpa using e.1))]; rfl
theorem occ_apply {x : Tm} (hx : x.k ≠ 6) (a : List Tm) (i : Int) : occF (applyF x a) i = occF x i + occL a i := by
  rw [apply_leaf hx]
  split
  · rename_i h; subst h; simp [occL]
  · rw [occF, if_neg (by rintro ⟨h, _⟩; cases h)]
    show occL (x :: a) (i + 0) = _
    rw [Int.add_zero]; rfl
theorem drop_app (k n : Int) (s : List UInt8) (x : Tm) (a : List Tm) (z : Tm) : dropB (.mk k s n (x :: a ++ [z])) = (k == 6 && z.k == 3 && z.n == 0 && occF (applyF x a) 0 == 0) := by
  rw [dropB, rest_app, show Tm.l (.mk k s n (x :: a ++ [z])) = x :: a ++ [z] from rfl, last_app]; rfl
theorem drop_not {b : Tm} (h : b.k ≠ 6) : dropB b = false := by
  rw [dropB, show (b.k == 6) = false by simpa using h]; rfl
theorem drop_shift {b : Tm} {e : Int} (hb : okB b = true) (ho : occF b e = 0) (he : 1 ≤ e) : dropB (shT 0 (-1) b e) = dropB b := by
  by_cases h6 : b.k = 6
  · obtain ⟨k, s, n, l⟩ := b
    have h6 : k = 6 := h6
    subst h6
    obtain ⟨x, a, z, rfl, hx6, hx, ha, hz⟩ := app_parts hb rfl
    rw [occF, if_neg (by rintro ⟨h, _⟩; cases h)] at ho
    have ho : occL (x :: a ++ [z]) (e + 0) = 0 := ho
    rw [Int.add_zero] at ho
    have hox := occL_mem ho x List.mem_cons_self
    have hoz := occL_mem ho z (by simp)
    have hoa : occL a e = 0 := by
      have : ∀ (p q : List Tm), occL (p ++ q) e = occL p e + occL q e := fun p q => by
        induction p with
        | nil => simp [occL]
        | cons y p ih => simp only [List.cons_append, occL, ih]; omega
      rw [this] at ho; simp only [occL] at ho; omega
    rw [shT_inn e (.inr rfl)]
    show dropB (.mk 6 s n (walkL (shLeaf 0 (-1)) (x :: a ++ [z]) (e + 0))) = _
    rw [Int.add_zero, walkL_app, walkL, walkL, walkL, drop_app, drop_app]
    have e1 : occF (applyF (walkF (shLeaf 0 (-1)) x e) (walkL (shLeaf 0 (-1)) a e)) 0 = occF (applyF x a) 0 := by
      rw [occ_apply hx6, occ_apply (by show (shT 0 (-1) x e).k ≠ 6; rw [shT_k]; exact hx6), occ_shifts a e 0 hoa (by omega)]
      exact congrArg (· + _) (occ_shift x e 0 hox (by omega))
    rw [e1]
    congr 1
    have e2 : (walkF (shLeaf 0 (-1)) z e).k = z.k := shT_k 0 (-1) z e
    rw [e2]
    by_cases hz3 : z.k = 3
    · obtain ⟨zk, zs, zn, zl⟩ := z
      have hz3 : zk = 3 := hz3
      subst hz3
      have hne : zn ≠ e := fun q => by rw [occF, if_pos ⟨rfl, by simp [q]⟩] at hoz; cases hoz
      congr 1
      show ((shT 0 (-1) (.mk 3 zs zn zl) e).n == 0) = (zn == 0)
      rw [shT_out e (by decide) (by decide)]
      unfold shLeaf
      split
      · rename_i hc
        have hc : e + 0 ≤ zn := hc.2
        show (zn + -1 == 0) = (zn == 0)
        rw [show (zn + -1 == 0) = false by simp; omega, show (zn == 0) = false by simp; omega]
      · rfl
    · rw [show (z.k == 3) = false by simpa using hz3]; simp
  · rw [drop_not h6, drop_not (by rw [shT_k]; exact h6)]
/-! ### What is short stays -/
mutual
def shB : Tm → Bool
  | .mk k _ _ l => (if (k == 5) = true then !dropB (hd l) else true) && shL l
def shL : List Tm → Bool
  | [] => true
  | t :: l => shB t && shL l
end
theorem shL_mem : ∀ {l : List Tm} {t : Tm}, shL l = true → t ∈ l → shB t = true
  | x :: l, t, h, hm => by
    simp only [shL, Bool.and_eq_true] at h
    rcases List.mem_cons.1 hm with rfl | hm
    · exact h.1
    · exact shL_mem h.2 hm
theorem shL_of : ∀ {l : List Tm}, (∀ t ∈ l, shB t = true) → shL l = true
  | [], _ => rfl
  | t :: l, h => by simp only [shL, h t List.mem_cons_self, shL_of (l := l) fun u hu => h u (List.mem_cons_of_mem _ hu), Bool.and_self]
theorem shB_l {t : Tm} (h : shB t = true) : shL t.l = true := by
  obtain ⟨k, s, n, l⟩ := t
  rw [shB, Bool.and_eq_true] at h; exact h.2
theorem shB6 {s : List UInt8} {n : Int} {l : List Tm} : shB (.mk 6 s n l) = shL l := by rw [shB]; rfl
mutual
theorem short_fix : ∀ t : Tm, okB t = true → shB t = true → shortF t = t
  | .mk k s n l, ho, hs => by
    have hl := short_fixs l (okB_l ho) (shB_l hs)
    by_cases h5 : k = 5
    · subst h5
      obtain ⟨rfl, rfl⟩ := okB_sn ho (.inl rfl)
      obtain ⟨x, rfl, hx⟩ := okB5 ho rfl
      rw [shB, Bool.and_eq_true] at hs
      have hdx : dropB x = false := not_t hs.1
      rw [shortF, if_pos (show ((5 : Int) == 5) = true from rfl), hl, show hd [x] = x from rfl, if_neg (by rw [hdx]; simp)]
    · by_cases h6 : k = 6
      · subst h6
        obtain ⟨rfl, rfl⟩ := okB_sn ho (.inr rfl)
        obtain ⟨x, y, r, rfl, hx6, _⟩ := okB6 ho rfl
        rw [shortF, if_neg (by decide), if_pos (show ((6 : Int) == 6) = true from rfl), hl]
        show applyF x (y :: r) = _
        rw [apply_leaf hx6, if_neg (by simp)]
      · rw [shortF, if_neg (by simpa using h5), if_neg (by simpa using h6)]
theorem short_fixs : ∀ l : List Tm, okL l = true → shL l = true → shortL l = l
  | [], _, _ => rfl
  | t :: l, ho, hs => by
    simp only [okL, shL, Bool.and_eq_true] at ho hs
    rw [shortL, short_fix t ho.1 hs.1, short_fixs l ho.2 hs.2]
end
mutual
theorem sh_shift : ∀ (t : Tm) (e : Int), okB t = true → shB t = true → occF t e = 0 → 0 ≤ e → shB (shT 0 (-1) t e) = true
  | .mk k s n l, e, hk, hs, ho, he => by
    by_cases hin : k = 5 ∨ k = 6
    · rw [shT_inn e hin]
      have h3 : ¬ (k == 3) = true := by rcases hin with rfl | rfl <;> decide
      rw [occF, if_neg (fun q => h3 q.1)] at ho
      have hb : (0 : Int) ≤ if (k == 5) = true then 1 else 0 := by split <;> omega
      have hl := sh_shifts l (e + if (k == 5) = true then 1 else 0) (okB_l hk) (shB_l hs) ho (by omega)
      rw [shB, hl, Bool.and_true]
      split
      · rename_i h5
        have h5 : k = 5 := by simpa using h5
        subst h5
        obtain ⟨x, rfl, hx⟩ := okB5 hk rfl
        rw [shB, Bool.and_eq_true] at hs
        have hd : dropB x = false := not_t hs.1
        have hox : occF x (e + 1) = 0 := occL_mem ho x (List.mem_singleton.2 rfl)
        show (!dropB (shT 0 (-1) x (e + 1))) = true
        rw [drop_shift hx hox (by omega), hd]; rfl
      · rfl
    · have h5 : k ≠ 5 := fun e => hin (.inl e)
      have h6 : k ≠ 6 := fun e => hin (.inr e)
      rw [shT_out e h5 h6]
      unfold shLeaf
      split
      · show shB (.mk k s (n + -1) l) = true
        rw [shB] at hs ⊢; exact hs
      · exact hs
theorem sh_shifts : ∀ (l : List Tm) (e : Int), okL l = true → shL l = true → occL l e = 0 → 0 ≤ e → shL (walkL (shLeaf 0 (-1)) l e) = true
  | [], _, _, _, _, _ => rfl
  | t :: l, e, hk, hs, ho, he => by
    simp only [okL, shL, occL, Bool.and_eq_true] at hk hs ho
    have h1 := sh_shift t e hk.1 hs.1 (by omega) he
    have h2 := sh_shifts l e hk.2 hs.2 (by omega) he
    rw [walkL, shL, h2, Bool.and_true]
    exact h1
end
theorem shB_apply {f : Tm} {a : List Tm} (hf : shB f = true) (ha : shL a = true) : shB (applyF f a) = true := by
  match a, ha with
  | [], _ => exact hf
  | y :: r, ha =>
    obtain ⟨k, s, n, l⟩ := f
    rw [apply_some]
    split
    · rw [shB6]
      exact shL_of fun t ht => by
        rcases List.mem_append.1 ht with ht | ht
        · exact shL_mem (shB_l hf) ht
        · exact shL_mem ha ht
    · rw [shB6]
      simp only [shL, Bool.and_eq_true] at ha ⊢
      exact ⟨hf, ha⟩
theorem rest_sh {b : Tm} (hb : okB b = true) (hk : b.k = 6) (h : shB b = true) : shB (restF b) = true := by
  obtain ⟨k, s, n, l⟩ := b
  obtain ⟨x, a, z, rfl, _⟩ := app_parts hb hk
  rw [rest_app]
  have hl : shL (x :: a ++ [z]) = true := shB_l h
  exact shB_apply (shL_mem hl List.mem_cons_self) (shL_of fun u hu => shL_mem hl (List.mem_cons_of_mem _ (List.mem_append_left _ hu)))
mutual
theorem short_sh : ∀ t : Tm, okB t = true → shB (shortF t) = true
  | .mk k s n l, ho => by
    have hl := short_shs l (okB_l ho)
    by_cases h5 : k = 5
    · subst h5
      obtain ⟨x, rfl, hx⟩ := okB5 ho rfl
      have hsx : shB (shortF x) = true := by simpa [shortL, shL] using hl
      have hox := (shortF_ok x hx).1
      rw [shortF, if_pos (show ((5 : Int) == 5) = true from rfl), show hd (shortL [x]) = shortF x from rfl]
      split
      · rename_i hd
        rw [dropF, if_pos hd]
        exact sh_shift _ 0 (restF_ok hox (drop6 hd)).1 (rest_sh hox (drop6 hd) hsx) (drop0 hd) (Int.le_refl _)
      · rename_i hd
        rw [shB]
        show ((!dropB (shortF x)) && shL [shortF x]) = true
        rw [show dropB (shortF x) = false by simpa using hd]
        simp [shL, hsx]
    · by_cases h6 : k = 6
      · subst h6
        obtain ⟨x, y, r, rfl, hx6, _⟩ := okB6 ho rfl
        rw [shortF, if_neg (by decide), if_pos (show ((6 : Int) == 6) = true from rfl)]
        simp only [shortL, shL, Bool.and_eq_true] at hl
        exact shB_apply hl.1 (by simp only [shortL, List.tail_cons, shL, Bool.and_eq_true]; exact hl.2)
      · have : l = [] := okB0 ho h5 h6
        subst this
        rw [shortF, if_neg (by simpa using h5), if_neg (by simpa using h6), shB, if_neg (by simpa using h5)]; rfl
theorem short_shs : ∀ l : List Tm, okL l = true → shL (shortL l) = true
  | [], _ => rfl
  | t :: l, ho => by
    simp only [okL, Bool.and_eq_true] at ho
    rw [shortL, shL, short_sh t ho.1, short_shs l ho.2]; rfl
end
theorem short_twice {t : Tm} (h : okB t = true) : shortF (shortF t) = shortF t := short_fix _ (shortF_ok t h).1 (short_sh t h)
/-! ### Normal stays normal -/
theorem norm6 {s : List UInt8} {n : Int} {x : Tm} {l : List Tm} (hx : x.k ≠ 5) (h : normL (x :: l) = true) : normB (.mk 6 s n (x :: l)) = true := by
  rw [normB, h, Bool.and_true]
  show (!(6 == 6 && x.k == 5)) = true
  rw [show (x.k == 5) = false by simpa using hx]; rfl
theorem norm6_inv {s : List UInt8} {n : Int} {x : Tm} {l : List Tm} (h : normB (.mk 6 s n (x :: l)) = true) : x.k ≠ 5 ∧ normL (x :: l) = true := by
  rw [normB, Bool.and_eq_true] at h
  refine ⟨fun e => ?_, h.2⟩
  have h1 : (!(6 == 6 && x.k == 5)) = true := h.1
  rw [e] at h1; cases h1
theorem normL_app : ∀ a b : List Tm, normL (a ++ b) = (normL a && normL b)
  | [], _ => rfl
  | x :: a, b => by rw [List.cons_append, normL, normL, normL_app a b, Bool.and_assoc]
theorem rest_norm {b : Tm} (hb : okB b = true) (hk : b.k = 6) (h : normB b = true) : normB (restF b) = true := by
  obtain ⟨k, s, n, l⟩ := b
  have hk : k = 6 := hk
  subst hk
  obtain ⟨x, a, z, rfl, hx6, _⟩ := app_parts hb rfl
  rw [rest_app, apply_leaf hx6]
  obtain ⟨h5, hl⟩ := norm6_inv (x := x) (l := a ++ [z]) h
  rw [normL, normL_app] at hl
  simp only [Bool.and_eq_true] at hl
  split
  · exact hl.1
  · exact norm6 h5 (by rw [normL, hl.1, hl.2.1]; rfl)
mutual
theorem short_norm : ∀ t : Tm, okB t = true → normB t = true → normB (shortF t) = true
  | .mk k s n l, ho, hn => by
    have hnl : normL l = true := by rw [normB, Bool.and_eq_true] at hn; exact hn.2
    have hl := short_norms l (okB_l ho) hnl
    by_cases h5 : k = 5
    · subst h5
      obtain ⟨x, rfl, hx⟩ := okB5 ho rfl
      have hsx : normB (shortF x) = true := by simpa [shortL, normL] using hl
      have hox := (shortF_ok x hx).1
      rw [shortF, if_pos (show ((5 : Int) == 5) = true from rfl), show hd (shortL [x]) = shortF x from rfl]
      split
      · rename_i hd
        rw [dropF, if_pos hd, norm_shift]
        exact rest_norm hox (drop6 hd) hsx
      · rw [normB]; simp [normL, hsx, redexB, Tm.k]
    · by_cases h6 : k = 6
      · subst h6
        obtain ⟨x, y, r, rfl, hx6, hxl⟩ := okB6 ho rfl
        obtain ⟨hx5, _⟩ := norm6_inv hn
        have hx : shortF x = x := by
          obtain ⟨xk, xs, xn, xl⟩ := x
          have h5 : xk ≠ 5 := hx5
          have h6 : xk ≠ 6 := hx6
          rw [shortF, if_neg (by simpa using h5), if_neg (by simpa using h6)]
        rw [shortF, if_neg (by decide), if_pos (show ((6 : Int) == 6) = true from rfl)]
        rw [shortL, hx] at hl ⊢
        show normB (applyF x (shortL (y :: r))) = true
        rw [apply_leaf hx6, if_neg (by simp [shortL])]
        exact norm6 hx5 hl
      · rw [shortF, if_neg (by simpa using h5), if_neg (by simpa using h6)]; exact hn
theorem short_norms : ∀ l : List Tm, okL l = true → normL l = true → normL (shortL l) = true
  | [], _, _ => rfl
  | t :: l, ho, hn => by
    simp only [okL, normL, Bool.and_eq_true] at ho hn
    rw [shortL, normL, short_norm t ho.1 hn.1, short_norms l ho.2 hn.2]; rfl
end
/-! ### No looser -/
theorem maxI_le {a b c d : Int} (h1 : a ≤ c) (h2 : b ≤ d) : maxI a b ≤ maxI c d := by unfold maxI; (repeat' split) <;> omega
theorem looseR_ge (t : Tm) (k : Int) : 0 ≤ looseR t k := by
  obtain ⟨kd, s, n, l⟩ := t
  rw [looseR]
  split
  · exact maxI_ge _ _
  · split
    · exact looseRL_ge _ _
    · exact Int.le_refl _
theorem looseRL_app (d : Int) : ∀ a b : List Tm, looseRL (a ++ b) d = maxI (looseRL a d) (looseRL b d)
  | [], b => by
    have := looseRL_ge b d
    show looseRL b d = maxI 0 (looseRL b d)
    unfold maxI; rw [if_pos this]
  | x :: a, b => by rw [List.cons_append, looseRL, looseRL, looseRL_app d a b, maxI_assoc]
theorem loose6 {s : List UInt8} {n : Int} {l : List Tm} (d : Int) : looseR (.mk 6 s n l) d = looseRL l d := by
  rw [looseR, if_neg (by decide), if_pos (by rfl)]
  show looseRL l (d + 0) = _
  rw [Int.add_zero]
theorem loose5 {s : List UInt8} {n : Int} {x : Tm} (d : Int) : looseR (.mk 5 s n [x]) d = maxI (looseR x (d + 1)) 0 := by
  rw [looseR, if_neg (by decide), if_pos (by rfl)]; rfl
theorem loose_apply (f : Tm) (a : List Tm) (d : Int) : looseR (applyF f a) d ≤ maxI (looseR f d) (looseRL a d) := by
  match a with
  | [] => exact maxI_ge _ _
  | y :: r =>
    obtain ⟨k, s, n, l⟩ := f
    rw [apply_some]
    split
    · rename_i h
      have hk : k = 6 := by simpa using h.1
      subst hk
      rw [loose6, loose6, looseRL_app]; exact Int.le_refl _
    · rw [loose6]; exact Int.le_refl _
theorem rest_loose {b : Tm} (hb : okB b = true) (hk : b.k = 6) (d : Int) : looseR (restF b) d ≤ looseR b d := by
  obtain ⟨k, s, n, l⟩ := b
  have hk : k = 6 := hk
  subst hk
  obtain ⟨x, a, z, rfl, _⟩ := app_parts hb rfl
  rw [rest_app, loose6, looseRL_app]
  exact Int.le_trans (loose_apply x a d) (maxI_ge _ _)
mutual
theorem short_loose : ∀ (t : Tm) (d : Int), okB t = true → 0 ≤ d → looseR (shortF t) d ≤ looseR t d
  | .mk k s n l, d, ho, hd => by
    by_cases h5 : k = 5
    · subst h5
      obtain ⟨x, rfl, hx⟩ := okB5 ho rfl
      have hl := short_looses [x] (d + 1) (okB_l ho) (by omega)
      simp only [shortL, looseRL, maxI0 (looseR_ge _ _)] at hl
      have hox := (shortF_ok x hx).1
      rw [shortF, if_pos (show ((5 : Int) == 5) = true from rfl), show Go.AM.hd (shortL [x]) = shortF x from rfl, loose5]
      split
      · rename_i hd'
        rw [dropF, if_pos hd']
        have := loose_shift (restF (shortF x)) d 0 (drop0 hd') hd (Int.le_refl _)
        rw [Int.add_zero] at this
        rw [this]
        exact Int.le_trans (Int.le_trans (rest_loose hox (drop6 hd') (d + 1)) hl) (maxI_ge _ _)
      · rw [loose5]; exact maxI_le hl (Int.le_refl _)
    · by_cases h6 : k = 6
      · subst h6
        obtain ⟨x, y, r, rfl, hx6, _⟩ := okB6 ho rfl
        have hl := short_looses (x :: y :: r) d (okB_l ho) hd
        rw [shortF, if_neg (by decide), if_pos (show ((6 : Int) == 6) = true from rfl), loose6]
        exact Int.le_trans (loose_apply (shortF x) (shortL (y :: r)) d) hl
      · rw [shortF, if_neg (by simpa using h5), if_neg (by simpa using h6)]; exact Int.le_refl _
theorem short_looses : ∀ (l : List Tm) (d : Int), okL l = true → 0 ≤ d → looseRL (shortL l) d ≤ looseRL l d
  | [], _, _, _ => Int.le_refl _
  | t :: l, d, ho, hd => by
    simp only [okL, Bool.and_eq_true] at ho
    rw [shortL, looseRL, looseRL]
    exact maxI_le (short_loose t d ho.1 hd) (short_looses l d ho.2 hd)
end
theorem looseF0 (t : Tm) : looseF t 0 0 = looseR t 0 := by
  rw [loose_acc t 0 0 (Int.le_refl _)]
  have := looseR_ge t 0
  unfold maxI; rw [if_pos this]
/-! ### THE LAW: once -/
end Go.AM

set_option maxRecDepth 100000
open Go Go.Proofs
namespace Go.AM

/-! ### What is in full -/
mutual
/-- No variable in it stands for anything. -/
def ubB (s : Sto) : Tm → Bool
  | .mk k _ n l => !(k == 4 && (infOf s.V n).bd) && ubL s l
def ubL (s : Sto) : List Tm → Bool
  | [] => true
  | t :: l => ubB s t && ubL s l
end
mutual
/-- How many terms there are but for heads. -/
def vis : Tm → Nat
  | .mk k _ _ l => 1 + visT (k == 5) l
def visT : Bool → List Tm → Nat
  | _, [] => 0
  | b, t :: l => (if b = true then vis t else 0) + visT true l
end
theorem vis_pos (t : Tm) : 1 ≤ vis t := by cases t; rw [vis]; omega
theorem visT_app (a b : List Tm) : visT true (a ++ b) = visT true a + visT true b := by
  induction a with
  | nil => simp [visT]
  | cons x a ih => rw [List.cons_append, visT, visT, ih]; omega
theorem visT_skip (l : List Tm) : visT false l = visT true (l.drop 1) := by
  cases l with
  | nil => rfl
  | cons x l => rw [visT]; simp
theorem ubL_app (s : Sto) : ∀ a b : List Tm, ubL s (a ++ b) = (ubL s a && ubL s b)
  | [], _ => rfl
  | x :: a, b => by rw [List.cons_append, ubL, ubL, ubL_app s a b, Bool.and_assoc]
mutual
theorem ub_shift (s : Sto) (fr by_ : Int) : ∀ (t : Tm) (d : Int), ubB s (shT fr by_ t d) = ubB s t ∧ vis (shT fr by_ t d) = vis t
  | .mk k str n l, d => by
    by_cases hk : k = 5 ∨ k = 6
    · have := ub_shifts s fr by_ l (d + if (k == 5) = true then 1 else 0)
      rw [shT_inn d hk, ubB, ubB, vis, vis, this.1, this.2]
      exact ⟨rfl, rfl⟩
    · have h5 : k ≠ 5 := fun e => hk (.inl e)
      have h6 : k ≠ 6 := fun e => hk (.inr e)
      rw [shT_out d h5 h6]
      unfold shLeaf
      split
      · rename_i q
        have h3 : (k == 3) = true := q.1
        have h3 : k = 3 := by simpa using h3
        subst h3
        exact ⟨rfl, rfl⟩
      · exact ⟨rfl, rfl⟩
theorem ub_shifts (s : Sto) (fr by_ : Int) : ∀ (l : List Tm) (d : Int), ubL s (walkL (shLeaf fr by_) l d) = ubL s l ∧ ∀ b, visT b (walkL (shLeaf fr by_) l d) = visT b l
  | [], _ => ⟨rfl, fun _ => rfl⟩
  | t :: l, d => by
    have h1 := ub_shift s fr by_ t d
    have h2 := ub_shifts s fr by_ l d
    have e1 : ubB s (walkF (shLeaf fr by_) t d) = ubB s t := h1.1
    have e2 : vis (walkF (shLeaf fr by_) t d) = vis t := h1.2
    refine ⟨by rw [walkL, ubL, ubL, e1, h2.1], fun b => by rw [walkL, visT, visT, e2, h2.2]⟩
end
theorem ub_rest (s : Sto) {b : Tm} (hb : okB b = true) (hk : b.k = 6) (hn : normB b = true) (h : ubB s b = true) : ubB s (restF b) = true ∧ vis (restF b) ≤ vis b := by
  obtain ⟨k, str, n, l⟩ := b
  have hk : k = 6 := hk
  subst hk
  obtain ⟨x, a, z, rfl, hx6, hx, _⟩ := app_parts hb rfl
  obtain ⟨h5, _⟩ := norm6_inv (x := x) (l := a ++ [z]) hn
  rw [rest_app, apply_leaf hx6]
  rw [ubB, Bool.and_eq_true] at h
  have hl : ubL s ((x :: a) ++ [z]) = true := h.2
  rw [ubL_app, Bool.and_eq_true] at hl
  have e : vis (.mk 6 str n (x :: a ++ [z])) = 1 + (visT true a + vis z) := by
    rw [vis, show ((6 : Int) == 5) = false from rfl, visT_skip]
    show 1 + visT true (a ++ [z]) = _
    rw [visT_app]; simp [visT]
  rw [e]
  have hz := vis_pos z
  split
  · have := hl.1
    rw [ubL, Bool.and_eq_true] at this
    refine ⟨this.1, ?_⟩
    obtain ⟨xk, xs, xn, xl⟩ := x
    have h0 := okB0 hx h5 hx6
    subst h0
    rw [vis]; simp only [visT]; omega
  · refine ⟨by rw [ubB, hl.1]; rfl, ?_⟩
    rw [vis, show ((6 : Int) == 5) = false from rfl, visT_skip]
    show 1 + visT true a ≤ _
    omega
mutual
theorem short_nf (s : Sto) : ∀ t : Tm, okB t = true → normB t = true → ubB s t = true → ubB s (shortF t) = true ∧ vis (shortF t) ≤ vis t
  | .mk k str n l, ho, hn, hu => by
    have hnl : normL l = true := by rw [normB, Bool.and_eq_true] at hn; exact hn.2
    have hul : ubL s l = true := by rw [ubB, Bool.and_eq_true] at hu; exact hu.2
    have hl := short_nfs s l (okB_l ho) hnl hul
    by_cases h5 : k = 5
    · subst h5
      obtain ⟨x, rfl, hx⟩ := okB5 ho rfl
      have hsx : ubB s (shortF x) = true := by simpa [shortL, ubL] using hl.1
      have hvx : vis (shortF x) ≤ vis x := by have := hl.2; simpa [shortL, visT] using this
      have hox := (shortF_ok x hx).1
      have hnx : normB (shortF x) = true := short_norm x hx (by simpa [normL] using hnl)
      have e : vis (.mk 5 str n [x]) = 1 + vis x := by rw [vis]; simp [visT]
      rw [shortF, if_pos (show ((5 : Int) == 5) = true from rfl), show hd (shortL [x]) = shortF x from rfl, e]
      split
      · rename_i hd
        have hr := ub_rest s hox (drop6 hd) hnx hsx
        have hs := ub_shift s 0 (-1) (restF (shortF x)) 0
        rw [dropF, if_pos hd, hs.1, hs.2]
        exact ⟨hr.1, by omega⟩
      · refine ⟨by rw [ubB, ubL, ubL, hsx]; rfl, ?_⟩
        rw [vis]; simp only [visT, beq_self_eq_true, if_true]; omega
    · by_cases h6 : k = 6
      · subst h6
        obtain ⟨x, y, r, rfl, hx6, hxl⟩ := okB6 ho rfl
        obtain ⟨hx5, _⟩ := norm6_inv hn
        have hx : shortF x = x := by
          obtain ⟨xk, xs, xn, xl⟩ := x
          have h5 : xk ≠ 5 := hx5
          have h6 : xk ≠ 6 := hx6
          rw [shortF, if_neg (by simpa using h5), if_neg (by simpa using h6)]
        rw [shortF, if_neg (by decide), if_pos (show ((6 : Int) == 6) = true from rfl)]
        rw [shortL, hx] at hl ⊢
        show ubB s (applyF x (shortL (y :: r))) = true ∧ vis (applyF x (shortL (y :: r))) ≤ _
        rw [apply_leaf hx6, if_neg (by simp [shortL])]
        refine ⟨by rw [ubB, hl.1]; rfl, ?_⟩
        have h2 := hl.2
        rw [visT, visT] at h2
        rw [vis, vis, visT, visT]
        simp only [show ((6 : Int) == 5) = false from rfl, if_true, Bool.false_eq_true, if_false] at h2 ⊢
        omega
      · rw [shortF, if_neg (by simpa using h5), if_neg (by simpa using h6)]; exact ⟨hu, Nat.le_refl _⟩
theorem short_nfs (s : Sto) : ∀ l : List Tm, okL l = true → normL l = true → ubL s l = true → ubL s (shortL l) = true ∧ visT true (shortL l) ≤ visT true l
  | [], _, _, _ => ⟨rfl, Nat.le_refl _⟩
  | t :: l, ho, hn, hu => by
    simp only [okL, normL, ubL, Bool.and_eq_true] at ho hn hu
    have h1 := short_nf s t ho.1 hn.1 hu.1
    have h2 := short_nfs s l ho.2 hn.2 hu.2
    refine ⟨by rw [shortL, ubL, h1.1, h2.1]; rfl, ?_⟩
    rw [shortL, visT, visT]; simp only [if_true]; omega
end
theorem step0 {s : Sto} {k n : Int} {str : List UInt8} {l : List Tm} (h : (stepS s (.mk k str n l)).2 = 0) : valB s (.mk k str n l) = false ∧ (k = 6 → valB s (hd l) = false ∧ (hd l).k ≠ 5) := by
  rw [stepS] at h
  have h1 : valB s (.mk k str n l) = false := by
    cases q : valB s (.mk k str n l) with
    | false => rfl
    | true => rw [if_pos q] at h; cases h
  refine ⟨h1, fun h6 => ?_⟩
  subst h6
  rw [if_neg (by rw [h1]; simp), if_neg (show ¬ Tm.k (.mk 6 str n l) ≠ 6 from fun e => e rfl)] at h
  show valB s (hd (Tm.l (.mk 6 str n l))) = false ∧ (hd (Tm.l (.mk 6 str n l))).k ≠ 5
  have h2 : valB s (hd (Tm.l (.mk 6 str n l))) = false := by
    cases q : valB s (hd (Tm.l (.mk 6 str n l))) with
    | false => rfl
    | true => rw [if_pos q] at h; cases h
  refine ⟨h2, fun h5 => ?_⟩
  rw [if_neg (by rw [h2]; simp), if_neg (fun e => e h5)] at h
  simp only at h
  split at h <;> cases h
/-- What is normal, and has no variable that stands for anything, has no step. -/
theorem step_nf {s : Sto} {t : Tm} (ho : okB t = true) (hn : normB t = true) (hu : ubB s t = true) : stepS s t = (t, 0) := by
  obtain ⟨k, str, n, l⟩ := t
  rw [ubB, Bool.and_eq_true, Bool.not_eq_true'] at hu
  have h1 : valB s (.mk k str n l) = false := hu.1
  rw [stepS, if_neg (by rw [h1]; simp)]
  by_cases h6 : k = 6
  · subst h6
    obtain ⟨x, y, r, rfl, hx6, _⟩ := okB6 ho rfl
    obtain ⟨h5, _⟩ := norm6_inv hn
    rw [if_neg (show ¬ Tm.k (.mk 6 str n (x :: y :: r)) ≠ 6 from fun e => e rfl)]
    have hx : valB s x = false := by
      have := hu.2
      rw [ubL, Bool.and_eq_true] at this
      obtain ⟨xk, xs, xn, xl⟩ := x
      have h := this.1
      rw [ubB, Bool.and_eq_true, Bool.not_eq_true'] at h
      exact h.1
    rw [if_neg (show ¬ valB s (hd (Tm.l (.mk 6 str n (x :: y :: r)))) = true from fun e => by have e : valB s x = true := e; rw [hx] at e; cases e), if_pos (show (hd (Tm.l (.mk 6 str n (x :: y :: r)))).k ≠ 5 from h5)]
  · rw [if_pos (show Tm.k (.mk k str n l) ≠ 6 from h6)]
theorem runH_nf {s : Sto} {t : Tm} (h : (stepS s t).2 = 0) (F : Nat) : runH s F t = (t, 0, 0) := by
  cases F with
  | zero => rw [runH, if_pos h]
  | succ F => rw [runH, if_pos h]
theorem kids_fix {fu : Int → Tm → Tm × Int × Int} : ∀ (l : List Tm) (sk : Bool) (g : Int), (visT (!sk) l : Int) ≤ g → (∀ u ∈ (if sk = true then l.drop 1 else l), ∀ g' : Int, (vis u : Int) ≤ g' → g' ≤ g → fu g' u = (u, 0, g' - (vis u : Int))) → kidsF fu sk l g = (l, 0, g - (visT (!sk) l : Int))
  | [], sk, g, _, _ => by simp [kidsF, visT]
  | t :: l, true, g, hg, h => by
    have e : visT (!true) (t :: l) = visT true l := by rw [visT]; simp
    rw [e] at hg ⊢
    have := kids_fix l false g hg h
    rw [kidsF, this]; rfl
  | t :: l, false, g, hg, h => by
    have e : visT (!false) (t :: l) = vis t + visT true l := by rw [visT]; simp
    rw [e] at hg ⊢
    have h1 := h t List.mem_cons_self g (by omega) (Int.le_refl _)
    have h2 := kids_fix l false (g - (vis t : Int)) (by show (visT true l : Int) ≤ _; omega) (fun u hu g' a b => h u (List.mem_cons_of_mem _ hu) g' a (by omega))
    rw [kidsF, h1]
    simp only [ne_eq, not_true_eq_false, if_false]
    rw [h2]
    exact Prod.ext rfl (Prod.ext rfl (by show g - (vis t : Int) - (visT true l : Int) = g - ((vis t + visT true l : Nat) : Int); omega))
theorem nf_kids {s : Sto} {k n : Int} {str : List UInt8} {l : List Tm} (ho : okB (.mk k str n l) = true) (hn : normB (.mk k str n l) = true) (hu : ubB s (.mk k str n l) = true) : ∀ u ∈ l, okB u = true ∧ normB u = true ∧ ubB s u = true := fun u hm => by
  rw [normB, Bool.and_eq_true] at hn
  rw [ubB, Bool.and_eq_true] at hu
  have h1 : ∀ {l : List Tm}, normL l = true → ubL s l = true → ∀ u ∈ l, normB u = true ∧ ubB s u = true := by
    intro l
    induction l with
    | nil => intro _ _ u hu; cases hu
    | cons x l ih =>
      intro a b u hu
      simp only [normL, ubL, Bool.and_eq_true] at a b
      rcases List.mem_cons.1 hu with rfl | hu
      · exact ⟨a.1, b.1⟩
      · exact ih a.2 b.2 u hu
  exact ⟨okL_mem (okB_l ho) hm, h1 hn.2 hu.2 u hm⟩
theorem full_fix (s : Sto) : ∀ (D : Nat) (f : Int) (u : Tm), f.toNat ≤ D → okB u = true → normB u = true → ubB s u = true → (vis u : Int) ≤ f → fullF s D f u = (u, 0, f - (vis u : Int))
  | 0, f, u, hD, _, _, _, hv => by have := vis_pos u; omega
  | D + 1, f, u, hD, ho, hn, hu, hv => by
    have hp := vis_pos u
    have hst := step_nf ho hn hu
    rw [fullF, if_neg (by omega)]
    have e : headP s (f - 1) u = (u, 0, f - 1) := by
      unfold headP
      rw [runH_nf (by rw [hst])]
      exact Prod.ext rfl (Prod.ext rfl (by simp))
    rw [e, fullK, if_neg (by simp)]
    obtain ⟨k, str, n, l⟩ := u
    have hk := nf_kids ho hn hu
    have evis : vis (.mk k str n l) = 1 + visT (!(k == 6)) l := by
      rw [vis]
      congr 1
      by_cases h5 : k = 5
      · subst h5; rfl
      · by_cases h6 : k = 6
        · subst h6; rfl
        · have := okB0 ho h5 h6
          subst this; rfl
    rw [evis] at hv ⊢
    simp only [Tm.l, Tm.k, Tm.s, Tm.n]
    have := kids_fix (fu := fullF s D) l (k == 6) (f - 1) (by omega) (fun x hx g' a b => by
      have hm : x ∈ l := by split at hx; · exact List.mem_of_mem_drop hx
                            · exact hx
      obtain ⟨q1, q2, q3⟩ := hk x hm
      exact full_fix s D g' x (by omega) q1 q2 q3 a)
    rw [this, fullN, if_neg (by simp)]
    exact Prod.ext rfl (Prod.ext rfl (by simp only; omega))
theorem kidsF_vis {fu : Int → Tm → Tm × Int × Int} (hfu : ∀ g t, 0 ≤ g → 0 ≤ (fu g t).2.2 ∧ (fu g t).2.2 ≤ g) : ∀ (l : List Tm) (sk : Bool) (g : Int), 0 ≤ g →
    (∀ u ∈ (if sk = true then l.drop 1 else l), ∀ g' : Int, 0 ≤ g' → g' ≤ g → (fu g' u).2.1 = 0 → (vis (fu g' u).1 : Int) + (fu g' u).2.2 ≤ g') → (kidsF fu sk l g).2.1 = 0 → (visT (!sk) (kidsF fu sk l g).1 : Int) + (kidsF fu sk l g).2.2 ≤ g
  | [], sk, g, _, _, _ => by simp [kidsF, visT]
  | t :: l, true, g, hg, h, h0 => by
    have := kidsF_vis hfu l false g hg h h0
    have e : visT (!true) (kidsF fu true (t :: l) g).1 = visT true (kidsF fu false l g).1 := by rw [kidsF, visT]; simp
    rw [e]; exact this
  | t :: l, false, g, hg, h, h0 => by
    have eK : kidsF fu false (t :: l) g = if (fu g t).2.1 ≠ 0 then ([], (fu g t).2) else ((fu g t).1 :: (kidsF fu false l (fu g t).2.2).1, (kidsF fu false l (fu g t).2.2).2) := rfl
    rw [eK] at h0 ⊢
    by_cases q : (fu g t).2.1 ≠ 0
    · rw [if_pos q] at h0; exact absurd h0 q
    · rw [if_neg q] at h0 ⊢
      have q : (fu g t).2.1 = 0 := by simpa using q
      have h1 := hfu g t hg
      have h2 := h t List.mem_cons_self g hg (Int.le_refl _) q
      have h3 := kidsF_vis hfu l false (fu g t).2.2 h1.1 (fun u hu g' a b c => h u (List.mem_cons_of_mem _ hu) g' a (by omega) c) h0
      have h3 : (visT true (kidsF fu false l (fu g t).2.2).1 : Int) + (kidsF fu false l (fu g t).2.2).2.2 ≤ (fu g t).2.2 := h3
      show (visT true ((fu g t).1 :: (kidsF fu false l (fu g t).2.2).1) : Int) + _ ≤ g
      rw [visT]; simp only [if_true]
      omega
theorem normL_iff {l : List Tm} : normL l = true ↔ ∀ u ∈ l, normB u = true := by
  induction l with
  | nil => exact ⟨(fun _ u hu => nomatch hu), fun _ => rfl⟩
  | cons x l ih =>
    rw [normL, Bool.and_eq_true, ih]
    exact ⟨fun h u hu => (List.mem_cons.1 hu).elim (fun e => e ▸ h.1) (h.2 u), fun h => ⟨h x List.mem_cons_self, fun u hu => h u (List.mem_cons_of_mem _ hu)⟩⟩
theorem ubL_iff {s : Sto} {l : List Tm} : ubL s l = true ↔ ∀ u ∈ l, ubB s u = true := by
  induction l with
  | nil => exact ⟨(fun _ u hu => nomatch hu), fun _ => rfl⟩
  | cons x l ih =>
    rw [ubL, Bool.and_eq_true, ih]
    exact ⟨fun h u hu => (List.mem_cons.1 hu).elim (fun e => e ▸ h.1) (h.2 u), fun h => ⟨h x List.mem_cons_self, fun u hu => h u (List.mem_cons_of_mem _ hu)⟩⟩
theorem fullF_nf {s : Sto} (hs : OKS s) : ∀ (D : Nat) (f : Int) (t : Tm), f.toNat ≤ D → 0 ≤ f → validB t = true → Fit f.toNat t → (fullF s D f t).2.1 = 0 →
    normB (fullF s D f t).1 = true ∧ ubB s (fullF s D f t).1 = true ∧ (vis (fullF s D f t).1 : Int) + (fullF s D f t).2.2 ≤ f
  | 0, f, t, _, _, _, _, h => by rw [fullF] at h; cases h
  | D + 1, f, t, hD, h0, hv, hf, h => by
    rw [fullF] at h ⊢
    split
    · rename_i q; rw [if_pos q] at h; cases h
    rename_i q
    rw [if_neg q] at h
    have hfit := hf.mono (show (f - 1).toNat ≤ f.toNat by omega)
    have hq := runH_fit hs hv hfit
    have eh : headP s (f - 1) t = ((runH s (f - 1).toNat t).1, (runH s (f - 1).toNat t).2.1, f - 1 - ((runH s (f - 1).toNat t).2.2 : Int)) := rfl
    rw [eh] at h ⊢
    generalize runH s (f - 1).toNat t = q at *
    obtain ⟨x, er, u⟩ := q
    simp only at hq h ⊢
    obtain ⟨hu, hq⟩ := hq
    rw [fullK] at h ⊢
    split
    · rename_i q2; rw [if_pos q2] at h; exact absurd h q2
    rename_i q2
    rw [if_neg q2] at h
    have he : er = 0 := by simpa using q2
    subst he
    rcases hq with ⟨_, hvx, hfx, hst⟩ | ⟨h80, _⟩
    · obtain ⟨k, str, n, l⟩ := x
      simp only [Tm.l, Tm.k, Tm.s, Tm.n] at h ⊢
      obtain ⟨hs1, hs2⟩ := step0 hst
      have hg0 : 0 ≤ f - 1 - (u : Int) := by omega
      have hkid : ∀ x ∈ l, k = 5 ∨ k = 6 := fun x hx => by
        by_cases h5 : k = 5 ∨ k = 6
        · exact h5
        · rw [not_or] at h5
          have := okB0 (valid_ok _ hvx) h5.1 h5.2
          rw [this] at hx; cases hx
      have kid : ∀ x ∈ l, ∀ g' : Int, 0 ≤ g' → g' ≤ f - 1 - (u : Int) → (fullF s D g' x).2.1 = 0 → (normB (fullF s D g' x).1 = true ∧ ubB s (fullF s D g' x).1 = true ∧ (vis (fullF s D g' x).1 : Int) + (fullF s D g' x).2.2 ≤ g') ∧ (fullF s D g' x).1.sz + 4200 * (fullF s D g' x).2.2.toNat ≤ x.sz + 4200 * g'.toNat := fun x hx g' a b c =>
        ⟨fullF_nf hs D g' x (by omega) a (kid_valid hvx (hkid x hx) x hx) ((hfx.kid (show x ∈ Tm.l (.mk k str n l) from hx)).mono (by omega)) c,
          (fullF_ok hs D g' x (by omega) a (kid_valid hvx (hkid x hx) x hx) ((hfx.kid (show x ∈ Tm.l (.mk k str n l) from hx)).mono (by omega)) c).2⟩
      unfold fullN at h ⊢
      split
      · rename_i q3; rw [if_pos q3] at h; exact absurd h q3
      rename_i q3
      have h9 : (kidsF (fullF s D) (k == 6) l (f - 1 - (u : Int))).2.1 = 0 := by simpa using q3
      have sub : ∀ x ∈ (if (k == 6) = true then l.drop 1 else l), x ∈ l := fun x hx => by
        split at hx
        · exact List.mem_of_mem_drop hx
        · exact hx
      have hk := kidsF_ok (A := fun _ y => normB y = true ∧ ubB s y = true) (fullF_left s D) l (k == 6) (f - 1 - (u : Int)) hg0 (fun x hx g' a b c => ⟨⟨(kid x (sub x hx) g' a b c).1.1, (kid x (sub x hx) g' a b c).1.2.1⟩, (kid x (sub x hx) g' a b c).2⟩) h9
      have hvs := kidsF_vis (fullF_left s D) l (k == 6) (f - 1 - (u : Int)) hg0 (fun x hx g' a b c => (kid x (sub x hx) g' a b c).1.2.2) h9
      generalize kidsF (fullF s D) (k == 6) l (f - 1 - (u : Int)) = r at *
      obtain ⟨us, er2, g2⟩ := r
      simp only at hk hvs ⊢
      obtain ⟨k1, k2, k3, k4⟩ := hk
      have k5 := all2_mem (Q := fun y => normB y = true ∧ ubB s y = true) (fun _ _ h => h) k4
      have evis : vis (.mk k str n us) = 1 + visT (!(k == 6)) us := by
        rw [vis]
        congr 1
        by_cases h5 : k = 5
        · subst h5; rfl
        · by_cases h6 : k = 6
          · subst h6; rfl
          · have := okB0 (valid_ok _ hvx) h5 h6
            subst this
            have : us = [] := List.eq_nil_of_length_eq_zero k2
            subst this; rfl
      have all : ∀ y ∈ us, normB y = true ∧ ubB s y = true := fun y hy => by
        by_cases h6 : (k == 6) = true
        · rcases mem_hd hy with e | e
          · rw [k3 h6] at e
            have h6' : k = 6 := by simpa using h6
            obtain ⟨x, y', r, rfl, hx6, hxl⟩ := okB6 (valid_ok _ hvx) h6'
            obtain ⟨v1, v2⟩ := hs2 h6'
            have e : y = x := e
            subst e
            have v1 : valB s y = false := v1
            have v2 : y.k ≠ 5 := v2
            have hoy := okL_mem hxl (List.mem_cons_self (a := y))
            obtain ⟨yk, ys, yn, yl⟩ := y
            have h0 := okB0 hoy v2 hx6
            subst h0
            refine ⟨?_, ?_⟩
            · rw [normB, redexB]
              have hx6 : yk ≠ 6 := hx6
              simp [Tm.k, hx6, normL]
            · rw [ubB]
              have v1 : (yk == 4 && (infOf s.V yn).bd) = false := v1
              rw [v1]; rfl
          · exact k5 y (by rw [if_pos h6]; exact e)
        · exact k5 y (by rw [if_neg h6]; exact hy)
      refine ⟨?_, ?_, by show (vis (.mk k str n us) : Int) + g2 ≤ f; rw [evis]; omega⟩
      · rw [normB, normL_iff.2 fun y hy => (all y hy).1, Bool.and_true, Bool.not_eq_true', redexB]
        by_cases h6 : k = 6
        · subst h6
          have := (hs2 rfl).2
          rw [← k3 rfl] at this
          show ((6 : Int) == 6 && (hd us).k == 5) = false
          simpa using this
        · show (k == 6 && (hd us).k == 5) = false
          simp [h6]
      · rw [ubB, ubL_iff.2 fun y hy => (all y hy).2, Bool.and_true]
        have hs1 : (k == 4 && (infOf s.V n).bd) = false := hs1
        show (!(k == 4 && (infOf s.V n).bd)) = true
        rw [hs1]; rfl
    · cases h80
/-! ### How many are gone through -/
theorem l_visits (k : Int) (str : List UInt8) (n : Int) (hk : k = 5 ∨ k ≠ 5) : ∀ (b a : List Tm) (acc : Nat), (∀ u ∈ b, AC Try.prog 34 [aT u] [] (ci (vis u : Int)) []) → (a ++ b).length ≤ SZ → acc + visT (k == 5 || decide (0 < a.length)) b ≤ SZ →
    RPt Try.prog 34 0 (ci ((acc + visT (k == 5 || decide (0 < a.length)) b : Nat) : Int)) [] 1 ⟨[(1, .c (.a (.ep 0 4 0 0))), (3, ci (acc : Int)), (4, ci (a.length : Int))], [(0, .arr 4 [cT (.mk k str n (a ++ b))])], 1⟩
  | [], a, acc, _, hl, _ => by
    refine RPt.vc hP sh lv34 (Eq.mpr (v34_1a (acc : Int) (a.length : Int) k str n (FTs (a ++ [])) _ _) ?_)
    exact ⟨rfl, br_of (fun h => absurd (of_decide_eq_true h) (geI' a)) (fun _ => ret_i (by simp [visT]))⟩
  | t :: b, a, acc, ih, hl, hb => by
    have hl' := hl
    simp only [List.length_append, List.length_cons, SZ] at hl'
    have h1 := ih t List.mem_cons_self
    have h3 := ltI' a t b
    have op : (FV.isSl 4 (.sl false 4 (FTs (a ++ t :: b))) = true) ∧ ((0 : Int) ≤ (a.length : Int)) ∧ ((a.length : Int) < (((FTs (a ++ t :: b)).length : Nat) : Int)) ∧ ((rE (List.getD (FTs (a ++ t :: b)) (Int.toNat (a.length : Int)) []) : List FV) = (List.getD (FTs (a ++ t :: b)) (Int.toNat (a.length : Int)) [])) := ⟨rfl, by omega, h3, rE_mid ..⟩
    have ee : ∀ c : Bool, visT c (t :: b) = (if c = true then vis t else 0) + visT true b := fun c => by rw [visT]
    have next := fun acc2 h => l_visits k str n hk b (a ++ [t]) acc2 (fun u hu => ih u (List.mem_cons_of_mem _ hu)) (by rw [ap]; exact hl) h
    have et : (k == 5 || decide (0 < (a ++ [t]).length)) = true := by simp
    rw [et] at next
    rw [ee] at hb ⊢
    rw [ap, nx] at next
    refine RPt.vc hP sh lv34 (Eq.mpr (v34_1a (acc : Int) (a.length : Int) k str n (FTs (a ++ t :: b)) _ _) ?_)
    rw [aE_mid, w64 (x := (a.length : Int) + 1) (by omega) (by omega)]
    have go : (k == 5 || decide (0 < a.length)) = true → RPt Try.prog 34 0 (ci ((acc + ((if (k == 5 || decide (0 < a.length)) = true then vis t else 0) + visT true b) : Nat) : Int)) [] 1 ⟨[(1, .c (.a (.ep 0 4 0 0))), (3, ci (IntKind.wrap .i64 ((acc : Int) + (vis t : Int)))), (4, ci ((a.length : Int) + 1))], [(0, .arr 4 [cT (.mk k str n (a ++ t :: b))])], 1⟩ := fun hc => by
      rw [if_pos hc] at hb ⊢
      simp only [SZ] at hb
      have := next (acc + vis t) (by simp only [SZ]; omega)
      rw [w64 (x := (acc : Int) + (vis t : Int)) (by omega) (by omega)]
      rw [show acc + (vis t + visT true b) = acc + vis t + visT true b by omega]
      rw [show ((acc + vis t : Nat) : Int) = (acc : Int) + (vis t : Int) by omega] at this
      exact this
    refine ⟨rfl, br_of (fun _ => br_of (fun h5 => ⟨op, _, h1, go (by rw [show (k == 5) = true from h5]; rfl)⟩) (fun h5 => br_of (fun h0 => ⟨op, _, h1, go (by rw [decide_eq_true (show 0 < a.length by have := of_decide_eq_true h0; omega), Bool.or_true])⟩) (fun h0 => ?_))) (fun h => absurd (of_decide_eq_false h) (by omega))⟩
    have hc : (k == 5 || decide (0 < a.length)) = false := by rw [show (k == 5) = false from h5, decide_eq_false (show ¬ 0 < a.length by have := of_decide_eq_false h0; omega)]; rfl
    rw [hc, if_neg (by simp)] at hb ⊢
    have := next acc (by omega)
    rw [Nat.zero_add]
    exact this
mutual
theorem vis_sz : ∀ t : Tm, vis t ≤ t.sz
  | .mk k s n l => by rw [vis, Tm.sz]; have := visT_sz l (k == 5); omega
theorem visT_sz : ∀ (l : List Tm) (b : Bool), visT b l ≤ Tm.szs l
  | [], _ => Nat.le_refl _
  | t :: l, b => by rw [visT, Tm.szs]; have := vis_sz t; have := visT_sz l true; split <;> omega
end
theorem c_visits15 : ∀ t : Tm, t.sz ≤ SZ → AC Try.prog 34 [aT t] [] (ci (vis t : Int)) [] := by
  refine Tm.ind fun t ih hs => ?_
  obtain ⟨k, str, n, l⟩ := t
  have hl := Tm.szs_length l
  have hv := vis_sz (.mk k str n l)
  simp only [Tm.sz] at hs hv
  refine AC.vc hP sh lv34 (Nat.le_refl _) (by simp) (by simp) (Eq.mpr (v34 k str n (FTs l) _ _) ?_)
  have := l_visits k str n (Int.lt_trichotomy k 5 |>.elim (fun h => .inr (by omega)) fun h => h.elim .inl fun h => .inr (by omega)) l [] 1 (fun u hu => ih u hu (by have := Tm.szs_mem hu; omega)) (by simp only [List.nil_append]; omega) (by
    rw [vis] at hv; simp only [List.length_nil, Nat.lt_irrefl, decide_false, Bool.or_false]; omega)
  simp only [List.length_nil, Nat.lt_irrefl, decide_false, Bool.or_false, List.nil_append] at this
  rw [vis]
  exact this

end Go.AM

set_option maxRecDepth 100000
open Go Go.Proofs
namespace Go.AM

/-! ### The law: in full -/
theorem varsF_ub {s : Sto} : ∀ (t : Tm) (acc : List Int), okB t = true → ubB s t = true → ∀ x ∈ varsF t acc, x ∈ acc ∨ (infOf s.V x).bd = false := by
  refine Tm.ind fun t ih acc ho hu x hx => ?_
  obtain ⟨k, str, n, l⟩ := t
  rw [ubB, Bool.and_eq_true, Bool.not_eq_true'] at hu
  rw [varsF] at hx
  split at hx
  · have hol := okB_l ho
    have go : ∀ (b : List Tm), (∀ u ∈ b, u ∈ l) → ubL s b = true → ∀ acc, x ∈ varsL b acc → x ∈ acc ∨ (infOf s.V x).bd = false := by
      intro b
      induction b with
      | nil => intro _ _ acc h; exact .inl h
      | cons u b ihb =>
        intro hb hub acc h
        rw [ubL, Bool.and_eq_true] at hub
        rw [varsL] at h
        rcases ihb (fun v hv => hb v (List.mem_cons_of_mem _ hv)) hub.2 _ h with h | h
        · exact ih u (hb u List.mem_cons_self) acc (okL_mem hol (hb u List.mem_cons_self)) hub.1 x h
        · exact .inr h
    exact go l (fun _ h => h) hu.2 acc hx
  · unfold varsLeaf at hx
    split at hx
    · rename_i q
      rw [Bool.and_eq_true] at q
      rcases List.mem_append.1 hx with h | h
      · exact .inl h
      · simp only [List.mem_singleton, Tm.n] at h
        subst h
        have hk : (k == 4) = true := q.1
        rw [hk, Bool.true_and] at hu
        exact .inr hu.1
    · exact .inl hx
theorem fullF_bd {s : Sto} (hs : OKS s) (E : Nat) : ∀ (D : Nat) (f : Int) (t : Tm), f.toNat ≤ D → 0 ≤ f → validB t = true → Fit (f.toNat + E) t → (fullF s D f t).2.1 = 0 → bd (M61 - SZ - SZ * E) (fullF s D f t).1
  | 0, f, t, _, _, _, _, h => by rw [fullF] at h; cases h
  | D + 1, f, t, hD, h0, hv, hf, h => by
    have hok := fullF_ok hs
    rw [fullF] at h ⊢
    split
    · rename_i q; rw [if_pos q] at h; cases h
    rename_i q
    rw [if_neg q] at h
    have hfit := hf.mono (show (f - 1).toNat + E ≤ f.toNat + E by omega)
    have hq := runH_fit hs hv hfit
    have hm := runH_more2 s (f - 1).toNat t E
    have hle := runH_le s (f - 1).toNat t
    have eh : headP s (f - 1) t = ((runH s (f - 1).toNat t).1, (runH s (f - 1).toNat t).2.1, f - 1 - ((runH s (f - 1).toNat t).2.2 : Int)) := rfl
    rw [eh, fullK] at h ⊢
    split
    · rename_i q2; rw [if_pos q2] at h; exact absurd h q2
    rename_i q2
    rw [if_neg q2] at h
    have he : (runH s (f - 1).toNat t).2.1 = 0 := by simpa using q2
    rw [hm he] at hq
    generalize runH s (f - 1).toNat t = q at *
    obtain ⟨x, er, u⟩ := q
    simp only at hq h hle he ⊢
    obtain ⟨hu, hq⟩ := hq
    rcases hq with ⟨_, hvx, hfx, _⟩ | ⟨h80, _⟩
    · obtain ⟨k, str, n, l⟩ := x
      simp only [Tm.l, Tm.k, Tm.s, Tm.n] at h ⊢
      have hg0 : 0 ≤ f - 1 - (u : Int) := by omega
      have hfb : bd (M61 - SZ - SZ * E) (.mk k str n l) := bd_le (by
        have : SZ * E ≤ SZ * ((f - 1).toNat + E - u) := Nat.mul_le_mul_left _ (by omega)
        have h2 : ((SZ * E : Nat) : Int) ≤ ((SZ * ((f - 1).toNat + E - u) : Nat) : Int) := by exact_mod_cast this
        push_cast at h2 ⊢
        omega) _ hfx.2.2.1
      have hkid : ∀ x ∈ l, k = 5 ∨ k = 6 := fun x hx => by
        by_cases h5 : k = 5 ∨ k = 6
        · exact h5
        · rw [not_or] at h5
          have := okB0 (valid_ok _ hvx) h5.1 h5.2
          rw [this] at hx; cases hx
      have kid : ∀ x ∈ l, ∀ g' : Int, 0 ≤ g' → g' ≤ f - 1 - (u : Int) → (fullF s D g' x).2.1 = 0 → bd (M61 - SZ - SZ * E) (fullF s D g' x).1 ∧ (fullF s D g' x).1.sz + 4200 * (fullF s D g' x).2.2.toNat ≤ x.sz + 4200 * g'.toNat := fun x hx g' a b c =>
        ⟨fullF_bd hs E D g' x (by omega) a (kid_valid hvx (hkid x hx) x hx) ((hfx.kid (show x ∈ Tm.l (.mk k str n l) from hx)).mono (by omega)) c,
          (hok D g' x (by omega) a (kid_valid hvx (hkid x hx) x hx) ((hfx.kid (show x ∈ Tm.l (.mk k str n l) from hx)).mono (by omega)) c).2⟩
      unfold fullN at h ⊢
      split
      · rename_i q3; rw [if_pos q3] at h; exact absurd h q3
      rename_i q3
      have h9 : (kidsF (fullF s D) (k == 6) l (f - 1 - (u : Int))).2.1 = 0 := by simpa using q3
      have sub : ∀ x ∈ (if (k == 6) = true then l.drop 1 else l), x ∈ l := fun x hx => by
        split at hx
        · exact List.mem_of_mem_drop hx
        · exact hx
      have hk := kidsF_ok (A := fun _ y => bd (M61 - SZ - SZ * E) y) (fullF_left s D) l (k == 6) (f - 1 - (u : Int)) hg0 (fun x hx g' a b c => kid x (sub x hx) g' a b c) h9
      generalize kidsF (fullF s D) (k == 6) l (f - 1 - (u : Int)) = r at *
      obtain ⟨us, er2, g2⟩ := r
      simp only at hk ⊢
      obtain ⟨k1, k2, k3, k4⟩ := hk
      have k5 := all2_mem (Q := fun y => bd (M61 - SZ - SZ * E) y) (fun _ _ h => h) k4
      refine ⟨hfb.1, bds_of fun y hy => ?_⟩
      by_cases h6 : (k == 6) = true
      · rcases mem_hd hy with e | e
        · rw [k3 h6] at e
          have hl : l ≠ [] := fun e2 => by rw [e2] at k2; rw [List.eq_nil_of_length_eq_zero k2] at hy; cases hy
          have hm : y ∈ l := by cases l with
            | nil => exact absurd rfl hl
            | cons z l => rw [e]; exact List.mem_cons_self
          exact bds_mem hfb.2 hm
        · exact k5 y (by rw [if_pos h6]; exact e)
      · exact k5 y (by rw [if_neg h6]; exact hy)
    · rw [he] at h80; cases h80
abbrev hpF (t : Tm) (s : Sto) (u : Tm) : AHeap := [(0, .arr 4 [cT t]), (1, sto2 2 3 s), (2, .arz 6 (SR s.V)), (3, .arz 1 (IR s.T)), (4, .arr 4 [cT u])]
abbrev evF5 (f n : Int) (vs : List Int) (i : Int) : Env := [(2, ci f), (4, .c (.a (.ep 0 4 0 0))), (7, cb true), (11, .c (.a (.ep 1 2 0 0))), (12, .c (.a (.ep 4 4 0 0))), (13, ci n), (18, aI vs), (19, ci i)]
theorem p_ful1 (s : Sto) {N : Nat} (hs : OKA s N) (t u : Tm) (f n : Int) (h h2 : Tm) (k : Int) (vs : List Int) (hvs : vs.length ≤ B) (hub : ∀ x ∈ vs, (infOf s.V x).bd = false) (hzu : u.sz ≤ SZ)
    (c1 : AC Try.prog 26 [aS 0, aT u, ci 2000] (oS s) (aHd (u, 2000 - (vis u : Int), 0)) (oS s)) (hvi : vis u ≤ 2000)
    (c2 : AC Try.prog 33 [aS 0, aT t, ci f] (oS s) (aHd (h, k, 0)) (oS s)) (c3 : AC Try.prog 26 [aS 0, aT h, ci k] (oS s) (aHd (u, n, 0)) (oS s)) :
    ∀ (m i : Nat), i + m = vs.length → RPt Try.prog 6 0 (cb true) [] 1 ⟨evF5 f n vs i, hpF t s u, 5⟩
  | 0, i, hi => by
    have hS := same_is (x := u) (y := u) (by simp only [SZ, B] at *; omega) rfl
    have hV := c_visits15 u hzu
    obtain ⟨tk, ts, tn, tl⟩ := t
    obtain ⟨uk, us, un, ul⟩ := u
    refine RPt.vc hP sh lv6 (Eq.mpr (v6_1a f true n (.sl false 1 (IR vs)) i tk ts tn (FTs tl) s.V.length s.T.length (SR s.V) (IR s.T) uk us un (FTs ul) _ _) ?_)
    refine ⟨rfl, br_of (fun h => absurd (of_decide_eq_true h) (by show ¬ (i : Int) < (((IR vs).length : Nat) : Int); rw [sIR_length]; omega)) (fun _ => ⟨(_, _, _), c1, _, hS, (_, _, _), c2, (_, _, _), c3, _, hS, br_of (fun _ => br_of (fun _ => ⟨_, hV, ?_⟩) (fun h => by cases h)) (fun h => by cases h)⟩)⟩
    rw [w64 (x := 2000 - (vis (.mk uk us un ul) : Int)) (by omega) (by omega)]
    exact br_of (fun _ => br_of (fun _ => br_of (fun _ => br_of (fun _ => br_of (fun _ => ret_b rfl) (fun h => by simp at h)) (fun h => by cases h)) (fun h => by cases h)) (fun h => by cases h)) (fun h => by simp at h)
  | m + 1, i, hi => by
    have hlt : i < vs.length := by omega
    have next := p_ful1 s hs t u f n h h2 k vs hvs hub hzu c1 hvi c2 c3 m (i + 1) (by omega)
    have hx := hub vs[i] (List.getElem_mem hlt)
    have hc := c_sinfo s vs[i]
    have eg : List.getD (IR vs) (Int.toNat (i : Int)) [] = [.int .i64 vs[i]] := by rw [Int.toNat_natCast]; simp [IR, List.getD, hlt]
    simp only [B] at hvs
    obtain ⟨tk, ts, tn, tl⟩ := t
    obtain ⟨uk, us, un, ul⟩ := u
    refine RPt.vc hP sh lv6 (Eq.mpr (v6_1a f true n (.sl false 1 (IR vs)) i tk ts tn (FTs tl) s.V.length s.T.length (SR s.V) (IR s.T) uk us un (FTs ul) _ _) ?_)
    have es : FV.ses (.sl false 1 (IR vs)) = IR vs := rfl
    rw [es, eg, w64 (x := (i : Int) + 1) (by omega) (by omega)]
    refine ⟨rfl, br_of (fun _ => ⟨⟨rfl, by omega, by rw [sIR_length]; omega, rfl⟩, (_, _, _, _), hc, br_of (fun _ => br_of (fun h => ?_) (fun _ => next)) (fun _ => next)⟩) (fun h => absurd (of_decide_eq_false h) (by rw [sIR_length]; omega))⟩
    have h : (infOf s.V vs[i]).bd = true := h
    rw [hx] at h; cases h
theorem c_storefulls (l : List I3T) (t : Tm) (f : Int) (hk : ∀ v ∈ l, v.2.1.bk ≤ B) (hkt : t.bk ≤ B) (hf0 : 0 - 9223372036854775808 ≤ f) : AC Try.prog 6 [aV7 l, aT t, ci f] [] (cb true) [] := by
  have o1 := c_over15 l hk
  have hz := Nat.le_trans (Tm.sz_bk t) hkt
  have l1 := c_large t hz 30 (by omega) (by omega)
  have n1 := c_near 1099511627776 (by omega) (by omega) t hz
  have go : ∀ s, OKA s 40 → t.sz ≤ 30 → bd 1099511627776 t → f ≤ 60 → (FullV s f t).2.2 = 0 →
      (validB (FullV s f t).1 = true ∧ normB (FullV s f t).1 = true ∧ shortF (FullV s f t).1 = (FullV s f t).1 ∧ (FullV s f t).2.1 ≤ f ∧ (FullV s f t).1.sz ≤ SZ ∧ bd M61 (FullV s f t).1) ∧
      RPt Try.prog 6 0 (cb true) [] 1 ⟨evF5 f (FullV s f t).2.1 (varsF (FullV s f t).1 []) 0, hpF t s (FullV s f t).1, 5⟩ := fun s hs hz30 hbd hf60 h => by
    have hvt : validB t = true := by
      cases q : validB t with
      | true => rfl
      | false => rw [FullV, if_neg (by rw [q]; simp)] at h; cases h
    have fit : Fit f.toNat t := ⟨valid_ok _ hvt, by simp only [SZ]; omega, bd_le (by simp only [M61, SZ]; omega) _ hbd, by omega⟩
    have q : (fullF s f.toNat f t).2.1 = 0 := by
      rw [FullV, if_pos hvt] at h
      by_cases q : (fullF s f.toNat f t).2.1 = 0
      · exact q
      · rw [if_neg q] at h; exact absurd h q
    have e : FullV s f t = (shortF (fullF s f.toNat f t).1, (fullF s f.toNat f t).2.2, 0) := by rw [FullV, if_pos hvt, if_pos q]
    have g0 : 0 ≤ f := by
      rcases Int.le_total 0 f with q' | q'
      · exact q'
      · rw [fullF_neg _ _ t q'] at q; cases q
    have g1 : ¬ f ≤ 0 := fun q' => by rw [fullF_neg _ _ t q'] at q; cases q
    have hbd2 := fullF_bd hs.ok 2000 f.toNat f t (Nat.le_refl _) g0 hvt ⟨valid_ok _ hvt, by simp only [SZ]; omega, bd_le (by simp only [M61, SZ]; omega) _ hbd, by omega⟩ q
    have ok := fullF_ok hs.ok f.toNat f t (Nat.le_refl _) g0 hvt fit q
    have nf := fullF_nf hs.ok f.toNat f t (Nat.le_refl _) g0 hvt fit q
    have lf := fullF_left s f.toNat f t g0
    have fsz := fit.2.1
    -- its head first
    have hq := runH_fit hs.ok hvt (fit.mono (show (f - 1).toNat ≤ f.toNat by omega))
    obtain ⟨D, hD⟩ : ∃ D, f.toNat = D + 1 := ⟨f.toNat - 1, by omega⟩
    have eF : fullF s f.toNat f t = fullK (fullF s D) (headP s (f - 1) t) := by rw [hD, fullF, if_neg g1]
    have hm := runH_more2 s (f - 1).toNat t 1
    have heq : (runH s (f - 1).toNat t).2.1 = 0 := by
      rw [eF, fullK] at q
      by_cases q2 : (headP s (f - 1) t).2.1 = 0
      · exact q2
      · rw [if_pos q2] at q; exact absurd q q2
    have hm := hm heq
    rw [show (f - 1).toNat + 1 = f.toNat by omega] at hm
    obtain ⟨x, hx1, hx2, hx3⟩ : ∃ x : Tm × Int × Nat, runH s (f - 1).toNat t = x ∧ x.2.1 = 0 ∧ x.2.2 ≤ (f - 1).toNat := ⟨_, rfl, heq, hq.1⟩
    rw [hx1] at hm hq
    have eP : headP s (f - 1) t = (x.1, 0, f - 1 - (x.2.2 : Int)) := by unfold headP; rw [hx1, hx2]
    have eH : headV s f t = (x.1, f - (x.2.2 : Int), 0) := by rw [headV, if_pos hvt, hm, if_pos hx2]
    rcases hq.2 with ⟨_, hvx, hfx, hst⟩ | ⟨h80, _⟩
    · have c2 := c_sHead s hs.ok f t hf0 hz (fun _ => fit)
      rw [eH] at c2
      have hfx2 : Fit (f - (x.2.2 : Int)).toNat x.1 := by
        refine ⟨hfx.1, ?_, ?_, by omega⟩
        · have := runH_sz hs.ok (f - 1).toNat t hvt (fit.mono (show (f - 1).toNat ≤ f.toNat by omega)) heq
          rw [hx1] at this
          have h2 := fit.2.1
          have h3 : (f - (x.2.2 : Int)).toNat = (f - 1).toNat - x.2.2 + 1 := by omega
          have h4 : f.toNat = (f - 1).toNat + 1 := by omega
          rw [h3]
          rw [h4] at h2
          omega
        · have h1 := runH_fit hs.ok hvt fit
          rw [hm] at h1
          rcases h1.2 with ⟨_, _, a, _⟩ | ⟨a, _⟩
          · rw [show (f - (x.2.2 : Int)).toNat = f.toNat - x.2.2 by omega]; exact a.2.2.1
          · rw [hx2] at a; cases a
      have c3 := c_sFull s hs.ok (f - (x.2.2 : Int)) x.1 (by omega) (by have := hfx.sz; simp only [SZ, B] at *; omega) (fun _ => hfx2)
      have e3 : FullV s (f - (x.2.2 : Int)) x.1 = FullV s f t := by
        have e4 : fullF s (f - (x.2.2 : Int)).toNat (f - (x.2.2 : Int)) x.1 = fullF s f.toNat f t := by
          obtain ⟨D2, hD2⟩ : ∃ D2, (f - (x.2.2 : Int)).toNat = D2 + 1 := ⟨(f - (x.2.2 : Int)).toNat - 1, by omega⟩
          have e5 : headP s (f - (x.2.2 : Int) - 1) x.1 = (x.1, 0, f - 1 - (x.2.2 : Int)) := by
            unfold headP
            rw [runH_nf hst]
            exact Prod.ext rfl (Prod.ext rfl (by simp only; omega))
          rw [hD2, fullF, if_neg (by omega), e5, eF, eP]
          unfold fullK
          split
          · rfl
          · rw [kidsF_same (fullF_left s D2) _ _ _ (by simp only; omega) fun t g a b => fullF_same s D2 D g t (by simp only at b; omega) (by simp only at b; omega)]
        rw [FullV, if_pos hvx, e4, if_pos q, e]
      rw [e3] at c3
      rw [e] at c3 ⊢
      generalize fullF s f.toNat f t = z at *
      obtain ⟨z1, z2, z3⟩ := z
      simp only at ok nf lf c3 ⊢
      obtain ⟨⟨k1, k2⟩, k3⟩ := ok
      have ho := valid_ok _ k1
      have so := shortF_ok z1 ho
      have sn := short_nf s z1 ho nf.1 nf.2.1
      have s1 : validB (shortF z1) = true := by rw [valid_iff, so.1, so.2.1 (valid_lv k1)]; rfl
      have s2 := short_norm z1 ho nf.1
      have s3 := short_twice ho
      have s4 : (shortF z1).sz ≤ SZ := by have := so.2.2.1; simp only [SZ] at *; omega
      have s5 := so.2.2.2 M61 (by simp only [M61]; omega) k2
      refine ⟨⟨s1, s2, s3, by omega, s4, s5⟩, ?_⟩
      have hv60 : vis (shortF z1) ≤ 60 := by have := sn.2; omega
      have c1 := c_sFull s hs.ok 2000 (shortF z1) (by omega) (by simp only [SZ, B] at *; omega) (fun _ => ⟨so.1, by
        have h6 := so.2.2.1
        have h7 := fit.2.1
        have h8 : (2000 : Int).toNat = 2000 := rfl
        rw [h8]
        simp only [SZ]
        omega, bd_le (by decide) _ (so.2.2.2 (M61 - SZ - SZ * 2000) (by simp only [M61, SZ]; decide) ?_), by decide⟩)
      · have e1 : FullV s 2000 (shortF z1) = (shortF z1, 2000 - (vis (shortF z1) : Int), 0) := by
          rw [FullV, if_pos s1, full_fix s (2000 : Int).toNat 2000 (shortF z1) (Nat.le_refl _) so.1 s2 sn.1 (by omega), if_pos rfl, s3]
        rw [e1] at c1
        have hvl := varsF_len (shortF z1) []
        exact p_ful1 s hs t (shortF z1) f z3 x.1 x.1 _ (varsF (shortF z1) []) (by simp only [List.length_nil, SZ, B] at *; omega) (fun y hy => by
          rcases varsF_ub (s := s) (shortF z1) [] so.1 sn.1 y hy with h | h
          · cases h
          · exact h) s4 c1 (by omega) c2 c3 (varsF (shortF z1) []).length 0 (by omega)
      · exact hbd2
    · rw [hx2] at h80; cases h80
  obtain ⟨tk, ts, tn, tl⟩ := t
  refine AC.vc hP sh lv6 (Nat.le_refl _) (by simp) (by simp) (Eq.mpr (v6 (l.map FI3T) tk ts tn (FTs tl) f _ _) ?_)
  refine ⟨_, c_works15, br_of (fun h => by cases h) (fun _ => ⟨_, o1, _, l1, _, n1, br_of (fun _ => ret_b rfl) (fun e1 => br_of (fun _ => ret_b rfl) (fun e2 => br_of (fun _ => ret_b rfl) (fun e3 => br_of (fun _ => ret_b rfl) (fun e4 => ?_))))⟩)⟩
  obtain ⟨a1, a2⟩ := over_no e1
  have z1 := large_sz e2
  have e3 : near 1099511627776 (.mk tk ts tn tl) = true := (Bool.not_eq_false' _).mp e3
  have hbd := near_bd _ e3
  have e4 := of_decide_eq_false e4
  have hs : OKA (laidV sNil l) 40 := (OKA.acts OKA.nil a2 hk).more (by omega)
  have G := go (laidV sNil l) hs (by omega) hbd (by omega)
  have cl := c_laid15 l a2 hk a1
  generalize laidV sNil l = s at *
  have cF := c_sFull s hs.ok f (.mk tk ts tn tl) hf0 hz (fun hv => ⟨valid_ok _ hv, by simp only [SZ]; omega, bd_le (by simp only [M61, SZ]; omega) _ hbd, by omega⟩)
  have hE : (FullV s f (.mk tk ts tn tl)).2.2 ≠ 0 → (FullV s f (.mk tk ts tn tl)).2.1 = 0 := fun he => by
    unfold FullV at he ⊢
    split
    · rename_i q
      rw [if_pos q] at he
      split
      · rename_i q2; rw [if_pos q2] at he; exact absurd rfl he
      · rfl
    · rfl
  generalize FullV s f (.mk tk ts tn tl) = A at *
  obtain ⟨A1, A2, A3⟩ := A
  simp only at hE G cF
  refine ⟨_, cl, (A1, A2, A3), cF, br_of (fun he => br_of (fun _ => ?_) (fun h => by cases h)) (fun he => ?_)⟩
  · have he : A3 ≠ 0 := by simpa using he
    have := hE he
    subst this
    exact ret_b rfl
  · have he : A3 = 0 := by simpa using he
    obtain ⟨⟨b1, b2, b3, b4, b5, b6⟩, b7⟩ := G he
    have b8 : A1.sz ≤ B := Nat.le_trans b5 (by decide)
    have v1 := c_valid A1 b8
    have v2 := c_bNormal A1 b8
    have v3 := c_eShort A1 b5 b6
    rw [if_pos b1, b3] at v3
    rw [b1] at v1 v2
    rw [b2] at v2
    have v4 := c_vars A1 b8
    refine ⟨_, v1, _, v2, _, v3, _, same_is b8 rfl, br_of (fun h => by cases h) (fun _ => br_of (fun h => by cases h) (fun _ => br_of (fun h => by cases h) (fun _ => br_of (fun h => by have h : A2 > f := of_decide_eq_true h; have b4 : A2 ≤ f := b4; omega) (fun _ => ⟨_, v4, b7⟩))))⟩

end Go.AM

set_option maxRecDepth 100000
open Go Go.Proofs
namespace Go.Proofs.Ytlemgmcjggkhdaa.base
open Go.ChangeShapes Go.WideShapes Go.ChangeAt Go.RowKit Go.AM

theorem one_le {H : Type} (d : DataW H) : 1 ≤ Rows.uptoBulk d := by
  cases d with
  | lit l => cases l <;> simp [Rows.uptoBulk]
  | _ => simp [Rows.uptoBulk]
theorem bulk {H : Type} : Bulk (H := H) Rows.uptoBulk Rows.uptoBulkAll :=
  ⟨rfl, fun _ _ => rfl, one_le, fun es sp => by simp only [Rows.uptoBulk]; omega, fun l => by simp [Rows.uptoBulk], fun l => by simp [Rows.uptoBulk]⟩
theorem own : ownKnob Try.prog.godebug = none := by kernel_rfl
theorem laidOut : laidOutB Try.prog = true := by kernel_rfl
theorem tmTy : ∃ f0 f1 f2 f3 : Field, TmTy Try.prog 35 f0 f1 f2 f3 :=
  ⟨_, _, _, _, Try.underlying35, Try.underlying32, Try.underlying9, Try.underlying3, Try.underlying33, rfl, rfl, rfl, rfl, by kernel_rfl, by kernel_rfl, by kernel_rfl, by kernel_rfl, by kernel_rfl⟩
theorem rec3 : Try.prog.readableRec 3 = true := by kernel_rfl
theorem lt3 : 3 < Try.prog.types.size := of_decide_eq_true (by kernel_rfl)
theorem rec9 : Try.prog.readableRec 9 = true := by kernel_rfl
theorem lt9 : 9 < Try.prog.types.size := of_decide_eq_true (by kernel_rfl)
theorem rec22 : Try.prog.readableRec 22 = true := by kernel_rfl
theorem lt22 : 22 < Try.prog.types.size := of_decide_eq_true (by kernel_rfl)
theorem rec30 : Try.prog.readableRec 30 = true := by kernel_rfl
theorem lt30 : 30 < Try.prog.types.size := of_decide_eq_true (by kernel_rfl)
theorem rec33 : Try.prog.readableRec 33 = true := by kernel_rfl
theorem lt33 : 33 < Try.prog.types.size := of_decide_eq_true (by kernel_rfl)
theorem rec35 : Try.prog.readableRec 35 = true := by kernel_rfl
theorem lt35 : 35 < Try.prog.types.size := of_decide_eq_true (by kernel_rfl)
theorem rec71 : Try.prog.readableRec 71 = true := by kernel_rfl
theorem lt71 : 71 < Try.prog.types.size := of_decide_eq_true (by kernel_rfl)
theorem noGl (g : Nat) (h : Try.prog.globalNamed "internal/strconv.uint64pow10" = some g) : False := by
  rw [show Try.prog.globalNamed "internal/strconv.uint64pow10" = none by kernel_rfl] at h; cases h
theorem num_range {n : Int} (h : (Lit.int .i64 n).wf = true) : -9223372036854775808 ≤ n ∧ n ≤ 9223372036854775807 := by
  simp only [Lit.wf, IntKind.min, IntKind.max, IntKind.signed, IntKind.bits, Bool.and_eq_true, decide_eq_true_eq, if_true] at h; omega
theorem upto {H : Type} {l : List (DataW H)} (hk : Rows.uptoSmall H l = true) : Rows.uptoBulkAll l ≤ 1048576 := of_decide_eq_true hk
end Go.Proofs.Ytlemgmcjggkhdaa.base
