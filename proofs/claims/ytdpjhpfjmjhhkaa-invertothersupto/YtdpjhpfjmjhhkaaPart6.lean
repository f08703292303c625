/- A calculus of plain values for the model's code, what the code of each function asks (computed by the kernel), contracts of the functions, and plain laws (part 6). No conditions. -/
import Derived.Test.YtdpjhpfjmjhhkaaPart5
import Derived.Test.YtdpjhpfjmjhhkaaPart3
import Derived.ProofKit
import Derived.OpenShut
import Derived.JoinedCond
import Derived.WalkKit
import Derived.Test.YtdpjhpfjmjhhkaaRows
set_option maxRecDepth 100000
open Go Go.Proofs
namespace Go.AM

/-! ### Variables more, bound -/
abbrev oS' (s : Sto) : List AObj := [sto2 3 4 s, .gone, .gone, .arz 6 (SR s.V), .arz 1 (IR s.T)]
def freshS (s : Sto) (lv : Int) : Sto := ⟨s.V ++ [⟨foldMax [lv, 0], false, noT⟩], s.T⟩
theorem sIR_length (l : List Int) : (IR l).length = l.length := by simp [IR]
theorem sIR_append (a b : List Int) : IR (a ++ b) = IR a ++ IR b := by simp [IR]
/-- Rows, one after another. -/
theorem ole_rows {n : Nat} {fs gs : List (List FV)} (hl : gs.length = fs.length) (h : ∀ (i : Nat) (e e' : List FV), fs[i]? = some e → gs[i]? = some e' → LeR e e') : OLe (.arz n fs) (.arz n gs) :=
  .rows n fs gs (by omega) (fun i e e' he he' => (h i e e' he he').length) (fun i j e e' f f' he he' hf hf' => (h i e e' he he').get j f f' hf hf')
theorem ole_app {n : Nat} {a : List (List FV)} {x y : List FV} (h : LeR x y) : OLe (.arz n (a ++ [x])) (.arz n (a ++ [y])) := by
  refine ole_rows (by simp) fun i e e' he he' => ?_
  by_cases q : i < a.length
  · rw [List.getElem?_append_left q] at he he'
    rw [he] at he'; injection he' with he'; subst he'; exact LeR.refl _
  · rw [List.getElem?_append_right (by omega)] at he he'
    cases hi : i - a.length with
    | zero => rw [hi] at he he'; simp at he he'; subst he; subst he'; exact h
    | succ k => rw [hi] at he; simp at he
theorem ole_set {n i : Nat} {a : List (List FV)} {x y : List FV} (h : LeR x y) : OLe (.arz n (a.set i x)) (.arz n (a.set i y)) := by
  refine ole_rows (by simp) fun j e e' he he' => ?_
  rw [List.getElem?_set] at he he'
  split at he
  · rename_i q
    rw [if_pos q] at he'
    split at he
    · rename_i q2; rw [if_pos q2] at he'; injection he with he; injection he' with he'; subst he; subst he'; exact h
    · cases he
  · rename_i q
    rw [if_neg q] at he'
    rw [he] at he'; injection he' with he'; subst he'; exact LeR.refl _
theorem c_sfresh (s : Sto) (lv : Int) (h : s.V.length ≤ 1073741824) : AC Try.prog 35 [aS 0, ci lv] (oS s) (ci (s.V.length : Int)) (oS' (freshS s lv)) := by
  have hrow : LeR [.int .i64 (foldMax [lv, 0]), .bool false, .int .i64 0, .str [], .int .i64 0, .nils] (Inf.c ⟨foldMax [lv, 0], false, noT⟩) := ⟨.refl _, .refl _, .refl _, .refl _, .refl _, leNil, trivial⟩
  have hV : (freshS s lv).V.length = s.V.length + 1 := by simp [freshS]
  refine AC.obj (Hs' := [.arr 2 [[.a (.osl 3 6 0 (s.V.length + 1)), .a (.osl 4 1 0 s.T.length)]], .gone, .gone, .arz 6 (SR s.V ++ [[.int .i64 (foldMax [lv, 0]), .bool false, .int .i64 0, .str [], .int .i64 0, .nils]]), .arz 1 (IR s.T)]) ?_ ⟨by rw [sto2, hV]; exact .refl _, .refl _, .refl _, ?_, .refl _, trivial⟩
  · refine AC.vc hP sh lv35 (by simp) (by simp [isLive]) (by simp [isLive]) (Eq.mpr (v35 ..) ?_)
    rw [w64 (x := (((s.V.length + 1 : Nat) : Int) - 1)) (by omega) (by omega), List.take_of_length_le (by rw [SR_length]; omega)]
    exact ⟨by omega, ⟨by rw [SR_length]; omega, by unfold roomB; omega⟩, by rw [show (((s.V.length + 1 : Nat) : Int) - 1) = (s.V.length : Int) by omega]; exact .refl _, rfl⟩
  · show OLe _ (.arz 6 (SR (s.V ++ [⟨foldMax [lv, 0], false, noT⟩])))
    rw [SR_append]
    exact ole_app hrow
def bindB (s : Sto) (x : Int) (t : Tm) : Bool := inB s.V x && (!(infOf s.V x).bd && (validB t && decide (looseF t 0 0 ≤ 0)))
def bindS (s : Sto) (x : Int) (t : Tm) : Sto := if bindB s x t = true then ⟨s.V.set x.toNat ⟨(infOf s.V x).lv, true, t⟩, s.T ++ [x]⟩ else s
def bindE (s : Sto) (x : Int) (t : Tm) : Int := if bindB s x t = true then 0 else 1
theorem bind_no {s : Sto} {x : Int} {t : Tm} (h : bindB s x t = false) : bindS s x t = s ∧ bindE s x t = 1 := by
  unfold bindS bindE; rw [h]; exact ⟨rfl, rfl⟩
theorem bind_yes {s : Sto} {x : Int} {t : Tm} (h : bindB s x t = true) : bindS s x t = ⟨s.V.set x.toNat ⟨(infOf s.V x).lv, true, t⟩, s.T ++ [x]⟩ ∧ bindE s x t = 0 := by
  unfold bindS bindE; rw [h]; exact ⟨rfl, rfl⟩
theorem inB_of {V : List Inf} {x : Int} (h0 : 0 ≤ x) (h1 : x < (V.length : Int)) : inB V x = true := by simp [inB]; omega
theorem bind_end {s : Sto} {x : Int} {t : Tm} (hb : bindB s x t = true) (h0 : 0 ≤ x) (h1 : x < (s.V.length : Int)) {e : List FV} (he : LeR e (Inf.c ⟨(infOf s.V x).lv, true, t⟩)) :
    All2 OLe [.arr 2 [[.a (.osl 3 6 0 s.V.length), .a (.osl 4 1 0 (s.T.length + 1))]], .gone, .gone, .arz 6 (List.set (SR s.V) (0 + x.toNat) e), .arz 1 (IR s.T ++ [[.int .i64 x]])] (oS' (bindS s x t)) := by
  rw [(bind_yes hb).1]
  refine ⟨by rw [sto2, List.length_set, List.length_append]; exact .refl _, .refl _, .refl _, ?_, ?_, trivial⟩
  · show OLe _ (.arz 6 (SR (s.V.set x.toNat _)))
    rw [show SR (s.V.set x.toNat ⟨(infOf s.V x).lv, true, t⟩) = List.set (SR s.V) (0 + x.toNat) (Inf.c ⟨(infOf s.V x).lv, true, t⟩) by rw [Nat.zero_add, SR, SR, List.map_set]]
    exact ole_set he
  · show OLe _ (.arz 1 (IR (s.T ++ [x])))
    rw [sIR_append]; exact .refl _
theorem c_sbind (s : Sto) (x : Int) (t : Tm) (hT : s.T.length ≤ 1073741824) (hz : t.sz ≤ B) (hb : bd M61 t) : AC Try.prog 50 [aS 0, ci x, aT t] (oS s) (ci (bindE s x t)) (oS' (bindS s x t)) := by
  have h1 := c_sinfo s x
  have h2 := c_valid t hz
  have h3 := c_loose t hz hb
  have hB : bindB s x t = (inB s.V x && (!(infOf s.V x).bd && (validB t && decide (looseF t 0 0 ≤ 0)))) := rfl
  cases hq : bindB s x t with
  | false =>
    rw [(bind_no hq).1, (bind_no hq).2]
    rw [hq] at hB
    obtain ⟨k, str, n, l⟩ := t
    refine AC.vc hP sh lv50 (by simp) (by simp [isLive]) (by simp [isLive]) (Eq.mpr (v50 x k str n (FTs l) ..) ?_)
    refine ⟨(_, _, _, _), h1, br_of (fun _ => ⟨.refl _, rfl⟩) (fun e1 => br_of (fun _ => ⟨.refl _, rfl⟩) (fun e2 => ⟨_, h2, br_of (fun _ => ⟨.refl _, rfl⟩) (fun e3 => ⟨_, h3, br_of (fun _ => ⟨.refl _, rfl⟩) (fun e4 => ?_)⟩)⟩))⟩
    exfalso
    have e1 : (!(inB s.V x)) = false := e1
    have e1 : inB s.V x = true := by cases h : inB s.V x; · rw [h] at e1; cases e1
                                     · rfl
    have e2 : (infOf s.V x).bd = false := e2
    have e3 : validB (.mk k str n l) = true := by simpa using e3
    rw [e1, e2, e3, decide_eq_true (by have := of_decide_eq_false e4; omega)] at hB
    cases hB
  | true =>
    rw [(bind_yes hq).2]
    have hq' := hq
    rw [hB] at hq'
    simp only [Bool.and_eq_true, Bool.not_eq_true', decide_eq_true_eq] at hq'
    obtain ⟨g1, g2, g3, g4⟩ := hq'
    have g1' : 0 ≤ x ∧ x < (s.V.length : Int) := by simp [inB] at g1; omega
    refine AC.obj (Hs' := [.arr 2 [[.a (.osl 3 6 0 s.V.length), .a (.osl 4 1 0 (s.T.length + 1))]], .gone, .gone, .arz 6 (List.set (SR s.V) (0 + x.toNat) [.int .i64 (infOf s.V x).lv, .bool true, .int .i64 t.k, .str t.s, .int .i64 t.n, .sl false 4 (FTs t.l)]), .arz 1 (IR s.T ++ [[.int .i64 x]])]) ?_ (bind_end hq g1'.1 g1'.2 (show LeR [.int .i64 (infOf s.V x).lv, .bool true, .int .i64 t.k, .str t.s, .int .i64 t.n, .sl false 4 (FTs t.l)] (Inf.c ⟨(infOf s.V x).lv, true, t⟩) from LeR.refl _))
    obtain ⟨hl, ei⟩ := infOf_in g1'.1 g1'.2
    obtain ⟨k, str, n, l⟩ := t
    refine AC.vc hP sh lv50 (by simp) (by simp [isLive]) (by simp [isLive]) (Eq.mpr (v50 x k str n (FTs l) ..) ?_)
    refine ⟨(_, _, _, _), h1, br_of (fun e => by have e : (!(inB s.V x)) = true := e; rw [g1] at e; cases e) (fun _ => br_of (fun e => by have e : (infOf s.V x).bd = true := e; rw [g2] at e; cases e) (fun _ => ⟨_, h2, br_of (fun e => by rw [g3] at e; cases e) (fun _ => ⟨_, h3, br_of (fun e => absurd (of_decide_eq_true e) (by omega)) (fun _ => ⟨g1', ⟨by rw [SR_length]; omega, ?_⟩, by omega, ⟨by rw [sIR_length]; omega, by unfold roomB; omega⟩, .refl _, ?_⟩)⟩)⟩))⟩
    · rw [Nat.zero_add, SR_get hl]; rfl
    · rw [List.take_of_length_le (by rw [sIR_length]; omega)]; rfl
theorem looseR_pos (t : Tm) (k : Int) : 0 ≤ looseR t k := by
  obtain ⟨kd, s, n, l⟩ := t
  rw [looseR]
  split
  · unfold maxI; split <;> omega
  · split
    · exact looseRL_ge _ _
    · exact Int.le_refl _
end Go.AM

set_option maxRecDepth 100000
open Go Go.Proofs
namespace Go.AM

/-! ### Package invert: what hangs, what is kept -/
theorem c_iodd (t : Tm) (hs : t.sz ≤ B) : AC Try.prog 61 [aT t] [] (cb (!validB t)) [] := by
  have hv := c_valid t hs
  obtain ⟨k, s, n, l⟩ := t
  refine AC.vc hP sh lv61 (Nat.le_refl _) (by simp) (by simp) (Eq.mpr (v61 k s n (FTs l) ..) ?_)
  exact ⟨_, hv, ret_b rfl⟩
theorem c_ivariable (x : Int) : AC Try.prog 79 [ci x] [] (aT (.mk 4 [] x [])) [] := by
  refine AC.vc hP sh lv79 (Nat.le_refl _) (by simp) (by simp) (Eq.mpr (v79 ..) ?_)
  exact ⟨leT (l := []) leNil, rfl⟩
theorem c_ibound (n : Int) : AC Try.prog 52 [ci n] [] (aT (.mk 3 [] n [])) [] := by
  refine AC.vc hP sh lv52 (Nat.le_refl _) (by simp) (by simp) (Eq.mpr (v52 ..) ?_)
  exact ⟨leT (l := []) leNil, rfl⟩
/-- A new variable; another one is bound to it, below abstractions, applied to some. -/
def hangT (s : Sto) (lams : Nat) (on : List Tm) : Tm := lamsF lams (applyF (.mk 4 [] (s.V.length : Int) []) on)
def hangS (s : Sto) (x lv : Int) (lams : Nat) (on : List Tm) : Sto := bindS (freshS s lv) x (hangT s lams on)
theorem c_hang (s : Sto) (x lv : Int) (lams : Nat) (on : List Tm) (hl : lams ≤ 1000000) (ho : on.length ≤ 1000000) (hV : s.V.length ≤ 1073741824) (hT : s.T.length ≤ 1073741824) (hz : (hangT s lams on).sz ≤ B) (hb : bd M61 (hangT s lams on)) :
    AC Try.prog 53 [aS 0, ci x, ci lv, ci (lams : Int), aL on] (oS s) (aT (.mk 4 [] (s.V.length : Int) [])) (oS' (hangS s x lv lams on)) := by
  have h1 := c_sfresh s lv (by omega)
  have h2 := c_ivariable (s.V.length : Int)
  have h3 := c_apply (.mk 4 [] (s.V.length : Int) []) on (by simp only [Tm.l, List.length_nil]; omega)
  have h4 := c_lams lams (applyF (.mk 4 [] (s.V.length : Int) []) on) (by omega)
  have h5 := c_sbind (freshS s lv) x (hangT s lams on) hT hz hb
  refine AC.vc hP sh lv53 (by simp) (by simp [isLive]) (by simp [isLive]) (Eq.mpr (v53 ..) ?_)
  exact ⟨(_, freshS s lv), h1, _, h2, _, h3, _, h4, (_, hangS s x lv lams on), h5, .refl _, rfl⟩

end Go.AM

set_option maxRecDepth 100000
open Go Go.Proofs
namespace Go.AM

/-! ### Prune -/
def onK (n : Int) : List Bool → Int → List Tm
  | [], _ => []
  | b :: r, i => if b = true then .mk 3 [] (n - 1 - i) [] :: onK n r (i + 1) else onK n r (i + 1)
def BR (l : List Bool) : List (List FV) := l.map fun b => [.bool b]
theorem BR_length (l : List Bool) : (BR l).length = l.length := by simp [BR]
abbrev hsP16 (s : Sto) (e : Inf) (rest : List (Nat × AObj)) : List (Nat × AObj) := (0, sto2 3 4 s) :: (1, .gone) :: (2, .gone) :: (3, .arz 6 (SR s.V)) :: (4, .arz 1 (IR s.T)) :: (5, .arr 6 [[.a (.fz (.int .i64 e.lv)), .a (.fz (.bool e.bd)), .a (.fz (.int .i64 e.v.k)), .a (.fz (.str e.v.s)), .a (.fz (.int .i64 e.v.n)), .a (.fz (.sl false 4 (FTs e.v.l)))]]) :: rest
abbrev stPb (s : Sto) (x : Int) (e : Inf) (keep : List Bool) (i : Nat) (o : List Tm) : St :=
  ⟨[(0, aS 0), (1, ci x), (2, .c (.a (.fz (.sl false 1 (BR keep))))), (7, .c (.a (.ep 5 6 0 0))), (9, .c (.a (.osl 6 4 0 o.length))), (24, .c (.a (.fz (.sl false 1 (BR keep))))), (25, ci (keep.length : Int)), (26, ci (i : Int))], hsP16 s e [(6, .arz 4 (FTs o))], 7⟩
end Go.AM

set_option maxRecDepth 100000
open Go Go.Proofs
namespace Go.AM

abbrev stPa (s : Sto) (x : Int) (e : Inf) (keep : List Bool) (i : Nat) : St :=
  ⟨[(0, aS 0), (1, ci x), (2, .c (.a (.fz (.sl false 1 (BR keep))))), (7, .c (.a (.ep 5 6 0 0))), (9, .c (.a (.fz .nils))), (24, .c (.a (.fz (.sl false 1 (BR keep))))), (25, ci (keep.length : Int)), (26, ci (i : Int))], hsP16 s e [], 6⟩
end Go.AM

set_option maxRecDepth 100000
open Go Go.Proofs
namespace Go.AM

def pruneS (s : Sto) (x : Int) (keep : List Bool) : Sto := if inB s.V x = true ∧ (infOf s.V x).bd = false then hangS s x (infOf s.V x).lv keep.length (onK (keep.length : Int) keep 0) else s
def pruneE (s : Sto) (x : Int) : Int := if inB s.V x = true ∧ (infOf s.V x).bd = false then 0 else 1
end Go.AM

set_option maxRecDepth 100000
open Go Go.Proofs
namespace Go.AM

/-! ### What is undone -/
abbrev aInf (i : Inf) : TV := .agg [.a (.fz (.int .i64 i.lv)), .a (.fz (.bool i.bd)), .a (.fz (.int .i64 i.v.k)), .a (.fz (.str i.v.s)), .a (.fz (.int .i64 i.v.n)), .a (.fz (.sl false 4 (FTs i.v.l)))]
theorem foldMin2 (a b : Int) (h : a ≤ b) : foldMin [a, b] = a := by
  simp only [foldMin, List.foldl, min, minOfLe]; rw [if_pos h]
theorem drop_get {l : List Int} {j : Nat} {x : Int} {xs : List Int} (h : l.drop j = x :: xs) : j < l.length ∧ List.getD (IR l) j [] = [.int .i64 x] ∧ l.drop (j + 1) = xs := by
  have hj : j < l.length := by
    rcases Nat.lt_or_ge j l.length with q | q
    · exact q
    · rw [List.drop_eq_nil_of_le q] at h; cases h
  rw [List.drop_eq_getElem_cons hj] at h
  injection h with h1 h2
  exact ⟨hj, by simp [IR, List.getD, hj, h1], h2⟩
def clrI (i : Inf) : Inf := ⟨i.lv, false, noT⟩
def clrV (V : List Inf) (x : Int) : List Inf := V.modify x.toNat clrI
def clrR (h : List (List FV)) (x : Int) : List (List FV) := List.set h (0 + x.toNat) [.int .i64 (FV.asI (List.getD (List.getD h (0 + x.toNat) []) 0 FV.nils)), .bool false, .int .i64 0, .str [], .int .i64 0, .nils]
/-- How a variable's row looks. -/
def RowOf (i : Inf) (r : List FV) : Prop := r = Inf.c i ∨ (i.bd = false ∧ i.v = noT ∧ r = [.int .i64 i.lv, .bool false, .int .i64 0, .str [], .int .i64 0, .nils])
def RowsOf (V : List Inf) (h : List (List FV)) : Prop := h.length = V.length ∧ ∀ (i : Nat) (v : Inf) (r : List FV), V[i]? = some v → h[i]? = some r → RowOf v r
theorem RowOf.le {i : Inf} {r : List FV} (h : RowOf i r) : LeR r (Inf.c i) := by
  rcases h with rfl | ⟨h1, h2, rfl⟩
  · exact LeR.refl _
  · obtain ⟨lv, bd, v⟩ := i
    simp only at h1 h2
    subst h1; subst h2
    exact ⟨.refl _, .refl _, .refl _, .refl _, .refl _, leNil, trivial⟩
theorem RowOf.sz {i : Inf} {r : List FV} (h : RowOf i r) : r.length = 6 ∧ FV.asI (List.getD r 0 FV.nils) = i.lv ∧ List.take 1 r = [.int .i64 i.lv] := by
  rcases h with rfl | ⟨_, _, rfl⟩ <;> exact ⟨rfl, rfl, rfl⟩
theorem SR_of (V : List Inf) : RowsOf V (SR V) := ⟨SR_length V, fun i v r h1 h2 => by
  rw [SR, List.getElem?_map, h1] at h2
  injection h2 with h2; exact .inl h2.symm⟩
theorem RowsOf.get {V : List Inf} {h : List (List FV)} (hr : RowsOf V h) {i : Nat} (hi : i < V.length) : RowOf V[i] (List.getD h i []) := by
  have h2 : i < h.length := by rw [hr.1]; exact hi
  have := hr.2 i _ _ (List.getElem?_eq_getElem hi) (List.getElem?_eq_getElem h2)
  simpa [List.getD, h2] using this
theorem clrV_length (V : List Inf) (x : Int) : (clrV V x).length = V.length := by simp [clrV]
theorem clrV_get (V : List Inf) (x : Int) (i : Nat) : (clrV V x)[i]? = V[i]?.map fun v => if x.toNat = i then clrI v else v := by
  rw [clrV, List.getElem?_modify]
  cases V[i]? with
  | none => rfl
  | some v => rfl
theorem RowsOf.clr {V : List Inf} {h : List (List FV)} (hr : RowsOf V h) {x : Int} (h1 : x.toNat < V.length) : RowsOf (clrV V x) (clrR h x) := by
  refine ⟨by rw [clrV_length, clrR, List.length_set, hr.1], fun i v r hv hh => ?_⟩
  rw [clrV_get] at hv
  rw [clrR, Nat.zero_add, List.getElem?_set] at hh
  obtain ⟨v0, hv0, rfl⟩ := Option.map_eq_some_iff.1 hv
  by_cases e : x.toNat = i
  · subst e
    rw [if_pos rfl, if_pos (by rw [hr.1]; exact h1)] at hh
    injection hh with hh
    have hg := (hr.get h1).sz
    rw [hg.2.1] at hh
    rw [if_pos rfl]
    have : V[x.toNat] = v0 := by rw [List.getElem?_eq_getElem h1] at hv0; injection hv0
    exact .inr ⟨rfl, rfl, by rw [← hh, this]; rfl⟩
  · rw [if_neg e] at hh ⊢
    exact hr.2 i _ _ hv0 hh
theorem clrs_length : ∀ (xs : List Int) (V : List Inf), (xs.foldl clrV V).length = V.length
  | [], _ => rfl
  | x :: xs, V => by rw [List.foldl_cons, clrs_length xs, clrV_length]
theorem clrs_rows : ∀ (xs : List Int) (V : List Inf) (h : List (List FV)), RowsOf V h → (∀ x ∈ xs, 0 ≤ x ∧ x < (V.length : Int)) → RowsOf (xs.foldl clrV V) (xs.foldl clrR h)
  | [], _, _, hr, _ => hr
  | x :: xs, V, h, hr, hx => by
    have h1 := hx x List.mem_cons_self
    exact clrs_rows xs _ _ (hr.clr (by omega)) fun y hy => by rw [clrV_length]; exact hx y (List.mem_cons_of_mem _ hy)
theorem clrs_get : ∀ (xs : List Int) (V : List Inf) (i : Nat), (xs.foldl clrV V)[i]? = V[i]?.map fun v => if xs.any (fun x => x.toNat == i) = true then clrI v else v
  | [], V, i => by simp
  | x :: xs, V, i => by
    rw [List.foldl_cons, clrs_get xs, clrV_get, Option.map_map]
    congr 1
    funext v
    simp only [Function.comp, List.any_cons, Bool.or_eq_true, beq_iff_eq]
    by_cases e1 : x.toNat = i <;> by_cases e2 : xs.any (fun x => x.toNat == i) = true <;> simp [e1, e2, clrI]
theorem ole_cut {n : Nat} {fs gs : List (List FV)} (hl : gs.length ≤ fs.length) (h : ∀ (i : Nat) (e e' : List FV), fs[i]? = some e → gs[i]? = some e' → LeR e e') : OLe (.arz n fs) (.arz n gs) :=
  .rows n fs gs hl (fun i e e' he he' => (h i e e' he he').length) fun i j e e' f f' he he' hf hf' => (h i e e' he he').get j f f' hf hf'
abbrev stU (T : List Int) (L m n : Nat) (h : List (List FV)) (i : Nat) : St :=
  ⟨[(0, aS 0), (3, .c (.a (.ep 5 2 0 0))), (4, ci (m : Int)), (22, .c (.a (.osl 4 1 m (T.length - m)))), (23, ci ((T.length - m : Nat) : Int)), (24, ci (i : Int))],
    [(0, .arr 2 [[.a (.osl 3 6 0 L), .a (.osl 4 1 0 T.length)]]), (1, .gone), (2, .gone), (3, .arz 6 h), (4, .arz 1 (IR T)), (5, .arr 2 [[.a (.fz (.int .i64 (m : Int))), .a (.fz (.int .i64 (n : Int)))]])], 6⟩
def undoS (s : Sto) (m n : Nat) : Sto := ⟨((s.T.drop m).foldl clrV s.V).take n, s.T.take m⟩
def OKT (s : Sto) : Prop := ∀ x ∈ s.T, 0 ≤ x ∧ x < (s.V.length : Int)
end Go.AM

set_option maxRecDepth 100000
open Go Go.Proofs
namespace Go.AM

/-! ### In full -/
def kidsF (fu : Int → Tm → Tm × Int × Int) : Bool → List Tm → Int → List Tm × Int × Int
  | _, [], g => ([], 0, g)
  | true, t :: l, g => (t :: (kidsF fu false l g).1, (kidsF fu false l g).2)
  | false, t :: l, g => if (fu g t).2.1 ≠ 0 then ([], (fu g t).2) else ((fu g t).1 :: (kidsF fu false l (fu g t).2.2).1, (kidsF fu false l (fu g t).2.2).2)
def fullN (h : Tm) (r : List Tm × Int × Int) : Tm × Int × Int := if r.2.1 ≠ 0 then (noT, r.2) else (.mk h.k h.s h.n r.1, r.2)
def fullK (fu : Int → Tm → Tm × Int × Int) (q : Tm × Int × Int) : Tm × Int × Int := if q.2.1 ≠ 0 then (noT, q.2) else fullN q.1 (kidsF fu (q.1.k == 6) q.1.l q.2.2)
def headP (s : Sto) (f : Int) (t : Tm) : Tm × Int × Int := ((runH s f.toNat t).1, (runH s f.toNat t).2.1, f - ((runH s f.toNat t).2.2 : Int))
def fullF (s : Sto) : Nat → Int → Tm → Tm × Int × Int
  | 0, f, _ => (noT, 80, f)
  | D + 1, f, t => if f ≤ 0 then (noT, 80, f) else fullK (fullF s D) (headP s (f - 1) t)
theorem runH_le (s : Sto) : ∀ (F : Nat) (t : Tm), (runH s F t).2.2 ≤ F
  | 0, t => by
    have hr : runH s 0 t = if (stepS s t).2 = 0 then (t, 0, 0) else (noT, 80, 0) := rfl
    rw [hr]; split <;> exact Nat.le_refl _
  | F + 1, t => by
    have hr : runH s (F + 1) t = if (stepS s t).2 = 0 then (t, 0, 0) else if (stepS s t).2 = 2 then (noT, 80, 0) else ((runH s F (stepS s t).1).1, (runH s F (stepS s t).1).2.1, (runH s F (stepS s t).1).2.2 + 1) := rfl
    rw [hr]
    split
    · exact Nat.zero_le _
    · split
      · exact Nat.zero_le _
      · have := runH_le s F (stepS s t).1; simp only; omega
theorem kidsF_left {fu : Int → Tm → Tm × Int × Int} (h : ∀ g t, 0 ≤ g → 0 ≤ (fu g t).2.2 ∧ (fu g t).2.2 ≤ g) : ∀ (l : List Tm) (sk : Bool) (g : Int), 0 ≤ g → 0 ≤ (kidsF fu sk l g).2.2 ∧ (kidsF fu sk l g).2.2 ≤ g
  | [], _, g, hg => ⟨hg, Int.le_refl _⟩
  | t :: l, true, g, hg => kidsF_left h l false g hg
  | t :: l, false, g, hg => by
    have h1 := h g t hg
    rw [kidsF]
    split
    · exact h1
    · have := kidsF_left h l false _ h1.1
      exact ⟨this.1, by simp only; omega⟩
theorem fullF_left (s : Sto) : ∀ (D : Nat) (f : Int) (t : Tm), 0 ≤ f → 0 ≤ (fullF s D f t).2.2 ∧ (fullF s D f t).2.2 ≤ f
  | 0, f, t, h => ⟨h, Int.le_refl _⟩
  | D + 1, f, t, h => by
    rw [fullF]
    split
    · exact ⟨h, Int.le_refl _⟩
    · have h1 := runH_le s (f - 1).toNat t
      have h2 : 0 ≤ (headP s (f - 1) t).2.2 ∧ (headP s (f - 1) t).2.2 ≤ f - 1 := by simp only [headP]; omega
      unfold fullK
      split
      · exact ⟨h2.1, by simp only; omega⟩
      · have h3 := kidsF_left (fullF_left s D) (headP s (f - 1) t).1.l ((headP s (f - 1) t).1.k == 6) _ h2.1
        unfold fullN
        split <;> exact ⟨h3.1, by simp only; omega⟩
abbrev aFT (z : Tm × Int × Int) : TV := aTE z.1 z.2.1
abbrev aEP3 : TV := .c (.a (.ep 3 1 0 0))
abbrev stF (s : Sto) (k : Int) (str : List UInt8) (n : Int) (l0 : List Tm) (g : Int) (l : List Tm) (i : Int) : St :=
  ⟨[(0, aS 0), (2, aEP3), (4, .c (.a (.ep 4 4 0 0))), (6, .c (.a (.ep 5 4 0 0))), (9, .c (.a (.osl 6 4 0 l0.length))), (36, ci l0.length), (37, ci i)],
    [(0, sto2 1 2 s), (1, .arz 6 (SR s.V)), (2, .arz 1 (IR s.T)), (3, obj1 g), (4, .arr 4 [cT (.mk k str n l0)]), (5, .arr 4 [zT]), (6, .arz 4 (FTs l))], 7⟩
theorem l_sfull (s : Sto) (k : Int) (str : List UInt8) (n : Int) (l0 : List Tm) (hl0 : l0.length ≤ SZ) (fu : Int → Tm → Tm × Int × Int) (hfu : ∀ g t, 0 ≤ g → 0 ≤ (fu g t).2.2 ∧ (fu g t).2.2 ≤ g) :
    ∀ (b a : List Tm) (sk : Bool) (g : Int), sk = ((k == 6) && (a.length == 0)) → a.length + b.length = l0.length → 0 ≤ g →
    (∀ u ∈ b, ∀ g' : Int, 0 ≤ g' → g' ≤ g → AC Try.prog 55 [aS 0, aT u, aEP3] (oSf s g') (aFT (fu g' u)) (oSf s (fu g' u).2.2)) →
    RPt Try.prog 55 4 (aFT (fullN (.mk k str n l0) (a ++ (kidsF fu sk b g).1, (kidsF fu sk b g).2))) (oSf s (kidsF fu sk b g).2.2) 1 (stF s k str n l0 g (a ++ b) a.length)
  | [], a, sk, g, hsk, hlen, hg, _ => by
    refine RPt.vc hP sh lv55 (Eq.mpr (v55_1b l0.length l0.length a.length s.V.length s.T.length (SR s.V) (IR s.T) g k str n (FTs l0) 0 [] 0 (FTs (a ++ [])) _ _) ?_)
    simp only [List.length_nil, Nat.add_zero] at hlen
    refine br_of (fun h => absurd (of_decide_eq_true h) (by omega)) (fun _ => ⟨⟨⟨rfl, by rw [FTs_length]; simp; omega⟩, trivial⟩, ?_, rfl⟩)
    rw [List.drop_zero, List.take_of_length_le (by rw [FTs_length]; simp; omega)]
    exact leTE leSl
  | t :: b, a, sk, g, hsk, hlen, hg, ih => by
    simp only [List.length_cons, SZ] at hlen hl0
    have em := rE_mid a t b
    have h3 := ltI' a t b
    have el : (0 + Int.toNat (a.length : Int)) < (FTs (a ++ t :: b)).length ∧ ((rE (List.getD (FTs (a ++ t :: b)) (0 + Int.toNat (a.length : Int)) []) : List FV) = List.take 4 (List.drop 0 (List.getD (FTs (a ++ t :: b)) (0 + Int.toNat (a.length : Int)) [])) ∧ (4 : Nat) = 4) := by
      rw [Nat.zero_add, em]
      refine ⟨by omega, ?_, rfl⟩
      rw [midI, List.drop_zero, List.take_of_length_le (by rw [FT_length]; exact Nat.le_refl _)]
    have el2 : (0 + Int.toNat (a.length : Int)) < (FTs (a ++ t :: b)).length ∧ (List.getD (FTs (a ++ t :: b)) (0 + Int.toNat (a.length : Int)) []).length = 4 := ⟨el.1, by rw [Nat.zero_add, midI]; exact FT_length t⟩
    have ea : aE (List.getD (FTs (a ++ t :: b)) (0 + Int.toNat (a.length : Int)) []) = aT t := by rw [Nat.zero_add, aE_mid]
    refine RPt.vc hP sh lv55 (Eq.mpr (v55_1b l0.length l0.length a.length s.V.length s.T.length (SR s.V) (IR s.T) g k str n (FTs l0) 0 [] 0 (FTs (a ++ t :: b)) _ _) ?_)
    rw [ea, w64 (x := (a.length : Int) + 1) (by omega) (by omega)]
    refine br_of (fun _ => ?_) (fun h => absurd (of_decide_eq_false h) (by omega))
    cases sk with
    | true =>
      have hsk : (k == 6) = true ∧ (a.length == 0) = true := by rw [← Bool.and_eq_true]; exact hsk.symm
      have ha : a = [] := List.eq_nil_of_length_eq_zero (by simpa using hsk.2)
      subst ha
      have h2 := l_sfull s k str n l0 (by simp only [SZ]; omega) fu hfu b [t] false g (by simp) (by simp at hlen ⊢; omega) hg (fun u hu => ih u (List.mem_cons_of_mem _ hu))
      exact br_of (fun _ => br_of (fun _ => h2) (fun h => by cases h)) (fun h => absurd hsk.1 (by rw [h]; simp))
    | false =>
      have hc := ih t List.mem_cons_self g hg (Int.le_refl _)
      have hq := hfu g t hg
      have go : ((0 : Int) ≤ (a.length : Int) ∧ (a.length : Int) < ((l0.length : Nat) : Int)) := by omega
      have eK : kidsF fu false (t :: b) g = if (fu g t).2.1 ≠ 0 then ([], (fu g t).2) else ((fu g t).1 :: (kidsF fu false b (fu g t).2.2).1, (kidsF fu false b (fu g t).2.2).2) := rfl
      have next := l_sfull s k str n l0 (by simp only [SZ]; omega) fu hfu b (a ++ [(fu g t).1]) false (fu g t).2.2 (by simp) (by simp; omega) hq.1 (fun u hu g' h0 h1 => ih u (List.mem_cons_of_mem _ hu) g' h0 (by omega))
      generalize fu g t = z at *
      obtain ⟨z1, z2, z3⟩ := z
      simp only at hc hq eK next
      have step : br (z2 != 0) (TV.Le (.tup [(true, [.a (.fz (.int .i64 0)), .a (.fz (.str [])), .a (.fz (.int .i64 0)), .a (.fz .nils)]), (false, [.a (.fz (.int .i64 z2))])]) (aFT (fullN (.mk k str n l0) (a ++ (kidsF fu false (t :: b) g).1, (kidsF fu false (t :: b) g).2))) ∧ oSf s z3 = oSf s (kidsF fu false (t :: b) g).2.2)
          (RPt Try.prog 55 4 (aFT (fullN (.mk k str n l0) (a ++ (kidsF fu false (t :: b) g).1, (kidsF fu false (t :: b) g).2))) (oSf s (kidsF fu false (t :: b) g).2.2) 1 (stF s k str n l0 z3 (a ++ z1 :: b) ((a.length : Int) + 1))) := by
        refine br_of (fun h => ?_) (fun h => ?_)
        · have h : z2 ≠ 0 := by simpa using h
          rw [if_pos h] at eK
          rw [eK, fullN, if_pos h]
          exact ⟨leTE (l := []) leNil, rfl⟩
        · have h : ¬ z2 ≠ 0 := by simpa using h
          rw [if_neg h] at eK
          rw [eK]
          rw [List.append_assoc, ap a z1 b, nx] at next
          exact next
      have tail := step
      rw [show stF s k str n l0 z3 (a ++ z1 :: b) ((a.length : Int) + 1) = ⟨[(0, aS 0), (2, aEP3), (4, .c (.a (.ep 4 4 0 0))), (6, .c (.a (.ep 5 4 0 0))), (9, .c (.a (.osl 6 4 0 l0.length))), (36, ci l0.length), (37, ci ((a.length : Int) + 1))],
    [(0, sto2 1 2 s), (1, .arz 6 (SR s.V)), (2, .arz 1 (IR s.T)), (3, obj1 z3), (4, .arr 4 [cT (.mk k str n l0)]), (5, .arr 4 [zT]), (6, .arz 4 (List.set (FTs (a ++ t :: b)) (0 + Int.toNat (a.length : Int)) (FT4 z1)))], 7⟩ by rw [set_mid]] at tail
      have hsk : ((k == 6) && (a.length == 0)) = false := hsk.symm
      refine br_of (fun h6 => br_of (fun h0 => ?_) (fun _ => ⟨go, el, (z1, z2, z3), hc, go, el2, tail⟩)) (fun _ => ⟨go, el, (z1, z2, z3), hc, go, el2, tail⟩)
      exfalso
      have h6 : (k == 6) = true := h6
      have h0 : ((a.length : Int) == 0) = true := h0
      rw [h6, Bool.true_and] at hsk
      simp at hsk h0
      exact hsk h0
theorem c_sfull (s : Sto) (hs : OKS s) : ∀ (D : Nat) (f : Int) (t : Tm), f.toNat ≤ D → 0 - 9223372036854775808 ≤ f → validB t = true → Fit f.toNat t → AC Try.prog 55 [aS 0, aT t, aEP3] (oSf s f) (aFT (fullF s D f t)) (oSf s (fullF s D f t).2.2) := by
  intro D
  induction D with
  | zero =>
    intro f t hD h0 hv hf
    obtain ⟨k, str, n, l⟩ := t
    refine AC.vc hP sh lv55 (Nat.le_refl _) (by simp [isLive]) (by simp) (Eq.mpr (v55 k str n (FTs l) ..) ?_)
    exact br_of (fun _ => ⟨leTE (l := []) leNil, rfl⟩) (fun h => absurd (of_decide_eq_false h) (by omega))
  | succ D ihD =>
    intro f t hD h0 hv hf
    by_cases hf0 : f ≤ 0
    · have e : fullF s (D + 1) f t = (noT, 80, f) := by rw [fullF, if_pos hf0]
      rw [e]
      obtain ⟨k, str, n, l⟩ := t
      refine AC.vc hP sh lv55 (Nat.le_refl _) (by simp [isLive]) (by simp) (Eq.mpr (v55 k str n (FTs l) ..) ?_)
      exact br_of (fun _ => ⟨leTE (l := []) leNil, rfl⟩) (fun h => absurd (of_decide_eq_false h) (by omega))
    · have hfit := hf.mono (show (f - 1).toNat ≤ f.toNat by omega)
      have hf5 := hf.2.2.2
      have hh := c_shead s hs (f - 1).toNat (f - 1) t rfl (by omega) hv hfit
      have hq := runH_fit hs hv hfit
      have e : fullF s (D + 1) f t = fullK (fullF s D) (headP s (f - 1) t) := by rw [fullF, if_neg hf0]
      rw [e]
      have eh : headP s (f - 1) t = ((runH s (f - 1).toNat t).1, (runH s (f - 1).toNat t).2.1, f - 1 - ((runH s (f - 1).toNat t).2.2 : Int)) := rfl
      rw [eh]
      generalize runH s (f - 1).toNat t = q at *
      obtain ⟨h, er, u⟩ := q
      simp only at hh hq ⊢
      obtain ⟨hu, hq⟩ := hq
      have start : ∀ (r : TV) (o : Int), br (er != 0) (TV.Le (.tup [(true, [.a (.fz (.int .i64 0)), .a (.fz (.str [])), .a (.fz (.int .i64 0)), .a (.fz .nils)]), (false, [.a (.fz (.int .i64 er))])]) r ∧ oSf s (f - 1 - (u : Int)) = oSf s o)
          ((∃ b : Bool, AC Try.prog 81 [.c (.a (.fz (.sl false 4 (FTs h.l))))] [] (.c (.a (.fz (.sl b 4 [])))) [] ∧ FV.isSl 4 (.sl b 4 []) = true ∧ RPt Try.prog 55 4 r (oSf s o) 1 ⟨[(0, aS 0), (2, aEP3), (4, .c (.a (.ep 4 4 0 0))), (6, .c (.a (.ep 5 4 0 0))), (9, .c (.a (.fz (.sl b 4 [])))), (36, ci 0), (37, ci 0)],
              [(0, sto2 1 2 s), (1, .arz 6 (SR s.V)), (2, .arz 1 (IR s.T)), (3, obj1 (f - 1 - (u : Int))), (4, .arr 4 [cT h]), (5, .arr 4 [zT])], 6⟩) ∨
           (∃ z : List (List FV), AC Try.prog 81 [.c (.a (.fz (.sl false 4 (FTs h.l))))] [] (.c (.a (.osl 0 4 0 z.length))) [.arz 4 z] ∧ RPt Try.prog 55 4 r (oSf s o) 1 ⟨[(0, aS 0), (2, aEP3), (4, .c (.a (.ep 4 4 0 0))), (6, .c (.a (.ep 5 4 0 0))), (9, .c (.a (.osl 6 4 0 z.length))), (36, ci z.length), (37, ci 0)],
              [(0, sto2 1 2 s), (1, .arz 6 (SR s.V)), (2, .arz 1 (IR s.T)), (3, obj1 (f - 1 - (u : Int))), (4, .arr 4 [cT h]), (5, .arr 4 [zT]), (6, .arz 4 z)], 7⟩)) →
          AC Try.prog 55 [aS 0, aT t, aEP3] (oSf s f) r (oSf s o) := fun r o hb => by
        obtain ⟨tk, ts, tn, tl⟩ := t
        refine AC.vc hP sh lv55 (Nat.le_refl _) (by simp [isLive]) (by simp) (Eq.mpr (v55 tk ts tn (FTs tl) ..) ?_)
        rw [w64 (x := f - 1) (by omega) (by omega)]
        exact br_of (fun h => absurd (of_decide_eq_true h) (by omega)) (fun _ => ⟨(h, er, f - 1 - (u : Int)), hh, hb⟩)
      refine start _ _ (br_of (fun he => ?_) (fun he => ?_))
      · have he : er ≠ 0 := by simpa using he
        rw [fullK, if_pos he]
        exact ⟨leTE (l := []) leNil, rfl⟩
      · have he : er = 0 := by simpa using he
        subst he
        rcases hq with ⟨_, hvh, hfh, _⟩ | ⟨h80, _⟩
        · have hls : h.l.length ≤ SZ := by have := hfh.sz; have := h.sz_eq; have := Tm.szs_length h.l; omega
          rw [fullK, if_neg (by simp)]
          have hg0 : 0 ≤ f - 1 - (u : Int) := by omega
          have kid : ∀ x ∈ h.l, ∀ g' : Int, 0 ≤ g' → g' ≤ f - 1 - (u : Int) → AC Try.prog 55 [aS 0, aT x, aEP3] (oSf s g') (aFT (fullF s D g' x)) (oSf s (fullF s D g' x).2.2) := fun x hx g' h0 h1 => by
            have hvx : validB x = true := by
              obtain ⟨hk, hst, hn, hl⟩ := h
              by_cases h5 : hk = 5 ∨ hk = 6
              · exact kid_valid hvh h5 x hx
              · rw [not_or] at h5
                have := okB0 (valid_ok _ hvh) h5.1 h5.2
                have hx : x ∈ hl := hx
                rw [this] at hx; cases hx
            exact ihD g' x (by omega) (by omega) hvx ((hfh.kid hx).mono (by omega))
          have loop := l_sfull s h.k h.s h.n h.l hls (fullF s D) (fullF_left s D) h.l [] (h.k == 6) (f - 1 - (u : Int)) (by simp) (by simp) hg0 kid
          obtain ⟨hk, hst, hn, hl⟩ := h
          simp only [Tm.l, Tm.k, Tm.s, Tm.n, List.nil_append] at loop hls ⊢
          have e9 : fullN (.mk hk hst hn hl) ((kidsF (fullF s D) (hk == 6) hl (f - 1 - (u : Int))).1, (kidsF (fullF s D) (hk == 6) hl (f - 1 - (u : Int))).2) = fullN (.mk hk hst hn hl) (kidsF (fullF s D) (hk == 6) hl (f - 1 - (u : Int))) := rfl
          have e8 : (fullN (.mk hk hst hn hl) (kidsF (fullF s D) (hk == 6) hl (f - 1 - (u : Int)))).2.2 = (kidsF (fullF s D) (hk == 6) hl (f - 1 - (u : Int))).2.2 := by unfold fullN; split <;> rfl
          rw [e8]
          by_cases hnil : hl = []
          · subst hnil
            refine .inl ⟨false, c_clone.2, rfl, ?_⟩
            refine RPt.vc hP sh lv55 (Eq.mpr (v55_1a false [] 0 0 s.V.length s.T.length (SR s.V) (IR s.T) (f - 1 - (u : Int)) hk hst hn (FTs []) 0 [] 0 _ _) ?_)
            exact br_of (fun h => by cases h) (fun _ => ⟨.refl _, rfl⟩)
          · refine .inr ⟨FTs hl, c_clone.1 (FTs hl) (by rw [FTs_map]; simp [hnil]) (by rw [FTs_length]; simp only [SZ, B] at *; omega), ?_⟩
            rw [FTs_length]
            exact loop
        · cases h80

end Go.AM

set_option maxRecDepth 100000
open Go Go.Proofs
namespace Go.AM

/-! ### Without abstractions that do nothing -/
def lastT (l : List Tm) : Tm := l.getLastD default
def restF (b : Tm) : Tm := applyF (hd b.l) b.l.tail.dropLast
def dropB (b : Tm) : Bool := b.k == 6 && (lastT b.l).k == 3 && (lastT b.l).n == 0 && occF (restF b) 0 == 0
def dropF (b : Tm) : Tm := if dropB b = true then shT 0 (-1) (restF b) 0 else noT
mutual
def shortF : Tm → Tm
  | .mk k s n l => if (k == 5) = true then (if dropB (hd (shortL l)) = true then dropF (hd (shortL l)) else .mk 5 [] 0 [hd (shortL l)]) else if (k == 6) = true then applyF (hd (shortL l)) (shortL l).tail else .mk k s n l
def shortL : List Tm → List Tm
  | [] => []
  | t :: l => shortF t :: shortL l
end
theorem shortL_length : ∀ l : List Tm, (shortL l).length = l.length
  | [] => rfl
  | _ :: l => by simp only [shortL, List.length_cons, shortL_length l]
/-- An application's parts. -/
theorem app_parts {k n : Int} {s : List UInt8} {l : List Tm} (h : okB (.mk k s n l) = true) (hk : k = 6) : ∃ x a z, l = x :: a ++ [z] ∧ x.k ≠ 6 ∧ okB x = true ∧ okL a = true ∧ okB z = true := by
  obtain ⟨x, y, r, rfl, h6, hl⟩ := okB6 h hk
  refine ⟨x, (y :: r).dropLast, (y :: r).getLast (by simp), by rw [List.cons_append, List.dropLast_concat_getLast], h6, okL_mem hl List.mem_cons_self, okL_of fun u hu => okL_mem hl (List.mem_cons_of_mem _ (List.dropLast_subset _ hu)), okL_mem hl (List.mem_cons_of_mem _ (List.getLast_mem _))⟩
theorem last_app (x : Tm) (a : List Tm) (z : Tm) : lastT (x :: a ++ [z]) = z := by
  rw [lastT, List.getLastD_eq_getLast?, List.getLast?_append]; rfl
theorem rest_app (k n : Int) (s : List UInt8) (x : Tm) (a : List Tm) (z : Tm) : restF (.mk k s n (x :: a ++ [z])) = applyF x a := by
  rw [restF]; show applyF x ((a ++ [z]).dropLast) = _
  rw [List.dropLast_concat]
theorem drop6 {b : Tm} (h : dropB b = true) : b.k = 6 := by
  simp only [dropB, Bool.and_eq_true, beq_iff_eq] at h; exact h.1.1.1
theorem drop0 {b : Tm} (h : dropB b = true) : occF (restF b) 0 = 0 := by
  simp only [dropB, Bool.and_eq_true, beq_iff_eq] at h; exact h.2
theorem restF_ok {b : Tm} (h : okB b = true) (hk : b.k = 6) : okB (restF b) = true ∧ (lvB b = true → lvB (restF b) = true) ∧ (restF b).sz ≤ b.sz ∧ ∀ M, bd M b → bd M (restF b) := by
  obtain ⟨k, s, n, l⟩ := b
  have hk' : k = 6 := hk
  obtain ⟨x, a, z, rfl, h6, hx, ha, hz⟩ := app_parts h hk'
  rw [rest_app]
  refine ⟨applyF_ok hx ha, fun hl => ?_, ?_, fun M hb => ?_⟩
  · rw [lvB_in (.inr hk')] at hl
    exact applyF_lv (lvL_mem hl List.mem_cons_self) (lvL_of fun u hu => lvL_mem hl (List.mem_cons_of_mem _ (List.mem_append_left _ hu)))
  · have := applyF_sz x a
    simp only [Tm.sz, List.cons_append, Tm.szs, Tm.szs_append]; omega
  · exact applyF_bd (bds_mem hb.2 List.mem_cons_self) (bds_of fun u hu => bds_mem hb.2 (List.mem_cons_of_mem _ (List.mem_append_left _ hu)))
theorem occL_mem : ∀ {l : List Tm} {i : Int}, occL l i = 0 → ∀ u ∈ l, occF u i = 0
  | x :: l, i, h, u, hu => by
    simp only [occL] at h
    rcases List.mem_cons.1 hu with rfl | hu
    · omega
    · exact occL_mem (l := l) (by omega) u hu
theorem occ_kids {k n : Int} {s : List UInt8} {l : List Tm} {d : Int} (h : occF (.mk k s n l) d = 0) : ∀ u ∈ l, occF u (d + if (k == 5) = true then 1 else 0) = 0 := by
  rw [occF] at h
  split at h
  · cases h
  · exact occL_mem h
theorem shDown_lv {t : Tm} (h : lvB t = true) (d : Int) (h0 : occF t d = 0) (hd : 0 ≤ d) : lvB (shT 0 (-1) t d) = true := by
  refine walkF_lv _ (fun u d => occF u d = 0 ∧ 0 ≤ d) (fun k s n l d hQ u hu => ⟨occ_kids hQ.1 u hu, by have := hQ.2; split <;> omega⟩) (fun u d hu hQ h5 h6 => ?_) t d h ⟨h0, hd⟩
  unfold shLeaf
  split
  · rename_i hc
    obtain ⟨k, s, n, l⟩ := u
    have hk : k = 3 := by have hc := hc.1; have hc : (k == 3) = true := hc; simpa using hc
    subst hk
    rw [lvB_out (by decide) (by decide), valid3] at hu
    have h1 : n ≠ d := fun e => by
      have := hQ.1
      rw [occF, if_pos ⟨rfl, by simp [e]⟩] at this; cases this
    have h2 : d + 0 ≤ n := hc.2
    have := hQ.2
    show lvB (.mk 3 s (n + -1) l) = true
    rw [lvB_out (by decide) (by decide), valid3]
    exact ⟨by omega, by omega, hu.2.2.1, hu.2.2.2⟩
  · exact hu
theorem shDown_bd {M : Int} (hM : 1 ≤ M) {t : Tm} (h : bd M t) (d : Int) (hd : 0 ≤ d) : bd M (shT 0 (-1) t d) := by
  refine walkF_bd _ M M (d + t.sz) (fun u d' hu h0 _ => ?_) t d h hd (Int.le_refl _)
  unfold shLeaf
  split
  · rename_i hc
    obtain ⟨k, s, n, l⟩ := u
    exact ⟨fun e => by have := hu.1 e; have h2 : d' + 0 ≤ n := hc.2; simp only [Tm.n]; omega, hu.2⟩
  · exact hu
theorem dropF_ok {b : Tm} (h : okB b = true) (hd : dropB b = true) : okB (dropF b) = true ∧ (lvB b = true → lvB (dropF b) = true) ∧ (dropF b).sz ≤ b.sz ∧ ∀ M, 1 ≤ M → bd M b → bd M (dropF b) := by
  obtain ⟨h1, h2, h3, h4⟩ := restF_ok h (drop6 hd)
  rw [dropF, if_pos hd]
  exact ⟨shT_ok 0 h1, fun hl => shDown_lv (h2 hl) 0 (drop0 hd) (Int.le_refl _), Nat.le_trans (shT_sz ..) h3, fun M hM hb => shDown_bd hM (h4 M hb) 0 (Int.le_refl _)⟩
mutual
theorem shortF_ok : ∀ t : Tm, okB t = true → okB (shortF t) = true ∧ (lvB t = true → lvB (shortF t) = true) ∧ (shortF t).sz ≤ t.sz ∧ ∀ M, 1 ≤ M → bd M t → bd M (shortF t)
  | .mk k s n l, h => by
    have hl := shortL_ok l (okB_l h)
    rw [shortF]
    split
    · rename_i h5
      have h5 : k = 5 := by simpa using h5
      obtain ⟨x, rfl, hx⟩ := okB5 h h5
      obtain ⟨g1, g2, g3, g4⟩ := hl
      simp only [shortL, okL, lvL, Bool.and_true, Tm.szs] at g1 g2 g3 g4
      show okB (if dropB (shortF x) = true then dropF (shortF x) else .mk 5 [] 0 [shortF x]) = true ∧ _
      rw [show hd (shortL [x]) = shortF x from rfl]
      split
      · rename_i hd
        obtain ⟨f1, f2, f3, f4⟩ := dropF_ok g1 hd
        refine ⟨f1, fun hl => f2 (g2 ?_), by simp only [Tm.sz, Tm.szs]; omega, fun M hM hb => f4 M hM (g4 M hM hb.2).1⟩
        rw [lvB_in (.inl h5)] at hl
        simpa [lvL] using hl
      · refine ⟨by simp [okB, okL, g1], fun hl => ?_, by simp only [Tm.sz, Tm.szs]; omega, fun M hM hb => ⟨fun e => by omega, g4 M hM hb.2⟩⟩
        rw [lvB_in (.inl h5)] at hl
        rw [lvB_in (.inl rfl)]
        simp only [lvL, Bool.and_true] at hl ⊢
        exact g2 hl
    · split
      · rename_i h6
        have h6 : k = 6 := by simpa using h6
        obtain ⟨x, y, r, rfl, _, _⟩ := okB6 h h6
        obtain ⟨g1, g2, g3, g4⟩ := hl
        rw [show hd (shortL (x :: y :: r)) = shortF x from rfl, show (shortL (x :: y :: r)).tail = shortL (y :: r) from rfl]
        rw [show shortL (x :: y :: r) = shortF x :: shortL (y :: r) from rfl] at g1 g2 g3 g4
        simp only [okL, Bool.and_eq_true] at g1
        refine ⟨applyF_ok g1.1 g1.2, fun hl => ?_, ?_, fun M hM hb => ?_⟩
        · rw [lvB_in (.inr h6)] at hl
          have := g2 hl
          simp only [lvL, Bool.and_eq_true] at this
          exact applyF_lv this.1 this.2
        · have := applyF_sz (shortF x) (shortL (y :: r))
          simp only [Tm.szs] at g3
          simp only [Tm.sz, Tm.szs]; omega
        · have := g4 M hM hb.2
          exact applyF_bd this.1 this.2
      · exact ⟨h, fun hl => hl, Nat.le_refl _, fun M _ hb => hb⟩
theorem shortL_ok : ∀ l : List Tm, okL l = true → okL (shortL l) = true ∧ (lvL l = true → lvL (shortL l) = true) ∧ Tm.szs (shortL l) ≤ Tm.szs l ∧ ∀ M, 1 ≤ M → bds M l → bds M (shortL l)
  | [], _ => ⟨rfl, fun _ => rfl, Nat.le_refl _, fun _ _ _ => trivial⟩
  | t :: l, h => by
    simp only [okL, Bool.and_eq_true] at h
    obtain ⟨a1, a2, a3, a4⟩ := shortF_ok t h.1
    obtain ⟨b1, b2, b3, b4⟩ := shortL_ok l h.2
    refine ⟨by simp only [shortL, okL, a1, b1, Bool.and_self], fun hl => ?_, by simp only [shortL, Tm.szs]; omega, fun M hM hb => ⟨a4 M hM hb.1, b4 M hM hb.2⟩⟩
    simp only [lvL, Bool.and_eq_true] at hl
    simp only [shortL, lvL, a2 hl.1, b2 hl.2, Bool.and_self]
end
/-! ### Contracts -/
theorem c_efree (t : Tm) (i : Int) (hs : t.sz ≤ B) (h0 : 0 - 2305843009213693952 ≤ i) (h1 : i + t.sz ≤ 2305843009213693952) : AC Try.prog 110 [aT t, ci i] [] (cb (validB t && decide (occF t i > 0))) [] := by
  have h := c_boccurs t hs i h0 h1
  obtain ⟨k, s, n, l⟩ := t
  refine AC.vc hP sh lv110 (Nat.le_refl _) (by simp) (by simp) (Eq.mpr (v110 k s n (FTs l) i _ _) ?_)
  refine ⟨_, h, ret_b ?_⟩
  cases validB (.mk k s n l) with
  | false => rfl
  | true => simp
/-- The last one. -/
theorem lastI (x : Tm) (a : List Tm) (z : Tm) (hl : a.length ≤ SZ) : IntKind.wrap .i64 ((((FTs (x :: a ++ [z])).length : Nat) : Int) - 1) = ((x :: a).length : Int) := by
  rw [FTs_length]; simp only [SZ] at hl
  rw [w64 (by simp; omega) (by simp; omega)]; simp
theorem c_edrop (b : Tm) (ho : okB b = true) (hl : lvB b = true) (hs : b.sz ≤ SZ) (hb : bd M61 b) : AC Try.prog 101 [aT b] [] (.tup [(true, cT (dropF b)), (false, [.a (.fz (.bool (dropB b)))])]) [] := by
  have no : dropB b = false → dropF b = noT := fun h => if_neg (by rw [h]; simp)
  obtain ⟨k, s, n, l⟩ := b
  have hlen := Tm.szs_length l
  simp only [Tm.sz, SZ] at hs
  refine AC.vc hP sh lv101 (Nat.le_refl _) (by simp) (by simp) (Eq.mpr (v101 k s n (FTs l) _ _) ?_)
  refine ⟨rfl, br_of (fun h => ?_) (fun h => ?_)⟩
  · have hd : dropB (.mk k s n l) = false := by
      have h : (k != 6) = true := h
      rw [dropB, show (Tm.k (.mk k s n l) == 6) = false by show (k == 6) = false; simpa using h]; rfl
    rw [no hd, hd]
    exact ⟨leTB (l := []) leNil, rfl⟩
  · have h6 : k = 6 := by simpa using h
    subst h6
    obtain ⟨x, a, z, rfl, hx6, hx, ha, hz⟩ := app_parts ho rfl
    obtain ⟨r1, r2, r3, r4⟩ := restF_ok ho rfl
    have hd : dropB (.mk 6 s n (x :: a ++ [z])) = (z.k == 3 && z.n == 0 && occF (applyF x a) 0 == 0) := by
      rw [dropB, rest_app, show Tm.l (.mk 6 s n (x :: a ++ [z])) = x :: a ++ [z] from rfl, last_app]; rfl
    have hdF : dropB (.mk 6 s n (x :: a ++ [z])) = true → dropF (.mk 6 s n (x :: a ++ [z])) = shT 0 (-1) (applyF x a) 0 := fun h => by rw [dropF, if_pos h, rest_app]
    rw [rest_app] at r1 r2 r3 r4
    have hal : a.length ≤ 67108864 := by rw [List.length_append, List.length_cons] at hlen; omega
    rw [lastI x a z hal]
    have el : FV.isSl 4 (.sl false 4 (FTs (x :: a ++ [z]))) = true ∧ ((0 : Int) ≤ ((x :: a).length : Int) ∧ (((x :: a).length : Int) < (((FTs (x :: a ++ [z])).length : Nat) : Int) ∧ (rE (List.getD (FTs (x :: a ++ [z])) (Int.toNat ((x :: a).length : Int)) []) : List FV) = List.getD (FTs (x :: a ++ [z])) (Int.toNat ((x :: a).length : Int)) [])) := ⟨rfl, by omega, ltI' (x :: a) z [], rE_mid (x :: a) z []⟩
    have ez : List.getD (FTs (x :: a ++ [z])) (Int.toNat ((x :: a).length : Int)) [] = FT z := midI (x :: a) z []
    have ek : FV.asI (List.getD (List.getD (FTs (x :: a ++ [z])) (Int.toNat ((x :: a).length : Int)) []) 0 FV.nils) = z.k := by rw [ez]; cases z; rfl
    have en : FV.asI (List.getD (List.getD (FTs (x :: a ++ [z])) (Int.toNat ((x :: a).length : Int)) []) 2 FV.nils) = z.n := by rw [ez]; cases z; rfl
    rw [ek, en]
    refine ⟨el, br_of (fun h1 => ?_) (fun h1 => ⟨el, br_of (fun h2 => ?_) (fun h2 => ⟨el0 x (a ++ [z]), rfl, ⟨by omega, by simp only [List.length_cons]; omega, by rw [lenI, List.length_append]; omega⟩, ?_⟩)⟩)⟩
    · have hd' : dropB (.mk 6 s n (x :: a ++ [z])) = false := by
        have h1 : (z.k != 3) = true := h1
        rw [hd, show (z.k == 3) = false by simpa using h1]; rfl
      rw [no hd', hd']
      exact ⟨leTB (l := []) leNil, rfl⟩
    · have hd' : dropB (.mk 6 s n (x :: a ++ [z])) = false := by
        have h2 : (z.n != 0) = true := h2
        rw [hd, show (z.n == 0) = false by simpa using h2]; simp
      rw [no hd', hd']
      exact ⟨leTB (l := []) leNil, rfl⟩
    · have e1 : aE (List.getD (FTs (x :: a ++ [z])) 0 []) = aT x := aE_FT x
      have e2 : List.drop 1 (List.take (Int.toNat ((x :: a).length : Int)) (FTs (x :: a ++ [z]))) = FTs a := by
        rw [toNat_len, FTs_take, FTs_drop, List.take_left]; rfl
      rw [e1, e2]
      have hxs : x.l.length ≤ x.sz := by have := x.sz_eq; have := Tm.szs_length x.l; omega
      have hxz : x.sz ≤ 67108864 := by simp only [List.cons_append, Tm.szs] at hs; omega
      have hap := c_apply x a (by omega)
      have hrz : (applyF x a).sz ≤ SZ := by simp only [Tm.sz] at r3; simp only [SZ]; omega
      have hfr := c_efree (applyF x a) 0 (by simp only [SZ, B] at *; omega) (by omega) (by simp only [SZ] at hrz; omega)
      have hva : validB (applyF x a) = true := by rw [valid_iff, r1, r2 hl]; rfl
      rw [hva, Bool.true_and] at hfr
      have hsh := c_shift (applyF x a) 0 (-1) (by simp only [SZ, B] at *; omega) (r4 _ hb) (Int.le_refl _) (by simp only [M61]; omega) (by omega) (by simp only [M61]; omega)
      have hz3 : (z.k == 3) = true := by
        have h1 : (z.k != 3) = false := h1
        simpa using h1
      have hz0 : (z.n == 0) = true := by
        have h2 : (z.n != 0) = false := h2
        simpa using h2
      refine ⟨_, hap, _, hfr, br_of (fun h3 => ?_) (fun h3 => ?_)⟩
      · have hd' : dropB (.mk 6 s n (x :: a ++ [z])) = false := by
          have h3 := of_decide_eq_true h3
          rw [hd, show (occF (applyF x a) 0 == 0) = false by simp; omega, Bool.and_false]
        rw [no hd', hd']
        exact ⟨leTB (l := []) leNil, rfl⟩
      · have hd' : dropB (.mk 6 s n (x :: a ++ [z])) = true := by
          have h3 := of_decide_eq_false h3
          rw [hd, hz3, hz0, show (occF (applyF x a) 0 == 0) = true by simp; omega]; rfl
        rw [hdF hd', hd']
        exact ⟨_, hsh, .refl _, rfl⟩
theorem l_eshortb : ∀ (b a acc : List Tm), acc ≠ [] → acc.length = a.length → (∀ u ∈ b, AC Try.prog 82 [aT u] [] (aT (shortF u)) []) → (a ++ b).length ≤ SZ → (hd (acc ++ shortL b)).l.length ≤ B →
    RPt Try.prog 82 0 (aT (applyF (hd (acc ++ shortL b)) (acc ++ shortL b).tail)) [] 3 ⟨[(2, .c (.a (.ep 0 4 0 0))), (6, .c (.a (.osl 1 4 0 acc.length))), (30, aL (a ++ b)), (31, ci (((FTs (a ++ b)).length : Nat) : Int)), (32, ci a.length)], [(0, .arr 4 [zT]), (1, .arz 4 (FTs acc))], 2⟩
  | [], a, acc, hne, hlen, _, hl, hh => by
    simp only [shortL, List.append_nil] at hh hl ⊢
    refine RPt.vc hP sh lv82 (Eq.mpr (v82_3b ..) ?_)
    match acc, hne, hlen, hh with
    | x :: r, _, hlen, hh =>
      simp only [SZ, B, List.length_cons] at hl hlen hh
      have hh : x.l.length ≤ 549755813888 := hh
      have hap := c_apply x r (by omega)
      have e2 : List.take (Int.toNat ((x :: r).length : Int) - 1) (List.drop 1 (FTs (x :: r))) = FTs r := by
        rw [toNat_len, FTs_drop, List.take_of_length_le (by rw [FTs_length]; simp)]; rfl
      have e1 : aE (List.getD (FTs (x :: r)) 0 []) = aT x := aE_FT x
      rw [e2, e1]
      refine br_of (fun h => absurd (of_decide_eq_true h) (by rw [FTs_length]; omega)) (fun _ => ⟨⟨by omega, by simp⟩, ⟨by rw [FTs_length]; simp, ?_, rfl⟩, ⟨by omega, by simp; omega, Int.le_refl _⟩, ⟨rfl, by rw [toNat_len, FTs_length]; simp; omega⟩, _, hap.args ⟨.refl _, le_c leSl, trivial⟩, ret_r (.refl _)⟩)
      rw [show List.getD (FTs (x :: r)) 0 [] = FT x from rfl, rE_FT, List.drop_zero, List.take_of_length_le (by rw [FT_length]; exact Nat.le_refl _)]
  | t :: b, a, acc, hne, hlen, ih, hl, hh => by
    have hl' := hl
    simp only [List.length_append, List.length_cons, SZ] at hl'
    have h1 := ih t List.mem_cons_self
    have h2 := l_eshortb b (a ++ [t]) (acc ++ [shortF t]) (by simp) (by simp [hlen]) (fun u hu => ih u (List.mem_cons_of_mem _ hu)) (by rw [ap]; exact hl) (by rw [ap]; exact hh)
    have h3 := ltI' a t b
    rw [ap, ap, nx] at h2
    rw [shortL]
    refine RPt.vc hP sh lv82 (Eq.mpr (v82_3b ..) ?_)
    rw [aE_mid, w64 (x := (a.length : Int) + 1) (by omega) (by omega)]
    refine br_of (fun _ => ⟨⟨rfl, by omega, h3, rE_mid ..⟩, shortF t, h1, Nat.le_refl _, ⟨by rw [FTs_length]; omega, roomI (by omega)⟩, ?_⟩) (fun h => absurd h3 (of_decide_eq_false h))
    have e5 : List.take acc.length (FTs acc) ++ [FT4 (shortF t)] = FTs (acc ++ [shortF t]) := by rw [List.take_of_length_le (by rw [FTs_length]; omega), FT4_eq, FTs_append]; rfl
    rw [e5]
    rw [List.length_append] at h2
    exact h2
theorem c_eshort : ∀ t : Tm, okB t = true → lvB t = true → t.sz ≤ SZ → bd M61 t → AC Try.prog 82 [aT t] [] (aT (shortF t)) [] := by
  refine Tm.ind fun t ih ho hl hs hb => ?_
  have hlen := Tm.szs_length t.l
  have hol := okB_l ho
  obtain ⟨k, s, n, l⟩ := t
  simp only [Tm.sz, Tm.l, SZ] at hs hlen hol
  refine AC.vc hP sh lv82 (Nat.le_refl _) (by simp) (by simp) (Eq.mpr (v82 k s n (FTs l) _ _) ?_)
  refine br_of (fun h => ?_) (fun h => br_of (fun h' => ⟨rfl, ?_⟩) (fun h' => ?_))
  · have h5 : k = 5 := by simpa using h
    subst h5
    obtain ⟨x, rfl, hx⟩ := okB5 ho rfl
    rw [lvB_in (.inl rfl)] at hl
    have hlx : lvB x = true := by simpa [lvL] using hl
    simp only [Tm.szs] at hs
    obtain ⟨g1, g2, g3, g4⟩ := shortF_ok x hx
    have h1 := ih x (List.mem_singleton.2 rfl) hx hlx (by simp only [SZ]; omega) hb.2.1
    have h2 := c_edrop (shortF x) g1 (g2 hlx) (by simp only [SZ]; omega) (g4 _ (by simp only [M61]; omega) hb.2.1)
    have h3 := c_lams 1 (shortF x) (by omega)
    have e : shortF (.mk 5 s n [x]) = if dropB (shortF x) = true then dropF (shortF x) else .mk 5 [] 0 [shortF x] := by rw [shortF, if_pos (show ((5 : Int) == 5) = true from rfl)]; rfl
    rw [show aE (List.getD (FTs [x]) 0 []) = aT x from aE_FT x, e]
    refine ⟨el0 x [], _, h1, (dropF (shortF x), dropB (shortF x)), h2, br_of (fun hd => ?_) (fun hd => ⟨_, h3, ?_⟩)⟩
    · have hd : dropB (shortF x) = true := hd
      rw [if_pos hd]; exact ⟨.refl _, rfl⟩
    · rw [if_neg (by rw [show dropB (shortF x) = false from hd]; simp)]; exact ⟨.refl _, rfl⟩
  · have h6 : k = 6 := by simpa using h'
    subst h6
    obtain ⟨x, y, r, rfl, hx6, _⟩ := okB6 ho rfl
    rw [lvB_in (.inr rfl)] at hl
    have ihl : ∀ u ∈ x :: y :: r, AC Try.prog 82 [aT u] [] (aT (shortF u)) [] := fun u hu => ih u hu (okL_mem hol hu) (lvL_mem hl hu) (by have := Tm.szs_mem hu; simp only [SZ]; omega) (bds_mem hb.2 hu)
    have hx := (shortF_ok x (okL_mem hol List.mem_cons_self)).2.2.1
    have hxl : (shortF x).l.length ≤ B := by
      have h1 := (shortF x).sz_eq
      have h2 := Tm.szs_length (shortF x).l
      simp only [Tm.szs] at hs
      simp only [B]; omega
    have loop := l_eshortb (y :: r) [x] [shortF x] (by simp) rfl (fun u hu => ihl u (List.mem_cons_of_mem _ hu)) (show (x :: y :: r).length ≤ SZ by simp only [SZ]; omega) hxl
    have h1 := ihl x List.mem_cons_self
    have h3 := ltI' [] x (y :: r)
    refine RPt.vc hP sh lv82 (Eq.mpr (v82_3a ..) ?_)
    rw [show aE (List.getD (FTs (x :: y :: r)) (Int.toNat 0) []) = aT x from aE_FT x, w64 (by omega) (by omega)]
    refine br_of (fun _ => ⟨⟨rfl, by omega, h3, rE_FT x⟩, shortF x, h1, Nat.le_refl _, roomI (by omega), ?_⟩) (fun h => absurd h3 (of_decide_eq_false h))
    rw [FT4_eq]
    exact loop
  · have h : (k == 5) = false := h
    have h' : (k == 6) = false := h'
    rw [shortF, if_neg (by rw [h]; simp), if_neg (by rw [h']; simp)]
    exact ⟨.refl _, rfl⟩
theorem c_eShort (t : Tm) (hs : t.sz ≤ SZ) (hb : bd M61 t) : AC Try.prog 56 [aT t] [] (aT (if validB t = true then shortF t else t)) [] := by
  have h1 := c_valid t (by simp only [SZ, B] at *; omega)
  have h2 := fun h => c_eshort t (valid_ok t h) (valid_lv h) hs hb
  obtain ⟨k, s, n, l⟩ := t
  refine AC.vc hP sh lv56 (Nat.le_refl _) (by simp) (by simp) (Eq.mpr (v56 k s n (FTs l) _ _) ?_)
  refine ⟨_, h1, br_of (fun h => ?_) (fun h => ?_)⟩
  · rw [if_neg (by rw [not_t h]; simp)]; exact ⟨.refl _, rfl⟩
  · rw [if_pos (not_f h)]; exact ⟨_, h2 (not_f h), .refl _, rfl⟩

end Go.AM

namespace Go.AM
open Go.ChangeShapes Go.WideShapes Go.ChangeAt Go.RowKit

section
variable {H : Type} {enc : TypeId × Value → H} {P : Program} {w : World}

/-- Nothing is shut out. -/
abbrev none1 : Nat → Prop := fun _ => False
/-- Whatever reads (with so much fuel) at type t is some F a, of size at most that of what was read. -/
def RdN (enc : TypeId × Value → H) (P : Program) (w : World) (b : DataW H → Nat) (fuel : Nat) (t : TypeId) {α : Type} (F : α → List FV) (sz : α → Nat) : Prop :=
  ∀ cs x, DataW.trod enc P w 0 (fun _ => true) true fuel t cs = some x → ∃ a, LRep (FRep w none1) (F a) cs ∧ sz a ≤ b x.1

theorem rd_int {b : DataW H → Nat} {t : TypeId} {k : IntKind} (ht : P.underlying t = some (.int k)) (hb : ∀ d, 1 ≤ b d) (fuel : Nat) : RdN enc P w b fuel t (fun n : Int => [.int k n]) (fun _ => 1) := by
  intro cs x h
  obtain ⟨n, rfl, rfl, _⟩ := DataW.trod_int ht h
  exact ⟨n, .cons (.int k n) .nil, hb _⟩
/-- A number within its kind. -/
def Num (k : IntKind) := { n : Int // (Lit.int k n).wf = true }
theorem rd_num {b : DataW H → Nat} {t : TypeId} {k : IntKind} (ht : P.underlying t = some (.int k)) (hb : ∀ d, 1 ≤ b d) (fuel : Nat) : RdN enc P w b fuel t (fun n : Num k => [.int k n.1]) (fun _ => 1) := by
  intro cs x h
  obtain ⟨n, rfl, rfl, hw⟩ := DataW.trod_int ht h
  exact ⟨⟨n, hw⟩, .cons (.int k n) .nil, hb _⟩
theorem rd_bool {b : DataW H → Nat} {t : TypeId} (ht : P.underlying t = some .bool) (hb : ∀ d, 1 ≤ b d) (fuel : Nat) : RdN enc P w b fuel t (fun n : Bool => [.bool n]) (fun _ => 1) := by
  intro cs x h
  obtain ⟨n, rfl, rfl⟩ := DataW.trod_bool ht h
  exact ⟨n, .cons (.bool n) .nil, hb _⟩
theorem rd_str {b : DataW H → Nat} {t : TypeId} (ht : P.underlying t = some .string) (hb : ∀ l : List UInt8, l.length + 1 ≤ b (.lit (.string l))) (fuel : Nat) : RdN enc P w b fuel t (fun l : List UInt8 => [.str l]) (fun l => l.length + 1) := by
  intro cs x h
  obtain ⟨s, rfl, rfl, _⟩ := DataW.trod_string ht h
  refine ⟨s.data.toList, .cons ?_ .nil, hb _⟩
  have : (⟨s.data.toList.toArray⟩ : ByteArray) = s := by simp
  have h2 := FRep.str (w := w) (X := none1) s.data.toList
  rw [this] at h2
  exact h2

def sumBy {α : Type} (sz : α → Nat) : List α → Nat
  | [] => 0
  | a :: l => sz a + sumBy sz l
theorem sumBy_mem {α : Type} {sz : α → Nat} : ∀ {l : List α} {a : α}, a ∈ l → sz a ≤ sumBy sz l
  | x :: l, a, h => by
    rcases List.mem_cons.1 h with rfl | h
    · simp [sumBy]
    · have := sumBy_mem (sz := sz) h; simp only [sumBy]; omega
theorem sumBy_length {α : Type} {sz : α → Nat} (h : ∀ a, 1 ≤ sz a) : ∀ l : List α, l.length ≤ sumBy sz l
  | [] => Nat.le_refl _
  | a :: l => by have := sumBy_length h l; have := h a; simp only [sumBy, List.length_cons]; omega

theorem choose_list {α β : Type} {R : α → β → Prop} : ∀ {l : List β}, (∀ (i : Nat) (y : β), l[i]? = some y → ∃ x, R x y) → ∃ xs : List α, xs.length = l.length ∧ ∀ (i : Nat) (x : α) (y : β), xs[i]? = some x → l[i]? = some y → R x y
  | [], _ => ⟨[], rfl, fun i x y h => by simp at h⟩
  | y :: l, h => by
    obtain ⟨x, hx⟩ := h 0 y rfl
    obtain ⟨xs, h1, h2⟩ := choose_list (l := l) fun i y' hy => h (i + 1) y' (by simpa using hy)
    refine ⟨x :: xs, by simp [h1], fun i x' y' hx' hy' => ?_⟩
    cases i with
    | zero => simp at hx' hy'; subst hx'; subst hy'; exact hx
    | succ i => exact h2 i x' y' (by simpa using hx') (by simpa using hy')

theorem sum_le {α : Type} {sz : α → Nat} {b : DataW H → Nat} {bs : List (DataW H) → Nat} (hbs : ∀ d l, bs (d :: l) = b d + bs l) : ∀ {xs : List α} {es : List (DataW H × List MemPlace)}, xs.length = es.length → (∀ (i : Nat) (x : α) (y : DataW H × List MemPlace), xs[i]? = some x → es[i]? = some y → sz x ≤ b y.1) → sumBy sz xs ≤ bs (es.map (·.1))
  | [], _, _, _ => by simp [sumBy]
  | x :: xs, [], h, _ => by simp at h
  | x :: xs, e :: es, h, hr => by
    have h1 := hr 0 x e rfl rfl
    have h2 := sum_le (sz := sz) hbs (xs := xs) (es := es) (by simpa using h) fun i x y hx hy => hr (i + 1) x y (by simpa using hx) (by simpa using hy)
    simp only [sumBy, List.map_cons, hbs]
    omega

theorem cells_get {a : Addr} {n : Nat} {cs : List Value} (h : w.cells? 0 a n = some cs) : cs.length = n ∧ ∀ j u, cs[j]? = some u → w.cell? (a.add j) = some u := by
  unfold World.cells? at h
  rw [if_pos (Nat.zero_le _)] at h
  refine ⟨by have := mapM_some_length h; simpa using this, fun j u hu => ?_⟩
  have hj : j < n := by
    have h1 := (List.getElem?_eq_some_iff.1 hu).1
    have := mapM_some_length h; simp at this; omega
  have := mapM_some_get h j j (by simp [hj])
  rw [this, hu]

theorem cell_lt {b off : Nat} {u : Value} (h : w.cell? ⟨b, off, none⟩ = some u) : b < w.heap.size := by
  apply Decidable.byContradiction
  intro hn
  have : w.heap[b]? = none := by simp; omega
  simp [World.cell?, this] at h

theorem cell_spot {a : Addr} {u : Value} (h : w.cell? a = some u) : a.spot = none := by
  unfold World.cell? at h
  split at h
  · split at h
    · cases h
    · rename_i hs; simpa using hs
  · cases h
theorem cell_blk {a : Addr} {u : Value} (h : w.cell? a = some u) : a.block < w.heap.size := by
  apply Decidable.byContradiction
  intro hn
  have : w.heap[a.block]? = none := by simp; omega
  simp [World.cell?, this] at h

theorem add_zero (a : Addr) : a.add 0 = a := rfl
theorem add_none (b o k : Nat) : (Addr.mk b o none).add k = ⟨b, o + k, none⟩ := by
  unfold Addr.add
  split
  · rename_i h; rw [h]; rfl
  · rfl
/-- Slices. -/
theorem rd_slice {b : DataW H → Nat} {bs : List (DataW H) → Nat} (hbs : ∀ d l, bs (d :: l) = b d + bs l) (hb0 : ∀ d, 1 ≤ b d) (hb : ∀ es sp, bs es + 1 ≤ b (.slice es sp)) {t e : TypeId} (ht : P.underlying t = some (.slice e)) {n : Nat} (hn : P.cellsOf e = n) (hn0 : 0 < n)
    {α : Type} {F : α → List FV} {sz : α → Nat} (hF : ∀ a, (F a).length = n) {fuel : Nat} (ih : ∀ k, k < fuel → RdN enc P w b k e F sz) : RdN enc P w b fuel t (fun l : List α => [.sl false n (l.map F)]) (fun l => sumBy sz l + 1) := by
  intro cs x h
  rcases DataW.trod_slice ht h with ⟨rfl, rfl⟩ | ⟨a, len, cap, elems, rest, k, rfl, rfl, rfl, _, hlc, _, hlen, hel, hrest, _⟩
  · exact ⟨[], .cons (.slnil n) .nil, by simpa [sumBy] using hb0 _⟩
  · rw [hn] at hel
    have key : ∀ (i : Nat) (y : DataW H × List MemPlace), elems[i]? = some y → ∃ x : α, (∃ cs, w.cells? 0 (a.add (i * n)) n = some cs ∧ LRep (FRep w none1) (F x) cs) ∧ sz x ≤ b y.1 := by
      intro i y hy
      have hi : i < len := by rw [← hlen]; exact (List.getElem?_eq_some_iff.1 hy).1
      have h1 := hel i hi
      rw [hy] at h1
      obtain ⟨cs, h2, h3⟩ := Option.bind_eq_some_iff.1 h1
      obtain ⟨x, h4, h5⟩ := ih k (Nat.lt_succ_self _) cs y h3
      exact ⟨x, ⟨cs, h2, h4⟩, h5⟩
    -- the element at i, with its place
    have key2 : ∃ xs : List α, xs.length = elems.length ∧ ∀ (i : Nat) (x : α), xs[i]? = some x → (∃ cs, w.cells? 0 (a.add (i * n)) n = some cs ∧ LRep (FRep w none1) (F x) cs) ∧ ∀ y, elems[i]? = some y → sz x ≤ b y.1 := by
      have : ∀ (l : List (DataW H × List MemPlace)) (o : Nat), (∀ i, l[i]? = elems[o + i]?) → ∃ xs : List α, xs.length = l.length ∧ ∀ (i : Nat) (x : α), xs[i]? = some x → (∃ cs, w.cells? 0 (a.add ((o + i) * n)) n = some cs ∧ LRep (FRep w none1) (F x) cs) ∧ ∀ y, l[i]? = some y → sz x ≤ b y.1 := by
        intro l
        induction l with
        | nil => exact fun o _ => ⟨[], rfl, fun i x h => by simp at h⟩
        | cons y l ih =>
          intro o ho
          obtain ⟨x, hx1, hx2⟩ := key o y (by have := ho 0; simpa using this.symm)
          obtain ⟨xs, h1, h2⟩ := ih (o + 1) (fun i => by have := ho (i + 1); rw [show o + 1 + i = o + (i + 1) by omega]; simpa using this)
          refine ⟨x :: xs, by simp [h1], fun i x' hx' => ?_⟩
          cases i with
          | zero => simp at hx'; subst hx'; exact ⟨by simpa using hx1, fun y' hy' => by simp at hy'; subst hy'; exact hx2⟩
          | succ i =>
            have := h2 i x' (by simpa using hx')
            rw [show o + 1 + i = o + (i + 1) by omega] at this
            exact ⟨this.1, fun y' hy' => this.2 y' (by simpa using hy')⟩
      obtain ⟨xs, h1, h2⟩ := this elems 0 (fun i => by simp)
      exact ⟨xs, h1, fun i x hx => by simpa using h2 i x hx⟩
    obtain ⟨xs, hxl, hx⟩ := key2
    have hsum := sum_le (sz := sz) (b := b) hbs hxl (fun i x y h1 h2 => (hx i x h1).2 y h2)
    have hb' := hb (elems.map (·.1)) (rest.map (·.1))
    refine ⟨xs, ?_, show sumBy sz xs + 1 ≤ b (.slice (elems.map (·.1)) (rest.map (·.1))) by omega⟩
    by_cases hc0 : cap = 0
    · have h0 : len = 0 := by omega
      subst hc0; subst h0
      have : xs = [] := List.length_eq_zero_iff.1 (by omega)
      subst this
      exact .cons (.sl0 false n a) .nil
    · have hone : ∃ cs, w.cells? 0 a n = some cs := by
        by_cases h0 : len = 0
        · have hr := (hrest rfl).2 0 (by omega)
          have hr' : rest[0]? ≠ none := by
            rw [List.getElem?_eq_getElem (by rw [(hrest rfl).1]; omega)]; simp
          rw [hn] at hr
          rw [h0, show (0 + 0) * n = 0 by simp, add_zero] at hr
          cases hcl : w.cells? 0 a n with
          | none => rw [hcl] at hr; exact absurd hr.symm hr'
          | some cs => exact ⟨cs, rfl⟩
        · have : 0 < xs.length := by omega
          obtain ⟨⟨cs, h1, _⟩, _⟩ := hx 0 xs[0] (by simp [this])
          rw [show 0 * n = 0 by simp, add_zero] at h1
          exact ⟨cs, h1⟩
      obtain ⟨cs0, hq⟩ := hone
      obtain ⟨hl0, hq'⟩ := cells_get hq
      have hq0 := hq' 0 (cs0[0]'(by omega)) (by simp)
      rw [add_zero] at hq0
      have hsp : a.spot = none := cell_spot hq0
      have hbl : a.block < w.heap.size := cell_blk hq0
      obtain ⟨blk, off, sp⟩ := a
      have hsp : sp = none := hsp
      subst hsp
      refine .cons (.sl false n (xs.map F) blk off cap len (fun i j => (w.cell? ⟨blk, off + i * n + j, none⟩).getD (.bool false)) (by rw [List.length_map]; omega) (by rw [List.length_map]; omega) (fun h => h) hbl (fun i e he => ?_) (fun i j e f he hf => ?_) (fun i j e f he hf => ?_)) .nil
      · rw [List.getElem?_map] at he
        obtain ⟨x, _, rfl⟩ := Option.map_eq_some_iff.1 he
        exact hF x
      all_goals
        rw [List.getElem?_map] at he
        obtain ⟨x, hxi, rfl⟩ := Option.map_eq_some_iff.1 he
        obtain ⟨⟨cs, h1, h2⟩, _⟩ := hx i x hxi
        obtain ⟨h3, h4⟩ := cells_get h1
        have hj : j < cs.length := by rw [← h2.1]; exact (List.getElem?_eq_some_iff.1 hf).1
        have h5 := h4 j cs[j] (by simp)
        rw [add_none, add_none] at h5
      · rw [h5]; rfl
      · rw [h5]
        exact h2.2 j f cs[j] hf (by simp)

/-- Terms. -/
theorem FT_sum : ∀ l : List Tm, Tm.bks l = sumBy Tm.bk l
  | [] => rfl
  | t :: l => by rw [Tm.bks, sumBy, FT_sum l]
/-- How a term lies. -/
structure TmTy (P : Program) (T : TypeId) (f0 f1 f2 f3 : Field) : Prop where
  str : P.underlying T = some (.struct #[f0, f1, f2, f3])
  u0 : P.underlying f0.type = some (.int .i64)
  u1 : P.underlying f1.type = some .string
  u2 : P.underlying f2.type = some (.int .i64)
  u3 : P.underlying f3.type = some (.slice T)
  o0 : f0.offset = 0
  o1 : f1.offset = 1
  o2 : f2.offset = 2
  o3 : f3.offset = 3
  c0 : P.cellsOf f0.type = 1
  c1 : P.cellsOf f1.type = 1
  c2 : P.cellsOf f2.type = 1
  c3 : P.cellsOf f3.type = 1
  cT : P.cellsOf T = 4
/-- How much a reading holds. -/
structure Bulk (b : DataW H → Nat) (bs : List (DataW H) → Nat) : Prop where
  nil : bs [] = 0
  cons : ∀ d l, bs (d :: l) = b d + bs l
  one : ∀ d, 1 ≤ b d
  slice : ∀ es sp, bs es + 1 ≤ b (.slice es sp)
  str : ∀ l : List UInt8, l.length + 1 ≤ b (.lit (.string l))
  agg : ∀ l, bs l + 1 ≤ b (.agg l)
theorem LRep.one {α : Type} {R : α → Value → Prop} {c : α} {u : Value} (h : LRep R [c] [u]) : R c u := h.2 0 c u rfl rfl
theorem rd_term {b : DataW H → Nat} {bs : List (DataW H) → Nat} (hb : Bulk b bs) {T : TypeId} {f0 f1 f2 f3 : Field} (hT : TmTy P T f0 f1 f2 f3) : ∀ fuel, RdN enc P w b fuel T FT Tm.bk := by
  intro fuel
  induction fuel using Nat.strongRecOn with
  | _ fuel ih =>
    intro cs x h
    obtain ⟨xs, n, rfl, rfl, hl, hxl, hf⟩ := DataW.trod_struct hT.str h
    rw [hT.cT] at hl
    match cs, hl with
    | [v0, v1, v2, v3], _ =>
    match xs, hxl with
    | [x0, x1, x2, x3], _ =>
    have g0 := hf 0 f0 rfl
    have g1 := hf 1 f1 rfl
    have g2 := hf 2 f2 rfl
    have g3 := hf 3 f3 rfl
    rw [hT.o0, hT.c0] at g0
    rw [hT.o1, hT.c1] at g1
    rw [hT.o2, hT.c2] at g2
    rw [hT.o3, hT.c3] at g3
    obtain ⟨k, r0, _⟩ := rd_int (b := b) hT.u0 hb.one n _ _ g0
    obtain ⟨s, r1, z1⟩ := rd_str (b := b) hT.u1 hb.str n _ _ g1
    have z1 : s.length + 1 ≤ b x1.1 := z1
    obtain ⟨m, r2, _⟩ := rd_int (b := b) hT.u2 hb.one n _ _ g2
    obtain ⟨l, r3, z3⟩ := rd_slice (F := FT) (sz := Tm.bk) hb.cons hb.one hb.slice hT.u3 hT.cT (by omega) FT_length (fun k hk => ih k (by omega)) _ _ g3
    have z3 : sumBy Tm.bk l + 1 ≤ b x3.1 := z3
    refine ⟨.mk k s m l, ?_, ?_⟩
    · rw [FT, FTs_map]
      exact .cons (LRep.one r0) (.cons (LRep.one r1) (.cons (LRep.one r2) (.cons (LRep.one r3) .nil)))
    · have := hb.one x0.1
      simp only [Tm.bk, FT_sum]
      show _ ≤ b (.agg [x0.1, x1.1, x2.1, x3.1])
      have h9 := hb.agg [x0.1, x1.1, x2.1, x3.1]
      simp only [hb.cons, hb.nil] at h9
      omega

/-! ### Arguments -/
theorem none_own {Y : Nat → Prop} (hY : ∀ b, ¬ Y b) {Hs : List AObj} : (fun b => Y b ∨ Own (fun o => Hs.getD o .gone) (fun _ => none) b) = none1 := by
  funext b
  refine propext ⟨fun h => ?_, fun h => h.elim⟩
  rcases h with h | ⟨o, _, h⟩
  · exact (hY b h).elim
  · cases h
abbrev β0 : Nat → Option Nat := fun _ => none
theorem open_term {b : DataW H → Nat} {bs : List (DataW H) → Nat} (hb : Bulk b bs) {T : TypeId} {f0 f1 f2 f3 : Field} (hT : TmTy P T f0 f1 f2 f3) {r : Reach} {base : Nat} {v : Value} {d : DataW H} {ps : List MemPlace}
    (hv : Value.okWide P w r base T v) (hd : DataW.Trod enc P w 0 (fun _ => true) true T v d ps) : ∃ t : Tm, TRep w none1 β0 (aT t) v ∧ t.bk ≤ b d := by
  obtain ⟨cs, rfl, _⟩ := okWide_struct hT.str hv
  obtain ⟨fuel, hf⟩ := hd
  obtain ⟨t, h1, h2⟩ := rd_term hb hT fuel _ _ hf
  refine ⟨t, ⟨cs.toList, by simp, ?_⟩, h2⟩
  rw [FT_eta] at h1
  have h1 : LRep (FRep w none1) [.int .i64 t.k, .str t.s, .int .i64 t.n, .sl false 4 (FTs t.l)] cs.toList := h1
  exact h1.map (g := fun x => WV.a (.fz x)) fun c u _ h => .a _ _ (.fz _ _ h)
theorem open_terms {b : DataW H → Nat} {bs : List (DataW H) → Nat} (hb : Bulk b bs) {T S : TypeId} {f0 f1 f2 f3 : Field} (hT : TmTy P T f0 f1 f2 f3) (hS : P.underlying S = some (.slice T)) {r : Reach} {base : Nat} {v : Value} {d : DataW H} {ps : List MemPlace}
    (hv : Value.okWide P w r base S v) (hd : DataW.Trod enc P w 0 (fun _ => true) true S v d ps) : ∃ l : List Tm, TRep w none1 β0 (aL l) v ∧ Tm.bks l + 1 ≤ b d := by
  obtain ⟨a, len, cap, rfl⟩ := okWide_slice hS hv
  obtain ⟨fuel, hf⟩ := hd
  obtain ⟨l, h1, h2⟩ := rd_slice (F := FT) (sz := Tm.bk) hb.cons hb.one hb.slice hS hT.cT (by omega) FT_length (fun k _ => rd_term hb hT k) _ _ hf
  have h2 : sumBy Tm.bk l + 1 ≤ b d := h2
  rw [← FT_sum] at h2
  have h1 : LRep (FRep w none1) [.sl false 4 (l.map FT)] [_] := h1
  rw [← FTs_map] at h1
  exact ⟨l, .a _ _ (.fz _ _ h1.one), h2⟩
theorem open_num {t : TypeId} {k : IntKind} (ht : P.underlying t = some (.int k)) {r : Reach} {base : Nat} {v : Value} {d : DataW H} {ps : List MemPlace}
    (hv : Value.okWide P w r base t v) (hd : DataW.Trod enc P w 0 (fun _ => true) true t v d ps) : ∃ n : Int, TRep w none1 β0 (.c (.a (.fz (.int k n)))) v ∧ (Lit.int k n).wf = true := by
  obtain ⟨n, rfl, _, _, hw⟩ := open_int ht hv hd
  exact ⟨n, .a _ _ (.fz _ _ (.int k n)), hw⟩
theorem open_str {t : TypeId} (ht : P.underlying t = some .string) {b : DataW H → Nat} {bs : List (DataW H) → Nat} (hb : Bulk b bs) {r : Reach} {base : Nat} {v : Value} {d : DataW H} {ps : List MemPlace}
    (hv : Value.okWide P w r base t v) (hd : DataW.Trod enc P w 0 (fun _ => true) true t v d ps) : ∃ s : List UInt8, TRep w none1 β0 (cs s) v ∧ s.length + 1 ≤ b d := by
  obtain ⟨s, rfl⟩ := okWide_string ht hv
  obtain ⟨fuel, hf⟩ := hd
  obtain ⟨l, h1, h2⟩ := rd_str (b := b) ht hb.str fuel _ _ hf
  exact ⟨l, .a _ _ (.fz _ _ h1.one), h2⟩

/-! ### The end -/
theorem kept_good {w' : World} {foot : Nat → Prop} (g : Good w foot w') (hf : ∀ b, ¬ foot b) (may : MemPlace → Prop) : w.keptBut w' may := by
  refine ⟨g.os, g.output, fun i hi => ?_⟩
  rw [g.blk i hi (hf i)]
  exact (World.keptBut_refl w may).2.2 i hi
theorem same_good {w' : World} {foot : Nat → Prop} (g : Good w foot w') (hf : ∀ b, ¬ foot b) {p : MemPlace} (hp : p.block < w.heap.size) : w.sameAt w' p := by
  cases p with
  | cell b o => exact World.cell?_of_block (a := ⟨b, o, none⟩) (g.blk b hp (hf b))
  | map b => exact g.blk b hp (hf b)
theorem trodAll_stays (hl : laidOutB P = true) {w' : World} {sp : Nat → Bool} : ∀ {ts : List TypeId} {vs : List Value} {ds : List (DataW H)} {p : List MemPlace}, DataW.TrodAll enc P w 0 (fun _ => true) true ts vs ds p →
    (∀ t ∈ ts, P.readableRec t = true ∧ t < P.types.size) → (∀ x ∈ p, w.sameAt w' x) → (∀ x ∈ p, sp x.block = true) → DataW.TrodAll enc P w' 0 sp true ts vs ds p
  | [], _, _, _, h, _, _, _ => by
    obtain ⟨rfl, rfl, rfl⟩ := trodAll_nil h
    exact trodAll_mk0
  | t :: ts, _, _, _, h, ht, hs, hsp => by
    obtain ⟨v, vs', d, ds', p, q, rfl, rfl, rfl, ⟨n, h1⟩, h2⟩ := trodAll_cons h
    have hr := (ht t List.mem_cons_self).1
    exact ⟨p, q, ⟨n, DataW.trod_stays (kids_book hl hr) (book_sized hr) (fun h => by cases h) ⟨(ht t List.mem_cons_self).2, book_self t⟩ h1 (fun x hx => hs x (List.mem_append_left _ hx)) (fun x hx => hsp x (List.mem_append_left _ hx))⟩,
      trodAll_stays hl h2 (fun u hu => ht u (List.mem_cons_of_mem _ hu)) (fun x hx => hs x (List.mem_append_right _ hx)) (fun x hx => hsp x (List.mem_append_right _ hx)), rfl⟩
/-- A law's end: it returns true, and what was read reads as before. -/
theorem post_good (hl : laidOutB P = true) {f : Func} {s : ChangeSpec} {apart fresh handsOn again : Bool} {w' : World} {args : Array Value} {ds gs : List (DataW H)} {before : List MemPlace} {foot : Nat → Prop} {tb : TypeId}
    (hW : DataW.Whole enc P f.params.toList s.vars apart w args.toList ds gs before) (hv : s.vars = []) (hs : ∀ ds' : List (DataW H), ds'.length = ds.length → s.fn H ds' = { results := [.lit (.bool true)], args := ds' })
    (ht : ∀ t ∈ f.params.toList, P.readableRec t = true ∧ t < P.types.size) (hr : f.resultTypes = #[tb]) (hb : P.underlying tb = some .bool) (g : Good w foot w') (hf : ∀ b, ¬ foot b) :
    s.post enc P f apart fresh handsOn again w args (.bool true) w' := by
  have hlt := hW.lt
  obtain ⟨p, q, h1, h2, he, hz, hn⟩ := hW
  rw [hv] at h2
  obtain ⟨rfl, rfl⟩ := trodVars_none h2
  rw [List.append_nil] at he
  subst he
  have hold : ∀ x ∈ before, (fun b => decide (b < w.heap.size)) x.block = true := fun x hx => by simpa using hlt x hx
  have hfn := hs (ds ++ []) (by simp)
  have hargs : ∀ sp : Nat → Bool, (∀ x ∈ before, sp x.block = true) → DataW.TrodAll enc P w' 0 sp true f.params.toList args.toList (s.fn H (ds ++ [])).args before := fun sp hsp => by
    rw [hfn, List.append_nil]
    exact trodAll_stays hl h1 ht (fun x hx => same_good g hf (hlt x hx)) hsp
  have hres : ∀ (b : Nat) (sp : Nat → Bool) (hd : Bool), DataW.TrodAll enc P w' b sp hd f.resultTypes.toList ((Value.bool true).resultList f.resultTypes.size) (s.fn H (ds ++ [])).results [] := fun b sp hd => by
    rw [hfn, hr]
    exact trodAll_mk1 ⟨1, by simp [DataW.trod, Value.cells, hb]⟩
  have hvars : ∀ sp : Nat → Bool, DataW.TrodVars enc P w' sp s.vars (s.fn H (ds ++ [])).vars [] := fun sp => by
    rw [hfn, hv]
    rfl
  refine ⟨ds, [], before, [], before, [], ⟨before, [], h1, by rw [hv]; rfl, by simp, hz, hn⟩, hres _ _ _, hargs _ hold, hvars _, World.keptBut_mono (fun x hx => ⟨hx, ?_⟩) (kept_good g hf (· ∈ before)), fun _ => ?_⟩
  · simpa using hx
  · refine ⟨ok_one hr rfl (okWide_bool_mk hb _), _, _, ([] ++ before) ++ [], ⟨[] ++ before, [], trodAll_append (hargs _ (fun _ _ => rfl)) (hres _ _ _), hvars _, rfl, ?_, ?_⟩, ?_⟩
    · intro b off hp
      have hp : MemPlace.cell b off ∈ before := by simpa using hp
      have hb := hlt _ hp
      have : w'.frozen? ⟨b, off, none⟩ = w.frozen? ⟨b, off, none⟩ := by
        unfold World.frozen?
        rw [g.blk b hb (hf b)]
      rw [this]
      exact hz b off hp
    · intro ha
      simpa using hn ha
    · intro x hx _
      simpa using hx
/-- A contract that a law's function answers: true. -/
theorem law_true {f : FuncId} {args : List TV} (hgl : Gl P w none1) (h : AC P f args [] (cb true) []) {vals : List Value} (hv : LRep (TRep w none1 β0) args vals) :
    Calls P f vals.toArray w fun e w' => e = .returned (.bool true) ∧ ∃ foot, (∀ b, ¬ foot b) ∧ Good w foot w' := by
  have hX : (fun b => (fun _ : Nat => False) b ∨ Own (fun o => ([] : List AObj).getD o .gone) β0 b) = none1 := none_own (fun _ h => h)
  refine (h.2.2 w vals β0 (fun _ => False) (fun o b h => by cases h) (fun b h => h.elim) (hgl.sub fun b ⟨o, h5, _⟩ => by simp [isLive] at h5) ⟨fun o b h _ => by simp [isLive] at h, fun o h => by simp [isLive] at h, fun o o' b h => by simp [isLive] at h, fun o b h => by cases h⟩ (by rw [hX]; exact hv)).mono fun e w' ⟨v, β', h1, h2, h3, h4, _⟩ => ?_
  subst h1
  cases h4 with
  | a _ _ h4 =>
    cases h4 with
    | fz _ _ h4 =>
      cases h4
      exact ⟨rfl, _, fun b ⟨o, h5, _⟩ => by simp [isLive] at h5, h2⟩
end
end Go.AM

namespace Go.AM
open Go.ChangeShapes Go.WideShapes Go.ChangeAt Go.RowKit

section
variable {H : Type} {enc : TypeId × Value → H} {P : Program} {w : World}
theorem wf_range {n : Int} (h : (Lit.int .i64 n).wf = true) : -9223372036854775808 ≤ n ∧ n ≤ 9223372036854775807 := by
  simp only [Lit.wf, IntKind.min, IntKind.max, IntKind.signed, IntKind.bits, Bool.and_eq_true, decide_eq_true_eq, if_true] at h; omega
abbrev TmI := { t : Tm // okI t }
theorem sumBy_val : ∀ l : List TmI, Tm.bks (l.map (·.1)) = sumBy (fun t : TmI => t.1.bk) l
  | [] => rfl
  | t :: l => by rw [List.map_cons, Tm.bks, sumBy, sumBy_val l]
theorem okIs_val (l : List TmI) : okIs (l.map (·.1)) := okIs_of fun t ht => by
  obtain ⟨u, _, rfl⟩ := List.mem_map.1 ht
  exact u.2
theorem rd_termI {b : DataW H → Nat} {bs : List (DataW H) → Nat} (hb : Bulk b bs) {T : TypeId} {f0 f1 f2 f3 : Field} (hT : TmTy P T f0 f1 f2 f3) : ∀ fuel, RdN enc P w b fuel T (fun t : TmI => FT t.1) (fun t => t.1.bk) := by
  intro fuel
  induction fuel using Nat.strongRecOn with
  | _ fuel ih =>
    intro cs x h
    obtain ⟨xs, n, rfl, rfl, hl, hxl, hf⟩ := DataW.trod_struct hT.str h
    rw [hT.cT] at hl
    match cs, hl with
    | [v0, v1, v2, v3], _ =>
    match xs, hxl with
    | [x0, x1, x2, x3], _ =>
    have g0 := hf 0 f0 rfl
    have g1 := hf 1 f1 rfl
    have g2 := hf 2 f2 rfl
    have g3 := hf 3 f3 rfl
    rw [hT.o0, hT.c0] at g0
    rw [hT.o1, hT.c1] at g1
    rw [hT.o2, hT.c2] at g2
    rw [hT.o3, hT.c3] at g3
    obtain ⟨k, r0, _⟩ := rd_int (b := b) hT.u0 hb.one n _ _ g0
    obtain ⟨s, r1, z1⟩ := rd_str (b := b) hT.u1 hb.str n _ _ g1
    have z1 : s.length + 1 ≤ b x1.1 := z1
    obtain ⟨m, r2, _⟩ := rd_num (b := b) hT.u2 hb.one n _ _ g2
    obtain ⟨l, r3, z3⟩ := rd_slice (F := fun t : TmI => FT t.1) (sz := fun t : TmI => t.1.bk) hb.cons hb.one hb.slice hT.u3 hT.cT (by omega) (fun t => FT_length t.1) (fun k hk => ih k (by omega)) _ _ g3
    have z3 : sumBy (fun t : TmI => t.1.bk) l + 1 ≤ b x3.1 := z3
    refine ⟨⟨.mk k s m.1 (l.map (·.1)), wf_range m.2, okIs_val l⟩, ?_, ?_⟩
    · have e : FTs (l.map (·.1)) = l.map fun t : TmI => FT t.1 := by rw [FTs_map, List.map_map]; rfl
      show LRep (FRep w none1) (FT (.mk k s m.1 (l.map (·.1)))) _
      rw [FT, e]
      exact .cons (LRep.one r0) (.cons (LRep.one r1) (.cons (LRep.one r2) (.cons (LRep.one r3) .nil)))
    · have := hb.one x0.1
      show Tm.bk (.mk k s m.1 (l.map (·.1))) ≤ b (.agg [x0.1, x1.1, x2.1, x3.1])
      simp only [Tm.bk, sumBy_val]
      have h9 := hb.agg [x0.1, x1.1, x2.1, x3.1]
      simp only [hb.cons, hb.nil] at h9
      omega
theorem open_termI {b : DataW H → Nat} {bs : List (DataW H) → Nat} (hb : Bulk b bs) {T : TypeId} {f0 f1 f2 f3 : Field} (hT : TmTy P T f0 f1 f2 f3) {r : Reach} {base : Nat} {v : Value} {d : DataW H} {ps : List MemPlace}
    (hv : Value.okWide P w r base T v) (hd : DataW.Trod enc P w 0 (fun _ => true) true T v d ps) : ∃ t : Tm, TRep w none1 β0 (aT t) v ∧ t.bk ≤ b d ∧ okI t := by
  obtain ⟨cs, rfl, _⟩ := okWide_struct hT.str hv
  obtain ⟨fuel, hf⟩ := hd
  obtain ⟨t, h1, h2⟩ := rd_termI hb hT fuel _ _ hf
  refine ⟨t.1, ⟨cs.toList, by simp, ?_⟩, h2, t.2⟩
  have h1 : LRep (FRep w none1) (FT t.1) cs.toList := h1
  rw [FT_eta] at h1
  exact h1.map (g := fun x => WV.a (.fz x)) fun c u _ h => .a _ _ (.fz _ _ h)
end
end Go.AM

namespace Go.AM
open Go.ChangeShapes Go.WideShapes Go.ChangeAt Go.RowKit

section
variable {H : Type} {enc : TypeId × Value → H} {P : Program} {w : World}
/-- A row of structs, from what one is. -/
theorem open_rows {b : DataW H → Nat} {bs : List (DataW H) → Nat} (hb : Bulk b bs) {T S : TypeId} {n : Nat} {α : Type} {F : α → List FV} {sz : α → Nat} (hF : ∀ a, (F a).length = n) (hn : P.cellsOf T = n) (hn0 : 0 < n) (hz : ∀ a, 1 ≤ sz a)
    (h1 : ∀ k, RdN enc P w b k T F sz) (hS : P.underlying S = some (.slice T)) {r : Reach} {base : Nat} {v : Value} {d : DataW H} {ps : List MemPlace}
    (hv : Value.okWide P w r base S v) (hd : DataW.Trod enc P w 0 (fun _ => true) true S v d ps) : ∃ l : List α, TRep w none1 β0 (.c (.a (.fz (.sl false n (l.map F))))) v ∧ sumBy sz l + 1 ≤ b d := by
  obtain ⟨a, len, cap, rfl⟩ := okWide_slice hS hv
  obtain ⟨fuel, hf⟩ := hd
  obtain ⟨l, h1, h2⟩ := rd_slice hb.cons hb.one hb.slice hS hn hn0 hF (fun k _ => h1 k) _ _ hf
  have h1 : LRep (FRep w none1) [.sl false n (l.map F)] [_] := h1
  exact ⟨l, .a _ _ (.fz _ _ h1.one), h2⟩
/-- A truth value and a term. -/
abbrev FBT (v : Bool × TmI) : List FV := .bool v.1 :: FT v.2.1
structure BTTy (P : Program) (T Tt : TypeId) (f0 f1 : Field) : Prop where
  str : P.underlying T = some (.struct #[f0, f1])
  u0 : P.underlying f0.type = some .bool
  t1 : f1.type = Tt
  o0 : f0.offset = 0
  o1 : f1.offset = 1
  c0 : P.cellsOf f0.type = 1
  cT : P.cellsOf T = 5
theorem rd_bt {b : DataW H → Nat} {bs : List (DataW H) → Nat} (hb : Bulk b bs) {T Tt : TypeId} {g0 g1 g2 g3 f0 f1 : Field} (hT : TmTy P Tt g0 g1 g2 g3) (hV : BTTy P T Tt f0 f1) (fuel : Nat) :
    RdN enc P w b fuel T FBT (fun v => v.2.1.bk + 1) := by
  intro cs x h
  obtain ⟨xs, n, rfl, rfl, hl, hxl, hf⟩ := DataW.trod_struct hV.str h
  rw [hV.cT] at hl
  match cs, hl with
  | [v0, v1, v2, v3, v4], _ =>
  match xs, hxl with
  | [x0, x1], _ =>
  have q0 := hf 0 f0 rfl
  have q1 := hf 1 f1 rfl
  rw [hV.o0, hV.c0] at q0
  rw [hV.o1, hV.t1, hT.cT] at q1
  obtain ⟨p, r0, _⟩ := rd_bool (b := b) hV.u0 hb.one n _ _ q0
  obtain ⟨t, r1, z1⟩ := rd_termI hb hT n _ _ q1
  have z1 : t.1.bk ≤ b x1.1 := z1
  refine ⟨(p, t), .cons (LRep.one r0) r1, ?_⟩
  show t.1.bk + 1 ≤ b (.agg [x0.1, x1.1])
  have h9 := hb.agg [x0.1, x1.1]
  simp only [hb.cons, hb.nil] at h9
  omega
/-- A number, a truth value and a term. -/
abbrev IBT := { n : Int // -9223372036854775808 ≤ n ∧ n ≤ 9223372036854775807 } × Bool × TmI
abbrev FIBT (v : IBT) : List FV := .int .i64 v.1.1 :: .bool v.2.1 :: FT v.2.2.1
structure IBTTy (P : Program) (T Tt : TypeId) (f0 f1 f2 : Field) : Prop where
  str : P.underlying T = some (.struct #[f0, f1, f2])
  u0 : P.underlying f0.type = some (.int .i64)
  u1 : P.underlying f1.type = some .bool
  t2 : f2.type = Tt
  o0 : f0.offset = 0
  o1 : f1.offset = 1
  o2 : f2.offset = 2
  c0 : P.cellsOf f0.type = 1
  c1 : P.cellsOf f1.type = 1
  cT : P.cellsOf T = 6
theorem rd_ibt {b : DataW H → Nat} {bs : List (DataW H) → Nat} (hb : Bulk b bs) {T Tt : TypeId} {g0 g1 g2 g3 f0 f1 f2 : Field} (hT : TmTy P Tt g0 g1 g2 g3) (hV : IBTTy P T Tt f0 f1 f2) (fuel : Nat) :
    RdN enc P w b fuel T FIBT (fun v => v.2.2.1.bk + 2) := by
  intro cs x h
  obtain ⟨xs, n, rfl, rfl, hl, hxl, hf⟩ := DataW.trod_struct hV.str h
  rw [hV.cT] at hl
  match cs, hl with
  | [v0, v1, v2, v3, v4, v5], _ =>
  match xs, hxl with
  | [x0, x1, x2], _ =>
  have q0 := hf 0 f0 rfl
  have q1 := hf 1 f1 rfl
  have q2 := hf 2 f2 rfl
  rw [hV.o0, hV.c0] at q0
  rw [hV.o1, hV.c1] at q1
  rw [hV.o2, hV.t2, hT.cT] at q2
  obtain ⟨i, r0, z0⟩ := rd_num (b := b) hV.u0 hb.one n _ _ q0
  obtain ⟨p, r1, z1⟩ := rd_bool (b := b) hV.u1 hb.one n _ _ q1
  obtain ⟨t, r2, z2⟩ := rd_termI hb hT n _ _ q2
  have z2 : t.1.bk ≤ b x2.1 := z2
  have z0 : 1 ≤ b x0.1 := z0
  refine ⟨(⟨i.1, wf_range i.2⟩, p, t), .cons (LRep.one r0) (.cons (LRep.one r1) r2), ?_⟩
  show t.1.bk + 2 ≤ b (.agg [x0.1, x1.1, x2.1])
  have h9 := hb.agg [x0.1, x1.1, x2.1]
  simp only [hb.cons, hb.nil] at h9
  omega
/-- Three numbers and a term. -/
abbrev I3T := { n : Int × Int × Int // (-9223372036854775808 ≤ n.1 ∧ n.1 ≤ 9223372036854775807) ∧ (-9223372036854775808 ≤ n.2.1 ∧ n.2.1 ≤ 9223372036854775807) ∧ (-9223372036854775808 ≤ n.2.2 ∧ n.2.2 ≤ 9223372036854775807) } × TmI
abbrev FI3T (v : I3T) : List FV := .int .i64 v.1.1.1 :: .int .i64 v.1.1.2.1 :: .int .i64 v.1.1.2.2 :: FT v.2.1
structure I3TTy (P : Program) (T Tt : TypeId) (f0 f1 f2 f3 : Field) : Prop where
  str : P.underlying T = some (.struct #[f0, f1, f2, f3])
  u0 : P.underlying f0.type = some (.int .i64)
  u1 : P.underlying f1.type = some (.int .i64)
  u2 : P.underlying f2.type = some (.int .i64)
  t3 : f3.type = Tt
  o0 : f0.offset = 0
  o1 : f1.offset = 1
  o2 : f2.offset = 2
  o3 : f3.offset = 3
  c0 : P.cellsOf f0.type = 1
  c1 : P.cellsOf f1.type = 1
  c2 : P.cellsOf f2.type = 1
  cT : P.cellsOf T = 7
theorem rd_i3t {b : DataW H → Nat} {bs : List (DataW H) → Nat} (hb : Bulk b bs) {T Tt : TypeId} {g0 g1 g2 g3 f0 f1 f2 f3 : Field} (hT : TmTy P Tt g0 g1 g2 g3) (hV : I3TTy P T Tt f0 f1 f2 f3) (fuel : Nat) :
    RdN enc P w b fuel T FI3T (fun v => v.2.1.bk + 3) := by
  intro cs x h
  obtain ⟨xs, n, rfl, rfl, hl, hxl, hf⟩ := DataW.trod_struct hV.str h
  rw [hV.cT] at hl
  match cs, hl with
  | [v0, v1, v2, v3, v4, v5, v6], _ =>
  match xs, hxl with
  | [x0, x1, x2, x3], _ =>
  have q0 := hf 0 f0 rfl
  have q1 := hf 1 f1 rfl
  have q2 := hf 2 f2 rfl
  have q3 := hf 3 f3 rfl
  rw [hV.o0, hV.c0] at q0
  rw [hV.o1, hV.c1] at q1
  rw [hV.o2, hV.c2] at q2
  rw [hV.o3, hV.t3, hT.cT] at q3
  obtain ⟨i, r0, z0⟩ := rd_num (b := b) hV.u0 hb.one n _ _ q0
  obtain ⟨j, r1, z1⟩ := rd_num (b := b) hV.u1 hb.one n _ _ q1
  obtain ⟨k, r2, z2⟩ := rd_num (b := b) hV.u2 hb.one n _ _ q2
  obtain ⟨t, r3, z3⟩ := rd_termI hb hT n _ _ q3
  have z0 : 1 ≤ b x0.1 := z0
  have z1 : 1 ≤ b x1.1 := z1
  have z3 : t.1.bk ≤ b x3.1 := z3
  refine ⟨(⟨(i.1, j.1, k.1), wf_range i.2, wf_range j.2, wf_range k.2⟩, t), .cons (LRep.one r0) (.cons (LRep.one r1) (.cons (LRep.one r2) r3)), ?_⟩
  show t.1.bk + 3 ≤ b (.agg [x0.1, x1.1, x2.1, x3.1])
  have h9 := hb.agg [x0.1, x1.1, x2.1, x3.1]
  simp only [hb.cons, hb.nil] at h9
  omega
end
end Go.AM

set_option maxRecDepth 100000
open Go Go.Proofs
namespace Go.AM

/-! ### What is in full is valid, and not too large -/
theorem runH_sz {s : Sto} (hs : OKS s) : ∀ (F : Nat) (t : Tm), validB t = true → Fit F t → (runH s F t).2.1 = 0 → (runH s F t).1.sz + 4200 * (F - (runH s F t).2.2) ≤ t.sz + 4200 * F := by
  intro F
  induction F with
  | zero => intro t hv hf h; rw [runH] at h ⊢; split <;> rename_i q
            · exact Nat.le_refl _
            · rw [if_neg q] at h; cases h
  | succ F ih =>
    intro t hv hf h
    rw [runH] at h ⊢
    split
    · exact Nat.le_refl _
    · rename_i q
      rw [if_neg q] at h
      split
      · rename_i q2; rw [if_pos q2] at h; cases h
      · rename_i q2
        rw [if_neg q2] at h
        have q1 : (stepS s t).2 = 1 := by rcases stepS_n s t with q' | q' | q'; · exact absurd q' q
                                          · exact q'
                                          · exact absurd q' q2
        obtain ⟨v, ff⟩ := stepS_fit hs hv hf q1
        have h1 := ih _ v ff h
        have h2 := stepS_sz hs hv hf q1
        simp only
        omega
/-- The rows within, done in full. -/
theorem kidsF_ok {fu : Int → Tm → Tm × Int × Int} (hfu : ∀ g t, 0 ≤ g → 0 ≤ (fu g t).2.2 ∧ (fu g t).2.2 ≤ g) {A : Tm → Tm → Prop} :
    ∀ (l : List Tm) (sk : Bool) (g : Int), 0 ≤ g → (∀ u ∈ (if sk = true then l.drop 1 else l), ∀ g' : Int, 0 ≤ g' → g' ≤ g → (fu g' u).2.1 = 0 → A u (fu g' u).1 ∧ (fu g' u).1.sz + 4200 * (fu g' u).2.2.toNat ≤ u.sz + 4200 * g'.toNat) →
    (kidsF fu sk l g).2.1 = 0 → Tm.szs (kidsF fu sk l g).1 + 4200 * (kidsF fu sk l g).2.2.toNat ≤ Tm.szs l + 4200 * g.toNat ∧ (kidsF fu sk l g).1.length = l.length ∧ (sk = true → hd (kidsF fu sk l g).1 = hd l) ∧ All2 A (if sk = true then l.drop 1 else l) (if sk = true then (kidsF fu sk l g).1.drop 1 else (kidsF fu sk l g).1)
  | [], sk, g, _, _, _ => by
    refine ⟨Nat.le_refl _, rfl, fun _ => rfl, ?_⟩
    cases sk <;> trivial
  | t :: l, true, g, hg, h, h0 => by
    have := kidsF_ok hfu l false g hg h h0
    refine ⟨?_, by rw [kidsF, List.length_cons, this.2.1]; rfl, fun _ => rfl, this.2.2.2⟩
    have h1 := this.1
    show t.sz + Tm.szs _ + _ ≤ t.sz + Tm.szs l + _
    have e : (kidsF fu true (t :: l) g).2.2 = (kidsF fu false l g).2.2 := rfl
    rw [e]; omega
  | t :: l, false, g, hg, h, h0 => by
    have eK : kidsF fu false (t :: l) g = if (fu g t).2.1 ≠ 0 then ([], (fu g t).2) else ((fu g t).1 :: (kidsF fu false l (fu g t).2.2).1, (kidsF fu false l (fu g t).2.2).2) := rfl
    rw [eK] at h0 ⊢
    by_cases q : (fu g t).2.1 ≠ 0
    · rw [if_pos q] at h0; exact absurd h0 q
    · rw [if_neg q] at h0 ⊢
      have q : (fu g t).2.1 = 0 := by simpa using q
      have h1 := hfu g t hg
      have h2 := h t List.mem_cons_self g hg (Int.le_refl _) q
      have h3 := kidsF_ok hfu l false (fu g t).2.2 h1.1 (fun u hu g' a b c => h u (List.mem_cons_of_mem _ hu) g' a (by omega) c) h0
      refine ⟨?_, by simp only [List.length_cons, h3.2.1], fun e => (by cases e), ⟨h2.1, h3.2.2.2⟩⟩
      have h4 := h3.1
      have h5 := h2.2
      simp only [Tm.szs]
      omega
theorem all2_mem {α β : Type} {R : α → β → Prop} {Q : β → Prop} (h : ∀ x y, R x y → Q y) : ∀ {a : List α} {b : List β}, All2 R a b → ∀ y ∈ b, Q y
  | [], [], _, y, hy => by cases hy
  | x :: a, z :: b, hr, y, hy => by
    rcases List.mem_cons.1 hy with rfl | hy
    · exact h _ _ hr.1
    · exact all2_mem h hr.2 y hy
  | [], _ :: _, h, _, _ => h.elim
  | _ :: _, [], h, _, _ => h.elim
theorem mem_hd {l : List Tm} {y : Tm} (h : y ∈ l) : y = hd l ∨ y ∈ l.drop 1 := by
  cases l with
  | nil => cases h
  | cons x l => exact (List.mem_cons.1 h).imp id id
theorem validL_iff {l : List Tm} : validL l = true ↔ ∀ u ∈ l, validB u = true := by
  induction l with
  | nil => exact ⟨(fun _ u hu => nomatch hu), fun _ => rfl⟩
  | cons x l ih =>
    rw [validL, Bool.and_eq_true, ih]
    exact ⟨fun h u hu => (List.mem_cons.1 hu).elim (fun e => e ▸ h.1) (h.2 u), fun h => ⟨h x List.mem_cons_self, fun u hu => h u (List.mem_cons_of_mem _ hu)⟩⟩
/-- New rows within what is valid. -/
theorem valid_node {k n : Int} {s : List UInt8} {l us : List Tm} (hv : validB (.mk k s n l) = true) (hl : us.length = l.length) (hk : k = 6 → hd us = hd l) (hu : k = 5 ∨ k = 6 → ∀ u ∈ us, validB u = true) : validB (.mk k s n us) = true := by
  by_cases h5 : k = 5
  · subst h5
    rw [valid5] at hv ⊢
    simp only [Bool.and_eq_true] at hv ⊢
    exact ⟨⟨hv.1.1, by rw [hl]; exact hv.1.2⟩, validL_iff.2 (hu (.inl rfl))⟩
  · by_cases h6 : k = 6
    · subst h6
      rw [valid6] at hv ⊢
      simp only [Bool.and_eq_true] at hv ⊢
      rw [hk rfl, hl]
      exact ⟨hv.1, validL_iff.2 (hu (.inr rfl))⟩
    · have := okB0 (valid_ok _ hv) h5 h6
      subst this
      have : us = [] := List.eq_nil_of_length_eq_zero hl
      subst this; exact hv
theorem bds_iff {M : Int} {l : List Tm} (h : ∀ u ∈ l, bd M u) : bds M l := bds_of h
theorem fullF_ok {s : Sto} (hs : OKS s) : ∀ (D : Nat) (f : Int) (t : Tm), f.toNat ≤ D → 0 ≤ f → validB t = true → Fit f.toNat t → (fullF s D f t).2.1 = 0 →
    (validB (fullF s D f t).1 = true ∧ bd M61 (fullF s D f t).1) ∧ (fullF s D f t).1.sz + 4200 * (fullF s D f t).2.2.toNat ≤ t.sz + 4200 * f.toNat
  | 0, f, t, _, _, _, _, h => by rw [fullF] at h; cases h
  | D + 1, f, t, hD, h0, hv, hf, h => by
    rw [fullF] at h ⊢
    split
    · rename_i q; rw [if_pos q] at h; cases h
    rename_i q
    rw [if_neg q] at h
    have hfit := hf.mono (show (f - 1).toNat ≤ f.toNat by omega)
    have hq := runH_fit hs hv hfit
    have hz := runH_sz hs (f - 1).toNat t hv hfit
    have eh : headP s (f - 1) t = ((runH s (f - 1).toNat t).1, (runH s (f - 1).toNat t).2.1, f - 1 - ((runH s (f - 1).toNat t).2.2 : Int)) := rfl
    rw [eh] at h ⊢
    generalize runH s (f - 1).toNat t = q at *
    obtain ⟨x, er, u⟩ := q
    simp only at hq hz h ⊢
    obtain ⟨hu, hq⟩ := hq
    rw [fullK] at h ⊢
    split
    · rename_i q2; rw [if_pos q2] at h; exact absurd h q2
    rename_i q2
    rw [if_neg q2] at h
    have he : er = 0 := by simpa using q2
    subst he
    rcases hq with ⟨_, hvx, hfx, _⟩ | ⟨h80, _⟩
    · have hz := hz rfl
      obtain ⟨k, str, n, l⟩ := x
      simp only [Tm.l, Tm.k, Tm.s, Tm.n] at h ⊢
      have hg0 : 0 ≤ f - 1 - (u : Int) := by omega
      have hkid : ∀ x ∈ l, k = 5 ∨ k = 6 := fun x hx => by
        by_cases h5 : k = 5 ∨ k = 6
        · exact h5
        · rw [not_or] at h5
          have := okB0 (valid_ok _ hvx) h5.1 h5.2
          rw [this] at hx; cases hx
      have kid : ∀ x ∈ l, ∀ g' : Int, 0 ≤ g' → g' ≤ f - 1 - (u : Int) → (fullF s D g' x).2.1 = 0 → (validB (fullF s D g' x).1 = true ∧ bd M61 (fullF s D g' x).1) ∧ (fullF s D g' x).1.sz + 4200 * (fullF s D g' x).2.2.toNat ≤ x.sz + 4200 * g'.toNat := fun x hx g' a b c =>
        fullF_ok hs D g' x (by omega) a (kid_valid hvx (hkid x hx) x hx) ((hfx.kid (show x ∈ Tm.l (.mk k str n l) from hx)).mono (by omega)) c
      unfold fullN at h ⊢
      split
      · rename_i q3; rw [if_pos q3] at h; exact absurd h q3
      rename_i q3
      have h9 : (kidsF (fullF s D) (k == 6) l (f - 1 - (u : Int))).2.1 = 0 := by simpa using q3
      have sub : ∀ x ∈ (if (k == 6) = true then l.drop 1 else l), x ∈ l := fun x hx => by
        split at hx
        · exact List.mem_of_mem_drop hx
        · exact hx
      have hk := kidsF_ok (A := fun _ y => validB y = true ∧ bd M61 y) (fullF_left s D) l (k == 6) (f - 1 - (u : Int)) hg0 (fun x hx g' a b c => kid x (sub x hx) g' a b c) h9
      generalize kidsF (fullF s D) (k == 6) l (f - 1 - (u : Int)) = r at *
      obtain ⟨us, er2, g2⟩ := r
      simp only at hk ⊢
      obtain ⟨k1, k2, k3, k4⟩ := hk
      have k5 := all2_mem (Q := fun y => validB y = true ∧ bd M61 y) (fun _ _ h => h) k4
      have all : ∀ y ∈ us, validB y = true ∧ bd M61 y := fun y hy => by
        by_cases h6 : (k == 6) = true
        · rcases mem_hd hy with e | e
          · rw [k3 h6] at e
            have hl : l ≠ [] := fun e2 => by rw [e2] at k2; rw [List.eq_nil_of_length_eq_zero k2] at hy; cases hy
            have hm : y ∈ l := by cases l with
              | nil => exact absurd rfl hl
              | cons z l => rw [e]; exact List.mem_cons_self
            exact ⟨kid_valid hvx (hkid y hm) y hm, bds_mem hfx.bd.2 hm⟩
          · exact k5 y (by rw [if_pos h6]; exact e)
        · exact k5 y (by rw [if_neg h6]; exact hy)
      refine ⟨⟨valid_node hvx k2 (fun e => k3 (by have e : k = 6 := e; rw [e]; rfl)) (fun _ y hy => (all y hy).1), ⟨hfx.bd.1, bds_of fun y hy => (all y hy).2⟩⟩, ?_⟩
      simp only [Tm.sz] at hz ⊢
      omega
    · cases h80
/-- Full: the term, what is left, what is wrong. -/
def FullV (s : Sto) (f : Int) (t : Tm) : Tm × Int × Int :=
  if validB t = true then (if (fullF s f.toNat f t).2.1 = 0 then (shortF (fullF s f.toNat f t).1, (fullF s f.toNat f t).2.2, 0) else (noT, 0, (fullF s f.toNat f t).2.1)) else (noT, 0, 1)
theorem fullF_neg (s : Sto) (D : Nat) {f : Int} (t : Tm) (h : f ≤ 0) : fullF s D f t = (noT, 80, f) := by
  cases D with
  | zero => rfl
  | succ D => rw [fullF, if_pos h]
def fullR (s : Sto) (f : Int) (t : Tm) : Tm × Int × Int :=
  if validB t = true then (if (fullF s f.toNat f t).2.1 = 0 then ((fullF s f.toNat f t).1, (fullF s f.toNat f t).2.2, 0) else (noT, 0, (fullF s f.toNat f t).2.1)) else (noT, 0, 1)
theorem c_srun_full (s : Sto) (hs : OKS s) (f : Int) (t : Tm) (h0 : 0 - 9223372036854775808 ≤ f) (hz : t.sz ≤ B) (hf : validB t = true → Fit f.toNat t) :
    AC Try.prog 54 [aT t, ci f, .c (.fn (.func 55) [(false, [.ep 0 2 0 0])] [])] (oS s) (aHd (fullR s f t)) (oS s) := by
  have h1 := c_valid t hz
  have h2 := fun hv => c_sfull s hs f.toNat f t (Nat.le_refl _) h0 hv (hf hv)
  have hV : fullR s f t = if validB t = true then (if (fullF s f.toNat f t).2.1 = 0 then ((fullF s f.toNat f t).1, (fullF s f.toNat f t).2.2, 0) else (noT, 0, (fullF s f.toNat f t).2.1)) else (noT, 0, 1) := rfl
  rw [hV]
  generalize fullF s f.toNat f t = z at *
  obtain ⟨z1, z2, z3⟩ := z
  obtain ⟨k, str, n, l⟩ := t
  refine AC.vc hP sh lv54 (Nat.le_refl _) (by simp [isLive]) (by simp) (Eq.mpr (v54_F55 k str n (FTs l) ..) ?_)
  refine ⟨_, h1, br_of (fun h => ?_) (fun h => ⟨(z1, z2, z3), h2 (by simpa using h), br_of (fun h' => ?_) (fun h' => ?_)⟩)⟩
  · rw [if_neg (by simpa using h)]; exact ⟨leHd (l := []) leNil, rfl⟩
  · have h : validB (.mk k str n l) = true := by simpa using h
    rw [if_pos h, if_neg (by simpa using h')]; exact ⟨leHd (l := []) leNil, rfl⟩
  · have h : validB (.mk k str n l) = true := by simpa using h
    rw [if_pos h, if_pos (by simpa using h')]; exact ⟨.refl _, rfl⟩
theorem c_sFull (s : Sto) (hs : OKS s) (f : Int) (t : Tm) (h0 : 0 - 9223372036854775808 ≤ f) (hz : t.sz ≤ B) (hf : validB t = true → Fit f.toNat t) : AC Try.prog 31 [aS 0, aT t, ci f] (oS s) (aHd (FullV s f t)) (oS s) := by
  have h := c_srun_full s hs f t h0 hz hf
  have hsh : validB t = true → (fullF s f.toNat f t).2.1 = 0 → AC Try.prog 56 [aT (fullF s f.toNat f t).1] [] (aT (shortF (fullF s f.toNat f t).1)) [] := fun hv he => by
    have h0 : 0 ≤ f := by
      rcases Int.le_total 0 f with q | q
      · exact q
      · rw [fullF_neg s _ t q] at he; cases he
    obtain ⟨⟨a, b⟩, c⟩ := fullF_ok hs f.toNat f t (Nat.le_refl _) h0 hv (hf hv) he
    have := (hf hv).2.1
    have h3 := c_eShort (fullF s f.toNat f t).1 (by omega) b
    rw [if_pos a] at h3
    exact h3
  have e1 : FullV s f t = if validB t = true then (if (fullF s f.toNat f t).2.1 = 0 then (shortF (fullF s f.toNat f t).1, (fullF s f.toNat f t).2.2, 0) else (noT, 0, (fullF s f.toNat f t).2.1)) else (noT, 0, 1) := rfl
  have e2 : fullR s f t = if validB t = true then (if (fullF s f.toNat f t).2.1 = 0 then ((fullF s f.toNat f t).1, (fullF s f.toNat f t).2.2, 0) else (noT, 0, (fullF s f.toNat f t).2.1)) else (noT, 0, 1) := rfl
  have go : ∀ z : Tm × Int × Int, AC Try.prog 54 [aT t, ci f, .c (.fn (.func 55) [(false, [.ep 0 2 0 0])] [])] (oS s) (aHd z) (oS s) → ∀ r : TV, br (z.2.2 != 0) (TV.Le (.tup [(true, [.a (.fz (.int .i64 0)), .a (.fz (.str [])), .a (.fz (.int .i64 0)), .a (.fz .nils)]), (false, [.a (.fz (.int .i64 0))]), (false, [.a (.fz (.int .i64 z.2.2))])]) r ∧ oS s = oS s)
      (∃ u : Tm, AC Try.prog 56 [aT z.1] [] (aT u) [] ∧ TV.Le (.tup [(true, cT u), (false, [.a (.fz (.int .i64 z.2.1))]), (false, [.a (.fz (.int .i64 0))])]) r ∧ oS s = oS s) → AC Try.prog 31 [aS 0, aT t, ci f] (oS s) r (oS s) := fun z hz r hb => by
    obtain ⟨k, str, n, l⟩ := t
    refine AC.vc hP sh lv31 (Nat.le_refl _) (by simp [isLive]) (by simp) (Eq.mpr (v31 k str n (FTs l) ..) ?_)
    exact ⟨z, hz, hb⟩
  refine go _ h _ ?_
  rw [e1, e2]
  by_cases hv : validB t = true
  · rw [if_pos hv, if_pos hv]
    by_cases he : (fullF s f.toNat f t).2.1 = 0
    · rw [if_pos he, if_pos he]
      exact br_of (fun h => by cases h) (fun _ => ⟨_, hsh hv he, .refl _, rfl⟩)
    · rw [if_neg he, if_neg he]
      exact br_of (fun _ => ⟨leHd (l := []) leNil, rfl⟩) (fun h => absurd (by simpa using h) he)
  · rw [if_neg hv, if_neg hv]
    exact br_of (fun _ => ⟨leHd (l := []) leNil, rfl⟩) (fun h => by cases h)
/-! ### Stores of acts -/
abbrev aV7 (l : List I3T) : TV := .c (.a (.fz (.sl false 7 (l.map FI3T))))
def badT (t : Tm) : Bool := large t 30 || !near 1099511627776 t
theorem FI3T_get {l : List I3T} {i : Nat} (h : i < l.length) : List.getD (l.map FI3T) i [] = FI3T l[i] := by simp [List.getD, h]
def overV (l : List I3T) : Bool := decide ((l.length : Int) > 40) || l.any fun a => badT a.2.1
theorem over_no {l : List I3T} (h : overV l = false) : l.length ≤ 40 ∧ ∀ v ∈ l, v.2.1.sz ≤ 30 ∧ bd 1099511627776 v.2.1 := by
  rw [overV, Bool.or_eq_false_iff] at h
  refine ⟨by have := of_decide_eq_false h.1; omega, fun v hv => ?_⟩
  have := List.any_eq_false.1 h.2 v hv
  simp only [badT, Bool.or_eq_true, Bool.not_eq_true', not_or, Bool.not_eq_true, Bool.not_eq_false] at this
  exact ⟨by have := large_sz this.1; omega, near_bd _ this.2⟩
/-- One act. -/
def actS (s : Sto) (a : I3T) : Sto := if (a.1.1.1.tmod 2 == 0) = true then freshS s a.1.1.2.1 else bindS s a.1.1.2.1 a.2.1
def laidV (s : Sto) (l : List I3T) : Sto := l.foldl actS s
/-- What stays so for a store of acts. -/
structure OKA (s : Sto) (n : Nat) : Prop where
  ok : OKS s
  V : s.V.length ≤ n
  T : s.T.length ≤ n
  tr : OKT s
  wf : ∀ i ∈ s.V, i.bd = false → i.v = noT
  nn : ∀ i ∈ s.V, i.bd = true → i.v.bk ≤ B
theorem bindV_length (s : Sto) (x : Int) (t : Tm) : (bindS s x t).V.length = s.V.length := by unfold bindS; split <;> simp
theorem OKS.bindA {s : Sto} {x : Int} {t : Tm} (h : OKS s) (hz : t.sz ≤ 4000) (hb : bd 2199023255552 t) : OKS (bindS s x t) := by
  by_cases q : bindB s x t = true
  · rw [(bind_yes q).1]
    intro i hi hbd
    rcases List.mem_or_eq_of_mem_set hi with hi | rfl
    · exact h i hi hbd
    · refine ⟨?_, hz, hb⟩
      simp only [bindB, Bool.and_eq_true] at q
      exact q.2.2.1
  · rw [(bind_no (by simpa using q)).1]; exact h
theorem bindB_in {s : Sto} {x : Int} {t : Tm} (q : bindB s x t = true) : 0 ≤ x ∧ x < (s.V.length : Int) := by
  simp only [bindB, Bool.and_eq_true, inB, decide_eq_true_eq] at q
  exact q.1
theorem OKA.bind {s : Sto} {n : Nat} {x : Int} {t : Tm} (h : OKA s n) (hz : t.sz ≤ 4000) (hb : bd 2199023255552 t) (hk : t.bk ≤ B) : OKA (bindS s x t) (n + 1) := by
  have h1 := h.V
  have h2 := h.T
  by_cases q : bindB s x t = true
  · have hx := bindB_in q
    refine ⟨h.ok.bindA hz hb, by rw [bindV_length]; omega, by rw [(bind_yes q).1]; simp; omega, fun y hy => ?_, fun i hi hbd => ?_, fun i hi hbd => ?_⟩
    · rw [bindV_length]
      rw [(bind_yes q).1] at hy
      rcases List.mem_append.1 hy with hy | hy
      · exact h.tr y hy
      · simp at hy; subst hy; exact hx
    · rw [(bind_yes q).1] at hi
      rcases List.mem_or_eq_of_mem_set hi with hi | rfl
      · exact h.wf i hi hbd
      · cases hbd
    · rw [(bind_yes q).1] at hi
      rcases List.mem_or_eq_of_mem_set hi with hi | rfl
      · exact h.nn i hi hbd
      · exact hk
  · rw [(bind_no (by simpa using q)).1]
    exact ⟨h.ok, by omega, by omega, h.tr, h.wf, h.nn⟩
theorem OKA.fresh {s : Sto} {n : Nat} (h : OKA s n) (lv : Int) : OKA (freshS s lv) (n + 1) := by
  have h1 := h.V
  have h2 := h.T
  have hl : (freshS s lv).V.length = s.V.length + 1 := by simp [freshS]
  refine ⟨fun i hi hb => ?_, by omega, by simp only [freshS]; omega, fun y hy => ?_, fun i hi hbd => ?_, fun i hi hbd => ?_⟩
  · rcases List.mem_append.1 hi with hi | hi
    · exact h.ok i hi hb
    · simp at hi; subst hi; cases hb
  · rw [hl]; have := h.tr y hy; omega
  · rcases List.mem_append.1 hi with hi | hi
    · exact h.wf i hi hbd
    · simp at hi; subst hi; rfl
  · rcases List.mem_append.1 hi with hi | hi
    · exact h.nn i hi hbd
    · simp at hi; subst hi; cases hbd
theorem OKA.act {s : Sto} {n : Nat} (h : OKA s n) {a : I3T} (hz : a.2.1.sz ≤ 30) (hb : bd 1099511627776 a.2.1) (hk : a.2.1.bk ≤ B) : OKA (actS s a) (n + 1) := by
  unfold actS
  split
  · exact h.fresh _
  · exact h.bind (by omega) (bd_le (by omega) _ hb) hk
theorem OKA.nil : OKA ⟨[], []⟩ 0 := ⟨(fun i hi => nomatch hi), Nat.le_refl _, Nat.le_refl _, (fun i hi => nomatch hi), (fun i hi => nomatch hi), (fun i hi => nomatch hi)⟩
theorem OKA.more {s : Sto} {n m : Nat} (h : OKA s n) (hm : n ≤ m) : OKA s m := ⟨h.ok, Nat.le_trans h.V hm, Nat.le_trans h.T hm, h.tr, h.wf, h.nn⟩
theorem OKA.acts : ∀ {l : List I3T} {s : Sto} {n : Nat}, OKA s n → (∀ v ∈ l, v.2.1.sz ≤ 30 ∧ bd 1099511627776 v.2.1) → (∀ v ∈ l, v.2.1.bk ≤ B) → OKA (laidV s l) (n + l.length)
  | [], s, n, h, _, _ => h
  | a :: l, s, n, h, h1, h2 => by
    have := OKA.acts (l := l) (h.act (h1 a List.mem_cons_self).1 (h1 a List.mem_cons_self).2 (h2 a List.mem_cons_self)) (fun v hv => h1 v (List.mem_cons_of_mem _ hv)) (fun v hv => h2 v (List.mem_cons_of_mem _ hv))
    exact this.more (by simp only [List.length_cons]; omega)

end Go.AM

set_option maxRecDepth 100000
open Go Go.Proofs
namespace Go.AM

/-! ### Stores of acts: the law's -/
abbrev rI3 (l : List I3T) (i : Nat) (e : I3T) : Prop := (FV.isSl 7 (.sl false 7 (l.map FI3T)) = true) ∧ ((0 : Int) ≤ (i : Int)) ∧ ((i : Int) < (l.length : Int)) ∧ (FI3T e = FI3T e)
abbrev sNil : Sto := ⟨[], []⟩
/-! ### What is undone is as it was -/
def Ext (s0 s : Sto) : Prop := ∃ xs, s.T = s0.T ++ xs ∧ s0.V.length ≤ s.V.length ∧ ∀ j, j < s0.V.length → (xs.foldl clrV s.V)[j]? = s0.V[j]?
theorem Ext.refl (s : Sto) : Ext s s := ⟨[], by simp, Nat.le_refl _, fun _ _ => rfl⟩
theorem Ext.fresh {s0 s : Sto} (h : Ext s0 s) (lv : Int) : Ext s0 (freshS s lv) := by
  obtain ⟨xs, h1, h2, h3⟩ := h
  refine ⟨xs, h1, by simp only [freshS, List.length_append]; omega, fun j hj => ?_⟩
  rw [← h3 j hj, clrs_get, clrs_get]
  show (s.V ++ _)[j]?.map _ = _
  rw [List.getElem?_append_left (by omega)]
theorem Ext.bind {s0 s : Sto} (h : Ext s0 s) (wf : ∀ i ∈ s.V, i.bd = false → i.v = noT) (x : Int) (t : Tm) : Ext s0 (bindS s x t) := by
  by_cases q : bindB s x t = true
  · obtain ⟨xs, h1, h2, h3⟩ := h
    have hx := bindB_in q
    obtain ⟨hl, ei⟩ := infOf_in hx.1 hx.2
    have hub : (infOf s.V x).bd = false := by
      simp only [bindB, Bool.and_eq_true, Bool.not_eq_true'] at q; exact q.2.1
    rw [ei] at hub
    have hw := wf _ (List.getElem_mem hl) hub
    rw [(bind_yes q).1, ei]
    refine ⟨xs ++ [x], by rw [h1, List.append_assoc], by rw [List.length_set]; exact h2, fun j hj => ?_⟩
    rw [← h3 j hj, clrs_get, clrs_get, List.getElem?_set]
    by_cases e : x.toNat = j
    · subst e
      rw [if_pos rfl, if_pos hl, List.getElem?_eq_getElem hl]
      simp only [Option.map_some, List.any_append, List.any_cons, beq_self_eq_true, Bool.true_or, Bool.or_true, if_true]
      congr 1
      generalize s.V[x.toNat] = v at *
      obtain ⟨lv, bd, v⟩ := v
      simp only at hub hw
      subst hub; subst hw
      unfold clrI; split <;> rfl
    · rw [if_neg e]
      congr 1
      funext v
      simp [List.any_append, e]
  · rw [(bind_no (by simpa using q)).1]; exact h
theorem Ext.act {s0 s : Sto} (h : Ext s0 s) (wf : ∀ i ∈ s.V, i.bd = false → i.v = noT) (a : I3T) : Ext s0 (actS s a) := by
  unfold actS; split
  · exact h.fresh _
  · exact h.bind wf _ _
theorem Ext.undo {s0 s : Sto} (h : Ext s0 s) : undoS s s0.T.length s0.V.length = s0 := by
  obtain ⟨xs, h1, h2, h3⟩ := h
  obtain ⟨V0, T0⟩ := s0
  have e1 : s.T.drop T0.length = xs := by rw [h1, List.drop_left]
  have e2 : s.T.take T0.length = T0 := by rw [h1, List.take_left]
  show (⟨((s.T.drop T0.length).foldl clrV s.V).take V0.length, s.T.take T0.length⟩ : Sto) = _
  rw [e1, e2]
  congr 1
  apply List.ext_getElem?
  intro j
  rw [List.getElem?_take]
  split
  · rename_i hj; exact h3 j hj
  · rename_i hj; rw [List.getElem?_eq_none (by omega)]
theorem Ext.cut {s0 s : Sto} (h : Ext s0 s) (h0 : OKT s0) : s0.T.length ≤ s.T.length ∧ s0.V.length ≤ s.V.length ∧ ∀ x ∈ s.T.take s0.T.length, x < (s0.V.length : Int) := by
  obtain ⟨xs, h1, h2, h3⟩ := h
  refine ⟨by rw [h1, List.length_append]; omega, h2, fun x hx => ?_⟩
  rw [h1, List.take_left] at hx
  exact (h0 x hx).2
/-! ### The law: what is undone is as it was -/
abbrev hpU (u : Sto) (m n : Nat) : AHeap := [(0, sto2 1 2 u), (1, .arz 6 (SR u.V)), (2, .arz 1 (IR u.T)), (3, .arr 2 [[.a (.fz (.int .i64 (m : Int))), .a (.fz (.int .i64 (n : Int)))]])]
theorem info_at (s : Sto) {i : Nat} (h : i < s.V.length) : infOf s.V (i : Int) = s.V[i] ∧ inB s.V (i : Int) = true := by
  obtain ⟨hl, e⟩ := infOf_in (V := s.V) (x := (i : Int)) (by omega) (by omega)
  exact ⟨e, inB_of (by omega) (by omega)⟩
theorem val_sz {s : Sto} {n : Nat} (h : OKA s n) {i : Nat} (hi : i < s.V.length) : (s.V[i]).v.sz ≤ B := by
  have hm := List.getElem_mem hi
  cases hb : (s.V[i]).bd with
  | true => exact Nat.le_trans (Tm.sz_bk _) (h.nn _ hm hb)
  | false => rw [h.wf _ hm hb]; simp only [Tm.sz, Tm.szs, B]; omega
end Go.AM

set_option maxRecDepth 100000
open Go Go.Proofs
namespace Go.AM

/-! ### The document's example -/
abbrev vx1 (n : Int) : Tm := .mk 4 [] n []
abbrev w15S : Sto := freshS (freshS sNil 0) 0
abbrev w15B : Sto := bindS w15S 0 (.mk 6 [] 0 [exF, vx1 1])
abbrev exG : Tm := .mk 0 [103] 0 []
theorem okS2 : OKA w15S 2 := (OKA.nil.fresh 0).fresh 0
theorem okB2 : OKA w15B 3 := okS2.bind (by decide) (near_bd _ (by decide)) (by simp only [B]; decide)
theorem full_is {s : Sto} {f : Int} {t u : Tm} {n : Int} (h : sameB (FullV s f t).1 u = true) (h2 : (FullV s f t).2 = (n, 0)) : FullV s f t = (u, n, 0) := by
  exact Prod.ext ((sameB_iff _ _).1 h) h2
/-! ### The law: what is undone is as it was -/
theorem SR_take_succ {V : List Inf} {i : Nat} (h : i < V.length) : List.take i (SR (V.take i)) ++ [Inf.c V[i]] = SR (V.take (i + 1)) := by
  rw [List.take_of_length_le (by rw [SR_length, List.length_take]; omega), List.take_succ_eq_append_getElem h, SR_append]; rfl
end Go.AM

set_option maxRecDepth 100000
open Go Go.Proofs
namespace Go.Proofs.Ytdpjhpfjmjhhkaa.base
open Go.ChangeShapes Go.WideShapes Go.ChangeAt Go.RowKit Go.AM

theorem one_le {H : Type} (d : DataW H) : 1 ≤ Rows.uptoBulk d := by
  cases d with
  | lit l => cases l <;> simp [Rows.uptoBulk]
  | _ => simp [Rows.uptoBulk]
theorem bulk {H : Type} : Bulk (H := H) Rows.uptoBulk Rows.uptoBulkAll :=
  ⟨rfl, fun _ _ => rfl, one_le, fun es sp => by simp only [Rows.uptoBulk]; omega, fun l => by simp [Rows.uptoBulk], fun l => by simp [Rows.uptoBulk]⟩
theorem own : ownKnob Try.prog.godebug = none := by kernel_rfl
theorem laidOut : laidOutB Try.prog = true := by kernel_rfl
theorem tmTy : ∃ f0 f1 f2 f3 : Field, TmTy Try.prog 25 f0 f1 f2 f3 :=
  ⟨_, _, _, _, Try.underlying25, Try.underlying22, Try.underlying9, Try.underlying3, Try.underlying23, rfl, rfl, rfl, rfl, by kernel_rfl, by kernel_rfl, by kernel_rfl, by kernel_rfl, by kernel_rfl⟩
theorem rec3 : Try.prog.readableRec 3 = true := by kernel_rfl
theorem lt3 : 3 < Try.prog.types.size := of_decide_eq_true (by kernel_rfl)
theorem rec9 : Try.prog.readableRec 9 = true := by kernel_rfl
theorem lt9 : 9 < Try.prog.types.size := of_decide_eq_true (by kernel_rfl)
theorem rec23 : Try.prog.readableRec 23 = true := by kernel_rfl
theorem lt23 : 23 < Try.prog.types.size := of_decide_eq_true (by kernel_rfl)
theorem rec25 : Try.prog.readableRec 25 = true := by kernel_rfl
theorem lt25 : 25 < Try.prog.types.size := of_decide_eq_true (by kernel_rfl)
theorem rec28 : Try.prog.readableRec 28 = true := by kernel_rfl
theorem lt28 : 28 < Try.prog.types.size := of_decide_eq_true (by kernel_rfl)
theorem rec30 : Try.prog.readableRec 30 = true := by kernel_rfl
theorem lt30 : 30 < Try.prog.types.size := of_decide_eq_true (by kernel_rfl)
theorem rec34 : Try.prog.readableRec 34 = true := by kernel_rfl
theorem lt34 : 34 < Try.prog.types.size := of_decide_eq_true (by kernel_rfl)
theorem rec44 : Try.prog.readableRec 44 = true := by kernel_rfl
theorem lt44 : 44 < Try.prog.types.size := of_decide_eq_true (by kernel_rfl)
theorem rec53 : Try.prog.readableRec 53 = true := by kernel_rfl
theorem lt53 : 53 < Try.prog.types.size := of_decide_eq_true (by kernel_rfl)
theorem rec54 : Try.prog.readableRec 54 = true := by kernel_rfl
theorem lt54 : 54 < Try.prog.types.size := of_decide_eq_true (by kernel_rfl)
theorem noGl (g : Nat) (h : Try.prog.globalNamed "internal/strconv.uint64pow10" = some g) : False := by
  rw [show Try.prog.globalNamed "internal/strconv.uint64pow10" = none by kernel_rfl] at h; cases h
theorem num_range {n : Int} (h : (Lit.int .i64 n).wf = true) : -9223372036854775808 ≤ n ∧ n ≤ 9223372036854775807 := by
  simp only [Lit.wf, IntKind.min, IntKind.max, IntKind.signed, IntKind.bits, Bool.and_eq_true, decide_eq_true_eq, if_true] at h; omega
theorem upto {H : Type} {l : List (DataW H)} (hk : Rows.uptoSmall H l = true) : Rows.uptoBulkAll l ≤ 1048576 := of_decide_eq_true hk
end Go.Proofs.Ytdpjhpfjmjhhkaa.base

set_option maxRecDepth 100000
open Go Go.Proofs
namespace Go.AM

/-! ### Variables that are laid -/
abbrev aV6 (l : List IBT) : TV := .c (.a (.fz (.sl false 6 (l.map FIBT))))
theorem FIBT_get {l : List IBT} {i : Nat} (h : i < l.length) : List.getD (l.map FIBT) i [] = FIBT l[i] := by simp [List.getD, h]
def badV (t : Tm) : Bool := large t 12 || !near 1000 t
def badW (t : Tm) : Bool := large t 24 || !near 1000 t
def overI (l : List IBT) : Bool := decide ((l.length : Int) > 8) || l.any fun a => badV a.2.2.1
def rowW (m : Int) (l : List Tm) : Bool := decide ((l.length : Int) > m) || l.any badW
abbrev rIB (l : List IBT) (i : Nat) (e : IBT) : Prop := (FV.isSl 6 (.sl false 6 (l.map FIBT)) = true) ∧ ((0 : Int) ≤ (i : Int)) ∧ ((i : Int) < (l.length : Int)) ∧ (FIBT e = FIBT e)
theorem overI_no {l : List IBT} (h : overI l = false) : l.length ≤ 8 ∧ ∀ v ∈ l, v.2.2.1.sz ≤ 12 ∧ bd 1000 v.2.2.1 := by
  rw [overI, Bool.or_eq_false_iff] at h
  refine ⟨by have := of_decide_eq_false h.1; omega, fun v hv => ?_⟩
  have := List.any_eq_false.1 h.2 v hv
  simp only [badV, Bool.or_eq_true, Bool.not_eq_true', not_or, Bool.not_eq_true, Bool.not_eq_false] at this
  exact ⟨by have := large_sz this.1; omega, near_bd _ this.2⟩
theorem badW_no {t : Tm} (h : badW t = false) : t.sz ≤ 24 ∧ bd 1000 t := by
  simp only [badW, Bool.or_eq_false_iff, Bool.not_eq_false'] at h
  exact ⟨by have := large_sz h.1; omega, near_bd _ h.2⟩
theorem rowW_no {m : Int} {l : List Tm} (h : rowW m l = false) : (l.length : Int) ≤ m ∧ ∀ t ∈ l, t.sz ≤ 24 ∧ bd 1000 t := by
  rw [rowW, Bool.or_eq_false_iff] at h
  refine ⟨by have := of_decide_eq_false h.1; omega, fun t ht => badW_no (by simpa using List.any_eq_false.1 h.2 t ht)⟩
def frS (l : List IBT) (u : Sto) : Sto := l.foldl (fun u v => freshS u v.1.1) u
def bnS : List IBT → Int → Sto → Sto
  | [], _, u => u
  | v :: l, i, u => bnS l (i + 1) (if v.2.1 = true then bindS u i v.2.2.1 else u)
/-- The store of such variables. -/
def layS (l : List IBT) : Sto := bnS l 0 (frS l ⟨[], []⟩)
theorem l_row16 (l : List Tm) (hl : l.length ≤ 6) (hb : ∀ t ∈ l, t.bk ≤ B) : ∀ (b a : List Tm), a ++ b = l → RPt Try.prog 25 0 (cb (b.any badW)) [] 1 ⟨[(0, aL l), (3, ci (a.length : Int))], [], 0⟩
  | [], a, hi => by
    refine RPt.vc hP sh lv25 (Eq.mpr (v25_1a ..) ?_)
    refine ⟨rfl, br_of (fun h => ?_) (fun _ => ?_)⟩
    · have h := of_decide_eq_true h
      rw [FTs_length] at h; rw [List.append_nil] at hi; subst hi; omega
    · exact ret_b rfl
  | t :: b, a, hi => by
    have next := l_row16 l hl hb b (a ++ [t]) (by rw [← hi]; simp)
    have hmem := hb t (by rw [← hi]; simp)
    have zb := Tm.sz_bk t
    have hal : a.length < 8 := by have := congrArg List.length hi; simp at this; omega
    have c1 := c_large t (by omega) 24 (by omega) (by omega)
    have c2 := c_near 1000 (by omega) (by omega) t (by omega)
    have eb : badW t = (large t 24 || !near 1000 t) := rfl
    rw [List.any_cons]
    refine RPt.vc hP sh lv25 (Eq.mpr (v25_1a ..) ?_)
    rw [show FTs l = FTs (a ++ t :: b) by rw [hi], aE_mid, w64 (x := (a.length : Int) + 1) (by omega) (by omega)]
    have op : (FV.isSl 4 (.sl false 4 (FTs (a ++ t :: b))) = true) ∧ ((0 : Int) ≤ (a.length : Int)) ∧ ((a.length : Int) < (((FTs (a ++ t :: b)).length : Nat) : Int)) ∧ ((rE (List.getD (FTs (a ++ t :: b)) (Int.toNat (a.length : Int)) []) : List FV) = List.getD (FTs (a ++ t :: b)) (Int.toNat (a.length : Int)) []) := ⟨rfl, by omega, ltI' a t b, rE_mid a t b⟩
    refine ⟨rfl, br_of (fun _ => ⟨op, _, c1, op, _, c2, br_of (fun e1 => ?_) (fun e1 => br_of (fun e2 => ?_) (fun e2 => ?_))⟩) (fun h => absurd (ltI' a t b) (of_decide_eq_false h))⟩
    · rw [eb, e1]; exact ret_b rfl
    · rw [eb, e1, e2]; exact ret_b rfl
    · rw [eb, e1, e2, Bool.false_or, Bool.false_or]
      rw [hi]
      simpa using next
theorem c_row16 (l : List Tm) (hb : ∀ t ∈ l, t.bk ≤ B) : AC Try.prog 25 [aL l] [] (cb (rowW 6 l)) [] := by
  refine AC.vc hP sh lv25 (Nat.le_refl _) (by simp) (by simp) (Eq.mpr (v25 ..) ?_)
  rw [FTs_length]
  refine ⟨rfl, br_of (fun h => ?_) (fun h => ?_)⟩
  · rw [rowW, h]; exact ret_b rfl
  · rw [rowW, h, Bool.false_or]
    have h := of_decide_eq_false h
    exact l_row16 l (by omega) hb l [] rfl
end Go.AM

set_option maxRecDepth 100000
open Go Go.Proofs
namespace Go.AM

/-! ### Two stores of the same variables -/
theorem OKA.fr : ∀ {l : List IBT} {s : Sto} {n : Nat}, OKA s n → OKA (frS l s) (n + l.length)
  | [], s, n, h => h
  | v :: l, s, n, h => (OKA.fr (l := l) (h.fresh v.1.1)).more (by simp only [List.length_cons]; omega)
theorem OKA.bn : ∀ {l : List IBT} {i : Int} {s : Sto} {n : Nat}, OKA s n → (∀ v ∈ l, v.2.2.1.sz ≤ 12 ∧ bd 1000 v.2.2.1) → (∀ v ∈ l, v.2.2.1.bk ≤ B) → OKA (bnS l i s) (n + l.length)
  | [], _, s, n, h, _, _ => h
  | v :: l, i, s, n, h, h1, h2 => by
    have hv := h1 v List.mem_cons_self
    have hb := h2 v List.mem_cons_self
    have step : OKA (if v.2.1 = true then bindS s i v.2.2.1 else s) (n + 1) := by
      split
      · exact h.bind (by omega) (bd_le (by omega) _ hv.2) hb
      · exact h.more (by omega)
    exact (OKA.bn (l := l) (i := i + 1) step (fun v hv => h1 v (List.mem_cons_of_mem _ hv)) (fun v hv => h2 v (List.mem_cons_of_mem _ hv))).more (by simp only [List.length_cons]; omega)
theorem OKA.lay {l : List IBT} (h1 : ∀ v ∈ l, v.2.2.1.sz ≤ 12 ∧ bd 1000 v.2.2.1) (h2 : ∀ v ∈ l, v.2.2.1.bk ≤ B) : OKA (layS l) (l.length + l.length) := by
  have := OKA.bn (l := l) (i := 0) (OKA.fr (l := l) OKA.nil) h1 h2
  rwa [Nat.zero_add] at this
/-- Levels are not below nought. -/
def LV0 (s : Sto) : Prop := ∀ i ∈ s.V, 0 ≤ i.lv
theorem foldMax_nn (a : Int) : 0 ≤ foldMax [a, 0] := by simp only [foldMax, List.foldl]; omega
theorem foldMax_of {a : Int} (h : 0 ≤ a) : foldMax [a, 0] = a := by simp only [foldMax, List.foldl]; omega
theorem LV0.fresh {s : Sto} (h : LV0 s) (lv : Int) : LV0 (freshS s lv) := fun i hi => by
  rcases List.mem_append.1 hi with hi | hi
  · exact h i hi
  · simp at hi; subst hi; exact foldMax_nn lv
theorem LV0.bind {s : Sto} (h : LV0 s) (x : Int) (t : Tm) : LV0 (bindS s x t) := fun i hi => by
  by_cases q : bindB s x t = true
  · rw [(bind_yes q).1] at hi
    rcases List.mem_or_eq_of_mem_set hi with hi | rfl
    · exact h i hi
    · obtain ⟨hl, e⟩ := infOf_in (bindB_in q).1 (bindB_in q).2
      show 0 ≤ (infOf s.V x).lv
      rw [e]; exact h _ (List.getElem_mem hl)
  · rw [(bind_no (by simpa using q)).1] at hi; exact h i hi
theorem LV0.fr : ∀ {l : List IBT} {s : Sto}, LV0 s → LV0 (frS l s)
  | [], _, h => h
  | v :: l, _, h => LV0.fr (l := l) (h.fresh v.1.1)
theorem LV0.bn : ∀ {l : List IBT} {i : Int} {s : Sto}, LV0 s → LV0 (bnS l i s)
  | [], _, _, h => h
  | v :: l, i, s, h => LV0.bn (l := l) (i := i + 1) (s := if v.2.1 = true then bindS s i v.2.2.1 else s) (if q : v.2.1 = true then by rw [if_pos q]; exact h.bind _ _ else by rw [if_neg q]; exact h)
theorem LV0.lay (l : List IBT) : LV0 (layS l) := LV0.bn (LV0.fr (fun i hi => nomatch hi))
theorem LV0.of {s : Sto} (h : LV0 s) (x : Int) : 0 ≤ (infOf s.V x).lv := by
  by_cases q : 0 ≤ x ∧ x < (s.V.length : Int)
  · obtain ⟨hl, e⟩ := infOf_in q.1 q.2
    rw [e]; exact h _ (List.getElem_mem hl)
  · rw [infOf_out q]; exact Int.le_refl _
abbrev oS2 (a b : Sto) : List AObj := [sto2 1 2 a, .arz 6 (SR a.V), .arz 1 (IR a.T), sto2 4 5 b, .arz 6 (SR b.V), .arz 1 (IR b.T)]
abbrev hpS2 (a b : Sto) : AHeap := [(0, sto2 1 2 a), (1, .arz 6 (SR a.V)), (2, .arz 1 (IR a.T)), (3, sto2 4 5 b), (4, .arz 6 (SR b.V)), (5, .arz 1 (IR b.T))]
abbrev tS2 : TV := .tup [(false, [.a (.ep 0 2 0 0)]), (false, [.a (.ep 3 2 0 0)])]
end Go.AM

set_option maxRecDepth 100000
open Go Go.Proofs
namespace Go.AM

/-! The document's. -/
theorem tenth (k n : Int) (s : List UInt8) (l : List Tm) : List.getD (List.getD (FTs [.mk k s n l]) 0 []) 3 FV.nils = .sl false 4 (FTs l) := rfl
/-! ### Expanded; a leaf -/
def expF (t : Tm) : Tm := lamsF 1 (applyF (shT 0 1 t 0) [exZ])
def leafB (t : Tm) : Bool := (shortF t).k == 3 || (shortF t).k == 1
def leafF (t : Tm) : Tm := if leafB t = true then shortF t else noT
abbrev aLeaf (t : Tm) (b : Bool) : TV := .tup [(true, cT t), (false, [.a (.fz (.bool b))])]
theorem c_eLeaf (t : Tm) (hs : t.sz ≤ SZ) (hb : bd M61 t) : AC Try.prog 66 [aT t] [] (if validB t = true then aLeaf (leafF t) (leafB t) else aLeaf noT false) [] := by
  have h0 := c_valid t (by simp only [SZ, B] at *; omega)
  have h := fun h => c_eshort t (valid_ok t h) (valid_lv h) hs hb
  have e1 : ∀ b, leafB t = b → leafF t = if b = true then shortF t else noT := fun b h => by rw [leafF, h]
  have e2 : leafB t = ((shortF t).k == 3 || (shortF t).k == 1) := rfl
  obtain ⟨k, s, n, l⟩ := t
  refine AC.vc hP sh lv66 (Nat.le_refl _) (by simp) (by simp) (Eq.mpr (v66 k s n (FTs l) _ _) ?_)
  refine ⟨_, h0, br_of (fun hv => ?_) (fun hv => ⟨_, h (not_f hv), br_of (fun h3 => ?_) (fun h3 => br_of (fun h1 => ?_) (fun h1 => ?_))⟩)⟩
  · rw [if_neg (by rw [not_t hv]; simp)]; exact ⟨leTB (l := []) leNil, rfl⟩
  · have h3 : ((shortF (.mk k s n l)).k == 3) = true := h3
    have e : leafB (.mk k s n l) = true := by rw [e2, h3]; rfl
    rw [if_pos (not_f hv), e1 true e, e, if_pos rfl]; exact ⟨.refl _, rfl⟩
  · have h1 : ((shortF (.mk k s n l)).k == 1) = true := h1
    have e : leafB (.mk k s n l) = true := by rw [e2, h1, Bool.or_true]
    rw [if_pos (not_f hv), e1 true e, e, if_pos rfl]; exact ⟨.refl _, rfl⟩
  · have h3 : ((shortF (.mk k s n l)).k == 3) = false := h3
    have h1 : ((shortF (.mk k s n l)).k == 1) = false := h1
    have e : leafB (.mk k s n l) = false := by rw [e2, h1, h3]; rfl
    rw [if_pos (not_f hv), e1 false e, e]; exact ⟨leTB (l := []) leNil, rfl⟩

end Go.AM

set_option maxRecDepth 100000
open Go Go.Proofs
namespace Go.AM

/-! ### The first one -/
def ixF (p : Tm → Bool) : List Tm → Nat → Int
  | [], _ => -1
  | t :: l, i => if p t = true then (i : Int) else ixF p l (i + 1)
theorem ixF_any (p : Tm → Bool) : ∀ (l : List Tm) (i : Nat), decide (ixF p l i ≥ 0) = l.any p
  | [], _ => rfl
  | t :: l, i => by
    rw [ixF, List.any_cons]
    split
    · rename_i h; rw [h]; simp
    · rename_i h; rw [ixF_any p l, show p t = false by simpa using h, Bool.false_or]
theorem ixF_lt (p : Tm → Bool) : ∀ (l : List Tm) (i : Nat), -1 ≤ ixF p l i ∧ ixF p l i < (i : Int) + (l.length : Int) + 1
  | [], i => by simp only [ixF]; omega
  | t :: l, i => by
    have := ixF_lt p l (i + 1)
    rw [ixF]
    split
    · simp only [List.length_cons]; omega
    · simp only [List.length_cons]; omega
theorem l_ixiodd (p : Tm → Bool) (b : List Tm) : ∀ a : List Tm, (a ++ b).length ≤ B → (∀ u ∈ b, AC Try.prog 61 [aT u] [] (cb (p u)) []) → RPt Try.prog 75 0 (ci (ixF p b a.length)) [] 1 ⟨[(0, aL (a ++ b)), (1, .c (.fn (.func 61) [] [])), (7, ci ((a ++ b).length : Int)), (8, ci (a.length : Int))], [], 0⟩ := by
  induction b with
  | nil =>
    intro a hs _
    refine RPt.vc hP sh lv75 (Eq.mpr (v75_F61_1a ..) ?_)
    exact br_of (fun h => absurd (of_decide_eq_true h) (by simp)) (fun _ => ret_i rfl)
  | cons t b ihb =>
    intro a hs ih
    have h3 := ltI' a t b
    have h1 := ih t List.mem_cons_self
    have h2 := ihb (a ++ [t]) (by simpa using hs) (fun u hu => ih u (List.mem_cons_of_mem _ hu))
    rw [ap, nx, show (a ++ [t]).length = a.length + 1 by simp] at h2
    rw [ixF]
    simp only [List.length_append, List.length_cons, B] at hs
    have h4 : (a.length : Int) < ((a ++ t :: b).length : Int) := by simp only [List.length_append, List.length_cons]; omega
    refine RPt.vc hP sh lv75 (Eq.mpr (v75_F61_1a ..) ?_)
    rw [w64 (by omega) (by omega)]
    refine br_of (fun _ => ⟨⟨rfl, by omega, h3, rE_mid ..⟩, p t, by rw [aE_mid]; exact h1, br_of (fun h => ?_) (fun h => ?_)⟩) (fun h => absurd h4 (of_decide_eq_false h))
    · rw [if_pos h]; exact ret_i rfl
    · rw [if_neg (by rw [h]; simp)]; exact h2
theorem c_ixiodd (p : Tm → Bool) (l : List Tm) (hl : l.length ≤ B) (h : ∀ u ∈ l, AC Try.prog 61 [aT u] [] (cb (p u)) []) : AC Try.prog 75 [aL l, .c (.fn (.func 61) [] [])] [] (ci (ixF p l 0)) [] := by
  have := l_ixiodd p l [] hl h
  refine AC.vc hP sh lv75 (Nat.le_refl _) (by simp) (by simp) (Eq.mpr (v75_F61 ..) ?_)
  rw [FTs_length]
  exact ⟨rfl, this⟩
theorem c_anyiodd (p : Tm → Bool) (l : List Tm) (hl : l.length ≤ B) (h : ∀ u ∈ l, AC Try.prog 61 [aT u] [] (cb (p u)) []) : AC Try.prog 47 [aL l, .c (.fn (.func 61) [] [])] [] (cb (l.any p)) [] := by
  refine AC.vc hP sh lv47 (Nat.le_refl _) (by simp) (by simp) (Eq.mpr (v47_F61 ..) ?_)
  exact ⟨_, c_ixiodd p l hl h, ret_b (ixF_any p l 0)⟩
theorem l_ixinvert1 (p : Tm → Bool) (b : List Tm) : ∀ a : List Tm, (a ++ b).length ≤ B → (∀ u ∈ b, AC Try.prog 62 [aT u] [] (cb (p u)) []) → RPt Try.prog 75 0 (ci (ixF p b a.length)) [] 1 ⟨[(0, aL (a ++ b)), (1, .c (.fn (.func 62) [] [])), (7, ci ((a ++ b).length : Int)), (8, ci (a.length : Int))], [], 0⟩ := by
  induction b with
  | nil =>
    intro a hs _
    refine RPt.vc hP sh lv75 (Eq.mpr (v75_F62_1a ..) ?_)
    exact br_of (fun h => absurd (of_decide_eq_true h) (by simp)) (fun _ => ret_i rfl)
  | cons t b ihb =>
    intro a hs ih
    have h3 := ltI' a t b
    have h1 := ih t List.mem_cons_self
    have h2 := ihb (a ++ [t]) (by simpa using hs) (fun u hu => ih u (List.mem_cons_of_mem _ hu))
    rw [ap, nx, show (a ++ [t]).length = a.length + 1 by simp] at h2
    rw [ixF]
    simp only [List.length_append, List.length_cons, B] at hs
    have h4 : (a.length : Int) < ((a ++ t :: b).length : Int) := by simp only [List.length_append, List.length_cons]; omega
    refine RPt.vc hP sh lv75 (Eq.mpr (v75_F62_1a ..) ?_)
    rw [w64 (by omega) (by omega)]
    refine br_of (fun _ => ⟨⟨rfl, by omega, h3, rE_mid ..⟩, p t, by rw [aE_mid]; exact h1, br_of (fun h => ?_) (fun h => ?_)⟩) (fun h => absurd h4 (of_decide_eq_false h))
    · rw [if_pos h]; exact ret_i rfl
    · rw [if_neg (by rw [h]; simp)]; exact h2
theorem c_ixinvert1 (p : Tm → Bool) (l : List Tm) (hl : l.length ≤ B) (h : ∀ u ∈ l, AC Try.prog 62 [aT u] [] (cb (p u)) []) : AC Try.prog 75 [aL l, .c (.fn (.func 62) [] [])] [] (ci (ixF p l 0)) [] := by
  have := l_ixinvert1 p l [] hl h
  refine AC.vc hP sh lv75 (Nat.le_refl _) (by simp) (by simp) (Eq.mpr (v75_F62 ..) ?_)
  rw [FTs_length]
  exact ⟨rfl, this⟩
theorem c_anyinvert1 (p : Tm → Bool) (l : List Tm) (hl : l.length ≤ B) (h : ∀ u ∈ l, AC Try.prog 62 [aT u] [] (cb (p u)) []) : AC Try.prog 47 [aL l, .c (.fn (.func 62) [] [])] [] (cb (l.any p)) [] := by
  refine AC.vc hP sh lv47 (Nat.le_refl _) (by simp) (by simp) (Eq.mpr (v47_F62 ..) ?_)
  exact ⟨_, c_ixinvert1 p l hl h, ret_b (ixF_any p l 0)⟩
abbrev obT (t : Tm) : AObj := .arr 4 [cT t]
theorem l_ixargs1 (p : Tm → Bool) (o : Tm) (b : List Tm) : ∀ a : List Tm, (a ++ b).length ≤ B → (∀ u ∈ b, AC Try.prog 67 [aT u, .c (.a (.ep 0 4 0 0))] [obT o] (cb (p u)) [obT o]) →
    RPt Try.prog 75 1 (ci (ixF p b a.length)) [obT o] 1 ⟨[(0, aL (a ++ b)), (1, .c (.fn (.func 67) [] [(false, [.ep 0 4 0 0])])), (7, ci ((a ++ b).length : Int)), (8, ci (a.length : Int))], [(0, obT o)], 1⟩ := by
  induction b with
  | nil =>
    intro a hs _
    obtain ⟨ok, os, on, ol⟩ := o
    refine RPt.vc hP sh lv75 (Eq.mpr (v75_F67_1a ..) ?_)
    exact br_of (fun h => absurd (of_decide_eq_true h) (by simp)) (fun _ => ⟨.refl _, rfl⟩)
  | cons t b ihb =>
    intro a hs ih
    have h3 := ltI' a t b
    have h1 := ih t List.mem_cons_self
    have h2 := ihb (a ++ [t]) (by simpa using hs) (fun u hu => ih u (List.mem_cons_of_mem _ hu))
    rw [ap, nx, show (a ++ [t]).length = a.length + 1 by simp] at h2
    rw [ixF]
    simp only [List.length_append, List.length_cons, B] at hs
    have h4 : (a.length : Int) < ((a ++ t :: b).length : Int) := by simp only [List.length_append, List.length_cons]; omega
    obtain ⟨ok, os, on, ol⟩ := o
    refine RPt.vc hP sh lv75 (Eq.mpr (v75_F67_1a ..) ?_)
    rw [w64 (by omega) (by omega)]
    refine br_of (fun _ => ⟨⟨rfl, by omega, h3, rE_mid ..⟩, p t, by rw [aE_mid]; exact h1, br_of (fun h => ?_) (fun h => ?_)⟩) (fun h => absurd h4 (of_decide_eq_false h))
    · rw [if_pos h]; exact ⟨.refl _, rfl⟩
    · rw [if_neg (by rw [h]; simp)]; exact h2
theorem c_ixargs1 (p : Tm → Bool) (o : Tm) (l : List Tm) (hl : l.length ≤ B) (h : ∀ u ∈ l, AC Try.prog 67 [aT u, .c (.a (.ep 0 4 0 0))] [obT o] (cb (p u)) [obT o]) : AC Try.prog 75 [aL l, .c (.fn (.func 67) [] [(false, [.ep 0 4 0 0])])] [obT o] (ci (ixF p l 0)) [obT o] := by
  have := l_ixargs1 p o l [] hl h
  obtain ⟨ok, os, on, ol⟩ := o
  refine AC.vc hP sh lv75 (Nat.le_refl _) (by simp [isLive]) (by simp) (Eq.mpr (v75_F67 ..) ?_)
  rw [FTs_length]
  exact ⟨rfl, this⟩
theorem l_iximage1 (p : Tm → Bool) (o : Tm) (b : List Tm) : ∀ a : List Tm, (a ++ b).length ≤ B → (∀ u ∈ b, AC Try.prog 102 [aT u, .c (.a (.ep 0 4 0 0))] [obT o] (cb (p u)) [obT o]) →
    RPt Try.prog 75 1 (ci (ixF p b a.length)) [obT o] 1 ⟨[(0, aL (a ++ b)), (1, .c (.fn (.func 102) [] [(false, [.ep 0 4 0 0])])), (7, ci ((a ++ b).length : Int)), (8, ci (a.length : Int))], [(0, obT o)], 1⟩ := by
  induction b with
  | nil =>
    intro a hs _
    obtain ⟨ok, os, on, ol⟩ := o
    refine RPt.vc hP sh lv75 (Eq.mpr (v75_F102_1a ..) ?_)
    exact br_of (fun h => absurd (of_decide_eq_true h) (by simp)) (fun _ => ⟨.refl _, rfl⟩)
  | cons t b ihb =>
    intro a hs ih
    have h3 := ltI' a t b
    have h1 := ih t List.mem_cons_self
    have h2 := ihb (a ++ [t]) (by simpa using hs) (fun u hu => ih u (List.mem_cons_of_mem _ hu))
    rw [ap, nx, show (a ++ [t]).length = a.length + 1 by simp] at h2
    rw [ixF]
    simp only [List.length_append, List.length_cons, B] at hs
    have h4 : (a.length : Int) < ((a ++ t :: b).length : Int) := by simp only [List.length_append, List.length_cons]; omega
    obtain ⟨ok, os, on, ol⟩ := o
    refine RPt.vc hP sh lv75 (Eq.mpr (v75_F102_1a ..) ?_)
    rw [w64 (by omega) (by omega)]
    refine br_of (fun _ => ⟨⟨rfl, by omega, h3, rE_mid ..⟩, p t, by rw [aE_mid]; exact h1, br_of (fun h => ?_) (fun h => ?_)⟩) (fun h => absurd h4 (of_decide_eq_false h))
    · rw [if_pos h]; exact ⟨.refl _, rfl⟩
    · rw [if_neg (by rw [h]; simp)]; exact h2
theorem c_iximage1 (p : Tm → Bool) (o : Tm) (l : List Tm) (hl : l.length ≤ B) (h : ∀ u ∈ l, AC Try.prog 102 [aT u, .c (.a (.ep 0 4 0 0))] [obT o] (cb (p u)) [obT o]) : AC Try.prog 75 [aL l, .c (.fn (.func 102) [] [(false, [.ep 0 4 0 0])])] [obT o] (ci (ixF p l 0)) [obT o] := by
  have := l_iximage1 p o l [] hl h
  obtain ⟨ok, os, on, ol⟩ := o
  refine AC.vc hP sh lv75 (Nat.le_refl _) (by simp [isLive]) (by simp) (Eq.mpr (v75_F102 ..) ?_)
  rw [FTs_length]
  exact ⟨rfl, this⟩
/-- Two leaves that are the same. -/
def lfB (a b : Tm) : Bool := a.k == b.k && a.n == b.n
theorem c_isame (a b : Tm) : AC Try.prog 68 [aT a, aT b] [] (cb (lfB a b)) [] := by
  obtain ⟨k, s, n, l⟩ := a
  obtain ⟨k', s', n', l'⟩ := b
  refine AC.vc hP sh lv68 (Nat.le_refl _) (by simp) (by simp) (Eq.mpr (v68 k s n (FTs l) k' s' n' (FTs l') _ _) ?_)
  have e : lfB (.mk k s n l) (.mk k' s' n' l') = (k == k' && n == n') := rfl
  refine br_of (fun h => ?_) (fun h => ?_)
  · have h : (k == k') = true := h
    rw [e, h, Bool.true_and]; exact ⟨.refl _, rfl⟩
  · have h : (k == k') = false := h
    rw [e, h, Bool.false_and]; exact ⟨.refl _, rfl⟩
theorem c_args1 (a o : Tm) : AC Try.prog 67 [aT a, .c (.a (.ep 0 4 0 0))] [obT o] (cb (lfB a o)) [obT o] := by
  have h := c_isame a o
  obtain ⟨k, s, n, l⟩ := a
  obtain ⟨k', s', n', l'⟩ := o
  refine AC.vc hP sh lv67 (Nat.le_refl _) (by simp [isLive]) (by simp) (Eq.mpr (v67 k s n (FTs l) k' s' n' (FTs l') _ _) ?_)
  exact ⟨_, h, .refl _, rfl⟩
theorem c_image1 (a o : Tm) : AC Try.prog 102 [aT a, .c (.a (.ep 0 4 0 0))] [obT o] (cb (lfB a o)) [obT o] := by
  have h := c_isame a o
  obtain ⟨k, s, n, l⟩ := a
  obtain ⟨k', s', n', l'⟩ := o
  refine AC.vc hP sh lv102 (Nat.le_refl _) (by simp [isLive]) (by simp) (Eq.mpr (v102 k s n (FTs l) k' s' n' (FTs l') _ _) ?_)
  exact ⟨_, h, .refl _, rfl⟩
/-- Slices of one's own: the first one. -/
theorem l_ixO (o : Tm) (b : List Tm) : ∀ a : List Tm, (a ++ b).length ≤ B →
    RPt Try.prog 75 2 (ci (ixF (fun u => lfB u o) b a.length)) [.arz 4 (FTs (a ++ b)), obT o] 1 ⟨[(0, .c (.a (.osl 0 4 0 (a ++ b).length))), (1, .c (.fn (.func 67) [] [(false, [.ep 1 4 0 0])])), (7, ci ((a ++ b).length : Int)), (8, ci (a.length : Int))], [(0, .arz 4 (FTs (a ++ b))), (1, obT o)], 2⟩ := by
  induction b with
  | nil =>
    intro a hs
    obtain ⟨ok, os, on, ol⟩ := o
    refine RPt.vc hP sh lv75 (Eq.mpr (v75_F67_i1_1a ..) ?_)
    exact br_of (fun h => absurd (of_decide_eq_true h) (by simp)) (fun _ => ⟨.refl _, rfl⟩)
  | cons t b ihb =>
    intro a hs
    have h3 := ltI' a t b
    have h1 := c_args1 t o
    have h2 := ihb (a ++ [t]) (by simpa using hs)
    rw [ap, nx, show (a ++ [t]).length = a.length + 1 by simp] at h2
    rw [ixF]
    simp only [List.length_append, List.length_cons, B] at hs
    have h4 : (a.length : Int) < ((a ++ t :: b).length : Int) := by simp only [List.length_append, List.length_cons]; omega
    have em := rE_mid a t b
    obtain ⟨ok, os, on, ol⟩ := o
    refine RPt.vc hP sh lv75 (Eq.mpr (v75_F67_i1_1a ..) ?_)
    rw [w64 (by omega) (by omega)]
    refine br_of (fun _ => ⟨by simp only [List.length_append, List.length_cons]; omega, ⟨by rw [Nat.zero_add]; omega, by rw [Nat.zero_add, em, midI, List.drop_zero, List.take_of_length_le (by rw [FT_length]; exact Nat.le_refl _)], rfl⟩, lfB t (.mk ok os on ol), by rw [Nat.zero_add, aE_mid]; exact h1, br_of (fun h => ?_) (fun h => ?_)⟩) (fun h => absurd h4 (of_decide_eq_false h))
    · rw [if_pos h]; exact ⟨.refl _, rfl⟩
    · rw [if_neg (by rw [h]; simp)]; exact h2
theorem c_ixO (o : Tm) (l : List Tm) (hl : l.length ≤ B) : AC Try.prog 75 [.c (.a (.osl 0 4 0 l.length)), .c (.fn (.func 67) [] [(false, [.ep 1 4 0 0])])] [.arz 4 (FTs l), obT o] (ci (ixF (fun u => lfB u o) l 0)) [.arz 4 (FTs l), obT o] := by
  have := l_ixO o l [] hl
  obtain ⟨ok, os, on, ol⟩ := o
  refine AC.vc hP sh lv75 (Nat.le_refl _) (by simp [isLive]) (by simp) (Eq.mpr (v75_F67_i1 ..) ?_)
  exact this
theorem c_anyO (o : Tm) (l : List Tm) (hl : l.length ≤ B) : AC Try.prog 47 [.c (.a (.osl 0 4 0 l.length)), .c (.fn (.func 67) [] [(false, [.ep 1 4 0 0])])] [.arz 4 (FTs l), obT o] (cb (l.any fun u => lfB u o)) [.arz 4 (FTs l), obT o] := by
  have h := c_ixO o l hl
  have e := ixF_any (fun u => lfB u o) l 0
  obtain ⟨ok, os, on, ol⟩ := o
  refine AC.vc hP sh lv47 (Nat.le_refl _) (by simp [isLive]) (by simp) (Eq.mpr (v47_F67_i1 ..) ?_)
  exact ⟨_, h, by rw [← e]; exact .refl _, rfl⟩
theorem c_anyN (o : Tm) : AC Try.prog 47 [.c (.a (.fz .nils)), .c (.fn (.func 67) [] [(false, [.ep 0 4 0 0])])] [obT o] (cb false) [obT o] := by
  have h := c_ixargs1 (fun u => lfB u o) o [] (by simp only [List.length_nil, B]; omega) (fun u hu => by cases hu)
  have hh : AC Try.prog 47 [aL [], .c (.fn (.func 67) [] [(false, [.ep 0 4 0 0])])] [obT o] (cb false) [obT o] := by
    obtain ⟨ok, os, on, ol⟩ := o
    refine AC.vc hP sh lv47 (Nat.le_refl _) (by simp [isLive]) (by simp) (Eq.mpr (v47_F67 ..) ?_)
    exact ⟨_, h, .refl _, rfl⟩
  exact hh.args ⟨.c _ _ (.a _ _ (.fz _ _ leNil)), .refl _, trivial⟩

end Go.AM

set_option maxRecDepth 100000
open Go Go.Proofs
namespace Go.AM

/-! ### A pattern's leaves -/
def badLf (lv : Int) (out : List Tm) (u : Tm) : Bool := !leafB u || ((leafF u).k == 1 && decide ((leafF u).n ≤ lv)) || out.any fun v => lfB v (leafF u)
def argsL (s : Sto) (lv : Int) : List Tm → List Tm → Int → List Tm × Int × Int
  | out, [], f => (out, f, 0)
  | out, t :: l, f => if (FullV s f t).2.2 ≠ 0 then ([], 0, (FullV s f t).2.2) else if badLf lv out (FullV s f t).1 = true then ([], 0, 171) else argsL s lv (out ++ [leafF (FullV s f t).1]) l (FullV s f t).2.1
def argsF (s : Sto) (x : Int) (l : List Tm) (f : Int) : List Tm × Int × Int := if (!inB s.V x || l.any fun t => !validB t) = true then ([], 0, 1) else argsL s (infOf s.V x).lv [] l f
abbrev aAr (z : List Tm × Int × Int) : TV := .tup [(false, [.a (.fz (.sl false 4 (FTs z.1)))]), (false, [.a (.fz (.int .i64 z.2.1))]), (false, [.a (.fz (.int .i64 z.2.2))])]
theorem leAr {x : FV} {a b : Int} {l : List Tm} (h : FV.Le x (.sl false 4 (FTs l))) : TV.Le (.tup [(false, [.a (.fz x)]), (false, [.a (.fz (.int .i64 a))]), (false, [.a (.fz (.int .i64 b))])]) (aAr (l, a, b)) := le_tup ⟨⟨rfl, .a _ _ (.fz _ _ h), trivial⟩, lwR _, lwR _, trivial⟩
/-- In full it may be, and is no larger than what there was fuel for. -/
theorem FullV_ok {s : Sto} (hs : OKS s) {f : Int} {t : Tm} (hf : validB t = true → Fit f.toNat t) (he : (FullV s f t).2.2 = 0) : validB t = true ∧ validB (FullV s f t).1 = true ∧ bd M61 (FullV s f t).1 ∧ (FullV s f t).1.sz ≤ SZ ∧ (FullV s f t).1.sz + 4200 * (FullV s f t).2.1.toNat ≤ t.sz + 4200 * f.toNat ∧ 0 ≤ (FullV s f t).2.1 ∧ (FullV s f t).2.1 ≤ f := by
  unfold FullV at he ⊢
  split at he
  · rename_i hv
    rw [if_pos hv]
    have h0 : 0 ≤ f ∨ (fullF s f.toNat f t).2.1 ≠ 0 := by
      rcases Int.le_total 0 f with q | q
      · exact .inl q
      · right; rw [fullF_neg s _ t q]; simp
    split at he
    · rename_i h1
      rw [if_pos h1]
      have h0 : 0 ≤ f := h0.resolve_right (fun h => h h1)
      obtain ⟨⟨a, b⟩, c⟩ := fullF_ok hs f.toNat f t (Nat.le_refl _) h0 hv (hf hv) h1
      have hl := fullF_left s f.toNat f t h0
      have so := shortF_ok _ (valid_ok _ a)
      have hsz := (hf hv).2.1
      exact ⟨hv, by rw [valid_iff, so.1, so.2.1 (valid_lv a)]; rfl, so.2.2.2 _ (by simp only [M61]; omega) b, by have := so.2.2.1; simp only; omega, by have := so.2.2.1; simp only; omega, hl⟩
    · rename_i h1; exact absurd he h1
  · cases he
theorem FullV_left {s : Sto} (hs : OKS s) {f : Int} {t : Tm} (hf : validB t = true → Fit f.toNat t) (he : (FullV s f t).2.2 = 0) : 0 ≤ (FullV s f t).2.1 ∧ (FullV s f t).2.1 ≤ f := (FullV_ok hs hf he).2.2.2.2.2
abbrev oInf (i : Inf) : AObj := .arr 6 [[.a (.fz (.int .i64 i.lv)), .a (.fz (.bool i.bd)), .a (.fz (.int .i64 i.v.k)), .a (.fz (.str i.v.s)), .a (.fz (.int .i64 i.v.n)), .a (.fz (.sl false 4 (FTs i.v.l)))]]
theorem l_iargs (s : Sto) (hs : OKS s) (i : Inf) (l0 : List Tm) (hl0 : l0.length ≤ 100000000) : ∀ (b pre out : List Tm) (f : Int), out.length = pre.length → out ≠ [] → l0 = pre ++ b → 0 - 9223372036854775808 ≤ f → (∀ t ∈ b, t.sz ≤ B ∧ (validB t = true → Fit f.toNat t)) →
    RPt Try.prog 42 3 (aAr (argsL s i.lv out b f)) (oS s) 1
      ⟨[(0, aS 0), (3, ci f), (11, .c (.a (.ep 3 6 0 0))), (13, .c (.a (.osl 4 4 0 out.length))), (35, aL l0), (36, ci (l0.length : Int)), (37, ci (pre.length : Int))],
        [(0, sto2 1 2 s), (1, .arz 6 (SR s.V)), (2, .arz 1 (IR s.T)), (3, oInf i), (4, .arz 4 (FTs out))], 5⟩
  | [], pre, out, f, ho, hne, hl, h0, _ => by
    subst hl
    obtain ⟨ilv, ibd, ⟨ik, is, iN, il⟩⟩ := i
    refine RPt.vc hP sh lv42 (Eq.mpr (v42_1b f out.length (FTs (pre ++ [])) ((pre ++ []).length : Nat) (pre.length : Nat) ..) ?_)
    refine br_of (fun h => absurd (of_decide_eq_true h) (by rw [List.append_nil]; omega)) (fun _ => ⟨⟨rfl, by rw [FTs_length]; omega⟩, ?_, rfl⟩)
    rw [List.drop_zero, List.take_of_length_le (by rw [FTs_length]; omega)]
    exact leAr leSl
  | t :: b, pre, out, f, ho, hne, hl, h0, hb => by
    subst hl
    obtain ⟨hz, hfit⟩ := hb t List.mem_cons_self
    have h3 := ltI' pre t b
    have em := rE_mid pre t b
    have hF := c_sFull s hs f t h0 hz hfit
    have okF := FullV_ok hs hfit
    have eA : argsL s i.lv out (t :: b) f = if (FullV s f t).2.2 ≠ 0 then ([], 0, (FullV s f t).2.2) else if badLf i.lv out (FullV s f t).1 = true then ([], 0, 171) else argsL s i.lv (out ++ [leafF (FullV s f t).1]) b (FullV s f t).2.1 := rfl
    have next := fun g w h1 h2 => l_iargs s hs i (pre ++ t :: b) hl0 b (pre ++ [t]) (out ++ [w]) g (by simp; omega) (by simp) (by simp) h1 h2
    simp only [List.length_append, List.length_cons] at hl0
    rw [eA]
    generalize FullV s f t = z at *
    obtain ⟨u, g, e⟩ := z
    simp only at okF hF ⊢
    have h4 : ((pre.length : Nat) : Int) < (((pre ++ t :: b).length : Nat) : Int) := by simp only [List.length_append, List.length_cons]; omega
    obtain ⟨ilv, ibd, ⟨ik, is, iN, il⟩⟩ := i
    refine RPt.vc hP sh lv42 (Eq.mpr (v42_1b f out.length (FTs (pre ++ t :: b)) ((pre ++ t :: b).length : Nat) (pre.length : Nat) ..) ?_)
    rw [aE_mid, w64 (x := ((pre.length : Nat) : Int) + 1) (by omega) (by omega)]
    refine br_of (fun _ => ⟨⟨rfl, by omega, h3, em⟩, (u, g, e), hF, br_of (fun he => ?_) (fun he => ?_)⟩) (fun h => absurd h4 (of_decide_eq_false h))
    · have he : e ≠ 0 := by have he : (e != 0) = true := he; simpa using he
      rw [if_pos he]; exact ⟨leAr (l := []) leNil, rfl⟩
    · have he : e = 0 := by have he : (e != 0) = false := he; simpa using he
      subst he
      obtain ⟨hv, hvu, hbu, hsz, _, hg0, hg1⟩ := okF rfl
      rw [if_neg (by simp)]
      have hleaf := c_eLeaf u hsz hbu
      rw [if_pos hvu] at hleaf
      have hany := c_anyO (leafF u) out (by simp only [B]; omega)
      have eb : badLf ilv out u = (!leafB u || ((leafF u).k == 1 && decide ((leafF u).n ≤ ilv)) || out.any fun v => lfB v (leafF u)) := rfl
      have go : badLf ilv out u = false → 1 ≤ 1 ∧ (out.length ≤ (FTs out).length ∧ roomB (out.length + 1) 56) ∧ RPt Try.prog 42 3 (aAr (argsL s ilv (out ++ [leafF u]) b g)) (oS s) 1
          ⟨[(0, aS 0), (3, ci g), (11, .c (.a (.ep 3 6 0 0))), (13, .c (.a (.osl 4 4 0 (out.length + 1)))), (35, aL (pre ++ t :: b)), (36, ci ((pre ++ t :: b).length : Int)), (37, ci ((pre.length : Int) + 1))],
            [(0, sto2 1 2 s), (1, .arz 6 (SR s.V)), (2, .arz 1 (IR s.T)), (3, oInf ⟨ilv, ibd, ⟨ik, is, iN, il⟩⟩), (4, .arz 4 (List.take out.length (FTs out) ++ [FT4 (leafF u)]))], 5⟩ := fun _ => by
        have hn := next g (leafF u) (by omega) (fun x hx => ⟨(hb x (List.mem_cons_of_mem _ hx)).1, fun hv => ((hb x (List.mem_cons_of_mem _ hx)).2 hv).mono (by omega)⟩)
        have e5 : List.take out.length (FTs out) ++ [FT4 (leafF u)] = FTs (out ++ [leafF u]) := by rw [List.take_of_length_le (by rw [FTs_length]; omega), FT4_eq, FTs_append]; rfl
        have e7 : (out ++ [leafF u]).length = out.length + 1 := by simp
        have e8 : (((pre ++ [t]).length : Nat) : Int) = (pre.length : Int) + 1 := by simp
        rw [e7, e8] at hn
        rw [e5]
        exact ⟨Nat.le_refl _, ⟨by rw [FTs_length]; exact Nat.le_refl _, roomI (by omega)⟩, hn⟩
      have bad : badLf ilv out u = true → (TV.Le (.tup [(false, [.a (.fz .nils)]), (false, [.a (.fz (.int .i64 0))]), (false, [.a (.fz (.int .i64 171))])]) (aAr (if badLf ilv out u = true then ([], 0, 171) else argsL s ilv (out ++ [leafF u]) b g)) ∧ oS s = oS s) := fun h => by
        rw [if_pos h]; exact ⟨leAr (l := []) leNil, rfl⟩
      have good : ∀ h : badLf ilv out u = false, 1 ≤ 1 ∧ (out.length ≤ (FTs out).length ∧ roomB (out.length + 1) 56) ∧ RPt Try.prog 42 3 (aAr (if badLf ilv out u = true then ([], 0, 171) else argsL s ilv (out ++ [leafF u]) b g)) (oS s) 1
          ⟨[(0, aS 0), (3, ci g), (11, .c (.a (.ep 3 6 0 0))), (13, .c (.a (.osl 4 4 0 (out.length + 1)))), (35, aL (pre ++ t :: b)), (36, ci ((pre ++ t :: b).length : Int)), (37, ci ((pre.length : Int) + 1))],
            [(0, sto2 1 2 s), (1, .arz 6 (SR s.V)), (2, .arz 1 (IR s.T)), (3, oInf ⟨ilv, ibd, ⟨ik, is, iN, il⟩⟩), (4, .arz 4 (List.take out.length (FTs out) ++ [FT4 (leafF u)]))], 5⟩ := fun h => by
        have := go h
        rw [if_neg (by rw [h]; simp)]; exact this
      refine ⟨(leafF u, leafB u), hleaf, br_of (fun h1 => ?_) (fun h1 => ?_)⟩
      · have h1 : ((leafF u).k == 1) = true := h1
        rw [h1, Bool.true_and] at eb
        refine ⟨_, hany, br_of (fun h2 => bad ?_) (fun h2 => br_of (fun h3 => bad ?_) (fun h3 => br_of (fun h4 => bad ?_) (fun h4 => good ?_)))⟩
        · have h2 : (!leafB u) = true := h2
          rw [eb, h2]; rfl
        · have h3 : decide ((leafF u).n ≤ ilv) = true := h3
          rw [eb, h3, Bool.or_true]; rfl
        · have h4 : (out.any fun v => lfB v (leafF u)) = true := h4
          rw [eb, h4, Bool.or_true]
        · have h2 : (!leafB u) = false := h2
          have h3 : decide ((leafF u).n ≤ ilv) = false := h3
          have h4 : (out.any fun v => lfB v (leafF u)) = false := h4
          rw [eb, h2, h3, h4]; rfl
      · have h1 : ((leafF u).k == 1) = false := h1
        rw [h1, Bool.false_and, Bool.or_false] at eb
        refine ⟨_, hany, br_of (fun h2 => bad ?_) (fun h2 => br_of (fun h4 => bad ?_) (fun h4 => good ?_))⟩
        · have h2 : (!leafB u) = true := h2
          rw [eb, h2]; rfl
        · have h4 : (out.any fun v => lfB v (leafF u)) = true := h4
          rw [eb, h4, Bool.or_true]
        · have h2 : (!leafB u) = false := h2
          have h4 : (out.any fun v => lfB v (leafF u)) = false := h4
          rw [eb, h2, h4]; rfl
theorem c_iargs (s : Sto) (hs : OKS s) (x f : Int) (l : List Tm) (hl0 : l.length ≤ 100000000) (h0 : 0 - 9223372036854775808 ≤ f) (hb : ∀ t ∈ l, t.sz ≤ B ∧ (validB t = true → Fit f.toNat t)) : AC Try.prog 42 [aS 0, ci x, aL l, ci f] (oS s) (aAr (argsF s x l f)) (oS s) := by
  have hI := c_sinfo s x
  have hO := c_anyiodd (fun t => !validB t) l (by simp only [B]; omega) (fun u hu => c_iodd u (hb u hu).1)
  have eA : argsF s x l f = if (!inB s.V x || l.any fun t => !validB t) = true then ([], 0, 1) else argsL s (infOf s.V x).lv [] l f := rfl
  rw [eA]
  generalize infOf s.V x = i at *
  generalize inB s.V x = ib at *
  generalize (l.any fun t => !validB t) = od at *
  obtain ⟨ilv, ibd, iv⟩ := i
  refine AC.vc hP sh lv42 (Nat.le_refl _) (by simp [isLive]) (by simp) (Eq.mpr (v42 x (FTs l) f ..) ?_)
  refine ⟨(ilv, ibd, iv, ib), hI, br_of (fun h => ?_) (fun h => ⟨_, hO, br_of (fun h2 => ?_) (fun h2 => ⟨rfl, ?_⟩)⟩)⟩
  · have h : (!ib) = true := h
    rw [h, Bool.true_or, if_pos rfl]; exact ⟨leAr (l := []) leNil, rfl⟩
  · rw [h2, Bool.or_true, if_pos rfl]; exact ⟨leAr (l := []) leNil, rfl⟩
  have h : (!ib) = false := h
  rw [h, h2, if_neg (by simp), FTs_length]
  show RPt Try.prog 42 3 (aAr (argsL s ilv [] l f)) (oS s) 1 ⟨[(0, aS 0), (3, ci f), (11, .c (.a (.ep 3 6 0 0))), (13, .c (.a (.fz .nils))), (35, aL l), (36, ci (l.length : Int)), (37, ci 0)], [(0, sto2 1 2 s), (1, .arz 6 (SR s.V)), (2, .arz 1 (IR s.T)), (3, oInf ⟨ilv, ibd, iv⟩)], 4⟩
  cases l with
  | nil =>
    obtain ⟨ik, is, iN, il⟩ := iv
    refine RPt.vc hP sh lv42 (Eq.mpr (v42_1a f (FTs []) 0 0 ..) ?_)
    exact br_of (fun h => by cases h) (fun _ => ⟨leAr (l := []) leNil, rfl⟩)
  | cons t b =>
    obtain ⟨hz, hfit⟩ := hb t List.mem_cons_self
    have h3 := ltI' [] t b
    have em := rE_mid [] t b
    have hF := c_sFull s hs f t h0 hz hfit
    have okF := FullV_ok hs hfit
    have eA : argsL s ilv [] (t :: b) f = if (FullV s f t).2.2 ≠ 0 then ([], 0, (FullV s f t).2.2) else if badLf ilv [] (FullV s f t).1 = true then ([], 0, 171) else argsL s ilv [leafF (FullV s f t).1] b (FullV s f t).2.1 := rfl
    have next := fun g w h1 h2 => l_iargs s hs ⟨ilv, ibd, iv⟩ (t :: b) hl0 b [t] [w] g rfl (by simp) rfl h1 h2
    simp only [List.length_cons] at hl0
    rw [eA]
    generalize FullV s f t = z at *
    obtain ⟨u, g, e⟩ := z
    simp only at okF hF ⊢
    obtain ⟨ik, is, iN, il⟩ := iv
    refine RPt.vc hP sh lv42 (Eq.mpr (v42_1a f (FTs (t :: b)) ((t :: b).length : Nat) 0 ..) ?_)
    rw [show aE (List.getD (FTs (t :: b)) (Int.toNat 0) []) = aT t from aE_FT t, w64 (x := (0 : Int) + 1) (by omega) (by omega)]
    refine br_of (fun _ => ⟨⟨rfl, Int.le_refl _, h3, em⟩, (u, g, e), hF, br_of (fun he => ?_) (fun he => ?_)⟩) (fun h => absurd (of_decide_eq_false h) (by simp only [List.length_cons]; omega))
    · have he : e ≠ 0 := by have he : (e != 0) = true := he; simpa using he
      rw [if_pos he]; exact ⟨leAr (l := []) leNil, rfl⟩
    · have he : e = 0 := by have he : (e != 0) = false := he; simpa using he
      subst he
      obtain ⟨hv, hvu, hbu, hsz, _, hg0, hg1⟩ := okF rfl
      rw [if_neg (by simp)]
      have hleaf := c_eLeaf u hsz hbu
      rw [if_pos hvu] at hleaf
      have hany := c_anyN (leafF u)
      have eb : badLf ilv [] u = (!leafB u || ((leafF u).k == 1 && decide ((leafF u).n ≤ ilv))) := by rw [badLf, List.any_nil, Bool.or_false]
      have bad : badLf ilv [] u = true → (TV.Le (.tup [(false, [.a (.fz .nils)]), (false, [.a (.fz (.int .i64 0))]), (false, [.a (.fz (.int .i64 171))])]) (aAr (if badLf ilv [] u = true then ([], 0, 171) else argsL s ilv [leafF u] b g)) ∧ oS s = oS s) := fun h => by
        rw [if_pos h]; exact ⟨leAr (l := []) leNil, rfl⟩
      have good : ∀ h : badLf ilv [] u = false, 1 ≤ 1 ∧ roomB 1 56 ∧ RPt Try.prog 42 3 (aAr (if badLf ilv [] u = true then ([], 0, 171) else argsL s ilv [leafF u] b g)) (oS s) 1
          ⟨[(0, aS 0), (3, ci g), (11, .c (.a (.ep 3 6 0 0))), (13, .c (.a (.osl 4 4 0 1))), (35, aL (t :: b)), (36, ci ((t :: b).length : Int)), (37, ci (0 + 1))],
            [(0, sto2 1 2 s), (1, .arz 6 (SR s.V)), (2, .arz 1 (IR s.T)), (3, oInf ⟨ilv, ibd, ⟨ik, is, iN, il⟩⟩), (4, .arz 4 [FT4 (leafF u)])], 5⟩ := fun h => by
        have hn := next g (leafF u) (by omega) (fun x hx => ⟨(hb x (List.mem_cons_of_mem _ hx)).1, fun hv => ((hb x (List.mem_cons_of_mem _ hx)).2 hv).mono (by omega)⟩)
        rw [if_neg (by rw [h]; simp), FT4_eq]
        exact ⟨Nat.le_refl _, roomI (by omega), hn⟩
      refine ⟨(leafF u, leafB u), hleaf, br_of (fun h1 => ?_) (fun h1 => ?_)⟩
      · have h1 : ((leafF u).k == 1) = true := h1
        rw [h1, Bool.true_and] at eb
        refine ⟨_, hany, br_of (fun h2 => bad ?_) (fun h2 => br_of (fun h3 => bad ?_) (fun h3 => br_of (fun h4 => by cases h4) (fun _ => good ?_)))⟩
        · have h2 : (!leafB u) = true := h2
          rw [eb, h2]; rfl
        · have h3 : decide ((leafF u).n ≤ ilv) = true := h3
          rw [eb, h3, Bool.or_true]
        · have h2 : (!leafB u) = false := h2
          have h3 : decide ((leafF u).n ≤ ilv) = false := h3
          rw [eb, h2, h3]; rfl
      · have h1 : ((leafF u).k == 1) = false := h1
        rw [h1, Bool.false_and, Bool.or_false] at eb
        refine ⟨_, hany, br_of (fun h2 => bad ?_) (fun h2 => br_of (fun h4 => by cases h4) (fun _ => good ?_))⟩
        · have h2 : (!leafB u) = true := h2
          rw [eb, h2]
        · have h2 : (!leafB u) = false := h2
          rw [eb, h2]

end Go.AM

set_option maxRecDepth 100000
open Go Go.Proofs
namespace Go.AM

/-! ### An inversion that is under way -/
structure IS where
  s : Sto
  f : Int
  e : Int
abbrev aIV : TV := .c (.a (.ep 0 6 0 0))
abbrev oIV (x lv : Int) (L : List Tm) (f e : Int) : AObj := .arr 6 [[.a (.ep 1 2 0 0), .a (.fz (.int .i64 x)), .a (.fz (.int .i64 lv)), .a (.fz (.sl false 4 (FTs L))), .a (.fz (.int .i64 f)), .a (.fz (.int .i64 e))]]
abbrev oIs (x lv : Int) (L : List Tm) (f e : Int) (s : Sto) : List AObj := [oIV x lv L f e, sto2 2 3 s, .arz 6 (SR s.V), .arz 1 (IR s.T)]
abbrev oIt (x lv : Int) (L : List Tm) (f e : Int) (s : Sto) : List AObj := [oIV x lv L f e, sto2 4 5 s, .gone, .gone, .arz 6 (SR s.V), .arz 1 (IR s.T)]
abbrev bV3 (n : Int) : Tm := .mk 3 [] n []
def failS (q : IS) (e : Int) : IS := if q.e = 0 then ⟨q.s, q.f, e⟩ else q
theorem c_ifail (x lv : Int) (L : List Tm) (f e er : Int) (s : Sto) : AC Try.prog 86 [aIV, ci er] (oIs x lv L f e s) (aT noT) (oIs x lv L f (if e = 0 then er else e) s) := by
  refine AC.vc hP sh lv86 (by simp) (by simp [isLive]) (by simp) (Eq.mpr (v86 ..) ?_)
  refine br_of (fun h => ?_) (fun h => ?_)
  · have h : (e == 0) = true := h
    rw [if_pos (by simpa using h)]; exact ⟨leT (l := []) leNil, rfl⟩
  · have h : (e == 0) = false := h
    rw [if_neg (by simpa using h)]; exact ⟨leT (l := []) leNil, rfl⟩
/-- A leaf's image. -/
def outT (t : Tm) (k : Int) : Tm := if t.k = 3 then .mk t.k t.s (t.n - k) t.l else t
def imgT (lv : Int) (L : List Tm) (t : Tm) (k : Int) : Tm × Bool :=
  if t.k = 3 ∧ t.n < k then (t, true) else if ixF (fun u => lfB u (outT t k)) L 0 ≥ 0 then (bV3 (k + (L.length : Int) - 1 - ixF (fun u => lfB u (outT t k)) L 0), true) else (t, t.k == 1 && decide (t.n ≤ lv))
theorem c_iimage (x lv : Int) (L : List Tm) (f e : Int) (s : Sto) (t : Tm) (k : Int) (hL : L.length ≤ 100000) (hn : t.k = 3 → -4611686018427387904 ≤ t.n ∧ t.n ≤ 4611686018427387904) (hk0 : 0 ≤ k) (hk1 : k ≤ 1099511627776) :
    AC Try.prog 90 [aIV, aT t, ci k] (oIs x lv L f e s) (aLeaf (imgT lv L t k).1 (imgT lv L t k).2) (oIs x lv L f e s) := by
  have hx := c_iximage1 (fun u => lfB u (outT t k)) (outT t k) L (by simp only [B]; omega) (fun u _ => c_image1 u (outT t k))
  have hlt := ixF_lt (fun u => lfB u (outT t k)) L 0
  have i1 : t.k = 3 ∧ t.n < k → imgT lv L t k = (t, true) := fun h => if_pos h
  have i2 : ¬ (t.k = 3 ∧ t.n < k) → ixF (fun u => lfB u (outT t k)) L 0 ≥ 0 → imgT lv L t k = (bV3 (k + (L.length : Int) - 1 - ixF (fun u => lfB u (outT t k)) L 0), true) := fun h h2 => (if_neg h).trans (if_pos h2)
  have i3 : ¬ (t.k = 3 ∧ t.n < k) → ¬ ixF (fun u => lfB u (outT t k)) L 0 ≥ 0 → imgT lv L t k = (t, t.k == 1 && decide (t.n ≤ lv)) := fun h h2 => (if_neg h).trans (if_neg h2)
  generalize imgT lv L t k = Z at *
  generalize ixF (fun u => lfB u (outT t k)) L 0 = p at *
  have hb := c_ibound (k + (L.length : Int) - 1 - p)
  obtain ⟨tk, ts, tn, tl⟩ := t
  simp only [Tm.n, Tm.k] at hn i1 i2 i3
  have tail : ¬ (tk = 3 ∧ tn < k) → br (decide (p ≥ 0)) (FV.isSl 4 (.sl false 4 (FTs L)) = true ∧ ∃ z2 : Tm, AC Try.prog 52 [ci (IntKind.wrap .i64 (IntKind.wrap .i64 (IntKind.wrap .i64 (k + (((FTs L).length : Nat) : Int)) - 1) - p))] [] (aT z2) [] ∧
      TV.Le (.tup [(true, cT z2), (false, [.a (.fz (.bool true))])]) (aLeaf Z.1 Z.2) ∧ oIs x lv L f e s = oIs x lv L f e s)
      (br (tk == 1) (TV.Le (.tup [(true, [.a (.fz (.int .i64 tk)), .a (.fz (.str ts)), .a (.fz (.int .i64 tn)), .a (.fz (.sl false 4 (FTs tl)))]), (false, [.a (.fz (.bool (decide (tn ≤ lv))))])]) (aLeaf Z.1 Z.2) ∧ oIs x lv L f e s = oIs x lv L f e s)
        (TV.Le (.tup [(true, [.a (.fz (.int .i64 tk)), .a (.fz (.str ts)), .a (.fz (.int .i64 tn)), .a (.fz (.sl false 4 (FTs tl)))]), (false, [.a (.fz (.bool false))])]) (aLeaf Z.1 Z.2) ∧ oIs x lv L f e s = oIs x lv L f e s)) := by
    intro h0
    rw [FTs_length]
    refine br_of (fun h => ?_) (fun h => ?_)
    · have h := of_decide_eq_true h
      rw [i2 h0 h, w64 (x := k + (L.length : Int)) (by omega) (by omega), w64 (x := k + (L.length : Int) - 1) (by omega) (by omega), w64 (x := k + (L.length : Int) - 1 - p) (by omega) (by omega)]
      exact ⟨rfl, _, hb, .refl _, rfl⟩
    · have h := of_decide_eq_false h
      rw [i3 h0 h]
      refine br_of (fun h1 => ?_) (fun h1 => ?_)
      · rw [h1, Bool.true_and]; exact ⟨.refl _, rfl⟩
      · rw [h1, Bool.false_and]; exact ⟨.refl _, rfl⟩
  refine AC.vc hP sh lv90 (by simp) (by simp [isLive]) (by simp) (Eq.mpr (v90 tk ts tn (FTs tl) k ..) ?_)
  refine br_of (fun h3 => ?_) (fun h3 => ?_)
  · have h3 : tk = 3 := by have h3 : (tk == 3) = true := h3; simpa using h3
    subst h3
    have hn := hn rfl
    have eo : outT (.mk 3 ts tn tl) k = .mk 3 ts (tn - k) tl := rfl
    rw [eo] at hx
    refine br_of (fun h4 => ?_) (fun h4 => ?_)
    · have h4 := of_decide_eq_true h4
      rw [i1 ⟨rfl, h4⟩]; exact ⟨.refl _, rfl⟩
    · have h4 := of_decide_eq_false h4
      rw [w64 (x := tn - k) (by omega) (by omega)]
      refine br_of (fun _ => ⟨p, hx, tail (fun q => h4 q.2)⟩) (fun h => by cases h)
  · have h3 : tk ≠ 3 := by have h3 : (tk == 3) = false := h3; simpa using h3
    have eo : outT (.mk tk ts tn tl) k = .mk tk ts tn tl := if_neg h3
    rw [eo] at hx
    refine br_of (fun h => absurd (by have h : (tk == 3) = true := h; simpa using h) h3) (fun _ => ⟨p, hx, tail (fun q => h3 q.1)⟩)

end Go.AM

set_option maxRecDepth 100000
open Go Go.Proofs
namespace Go.AM

/-! ### Another variable, applied -/
def imgs (lv : Int) (L : List Tm) (k : Int) (m : Nat) : List Tm → Nat → List Tm × List Tm → List Tm × List Tm
  | [], _, a => a
  | t :: l, i, a => imgs lv L k m l (i + 1) (if (imgT lv L t k).2 = true then (a.1 ++ [bV3 ((m : Int) - 1 - (i : Int))], a.2 ++ [(imgT lv L t k).1]) else a)
def moreF (c : Bool) (lvy k : Int) (n : Nat) : List Tm → Nat → List Tm × List Tm → List Tm × List Tm
  | [], _, a => a
  | t :: l, i, a => moreF c lvy k n l (i + 1) (if (c && (t.k == 1 && decide (t.n ≤ lvy))) = true then (a.1 ++ [t], a.2 ++ [bV3 (k + (n : Int) - 1 - (i : Int))]) else a)
def onF (lv lvy : Int) (L : List Tm) (k : Int) (ls : List Tm) : List Tm × List Tm := moreF (decide (lvy > lv)) lvy k L.length L 0 (imgs lv L k ls.length ls 0 ([], []))
def flexG (lv : Int) (L : List Tm) (q : IS) (y k : Int) (ls : List Tm) (f : Int) : Tm × IS :=
  if (imgs lv L k ls.length ls 0 ([], [])).1.length = ls.length ∧ (infOf q.s.V y).lv ≤ lv then (applyF (.mk 4 [] y []) (imgs lv L k ls.length ls 0 ([], [])).2, ⟨q.s, f, q.e⟩)
  else (applyF (.mk 4 [] (q.s.V.length : Int) []) (onF lv (infOf q.s.V y).lv L k ls).2, ⟨hangS q.s y (foldMin [lv, (infOf q.s.V y).lv]) ls.length (onF lv (infOf q.s.V y).lv L k ls).1, f, q.e⟩)
def flexF (lv : Int) (L : List Tm) (q : IS) (y : Int) (l : List Tm) (k : Int) : Tm × IS :=
  if (argsF q.s y l q.f).2.2 ≠ 0 then (noT, failS q (argsF q.s y l q.f).2.2) else flexG lv L q y k (argsF q.s y l q.f).1 (argsF q.s y l q.f).2.1
abbrev fxH (x lv : Int) (L : List Tm) (f e : Int) (s : Sto) (i : Inf) : AHeap := [(0, oIV x lv L f e), (1, sto2 4 5 s), (2, .gone), (3, .gone), (4, .arz 6 (SR s.V)), (5, .arz 1 (IR s.T)), (6, .arr 4 [zT]), (7, oInf i)]
abbrev fxS (x lv : Int) (L : List Tm) (f e : Int) (s : Sto) (i : Inf) (y k : Int) (ls on im l : List Tm) (a b c : Nat) (j : Int) : St :=
  if on = [] then ⟨[(0, aIV), (1, ci y), (3, ci k), (8, .c (.a (.ep 6 4 0 0))), (9, aL ls), (12, .c (.a (.ep 7 6 0 0))), (14, .c (.a (.fz .nils))), (15, .c (.a (.fz .nils))), (a, aL l), (b, ci (l.length : Int)), (c, ci j)], fxH x lv L f e s i, 8⟩
  else ⟨[(0, aIV), (1, ci y), (3, ci k), (8, .c (.a (.ep 6 4 0 0))), (9, aL ls), (12, .c (.a (.ep 7 6 0 0))), (14, .c (.a (.osl 8 4 0 on.length))), (15, .c (.a (.osl 9 4 0 im.length))), (a, aL l), (b, ci (l.length : Int)), (c, ci j)], fxH x lv L f e s i ++ [(8, .arz 4 (FTs on)), (9, .arz 4 (FTs im))], 10⟩
theorem snoc_ne {α : Type} (l : List α) (a : α) : l ++ [a] ≠ [] := by simp
theorem l_flex5 (x lv : Int) (L : List Tm) (f e : Int) (s : Sto) (ilv : Int) (ibd : Bool) (iv : Tm) (y k : Int) (ls : List Tm) (hL : L.length ≤ 100000) (hk0 : 0 ≤ k) (hk1 : k ≤ 1099511627776) (r : Tm) (S : Sto) (fin : List Tm × List Tm)
    (hfin : fin.1.length ≤ 200000 ∧ fin.2.length ≤ 200000) (hh : AC Try.prog 53 [aS 0, ci y, ci (foldMin [lv, ilv]), ci (ls.length : Int), aL fin.1] (oS s) (aT (.mk 4 [] (s.V.length : Int) [])) (oS' S)) (hr : applyF (.mk 4 [] (s.V.length : Int) []) fin.2 = r) :
    ∀ (b pre on im : List Tm), L = pre ++ b → on.length = im.length → on.length + b.length ≤ 200000 → moreF (decide (ilv > lv)) ilv k L.length b pre.length (on, im) = fin →
    RPt Try.prog 89 4 (aT r) (oIt x lv L f e S) 5 (fxS x lv L f e s ⟨ilv, ibd, iv⟩ y k ls on im L 105 106 107 (pre.length : Int))
  | [], pre, on, im, hl, ho, h2, hm => by
    rw [List.append_nil] at hl
    have hm : (on, im) = fin := hm
    subst hm
    have ha := c_apply (.mk 4 [] (s.V.length : Int) []) im (by simp only [Tm.l, List.length_nil]; omega)
    simp only at hh hr hfin
    rw [hr] at ha
    obtain ⟨ik, is, iN, il⟩ := iv
    unfold fxS
    by_cases hn : on = []
    · subst hn
      have : im = [] := List.eq_nil_of_length_eq_zero ho.symm
      subst this
      rw [if_pos rfl]
      refine RPt.vc hP sh lv89 (Eq.mpr (v89_5a ..) ?_)
      refine br_of (fun h => absurd (of_decide_eq_true h) (by rw [hl]; omega)) (fun _ => ⟨rfl, ?_⟩)
      rw [FTs_length]
      exact ⟨(_, S), hh.args ⟨.refl _, .refl _, .refl _, .refl _, .c _ _ (.a _ _ (.fz _ _ leNil)), trivial⟩, _, ha.args ⟨.refl _, .c _ _ (.a _ _ (.fz _ _ leNil)), trivial⟩, .refl _, rfl⟩
    · rw [if_neg hn]
      refine RPt.vc hP sh lv89 (Eq.mpr (v89_5b ..) ?_)
      refine br_of (fun h => absurd (of_decide_eq_true h) (by rw [hl]; omega)) (fun _ => ⟨rfl, ⟨rfl, by rw [FTs_length]; omega⟩, ?_⟩)
      rw [FTs_length, List.drop_zero, List.take_of_length_le (l := FTs on) (by rw [FTs_length]; exact Nat.le_refl _), List.drop_zero, List.take_of_length_le (l := FTs im) (by rw [FTs_length]; exact Nat.le_refl _)]
      refine ⟨(_, S), hh, ?_⟩
      exact ⟨⟨rfl, by rw [FTs_length]; omega⟩, _, ha, .refl _, rfl⟩
  | t :: b, pre, on, im, hl, ho, h2, hm => by
    have hlen : L.length = pre.length + (b.length + 1) := by rw [hl]; simp
    have em : List.getD (FTs L) (Int.toNat (pre.length : Int)) [] = FT t := by rw [hl]; exact midI pre t b
    have h3 : ((pre.length : Nat) : Int) < (((FTs L).length : Nat) : Int) := by rw [FTs_length]; omega
    have ek : FV.asI (List.getD (FT t) 0 FV.nils) = t.k := by cases t; rfl
    have en : FV.asI (List.getD (FT t) 2 FV.nils) = t.n := by cases t; rfl
    have hmm : moreF (decide (ilv > lv)) ilv k L.length (t :: b) pre.length (on, im) = moreF (decide (ilv > lv)) ilv k L.length b (pre.length + 1) (if (decide (ilv > lv) && (t.k == 1 && decide (t.n ≤ ilv))) = true then (on ++ [t], im ++ [bV3 (k + (L.length : Int) - 1 - (pre.length : Int))]) else (on, im)) := rfl
    rw [hmm] at hm
    have ej : (((pre ++ [t]).length : Nat) : Int) = (pre.length : Int) + 1 := by simp
    have en1 : (pre ++ [t]).length = pre.length + 1 := by simp
    have skip : (decide (ilv > lv) && (t.k == 1 && decide (t.n ≤ ilv))) = false → RPt Try.prog 89 4 (aT r) (oIt x lv L f e S) 5 (fxS x lv L f e s ⟨ilv, ibd, iv⟩ y k ls on im L 105 106 107 ((pre.length : Int) + 1)) := fun h => by
      rw [h, if_neg (by simp)] at hm
      have := l_flex5 x lv L f e s ilv ibd iv y k ls hL hk0 hk1 r S fin hfin hh hr b (pre ++ [t]) on im (by rw [hl]; simp) ho (by simp only [List.length_cons] at h2; omega) (by rw [en1]; exact hm)
      rw [ej] at this; exact this
    have take : (decide (ilv > lv) && (t.k == 1 && decide (t.n ≤ ilv))) = true → on.length + 1 + b.length ≤ 200000 → RPt Try.prog 89 4 (aT r) (oIt x lv L f e S) 5 (fxS x lv L f e s ⟨ilv, ibd, iv⟩ y k ls (on ++ [t]) (im ++ [bV3 (k + (L.length : Int) - 1 - (pre.length : Int))]) L 105 106 107 ((pre.length : Int) + 1)) := fun h h9 => by
      rw [if_pos h] at hm
      have := l_flex5 x lv L f e s ilv ibd iv y k ls hL hk0 hk1 r S fin hfin hh hr b (pre ++ [t]) (on ++ [t]) (im ++ [bV3 (k + (L.length : Int) - 1 - (pre.length : Int))]) (by rw [hl]; simp) (by simp [ho]) (by simp only [List.length_append, List.length_cons, List.length_nil]; omega) (by rw [en1]; exact hm)
      rw [ej] at this; exact this
    have hb := c_ibound (k + (L.length : Int) - 1 - (pre.length : Int))
    have room : on.length + 1 + b.length ≤ 200000 := by simp only [List.length_cons] at h2; omega
    have op : FV.isSl 4 (.sl false 4 (FTs L)) = true ∧ ((0 : Int) ≤ (pre.length : Int) ∧ (((pre.length : Int) < (((FTs L).length : Nat) : Int)) ∧ ((rE (FT t) : List FV) = FT t))) := ⟨rfl, by omega, h3, rE_FT t⟩
    obtain ⟨ik, is, iN, il⟩ := iv
    have w : IntKind.wrap .i64 (IntKind.wrap .i64 (IntKind.wrap .i64 (k + (((FTs L).length : Nat) : Int)) - 1) - (pre.length : Int)) = k + (L.length : Int) - 1 - (pre.length : Int) := by
      rw [FTs_length, w64 (x := k + (L.length : Int)) (by omega) (by omega), w64 (x := k + (L.length : Int) - 1) (by omega) (by omega), w64 (by omega) (by omega)]
    unfold fxS at skip take ⊢
    rw [if_neg (snoc_ne on t)] at take
    by_cases hn : on = []
    · subst hn
      have : im = [] := List.eq_nil_of_length_eq_zero ho.symm
      subst this
      rw [if_pos rfl] at skip ⊢
      refine RPt.vc hP sh lv89 (Eq.mpr (v89_5a ..) ?_)
      rw [em, ek, en, w64 (x := (pre.length : Int) + 1) (by omega) (by omega), w]
      refine br_of (fun _ => ⟨op, br_of (fun c1 => br_of (fun c2 => br_of (fun c3 => ?_) (fun c3 => skip ?_)) (fun c2 => skip ?_)) (fun c1 => skip ?_)⟩) (fun h => absurd (of_decide_eq_false h) (by omega))
      · have c1 : decide (ilv > lv) = true := c1
        have c2 : (t.k == 1) = true := c2
        have c3 : decide (t.n ≤ ilv) = true := c3
        refine ⟨Nat.le_refl _, roomI (by omega), rfl, _, hb, Nat.le_refl _, roomI (by omega), ?_⟩
        rw [rE_FT]
        exact take (by rw [c1, c2, c3]; rfl) room
      · have c3 : decide (t.n ≤ ilv) = false := c3
        rw [c3, Bool.and_false, Bool.and_false]
      · have c2 : (t.k == 1) = false := c2
        rw [c2, Bool.false_and, Bool.and_false]
      · have c1 : decide (ilv > lv) = false := c1
        rw [c1, Bool.false_and]
    · rw [if_neg hn] at skip ⊢
      refine RPt.vc hP sh lv89 (Eq.mpr (v89_5b ..) ?_)
      rw [em, ek, en, w64 (x := (pre.length : Int) + 1) (by omega) (by omega), w]
      refine br_of (fun _ => ⟨op, br_of (fun c1 => br_of (fun c2 => br_of (fun c3 => ?_) (fun c3 => skip ?_)) (fun c2 => skip ?_)) (fun c1 => skip ?_)⟩) (fun h => absurd (of_decide_eq_false h) (by omega))
      · have c1 : decide (ilv > lv) = true := c1
        have c2 : (t.k == 1) = true := c2
        have c3 : decide (t.n ≤ ilv) = true := c3
        refine ⟨Nat.le_refl _, ⟨by rw [FTs_length]; exact Nat.le_refl _, roomI (by omega)⟩, rfl, _, hb, Nat.le_refl _, ⟨by rw [FTs_length]; exact Nat.le_refl _, roomI (by omega)⟩, ?_⟩
        rw [rE_FT, List.take_of_length_le (l := FTs on) (by rw [FTs_length]; exact Nat.le_refl _), List.take_of_length_le (l := FTs im) (by rw [FTs_length]; exact Nat.le_refl _), FT4_eq]
        have := take (by rw [c1, c2, c3]; rfl) room
        rw [FTs_append, FTs_append, List.length_append, List.length_append] at this
        exact this
      · have c3 : decide (t.n ≤ ilv) = false := c3
        rw [c3, Bool.and_false, Bool.and_false]
      · have c2 : (t.k == 1) = false := c2
        rw [c2, Bool.false_and, Bool.and_false]
      · have c1 : decide (ilv > lv) = false := c1
        rw [c1, Bool.false_and]
theorem moreF_len (c : Bool) (lvy k : Int) (n : Nat) : ∀ (l : List Tm) (i : Nat) (a : List Tm × List Tm), a.1.length = a.2.length → (moreF c lvy k n l i a).1.length = (moreF c lvy k n l i a).2.length ∧ (moreF c lvy k n l i a).1.length ≤ a.1.length + l.length
  | [], _, a, h => ⟨h, Nat.le_refl _⟩
  | t :: l, i, a, h => by
    rw [moreF]
    split
    · have := moreF_len c lvy k n l (i + 1) (a.1 ++ [t], a.2 ++ [bV3 (k + (n : Int) - 1 - (i : Int))]) (by simp [h])
      exact ⟨this.1, by have := this.2; simp only [List.length_append, List.length_cons, List.length_nil] at this ⊢; omega⟩
    · have := moreF_len c lvy k n l (i + 1) a h
      exact ⟨this.1, by have := this.2; simp only [List.length_cons]; omega⟩
theorem imgs_len (lv : Int) (L : List Tm) (k : Int) (m : Nat) : ∀ (l : List Tm) (i : Nat) (a : List Tm × List Tm), a.1.length = a.2.length → (imgs lv L k m l i a).1.length = (imgs lv L k m l i a).2.length ∧ (imgs lv L k m l i a).1.length ≤ a.1.length + l.length
  | [], _, a, h => ⟨h, Nat.le_refl _⟩
  | t :: l, i, a, h => by
    rw [imgs]
    split
    · have := imgs_len lv L k m l (i + 1) (a.1 ++ [bV3 ((m : Int) - 1 - (i : Int))], a.2 ++ [(imgT lv L t k).1]) (by simp [h])
      exact ⟨this.1, by have := this.2; simp only [List.length_append, List.length_cons, List.length_nil] at this ⊢; omega⟩
    · have := imgs_len lv L k m l (i + 1) a h
      exact ⟨this.1, by have := this.2; simp only [List.length_cons]; omega⟩
theorem l_flex1 (x lv : Int) (L : List Tm) (f e : Int) (s : Sto) (ilv : Int) (ibd : Bool) (iv : Tm) (y k : Int) (ls : List Tm) (hls : ls.length ≤ 100000) (r : Tm) (S : Sto) (fin : List Tm × List Tm)
    (hI : ∀ t ∈ ls, AC Try.prog 90 [aIV, aT t, ci k] (oIs x lv L f e s) (aLeaf (imgT lv L t k).1 (imgT lv L t k).2) (oIs x lv L f e s))
    (full : fin.1.length = ls.length → ilv ≤ lv → applyF (.mk 4 [] y []) fin.2 = r ∧ s = S)
    (part : ¬ (fin.1.length = ls.length ∧ ilv ≤ lv) → RPt Try.prog 89 4 (aT r) (oIt x lv L f e S) 5 (fxS x lv L f e s ⟨ilv, ibd, iv⟩ y k ls fin.1 fin.2 L 105 106 107 0)) :
    ∀ (b pre on im : List Tm), ls = pre ++ b → on.length = im.length → on.length ≤ pre.length → imgs lv L k ls.length b pre.length (on, im) = fin →
    RPt Try.prog 89 4 (aT r) (oIt x lv L f e S) 1 (fxS x lv L f e s ⟨ilv, ibd, iv⟩ y k ls on im ls 55 56 57 (pre.length : Int))
  | [], pre, on, im, hl, ho, h2, hm => by
    rw [List.append_nil] at hl
    have hm : (on, im) = fin := hm
    subst hm
    have hlp : ls.length = pre.length := by rw [hl]
    have ha := c_apply (.mk 4 [] y []) im (by simp only [Tm.l, List.length_nil]; omega)
    simp only at full part
    have hv := c_ivariable y
    obtain ⟨ik, is, iN, il⟩ := iv
    unfold fxS at part ⊢
    by_cases hn : on = []
    · subst hn
      have : im = [] := List.eq_nil_of_length_eq_zero ho.symm
      subst this
      rw [if_pos rfl] at part ⊢
      refine RPt.vc hP sh lv89 (Eq.mpr (v89_1a ..) ?_)
      rw [FTs_length]
      refine br_of (fun h => absurd (of_decide_eq_true h) (by rw [hl]; omega)) (fun _ => ⟨rfl, rfl, br_of (fun c1 => br_of (fun c2 => ?_) (fun c2 => ⟨rfl, ?_⟩)) (fun c1 => ⟨rfl, ?_⟩)⟩)
      · have c1 : (0 : Int) = (ls.length : Int) := eq_of_beq c1
        have c2 := of_decide_eq_true c2
        obtain ⟨e1, rfl⟩ := full (by simp only [List.length_nil]; omega) c2
        rw [e1] at ha
        exact ⟨_, hv, _, ha.args ⟨.refl _, .c _ _ (.a _ _ (.fz _ _ leNil)), trivial⟩, .refl _, rfl⟩
      · have c2 := of_decide_eq_false c2
        rw [FTs_length]
        exact part (fun h => c2 h.2)
      · have c1 : ((0 : Int) == (ls.length : Int)) = false := c1
        rw [FTs_length]
        exact part (fun h => by have := h.1; simp only [List.length_nil] at this; rw [← this] at c1; cases c1)
    · rw [if_neg hn] at part ⊢
      refine RPt.vc hP sh lv89 (Eq.mpr (v89_1b ..) ?_)
      rw [FTs_length]
      refine br_of (fun h => absurd (of_decide_eq_true h) (by rw [hl]; omega)) (fun _ => ⟨rfl, br_of (fun c1 => br_of (fun c2 => ?_) (fun c2 => ⟨rfl, ?_⟩)) (fun c1 => ⟨rfl, ?_⟩)⟩)
      · have c1 : (on.length : Int) = (ls.length : Int) := eq_of_beq c1
        have c2 := of_decide_eq_true c2
        obtain ⟨e1, rfl⟩ := full (by omega) c2
        rw [e1] at ha
        rw [List.drop_zero, List.take_of_length_le (by rw [FTs_length]; exact Nat.le_refl _)]
        exact ⟨_, hv, ⟨rfl, by rw [FTs_length]; omega⟩, _, ha, .refl _, rfl⟩
      · have c2 := of_decide_eq_false c2
        rw [FTs_length]
        exact part (fun h => c2 h.2)
      · have c1 : ((on.length : Int) == (ls.length : Int)) = false := c1
        rw [FTs_length]
        exact part (fun h => by rw [h.1] at c1; simp at c1)
  | t :: b, pre, on, im, hl, ho, h2, hm => by
    have hlen : ls.length = pre.length + (b.length + 1) := by rw [hl]; simp
    have em : List.getD (FTs ls) (Int.toNat (pre.length : Int)) [] = FT t := by rw [hl]; exact midI pre t b
    have ea : aE (List.getD (FTs ls) (Int.toNat (pre.length : Int)) []) = aT t := by rw [hl]; exact aE_mid pre t b
    have h3 : ((pre.length : Nat) : Int) < (((FTs ls).length : Nat) : Int) := by rw [FTs_length]; omega
    have hmm : imgs lv L k ls.length (t :: b) pre.length (on, im) = imgs lv L k ls.length b (pre.length + 1) (if (imgT lv L t k).2 = true then (on ++ [bV3 ((ls.length : Int) - 1 - (pre.length : Int))], im ++ [(imgT lv L t k).1]) else (on, im)) := rfl
    rw [hmm] at hm
    have hi := hI t (by rw [hl]; simp)
    have ej : (((pre ++ [t]).length : Nat) : Int) = (pre.length : Int) + 1 := by simp
    have en1 : (pre ++ [t]).length = pre.length + 1 := by simp
    generalize imgT lv L t k = z at *
    obtain ⟨z1, z2⟩ := z
    simp only at hm hi
    have skip : z2 = false → RPt Try.prog 89 4 (aT r) (oIt x lv L f e S) 1 (fxS x lv L f e s ⟨ilv, ibd, iv⟩ y k ls on im ls 55 56 57 ((pre.length : Int) + 1)) := fun h => by
      rw [h, if_neg (by simp)] at hm
      have := l_flex1 x lv L f e s ilv ibd iv y k ls hls r S fin hI full part b (pre ++ [t]) on im (by rw [hl]; simp) ho (by rw [en1]; omega) (by rw [en1]; exact hm)
      rw [ej] at this; exact this
    have take : z2 = true → RPt Try.prog 89 4 (aT r) (oIt x lv L f e S) 1 (fxS x lv L f e s ⟨ilv, ibd, iv⟩ y k ls (on ++ [bV3 ((ls.length : Int) - 1 - (pre.length : Int))]) (im ++ [z1]) ls 55 56 57 ((pre.length : Int) + 1)) := fun h => by
      rw [if_pos h] at hm
      have := l_flex1 x lv L f e s ilv ibd iv y k ls hls r S fin hI full part b (pre ++ [t]) (on ++ [bV3 ((ls.length : Int) - 1 - (pre.length : Int))]) (im ++ [z1]) (by rw [hl]; simp) (by simp [ho]) (by rw [en1]; simp; omega) (by rw [en1]; exact hm)
      rw [ej] at this; exact this
    have hb := c_ibound ((ls.length : Int) - 1 - (pre.length : Int))
    have op : FV.isSl 4 (.sl false 4 (FTs ls)) = true ∧ ((0 : Int) ≤ (pre.length : Int) ∧ (((pre.length : Int) < (((FTs ls).length : Nat) : Int)) ∧ ((rE (List.getD (FTs ls) (Int.toNat (pre.length : Int)) []) : List FV) = List.getD (FTs ls) (Int.toNat (pre.length : Int)) []))) := ⟨rfl, by omega, h3, by rw [em]; exact rE_FT t⟩
    have w : IntKind.wrap .i64 (IntKind.wrap .i64 ((((FTs ls).length : Nat) : Int) - 1) - (pre.length : Int)) = (ls.length : Int) - 1 - (pre.length : Int) := by
      rw [FTs_length, w64 (x := (ls.length : Int) - 1) (by omega) (by omega), w64 (by omega) (by omega)]
    obtain ⟨ik, is, iN, il⟩ := iv
    unfold fxS at skip take ⊢
    rw [if_neg (snoc_ne on _)] at take
    by_cases hn : on = []
    · subst hn
      have : im = [] := List.eq_nil_of_length_eq_zero ho.symm
      subst this
      rw [if_pos rfl] at skip ⊢
      refine RPt.vc hP sh lv89 (Eq.mpr (v89_1a ..) ?_)
      rw [ea, w64 (x := (pre.length : Int) + 1) (by omega) (by omega), w]
      refine br_of (fun _ => ⟨op, (z1, z2), hi, br_of (fun c => ⟨rfl, _, hb, Nat.le_refl _, roomI (by omega), Nat.le_refl _, roomI (by omega), by rw [FT4_eq, FT4_eq]; exact take c⟩) (fun c => skip c)⟩) (fun h => absurd (of_decide_eq_false h) (by omega))
    · rw [if_neg hn] at skip ⊢
      refine RPt.vc hP sh lv89 (Eq.mpr (v89_1b ..) ?_)
      rw [ea, w64 (x := (pre.length : Int) + 1) (by omega) (by omega), w]
      refine br_of (fun _ => ⟨op, (z1, z2), hi, br_of (fun c => ⟨rfl, _, hb, Nat.le_refl _, ⟨by rw [FTs_length]; exact Nat.le_refl _, roomI (by omega)⟩, Nat.le_refl _, ⟨by rw [FTs_length]; exact Nat.le_refl _, roomI (by omega)⟩, ?_⟩) (fun c => skip c)⟩) (fun h => absurd (of_decide_eq_false h) (by omega))
      rw [List.take_of_length_le (l := FTs on) (by rw [FTs_length]; exact Nat.le_refl _), List.take_of_length_le (l := FTs im) (by rw [FTs_length]; exact Nat.le_refl _), FT4_eq, FT4_eq]
      have := take c
      rw [FTs_append, FTs_append, List.length_append, List.length_append] at this
      exact this
theorem c_iflex (x lv : Int) (L : List Tm) (q : IS) (y : Int) (l : List Tm) (k : Int) (hL : L.length ≤ 100000) (hk0 : 0 ≤ k) (hk1 : k ≤ 1099511627776)
    (hA : AC Try.prog 42 [aS 0, ci y, aL l, ci q.f] (oS q.s) (aAr (argsF q.s y l q.f)) (oS q.s)) (hls : (argsF q.s y l q.f).1.length ≤ 100000)
    (hI : ∀ t ∈ (argsF q.s y l q.f).1, AC Try.prog 90 [aIV, aT t, ci k] (oIs x lv L (argsF q.s y l q.f).2.1 q.e q.s) (aLeaf (imgT lv L t k).1 (imgT lv L t k).2) (oIs x lv L (argsF q.s y l q.f).2.1 q.e q.s))
    (hh : (argsF q.s y l q.f).2.2 = 0 → AC Try.prog 53 [aS 0, ci y, ci (foldMin [lv, (infOf q.s.V y).lv]), ci ((argsF q.s y l q.f).1.length : Int), aL (onF lv (infOf q.s.V y).lv L k (argsF q.s y l q.f).1).1] (oS q.s) (aT (.mk 4 [] (q.s.V.length : Int) [])) (oS' (hangS q.s y (foldMin [lv, (infOf q.s.V y).lv]) (argsF q.s y l q.f).1.length (onF lv (infOf q.s.V y).lv L k (argsF q.s y l q.f).1).1))) :
    AC Try.prog 89 [aIV, ci y, aL l, ci k] (oIs x lv L q.f q.e q.s) (aT (flexF lv L q y l k).1) (oIt x lv L (flexF lv L q y l k).2.f (flexF lv L q y l k).2.e (flexF lv L q y l k).2.s) := by
  have hinf := c_sinfo q.s y
  have eF : flexF lv L q y l k = if (argsF q.s y l q.f).2.2 ≠ 0 then (noT, failS q (argsF q.s y l q.f).2.2) else flexG lv L q y k (argsF q.s y l q.f).1 (argsF q.s y l q.f).2.1 := rfl
  rw [eF]
  generalize argsF q.s y l q.f = z at *
  obtain ⟨ls, g, er⟩ := z
  simp only at hA hls hI hh ⊢
  refine AC.vc hP sh lv89 (by simp) (by simp [isLive]) (by simp [isLive]) (Eq.mpr (v89 ..) ?_)
  refine ⟨(ls, g, er), hA, br_of (fun h => ?_) (fun h => ?_)⟩
  · have h : er ≠ 0 := by have h : (er != 0) = true := h; simpa using h
    rw [if_pos h]
    have hf := c_ifail x lv L q.f q.e er q.s
    refine ⟨(x, lv, L, q.f, if q.e = 0 then er else q.e), hf, ?_, ?_⟩
    · exact leT (l := []) (.refl _)
    · unfold failS
      split <;> rfl
  · have h : er = 0 := by have h : (er != 0) = false := h; simpa using h
    subst h
    rw [if_neg (by simp)]
    have eG : flexG lv L q y k ls g = if (imgs lv L k ls.length ls 0 ([], [])).1.length = ls.length ∧ (infOf q.s.V y).lv ≤ lv then (applyF (.mk 4 [] y []) (imgs lv L k ls.length ls 0 ([], [])).2, ⟨q.s, g, q.e⟩)
      else (applyF (.mk 4 [] (q.s.V.length : Int) []) (onF lv (infOf q.s.V y).lv L k ls).2, ⟨hangS q.s y (foldMin [lv, (infOf q.s.V y).lv]) ls.length (onF lv (infOf q.s.V y).lv L k ls).1, g, q.e⟩) := rfl
    have hh := hh rfl
    have eo : ∀ w, onF lv w L k ls = moreF (decide (w > lv)) w k L.length L 0 (imgs lv L k ls.length ls 0 ([], [])) := fun w => rfl
    have il := imgs_len lv L k ls.length ls 0 ([], []) rfl
    rw [eG]
    generalize infOf q.s.V y = i at *
    obtain ⟨ilv, ibd, iv⟩ := i
    have ml := moreF_len (decide (ilv > lv)) ilv k L.length L 0 (imgs lv L k ls.length ls 0 ([], [])) il.1
    rw [← eo ilv] at ml
    simp only [List.length_nil, Nat.zero_add] at il ml
    refine ⟨(ilv, ibd, iv, inB q.s.V y), hinf, rfl, ?_⟩
    rw [FTs_length]
    have main : ∀ (r : Tm) (S : Sto), ((imgs lv L k ls.length ls 0 ([], [])).1.length = ls.length → ilv ≤ lv → applyF (.mk 4 [] y []) (imgs lv L k ls.length ls 0 ([], [])).2 = r ∧ q.s = S) →
        (¬ ((imgs lv L k ls.length ls 0 ([], [])).1.length = ls.length ∧ ilv ≤ lv) → applyF (.mk 4 [] (q.s.V.length : Int) []) (onF lv ilv L k ls).2 = r ∧ hangS q.s y (foldMin [lv, ilv]) ls.length (onF lv ilv L k ls).1 = S) →
        RPt Try.prog 89 4 (aT r) (oIt x lv L g q.e S) 1 (fxS x lv L g q.e q.s ⟨ilv, ibd, iv⟩ y k ls [] [] ls 55 56 57 0) := fun r S h1 h2 => by
      refine l_flex1 x lv L g q.e q.s ilv ibd iv y k ls hls r S _ hI h1 (fun hn => ?_) ls [] [] [] rfl rfl (Nat.le_refl _) rfl
      obtain ⟨e1, e2⟩ := h2 hn
      have hfin : (onF lv ilv L k ls).1.length ≤ 200000 ∧ (onF lv ilv L k ls).2.length ≤ 200000 := by rw [← ml.1]; omega
      rw [e2] at hh
      exact l_flex5 x lv L g q.e q.s ilv ibd iv y k ls hL hk0 hk1 r S (onF lv ilv L k ls) hfin hh e1 L [] _ _ rfl il.1 (by omega) rfl
    split
    · rename_i hc
      exact main _ _ (fun _ _ => ⟨rfl, rfl⟩) (fun hn => absurd hc hn)
    · rename_i hc
      exact main _ _ (fun a b => absurd ⟨a, b⟩ hc) (fun _ => ⟨rfl, rfl⟩)

end Go.AM

set_option maxRecDepth 100000
open Go Go.Proofs
namespace Go.AM

/-! ### What is left of the fuel; what stays right -/
theorem fullF_dec {s : Sto} {D : Nat} {f : Int} {t : Tm} (h : (fullF s D f t).2.1 = 0) : 1 ≤ f ∧ 0 ≤ (fullF s D f t).2.2 ∧ (fullF s D f t).2.2 ≤ f - 1 := by
  cases D with
  | zero => cases h
  | succ D =>
    rw [fullF] at h ⊢
    split at h
    · cases h
    · rename_i hf
      rw [if_neg hf]
      have h1 := runH_le s (f - 1).toNat t
      have h2 : 0 ≤ (headP s (f - 1) t).2.2 ∧ (headP s (f - 1) t).2.2 ≤ f - 1 := by simp only [headP]; omega
      have h3 := kidsF_left (fullF_left s D) (headP s (f - 1) t).1.l ((headP s (f - 1) t).1.k == 6) _ h2.1
      refine ⟨by omega, ?_⟩
      unfold fullK
      split
      · exact ⟨h2.1, by simp only; omega⟩
      · unfold fullN
        split <;> exact ⟨h3.1, by simp only; omega⟩
theorem FullV_dec {s : Sto} {f : Int} {t : Tm} (h : (FullV s f t).2.2 = 0) : 1 ≤ f ∧ 0 ≤ (FullV s f t).2.1 ∧ (FullV s f t).2.1 ≤ f - 1 := by
  unfold FullV at h ⊢
  split at h
  · rename_i hv
    rw [if_pos hv]
    split at h
    · rename_i h1; rw [if_pos h1]; exact fullF_dec h1
    · rename_i h1; exact absurd h h1
  · cases h
theorem argsL_len {s : Sto} (lv : Int) : ∀ (l out : List Tm) (f : Int), 0 ≤ f → (argsL s lv out l f).2.2 = 0 → 0 ≤ (argsL s lv out l f).2.1 ∧ ((argsL s lv out l f).1.length : Int) + (argsL s lv out l f).2.1 ≤ (out.length : Int) + f
  | [], out, f, h0, _ => ⟨h0, Int.le_refl _⟩
  | t :: l, out, f, h0, h => by
    rw [argsL] at h ⊢
    split at h
    · rename_i h1; exact absurd h h1
    · rename_i h1
      rw [if_neg h1]
      split at h
      · cases h
      · rename_i h2
        rw [if_neg h2]
        have hd := FullV_dec (by simpa using h1 : (FullV s f t).2.2 = 0)
        have := argsL_len lv l (out ++ [leafF (FullV s f t).1]) (FullV s f t).2.1 hd.2.1 h
        simp only [List.length_append, List.length_cons, List.length_nil] at this
        omega
/-- Of leaves: what they are, and how large their numbers. -/
def lfP (t : Tm) : Prop := t.sz = 1 ∧ (t.k = 3 ∨ t.k = 1) ∧ t.l = [] ∧ bd M61 t ∧ validB t = true
theorem leafF_P {u : Tm} (hv : validB u = true) (hb : bd M61 u) (h : leafB u = true) : lfP (leafF u) := by
  have so := shortF_ok _ (valid_ok _ hv)
  have vs : validB (shortF u) = true := by rw [valid_iff, so.1, so.2.1 (valid_lv hv)]; rfl
  have bs := so.2.2.2 _ (by simp only [M61]; omega) hb
  have e : leafF u = shortF u := by rw [leafF, if_pos h]
  rw [e]
  have hk : (shortF u).k = 3 ∨ (shortF u).k = 1 := by
    unfold leafB at h
    simpa using h
  generalize shortF u = w at *
  obtain ⟨k, s, n, l⟩ := w
  have hk : k = 3 ∨ k = 1 := hk
  have hl : l = [] := okB0 (valid_ok _ vs) (by omega) (by omega)
  subst hl
  exact ⟨rfl, hk, rfl, bs, vs⟩
theorem argsL_P {s : Sto} (hs : OKS s) (lv : Int) : ∀ (l out : List Tm) (f : Int), (∀ t ∈ l, validB t = true → Fit f.toNat t) → (∀ t ∈ out, lfP t) → ∀ t ∈ (argsL s lv out l f).1, lfP t
  | [], out, f, _, ho => ho
  | t :: l, out, f, hl, ho => by
    rw [argsL]
    split
    · exact fun t h => nomatch h
    · rename_i he
      have ok := FullV_ok hs (hl t List.mem_cons_self) (by simpa using he)
      split
      · exact fun t h => nomatch h
      · rename_i hb
        have hlb : leafB (FullV s f t).1 = true := by
          rw [badLf] at hb
          simp only [Bool.or_eq_true, not_or, Bool.not_eq_true', Bool.not_eq_false] at hb
          exact hb.1.1
        exact argsL_P hs lv l _ _ (fun u hu hv => (hl u (List.mem_cons_of_mem _ hu) hv).mono (by have := ok.2.2.2.2.2; omega)) (fun u hu => by
          rcases List.mem_append.1 hu with hu | hu
          · exact ho u hu
          · simp at hu; subst hu; exact leafF_P ok.2.1 ok.2.2.1 hlb)
theorem argsF_ok {s : Sto} (hs : OKS s) (x : Int) (l : List Tm) (f : Int) (hl : ∀ t ∈ l, validB t = true → Fit f.toNat t) : (∀ t ∈ (argsF s x l f).1, lfP t) ∧ (0 ≤ f → (argsF s x l f).2.2 = 0 → 0 ≤ (argsF s x l f).2.1 ∧ ((argsF s x l f).1.length : Int) + (argsF s x l f).2.1 ≤ f ∧ inB s.V x = true) ∧ ((argsF s x l f).2.2 ≠ 0 → (argsF s x l f).1 = []) := by
  unfold argsF
  split
  · exact ⟨(fun t h => by cases h), (fun _ h => by cases h), fun _ => rfl⟩
  · rename_i hc
    refine ⟨argsL_P hs _ l [] f hl (fun t h => nomatch h), fun h0 he => ?_, fun he => ?_⟩
    · have := argsL_len (s := s) (infOf s.V x).lv l [] f h0 he
      simp only [List.length_nil] at this
      refine ⟨this.1, by omega, ?_⟩
      simp only [Bool.or_eq_true, not_or, Bool.not_eq_true', Bool.not_eq_false] at hc
      exact hc.1
    · have key : ∀ (l out : List Tm) (f : Int), (argsL s (infOf s.V x).lv out l f).2.2 ≠ 0 → (argsL s (infOf s.V x).lv out l f).1 = [] := by
        intro l
        induction l with
        | nil => exact fun out f h => absurd rfl h
        | cons t l ih =>
          intro out f h
          rw [argsL] at h ⊢
          split
          · rfl
          · rename_i h1
            rw [if_neg h1] at h
            split
            · rfl
            · rename_i h2; rw [if_neg h2] at h; exact ih _ _ h
      exact key l [] f he
theorem headV_ok {s : Sto} (hs : OKS s) {f : Int} {t : Tm} (h0 : 0 ≤ f) (hf : validB t = true → Fit f.toNat t) (he : (headV s f t).2.2 = 0) : validB (headV s f t).1 = true ∧ Fit (headV s f t).2.1.toNat (headV s f t).1 ∧ 0 ≤ (headV s f t).2.1 ∧ (headV s f t).2.1 ≤ f := by
  unfold headV at he ⊢
  split at he
  · rename_i hv
    rw [if_pos hv]
    have hq := runH_fit hs hv (hf hv)
    split at he
    · rename_i h1
      rw [if_pos h1]
      obtain ⟨hu, hq⟩ := hq
      rcases hq with ⟨_, a, b, _⟩ | ⟨h80, _⟩
      · refine ⟨a, ?_, by simp only; omega, by simp only; omega⟩
        have : (f - ((runH s f.toNat t).2.2 : Int)).toNat = f.toNat - (runH s f.toNat t).2.2 := by omega
        simp only [this]; exact b
      · rw [h80] at h1; cases h1
    · rename_i h1; exact absurd he h1
  · cases he
theorem lamsI_sz : ∀ (n : Nat) (f : Tm), (lamsF n f).sz = n + f.sz
  | 0, f => by rw [lamsF]; omega
  | n + 1, f => by
    rw [lamsF, lamsI_sz n]
    simp only [Tm.sz, Tm.szs, List.length_nil]; omega
theorem lamsI_bd {M : Int} : ∀ (n : Nat) {t : Tm}, bd M t → bd M (lamsF n t)
  | 0, _, h => h
  | n + 1, t, h => by
    rw [lamsF]
    exact lamsI_bd n ⟨fun e => absurd e (by decide), h, trivial⟩
/-- The leaves that are asked for. -/
def LP (L : List Tm) : Prop := L.length ≤ 900 ∧ ∀ t ∈ L, t.sz = 1 ∧ bd 2199023255552 t
theorem szs_one : ∀ {l : List Tm}, (∀ t ∈ l, t.sz = 1) → Tm.szs l = l.length
  | [], _ => rfl
  | t :: l, h => by rw [Tm.szs, h t List.mem_cons_self, szs_one fun u hu => h u (List.mem_cons_of_mem _ hu), List.length_cons]; omega
theorem bnd_P {n : Int} (h0 : 0 ≤ n) (h1 : n ≤ 2199023255552) : (bV3 n).sz = 1 ∧ bd 2199023255552 (bV3 n) := by
  refine ⟨rfl, fun _ => ⟨?_, ?_⟩, trivial⟩
  · show -2199023255552 ≤ n; omega
  · show n ≤ 2199023255552; omega
theorem imgs_P (lv : Int) (L : List Tm) (k : Int) (m : Nat) (hm : m ≤ 100000) : ∀ (l : List Tm) (i : Nat) (a : List Tm × List Tm), i + l.length ≤ m → (∀ t ∈ a.1, t.sz = 1 ∧ bd 2199023255552 t) → ∀ t ∈ (imgs lv L k m l i a).1, t.sz = 1 ∧ bd 2199023255552 t
  | [], _, _, _, h => h
  | t :: l, i, a, hi, h => by
    rw [imgs]
    simp only [List.length_cons] at hi
    refine imgs_P lv L k m hm l (i + 1) _ (by omega) ?_
    split
    · intro u hu
      rcases List.mem_append.1 hu with hu | hu
      · exact h u hu
      · simp at hu; subst hu; exact bnd_P (by omega) (by omega)
    · exact h
theorem moreF_P (c : Bool) (lvy k : Int) (n : Nat) : ∀ (l : List Tm) (i : Nat) (a : List Tm × List Tm), (∀ t ∈ l, t.sz = 1 ∧ bd 2199023255552 t) → (∀ t ∈ a.1, t.sz = 1 ∧ bd 2199023255552 t) → ∀ t ∈ (moreF c lvy k n l i a).1, t.sz = 1 ∧ bd 2199023255552 t
  | [], _, _, _, h => h
  | t :: l, i, a, hl, h => by
    rw [moreF]
    refine moreF_P c lvy k n l (i + 1) _ (fun u hu => hl u (List.mem_cons_of_mem _ hu)) ?_
    split
    · intro u hu
      rcases List.mem_append.1 hu with hu | hu
      · exact h u hu
      · simp at hu; subst hu; exact hl _ List.mem_cons_self
    · exact h
theorem onF_P {L : List Tm} (hL : LP L) (lv lvy k : Int) (ls : List Tm) (hls : ls.length ≤ 900) : (onF lv lvy L k ls).1.length ≤ 1800 ∧ (onF lv lvy L k ls).1.length = (onF lv lvy L k ls).2.length ∧ ∀ t ∈ (onF lv lvy L k ls).1, t.sz = 1 ∧ bd 2199023255552 t := by
  have il := imgs_len lv L k ls.length ls 0 ([], []) rfl
  have ml := moreF_len (decide (lvy > lv)) lvy k L.length L 0 _ il.1
  have h1 := hL.1
  simp only [List.length_nil, Nat.zero_add] at il ml
  refine ⟨?_, ml.1, moreF_P _ _ _ _ L 0 _ hL.2 (imgs_P lv L k ls.length (by omega) ls 0 ([], []) (by omega) (fun t h => nomatch h))⟩
  have := ml.2
  unfold onF
  omega
theorem hangT_P {s : Sto} {m : Nat} {on : List Tm} (hV : s.V.length ≤ 1073741824) (hm : m ≤ 900) (ho : on.length ≤ 1800) (h : ∀ t ∈ on, t.sz = 1 ∧ bd 2199023255552 t) : (hangT s m on).sz ≤ 4000 ∧ bd 2199023255552 (hangT s m on) := by
  have h1 := applyF_sz (.mk 4 [] (s.V.length : Int) []) on
  have h2 := szs_one fun t ht => (h t ht).1
  have h3 : (Tm.mk 4 [] (s.V.length : Int) []).sz = 1 := rfl
  refine ⟨by rw [hangT, lamsI_sz]; omega, lamsI_bd _ (applyF_bd ⟨fun _ => ⟨?_, ?_⟩, trivial⟩ (bds_of fun t ht => (h t ht).2))⟩
  · show -2199023255552 ≤ ((s.V.length : Nat) : Int); omega
  · show ((s.V.length : Nat) : Int) ≤ 2199023255552; omega
/-- What holds of an inversion on its way; c: how much there is left at least. -/
structure GI (C : Nat) (q : IS) : Prop where
  ok : OKS q.s
  V : q.s.V.length + q.f.toNat ≤ C
  T : q.s.T.length + q.f.toNat ≤ C
  f0 : -9223372036854775808 ≤ q.f
  f1 : q.f ≤ 900
theorem GI.fail {C : Nat} {q : IS} (h : GI C q) (e : Int) : GI C (failS q e) := by
  unfold failS
  split
  · exact ⟨h.ok, h.V, h.T, h.f0, h.f1⟩
  · exact h
theorem failS_f (q : IS) (e : Int) : (failS q e).f = q.f := by unfold failS; split <;> rfl
theorem GI.less {C : Nat} {q : IS} (h : GI C q) {f : Int} (h0 : 0 ≤ f) (h1 : f ≤ q.f) : GI C ⟨q.s, f, q.e⟩ := ⟨h.ok, by have := h.V; simp only; omega, by have := h.T; simp only; omega, by simp only; omega, by have := h.f1; simp only; omega⟩
theorem freshV (s : Sto) (lv : Int) : (freshS s lv).V.length = s.V.length + 1 ∧ (freshS s lv).T = s.T := by
  constructor
  · simp [freshS]
  · rfl
theorem bindT_length (s : Sto) (x : Int) (t : Tm) : (bindS s x t).T.length ≤ s.T.length + 1 := by
  by_cases q : bindB s x t = true
  · rw [(bind_yes q).1]; simp
  · rw [(bind_no (by simpa using q)).1]; omega
theorem OKS.hang {s : Sto} (h : OKS s) (y lv : Int) {m : Nat} {on : List Tm} (hp : (hangT s m on).sz ≤ 4000 ∧ bd 2199023255552 (hangT s m on)) : OKS (hangS s y lv m on) := by
  refine OKS.bindA (fun i hi hb => ?_) hp.1 hp.2
  rcases List.mem_append.1 hi with hi | hi
  · exact h i hi hb
  · simp at hi; subst hi; cases hb
theorem flexG_f (lv : Int) (L : List Tm) (q : IS) (y k : Int) (ls : List Tm) (f : Int) : (flexG lv L q y k ls f).2.f = f := by unfold flexG; split <;> rfl
theorem gi_flexG {C : Nat} (hC : C ≤ 1073741824) {L : List Tm} (hL : LP L) {lv : Int} {q : IS} (h : GI C q) (y k : Int) (ls : List Tm) {f : Int} (h0 : 0 ≤ f) (h1 : f ≤ q.f) (hV : q.s.V.length + f.toNat + 1 ≤ C) (hT : q.s.T.length + f.toNat + 1 ≤ C) (hls : ls.length ≤ 900) : GI C (flexG lv L q y k ls f).2 := by
  have hf1 := h.f1
  unfold flexG
  split
  · exact h.less h0 h1
  · have o := onF_P hL lv (infOf q.s.V y).lv k ls hls
    have hp := hangT_P (s := q.s) (m := ls.length) (by omega) hls o.1 o.2.2
    have e1 := freshV q.s (foldMin [lv, (infOf q.s.V y).lv])
    refine ⟨h.ok.hang y _ hp, ?_, ?_, by simp only; omega, by simp only; omega⟩
    · show (hangS _ _ _ _ _).V.length + f.toNat ≤ C
      rw [hangS, bindV_length, e1.1]; omega
    · show (hangS _ _ _ _ _).T.length + f.toNat ≤ C
      have := bindT_length (freshS q.s (foldMin [lv, (infOf q.s.V y).lv])) y (hangT q.s ls.length (onF lv (infOf q.s.V y).lv L k ls).1)
      rw [e1.2] at this
      rw [hangS]; omega
/-- Another variable: the contract, and what stays right. -/
theorem gi_flexF {C : Nat} (hC : C ≤ 1073741824) {L : List Tm} (hL : LP L) {lv : Int} {q : IS} (h : GI C q) (h0 : 0 ≤ q.f) (hV : q.s.V.length + q.f.toNat + 1 ≤ C) (hT : q.s.T.length + q.f.toNat + 1 ≤ C) (y : Int) (l : List Tm) (k : Int) (hl : ∀ t ∈ l, validB t = true → Fit q.f.toNat t) :
    GI C (flexF lv L q y l k).2 ∧ (flexF lv L q y l k).2.f ≤ q.f ∧ 0 ≤ (flexF lv L q y l k).2.f := by
  have ha := argsF_ok h.ok y l q.f hl
  unfold flexF
  split
  · exact ⟨h.fail _, by rw [failS_f]; exact Int.le_refl _, by rw [failS_f]; exact h0⟩
  · rename_i he
    have ha2 := ha.2.1 h0 (by simpa using he)
    have hf1 := h.f1
    exact ⟨gi_flexG hC hL h y k _ ha2.1 (by omega) (by omega) (by omega) (by omega), by rw [flexG_f]; omega, by rw [flexG_f]; exact ha2.1⟩
theorem lfP_n {t : Tm} (hb : bd M61 t) (hk : t.k = 3) : -4611686018427387904 ≤ t.n ∧ t.n ≤ 4611686018427387904 := by
  obtain ⟨k, s, n, l⟩ := t
  have hk : k = 3 := hk
  have := hb.1 hk
  simp only [M61] at this
  exact ⟨by show -4611686018427387904 ≤ n; omega, by show n ≤ 4611686018427387904; omega⟩
theorem c_iflex' {C : Nat} (hC : C ≤ 1073741824) {L : List Tm} (hL : LP L) (x : Int) {lv : Int} {q : IS} (h : GI C q) (h0 : 0 ≤ q.f) (hV : q.s.V.length + q.f.toNat + 1 ≤ C) (hT : q.s.T.length + q.f.toNat + 1 ≤ C) (y : Int) (l : List Tm) (k : Int) (hlen : l.length ≤ 100000000) (hl : ∀ t ∈ l, t.sz ≤ B ∧ (validB t = true → Fit q.f.toNat t)) (hk0 : 0 ≤ k) (hk1 : k ≤ 1099511627776) :
    AC Try.prog 89 [aIV, ci y, aL l, ci k] (oIs x lv L q.f q.e q.s) (aT (flexF lv L q y l k).1) (oIt x lv L (flexF lv L q y l k).2.f (flexF lv L q y l k).2.e (flexF lv L q y l k).2.s) := by
  have ha := argsF_ok h.ok y l q.f (fun t ht => (hl t ht).2)
  have hf1 := h.f1
  have hL1 := hL.1
  have hls : (argsF q.s y l q.f).1.length ≤ 900 := by
    by_cases he : (argsF q.s y l q.f).2.2 = 0
    · have := ha.2.1 h0 he; omega
    · rw [ha.2.2 he]; simp
  refine c_iflex x lv L q y l k (by omega) hk0 hk1 (c_iargs q.s h.ok y q.f l (by omega) (by omega) hl) (by omega) (fun t ht => ?_) (fun _ => ?_)
  · exact c_iimage x lv L _ _ _ t k (by omega) (lfP_n (ha.1 t ht).2.2.2.1) hk0 hk1
  · have o := onF_P hL lv (infOf q.s.V y).lv k (argsF q.s y l q.f).1 hls
    have hp := hangT_P (s := q.s) (m := (argsF q.s y l q.f).1.length) (by omega) hls o.1 o.2.2
    exact c_hang q.s y _ _ _ (by omega) (by omega) (by omega) (by omega) (by have := hp.1; simp only [B]; omega) (bd_le (by simp only [M61]; omega) _ hp.2)

end Go.AM

set_option maxRecDepth 100000
open Go Go.Proofs
namespace Go.AM

/-! ### A term, gone through -/
def kidsI (tm : IS → Tm → Tm × IS) : List Tm → IS → List Tm × IS
  | [], q => ([], q)
  | t :: l, q => ((tm q t).1 :: (kidsI tm l (tm q t).2).1, (kidsI tm l (tm q t).2).2)
def termA (lv : Int) (L : List Tm) (tm : IS → Tm → Tm × IS) (q : IS) (h : Tm) (l : List Tm) (k : Int) : Tm × IS :=
  if (h.k = 3 ∨ h.k = 1) ∧ (imgT lv L h k).2 = false then (noT, failS q 170)
  else (applyF (if h.k = 3 ∨ h.k = 1 then (imgT lv L h k).1 else h) (kidsI tm l q).1, (kidsI tm l q).2)
def termS (x lv : Int) (L : List Tm) (tm : IS → Tm → Int → Tm × IS) (q : IS) (h : Tm × List Tm) (k : Int) : Tm × IS :=
  if h.1.k = 5 then (lamsF 1 (tm q (hd h.1.l) (k + 1)).1, (tm q (hd h.1.l) (k + 1)).2)
  else if h.1.k = 4 then (if h.1.n = x then (noT, failS q 170) else flexF lv L q h.1.n h.2 k)
  else termA lv L (fun q t => tm q t k) q h.1 h.2 k
def termH (x lv : Int) (L : List Tm) (tm : IS → Tm → Int → Tm × IS) (q : IS) (z : Tm × Int × Int) (k : Int) : Tm × IS :=
  if z.2.2 ≠ 0 then (noT, failS q z.2.2) else termS x lv L tm ⟨q.s, z.2.1, q.e⟩ (splitF z.1) k
def termF (x lv : Int) (L : List Tm) : Nat → IS → Tm → Int → Tm × IS
  | 0, q, _, _ => if q.e ≠ 0 then (noT, q) else (noT, failS q 80)
  | D + 1, q, t, k => if q.e ≠ 0 then (noT, q) else if q.f ≤ 0 then (noT, failS q 80) else termH x lv L (termF x lv L D) q (headV q.s (q.f - 1) t) k
theorem termF_err (x lv : Int) (L : List Tm) (D : Nat) {q : IS} (t : Tm) (k : Int) (h : q.e ≠ 0) : termF x lv L D q t k = (noT, q) := by
  cases D with
  | zero => rw [termF, if_pos h]
  | succ D => rw [termF, if_pos h]
/-- The parts of what is normal at its head. -/
theorem split_ok {z : Tm} {F : Nat} (hv : validB z = true) (hf : Fit F z) : (validB (splitF z).1 = true ∧ Fit F (splitF z).1) ∧ (∀ t ∈ (splitF z).2, t.sz ≤ SZ ∧ (validB t = true → Fit F t)) ∧ (splitF z).2.length ≤ SZ ∧ ∀ u ∈ (splitF z).1.l, u.sz ≤ SZ ∧ (validB u = true → Fit F u) := by
  have hsz := hf.sz
  have hlen := Tm.szs_length z.l
  have hse := z.sz_eq
  have kids : ∀ w : Tm, Fit F w → ∀ u ∈ w.l, u.sz ≤ SZ ∧ (validB u = true → Fit F u) := fun w hw u hu => ⟨(hw.kid hu).sz, fun _ => hw.kid hu⟩
  unfold splitF
  split
  · rename_i h6
    obtain ⟨k, s, n, l⟩ := z
    have h6k : k = 6 := h6.1
    obtain ⟨x, y, r, rfl, hx6, _⟩ := okB6 (valid_ok _ hv) h6k
    have hx := kid_valid hv (.inr h6k) x List.mem_cons_self
    have hfx : Fit F x := hf.kid (show x ∈ Tm.l (.mk k s n (x :: y :: r)) from List.mem_cons_self)
    refine ⟨⟨hx, hfx⟩, fun t ht => kids _ hf t (List.mem_of_mem_drop ht), ?_, fun u hu => kids x hfx u hu⟩
    simp only [Tm.l, List.length_cons, List.length_drop] at hlen hse ⊢
    omega
  · exact ⟨⟨hv, hf⟩, (fun t h => nomatch h), Nat.zero_le _, fun u hu => kids z hf u hu⟩
section
variable {C : Nat} (hC : C ≤ 1073741824) {L : List Tm} (hL : LP L) (x lv : Int)
include hC hL
omit hC hL in
theorem gi_kids {tm : IS → Tm → Tm × IS} {f0 : Int} (htm : ∀ q t, GI C q → 0 ≤ q.f → q.f ≤ f0 → (q.e = 0 → validB t = true → Fit q.f.toNat t) → GI C (tm q t).2 ∧ (tm q t).2.f ≤ q.f ∧ 0 ≤ (tm q t).2.f) :
    ∀ (l : List Tm) (q : IS), GI C q → 0 ≤ q.f → q.f ≤ f0 → (∀ t ∈ l, validB t = true → Fit q.f.toNat t) → GI C (kidsI tm l q).2 ∧ (kidsI tm l q).2.f ≤ q.f ∧ 0 ≤ (kidsI tm l q).2.f
  | [], q, h, h0, _, _ => ⟨h, Int.le_refl _, h0⟩
  | t :: l, q, h, h0, h1, hl => by
    have a := htm q t h h0 h1 (fun _ => hl t List.mem_cons_self)
    have b := gi_kids htm l (tm q t).2 a.1 a.2.2 (by omega) (fun u hu hv => (hl u (List.mem_cons_of_mem _ hu) hv).mono (by omega))
    exact ⟨b.1, by show (kidsI tm l (tm q t).2).2.f ≤ q.f; omega, b.2.2⟩
theorem gi_term : ∀ (D : Nat) (q : IS) (t : Tm) (k : Int), GI C q → 0 ≤ q.f → (q.e = 0 → validB t = true → Fit q.f.toNat t) → GI C (termF x lv L D q t k).2 ∧ (termF x lv L D q t k).2.f ≤ q.f ∧ 0 ≤ (termF x lv L D q t k).2.f
  | 0, q, t, k, h, h0, _ => by
    rw [termF]
    split
    · exact ⟨h, Int.le_refl _, h0⟩
    · exact ⟨h.fail _, by rw [failS_f]; exact Int.le_refl _, by rw [failS_f]; exact h0⟩
  | D + 1, q, t, k, h, h0, hf => by
    rw [termF]
    have hfl : ∀ e, GI C (failS q e) ∧ (failS q e).f ≤ q.f ∧ 0 ≤ (failS q e).f := fun e => ⟨h.fail _, by rw [failS_f]; exact Int.le_refl _, by rw [failS_f]; exact h0⟩
    split
    · exact ⟨h, Int.le_refl _, h0⟩
    · rename_i he
      have he : q.e = 0 := by simpa using he
      split
      · exact hfl _
      · rename_i hf0
        have hV := h.V
        have hT := h.T
        have hfit : validB t = true → Fit (q.f - 1).toNat t := fun hv => (hf he hv).mono (by omega)
        unfold termH
        split
        · exact hfl _
        · rename_i hz
          have ok := headV_ok h.ok (by omega) hfit (by simpa using hz)
          generalize headV q.s (q.f - 1) t = z at *
          obtain ⟨z1, z2, z3⟩ := z
          simp only at ok ⊢
          obtain ⟨hv, hfz, hz0, hz1⟩ := ok
          have sp := split_ok hv hfz
          have g : GI C ⟨q.s, z2, q.e⟩ := h.less hz0 (by omega)
          have hfl : ∀ e, GI C (failS ⟨q.s, z2, q.e⟩ e) ∧ (failS ⟨q.s, z2, q.e⟩ e).f ≤ q.f ∧ 0 ≤ (failS ⟨q.s, z2, q.e⟩ e).f := fun e => ⟨g.fail _, by rw [failS_f]; simp only; omega, by rw [failS_f]; exact hz0⟩
          have ih := fun q' t' k' => gi_term D q' t' k'
          unfold termS
          split
          · rename_i h5
            have hne : (splitF z1).1.l ≠ [] := fun e => by
              have o := valid_ok _ sp.1.1
              generalize (splitF z1).1 = w at *
              obtain ⟨wk, ws, wn, wl⟩ := w
              obtain ⟨u, hu, _⟩ := okB5 o h5
              rw [hu] at e; cases e
            have hm : hd (splitF z1).1.l ∈ (splitF z1).1.l := by
              cases hl : (splitF z1).1.l with
              | nil => exact absurd hl hne
              | cons a b => exact List.mem_cons_self
            have := ih ⟨q.s, z2, q.e⟩ (hd (splitF z1).1.l) (k + 1) g hz0 (fun _ hv => (sp.2.2.2 _ hm).2 hv)
            simp only at this
            exact ⟨this.1, by simp only; omega, this.2.2⟩
          · split
            · split
              · exact hfl _
              · have := gi_flexF hC hL (lv := lv) g hz0 (by simp only; omega) (by simp only; omega) (splitF z1).1.n (splitF z1).2 k (fun t ht => (sp.2.1 t ht).2)
                simp only at this
                exact ⟨this.1, by omega, this.2.2⟩
            · unfold termA
              split
              · exact hfl _
              · have := gi_kids (tm := fun q t => termF x lv L D q t k) (f0 := z2) (fun q' t' a b _ d => ih q' t' k a b d) (splitF z1).2 ⟨q.s, z2, q.e⟩ g hz0 (Int.le_refl _) (fun t ht => (sp.2.1 t ht).2)
                simp only at this
                exact ⟨this.1, by simp only; omega, this.2.2⟩
end

end Go.AM

set_option maxRecDepth 100000
open Go Go.Proofs
namespace Go.AM

/-! ### A term, gone through: the contract -/
abbrev tmH (x lv : Int) (L : List Tm) (q : IS) (h : Tm) : AHeap := [(0, oIV x lv L q.f q.e), (1, sto2 4 5 q.s), (2, .gone), (3, .gone), (4, .arz 6 (SR q.s.V)), (5, .arz 1 (IR q.s.T)), (6, .arr 4 [zT]), (7, .arr 4 [cT h])]
section
variable {C : Nat} (hC : C ≤ 1073741824) {L : List Tm} (hL : LP L) (x lv : Int)
theorem l_iterm3 {tm : IS → Tm → Tm × IS} {f0 k : Int} (h : Tm) (n : Nat) (hn : n ≤ 100000000) (hhl : h.l.length ≤ 100000000)
    (htm : ∀ q t, GI C q → 0 ≤ q.f → q.f ≤ f0 → (q.e = 0 → validB t = true → Fit q.f.toNat t) → GI C (tm q t).2 ∧ (tm q t).2.f ≤ q.f ∧ 0 ≤ (tm q t).2.f)
    (hk : ∀ q t, GI C q → 0 ≤ q.f → q.f ≤ f0 → t.sz ≤ B → (q.e = 0 → validB t = true → Fit q.f.toNat t) → AC Try.prog 64 [aIV, aT t, ci k] (oIs x lv L q.f q.e q.s) (aT (tm q t).1) (oIt x lv L (tm q t).2.f (tm q t).2.e (tm q t).2.s)) :
    ∀ (b a : List Tm) (q : IS), a.length + b.length = n → GI C q → 0 ≤ q.f → q.f ≤ f0 → (∀ t ∈ b, t.sz ≤ B ∧ (validB t = true → Fit q.f.toNat t)) →
    RPt Try.prog 64 4 (aT (applyF h (a ++ (kidsI tm b q).1))) (oIt x lv L (kidsI tm b q).2.f (kidsI tm b q).2.e (kidsI tm b q).2.s) 3
      ⟨[(0, aIV), (2, ci k), (6, .c (.a (.ep 6 4 0 0))), (9, .c (.a (.ep 7 4 0 0))), (10, .c (.a (.osl 8 4 0 n))), (102, .c (.a (.osl 8 4 0 n))), (103, ci (n : Int)), (104, ci (a.length : Int))], tmH x lv L q h ++ [(8, .arz 4 (FTs (a ++ b)))], 9⟩
  | [], a, q, hl, _, _, _, _ => by
    rw [List.length_nil, Nat.add_zero] at hl
    rw [List.append_nil, show (kidsI tm [] q).1 = [] from rfl, List.append_nil, show (kidsI tm [] q).2 = q from rfl]
    have ha := c_apply h a (by omega)
    obtain ⟨hk', hs, hn', hl'⟩ := h
    refine RPt.vc hP sh lv64 (Eq.mpr (v64_3b ..) ?_)
    refine br_of (fun h => absurd (of_decide_eq_true h) (by omega)) (fun _ => ⟨⟨rfl, by rw [FTs_length]; omega⟩, _, ?_, .refl _, rfl⟩)
    rw [List.drop_zero, List.take_of_length_le (by rw [FTs_length]; omega)]
    exact ha
  | t :: b, a, q, hl, hg, h0, h1, hb => by
    have hlen : (a ++ t :: b).length = n := by simp only [List.length_append, List.length_cons] at hl ⊢; omega
    have h3 := ltI' a t b
    have hbt := hb t List.mem_cons_self
    have ht := htm q t hg h0 h1 (fun _ => hbt.2)
    have hc := hk q t hg h0 h1 hbt.1 (fun _ => hbt.2)
    have next := l_iterm3 h n hn hhl htm hk b (a ++ [(tm q t).1]) (tm q t).2 (by simp only [List.length_append, List.length_cons, List.length_nil] at hl ⊢; omega) ht.1 ht.2.2 (by omega) (fun u hu => ⟨(hb u (List.mem_cons_of_mem _ hu)).1, fun hv => ((hb u (List.mem_cons_of_mem _ hu)).2 hv).mono (by omega)⟩)
    have eK : kidsI tm (t :: b) q = ((tm q t).1 :: (kidsI tm b (tm q t).2).1, (kidsI tm b (tm q t).2).2) := rfl
    rw [eK]
    simp only
    rw [List.append_assoc, show [(tm q t).1] ++ (kidsI tm b (tm q t).2).1 = (tm q t).1 :: (kidsI tm b (tm q t).2).1 from rfl, ap, nx] at next
    simp only [List.length_cons] at hl
    have em := rE_mid a t b
    have hsz : (0 + Int.toNat (a.length : Int)) < (FTs (a ++ t :: b)).length := by omega
    obtain ⟨hk', hs, hn', hl'⟩ := h
    refine RPt.vc hP sh lv64 (Eq.mpr (v64_3b ..) ?_)
    rw [w64 (x := (a.length : Int) + 1) (by omega) (by omega)]
    refine br_of (fun _ => ⟨by omega, ⟨hsz, by rw [Nat.zero_add, em, midI, List.drop_zero, List.take_of_length_le (by rw [FT_length]; exact Nat.le_refl _)], rfl⟩, ((tm q t).1, (tm q t).2.s, x, lv, L, (tm q t).2.f, (tm q t).2.e), ?_, by omega, ⟨hsz, by rw [Nat.zero_add, midI]; exact FT_length t⟩, ?_⟩) (fun h => absurd (of_decide_eq_false h) (by omega))
    · rw [Nat.zero_add, aE_mid]; exact hc
    · rw [set_mid]; exact next
omit hC hL
/-- An error, noted. -/
abbrev FAILP (x lv : Int) (L : List Tm) (q : IS) (er : Int) (r : TV) (Hs' : List AObj) : Prop :=
  ∃ z : Int × Int × List Tm × Int × Int, AC Try.prog 86 [aIV, ci er] (oIs x lv L q.f q.e q.s) (.agg [.a (.fz (.int .i64 0)), .a (.fz (.str [])), .a (.fz (.int .i64 0)), .a (.fz (.sl false 4 []))]) (oIs z.1 z.2.1 z.2.2.1 z.2.2.2.1 z.2.2.2.2 q.s) ∧
    TV.Le (.agg [.a (.fz (.int .i64 0)), .a (.fz (.str [])), .a (.fz (.int .i64 0)), .a (.fz (.sl false 4 []))]) r ∧ oIt z.1 z.2.1 z.2.2.1 z.2.2.2.1 z.2.2.2.2 q.s = Hs'
theorem fail_p (q : IS) (er : Int) : FAILP x lv L q er (aT noT) (oIt x lv L (failS q er).f (failS q er).e (failS q er).s) := by
  have hf := c_ifail x lv L q.f q.e er q.s
  refine ⟨(x, lv, L, q.f, if q.e = 0 then er else q.e), hf, .refl _, ?_⟩
  unfold failS
  split <;> rfl
abbrev IMGP (x lv : Int) (L : List Tm) (q : IS) (h : Tm) (k : Int) (r : TV) (Hs' : List AObj) (R : Tm → Prop) : Prop :=
  ∃ z : Tm × Bool, AC Try.prog 90 [aIV, aT h, ci k] (oIs x lv L q.f q.e q.s) (aLeaf z.1 z.2) (oIs x lv L q.f q.e q.s) ∧ br (!z.2) (FAILP x lv L q 170 r Hs') (R z.1)
abbrev TREE (x lv : Int) (L : List Tm) (q : IS) (h : Tm) (k : Int) (r : TV) (Hs' : List AObj) (F : Prop) (R : Tm → Prop) : Prop :=
  br (h.k == 5) ((FV.isSl 4 (.sl false 4 (FTs h.l)) = true ∧ ((0 : Int) ≤ 0 ∧ ((0 : Int) < (((FTs h.l).length : Nat) : Int) ∧ (rE (List.getD (FTs h.l) 0 []) : List FV) = List.getD (FTs h.l) 0 []))) ∧
    ∃ z : Tm × Sto × Int × Int × List Tm × Int × Int, AC Try.prog 64 [aIV, aE (List.getD (FTs h.l) 0 []), ci (IntKind.wrap .i64 (k + 1))] (oIs x lv L q.f q.e q.s) (aT z.1) (oIt z.2.2.1 z.2.2.2.1 z.2.2.2.2.1 z.2.2.2.2.2.1 z.2.2.2.2.2.2 z.2.1) ∧
      ∃ z6 : Tm, AC Try.prog 43 [ci 1, aT z.1] [] (aT z6) [] ∧ TV.Le (aT z6) r ∧ oIt z.2.2.1 z.2.2.2.1 z.2.2.2.2.1 z.2.2.2.2.2.1 z.2.2.2.2.2.2 z.2.1 = Hs')
  (br (h.k == 4) (br (h.n == x) (FAILP x lv L q 170 r Hs') F) (br (h.k == 3) (IMGP x lv L q h k r Hs' R) (br (h.k == 1) (IMGP x lv L q h k r Hs' R) (R h))))
theorem imgT_l (lv : Int) (L : List Tm) (t : Tm) (k : Int) : (imgT lv L t k).1.l.length ≤ t.l.length := by
  unfold imgT
  split
  · exact Nat.le_refl _
  · split
    · exact Nat.zero_le _
    · exact Nat.le_refl _
theorem tree_p {C : Nat} {tm : IS → Tm → Int → Tm × IS} (hLl : L.length ≤ 100000) (q : IS) (h : Tm × List Tm) (k : Int) (hk0 : 0 ≤ k) (hk1 : k + 1 ≤ 1099511627776) (hv : validB h.1 = true) (hb : bd M61 h.1)
    (ht : h.1.k = 5 → AC Try.prog 64 [aIV, aT (hd h.1.l), ci (k + 1)] (oIs x lv L q.f q.e q.s) (aT (tm q (hd h.1.l) (k + 1)).1) (oIt x lv L (tm q (hd h.1.l) (k + 1)).2.f (tm q (hd h.1.l) (k + 1)).2.e (tm q (hd h.1.l) (k + 1)).2.s))
    (F : Prop) (R : Tm → Prop) (hF : h.1.k = 4 → h.1.n ≠ x → termS x lv L tm q h k = flexF lv L q h.1.n h.2 k → F)
    (hR : ∀ h', h'.l.length ≤ h.1.l.length → termS x lv L tm q h k = (applyF h' (kidsI (fun q t => tm q t k) h.2 q).1, (kidsI (fun q t => tm q t k) h.2 q).2) → R h') :
    TREE x lv L q h.1 k (aT (termS x lv L tm q h k).1) (oIt x lv L (termS x lv L tm q h k).2.f (termS x lv L tm q h k).2.e (termS x lv L tm q h k).2.s) F R := by
  have hT : termS x lv L tm q h k = if h.1.k = 5 then (lamsF 1 (tm q (hd h.1.l) (k + 1)).1, (tm q (hd h.1.l) (k + 1)).2)
    else if h.1.k = 4 then (if h.1.n = x then (noT, failS q 170) else flexF lv L q h.1.n h.2 k) else termA lv L (fun q t => tm q t k) q h.1 h.2 k := rfl
  have hA : termA lv L (fun q t => tm q t k) q h.1 h.2 k = if (h.1.k = 3 ∨ h.1.k = 1) ∧ (imgT lv L h.1 k).2 = false then (noT, failS q 170)
    else (applyF (if h.1.k = 3 ∨ h.1.k = 1 then (imgT lv L h.1 k).1 else h.1) (kidsI (fun q t => tm q t k) h.2 q).1, (kidsI (fun q t => tm q t k) h.2 q).2) := rfl
  have img : h.1.k ≠ 5 → h.1.k ≠ 4 → (h.1.k = 3 ∨ h.1.k = 1) → IMGP x lv L q h.1 k (aT (termS x lv L tm q h k).1) (oIt x lv L (termS x lv L tm q h k).2.f (termS x lv L tm q h k).2.e (termS x lv L tm q h k).2.s) R := fun h5 h4 h31 => by
    rw [if_neg h5, if_neg h4, hA] at hT
    have hi := c_iimage x lv L q.f q.e q.s h.1 k hLl (lfP_n hb) hk0 (by omega)
    refine ⟨imgT lv L h.1 k, hi, br_of (fun c => ?_) (fun c => ?_)⟩
    · have c : (imgT lv L h.1 k).2 = false := by simpa using c
      rw [if_pos ⟨h31, c⟩] at hT
      rw [hT]
      exact fail_p x lv q 170
    · have c : (imgT lv L h.1 k).2 = true := by simpa using c
      rw [if_neg (fun e => by rw [c] at e; cases e.2), if_pos h31] at hT
      exact hR _ (imgT_l lv L h.1 k) hT
  refine br_of (fun h5 => ?_) (fun h5 => br_of (fun h4 => br_of (fun hx => ?_) (fun hx => ?_)) (fun h4 => br_of (fun h3 => ?_) (fun h3 => br_of (fun h1 => ?_) (fun h1 => ?_))))
  · have h5 : h.1.k = 5 := by simpa using h5
    rw [if_pos h5] at hT
    have ht := ht h5
    rw [hT]
    have hne : ∃ u l', h.1.l = u :: l' := by
      have o := valid_ok _ hv
      generalize h.1 = w at *
      obtain ⟨wk, ws, wn, wl⟩ := w
      obtain ⟨u, hu, _⟩ := okB5 o h5
      exact ⟨u, [], hu⟩
    obtain ⟨u, l', hul⟩ := hne
    rw [hul] at ht ⊢
    have hl := c_lams 1 (tm q u (k + 1)).1 (by omega)
    refine ⟨⟨rfl, Int.le_refl _, ltI' [] u l', rE_mid [] u l'⟩, ((tm q u (k + 1)).1, (tm q u (k + 1)).2.s, x, lv, L, (tm q u (k + 1)).2.f, (tm q u (k + 1)).2.e), ?_, _, hl, .refl _, rfl⟩
    rw [show aE (List.getD (FTs (u :: l')) 0 []) = aT u from aE_FT u, w64 (x := k + 1) (by omega) (by omega)]
    exact ht
  · have h5 : h.1.k ≠ 5 := by simpa using h5
    have h4 : h.1.k = 4 := by simpa using h4
    have hx : h.1.n = x := by simpa using hx
    rw [if_neg h5, if_pos h4, if_pos hx] at hT
    rw [hT]
    exact fail_p x lv q 170
  · have h5 : h.1.k ≠ 5 := by simpa using h5
    have h4 : h.1.k = 4 := by simpa using h4
    have hx : h.1.n ≠ x := by simpa using hx
    rw [if_neg h5, if_pos h4, if_neg hx] at hT
    exact hF h4 hx hT
  · exact img (by simpa using h5) (by simpa using h4) (.inl (by simpa using h3))
  · exact img (by simpa using h5) (by simpa using h4) (.inr (by simpa using h1))
  · have h5 : h.1.k ≠ 5 := by simpa using h5
    have h4 : h.1.k ≠ 4 := by simpa using h4
    have h3 : h.1.k ≠ 3 := by simpa using h3
    have h1 : h.1.k ≠ 1 := by simpa using h1
    have hno : ¬ (h.1.k = 3 ∨ h.1.k = 1) := fun e => e.elim h3 h1
    rw [if_neg h5, if_neg h4, hA, if_neg (fun e => hno e.1), if_neg hno] at hT
    exact hR _ (Nat.le_refl _) hT
end
theorem c_iterm {C : Nat} (hC : C ≤ 1073741824) {L : List Tm} (hL : LP L) (x lv : Int) : ∀ (D : Nat) (q : IS) (t : Tm) (k : Int), q.f.toNat ≤ D → GI C q → 0 ≤ q.f → t.sz ≤ B → (q.e = 0 → validB t = true → Fit q.f.toNat t) → 0 ≤ k → k + q.f ≤ 549755813888 →
    AC Try.prog 64 [aIV, aT t, ci k] (oIs x lv L q.f q.e q.s) (aT (termF x lv L D q t k).1) (oIt x lv L (termF x lv L D q t k).2.f (termF x lv L D q t k).2.e (termF x lv L D q t k).2.s)
  | 0, q, t, k, hD, hg, h0, hz, hf, hk0, hk1 => by
    obtain ⟨tk, ts, tn, tl⟩ := t
    refine AC.vc hP sh lv64 (by simp) (by simp [isLive]) (by simp [isLive]) (Eq.mpr (v64 tk ts tn (FTs tl) k ..) ?_)
    rw [termF]
    refine br_of (fun he => ?_) (fun he => br_of (fun hf0 => ?_) (fun hf0 => absurd (of_decide_eq_false hf0) (by omega)))
    · have he : q.e ≠ 0 := by have he : (q.e != 0) = true := he; simpa using he
      rw [if_pos he]; exact ⟨leT (l := []) leNil, rfl⟩
    · have he : q.e = 0 := by have he : (q.e != 0) = false := he; simpa using he
      rw [if_neg (by simp [he])]
      exact fail_p x lv q 80
  | D + 1, q, t, k, hD, hg, h0, hz, hf, hk0, hk1 => by
    have ih := fun q' t' k' => c_iterm hC hL x lv D q' t' k'
    have hL1 := hL.1
    have hf1 := hg.f1
    have hV := hg.V
    have hT := hg.T
    rw [termF]
    by_cases he : q.e ≠ 0
    · rw [if_pos he]
      obtain ⟨tk, ts, tn, tl⟩ := t
      refine AC.vc hP sh lv64 (by simp) (by simp [isLive]) (by simp [isLive]) (Eq.mpr (v64 tk ts tn (FTs tl) k ..) ?_)
      exact br_of (fun _ => ⟨leT (l := []) leNil, rfl⟩) (fun h => absurd (by have h : (q.e != 0) = false := h; simpa using h) he)
    rw [if_neg he]
    have he : q.e = 0 := by simpa using he
    by_cases hf0 : q.f ≤ 0
    · rw [if_pos hf0]
      obtain ⟨tk, ts, tn, tl⟩ := t
      refine AC.vc hP sh lv64 (by simp) (by simp [isLive]) (by simp [isLive]) (Eq.mpr (v64 tk ts tn (FTs tl) k ..) ?_)
      exact br_of (fun h => absurd he (by have h : (q.e != 0) = true := h; simpa using h)) (fun _ => br_of (fun _ => fail_p x lv q 80) (fun h => absurd hf0 (of_decide_eq_false h)))
    rw [if_neg hf0]
    have hfit : validB t = true → Fit (q.f - 1).toNat t := fun hv => (hf he hv).mono (by omega)
    have hh := c_sHead q.s hg.ok (q.f - 1) t (by omega) hz hfit
    have ok := headV_ok hg.ok (t := t) (f := q.f - 1) (by omega) hfit
    have enter : ∀ (r : TV) (Hs' : List AObj), br ((headV q.s (q.f - 1) t).2.2 != 0) (FAILP x lv L q (headV q.s (q.f - 1) t).2.2 r Hs')
        ((∃ z4 : Tm, AC Try.prog 88 [aT (headV q.s (q.f - 1) t).1] [] (.tup [(true, cT z4), (false, [.a (.fz .nils)])]) [] ∧ TREE x lv L ⟨q.s, (headV q.s (q.f - 1) t).2.1, q.e⟩ z4 k r Hs'
            (∃ z8 : Tm × Sto × Int × Int × List Tm × Int × Int, AC Try.prog 89 [aIV, ci z4.n, .c (.a (.fz .nils)), ci k] (oIs x lv L (headV q.s (q.f - 1) t).2.1 q.e q.s) (aT z8.1) (oIt z8.2.2.1 z8.2.2.2.1 z8.2.2.2.2.1 z8.2.2.2.2.2.1 z8.2.2.2.2.2.2 z8.2.1) ∧ TV.Le (aT z8.1) r ∧ oIt z8.2.2.1 z8.2.2.2.1 z8.2.2.2.2.1 z8.2.2.2.2.2.1 z8.2.2.2.2.2.2 z8.2.1 = Hs')
            (fun h' => FV.isSl 4 .nils = true ∧ RPt Try.prog 64 4 r Hs' 3 ⟨[(0, aIV), (2, ci k), (6, .c (.a (.ep 6 4 0 0))), (9, .c (.a (.ep 7 4 0 0))), (10, .c (.a (.fz .nils))), (102, .c (.a (.fz .nils))), (103, ci 0), (104, ci 0)], tmH x lv L ⟨q.s, (headV q.s (q.f - 1) t).2.1, q.e⟩ h', 8⟩)) ∨
         (∃ z13 : Tm × List Tm, AC Try.prog 88 [aT (headV q.s (q.f - 1) t).1] [] (.tup [(true, cT z13.1), (false, [.a (.osl 0 4 0 z13.2.length)])]) [.arz 4 (FTs z13.2)] ∧ TREE x lv L ⟨q.s, (headV q.s (q.f - 1) t).2.1, q.e⟩ z13.1 k r Hs'
            (((4 : Nat) = 4 ∧ (0 + z13.2.length) ≤ (FTs z13.2).length) ∧ ∃ z8 : Tm × Sto × Int × Int × List Tm × Int × Int, AC Try.prog 89 [aIV, ci z13.1.n, .c (.a (.fz (.sl false 4 (List.take z13.2.length (List.drop 0 (FTs z13.2)))))), ci k] (oIs x lv L (headV q.s (q.f - 1) t).2.1 q.e q.s) (aT z8.1) (oIt z8.2.2.1 z8.2.2.2.1 z8.2.2.2.2.1 z8.2.2.2.2.2.1 z8.2.2.2.2.2.2 z8.2.1) ∧ TV.Le (aT z8.1) r ∧ oIt z8.2.2.1 z8.2.2.2.1 z8.2.2.2.2.1 z8.2.2.2.2.2.1 z8.2.2.2.2.2.2 z8.2.1 = Hs')
            (fun h' => RPt Try.prog 64 4 r Hs' 3 ⟨[(0, aIV), (2, ci k), (6, .c (.a (.ep 6 4 0 0))), (9, .c (.a (.ep 7 4 0 0))), (10, .c (.a (.osl 8 4 0 z13.2.length))), (102, .c (.a (.osl 8 4 0 z13.2.length))), (103, ci (z13.2.length : Int)), (104, ci 0)], tmH x lv L ⟨q.s, (headV q.s (q.f - 1) t).2.1, q.e⟩ h' ++ [(8, .arz 4 (FTs z13.2))], 9⟩))) →
        Hs'.length = 6 → (∀ o ∈ Hs'.drop 4, isLive o) → AC Try.prog 64 [aIV, aT t, ci k] (oIs x lv L q.f q.e q.s) r Hs' := fun r Hs' hb hl hlv => by
      obtain ⟨tk, ts, tn, tl⟩ := t
      refine AC.vc hP sh lv64 (by simp [hl]) (by simp [isLive]) hlv (Eq.mpr (v64 tk ts tn (FTs tl) k ..) ?_)
      rw [w64 (x := q.f - 1) (by omega) (by omega)]
      exact br_of (fun h => absurd he (by have h : (q.e != 0) = true := h; simpa using h)) (fun _ => br_of (fun h => absurd (of_decide_eq_true h) hf0) (fun _ => ⟨_, hh, hb⟩))
    refine enter _ _ ?_ rfl (by simp [isLive])
    have eH : ∀ z : Tm × Int × Int, termH x lv L (termF x lv L D) q z k = if z.2.2 ≠ 0 then (noT, failS q z.2.2) else termS x lv L (termF x lv L D) ⟨q.s, z.2.1, q.e⟩ (splitF z.1) k := fun z => rfl
    rw [eH]
    clear enter hh
    generalize headV q.s (q.f - 1) t = z at *
    obtain ⟨z1, z2, z3⟩ := z
    simp only at ok ⊢
    refine br_of (fun h3 => ?_) (fun h3 => ?_)
    · have h3 : z3 ≠ 0 := by have h3 : (z3 != 0) = true := h3; simpa using h3
      rw [if_pos h3]
      exact fail_p x lv q z3
    have h3 : z3 = 0 := by have h3 : (z3 != 0) = false := h3; simpa using h3
    subst h3
    rw [if_neg (by simp)]
    obtain ⟨hv, hfz, hz0, hz1⟩ := ok rfl
    have sp := split_ok hv hfz
    have g : GI C ⟨q.s, z2, q.e⟩ := hg.less hz0 (by omega)
    have hzs := hfz.sz
    have hkids := fun q' t' (a : GI C q') (b : 0 ≤ q'.f) (c : q'.f ≤ z2) (d : t'.sz ≤ B) e => ih q' t' k (by omega) a b d e hk0 (by omega)
    have htm := fun q' t' (a : GI C q') (b : 0 ≤ q'.f) (_ : q'.f ≤ z2) e => gi_term hC hL x lv D q' t' k a b e
    have hlam : (splitF z1).1.k = 5 → AC Try.prog 64 [aIV, aT (hd (splitF z1).1.l), ci (k + 1)] (oIs x lv L z2 q.e q.s) (aT (termF x lv L D ⟨q.s, z2, q.e⟩ (hd (splitF z1).1.l) (k + 1)).1) (oIt x lv L (termF x lv L D ⟨q.s, z2, q.e⟩ (hd (splitF z1).1.l) (k + 1)).2.f (termF x lv L D ⟨q.s, z2, q.e⟩ (hd (splitF z1).1.l) (k + 1)).2.e (termF x lv L D ⟨q.s, z2, q.e⟩ (hd (splitF z1).1.l) (k + 1)).2.s) := fun h5 => by
      have hm : hd (splitF z1).1.l ∈ (splitF z1).1.l := by
        have o := valid_ok _ sp.1.1
        generalize (splitF z1).1 = w at *
        obtain ⟨wk, ws, wn, wl⟩ := w
        obtain ⟨u, hu, _⟩ := okB5 o h5
        have hu : wl = [u] := hu
        subst hu
        exact List.mem_cons_self
      have := sp.2.2.2 _ hm
      exact ih ⟨q.s, z2, q.e⟩ _ (k + 1) (by simp only; omega) g hz0 (by have := this.1; simp only [SZ, B] at *; omega) (fun _ => this.2) (by omega) (by simp only; omega)
    by_cases h6 : z1.k = 6 ∧ validB z1 = true
    · have esp : splitF z1 = (hd z1.l, z1.l.drop 1) := if_pos h6
      have hcs := c_csplitO z1 (by simp only [SZ, B] at *; omega) h6.1 h6.2
      rw [esp] at sp hlam ⊢
      simp only at sp hlam
      refine .inr ⟨(hd z1.l, z1.l.drop 1), hcs, tree_p (C := C) x lv (by omega) ⟨q.s, z2, q.e⟩ (hd z1.l, z1.l.drop 1) k hk0 (by omega) sp.1.1 sp.1.2.bd hlam _ _ (fun h4 hx hs => ?_) (fun h' hle hs => ?_)⟩
      · rw [hs]
        have hc := c_iflex' hC hL x (lv := lv) g hz0 (by simp only; omega) (by simp only; omega) (hd z1.l).n (z1.l.drop 1) k (by have := sp.2.2.1; simp only [SZ] at this; omega) (fun t ht => ⟨by have := (sp.2.1 t ht).1; simp only [SZ, B] at *; omega, (sp.2.1 t ht).2⟩) hk0 (by omega)
        refine ⟨⟨by trivial, by rw [FTs_length]; omega⟩, ((flexF lv L ⟨q.s, z2, q.e⟩ (hd z1.l).n (z1.l.drop 1) k).1, (flexF lv L ⟨q.s, z2, q.e⟩ (hd z1.l).n (z1.l.drop 1) k).2.s, x, lv, L, (flexF lv L ⟨q.s, z2, q.e⟩ (hd z1.l).n (z1.l.drop 1) k).2.f, (flexF lv L ⟨q.s, z2, q.e⟩ (hd z1.l).n (z1.l.drop 1) k).2.e), ?_, .refl _, rfl⟩
        rw [List.drop_zero, List.take_of_length_le (by rw [FTs_length]; exact Nat.le_refl _)]
        exact hc
      · rw [hs]
        have hh' : h'.l.length ≤ 100000000 := by
          have h1 := sp.1.2.sz
          have h2 := (hd z1.l).sz_eq
          have h3 := Tm.szs_length (hd z1.l).l
          have hle : h'.l.length ≤ (hd z1.l).l.length := hle
          simp only [SZ] at h1; omega
        exact l_iterm3 (C := C) x lv h' (z1.l.drop 1).length (by have := sp.2.2.1; simp only [SZ] at this; omega) hh' htm hkids (z1.l.drop 1) [] ⟨q.s, z2, q.e⟩ (by simp) g hz0 (Int.le_refl _) (fun t ht => ⟨by have := (sp.2.1 t ht).1; simp only [SZ, B] at *; omega, (sp.2.1 t ht).2⟩)
    · have esp : splitF z1 = (z1, []) := if_neg h6
      have hcs := c_csplitN z1 (by simp only [SZ, B] at *; omega) h6
      rw [esp] at sp hlam ⊢
      simp only at sp hlam
      refine .inl ⟨z1, hcs, tree_p (C := C) x lv (by omega) ⟨q.s, z2, q.e⟩ (z1, []) k hk0 (by omega) sp.1.1 sp.1.2.bd hlam _ _ (fun h4 hx hs => ?_) (fun h' hle hs => ?_)⟩
      · rw [hs]
        have hc := c_iflex' hC hL x (lv := lv) g hz0 (by simp only; omega) (by simp only; omega) z1.n [] k (by simp) (fun t ht => nomatch ht) hk0 (by omega)
        exact ⟨((flexF lv L ⟨q.s, z2, q.e⟩ z1.n [] k).1, (flexF lv L ⟨q.s, z2, q.e⟩ z1.n [] k).2.s, x, lv, L, (flexF lv L ⟨q.s, z2, q.e⟩ z1.n [] k).2.f, (flexF lv L ⟨q.s, z2, q.e⟩ z1.n [] k).2.e), hc.args ⟨.refl _, .refl _, .c _ _ (.a _ _ (.fz _ _ leNil)), .refl _, trivial⟩, .refl _, rfl⟩
      · rw [hs]
        have hle : h'.l.length ≤ z1.l.length := hle
        have ha := c_apply h' [] (by have h1 := sp.1.2.sz; have h2 := z1.sz_eq; have h3 := Tm.szs_length z1.l; simp only [SZ, List.length_nil] at *; omega)
        refine ⟨rfl, ?_⟩
        obtain ⟨hk', hs', hn', hl'⟩ := h'
        refine RPt.vc hP sh lv64 (Eq.mpr (v64_3a ..) ?_)
        exact br_of (fun h => by cases h) (fun _ => ⟨_, ha.args ⟨.refl _, .c _ _ (.a _ _ (.fz _ _ leNil)), trivial⟩, .refl _, rfl⟩)

end Go.AM

set_option maxRecDepth 100000
open Go Go.Proofs
namespace Go.AM

/-! ### What a variable must stand for -/
def leafOk (t : Tm) : Bool := validB t && (t.k == 3 || t.k == 1)
theorem c_ileaf (t : Tm) (hz : t.sz ≤ B) : AC Try.prog 63 [aT t] [] (cb (leafOk t)) [] := by
  have hv := c_valid t hz
  have e : leafOk t = (validB t && (t.k == 3 || t.k == 1)) := rfl
  rw [e]
  generalize validB t = v at *
  obtain ⟨k, s, n, l⟩ := t
  refine AC.vc hP sh lv63 (Nat.le_refl _) (by simp) (by simp) (Eq.mpr (v63 k s n (FTs l) ..) ?_)
  refine ⟨_, hv, br_of (fun h => br_of (fun h3 => ?_) (fun h3 => ?_)) (fun h => ?_)⟩
  · have h3 : (k == 3) = true := h3
    rw [h, show ((Tm.mk k s n l).k == 3) = true from h3]; exact ret_b rfl
  · have h3 : (k == 3) = false := h3
    rw [h, show ((Tm.mk k s n l).k == 3) = false from h3]; exact ret_b rfl
  · rw [h]; exact ret_b rfl
theorem c_invert1 (t : Tm) (hz : t.sz ≤ B) : AC Try.prog 62 [aT t] [] (cb (!leafOk t)) [] := by
  have h := c_ileaf t hz
  obtain ⟨k, s, n, l⟩ := t
  refine AC.vc hP sh lv62 (Nat.le_refl _) (by simp) (by simp) (Eq.mpr (v62 k s n (FTs l) ..) ?_)
  exact ⟨_, h, ret_b rfl⟩
def invertF (s : Sto) (x : Int) (l : List Tm) (t : Tm) (f : Int) : (Tm × Int × Int) × Sto :=
  if (!inB s.V x || (infOf s.V x).bd || !validB t || l.any fun u => !leafOk u) = true then ((noT, 0, 1), s)
  else if (termF x (infOf s.V x).lv l f.toNat ⟨s, f, 0⟩ t 0).2.e ≠ 0 then ((noT, 0, (termF x (infOf s.V x).lv l f.toNat ⟨s, f, 0⟩ t 0).2.e), (termF x (infOf s.V x).lv l f.toNat ⟨s, f, 0⟩ t 0).2.s)
  else ((lamsF l.length (termF x (infOf s.V x).lv l f.toNat ⟨s, f, 0⟩ t 0).1, (termF x (infOf s.V x).lv l f.toNat ⟨s, f, 0⟩ t 0).2.f, 0), (termF x (infOf s.V x).lv l f.toNat ⟨s, f, 0⟩ t 0).2.s)
theorem leafOk_one {t : Tm} (h : leafOk t = true) : t.sz = 1 ∧ (t.k = 3 ∨ t.k = 1) ∧ t.l = [] := by
  simp only [leafOk, Bool.and_eq_true, Bool.or_eq_true, beq_iff_eq] at h
  obtain ⟨k, s, n, l⟩ := t
  have hk : k = 3 ∨ k = 1 := h.2
  have : l = [] := okB0 (valid_ok _ h.1) (by omega) (by omega)
  subst this
  exact ⟨rfl, hk, rfl⟩
theorem c_iinvert {C : Nat} (hC : C ≤ 1073741824) (s : Sto) (x : Int) (l : List Tm) (t : Tm) (f : Int) (h0 : 0 ≤ f) (hf : f ≤ 900) (hs : OKS s) (hV : s.V.length + f.toNat ≤ C) (hT : s.T.length + f.toNat ≤ C)
    (hl : l.length ≤ 900) (hlz : ∀ u ∈ l, u.sz ≤ B ∧ bd 2199023255552 u) (hz : t.sz ≤ B) (hfit : validB t = true → Fit f.toNat t) :
    AC Try.prog 37 [aS 0, ci x, aL l, aT t, ci f] (oS s) (aHd (invertF s x l t f).1) (oS' (invertF s x l t f).2) := by
  have hI := c_sinfo s x
  have ho := c_iodd t hz
  have ha := c_anyinvert1 (fun u => !leafOk u) l (by simp only [B]; omega) (fun u hu => c_invert1 u (hlz u hu).1)
  have eF : invertF s x l t f = if (!inB s.V x || (infOf s.V x).bd || !validB t || l.any fun u => !leafOk u) = true then ((noT, 0, 1), s)
    else if (termF x (infOf s.V x).lv l f.toNat ⟨s, f, 0⟩ t 0).2.e ≠ 0 then ((noT, 0, (termF x (infOf s.V x).lv l f.toNat ⟨s, f, 0⟩ t 0).2.e), (termF x (infOf s.V x).lv l f.toNat ⟨s, f, 0⟩ t 0).2.s)
    else ((lamsF l.length (termF x (infOf s.V x).lv l f.toNat ⟨s, f, 0⟩ t 0).1, (termF x (infOf s.V x).lv l f.toNat ⟨s, f, 0⟩ t 0).2.f, 0), (termF x (infOf s.V x).lv l f.toNat ⟨s, f, 0⟩ t 0).2.s) := rfl
  have hterm : (l.any fun u => !leafOk u) = false → AC Try.prog 64 [aIV, aT t, ci 0] (oIs x (infOf s.V x).lv l f 0 s) (aT (termF x (infOf s.V x).lv l f.toNat ⟨s, f, 0⟩ t 0).1) (oIt x (infOf s.V x).lv l (termF x (infOf s.V x).lv l f.toNat ⟨s, f, 0⟩ t 0).2.f (termF x (infOf s.V x).lv l f.toNat ⟨s, f, 0⟩ t 0).2.e (termF x (infOf s.V x).lv l f.toNat ⟨s, f, 0⟩ t 0).2.s) := fun h => by
    have hL : LP l := ⟨hl, fun u hu => ⟨(leafOk_one (by have := List.any_eq_false.1 h u hu; simpa using this)).1, (hlz u hu).2⟩⟩
    exact c_iterm hC hL x (infOf s.V x).lv f.toNat ⟨s, f, 0⟩ t 0 (Nat.le_refl _) ⟨hs, hV, hT, by simp only; omega, hf⟩ h0 hz (fun _ => hfit) (Int.le_refl _) (by simp only; omega)
  rw [eF]
  generalize infOf s.V x = i at *
  generalize inB s.V x = ib at *
  generalize (l.any fun u => !leafOk u) = an at *
  obtain ⟨ilv, ibd, iv⟩ := i
  simp only at hterm ⊢
  generalize termF x ilv l f.toNat ⟨s, f, 0⟩ t 0 = w at *
  obtain ⟨w1, ws, wf, we⟩ := w
  simp only at hterm ⊢
  generalize validB t = vt at *
  have bad : (!ib || ibd || !vt || an) = true → (TV.Le (.tup [(true, [.a (.fz (.int .i64 0)), .a (.fz (.str [])), .a (.fz (.int .i64 0)), .a (.fz .nils)]), (false, [.a (.fz (.int .i64 0))]), (false, [.a (.fz (.int .i64 1))])]) (aHd (if (!ib || ibd || !vt || an) = true then ((noT, 0, 1), s) else if we ≠ 0 then ((noT, 0, we), ws) else ((lamsF l.length w1, wf, 0), ws)).1) ∧ oS' s = oS' (if (!ib || ibd || !vt || an) = true then ((noT, 0, 1), s) else if we ≠ 0 then ((noT, 0, we), ws) else ((lamsF l.length w1, wf, 0), ws)).2) := fun h => by
    rw [if_pos h]; exact ⟨leHd (l := []) leNil, rfl⟩
  obtain ⟨tk, ts, tn, tl⟩ := t
  refine AC.vc hP sh lv37 (by simp) (by simp [isLive]) (by simp [isLive]) (Eq.mpr (v37 x (FTs l) tk ts tn (FTs tl) f ..) ?_)
  refine ⟨(ilv, ibd, iv, ib), hI, br_of (fun h => bad ?_) (fun h => br_of (fun h2 => bad ?_) (fun h2 => ⟨_, ho, br_of (fun h3 => bad ?_) (fun h3 => ⟨_, ha, br_of (fun h4 => bad ?_) (fun h4 => ?_)⟩)⟩))⟩
  · have h : (!ib) = true := h
    rw [h]; rfl
  · have h2 : ibd = true := h2
    rw [h2, Bool.or_true]; rfl
  · rw [h3, Bool.or_true]; rfl
  · have h4 : an = true := h4
    rw [h4, Bool.or_true]
  · have h : (!ib) = false := h
    have h2 : ibd = false := h2
    have h4 : an = false := h4
    rw [h, h2, h3, h4, if_neg (by simp)]
    refine ⟨(w1, ws, x, ilv, l, wf, we), hterm h4, br_of (fun he => ?_) (fun he => ⟨rfl, ?_⟩)⟩
    · have he : we ≠ 0 := by have he : (we != 0) = true := he; simpa using he
      rw [if_pos he]; exact ⟨leHd (l := []) leNil, rfl⟩
    · have he : we = 0 := by have he : (we != 0) = false := he; simpa using he
      rw [if_neg (by simp [he]), FTs_length]
      exact ⟨_, c_lams l.length w1 (by omega), .refl _, rfl⟩

end Go.AM

set_option maxRecDepth 100000
open Go Go.Proofs
namespace Go.AM

/-! ### Which variables there are in a term -/
mutual
def vP (p : Int → Bool) : Tm → Bool
  | .mk k _ n l => (k != 4 || p n) && vPL p l
def vPL (p : Int → Bool) : List Tm → Bool
  | [] => true
  | t :: l => vP p t && vPL p l
end
section
variable {p : Int → Bool}
theorem vPL_iff : ∀ {l : List Tm}, vPL p l = true ↔ ∀ t ∈ l, vP p t = true
  | [] => ⟨fun _ t h => (by cases h), fun _ => rfl⟩
  | t :: l => by
    rw [vPL, Bool.and_eq_true, vPL_iff (l := l)]
    exact ⟨fun h u hu => (List.mem_cons.1 hu).elim (fun e => e ▸ h.1) (h.2 u), fun h => ⟨h t List.mem_cons_self, fun u hu => h u (List.mem_cons_of_mem _ hu)⟩⟩
theorem vP_kid {t u : Tm} (h : vP p t = true) (hu : u ∈ t.l) : vP p u = true := by
  obtain ⟨k, s, n, l⟩ := t
  rw [vP, Bool.and_eq_true] at h
  exact vPL_iff.1 h.2 u hu
theorem vP_var {t : Tm} (h : vP p t = true) (hk : t.k = 4) : p t.n = true := by
  obtain ⟨k, s, n, l⟩ := t
  have hk : k = 4 := hk
  subst hk
  rw [vP, Bool.and_eq_true] at h
  show p n = true
  simpa using h.1
theorem vP_node {k n : Int} {s : List UInt8} {l : List Tm} (hk : k ≠ 4) (h : ∀ t ∈ l, vP p t = true) : vP p (.mk k s n l) = true := by
  rw [vP, vPL_iff.2 h]; simp [hk]
theorem vP_same {k n m : Int} {s s' : List UInt8} {l : List Tm} (hk : k ≠ 4) (h : vP p (.mk k s n l) = true) : vP p (.mk k s' m l) = true := by
  rw [vP, Bool.and_eq_true] at h ⊢
  exact ⟨by simp [hk], h.2⟩
theorem applyF_vP {f : Tm} {l : List Tm} (hf : vP p f = true) (hl : ∀ t ∈ l, vP p t = true) : vP p (applyF f l) = true := by
  cases l with
  | nil => exact hf
  | cons x a =>
    by_cases h : (f.k == 6) = true ∧ f.l ≠ []
    · rw [show applyF f (x :: a) = .mk 6 [] 0 (f.l ++ (x :: a)) from if_pos h]
      exact vP_node (by omega) fun t ht => (List.mem_append.1 ht).elim (vP_kid hf) (hl t)
    · rw [show applyF f (x :: a) = .mk 6 [] 0 (f :: (x :: a)) from if_neg h]
      exact vP_node (by omega) fun t ht => (List.mem_cons.1 ht).elim (fun e => e ▸ hf) (hl t)
theorem hd_mem {l : List Tm} (h : l ≠ []) : hd l ∈ l := by
  cases l with
  | nil => exact absurd rfl h
  | cons a b => exact List.mem_cons_self
theorem hd_vP {l : List Tm} (h : ∀ t ∈ l, vP p t = true) : vP p (hd l) = true := by
  cases l with
  | nil => rfl
  | cons a b => exact h _ List.mem_cons_self
theorem withF_vP {t : Tm} {out : List Tm} (hk : t.k = 5 ∨ t.k = 6) (h : ∀ u ∈ out, vP p u = true) : vP p (withF t out) = true := by
  unfold withF
  split
  · exact applyF_vP (show vP p (hd out) = true from hd_vP h) fun u hu => h u (List.mem_of_mem_tail hu)
  · exact vP_node (by omega) h
mutual
theorem walk_vP {lf : Tm → Int → Tm} (hlf : ∀ t d, vP p t = true → vP p (lf t d) = true) : ∀ (t : Tm) (d : Int), vP p t = true → vP p (walkF lf t d) = true
  | .mk k s n l, d, h => by
    rw [walkF]
    split
    · rename_i hk
      have hk : k = 5 ∨ k = 6 := by simpa using hk
      rw [vP, Bool.and_eq_true] at h
      exact withF_vP hk (vPL_iff.1 (walkL_vP hlf l _ h.2))
    · exact hlf _ _ h
theorem walkL_vP {lf : Tm → Int → Tm} (hlf : ∀ t d, vP p t = true → vP p (lf t d) = true) : ∀ (l : List Tm) (d : Int), vPL p l = true → vPL p (walkL lf l d) = true
  | [], _, _ => rfl
  | t :: l, d, h => by
    rw [vPL, Bool.and_eq_true] at h
    rw [walkL, vPL, walk_vP hlf t d h.1, walkL_vP hlf l d h.2]; rfl
end
theorem sh_vP (fr by_ : Int) (t : Tm) (d : Int) (h : vP p t = true) : vP p (shT fr by_ t d) = true := by
  refine walk_vP (fun u d hu => ?_) t d h
  unfold shLeaf
  split
  · rename_i hk
    obtain ⟨k, s, n, l⟩ := u
    have hk1 : (k == 3) = true := hk.1
    have hk : k = 3 := by simpa using hk1
    subst hk
    exact vP_same (k := 3) (by decide) hu
  · exact hu
theorem su_vP (i : Int) (c t : Tm) (d : Int) (hc : vP p c = true) (h : vP p t = true) : vP p (suT i c t d) = true := by
  refine walk_vP (fun u d hu => ?_) t d h
  unfold suLeaf
  split
  · rename_i hk
    split
    · exact hu
    · split
      · exact sh_vP 0 d c 0 hc
      · obtain ⟨k, s, n, l⟩ := u
        have hk1 : (k == 3) = true := hk
        have hk : k = 3 := by simpa using hk1
        subst hk
        exact vP_same (k := 3) (by decide) hu
  · exact hu
theorem con_vP {b a : Tm} (hb : vP p b = true) (ha : vP p a = true) : vP p (conF b a) = true := by
  unfold conF
  split
  · exact su_vP 0 a b 0 ha hb
  · rfl
/-- What is bound has only such variables. -/
def SV (p : Int → Bool) (s : Sto) : Prop := ∀ i ∈ s.V, i.bd = true → vP p i.v = true
theorem SV.val {s : Sto} (h : SV p s) {t : Tm} (hb : valB s t = true) : vP p (valS s t) = true := by
  simp only [valB, Bool.and_eq_true] at hb
  by_cases q : 0 ≤ t.n ∧ t.n < (s.V.length : Int)
  · obtain ⟨hl, e⟩ := infOf_in q.1 q.2
    rw [valS, e]
    rw [e] at hb
    exact h _ (List.getElem_mem hl) hb.2
  · rw [infOf_out q] at hb; simp [noI] at hb
theorem step_vP {s : Sto} (h : SV p s) {t : Tm} (ht : vP p t = true) : vP p (stepS s t).1 = true := by
  unfold stepS
  split
  · rename_i q; exact h.val q
  · split
    · exact ht
    · split
      · rename_i q
        exact applyF_vP (h.val q) fun u hu => vP_kid ht (List.mem_of_mem_drop hu)
      · split
        · exact ht
        · refine applyF_vP (con_vP (hd_vP fun u hu => ?_) (hd_vP fun u hu => vP_kid ht (List.mem_of_mem_drop hu))) fun u hu => vP_kid ht (List.mem_of_mem_drop hu)
          have hh : vP p (hd t.l) = true := hd_vP fun u hu => vP_kid ht hu
          exact vP_kid hh hu
theorem runH_vP {s : Sto} (h : SV p s) : ∀ (F : Nat) (t : Tm), vP p t = true → vP p (runH s F t).1 = true
  | 0, t, ht => by
    rw [runH]
    split
    · exact ht
    · rfl
  | F + 1, t, ht => by
    rw [runH]
    split
    · exact ht
    · split
      · rfl
      · exact runH_vP h F _ (step_vP h ht)
theorem headV_vP {s : Sto} (h : SV p s) {f : Int} {t : Tm} (ht : vP p t = true) : vP p (headV s f t).1 = true := by
  unfold headV
  split
  · split
    · exact runH_vP h _ t ht
    · rfl
  · rfl
theorem split_vP {t : Tm} (ht : vP p t = true) : vP p (splitF t).1 = true ∧ ∀ u ∈ (splitF t).2, vP p u = true := by
  unfold splitF
  split
  · exact ⟨hd_vP fun u hu => vP_kid ht hu, fun u hu => vP_kid ht (List.mem_of_mem_drop hu)⟩
  · exact ⟨ht, fun u hu => nomatch hu⟩
end

end Go.AM

set_option maxRecDepth 100000
open Go Go.Proofs
namespace Go.AM

/-! ### What an inversion leaves as it was -/
theorem infOf_fresh {s : Sto} {lv i : Int} (h0 : 0 ≤ i) (h1 : i < (s.V.length : Int)) : infOf (freshS s lv).V i = infOf s.V i := by
  obtain ⟨hl, e⟩ := infOf_in h0 h1
  obtain ⟨hl', e'⟩ := infOf_in (V := (freshS s lv).V) h0 (by simp [freshS]; omega)
  rw [e, e']
  exact List.getElem_append_left hl
theorem infOf_bind {s : Sto} {y i : Int} {t : Tm} (h0 : 0 ≤ i) (h1 : i < (s.V.length : Int)) : infOf (bindS s y t).V i = infOf s.V i ∨ (i = y ∧ infOf (bindS s y t).V i = ⟨(infOf s.V y).lv, true, t⟩) := by
  by_cases q : bindB s y t = true
  · have hy := bindB_in q
    obtain ⟨hl, e⟩ := infOf_in h0 h1
    obtain ⟨hl', e'⟩ := infOf_in (V := (bindS s y t).V) h0 (by rw [bindV_length]; exact h1)
    by_cases hiy : i = y
    · right
      refine ⟨hiy, ?_⟩
      subst hiy
      rw [e']
      simp only [(bind_yes q).1, List.getElem_set_self]
    · left
      rw [e, e']
      simp only [(bind_yes q).1]
      rw [List.getElem_set_ne (by omega)]
  · left; rw [(bind_no (by simpa using q)).1]
theorem lams_vP {p : Int → Bool} : ∀ (n : Nat) {t : Tm}, vP p t = true → vP p (lamsF n t) = true
  | 0, _, h => h
  | n + 1, t, h => by
    rw [lamsF]
    exact lams_vP n (vP_node (k := 5) (by decide) fun u hu => by simp at hu; subst hu; exact h)
/-- The first m variables: their levels; which of them are bound; what is bound. -/
structure OI (p : Int → Bool) (x : Int) (m : Nat) (lv0 : Int → Int) (s : Sto) : Prop where
  len : m ≤ s.V.length
  lvl : ∀ i : Int, 0 ≤ i → i < (m : Int) → (infOf s.V i).lv = lv0 i
  bnd : ∀ i : Int, 0 ≤ i → i < (m : Int) → (infOf s.V i).bd = true → p i = true ∧ i ≠ x
  sv : SV p s
section
variable {p : Int → Bool} {x : Int} {m : Nat} {lv0 : Int → Int} (hp : ∀ i : Int, (m : Int) ≤ i → p i = true)
include hp
theorem OI.hang {s : Sto} (h : OI p x m lv0 s) {y : Int} (hy : p y = true) (hx : y ≠ x) (lv : Int) (k : Nat) {on : List Tm} (ho : ∀ t ∈ on, vP p t = true) : OI p x m lv0 (hangS s y lv k on) := by
  have hl := h.len
  have ht : vP p (hangT s k on) = true := lams_vP _ (applyF_vP (by
    rw [vP, vPL, hp _ (by omega)]; rfl) ho)
  have key : ∀ i : Int, 0 ≤ i → i < (m : Int) → infOf (hangS s y lv k on).V i = infOf s.V i ∨ (i = y ∧ infOf (hangS s y lv k on).V i = ⟨(infOf s.V y).lv, true, hangT s k on⟩) := fun i h0 h1 => by
    have hf : infOf (freshS s lv).V i = infOf s.V i := infOf_fresh h0 (by omega)
    have := infOf_bind (s := freshS s lv) (y := y) (t := hangT s k on) h0 (by simp [freshS]; omega)
    rw [hf] at this
    rcases this with h2 | ⟨h2, h3⟩
    · exact .inl h2
    · subst h2; rw [hf] at h3; exact .inr ⟨rfl, h3⟩
  refine ⟨by rw [hangS, bindV_length, (freshV s lv).1]; omega, fun i h0 h1 => ?_, fun i h0 h1 hb => ?_, fun i hi hb => ?_⟩
  · rcases key i h0 h1 with h2 | ⟨h2, h3⟩
    · rw [h2]; exact h.lvl i h0 h1
    · rw [h3, ← h2]; exact h.lvl i h0 h1
  · rcases key i h0 h1 with h2 | ⟨h2, h3⟩
    · rw [h2] at hb; exact h.bnd i h0 h1 hb
    · rw [h2]; exact ⟨hy, hx⟩
  · have sv : SV p (freshS s lv) := fun i hi hb => by
      rcases List.mem_append.1 hi with hi | hi
      · exact h.sv i hi hb
      · simp at hi; subst hi; cases hb
    by_cases q : bindB (freshS s lv) y (hangT s k on) = true
    · rw [hangS, (bind_yes q).1] at hi
      rcases List.mem_or_eq_of_mem_set hi with hi | rfl
      · exact sv i hi hb
      · exact ht
    · rw [hangS, (bind_no (by simpa using q)).1] at hi
      exact sv i hi hb
omit hp in
theorem imgs_vP (lv : Int) (L : List Tm) (k : Int) (n : Nat) : ∀ (l : List Tm) (i : Nat) (a : List Tm × List Tm), (∀ t ∈ a.1, vP p t = true) → ∀ t ∈ (imgs lv L k n l i a).1, vP p t = true
  | [], _, _, h => h
  | t :: l, i, a, h => by
    rw [imgs]
    refine imgs_vP lv L k n l (i + 1) _ ?_
    split
    · intro u hu
      rcases List.mem_append.1 hu with hu | hu
      · exact h u hu
      · simp at hu; subst hu; rfl
    · exact h
omit hp in
theorem moreF_vP (c : Bool) (lvy k : Int) (n : Nat) : ∀ (l : List Tm) (i : Nat) (a : List Tm × List Tm), (∀ t ∈ l, vP p t = true) → (∀ t ∈ a.1, vP p t = true) → ∀ t ∈ (moreF c lvy k n l i a).1, vP p t = true
  | [], _, _, _, h => h
  | t :: l, i, a, hl, h => by
    rw [moreF]
    refine moreF_vP c lvy k n l (i + 1) _ (fun u hu => hl u (List.mem_cons_of_mem _ hu)) ?_
    split
    · intro u hu
      rcases List.mem_append.1 hu with hu | hu
      · exact h u hu
      · simp at hu; subst hu; exact hl _ List.mem_cons_self
    · exact h
variable {L : List Tm} (hL : ∀ t ∈ L, vP p t = true) (lv : Int)
include hL
theorem oi_flexF {q : IS} (h : OI p x m lv0 q.s) {y : Int} (hy : p y = true) (hx : y ≠ x) (l : List Tm) (k : Int) : OI p x m lv0 (flexF lv L q y l k).2.s := by
  unfold flexF
  split
  · unfold failS; split <;> exact h
  · unfold flexG
    split
    · exact h
    · exact h.hang hp hy hx _ _ (moreF_vP _ _ _ _ L 0 _ hL (imgs_vP lv L k _ _ 0 ([], []) (fun t h => nomatch h)))
omit hp hL in
theorem oi_kids {tm : IS → Tm → Tm × IS} (htm : ∀ q t, OI p x m lv0 q.s → vP p t = true → OI p x m lv0 (tm q t).2.s) : ∀ (l : List Tm) (q : IS), OI p x m lv0 q.s → (∀ t ∈ l, vP p t = true) → OI p x m lv0 (kidsI tm l q).2.s
  | [], _, h, _ => h
  | t :: l, q, h, hl => oi_kids htm l (tm q t).2 (htm q t h (hl t List.mem_cons_self)) fun u hu => hl u (List.mem_cons_of_mem _ hu)
theorem oi_term : ∀ (D : Nat) (q : IS) (t : Tm) (k : Int), OI p x m lv0 q.s → vP p t = true → OI p x m lv0 (termF x lv L D q t k).2.s
  | 0, q, t, k, h, _ => by
    rw [termF]
    split
    · exact h
    · unfold failS; split <;> exact h
  | D + 1, q, t, k, h, ht => by
    rw [termF]
    split
    · exact h
    · split
      · unfold failS; split <;> exact h
      · unfold termH
        split
        · unfold failS; split <;> exact h
        · have hz := split_vP (headV_vP h.sv (f := q.f - 1) ht)
          generalize headV q.s (q.f - 1) t = z at *
          obtain ⟨z1, z2, z3⟩ := z
          simp only at hz ⊢
          unfold termS
          split
          · exact oi_term D ⟨q.s, z2, q.e⟩ _ _ h (hd_vP fun u hu => vP_kid hz.1 hu)
          · split
            · rename_i h4
              split
              · unfold failS; split <;> exact h
              · rename_i hx
                exact oi_flexF hp hL lv (q := ⟨q.s, z2, q.e⟩) h (vP_var hz.1 h4) hx _ _
            · unfold termA
              split
              · unfold failS; split <;> exact h
              · exact oi_kids (fun q' t' a b => oi_term D q' t' k a b) _ ⟨q.s, z2, q.e⟩ h hz.2
end
theorem oi_invert {p : Int → Bool} {x : Int} {m : Nat} {lv0 : Int → Int} (hp : ∀ i : Int, (m : Int) ≤ i → p i = true) {s : Sto} (h : OI p x m lv0 s) (l : List Tm) {t : Tm} (ht : vP p t = true) (f : Int) : OI p x m lv0 (invertF s x l t f).2 := by
  unfold invertF
  split
  · exact h
  · rename_i hc
    simp only [Bool.or_eq_true, not_or] at hc
    have hl : ∀ u ∈ l, vP p u = true := fun u hu => by
      have := List.any_eq_false.1 (by simpa using hc.2 : (l.any fun u => !leafOk u) = false) u hu
      obtain ⟨_, hk, hul⟩ := leafOk_one (t := u) (by simpa using this)
      obtain ⟨k, s, n, ll⟩ := u
      have hk : k = 3 ∨ k = 1 := hk
      have hul : ll = [] := hul
      subst hul
      exact vP_node (by omega) (fun t h => nomatch h)
    split
    · exact oi_term hp hl _ _ _ _ _ h ht
    · exact oi_term hp hl _ _ _ _ _ h ht

end Go.AM

namespace Go.AM

/-! ### Values, laid open -/
section
variable {β : Type}
def oN (n : Nat) (K : Nat → β) : β := match n with
  | 0 => K 0
  | k + 1 => K (k + 1)
def oI (n : Int) (K : Int → β) : β := match n with
  | .ofNat k => oN k fun k => K (.ofNat k)
  | .negSucc k => oN k fun k => K (.negSucc k)
def oL {α : Type} (f : α → (α → β) → β) : List α → (List α → β) → β
  | [], K => K []
  | x :: l, K => f x fun x => oL f l fun l => K (x :: l)
def o1 {α : Type} (x : α) (K : α → β) : β := K x
def oB (b : Bool) (K : Bool → β) : β := match b with
  | true => K true
  | false => K false
def oF (x : FV) (K : FV → β) : β := match x with
  | .int k n => oI n fun n => K (.int k n)
  | .bool b => oB b fun b => K (.bool b)
  | .str l => oL o1 l fun l => K (.str l)
  | .sl nn n es => oB nn fun nn => oN n fun n => oL (oL o1) es fun es => K (.sl nn n es)
  | .pt cs => oL o1 cs fun cs => K (.pt cs)
  | .z0 nn => oB nn fun nn => K (.z0 nn)
  | .nils => K .nils
  | .cst v => K (.cst v)
def oA (x : AV) (K : AV → β) : β := match x with
  | .fz x => oF x fun x => K (.fz x)
  | .ep o n i j => oN o fun o => oN n fun n => oN i fun i => oN j fun j => K (.ep o n i j)
  | .osl o n i j => oN o fun o => oN n fun n => oN i fun i => oN j fun j => K (.osl o n i j)
  | .mp o => oN o fun o => K (.mp o)
  | .any => K .any
def oP {α γ : Type} (f : α → (α → β) → β) (g : γ → (γ → β) → β) (p : α × γ) (K : α × γ → β) : β := match p with
  | (a, b) => f a fun a => g b fun b => K (a, b)
def oW (x : WV) (K : WV → β) : β := match x with
  | .a x => oA x fun x => K (.a x)
  | .fn f a b => oL (oP oB (oL oA)) a fun a => oL (oP oB (oL oA)) b fun b => K (.fn f a b)
def oT (x : TV) (K : TV → β) : β := match x with
  | .any => K .any
  | .c x => oW x fun x => K (.c x)
  | .agg cs => oL oW cs fun cs => K (.agg cs)
  | .tup vs => oL (oP oB (oL oW)) vs fun vs => K (.tup vs)
def oO (x : AObj) (K : AObj → β) : β := match x with
  | .gone => K .gone
  | .arr n es => oN n fun n => oL (oL oW) es fun es => K (.arr n es)
  | .arz n fs => oN n fun n => oL (oL oF) fs fun fs => K (.arz n fs)
  | .mapo es => oL (oP (oP oB (oL oF)) (oP oB (oL oW))) es fun es => K (.mapo es)
  | .mapz es => oL (oP (oP oB (oL oF)) (oP oB (oL oF))) es fun es => K (.mapz es)
/-- To lay open changes nothing. -/
def Opens {α : Type} (f : α → (α → β) → β) : Prop := ∀ x K, f x K = K x
theorem opens_N : Opens (oN (β := β)) := fun x K => by cases x <;> rfl
theorem opens_I : Opens (oI (β := β)) := fun x K => by cases x <;> (simp only [oI]; rw [opens_N])
theorem opens_1 {α : Type} : Opens (o1 (α := α) (β := β)) := fun _ _ => rfl
theorem opens_B : Opens (oB (β := β)) := fun x K => by cases x <;> rfl
theorem opens_L {α : Type} {f : α → (α → β) → β} (h : Opens f) : Opens (oL f) := fun l => by
  induction l with
  | nil => exact fun _ => rfl
  | cons x l ih => intro K; simp only [oL]; rw [h, ih]
theorem opens_P {α γ : Type} {f : α → (α → β) → β} {g : γ → (γ → β) → β} (hf : Opens f) (hg : Opens g) : Opens (oP f g) := fun p K => by
  obtain ⟨a, b⟩ := p
  simp only [oP]; rw [hf, hg]
theorem opens_F : Opens (oF (β := β)) := fun x K => by
  cases x <;> simp only [oF]
  · rw [opens_I]
  · rw [opens_B]
  · rw [opens_L opens_1]
  · rw [opens_B, opens_N, opens_L (opens_L opens_1)]
  · rw [opens_B]
  · rw [opens_L opens_1]
theorem opens_A : Opens (oA (β := β)) := fun x K => by
  cases x <;> simp only [oA]
  · rw [opens_F]
  · rw [opens_N, opens_N, opens_N, opens_N]
  · rw [opens_N, opens_N, opens_N, opens_N]
  · rw [opens_N]
theorem opens_W : Opens (oW (β := β)) := fun x K => by
  cases x <;> simp only [oW]
  · rw [opens_A]
  · rw [opens_L (opens_P opens_B (opens_L opens_A)), opens_L (opens_P opens_B (opens_L opens_A))]
theorem opens_T : Opens (oT (β := β)) := fun x K => by
  cases x <;> simp only [oT]
  · rw [opens_W]
  · rw [opens_L opens_W]
  · rw [opens_L (opens_P opens_B (opens_L opens_W))]
theorem opens_O : Opens (oO (β := β)) := fun x K => by
  cases x <;> simp only [oO]
  · rw [opens_N, opens_L (opens_L opens_W)]
  · rw [opens_N, opens_L (opens_L opens_F)]
  · rw [opens_L (opens_P (opens_P opens_B (opens_L opens_F)) (opens_P opens_B (opens_L opens_W)))]
  · rw [opens_L (opens_P (opens_P opens_B (opens_L opens_F)) (opens_P opens_B (opens_L opens_F)))]
end

abbrev RunF := FuncId → List TV → List AObj → Option (TV × List AObj)
def RunOK (P : Program) (run : RunF) : Prop := ∀ f args Hs r Hs', run f args Hs = some (r, Hs') → AC P f args Hs r Hs'

/-! ### Calls -/
/-- A call, its slices handed over. -/
def callCX (run : RunF) (f : FuncId) (args : List TV) (h : Nat → AObj) (fr : Nat) : Option (TV × AHeap × List Nat) :=
  match reach h 400 (args.flatMap TV.ids) [] with
  | ids => match nodupB ids && ids.all (fun o => liveB (h o) && (h o).inn ids) && args.all (TV.inn ids) && ids.all (fun o => Nat.blt o fr) with
    | true => match run f (args.map (TV.ren (inv ids))) (ids.map fun o => (h o).ren (inv ids)) with
      | some (r, Hs') => match Nat.ble Hs'.length (ids.length + 32) with
        | true => some (r.ren (sub ids fr), oldObjs (sub ids fr) ids Hs' ++ newObjs (sub ids fr) fr (Hs'.drop ids.length), ids)
        | false => none
      | none => none
    | false => none
theorem callCX_ok {P : Program} {run : RunF} (hr : RunOK P run) {f : FuncId} {args : List TV} {h : Nat → AObj} {fr : Nat} {r : TV} {u : AHeap} {rd : List Nat} (hc : callCX run f args h fr = some (r, u, rd)) :
    CallK P f args h fr fun r' u' rd' => r' = r ∧ u' = u ∧ rd' = rd := by
  unfold callCX at hc
  generalize reach h 400 (args.flatMap TV.ids) [] = ids at hc
  simp only at hc
  split at hc
  · rename_i hb
    simp only [Bool.and_eq_true] at hb
    obtain ⟨⟨⟨h1, h2⟩, h3⟩, h0⟩ := hb
    have h0 : ∀ i ∈ ids, i < fr := fun i hi => Nat.le_of_ble_eq_true (List.all_eq_true.1 h0 i hi)
    have ha := map_ren_ids (fr := fr) h3
    have ho := objs_ren_ids (fr := fr) h2
    split at hc
    · rename_i r0 Hs' hrun
      split at hc
      · rename_i hlen
        simp only [Option.some.injEq, Prod.mk.injEq] at hc
        refine ⟨ids, [], _, _, _, _, hr _ _ _ _ _ hrun, ⟨nodupB_iff h1, h0⟩, Nat.le_of_ble_eq_true hlen, ho.1, ?_, ha.2, ho.2, .inl rfl, by simpa using hc⟩
        rw [map_lend_nil, ha.1]; exact all2_refl
      · cases hc
    · cases hc
  · cases hc
/-- A call: 1: its slices are handed over, 3: they are given up. -/
def callX (run : RunF) (mode : FuncId → Nat) (f : FuncId) (args : List TV) (h : Nat → AObj) (fr : Nat) : Option (TV × AHeap × List Nat) :=
  match Nat.ble (mode f) 1 with
  | true => callCX run f args h fr
  | false => match args.flatMap (lentT h) with
    | L => match callCX run f (args.map (TV.lend L)) (over (L.map fun p => (p.1, AObj.gone)) h) fr with
      | some (r, u, rd) => some (r, u ++ L.map (fun p => (p.1, AObj.gone)), rd ++ L.map Prod.fst)
      | none => none
theorem callX_ok {P : Program} {run : RunF} {mode : FuncId → Nat} (hr : RunOK P run) {f : FuncId} {args : List TV} {h : Nat → AObj} {fr : Nat} {r : TV} {u : AHeap} {rd : List Nat} (hc : callX run mode f args h fr = some (r, u, rd)) :
    CallE P f args h fr fun r' u' rd' => r' = r ∧ u' = u ∧ rd' = rd := by
  unfold callX at hc
  split at hc
  · refine ⟨[], (fun p hp => by cases hp), ?_⟩
    rw [map_lend_nil]
    have e : over (([] : Lent).map fun p => (p.1, AObj.gone)) h = h := by funext o; rfl
    rw [e]
    exact (callCX_ok hr hc).imp fun r u rd hk => by simpa using hk
  · refine ⟨args.flatMap (lentT h), lents_ok.ok, ?_⟩
    generalize args.flatMap (lentT h) = L at hc ⊢
    simp only at hc
    split at hc
    · rename_i r1 u1 rd1 hk
      simp only [Option.some.injEq, Prod.mk.injEq] at hc
      refine (callCX_ok hr hk).imp fun r u rd hk => ?_
      obtain ⟨rfl, rfl, rfl⟩ := hk
      exact hc
    · cases hc

/-! ### Regions -/
section
variable (P : Program) (run : RunF) (mode : FuncId → Nat)
def stepX (fr : Nat) (o : Oper) (e : Env) (h : AHeap) (tr : Track) : Option (Env × AHeap × Track) :=
  match goCall o.op with
  | some c => match calleeOf (ev e) c with
    | some (f, args) => match callX run mode f args (hook h) fr with
      | some (r, u, rd) => oT r fun r => some (putE o.dst r e, u ++ h, (rd, u.map Prod.fst) :: tr)
      | none => none
    | none => none
  | none => match aopS P o fr (ev e) (hook h) with
    | some r => oT r.val fun v => some (putE o.dst v e, r.upd ++ h, (r.rd, r.upd.map Prod.fst) :: tr)
    | none => none
def lexX (ops : Array Oper) (nx : Nat) : List Oper → Nat → Env → AHeap → Track → Option (Env × AHeap × Track)
  | [], _, e, h, tr => some (e, h, tr)
  | o :: rest, i, e, h, tr => match want ops o (look e) with
    | none => none
    | some w => match (match w with | true => stepX P run mode (nx + 32 * i) o e h tr | false => some (putE o.dst (.tup []) e, h, ([], []) :: tr)) with
      | some (e, h, tr) => lexX ops nx rest (i + 1) e h tr
      | none => none
variable {P run mode}
theorem lexX_ok (hr : RunOK P run) {ops : Array Oper} {nx : Nat} : ∀ {l : List Oper} {i : Nat} {e : Env} {h : AHeap} {tr : Track} {e1 : Env} {h1 : AHeap} {tr1 : Track},
    lexX P run mode ops nx l i e h tr = some (e1, h1, tr1) → lex P ops nx l i e h tr fun e h tr => e = e1 ∧ h = h1 ∧ tr = tr1
  | [], _, _, _, _, _, _, _, hl => by
    simp only [lexX, Option.some.injEq, Prod.mk.injEq] at hl
    exact hl
  | o :: rest, i, e, h, tr, e1, h1, tr1, hl => by
    unfold lexX at hl
    unfold lex guardK
    split at hl
    · cases hl
    · rename_i w hw
      rw [hw]
      simp only
      split at hl
      · rename_i e2 h2 tr2 he
        have ih := lexX_ok hr hl
        cases w with
        | false =>
          simp only [Option.some.injEq, Prod.mk.injEq] at he
          obtain ⟨rfl, rfl, rfl⟩ := he
          simpa using ih
        | true =>
          simp only at he
          rw [if_pos rfl]
          unfold stepX at he
          unfold stepK
          cases hg : goCall o.op with
          | some c =>
            rw [hg] at he
            simp only at he ⊢
            split at he
            · rename_i f args hcl
              rw [hcl]
              simp only
              split at he
              · rename_i r u rd hcall
                rw [opens_T] at he
                simp only [Option.some.injEq, Prod.mk.injEq] at he
                obtain ⟨rfl, rfl, rfl⟩ := he
                refine (callX_ok hr hcall).imp fun r' u' rd' hk => ?_
                obtain ⟨rfl, rfl, rfl⟩ := hk
                exact ih
              · cases he
            · cases he
          | none =>
            rw [hg] at he
            simp only at he ⊢
            split at he
            · rename_i r ha
              rw [ha]
              rw [opens_T] at he
              simp only [Option.some.injEq, Prod.mk.injEq] at he
              obtain ⟨rfl, rfl, rfl⟩ := he
              exact ih
            · cases he
      · cases hl
end

/-! ### Code -/
/-- A state with what is live alone, under new numbers, laid open. -/
def tidyX (m : Nat) (U live : List Nat) (s : St) : Option St :=
  match reachU m U (hook s.heap) (live.flatMap fun t => (look s.env t).ids) with
  | rest => match okU m U rest && (keep m U ++ rest).all (fun o => (hook s.heap o).inn (keep m U ++ rest)) && live.all (fun t => (look s.env t).inn (keep m U ++ rest)) with
    | true => oL (oP oN oT) (live.map fun t => (t, (look s.env t).ren (invU m rest))) fun env => oL oO (objsU m U rest (hook s.heap)) fun obs => some ⟨env, objHeap 0 obs, m + rest.length⟩
    | false => none
theorem tidyX_ok {m : Nat} {U live : List Nat} {s s' : St} (h : tidyX m U live s = some s') : Sle m s s' := by
  have hg : gotoV m [(0, live), (1000001, U)] (fun _ s1 => s1 = s') 0 s := by
    unfold tidyX at h
    unfold gotoV
    simp only [find2, if_true, lvU, show ¬ ((0 : Nat) = 1000001) by decide, if_false]
    generalize reachU m U (hook s.heap) (live.flatMap fun t => (look s.env t).ids) = rest at h ⊢
    simp only at h ⊢
    split at h
    · rename_i hb
      rw [hb]
      rw [opens_L (opens_P opens_N opens_T), opens_L opens_O, Option.some.injEq] at h
      exact h
    · cases h
  obtain ⟨s1, h1, h2⟩ := gotoV_inv hg
  rw [← h2]; exact h1
/-- The objects among the first that were given up. -/
def goneX (m : Nat) (s : St) : List Nat := (List.range m).filter fun o => !liveB (hook s.heap o)

section
variable (P : Program) (run : RunF) (mode : FuncId → Nat) (n m lf : Nat)
def regX (ops : Array Oper) (d : Bool) (s : St) : Option St :=
  match dstB ops n with
  | true => match lexX P run mode ops s.nx ops.toList 0 s.env s.heap [] with
    | some (e, h, tr) => match !d || drawB ops tr with
      | true => some ⟨e, h, s.nx + 32 * ops.size⟩
      | false => none
    | none => none
  | false => none
def loopX (F : St → Option (AExit × St)) : Nat → St → Option (AExit × St)
  | 0, _ => none
  | k + 1, s => match tidyX m (goneX m s) (List.range n) s with
    | some s => match F s with
      | some (.normal, s) => loopX F k s
      | r => r
    | none => none
def codeX : Code → St → Option (AExit × St)
  | .skip, s => some (.normal, s)
  | .ret, s => some (.ret, s)
  | .exit i, s => some (.exit i, s)
  | .seq a b, s => match codeX a s with
    | some (.normal, s) => codeX b s
    | r => r
  | .cond x a b, s => match ev s.env x with
    | .c (.a (.fz (.bool t))) => match t with
      | true => codeX a s
      | false => codeX b s
    | _ => none
  | .block i c, s => match codeX c s with
    | some (.exit j, s) => match Nat.beq j i with
      | true => some (.normal, s)
      | false => some (.exit j, s)
    | r => r
  | .region _ ops d, s => match regX P run mode n ops d s with
    | some s => some (.normal, s)
    | none => none
  | .loop c, s => loopX n m (codeX c) lf s
  | _, _ => none
variable {P run mode n m lf}
theorem Awp.le {c : Code} {Q : AExit → St → Prop} {s s' : St} (hs : Sle m s s') (h : Awp P n m c Q s') : Awp P n m c Q s := Awp.weak hs h
theorem loopX_ok {c : Code} {F : St → Option (AExit × St)} (hF : ∀ s e s', F s = some (e, s') → Awp P n m c (fun e1 s1 => e1 = e ∧ s1 = s') s) : ∀ {k : Nat} {s : St} {e : AExit} {s' : St},
    loopX n m F k s = some (e, s') → Alwp P n m c (fun e1 s1 => e1 = e ∧ s1 = s') s
  | 0, _, _, _, h => by cases h
  | k + 1, s, e, s', h => by
    unfold loopX at h
    split at h
    · rename_i s1 hs1
      refine Alwp.weak (tidyX_ok hs1) (Alwp.unroll ?_)
      split at h
      · rename_i s2 h2
        refine (hF _ _ _ h2).mono fun e1 s1 hk => ?_
        obtain ⟨rfl, rfl⟩ := hk
        exact loopX_ok hF h
      · rename_i hne
        refine (hF _ _ _ h).mono fun e1 s1 hk => ?_
        obtain ⟨rfl, rfl⟩ := hk
        cases e1 with
        | normal => exact absurd h (hne _)
        | _ => exact ⟨rfl, rfl⟩
    · cases h
theorem codeX_ok (hP : P.follows .mixedOrders = true) (hr : RunOK P run) : ∀ {c : Code} {s : St} {e : AExit} {s' : St}, codeX P run mode n m lf c s = some (e, s') → Awp P n m c (fun e1 s1 => e1 = e ∧ s1 = s') s
  | .skip, s, e, s', h => by
    simp only [codeX, Option.some.injEq, Prod.mk.injEq] at h; exact Awp.skip ⟨h.1, h.2⟩
  | .ret, s, e, s', h => by
    simp only [codeX, Option.some.injEq, Prod.mk.injEq] at h; exact Awp.ret ⟨h.1, h.2⟩
  | .exit i, s, e, s', h => by
    simp only [codeX, Option.some.injEq, Prod.mk.injEq] at h; exact Awp.exit ⟨h.1, h.2⟩
  | .seq a b, s, e, s', h => by
    unfold codeX at h
    refine Awp.seq ?_
    split at h
    · rename_i s1 h1
      refine (codeX_ok hP hr h1).mono fun e1 s2 hk => ?_
      obtain ⟨rfl, rfl⟩ := hk
      exact codeX_ok hP hr h
    · rename_i hne
      refine (codeX_ok hP hr h).mono fun e1 s2 hk => ?_
      obtain ⟨rfl, rfl⟩ := hk
      cases e1 with
      | normal => exact absurd h (hne _)
      | _ => exact ⟨rfl, rfl⟩
  | .cond x a b, s, e, s', h => by
    unfold codeX at h
    split at h
    · rename_i t ht
      cases t with
      | true => exact Awp.cond ht (fun _ => codeX_ok hP hr h) (fun e => by cases e)
      | false => exact Awp.cond ht (fun e => by cases e) (fun _ => codeX_ok hP hr h)
    · cases h
  | .block i c, s, e, s', h => by
    unfold codeX at h
    refine Awp.block ?_
    split at h
    · rename_i j s1 h1
      refine (codeX_ok hP hr h1).mono fun e1 s2 hk => ?_
      obtain ⟨rfl, rfl⟩ := hk
      simp only [inBlockQ]
      split at h
      · rename_i hb
        rw [if_pos (Nat.eq_of_beq_eq_true hb)]
        simp only [Option.some.injEq, Prod.mk.injEq] at h; exact ⟨h.1, h.2⟩
      · rename_i hb
        rw [if_neg (Nat.ne_of_beq_eq_false hb)]
        simp only [Option.some.injEq, Prod.mk.injEq] at h; exact ⟨h.1, h.2⟩
    · rename_i hne
      refine (codeX_ok hP hr h).mono fun e1 s2 hk => ?_
      obtain ⟨rfl, rfl⟩ := hk
      cases e1 with
      | exit j => exact absurd h (hne _ _)
      | _ => exact ⟨rfl, rfl⟩
  | .region i ops d, s, e, s', h => by
    unfold codeX at h
    split at h
    · rename_i s1 h1
      simp only [Option.some.injEq, Prod.mk.injEq] at h
      obtain ⟨rfl, rfl⟩ := h
      unfold regX at h1
      split at h1
      · rename_i hd
        refine Awp.region hP hd ?_
        split at h1
        · rename_i e2 h2 tr2 hl
          split at h1
          · rename_i hb
            rw [Option.some.injEq] at h1
            subst h1
            refine lex_mono ?_ (lexX_ok hr hl)
            rintro e1 h1 tr1 ⟨rfl, rfl, rfl⟩
            refine ⟨fun hd2 => ?_, rfl, rfl⟩
            subst hd2; simpa using hb
          · cases h1
        · cases h1
      · cases h1
    · cases h
  | .loop c, s, e, s', h => by
    unfold codeX at h
    exact Alwp.loop (loopX_ok (fun s e s' hs => codeX_ok hP hr hs) h)
  | .rangeFunc .., _, _, _, h => by cases h
  | .scope _, _, _, _, h => by cases h
  | .label _, _, _, _, h => by cases h
  | .goto _, _, _, _, h => by cases h
  | .refuse _, _, _, _, h => by cases h
end

/-! ### Functions -/
def lentR (fz : Bool) (h : Nat → AObj) (rs : List TV) : Lent := match fz with | true => rs.flatMap (lentT h) | false => []
theorem lentR_ok {fz : Bool} {h : Nat → AObj} {rs : List TV} : LentOK h (lentR fz h rs) := by
  cases fz with
  | true => exact lents_ok
  | false => exact fun p hp => nomatch hp
/-- What is handed back; its slices are given up, or not. -/
def retX (P : Program) (fz : Bool) (rl : List ResultVar) (m : Nat) (U : List Nat) (s : St) : Option (TV × List AObj) :=
  match resAs P s rl with
  | none => none
  | some rs => match lentR fz (hook s.heap) rs with
    | E => match U ++ (E.map Prod.fst).filter (fun o => Nat.blt o m) with
      | U => match reachU m U (hook s.heap) ((rs.map (TV.lend E)).flatMap TV.ids) with
        | rest => match okU m U rest && (keep m U ++ rest).all (fun o => (hook s.heap o).inn (keep m U ++ rest)) && (rs.map (TV.lend E)).all (TV.inn (keep m U ++ rest)) && E.all (fun p => !(keep m U ++ rest).contains p.1) with
          | true => match packA ((rs.map (TV.lend E)).map (TV.ren (invU m rest))) with
            | some r0 => oT r0 fun r0 => oL oO (objsU m U rest (hook s.heap)) fun Hs => some (r0, Hs)
            | none => none
          | false => none
theorem retX_ok {P : Program} {fz : Bool} {rl : List ResultVar} {m : Nat} {U : List Nat} {s : St} {r : TV} {Hs' : List AObj} (h : retX P fz rl m U s = some (r, Hs')) : RetOK P rl m r Hs' s := by
  unfold retX at h
  split at h
  · cases h
  · rename_i rs hrs
    dsimp only at h
    split at h
    · rename_i hb
      simp only [Bool.and_eq_true] at hb
      obtain ⟨⟨⟨h1, h2⟩, h3⟩, h5⟩ := hb
      split at h
      · rename_i r0 hr0
        rw [opens_T, opens_L opens_O] at h
        simp only [Option.some.injEq, Prod.mk.injEq] at h
        obtain ⟨rfl, rfl⟩ := h
        refine ret_core (E := lentR fz (hook s.heap) rs) hrs rfl lentR_ok.ok h1 h2 h3 (fun p hp hm => ?_) hr0 (.refl _)
        have := List.all_eq_true.1 h5 p hp
        simp only [Bool.not_eq_true', List.contains_eq_mem, decide_eq_false_iff_not] at this
        exact this hm
      · cases h
    · cases h

def runX (P : Program) (mode : FuncId → Nat) (lf : Nat) : Nat → RunF
  | 0, _, _, _ => none
  | k + 1, f, args, Hs => match P.funcs[f]? with
    | some fn => match fn.body with
      | some c => match enterable P f && Nat.ble args.length fn.ntmps && Hs.all liveB with
        | true => oL oT args fun args => oL oO Hs fun Hs => match codeX P (runX P mode lf k) mode fn.ntmps Hs.length lf c ⟨argEnv 0 args, objHeap 0 Hs, Hs.length⟩ with
          | some (.exit _, _) => none
          | some (_, s) => match retX P (Nat.ble 1 (mode f) && Nat.ble (mode f) 2) fn.results.toList Hs.length (goneX Hs.length s) s with
            | some (r, Hs') => match Nat.ble Hs.length Hs'.length && (Hs'.drop Hs.length).all liveB with
              | true => some (r, Hs')
              | false => none
            | none => none
          | none => none
        | false => none
      | none => none
    | none => none
/-- WHAT IS COMPUTED IS A CONTRACT. -/
theorem runX_ok {P : Program} {mode : FuncId → Nat} {lf : Nat} (hP : P.follows .mixedOrders = true) : ∀ k, RunOK P (runX P mode lf k)
  | 0 => fun f args Hs r Hs' h => by cases h
  | k + 1 => fun f args Hs r Hs' h => by
    unfold runX at h
    split at h
    · rename_i fn hf
      split at h
      · rename_i c hc
        split at h
        · rename_i hb
          simp only [Bool.and_eq_true] at hb
          rw [opens_L opens_T, opens_L opens_O] at h
          have key : ∀ {e : AExit} {s : St}, codeX P (runX P mode lf k) mode fn.ntmps Hs.length lf c ⟨argEnv 0 args, objHeap 0 Hs, Hs.length⟩ = some (e, s) → (∀ i, e ≠ .exit i) →
              (match retX P (Nat.ble 1 (mode f) && Nat.ble (mode f) 2) fn.results.toList Hs.length (goneX Hs.length s) s with
              | some (r, Hs') => match Nat.ble Hs.length Hs'.length && (Hs'.drop Hs.length).all liveB with
                | true => some (r, Hs')
                | false => none
              | none => none) = some (r, Hs') → AC P f args Hs r Hs' := by
            intro e s hs he h
            split at h
            · rename_i r1 Hs1 hret
              split at h
              · rename_i hb2
                simp only [Bool.and_eq_true] at hb2
                simp only [Option.some.injEq, Prod.mk.injEq] at h
                obtain ⟨rfl, rfl⟩ := h
                refine AC.intro hf hc rfl rfl hb.1.1 (Nat.le_of_ble_eq_true hb.1.2) (Nat.le_of_ble_eq_true hb2.1) (fun x hx => liveB_iff (List.all_eq_true.1 hb.2 x hx)) (fun x hx => liveB_iff (List.all_eq_true.1 hb2.2 x hx)) ?_
                refine (codeX_ok hP (runX_ok hP k) hs).mono fun e1 s1 hk => ?_
                obtain ⟨rfl, rfl⟩ := hk
                cases e1 with
                | exit i => exact absurd rfl (he i)
                | normal => exact retX_ok hret
                | ret => exact retX_ok hret
              · cases h
            · cases h
          cases hs : codeX P (runX P mode lf k) mode fn.ntmps Hs.length lf c ⟨argEnv 0 args, objHeap 0 Hs, Hs.length⟩ with
          | none => rw [hs] at h; cases h
          | some q =>
            obtain ⟨e, s⟩ := q
            rw [hs] at h
            cases e with
            | exit i => cases h
            | normal => exact key hs (fun i hi => by cases hi) h
            | ret => exact key hs (fun i hi => by cases hi) h
        · cases h
      · cases h
    · cases h
theorem runX_AC {P : Program} (hP : P.follows .mixedOrders = true) (mode : FuncId → Nat) (lf k : Nat) {f : FuncId} {args : List TV} {Hs : List AObj} {r : TV} {Hs' : List AObj} (h : runX P mode lf k f args Hs = some (r, Hs')) : AC P f args Hs r Hs' := runX_ok hP k _ _ _ _ _ h
end Go.AM

set_option maxRecDepth 100000
open Go Go.Proofs
namespace Go.AM

/-! ### The document's example (by the kernel) -/
theorem c_works16 : AC Try.prog 23 [] [] (cb true) [] := runX_AC hP (fun f => bif List.contains [81, 83, 88] f then 0 else 1) 200 60 (by kernel_rfl)

end Go.AM

set_option maxRecDepth 100000
open Go Go.Proofs
namespace Go.AM

/-! ### The document's store -/
theorem SR_in {s : Sto} {x : Int} (h0 : 0 ≤ x) (h1 : x < (s.V.length : Int)) : List.getD (SR s.V) (0 + Int.toNat x) [] = Inf.c (infOf s.V x) ∧ (0 + Int.toNat x) < (SR s.V).length := by
  obtain ⟨hl, ei⟩ := infOf_in h0 h1
  exact ⟨by rw [Nat.zero_add, SR_get hl, ei], by rw [SR_length]; omega⟩
theorem valB_in {s : Sto} {t : Tm} (h : valB s t = true) : 0 ≤ t.n ∧ t.n < (s.V.length : Int) := by
  by_cases q : 0 ≤ t.n ∧ t.n < (s.V.length : Int)
  · exact q
  · rw [valB, infOf_out q] at h; simp [noI] at h
theorem valid_n {t : Tm} (hv : validB t = true) (h4 : t.k = 4) : 0 ≤ t.n := by
  obtain ⟨k, s, n, l⟩ := t
  have h4 : k = 4 := h4
  show 0 ≤ n
  subst h4
  rw [validB] at hv
  simp at hv
  omega
abbrev tT2 (u : Tm) (n : Int) : TV := .tup [(true, cT u), (false, [.a (.fz (.int .i64 n))])]
theorem leT2 {k n m : Int} {s : List UInt8} {x : FV} {l : List Tm} (h : FV.Le x (.sl false 4 (FTs l))) : TV.Le (.tup [(true, [.a (.fz (.int .i64 k)), .a (.fz (.str s)), .a (.fz (.int .i64 n)), .a (.fz x)]), (false, [.a (.fz (.int .i64 m))])]) (tT2 (.mk k s n l) m) := le_tup ⟨lwT h, lwR _, trivial⟩
/-- The term of a step that may not be done is none. -/
def stepR (s : Sto) (t : Tm) : Tm := if (stepS s t).2 = 2 then noT else (stepS s t).1
end Go.AM
