/- A calculus of plain values for the model's code, what the code of each function asks (computed by the kernel), contracts of the functions, and plain laws (part 6). No conditions. -/
import Derived.Test.YtdpjhpfjmjhhkaaPart5
import Derived.Test.YtdpjhpfjmjhhkaaRows
set_option maxRecDepth 100000
open Go Go.Proofs
namespace Go.AM

/-! ### The table -/
def tabT : List Cd → Int → List Ent → List Ent
  | [], _, E => E
  | c :: l, i, E => tabT l (i + 1) (insT (c.nm, c.ar) (i, firstK c) E)
theorem insT_len (p : List UInt8 × Int) (x : Int × Key) : ∀ E : List Ent, (insT p x E).length ≤ E.length + 1
  | [] => Nat.le_refl _
  | e :: E => by
    have := insT_len p x E
    rw [insT]; split <;> simp only [List.length_cons] <;> omega
theorem insT_mem (p : List UInt8 × Int) (x : Int × Key) (n : Nat) : ∀ E : List Ent, (∀ e ∈ E, e.2.2.length ≤ n) → ∀ e ∈ insT p x E, e.2.2.length ≤ n + 1
  | [], _, e, he => by rw [insT, List.mem_singleton] at he; subst he; simp
  | e0 :: E, h, e, he => by
    have h0 := h e0 List.mem_cons_self
    rw [insT] at he
    split at he
    · rcases List.mem_cons.1 he with rfl | he
      · simp; exact h0
      · have := h e (List.mem_cons_of_mem _ he); omega
    · rcases List.mem_cons.1 he with rfl | he
      · omega
      · exact insT_mem p x n E (fun u hu => h u (List.mem_cons_of_mem _ hu)) e he
theorem l_inew (l : List Cd) (hB : l.length ≤ 12) (hz : ∀ c ∈ l, c.sz ≤ B) : ∀ (b a : List Cd) (E : List Ent), l = a ++ b → E.length ≤ a.length → (∀ e ∈ E, e.2.2.length ≤ a.length) →
    RPt Try.prog 19 0 (.c (.a (.ep 0 1 0 0))) (outN (tabT b a.length E)) 1 (stN l E a.length)
  | [], a, E, hl, hE, hL => by
    have hla : l = a := by rw [hl]; simp
    have := exitN l E (by rw [hla] at hB; omega)
    rw [FCs_length, hla] at this
    rw [tabT, hla]
    exact this
  | c :: b, a, E, hl, hE, hL => by
    have hlen : a.length + (b.length + 1) ≤ 12 := by rw [hl] at hB; simpa using hB
    rw [tabT]
    refine stepN l a b c hl hB (hz c (by rw [hl]; simp)) _ _ E (by omega) (fun e he => by have := hL e he; omega) ?_
    have := l_inew l hB hz b (a ++ [c]) (insT (c.nm, c.ar) (a.length, firstK c) E) (by rw [hl]; simp) (by have := insT_len (c.nm, c.ar) ((a.length : Int), firstK c) E; simp; omega) (fun e he => by
      have := insT_mem (c.nm, c.ar) ((a.length : Int), firstK c) a.length E hL e he; simpa using this)
    rw [nx] at this
    exact this
theorem entsO_get : ∀ (E : List Ent) (o i : Nat) (e : MapE), (entsO E o)[i]? = some e → ∃ x, E[i]? = some x ∧ e = ((true, [.str x.1, .int .i64 x.2.1]), (false, [.a (.osl (o + i) 6 0 x.2.2.length)]))
  | [], o, i, e, h => by simp [entsO] at h
  | x :: E, o, 0, e, h => by
    simp only [entsO, List.getElem?_cons_zero, Option.some.injEq] at h
    exact ⟨x, rfl, h.symm⟩
  | x :: E, o, i + 1, e, h => by
    simp only [entsO, List.getElem?_cons_succ] at h
    obtain ⟨y, h1, h2⟩ := entsO_get E (o + 1) i e h
    exact ⟨y, by simpa using h1, by rw [h2, show o + 1 + i = o + (i + 1) by omega]⟩
theorem entsO_len : ∀ (E : List Ent) (o : Nat), (entsO E o).length = E.length
  | [], _ => rfl
  | _ :: E, o => by rw [entsO, List.length_cons, entsO_len E]; rfl
theorem c_inew (l : List Cd) (hB : l.length ≤ 12) (hz : ∀ c ∈ l, c.sz ≤ B) : AC Try.prog 19 [aCs l] [] (.c (.a (.ep 0 1 0 0))) [tab0, .mapz (tabZ (tabT l 0 []))] := by
  have h := l_inew l hB hz l [] [] rfl (Nat.le_refl _) (fun e he => nomatch he)
  have h1 : AC Try.prog 19 [aCs l] [] (.c (.a (.ep 0 1 0 0))) (outN (tabT l 0 [])) := by
    refine AC.vc hP sh lv19 (Nat.zero_le _) (by simp) (fun x hx => ?_) (Eq.mpr (v19 ..) ⟨rfl, h⟩)
    simp only [List.length_nil, List.drop_zero, outN, List.mem_cons] at hx
    rcases hx with rfl | rfl | hx
    · trivial
    · unfold mapO; split <;> trivial
    · obtain ⟨e, _, rfl⟩ := List.mem_map.1 hx; trivial
  revert h1
  generalize tabT l 0 [] = E
  intro h1
  cases E with
  | nil => exact h1
  | cons e E =>
    refine AC.freeze (es := entsO (e :: E) 2) (rows := rowsO (e :: E)) h1 (by rw [entsO_len, tabZ, List.length_map]) fun i x z hx hz => ?_
    obtain ⟨y, h2, rfl⟩ := entsO_get _ _ _ _ hx
    rw [tabZ, List.getElem?_map, h2] at hz
    simp only [Option.map_some, Option.some.injEq] at hz
    subst hz
    refine ⟨rfl, 6, y.2.2.length, ER y.2.2, rfl, by rw [rowsO, List.getElem?_map, h2]; rfl, ER_len _, ?_⟩
    rw [List.take_of_length_le (by simp [ER])]
/-! ### What is found -/
def lookT (nm : List UInt8) (ar : Int) : List Ent → Option (List (Int × Key))
  | [] => none
  | e :: E => if (((nm : List UInt8) == e.1) && (((ar : Int) == e.2.1) && true)) = true then some e.2.2 else lookT nm ar E
abbrev mK : (Bool × List EK) × (Bool × List WV) := ((true, [EK.str, EK.int]), (false, [.a (.fz .nils)]))
theorem findT (nm : List UInt8) (ar : Int) : ∀ (E : List Ent) (i : Nat), (lookT nm ar E = none → findA mK.1 [.str nm, .int .i64 ar] ((tabZ E).map thaw) i = some none) ∧
    ∀ x, lookT nm ar E = some x → ∃ (j : Nat) (e : Ent), findA mK.1 [.str nm, .int .i64 ar] ((tabZ E).map thaw) i = some (some (i + j)) ∧ E[j]? = some e ∧ e.2.2 = x
  | [], i => ⟨fun _ => rfl, fun x h => by cases h⟩
  | e :: E, i => by
    have ih := findT nm ar E (i + 1)
    have hf : findA mK.1 [.str nm, .int .i64 ar] ((tabZ (e :: E)).map thaw) i = if (((nm : List UInt8) == e.1) && (((ar : Int) == e.2.1) && true)) = true then some (some i) else findA mK.1 [.str nm, .int .i64 ar] ((tabZ E).map thaw) (i + 1) := rfl
    rw [hf, lookT]
    by_cases q : (((nm : List UInt8) == e.1) && (((ar : Int) == e.2.1) && true)) = true
    · rw [if_pos q, if_pos q]
      exact ⟨fun h => (by cases h), fun x h => ⟨0, e, (by rw [Nat.add_zero]), rfl, (by injection h)⟩⟩
    · rw [if_neg q, if_neg q]
      refine ⟨ih.1, fun x h => ?_⟩
      obtain ⟨j, e', h1, h2, h3⟩ := ih.2 x h
      exact ⟨j + 1, e', by rw [h1, show i + 1 + j = i + (j + 1) by omega], by simpa using h2, h3⟩
theorem findZ_none {nm : List UInt8} {ar : Int} {E : List Ent} (h : lookT nm ar E = none) : findZ mK [.str nm, .int .i64 ar] (tabZ E) = some none := by
  unfold findZ; rw [(findT nm ar E 0).1 h]
theorem findZ_some {nm : List UInt8} {ar : Int} {E : List Ent} {x : List (Int × Key)} (h : lookT nm ar E = some x) : findZ mK [.str nm, .int .i64 ar] (tabZ E) = some (some [.sl false 6 (ER x)]) := by
  obtain ⟨j, e, h1, h2, h3⟩ := (findT nm ar E 0).2 x h
  unfold findZ
  rw [h1]
  simp only [Nat.zero_add]
  rw [tabZ, List.getElem?_map, h2]
  simp only [Option.map_some, h3, if_true]
def fitL (k : Key) : List (Int × Key) → List Int
  | [] => []
  | x :: l => if meetsB x.2 k = true then x.1 :: fitL k l else fitL k l
abbrev aIs (l : List Int) : TV := .c (.a (.fz (.sl false 1 (IR l))))
theorem er_mid (a : List (Int × Key)) (x : Int × Key) (b : List (Int × Key)) : List.getD (ER (a ++ x :: b)) (Int.toNat (a.length : Int)) [] = kRow x := by
  rw [show Int.toNat (a.length : Int) = a.length by omega, ER]; simp [List.getD]
theorem IR_take (l : List Int) (x : Int) : List.take l.length (IR l) ++ [[.int .i64 x]] = IR (l ++ [x]) := by
  rw [List.take_of_length_le (by simp [IR])]; simp [IR]
abbrev obK (k : Key) : AObj := .arr 5 [[.a (.fz (.bool k.any)), .a (.fz (.int .i64 k.k)), .a (.fz (.str k.nm)), .a (.fz (.int .i64 k.n)), .a (.fz (.int .i64 k.ar))]]
theorem l_ifitb (k : Key) : ∀ (b a : List (Int × Key)) (out : List Int), (a ++ b).length ≤ 12 → out.length ≤ a.length →
    RPt Try.prog 41 0 (aIs (out ++ fitL k b)) [] 1 ⟨[(3, .c (.a (.ep 0 5 0 0))), (5, .c (.a (.osl 1 1 0 out.length))), (8, .c (.a (.fz (.sl false 6 (ER (a ++ b)))))), (9, ci (((ER (a ++ b)).length : Nat) : Int)), (10, ci a.length)], [(0, obK k), (1, .arz 1 (IR out))], 2⟩
  | [], a, out, hl, ho => by
    refine RPt.vc hP sh lv41 (Eq.mpr (v41_1b out.length (ER (a ++ [])) (((ER (a ++ [])).length : Nat) : Int) a.length k.any k.k k.nm k.n k.ar (IR out) _ _) ?_)
    refine br_of (fun h => absurd (of_decide_eq_true h) (by simp [ER])) (fun _ => ⟨⟨rfl, by simp [IR]⟩, ?_, rfl⟩)
    rw [List.drop_zero, List.take_of_length_le (by simp [IR]), fitL, List.append_nil]; exact .refl _
  | x :: b, a, out, hl, ho => by
    have hl' := hl
    simp only [List.length_append, List.length_cons] at hl'
    have hlt : (a.length : Int) < (((ER (a ++ x :: b)).length : Nat) : Int) := by simp [ER]; omega
    have em := er_mid a x b
    refine RPt.vc hP sh lv41 (Eq.mpr (v41_1b out.length (ER (a ++ x :: b)) (((ER (a ++ x :: b)).length : Nat) : Int) a.length k.any k.k k.nm k.n k.ar (IR out) _ _) ?_)
    rw [w64 (x := (a.length : Int) + 1) (by omega) (by omega), em]
    refine br_of (fun _ => ⟨⟨rfl, by omega, hlt, rfl⟩, meetsB x.2 k, c_meets x.2 k, br_of (fun h => ?_) (fun h => ?_)⟩) (fun h => absurd hlt (of_decide_eq_false h))
    · have := l_ifitb k b (a ++ [x]) (out ++ [x.1]) (by simpa using hl) (by simp; omega)
      rw [nx, ap a x b, show (out ++ [x.1]).length = out.length + 1 by simp, ← IR_take out x.1] at this
      rw [fitL, if_pos h, show out ++ x.1 :: fitL k b = (out ++ [x.1]) ++ fitL k b by simp]
      exact ⟨Nat.le_refl _, ⟨by simp [IR], by unfold roomB; omega⟩, this⟩
    · have := l_ifitb k b (a ++ [x]) out (by simpa using hl) (by simp; omega)
      rw [nx, ap a x b] at this
      rw [fitL, if_neg (by rw [h]; simp)]
      exact this
theorem leIs0 : TV.Le (.c (.a (.fz .nils))) (aIs []) := .c _ _ (.a _ _ (.fz _ _ (.nils 1)))
theorem l_ifita (k : Key) : ∀ (b a : List (Int × Key)), (a ++ b).length ≤ 12 →
    RPt Try.prog 41 0 (aIs (fitL k b)) [] 1 ⟨[(3, .c (.a (.ep 0 5 0 0))), (5, .c (.a (.fz .nils))), (8, .c (.a (.fz (.sl false 6 (ER (a ++ b)))))), (9, ci (((ER (a ++ b)).length : Nat) : Int)), (10, ci a.length)], [(0, obK k)], 1⟩
  | [], a, hl => by
    refine RPt.vc hP sh lv41 (Eq.mpr (v41_1a (ER (a ++ [])) (((ER (a ++ [])).length : Nat) : Int) a.length k.any k.k k.nm k.n k.ar _ _) ?_)
    exact br_of (fun h => absurd (of_decide_eq_true h) (by simp [ER])) (fun _ => ⟨leIs0, rfl⟩)
  | x :: b, a, hl => by
    have hl' := hl
    simp only [List.length_append, List.length_cons] at hl'
    have hlt : (a.length : Int) < (((ER (a ++ x :: b)).length : Nat) : Int) := by simp [ER]; omega
    have em := er_mid a x b
    refine RPt.vc hP sh lv41 (Eq.mpr (v41_1a (ER (a ++ x :: b)) (((ER (a ++ x :: b)).length : Nat) : Int) a.length k.any k.k k.nm k.n k.ar _ _) ?_)
    rw [w64 (x := (a.length : Int) + 1) (by omega) (by omega), em]
    refine br_of (fun _ => ⟨⟨rfl, by omega, hlt, rfl⟩, meetsB x.2 k, c_meets x.2 k, br_of (fun h => ?_) (fun h => ?_)⟩) (fun h => absurd hlt (of_decide_eq_false h))
    · have := l_ifitb k b (a ++ [x]) [x.1] (by simpa using hl) (by simp)
      rw [nx, ap a x b] at this
      rw [fitL, if_pos h]
      exact ⟨Nat.le_refl _, by unfold roomB; omega, this⟩
    · have := l_ifita k b (a ++ [x]) (by simpa using hl)
      rw [nx, ap a x b] at this
      rw [fitL, if_neg (by rw [h]; simp)]
      exact this
theorem c_ifit (x : List (Int × Key)) (hx : x.length ≤ 12) (k : Key) : AC Try.prog 41 [.c (.a (.fz (.sl false 6 (ER x)))), aK k] [] (aIs (fitL k x)) [] := by
  have h := l_ifita k x [] hx
  refine AC.vc hP sh lv41 (Nat.le_refl _) (by simp) (by simp) (Eq.mpr (v41 ..) ?_)
  exact ⟨rfl, h⟩
def selT (nm : List UInt8) (ar : Int) (k : Key) (E : List Ent) : List Int := match lookT nm ar E with | some x => fitL k x | none => []
theorem c_itsel (E : List Ent) (hE : ∀ e ∈ E, e.2.2.length ≤ 12) (nm : List UInt8) (ar : Int) (k : Key) : AC Try.prog 22 [.c (.a (.ep 0 1 0 0)), cs nm, ci ar, aK k] [tab0, .mapz (tabZ E)] (aIs (selT nm ar k E)) [tab0, .mapz (tabZ E)] := by
  refine AC.vc hP sh lv22 (Nat.le_refl _) (by simp [isLive]) (by simp) (Eq.mpr (v22 ..) ?_)
  unfold selT
  cases h : lookT nm ar E with
  | some x =>
    obtain ⟨j, e, _, h2, h3⟩ := (findT nm ar E 0).2 x h
    exact .inl ⟨_, findZ_some h, _, c_ifit x (by rw [← h3]; exact hE e (List.mem_of_getElem? h2)) k, .refl _, rfl⟩
  | none => exact .inr ⟨findZ_none h, _, (c_ifit [] (by simp) k).args ⟨.c _ _ (.a _ _ (.fz _ _ (.nils 6))), .refl _, trivial⟩, .refl _, rfl⟩
/-! ### By a row -/
def selL (nm : List UInt8) (ar : Int) (k : Key) : List Cd → Int → List Int
  | [], _ => []
  | c :: l, i => if ((c.nm == nm) && ((c.ar == ar) && meetsB (firstK c) k)) = true then i :: selL nm ar k l (i + 1) else selL nm ar k l (i + 1)
theorem selL_len (nm : List UInt8) (ar : Int) (k : Key) : ∀ (l : List Cd) (i : Int), (selL nm ar k l i).length ≤ l.length
  | [], _ => Nat.le_refl _
  | c :: l, i => by have := selL_len nm ar k l (i + 1); rw [selL]; split <;> simp only [List.length_cons] <;> omega
theorem FC0 (c : Cd) : FV.asS (List.getD (FC c) 0 FV.nils) = c.nm := by cases c; rw [FC]; rfl
theorem FC1 (c : Cd) : FV.asI (List.getD (FC c) 1 FV.nils) = c.ar := by cases c; rw [FC]; rfl
theorem c_iclip (l : List Int) (hl : l.length ≤ 12) : AC Try.prog 40 [aIs l] [] (aIs l) [] := by
  refine AC.vc hP sh lv40 (Nat.le_refl _) (by simp) (by simp) (Eq.mpr (v40 ..) ?_)
  refine ⟨rfl, rfl, rfl, ⟨Int.le_refl _, by omega, Int.le_refl _, Int.le_refl _⟩, br_of (fun h => ?_) (fun _ => ?_)⟩
  · have : l = [] := by cases l with
      | nil => rfl
      | cons x l => simp [IR] at h; omega
    subst this
    exact ⟨.c _ _ (.a _ _ (.fz _ _ (.z0 _ _))), rfl⟩
  · rw [List.drop_zero, Int.toNat_natCast, List.take_of_length_le (Nat.le_refl _)]
    exact ⟨.refl _, rfl⟩
theorem fCr_ (c : Cd) : fCr (FC c) = [.str c.nm, .int .i64 c.ar, .int .i64 (FV.asI (List.getD (FC c) 2 FV.nils)), .int .i64 (FV.asI (List.getD (FC c) 3 FV.nils)), .int .i64 (FV.asI (List.getD (FC c) 4 FV.nils)), List.getD (FC c) 5 FV.nils] := by cases c; rw [FC]; rfl
theorem el_ (c : Cd) (L : List Cd) (n : Nat) (hlt : (n : Int) < (((FCs L).length : Nat) : Int)) : FV.isSl 6 (.sl false 6 (FCs L)) = true ∧ ((0 : Int) ≤ (n : Int) ∧ ((n : Int) < (((FCs L).length : Nat) : Int) ∧ ([.str c.nm, .int .i64 c.ar, .int .i64 (FV.asI (List.getD (FC c) 2 FV.nils)), .int .i64 (FV.asI (List.getD (FC c) 3 FV.nils)), .int .i64 (FV.asI (List.getD (FC c) 4 FV.nils)), List.getD (FC c) 5 FV.nils] : List FV) = FC c)) := ⟨rfl, by omega, hlt, by have := fCr_FC c; rw [fCr_] at this; exact this⟩
abbrev evS (nm : List UInt8) (ar : Int) (o : TV) (l : List Cd) (i : Int) : Env := [(1, cs nm), (2, ci ar), (7, .c (.a (.ep 0 5 0 0))), (9, o), (12, aCs l), (13, ci (((FCs l).length : Nat) : Int)), (14, ci i)]
abbrev evSr (nm : List UInt8) (ar : Int) (o : TV) (l : List Cd) (i : Int) : Env := [(0, aCs l), (1, cs nm), (2, ci ar), (7, .c (.a (.ep 0 5 0 0))), (9, o), (10, ci i)]
theorem aC_show (c : Cd) : (TV.agg [.a (.fz (.str (FV.asS (List.getD (FC c) 0 FV.nils)))), .a (.fz (.int .i64 (FV.asI (List.getD (FC c) 1 FV.nils)))), .a (.fz (.int .i64 (FV.asI (List.getD (FC c) 2 FV.nils)))), .a (.fz (.int .i64 (FV.asI (List.getD (FC c) 3 FV.nils)))), .a (.fz (.int .i64 (FV.asI (List.getD (FC c) 4 FV.nils)))), .a (.fz (List.getD (FC c) 5 FV.nils))]) = aC c := aCr_FC c
theorem l_iselb (nm : List UInt8) (ar : Int) (k : Key) : ∀ (b a : List Cd) (out : List Int), (a ++ b).length ≤ 12 → (∀ c ∈ b, c.sz ≤ B) → out.length ≤ a.length →
    RPt Try.prog 21 0 (aIs (out ++ selL nm ar k b a.length)) [] 1 ⟨evS nm ar (.c (.a (.osl 1 1 0 out.length))) (a ++ b) a.length, [(0, obK k), (1, .arz 1 (IR out))], 2⟩
  | [], a, out, hl, hz, ho => by
    have hge : ¬ (a.length : Int) < (((FCs (a ++ [])).length : Nat) : Int) := by rw [FCs_length]; simp
    have e1 : selL nm ar k [] a.length = [] := rfl
    rw [e1, List.append_nil]
    have hl' := hl
    simp only [List.length_append, List.length_nil] at hl'
    have hc := c_iclip out (by omega)
    have tk : List.take out.length (List.drop 0 (IR out)) = IR out := by rw [List.drop_zero, List.take_of_length_le (by simp [IR])]
    first
      | (refine RPt.vc hP sh lv21 (Eq.mpr (v21_1b nm ar out.length (FCs (a ++ [])) (((FCs (a ++ [])).length : Nat) : Int) a.length k.any k.k k.nm k.n k.ar (IR out) _ _) ?_)
         rw [tk]
         exact br_of (fun h => absurd (of_decide_eq_true h) hge) (fun _ => ⟨⟨rfl, by simp [IR]⟩, _, hc, .refl _, rfl⟩))
      | (refine RPt.vc hP sh lv21 (Eq.mpr (v21_1b (FCs (a ++ [])) nm ar out.length a.length k.any k.k k.nm k.n k.ar (IR out) _ _) ?_)
         rw [tk]
         exact ⟨rfl, br_of (fun h => absurd (of_decide_eq_true h) hge) (fun _ => ⟨⟨rfl, by simp [IR]⟩, .refl _, rfl⟩)⟩)
  | c :: b, a, out, hl, hz, ho => by
    have hl' := hl
    simp only [List.length_append, List.length_cons] at hl'
    have hlt : (a.length : Int) < (((FCs (a ++ c :: b)).length : Nat) : Int) := by rw [FCs_length]; simp; omega
    have em := fc_mid a c b
    have hf := c_first c (hz c List.mem_cons_self)
    have hm := c_meets (firstK c) k
    have el : FV.isSl 6 (.sl false 6 (FCs (a ++ c :: b))) = true ∧ ((0 : Int) ≤ (a.length : Int) ∧ ((a.length : Int) < (((FCs (a ++ c :: b)).length : Nat) : Int) ∧ (fCr (FC c) : List FV) = FC c)) := ⟨rfl, by omega, hlt, fCr_FC c⟩
    have eS : selL nm ar k (c :: b) a.length = if ((c.nm == nm) && ((c.ar == ar) && meetsB (firstK c) k)) = true then (a.length : Int) :: selL nm ar k b ((a.length : Int) + 1) else selL nm ar k b ((a.length : Int) + 1) := rfl
    have yes : ((c.nm == nm) && ((c.ar == ar) && meetsB (firstK c) k)) = true → RPt Try.prog 21 0 (aIs (out ++ selL nm ar k (c :: b) a.length)) [] 1 ⟨evS nm ar (.c (.a (.osl 1 1 0 (out.length + 1)))) (a ++ c :: b) ((a.length : Int) + 1), [(0, obK k), (1, .arz 1 (List.take out.length (IR out) ++ [[.int .i64 (a.length : Int)]]))], 2⟩ := fun q => by
      have := l_iselb nm ar k b (a ++ [c]) (out ++ [(a.length : Int)]) (by simpa using hl) (fun u hu => hz u (List.mem_cons_of_mem _ hu)) (by simp; omega)
      rw [nx, ap a c b, show (out ++ [(a.length : Int)]).length = out.length + 1 by simp, ← IR_take out (a.length : Int)] at this
      rw [eS, if_pos q, show out ++ (a.length : Int) :: selL nm ar k b ((a.length : Int) + 1) = (out ++ [(a.length : Int)]) ++ selL nm ar k b ((a.length : Int) + 1) by simp]
      exact this
    have no : ((c.nm == nm) && ((c.ar == ar) && meetsB (firstK c) k)) = false → RPt Try.prog 21 0 (aIs (out ++ selL nm ar k (c :: b) a.length)) [] 1 ⟨evS nm ar (.c (.a (.osl 1 1 0 out.length))) (a ++ c :: b) ((a.length : Int) + 1), [(0, obK k), (1, .arz 1 (IR out))], 2⟩ := fun q => by
      have := l_iselb nm ar k b (a ++ [c]) out (by simpa using hl) (fun u hu => hz u (List.mem_cons_of_mem _ hu)) (by simp; omega)
      rw [nx, ap a c b] at this
      rw [eS, if_neg (by rw [q]; simp)]
      exact this
    first
      | (refine RPt.vc hP sh lv21 (Eq.mpr (v21_1b nm ar out.length (FCs (a ++ c :: b)) (((FCs (a ++ c :: b)).length : Nat) : Int) a.length k.any k.k k.nm k.n k.ar (IR out) _ _) ?_)
         rw [w64 (x := (a.length : Int) + 1) (by omega) (by omega), em, aC_show, FC0, FC1]
         refine br_of (fun _ => ⟨el_ c (a ++ c :: b) a.length hlt, br_of (fun h => br_of (fun h2 => ⟨_, _, _, _, _, hf, _, hm, br_of (fun h3 => ⟨Nat.le_refl _, ⟨by simp [IR], by unfold roomB; omega⟩, yes ?_⟩) (fun h3 => no ?_)⟩) (fun h2 => no ?_)) (fun h => no ?_)⟩) (fun h => absurd hlt (of_decide_eq_false h)))
      | (refine RPt.vc hP sh lv21 (Eq.mpr (v21_1b (FCs (a ++ c :: b)) nm ar out.length a.length k.any k.k k.nm k.n k.ar (IR out) _ _) ?_)
         rw [w64 (x := (a.length : Int) + 1) (by omega) (by omega), em, aC_show, FC0, FC1]
         refine ⟨rfl, br_of (fun _ => ⟨el_ c (a ++ c :: b) a.length hlt, br_of (fun h => ⟨el_ c (a ++ c :: b) a.length hlt, br_of (fun h2 => ⟨el_ c (a ++ c :: b) a.length hlt, _, _, _, _, _, hf, _, hm, br_of (fun h3 => ⟨Nat.le_refl _, ⟨by simp [IR], by unfold roomB; omega⟩, yes ?_⟩) (fun h3 => no ?_)⟩) (fun h2 => no ?_)⟩) (fun h => no ?_)⟩) (fun h => absurd hlt (of_decide_eq_false h))⟩)
    all_goals simp_all
theorem l_isela (nm : List UInt8) (ar : Int) (k : Key) : ∀ (b a : List Cd), (a ++ b).length ≤ 12 → (∀ c ∈ b, c.sz ≤ B) →
    RPt Try.prog 21 0 (aIs (selL nm ar k b a.length)) [] 1 ⟨evS nm ar (.c (.a (.fz .nils))) (a ++ b) a.length, [(0, obK k)], 1⟩
  | [], a, hl, hz => by
    have hge : ¬ (a.length : Int) < (((FCs (a ++ [])).length : Nat) : Int) := by rw [FCs_length]; simp
    have hc := (c_iclip [] (by simp)).args (args := [.c (.a (.fz .nils))]) ⟨leIs0, trivial⟩
    first
      | (refine RPt.vc hP sh lv21 (Eq.mpr (v21_1a nm ar (FCs (a ++ [])) (((FCs (a ++ [])).length : Nat) : Int) a.length k.any k.k k.nm k.n k.ar _ _) ?_)
         exact br_of (fun h => absurd (of_decide_eq_true h) hge) (fun _ => ⟨_, hc, .refl _, rfl⟩))
      | (refine RPt.vc hP sh lv21 (Eq.mpr (v21_1a (FCs (a ++ [])) nm ar a.length k.any k.k k.nm k.n k.ar _ _) ?_)
         exact ⟨rfl, br_of (fun h => absurd (of_decide_eq_true h) hge) (fun _ => ⟨leIs0, rfl⟩)⟩)
  | c :: b, a, hl, hz => by
    have hl' := hl
    simp only [List.length_append, List.length_cons] at hl'
    have hlt : (a.length : Int) < (((FCs (a ++ c :: b)).length : Nat) : Int) := by rw [FCs_length]; simp; omega
    have em := fc_mid a c b
    have hf := c_first c (hz c List.mem_cons_self)
    have hm := c_meets (firstK c) k
    have eS : selL nm ar k (c :: b) a.length = if ((c.nm == nm) && ((c.ar == ar) && meetsB (firstK c) k)) = true then (a.length : Int) :: selL nm ar k b ((a.length : Int) + 1) else selL nm ar k b ((a.length : Int) + 1) := rfl
    have yes : ((c.nm == nm) && ((c.ar == ar) && meetsB (firstK c) k)) = true → RPt Try.prog 21 0 (aIs (selL nm ar k (c :: b) a.length)) [] 1 ⟨evS nm ar (.c (.a (.osl 1 1 0 1))) (a ++ c :: b) ((a.length : Int) + 1), [(0, obK k), (1, .arz 1 [[.int .i64 (a.length : Int)]])], 2⟩ := fun q => by
      have := l_iselb nm ar k b (a ++ [c]) [(a.length : Int)] (by simpa using hl) (fun u hu => hz u (List.mem_cons_of_mem _ hu)) (by simp)
      rw [nx, ap a c b] at this
      rw [eS, if_pos q]
      exact this
    have no : ((c.nm == nm) && ((c.ar == ar) && meetsB (firstK c) k)) = false → RPt Try.prog 21 0 (aIs (selL nm ar k (c :: b) a.length)) [] 1 ⟨evS nm ar (.c (.a (.fz .nils))) (a ++ c :: b) ((a.length : Int) + 1), [(0, obK k)], 1⟩ := fun q => by
      have := l_isela nm ar k b (a ++ [c]) (by simpa using hl) (fun u hu => hz u (List.mem_cons_of_mem _ hu))
      rw [nx, ap a c b] at this
      rw [eS, if_neg (by rw [q]; simp)]
      exact this
    first
      | (refine RPt.vc hP sh lv21 (Eq.mpr (v21_1a nm ar (FCs (a ++ c :: b)) (((FCs (a ++ c :: b)).length : Nat) : Int) a.length k.any k.k k.nm k.n k.ar _ _) ?_)
         rw [w64 (x := (a.length : Int) + 1) (by omega) (by omega), em, aC_show, FC0, FC1]
         refine br_of (fun _ => ⟨el_ c (a ++ c :: b) a.length hlt, br_of (fun h => br_of (fun h2 => ⟨_, _, _, _, _, hf, _, hm, br_of (fun h3 => ⟨Nat.le_refl _, by unfold roomB; omega, yes ?_⟩) (fun h3 => no ?_)⟩) (fun h2 => no ?_)) (fun h => no ?_)⟩) (fun h => absurd hlt (of_decide_eq_false h)))
      | (refine RPt.vc hP sh lv21 (Eq.mpr (v21_1a (FCs (a ++ c :: b)) nm ar a.length k.any k.k k.nm k.n k.ar _ _) ?_)
         rw [w64 (x := (a.length : Int) + 1) (by omega) (by omega), em, aC_show, FC0, FC1]
         refine ⟨rfl, br_of (fun _ => ⟨el_ c (a ++ c :: b) a.length hlt, br_of (fun h => ⟨el_ c (a ++ c :: b) a.length hlt, br_of (fun h2 => ⟨el_ c (a ++ c :: b) a.length hlt, _, _, _, _, _, hf, _, hm, br_of (fun h3 => ⟨Nat.le_refl _, by unfold roomB; omega, yes ?_⟩) (fun h3 => no ?_)⟩) (fun h2 => no ?_)⟩) (fun h => no ?_)⟩) (fun h => absurd hlt (of_decide_eq_false h))⟩)
    all_goals simp_all
theorem c_isel (l : List Cd) (hl : l.length ≤ 12) (hz : ∀ c ∈ l, c.sz ≤ B) (nm : List UInt8) (ar : Int) (k : Key) : AC Try.prog 21 [aCs l, cs nm, ci ar, aK k] [] (aIs (selL nm ar k l 0)) [] := by
  have h := l_isela nm ar k l [] hl hz
  refine AC.vc hP sh lv21 (Nat.le_refl _) (by simp) (by simp) (Eq.mpr (v21 ..) ?_)
  first | exact ⟨rfl, h⟩ | exact h
theorem l_irselb (nm : List UInt8) (ar : Int) (k : Key) : ∀ (b a : List Cd) (out : List Int), (a ++ b).length ≤ 12 → (∀ c ∈ b, c.sz ≤ B) → out.length ≤ a.length →
    RPt Try.prog 18 0 (aIs (out ++ selL nm ar k b a.length)) [] 1 ⟨evSr nm ar (.c (.a (.osl 1 1 0 out.length))) (a ++ b) a.length, [(0, obK k), (1, .arz 1 (IR out))], 2⟩
  | [], a, out, hl, hz, ho => by
    have hge : ¬ (a.length : Int) < (((FCs (a ++ [])).length : Nat) : Int) := by rw [FCs_length]; simp
    have e1 : selL nm ar k [] a.length = [] := rfl
    rw [e1, List.append_nil]
    have hl' := hl
    simp only [List.length_append, List.length_nil] at hl'
    have hc := c_iclip out (by omega)
    have tk : List.take out.length (List.drop 0 (IR out)) = IR out := by rw [List.drop_zero, List.take_of_length_le (by simp [IR])]
    first
      | (refine RPt.vc hP sh lv18 (Eq.mpr (v18_1b nm ar out.length (FCs (a ++ [])) (((FCs (a ++ [])).length : Nat) : Int) a.length k.any k.k k.nm k.n k.ar (IR out) _ _) ?_)
         rw [tk]
         exact br_of (fun h => absurd (of_decide_eq_true h) hge) (fun _ => ⟨⟨rfl, by simp [IR]⟩, _, hc, .refl _, rfl⟩))
      | (refine RPt.vc hP sh lv18 (Eq.mpr (v18_1b (FCs (a ++ [])) nm ar out.length a.length k.any k.k k.nm k.n k.ar (IR out) _ _) ?_)
         rw [tk]
         exact ⟨rfl, br_of (fun h => absurd (of_decide_eq_true h) hge) (fun _ => ⟨⟨rfl, by simp [IR]⟩, .refl _, rfl⟩)⟩)
  | c :: b, a, out, hl, hz, ho => by
    have hl' := hl
    simp only [List.length_append, List.length_cons] at hl'
    have hlt : (a.length : Int) < (((FCs (a ++ c :: b)).length : Nat) : Int) := by rw [FCs_length]; simp; omega
    have em := fc_mid a c b
    have hf := c_rfirst c (hz c List.mem_cons_self)
    have hm := c_rmeets (firstK c) k
    have el : FV.isSl 6 (.sl false 6 (FCs (a ++ c :: b))) = true ∧ ((0 : Int) ≤ (a.length : Int) ∧ ((a.length : Int) < (((FCs (a ++ c :: b)).length : Nat) : Int) ∧ (fCr (FC c) : List FV) = FC c)) := ⟨rfl, by omega, hlt, fCr_FC c⟩
    have eS : selL nm ar k (c :: b) a.length = if ((c.nm == nm) && ((c.ar == ar) && meetsB (firstK c) k)) = true then (a.length : Int) :: selL nm ar k b ((a.length : Int) + 1) else selL nm ar k b ((a.length : Int) + 1) := rfl
    have yes : ((c.nm == nm) && ((c.ar == ar) && meetsB (firstK c) k)) = true → RPt Try.prog 18 0 (aIs (out ++ selL nm ar k (c :: b) a.length)) [] 1 ⟨evSr nm ar (.c (.a (.osl 1 1 0 (out.length + 1)))) (a ++ c :: b) ((a.length : Int) + 1), [(0, obK k), (1, .arz 1 (List.take out.length (IR out) ++ [[.int .i64 (a.length : Int)]]))], 2⟩ := fun q => by
      have := l_irselb nm ar k b (a ++ [c]) (out ++ [(a.length : Int)]) (by simpa using hl) (fun u hu => hz u (List.mem_cons_of_mem _ hu)) (by simp; omega)
      rw [nx, ap a c b, show (out ++ [(a.length : Int)]).length = out.length + 1 by simp, ← IR_take out (a.length : Int)] at this
      rw [eS, if_pos q, show out ++ (a.length : Int) :: selL nm ar k b ((a.length : Int) + 1) = (out ++ [(a.length : Int)]) ++ selL nm ar k b ((a.length : Int) + 1) by simp]
      exact this
    have no : ((c.nm == nm) && ((c.ar == ar) && meetsB (firstK c) k)) = false → RPt Try.prog 18 0 (aIs (out ++ selL nm ar k (c :: b) a.length)) [] 1 ⟨evSr nm ar (.c (.a (.osl 1 1 0 out.length))) (a ++ c :: b) ((a.length : Int) + 1), [(0, obK k), (1, .arz 1 (IR out))], 2⟩ := fun q => by
      have := l_irselb nm ar k b (a ++ [c]) out (by simpa using hl) (fun u hu => hz u (List.mem_cons_of_mem _ hu)) (by simp; omega)
      rw [nx, ap a c b] at this
      rw [eS, if_neg (by rw [q]; simp)]
      exact this
    first
      | (refine RPt.vc hP sh lv18 (Eq.mpr (v18_1b nm ar out.length (FCs (a ++ c :: b)) (((FCs (a ++ c :: b)).length : Nat) : Int) a.length k.any k.k k.nm k.n k.ar (IR out) _ _) ?_)
         rw [w64 (x := (a.length : Int) + 1) (by omega) (by omega), em, aC_show, FC0, FC1]
         refine br_of (fun _ => ⟨el_ c (a ++ c :: b) a.length hlt, br_of (fun h => br_of (fun h2 => ⟨_, _, _, _, _, hf, _, hm, br_of (fun h3 => ⟨Nat.le_refl _, ⟨by simp [IR], by unfold roomB; omega⟩, yes ?_⟩) (fun h3 => no ?_)⟩) (fun h2 => no ?_)) (fun h => no ?_)⟩) (fun h => absurd hlt (of_decide_eq_false h)))
      | (refine RPt.vc hP sh lv18 (Eq.mpr (v18_1b (FCs (a ++ c :: b)) nm ar out.length a.length k.any k.k k.nm k.n k.ar (IR out) _ _) ?_)
         rw [w64 (x := (a.length : Int) + 1) (by omega) (by omega), em, aC_show, FC0, FC1]
         refine ⟨rfl, br_of (fun _ => ⟨el_ c (a ++ c :: b) a.length hlt, br_of (fun h => ⟨el_ c (a ++ c :: b) a.length hlt, br_of (fun h2 => ⟨el_ c (a ++ c :: b) a.length hlt, _, _, _, _, _, hf, _, hm, br_of (fun h3 => ⟨Nat.le_refl _, ⟨by simp [IR], by unfold roomB; omega⟩, yes ?_⟩) (fun h3 => no ?_)⟩) (fun h2 => no ?_)⟩) (fun h => no ?_)⟩) (fun h => absurd hlt (of_decide_eq_false h))⟩)
    all_goals simp_all
theorem l_irsela (nm : List UInt8) (ar : Int) (k : Key) : ∀ (b a : List Cd), (a ++ b).length ≤ 12 → (∀ c ∈ b, c.sz ≤ B) →
    RPt Try.prog 18 0 (aIs (selL nm ar k b a.length)) [] 1 ⟨evSr nm ar (.c (.a (.fz .nils))) (a ++ b) a.length, [(0, obK k)], 1⟩
  | [], a, hl, hz => by
    have hge : ¬ (a.length : Int) < (((FCs (a ++ [])).length : Nat) : Int) := by rw [FCs_length]; simp
    have hc := (c_iclip [] (by simp)).args (args := [.c (.a (.fz .nils))]) ⟨leIs0, trivial⟩
    first
      | (refine RPt.vc hP sh lv18 (Eq.mpr (v18_1a nm ar (FCs (a ++ [])) (((FCs (a ++ [])).length : Nat) : Int) a.length k.any k.k k.nm k.n k.ar _ _) ?_)
         exact br_of (fun h => absurd (of_decide_eq_true h) hge) (fun _ => ⟨_, hc, .refl _, rfl⟩))
      | (refine RPt.vc hP sh lv18 (Eq.mpr (v18_1a (FCs (a ++ [])) nm ar a.length k.any k.k k.nm k.n k.ar _ _) ?_)
         exact ⟨rfl, br_of (fun h => absurd (of_decide_eq_true h) hge) (fun _ => ⟨leIs0, rfl⟩)⟩)
  | c :: b, a, hl, hz => by
    have hl' := hl
    simp only [List.length_append, List.length_cons] at hl'
    have hlt : (a.length : Int) < (((FCs (a ++ c :: b)).length : Nat) : Int) := by rw [FCs_length]; simp; omega
    have em := fc_mid a c b
    have hf := c_rfirst c (hz c List.mem_cons_self)
    have hm := c_rmeets (firstK c) k
    have eS : selL nm ar k (c :: b) a.length = if ((c.nm == nm) && ((c.ar == ar) && meetsB (firstK c) k)) = true then (a.length : Int) :: selL nm ar k b ((a.length : Int) + 1) else selL nm ar k b ((a.length : Int) + 1) := rfl
    have yes : ((c.nm == nm) && ((c.ar == ar) && meetsB (firstK c) k)) = true → RPt Try.prog 18 0 (aIs (selL nm ar k (c :: b) a.length)) [] 1 ⟨evSr nm ar (.c (.a (.osl 1 1 0 1))) (a ++ c :: b) ((a.length : Int) + 1), [(0, obK k), (1, .arz 1 [[.int .i64 (a.length : Int)]])], 2⟩ := fun q => by
      have := l_irselb nm ar k b (a ++ [c]) [(a.length : Int)] (by simpa using hl) (fun u hu => hz u (List.mem_cons_of_mem _ hu)) (by simp)
      rw [nx, ap a c b] at this
      rw [eS, if_pos q]
      exact this
    have no : ((c.nm == nm) && ((c.ar == ar) && meetsB (firstK c) k)) = false → RPt Try.prog 18 0 (aIs (selL nm ar k (c :: b) a.length)) [] 1 ⟨evSr nm ar (.c (.a (.fz .nils))) (a ++ c :: b) ((a.length : Int) + 1), [(0, obK k)], 1⟩ := fun q => by
      have := l_irsela nm ar k b (a ++ [c]) (by simpa using hl) (fun u hu => hz u (List.mem_cons_of_mem _ hu))
      rw [nx, ap a c b] at this
      rw [eS, if_neg (by rw [q]; simp)]
      exact this
    first
      | (refine RPt.vc hP sh lv18 (Eq.mpr (v18_1a nm ar (FCs (a ++ c :: b)) (((FCs (a ++ c :: b)).length : Nat) : Int) a.length k.any k.k k.nm k.n k.ar _ _) ?_)
         rw [w64 (x := (a.length : Int) + 1) (by omega) (by omega), em, aC_show, FC0, FC1]
         refine br_of (fun _ => ⟨el_ c (a ++ c :: b) a.length hlt, br_of (fun h => br_of (fun h2 => ⟨_, _, _, _, _, hf, _, hm, br_of (fun h3 => ⟨Nat.le_refl _, by unfold roomB; omega, yes ?_⟩) (fun h3 => no ?_)⟩) (fun h2 => no ?_)) (fun h => no ?_)⟩) (fun h => absurd hlt (of_decide_eq_false h)))
      | (refine RPt.vc hP sh lv18 (Eq.mpr (v18_1a (FCs (a ++ c :: b)) nm ar a.length k.any k.k k.nm k.n k.ar _ _) ?_)
         rw [w64 (x := (a.length : Int) + 1) (by omega) (by omega), em, aC_show, FC0, FC1]
         refine ⟨rfl, br_of (fun _ => ⟨el_ c (a ++ c :: b) a.length hlt, br_of (fun h => ⟨el_ c (a ++ c :: b) a.length hlt, br_of (fun h2 => ⟨el_ c (a ++ c :: b) a.length hlt, _, _, _, _, _, hf, _, hm, br_of (fun h3 => ⟨Nat.le_refl _, by unfold roomB; omega, yes ?_⟩) (fun h3 => no ?_)⟩) (fun h2 => no ?_)⟩) (fun h => no ?_)⟩) (fun h => absurd hlt (of_decide_eq_false h))⟩)
    all_goals simp_all
theorem c_irsel (l : List Cd) (hl : l.length ≤ 12) (hz : ∀ c ∈ l, c.sz ≤ B) (nm : List UInt8) (ar : Int) (k : Key) : AC Try.prog 18 [aCs l, cs nm, ci ar, aK k] [] (aIs (selL nm ar k l 0)) [] := by
  have h := l_irsela nm ar k l [] hl hz
  refine AC.vc hP sh lv18 (Nat.le_refl _) (by simp) (by simp) (Eq.mpr (v18 ..) ?_)
  first | exact ⟨rfl, h⟩ | exact h

end Go.AM

set_option maxRecDepth 100000
open Go Go.Proofs
namespace Go.AM

/-! ### What is within -/
def kidsV (t : Tm) : FV := if t.inner = true then .sl false 4 (FTs t.l) else .nils
theorem kidsV_ses (t : Tm) : (kidsV t).ses = FTs t.kids ∧ (kidsV t).isSl 4 = true := by
  unfold kidsV Tm.kids
  split <;> exact ⟨rfl, rfl⟩
mutual
def sizeF : Tm → Nat
  | .mk k _ _ l => 1 + if (k == 5 || k == 6) = true then sizeL l else 0
def sizeL : List Tm → Nat
  | [] => 0
  | t :: l => sizeF t + sizeL l
end
theorem sizeF_eq (t : Tm) : sizeF t = 1 + sizeL t.kids := by
  obtain ⟨k, s, n, l⟩ := t
  by_cases h : (k == 5 || k == 6) = true
  · rw [show Tm.kids (.mk k s n l) = l from if_pos h, sizeF, if_pos h]
  · rw [show Tm.kids (.mk k s n l) = [] from if_neg h, sizeF, if_neg h]; rfl
mutual
theorem sizeF_le : ∀ t : Tm, sizeF t ≤ t.sz
  | .mk k s n l => by have := sizeL_le l; simp only [sizeF, Tm.sz]; split <;> omega
theorem sizeL_le : ∀ l : List Tm, sizeL l ≤ Tm.szs l
  | [] => Nat.le_refl _
  | t :: l => by have := sizeF_le t; have := sizeL_le l; simp only [sizeL, Tm.szs]; omega
end
/-! ### How loose -/
mutual
/-- Numbers of what is bound, up to M. -/
def bd (M : Int) : Tm → Prop
  | .mk k _ n l => (k = 3 → 0 - M ≤ n ∧ n ≤ M) ∧ bds M l
def bds (M : Int) : List Tm → Prop
  | [] => True
  | t :: l => bd M t ∧ bds M l
end
theorem bds_mem {M : Int} : ∀ {l : List Tm} {t : Tm}, bds M l → t ∈ l → bd M t
  | x :: l, t, h, ht => by
    rcases List.mem_cons.1 ht with rfl | ht
    · exact h.1
    · exact bds_mem h.2 ht
theorem bd_l {M : Int} {t : Tm} (h : bd M t) : bds M t.l := by cases t; exact h.2
def maxI (a b : Int) : Int := if a ≤ b then b else a
theorem foldMax2 (a b : Int) : foldMax [a, b] = maxI a b := by
  simp only [foldMax, List.foldl, maxI, max, maxOfLe]
mutual
def looseF : Tm → Int → Int → Int
  | .mk kd _ n l, k, acc => if (kd == 5) = true then looseL l (k + 1) acc else if (kd == 6) = true then looseL l k acc else if (kd == 3) = true then maxI acc (n - k + 1) else acc
def looseL : List Tm → Int → Int → Int
  | [], _, acc => acc
  | t :: l, k, acc => looseL l k (looseF t k acc)
end
abbrev obj1 (n : Int) : AObj := .arr 1 [[.a (.fz (.int .i64 n))]]
end Go.AM

set_option maxRecDepth 100000
open Go Go.Proofs
namespace Go.AM

/-! ### Rows put together -/
theorem c_grow (n : Int) (h0 : 0 ≤ n) (h1 : n ≤ 2199023255552) : (n = 0 → AC Try.prog 83 [.c (.a (.fz .nils)), ci n] [] (.c (.a (.fz .nils))) []) ∧
    (n ≠ 0 → AC Try.prog 83 [.c (.a (.fz .nils)), ci n] [] (.c (.a (.osl 0 4 0 0))) [.arz 4 []]) := by
  constructor
  · intro hn
    refine AC.vc hP sh lv83 (Nat.le_refl _) (by simp) (by simp) (Eq.mpr (v83 ..) ?_)
    refine br_of (fun h => absurd (of_decide_eq_true h) (by omega)) (fun _ => ⟨rfl, br_of (fun h => ?_) (fun _ => ret_r (.refl _))⟩)
    rw [w64 (by omega) (by omega)] at h
    exact absurd (of_decide_eq_true h) (by omega)
  · intro hn
    refine AC.vc hP sh lv83 (by simp) (by simp) (by simp [isLive]) (Eq.mpr (v83 ..) ?_)
    rw [w64 (by omega) (by omega)]
    refine br_of (fun h => absurd (of_decide_eq_true h) (by omega)) (fun _ => ⟨rfl, br_of (fun h => ⟨rfl, ⟨by omega, by omega, by omega⟩, ⟨by omega, by unfold roomB; omega⟩, rfl, ⟨by omega, by omega, by omega⟩, .refl _, rfl⟩) (fun h => absurd (of_decide_eq_false h) (by omega))⟩)
/-- Rows of rows. -/
def FLs (ls : List (List Tm)) : List (List FV) := ls.map fun l => [.sl false 4 (FTs l)]
def total (ls : List (List Tm)) : Nat := (ls.map List.length).foldr (· + ·) 0
theorem FLs_length (ls : List (List Tm)) : (FLs ls).length = ls.length := by simp [FLs]
theorem midL (a : List (List Tm)) (l : List Tm) (b : List (List Tm)) : List.getD (FLs (a ++ l :: b)) (Int.toNat (a.length : Int)) [] = [.sl false 4 (FTs l)] := by
  rw [show Int.toNat (a.length : Int) = a.length by omega]
  simp [List.getD, FLs]
theorem ltL (a : List (List Tm)) (t : List Tm) (b : List (List Tm)) : (a.length : Int) < (((FLs (a ++ t :: b)).length : Nat) : Int) := by rw [FLs_length]; exact ltI a t b
theorem total_mid (a : List (List Tm)) (l : List Tm) (b : List (List Tm)) : total (a ++ l :: b) = total a + l.length + total b := by
  induction a with
  | nil => simp [total]
  | cons x a ih => simp only [total, List.cons_append, List.map_cons, List.foldr_cons] at ih ⊢; omega
theorem total_snoc (a : List (List Tm)) (l : List Tm) : total (a ++ [l]) = total a + l.length := by rw [total_mid]; simp [total]
abbrev aLs (ls : List (List Tm)) : TV := .c (.a (.fz (.sl false 1 (FLs ls))))
theorem roomI {n : Nat} (h : n ≤ 2199023255552) : roomB n 56 := by unfold roomB; omega
theorem l_cat3 : ∀ (b a : List (List Tm)) (acc : List Tm), acc.length + total b ≤ 2199023255552 → (a ++ b).length ≤ B →
    RPt Try.prog 57 0 (aL (acc ++ b.flatten)) [] 5 ⟨[(6, (.c (.a (.osl 0 4 0 acc.length)))), (25, aLs (a ++ b)), (26, ci (a ++ b).length), (27, ci a.length)], [(0, (.arz 4 (FTs acc)))], 1⟩
  | [], a, acc, ht, hl => by
    refine RPt.vc hP sh lv57 (Eq.mpr (v57_5b ..) ?_)
    refine br_of (fun h => absurd (of_decide_eq_true h) (by simp)) (fun _ => ⟨⟨rfl, by rw [FTs_length]; omega⟩, ret_r ?_⟩)
    rw [List.drop_zero, List.take_of_length_le (by rw [FTs_length]; omega), List.flatten_nil, List.append_nil]
    exact le_c leSl
  | l :: b, a, acc, ht, hl => by
    refine RPt.vc hP sh lv57 (Eq.mpr (v57_5b ..) ?_)
    have hl' := hl
    have h3 := ltL a l b
    simp only [List.length_append, List.length_cons, B] at hl'
    have ht' : acc.length + (l.length + total b) ≤ 2199023255552 := by simpa [total] using ht
    have h2 := l_cat3 b (a ++ [l]) (acc ++ l) (by rw [List.length_append]; omega) (by rw [ap]; exact hl)
    rw [ap, nx] at h2
    rw [midL, w64 (by omega) (by omega)]
    refine br_of (fun _ => ⟨⟨rfl, by omega, h3, rfl⟩, rfl, ⟨by rw [FTs_length]; omega, ?_⟩, ?_⟩) (fun h => absurd (ltI a l b) (of_decide_eq_false h))
    · show roomB (acc.length + (FTs l).length) 56
      rw [FTs_length]; exact roomI (by omega)
    · show RPt _ _ _ _ _ _ ⟨[(6, (.c (.a (.osl 0 4 0 (acc.length + (FTs l).length))))), _, _, _], [(0, .arz 4 (List.take acc.length (FTs acc) ++ FTs l))], 1⟩
      rw [List.take_of_length_le (by rw [FTs_length]; omega), ← FTs_append, FTs_length, ← List.length_append]
      rw [show acc ++ (l :: b).flatten = acc ++ l ++ b.flatten by simp]
      exact h2
theorem l_cat2 : ∀ (b a : List (List Tm)), total b ≤ 2199023255552 → (a ++ b).length ≤ B →
    RPt Try.prog 57 0 (aL b.flatten) [] 5 ⟨[(6, (.c (.a (.fz .nils)))), (25, aLs (a ++ b)), (26, ci (a ++ b).length), (27, ci a.length)], [], 0⟩
  | [], a, ht, hl => by
    refine RPt.vc hP sh lv57 (Eq.mpr (v57_5a ..) ?_)
    refine br_of (fun h => absurd (of_decide_eq_true h) (by simp)) (fun _ => ret_r (le_c leNil))
  | l :: b, a, ht, hl => by
    refine RPt.vc hP sh lv57 (Eq.mpr (v57_5a ..) ?_)
    have hl' := hl
    have h3 := ltL a l b
    simp only [List.length_append, List.length_cons, B] at hl'
    have ht' : l.length + total b ≤ 2199023255552 := by simpa [total] using ht
    rw [midL, w64 (by omega) (by omega)]
    refine br_of (fun _ => ⟨⟨rfl, by omega, h3, rfl⟩, rfl, ?_⟩) (fun h => absurd (ltI a l b) (of_decide_eq_false h))
    show br (List.isEmpty (FTs l)) _ _
    refine br_of (fun he => ?_) (fun he => ⟨?_, ?_⟩)
    · have h2 := l_cat2 b (a ++ [l]) (by omega) (by rw [ap]; exact hl)
      rw [ap, nx] at h2
      have hnil : l = [] := by cases l with
        | nil => rfl
        | cons x l => simp [FTs] at he
      rw [show (l :: b).flatten = b.flatten by rw [hnil]; simp]
      exact h2
    · show roomB (FTs l).length 56
      rw [FTs_length]; exact roomI (by omega)
    · have h2 := l_cat3 b (a ++ [l]) l (by omega) (by rw [ap]; exact hl)
      rw [ap, nx] at h2
      show RPt _ _ _ _ _ _ ⟨[(6, (.c (.a (.osl 0 4 0 (FTs l).length)))), _, _, _], [(0, .arz 4 (FTs l))], 1⟩
      rw [FTs_length, List.flatten_cons]
      exact h2
theorem l_cat1 : ∀ (b a : List (List Tm)), total (a ++ b) ≤ 2199023255552 → (a ++ b).length ≤ B →
    RPt Try.prog 57 0 (aL (a ++ b).flatten) [] 1 ⟨[(0, aLs (a ++ b)), (3, ci (total a)), (9, aLs (a ++ b)), (10, ci (a ++ b).length), (11, ci a.length)], [], 0⟩
  | [], a, ht, hl => by
    refine RPt.vc hP sh lv57 (Eq.mpr (v57_1a ..) ?_)
    have hg := c_grow (total a : Int) (by omega) (by simp only [List.append_nil] at ht; omega)
    refine br_of (fun h => absurd (of_decide_eq_true h) (by simp)) (fun _ => ?_)
    have e : (((FLs (a ++ [])).length : Nat) : Int) = (((a ++ []).length : Nat) : Int) := by rw [FLs_length]
    rw [e]
    by_cases hz : total a = 0
    · have h2 := l_cat2 (a ++ []) [] (by simpa using ht) (by simpa using hl)
      exact .inl ⟨(), hg.1 (by omega), rfl, by simpa using h2⟩
    · have h2 := l_cat3 (a ++ []) [] [] (by simpa using ht) (by simpa using hl)
      exact .inr ⟨(), hg.2 (by omega), rfl, by simpa [FTs] using h2⟩
  | l :: b, a, ht, hl => by
    refine RPt.vc hP sh lv57 (Eq.mpr (v57_1a ..) ?_)
    have hl' := hl
    have ht' := ht
    have h3 := ltL a l b
    rw [total_mid] at ht'
    simp only [List.length_append, List.length_cons, B] at hl'
    have h2 := l_cat1 b (a ++ [l]) (by rw [ap]; exact ht) (by rw [ap]; exact hl)
    rw [ap, nx, total_snoc] at h2
    rw [midL, w64 (x := (a.length : Int) + 1) (by omega) (by omega)]
    refine br_of (fun _ => ⟨⟨rfl, by omega, h3, rfl⟩, rfl, ?_⟩) (fun h => absurd (ltI a l b) (of_decide_eq_false h))
    show br (decide (IntKind.wrap .i64 ((total a : Int) + (((FTs l).length : Nat) : Int)) < 0)) _ (RPt _ _ _ _ _ _ ⟨[_, (3, ci (IntKind.wrap .i64 ((total a : Int) + (((FTs l).length : Nat) : Int)))), _, _, _], _, _⟩)
    rw [FTs_length, w64 (by omega) (by omega)]
    refine br_of (fun h => absurd (of_decide_eq_true h) (by omega)) (fun _ => ?_)
    simpa using h2
theorem c_concat (ls : List (List Tm)) (ht : total ls ≤ 2199023255552) (hl : ls.length ≤ B) : AC Try.prog 57 [aLs ls] [] (aL ls.flatten) [] := by
  refine AC.vc hP sh lv57 (Nat.le_refl _) (by simp) (by simp) (Eq.mpr (v57 ..) ?_)
  have := l_cat1 ls [] (by simpa using ht) (by simpa using hl)
  have e : (((FLs ls).length : Nat) : Int) = ((ls.length : Nat) : Int) := by rw [FLs_length]
  rw [e]
  exact ⟨rfl, by simpa [total] using this⟩
/-- Two rows, each as it may come. -/
theorem c_concat2 {x y : FV} {l m : List Tm} (hx : FV.Le x (.sl false 4 (FTs l))) (hy : FV.Le y (.sl false 4 (FTs m))) (ht : l.length + m.length ≤ 2199023255552) : AC Try.prog 57 [.c (.a (.fz (.sl false 1 [[x], [y]])))] [] (aL (l ++ m)) [] := by
  have h := c_concat [l, m] (by simpa [total] using ht) (by simp [B])
  rw [show [l, m].flatten = l ++ m by simp] at h
  refine h.args ⟨le_c (.trans _ _ _ (.rows false 1 _ (FLs [l, m]) rfl (fun i e e' he he' => ?_) (fun i j e e' f f' he he' hf hf' => ?_)) (.nn _ _ _)), trivial⟩
  · match i, he, he' with
    | 0, he, he' => simp [FLs] at he he'; subst he; subst he'; rfl
    | 1, he, he' => simp [FLs] at he he'; subst he; subst he'; rfl
    | i + 2, he, he' => simp at he
  · match i, he, he' with
    | 0, he, he' =>
      simp [FLs] at he he'; subst he; subst he'
      match j, hf, hf' with
      | 0, hf, hf' => simp at hf hf'; subst hf; subst hf'; exact hx
      | j + 1, hf, hf' => simp at hf
    | 1, he, he' =>
      simp [FLs] at he he'; subst he; subst he'
      match j, hf, hf' with
      | 0, hf, hf' => simp at hf hf'; subst hf; subst hf'; exact hy
      | j + 1, hf, hf' => simp at hf
    | i + 2, he, he' => simp at he
/-- Applied. -/
def applyF (f : Tm) (args : List Tm) : Tm :=
  match args with
  | [] => f
  | _ => if (f.k == 6) = true ∧ f.l ≠ [] then .mk 6 [] 0 (f.l ++ args) else .mk 6 [] 0 (f :: args)
theorem c_apply (f : Tm) (args : List Tm) (h : f.l.length + args.length < 2199023255552) : AC Try.prog 32 [aT f, aL args] [] (aT (applyF f args)) [] := by
  obtain ⟨k, s, n, l⟩ := f
  simp only [Tm.l] at h
  refine AC.vc hP sh lv32 (Nat.le_refl _) (by simp) (by simp) (Eq.mpr (v32 k s n (FTs l) (FTs args) _ _) ?_)
  refine ⟨rfl, br_of (fun h1 => ?_) (fun h1 => ?_)⟩
  · have : args = [] := by cases args with
      | nil => rfl
      | cons x l => simp [FTs] at h1; omega
    subst this
    exact ret_r (.refl _)
  · match args, h1, h with
    | [], h1, _ => simp [FTs] at h1
    | a :: r, h1, h =>
      have one : FV.Le (.sl false 4 [[.int .i64 k, .str s, .int .i64 n, .sl false 4 (FTs l)]]) (.sl false 4 (FTs [.mk k s n l])) := .nn _ _ _
      have same : ∀ l : List Tm, FV.Le (.sl false 4 (FTs l)) (.sl false 4 (FTs l)) := fun _ => .refl _
      refine br_of (fun h2 => ⟨rfl, br_of (fun h3 => ⟨⟨rfl, by omega⟩, _, c_concat2 (same l) (same (a :: r)) (by omega), ret_r ?_⟩) (fun h3 => ⟨⟨rfl, by omega⟩, ⟨rfl, by omega⟩, _, c_concat2 one (same (a :: r)) (by simp only [List.length_cons, List.length_nil] at h ⊢; omega), ret_r ?_⟩)⟩)
        (fun h2 => ⟨⟨rfl, by omega⟩, ⟨rfl, by omega⟩, _, c_concat2 one (same (a :: r)) (by simp only [List.length_cons, List.length_nil] at h ⊢; omega), ret_r ?_⟩)
      · have hl : l ≠ [] := by intro e; subst e; simp [FTs] at h3
        rw [show applyF (.mk k s n l) (a :: r) = .mk 6 [] 0 (l ++ a :: r) from if_pos ⟨h2, hl⟩]
        exact .refl _
      · have hl : l = [] := by cases l with
          | nil => rfl
          | cons x l => simp [FTs] at h3
        rw [show applyF (.mk k s n l) (a :: r) = .mk 6 [] 0 (.mk k s n l :: a :: r) from if_neg (fun e => e.2 hl)]
        exact .refl _
      · rw [show applyF (.mk k s n l) (a :: r) = .mk 6 [] 0 (.mk k s n l :: a :: r) from if_neg (fun e => by have := e.1; simp only [Tm.k, h2] at this; cases this)]
        exact .refl _

end Go.AM

set_option maxRecDepth 100000
open Go Go.Proofs
namespace Go.AM

/-! ### The plain law: by a table as by a row -/
def rowsT (nm : List UInt8) (ar : Int) (E : List Ent) : List (Int × Key) := match lookT nm ar E with | some x => x | none => []
theorem rowsT_ins (nm : List UInt8) (ar : Int) (p : List UInt8 × Int) (x : Int × Key) : ∀ E : List Ent, rowsT nm ar (insT p x E) = if ((nm == p.1) && (ar == p.2)) = true then rowsT nm ar E ++ [x] else rowsT nm ar E
  | [] => by
    simp only [insT, rowsT, lookT, Bool.and_true]
    by_cases q : ((nm == p.1) && (ar == p.2)) = true
    · rw [if_pos q]; simp [q]
    · simp only [Bool.not_eq_true] at q; simp [q]
  | e :: E => by
    have ih := rowsT_ins nm ar p x E
    by_cases h1 : (((p.1 : List UInt8) == e.1) && (((p.2 : Int) == e.2.1) && true)) = true
    · have e1 : p.1 = e.1 := by simp at h1; exact h1.1
      have e2 : p.2 = e.2.1 := by simp at h1; exact h1.2
      rw [insT, if_pos h1]
      simp only [rowsT, lookT, Bool.and_true, ← e1, ← e2]
      by_cases q : ((nm == p.1) && (ar == p.2)) = true
      · simp [q]
      · simp only [Bool.not_eq_true] at q; simp [q]
    · rw [insT, if_neg h1]
      by_cases h2 : (((nm : List UInt8) == e.1) && (((ar : Int) == e.2.1) && true)) = true
      · have e1 : nm = e.1 := by simp at h2; exact h2.1
        have e2 : ar = e.2.1 := by simp at h2; exact h2.2
        have hne : ¬ ((nm == p.1) && (ar == p.2)) = true := by
          intro q
          simp only [Bool.and_eq_true, beq_iff_eq] at q
          apply h1
          rw [← q.1, ← q.2, e1, e2]; simp
        rw [if_neg hne]
        simp only [rowsT, lookT, h2, if_true]
      · simp only [rowsT, lookT, h2] at ih ⊢
        exact ih
def newR (nm : List UInt8) (ar : Int) : List Cd → Int → List (Int × Key)
  | [], _ => []
  | c :: l, i => if ((nm == c.nm) && (ar == c.ar)) = true then (i, firstK c) :: newR nm ar l (i + 1) else newR nm ar l (i + 1)
theorem rowsT_tab (nm : List UInt8) (ar : Int) : ∀ (l : List Cd) (i : Int) (E : List Ent), rowsT nm ar (tabT l i E) = rowsT nm ar E ++ newR nm ar l i
  | [], i, E => by simp [tabT, newR]
  | c :: l, i, E => by
    rw [tabT, rowsT_tab nm ar l (i + 1), rowsT_ins, newR]
    split <;> simp
theorem fit_new (nm : List UInt8) (ar : Int) (k : Key) : ∀ (l : List Cd) (i : Int), fitL k (newR nm ar l i) = selL nm ar k l i
  | [], i => rfl
  | c :: l, i => by
    have ih := fit_new nm ar k l (i + 1)
    have e1 : (nm == c.nm) = (c.nm == nm) := by rw [Bool.eq_iff_iff]; simp only [beq_iff_eq]; exact eq_comm
    have e2 : (ar == c.ar) = (c.ar == ar) := by rw [Bool.eq_iff_iff]; simp only [beq_iff_eq]; exact eq_comm
    rw [newR, selL, e1, e2]
    cases c.nm == nm <;> cases c.ar == ar <;> simp only [Bool.true_and, Bool.false_and, Bool.false_eq_true, if_true, if_false, fitL, ih]
theorem selT_tab (nm : List UInt8) (ar : Int) (k : Key) (l : List Cd) : selT nm ar k (tabT l 0 []) = selL nm ar k l 0 := by
  have h := rowsT_tab nm ar l 0 []
  rw [← fit_new, show newR nm ar l 0 = rowsT nm ar (tabT l 0 []) by rw [h]; rfl]
  unfold selT rowsT
  cases lookT nm ar (tabT l 0 []) <;> rfl
theorem tabT_mem : ∀ (l : List Cd) (i : Int) (E : List Ent) (n : Nat), (∀ e ∈ E, e.2.2.length ≤ n) → ∀ e ∈ tabT l i E, e.2.2.length ≤ n + l.length
  | [], i, E, n, h, e, he => h e he
  | c :: l, i, E, n, h, e, he => by
    have := tabT_mem l (i + 1) _ (n + 1) (insT_mem (c.nm, c.ar) (i, firstK c) n E h) e he
    simp only [List.length_cons]; omega
/-! ### What is looked at -/
def overC (l : List Cd) : Bool := decide ((l.length : Int) > 12) || l.any fun c => largeC c 40 || decide ((c.nm.length : Int) > 60)
theorem l_iover (l : List Cd) (hl : l.length ≤ 12) (hz : ∀ c ∈ l, c.sz ≤ B) : ∀ (b a : List Cd), l = a ++ b → RPt Try.prog 10 0 (cb (b.any fun c => largeC c 40 || decide ((c.nm.length : Int) > 60))) [] 1 ⟨[(0, aCs l), (3, ci a.length)], [], 0⟩
  | [], a, hx => by
    refine RPt.vc hP sh lv10 (Eq.mpr (v10_1a ..) ?_)
    refine ⟨rfl, br_of (fun h => absurd (of_decide_eq_true h) (by rw [hx, FCs_length]; simp)) (fun _ => ret_b rfl)⟩
  | c :: b, a, hx => by
    have hl' := hl
    rw [hx, List.length_append, List.length_cons] at hl'
    have hlt : (a.length : Int) < (((FCs l).length : Nat) : Int) := by rw [hx, FCs_length]; simp; omega
    have em : List.getD (FCs l) (Int.toNat (a.length : Int)) [] = FC c := by rw [hx]; exact fc_mid a c b
    have hc := c_clarge c (hz c (by rw [hx]; simp)) 40 (by omega) (by omega)
    refine RPt.vc hP sh lv10 (Eq.mpr (v10_1a ..) ?_)
    rw [w64 (x := (a.length : Int) + 1) (by omega) (by omega), em, aC_show, FC0, FC1]
    have next := l_iover l hl hz b (a ++ [c]) (by rw [hx]; simp)
    rw [nx] at next
    refine ⟨rfl, br_of (fun _ => ⟨el_ c l a.length hlt, _, hc, br_of (fun h => ret_b (by simp [h])) (fun h => ⟨el_ c l a.length hlt, br_of (fun h2 => ret_b (by simp [h, of_decide_eq_true h2])) (fun h2 => ?_)⟩)⟩) (fun h => absurd hlt (of_decide_eq_false h))⟩
    rw [List.any_cons, h, h2, Bool.false_or, Bool.false_or]
    exact next
theorem c_iover (l : List Cd) (hz : ∀ c ∈ l, c.sz ≤ B) : AC Try.prog 10 [aCs l] [] (cb (overC l)) [] := by
  refine AC.vc hP sh lv10 (Nat.le_refl _) (by simp) (by simp) (Eq.mpr (v10 ..) ?_)
  unfold overC
  rw [FCs_length]
  refine ⟨rfl, br_of (fun h => by rw [h]; exact ret_b rfl) (fun h => ?_)⟩
  rw [h, Bool.false_or]
  exact l_iover l (by have := of_decide_eq_false h; omega) hz l [] rfl
theorem ir_get (a : List Int) (x : Int) (b : List Int) : List.getD (IR (a ++ x :: b)) (Int.toNat (a.length : Int)) [] = [.int .i64 x] := by
  rw [show Int.toNat (a.length : Int) = a.length by omega, IR]; simp [List.getD]
theorem l_isame (l : List Int) (hl : l.length ≤ 12) : ∀ (b a : List Int), l = a ++ b → RPt Try.prog 20 0 (cb true) [] 1 ⟨[(0, aIs l), (1, aIs l), (5, ci a.length)], [], 0⟩
  | [], a, hx => by
    refine RPt.vc hP sh lv20 (Eq.mpr (v20_1a ..) ?_)
    exact ⟨rfl, br_of (fun h => absurd (of_decide_eq_true h) (by rw [hx]; simp [IR])) (fun _ => ret_b rfl)⟩
  | x :: b, a, hx => by
    have hl' := hl
    rw [hx, List.length_append, List.length_cons] at hl'
    have hlt : (a.length : Int) < (((IR l).length : Nat) : Int) := by rw [hx]; simp [IR]; omega
    have em : List.getD (IR l) (Int.toNat (a.length : Int)) [] = [.int .i64 x] := by rw [hx]; exact ir_get a x b
    refine RPt.vc hP sh lv20 (Eq.mpr (v20_1a ..) ?_)
    rw [w64 (x := (a.length : Int) + 1) (by omega) (by omega), em]
    have next := l_isame l hl b (a ++ [x]) (by rw [hx]; simp)
    rw [nx] at next
    exact ⟨rfl, br_of (fun _ => ⟨⟨rfl, by omega, hlt, rfl⟩, ⟨rfl, by omega, hlt, rfl⟩, br_of (fun h => by simp [FV.asI] at h) (fun _ => next)⟩) (fun h => absurd hlt (of_decide_eq_false h))⟩
theorem c_isame (l : List Int) (hl : l.length ≤ 12) : AC Try.prog 20 [aIs l, aIs l] [] (cb true) [] := by
  have h := l_isame l hl l [] rfl
  refine AC.vc hP sh lv20 (Nat.le_refl _) (by simp) (by simp) (Eq.mpr (v20 ..) ?_)
  exact ⟨rfl, rfl, br_of (fun h => by simp at h) (fun _ => h)⟩
/-! ### The examples -/
theorem leRow1 {x y : List FV} {n : Nat} (h : LeR x y) : FV.Le (.sl false n [x]) (.sl false n [y]) := by
  refine .rows false n _ _ rfl (fun i e e' he he' => ?_) (fun i j e e' f f' he he' hf hf' => ?_)
  · cases i with
    | zero => simp at he he'; subst he; subst he'; exact h.length
    | succ i => simp at he
  · cases i with
    | zero => simp at he he'; subst he; subst he'; exact h.get j f f' hf hf'
    | succ i => simp at he
theorem leRow2 {x y x' y' : List FV} {n : Nat} (h : LeR x y) (h' : LeR x' y') : FV.Le (.sl false n [x, x']) (.sl false n [y, y']) := by
  refine .rows false n _ _ rfl (fun i e e' he he' => ?_) (fun i j e e' f f' he he' hf hf' => ?_)
  · match i, he, he' with
    | 0, he, he' => simp at he he'; subst he; subst he'; exact h.length
    | 1, he, he' => simp at he he'; subst he; subst he'; exact h'.length
    | i + 2, he, _ => simp at he
  · match i, he, he' with
    | 0, he, he' => simp at he he'; subst he; subst he'; exact h.get j f f' hf hf'
    | 1, he, he' => simp at he he'; subst he; subst he'; exact h'.get j f f' hf hf'
    | i + 2, he, _ => simp at he
abbrev wT (k : Int) (s : List UInt8) (n : Int) : Tm := .mk k s n []
abbrev cdP : Cd := .mk [112] 1 0 0 0 [.mk 0 0 (wT 4 [] 0) [] []]
abbrev cdQ : Cd := .mk [112] 1 0 0 0 [.mk 1 0 (wT 0 [97] 0) [] []]
theorem leI (k a : Int) (u : Tm) (hu : u.l = []) : LeR [.int .i64 k, .int .i64 a, .int .i64 u.k, .str u.s, .int .i64 u.n, .nils, .nils, .nils] (FI (.mk k a u [] [])) := by
  rw [FI, hu]
  exact ⟨.refl _, .refl _, .refl _, .refl _, .refl _, .nils 4, .nils 4, by rw [FCs]; exact .nils 6, trivial⟩
theorem leC (k a : Int) (u : Tm) (hu : u.l = []) (s : List UInt8) (x : Int) : LeR [.str s, .int .i64 x, .int .i64 0, .int .i64 0, .int .i64 0, .sl false 8 [[.int .i64 k, .int .i64 a, .int .i64 u.k, .str u.s, .int .i64 u.n, .nils, .nils, .nils]]] (FC (.mk s x 0 0 0 [.mk k a u [] []])) := by
  rw [FC, FIs, FIs]
  exact ⟨.refl _, .refl _, .refl _, .refl _, .refl _, leRow1 (leI k a u hu), trivial⟩
theorem leCs : TV.Le (.c (.a (.fz (.sl false 6 [[.str [112], .int .i64 1, .int .i64 0, .int .i64 0, .int .i64 0, .sl false 8 [[.int .i64 0, .int .i64 0, .int .i64 4, .str [], .int .i64 0, .nils, .nils, .nils]]], [.str [112], .int .i64 1, .int .i64 0, .int .i64 0, .int .i64 0, .sl false 8 [[.int .i64 1, .int .i64 0, .int .i64 0, .str [97], .int .i64 0, .nils, .nils, .nils]]]])))) (aCs [cdP, cdQ]) := by
  have e : FCs [cdP, cdQ] = [FC cdP, FC cdQ] := by rw [FCs, FCs, FCs]
  show TV.Le _ (.c (.a (.fz (.sl false 6 (FCs [cdP, cdQ])))))
  rw [e]
  exact .c _ _ (.a _ _ (.fz _ _ (leRow2 (leC 0 0 (wT 4 [] 0) rfl [112] 1) (leC 1 0 (wT 0 [97] 0) rfl [112] 1))))
theorem leTm (k : Int) (s : List UInt8) (n : Int) : TV.Le (.agg [.a (.fz (.int .i64 k)), .a (.fz (.str s)), .a (.fz (.int .i64 n)), .a (.fz .nils)]) (aT (wT k s n)) := leT (l := []) leNil
theorem c_iworks : AC Try.prog 8 [] [] (cb true) [] := by
  have hz : ∀ c ∈ [cdP, cdQ], c.sz ≤ B := fun c hc => by
    simp only [List.mem_cons, List.not_mem_nil, or_false] at hc
    rcases hc with rfl | rfl <;> simp [Cd.sz, In1.szs, In1.sz1, Tm.bk, Tm.bks, Cd.szs, B]
  have hap := c_apply (wT 0 [102] 0) [wT 0 [97] 0, wT 0 [97] 0] (by simp [Tm.l])
  have k1 := c_kof (applyF (wT 0 [102] 0) [wT 0 [97] 0, wT 0 [97] 0]) (by simp only [B]; decide)
  have e1 : keyOf (applyF (wT 0 [102] 0) [wT 0 [97] 0, wT 0 [97] 0]) = ⟨false, 0, [102], 0, 2⟩ := by decide
  rw [e1] at k1
  have k2 := c_kof (wT 4 [] 0) (by simp only [B]; decide)
  have e2 : keyOf (wT 4 [] 0) = anyK := by decide
  rw [e2] at k2
  have hs := c_isel [cdP, cdQ] (by simp) hz [112] 1 ⟨false, 0, [102], 0, 2⟩
  have fP : firstK cdP = anyK := by decide
  have fQ : firstK cdQ = ⟨false, 0, [97], 0, 0⟩ := by decide
  have e3 : selL [112] 1 ⟨false, 0, [102], 0, 2⟩ [cdP, cdQ] 0 = [0] := by
    simp only [selL, fP, fQ]; decide
  have e4 : selL [112] 1 anyK [cdP, cdQ] 0 = [0, 1] := by
    simp only [selL, fP, fQ]; decide
  rw [e3] at hs
  have hn := c_inew [cdP, cdQ] (by simp) hz
  have ht := c_itsel (tabT [cdP, cdQ] 0 []) (fun e he => by have := tabT_mem [cdP, cdQ] 0 [] 0 (fun _ h => nomatch h) e he; simp at this; omega) [112] 1 anyK
  rw [selT_tab, e4] at ht
  have hf := c_first cdP (hz _ (by simp))
  rw [fP] at hf
  have hm := c_meets anyK ⟨false, 0, [102], 0, 2⟩
  refine AC.vc hP sh lv8 (Nat.le_refl _) (by simp) (by simp) (Eq.mpr (v8 ..) ?_)
  refine ⟨⟨rfl, Nat.le_refl _⟩, _, hap.args ⟨leTm 0 [102] 0, .c _ _ (.a _ _ (.fz _ _ (leRow2 (leFT (l := []) leNil) (leFT (l := []) leNil)))), trivial⟩, _, _, _, _, _, k1, _, _, _, _, _, k2.args ⟨leTm 4 [] 0, trivial⟩, ⟨rfl, Nat.le_refl _⟩, ⟨rfl, Nat.le_refl _⟩, ⟨rfl, Nat.le_refl _⟩, [0], hs.args ⟨leCs, .refl _, .refl _, .refl _, trivial⟩, ⟨rfl, Nat.le_refl _⟩, _, hn.args ⟨leCs, trivial⟩,
    br_of (fun _ => br_of (fun _ => ⟨rfl, br_of (fun _ => ⟨[0, 1], ht, rfl, br_of (fun _ => ⟨_, _, _, _, _, hf.args ⟨le_agg (leC 0 0 (wT 4 [] 0) rfl [112] 1), trivial⟩, _, hm, ret_b rfl⟩) (fun h => by simp [IR] at h)⟩) (fun h => by simp [IR] at h)⟩) (fun h => absurd h (by decide))) (fun h => absurd h (by decide))⟩
theorem FCs1 (c : Cd) : FCs [c] = [[.str c.nm, .int .i64 c.ar, .int .i64 c.fr, .int .i64 c.vs, .int .i64 c.sl, .sl false 8 (FIs c.ins)]] := by rw [FCs, FCs, FC_eta]
theorem keq (k : Key) : ((k.any == k.any) && ((k.k == k.k) && ((k.nm == k.nm) && ((k.n == k.n) && ((k.ar == k.ar) && true))))) = true := by simp
theorem c_indexkeys (t : Tm) (c : Cd) (a b : Key) (ht : t.sz ≤ B) (hc : c.sz ≤ B) : AC Try.prog 3 [aT t, aC c, aK a, aK b] [] (cb true) [] := by
  have h1 := c_large t ht 40 (by omega) (by omega)
  have h2 : AC Try.prog 10 [.c (.a (.fz (.sl false 6 (FCs [c]))))] [] (cb (overC [c])) [] := c_iover [c] (fun x hx => by rw [List.mem_singleton.1 hx]; exact hc)
  have h3 := c_kof t ht
  have h4 := c_krof t ht
  have h5 := c_first c hc
  have h6 := c_rfirst c hc
  have k3 := keq (keyOf t)
  have k5 := keq (firstK c)
  rw [FCs1] at h2
  obtain ⟨k, s, n, l⟩ := t
  refine AC.vc hP sh lv3 (Nat.le_refl _) (by simp) (by simp) (Eq.mpr (v3 k s n (FTs l) ..) ?_)
  refine ⟨_, c_iworks, br_of (fun h => by cases h) (fun _ => ⟨_, h1, ⟨rfl, Nat.le_refl _⟩, _, h2, rfl, br_of (fun _ => ret_b rfl) (fun _ => br_of (fun _ => ret_b rfl) (fun _ => br_of (fun _ => ret_b rfl) (fun _ => br_of (fun _ => ret_b rfl) (fun _ =>
    ⟨_, _, _, _, _, h3, _, _, _, _, _, c_kof25 _, _, _, _, _, _, h4, br_of (fun _ => ⟨_, _, _, _, _, h5, _, _, _, _, _, c_kof25 _, _, _, _, _, _, h6, br_of (fun _ => ⟨_, c_meets a b, _, _, _, _, _, c_kof25 a, _, _, _, _, _, c_kof25 b, _, c_rmeets a b, ret_b (by simp)⟩) (fun h => ?_)⟩) (fun h => ?_)⟩))))⟩)⟩
  · exact absurd (k5.symm.trans h) (by simp)
  · exact absurd (k3.symm.trans h) (by simp)
theorem over_len {l : List Cd} (h : overC l = false) : l.length ≤ 12 := by
  unfold overC at h
  rw [Bool.or_eq_false_iff] at h
  have := of_decide_eq_false h.1; omega
theorem c_indexselects (l : List Cd) (nm : List UInt8) (ar : Int) (k : Key) (hz : ∀ c ∈ l, c.sz ≤ B) : AC Try.prog 4 [aCs l, cs nm, ci ar, aK k] [] (cb true) [] := by
  have h2 := c_iover l hz
  refine AC.vc hP sh lv4 (Nat.le_refl _) (by simp) (by simp) (Eq.mpr (v4 ..) ?_)
  refine ⟨_, c_iworks, br_of (fun h => by cases h) (fun _ => ⟨_, h2, br_of (fun _ => ret_b rfl) (fun ho => br_of (fun _ => ret_b rfl) (fun _ => br_of (fun _ => ret_b rfl) (fun _ => ?_)))⟩)⟩
  have hl := over_len ho
  have ht := c_itsel (tabT l 0 []) (fun e he => by have := tabT_mem l 0 [] 0 (fun _ h => nomatch h) e he; omega) nm ar k
  rw [selT_tab] at ht
  have hs := c_isame (selL nm ar k l 0) (Nat.le_trans (selL_len nm ar k l 0) hl)
  exact ⟨_, _, _, _, _, c_kof25 k, _, c_irsel l hl hz nm ar k, _, c_inew l hl hz, _, c_isel l hl hz nm ar k, _, hs, _, ht, _, hs, _, ht, _, hs, br_of (fun _ => br_of (fun _ => ret_b rfl) (fun h => by cases h)) (fun h => by cases h)⟩
/-! ### The third law -/
theorem meets_sym (a b : Key) : meetsB a b = meetsB b a := by
  have e : ((a.any == b.any) && ((a.k == b.k) && ((a.nm == b.nm) && ((a.n == b.n) && ((a.ar == b.ar) && true))))) = ((b.any == a.any) && ((b.k == a.k) && ((b.nm == a.nm) && ((b.n == a.n) && ((b.ar == a.ar) && true))))) := by
    rw [Bool.eq_iff_iff]
    simp only [Bool.and_eq_true, beq_iff_eq, Bool.and_true]
    constructor <;> (rintro ⟨h1, h2, h3, h4, h5⟩; exact ⟨h1.symm, h2.symm, h3.symm, h4.symm, h5.symm⟩)
  unfold meetsB
  rw [e]
  cases a.any <;> cases b.any <;> simp
theorem meets_refl (a : Key) : meetsB a a = true := by
  unfold meetsB; split
  · rfl
  · exact keq a
theorem meets_any (b : Key) : meetsB anyK b = true := rfl
/-- Places, each of a code that fits; and which of them meet. -/
theorem sel_any (nm : List UInt8) (ar : Int) (k : Key) : ∀ (l : List Cd) (i : Int), ∀ x ∈ selL nm ar anyK l i, ∃ j : Nat, x = i + j ∧ ∃ c, l[j]? = some c ∧ c.nm = nm ∧ c.ar = ar
  | [], i, x, h => nomatch h
  | c :: l, i, x, h => by
    rw [selL] at h
    split at h
    · rename_i q
      simp only [Bool.and_eq_true, beq_iff_eq] at q
      rcases List.mem_cons.1 h with rfl | h
      · exact ⟨0, by simp, c, rfl, q.1, q.2.1⟩
      · obtain ⟨j, h1, d, h2, h3⟩ := sel_any nm ar k l (i + 1) x h
        exact ⟨j + 1, by rw [h1]; simp; omega, d, by simpa using h2, h3⟩
    · obtain ⟨j, h1, d, h2, h3⟩ := sel_any nm ar k l (i + 1) x h
      exact ⟨j + 1, by rw [h1]; simp; omega, d, by simpa using h2, h3⟩
def keepF (k : Key) (l : List Cd) (i : Int) (x : Int) : Bool := match l[(x - i).toNat]? with | some c => meetsB (firstK c) k | none => false
theorem sel_ge (nm : List UInt8) (ar : Int) (k : Key) : ∀ (l : List Cd) (i : Int), ∀ x ∈ selL nm ar k l i, i ≤ x
  | [], i, x, h => nomatch h
  | c :: l, i, x, h => by
    rw [selL] at h
    split at h
    · rcases List.mem_cons.1 h with rfl | h
      · exact Int.le_refl _
      · have := sel_ge nm ar k l (i + 1) x h; omega
    · have := sel_ge nm ar k l (i + 1) x h; omega
theorem sel_filter (nm : List UInt8) (ar : Int) (k : Key) : ∀ (l : List Cd) (i : Int), selL nm ar k l i = (selL nm ar anyK l i).filter (keepF k l i)
  | [], i => rfl
  | c :: l, i => by
    have ih := sel_filter nm ar k l (i + 1)
    have hsh : (selL nm ar anyK l (i + 1)).filter (keepF k (c :: l) i) = (selL nm ar anyK l (i + 1)).filter (keepF k l (i + 1)) := by
      refine List.filter_congr fun x hx => ?_
      have := sel_ge nm ar anyK l (i + 1) x hx
      unfold keepF
      rw [show (x - i).toNat = (x - (i + 1)).toNat + 1 by omega, List.getElem?_cons_succ]
    have h0 : keepF k (c :: l) i i = meetsB (firstK c) k := by unfold keepF; rw [show (i - i).toNat = 0 by omega]; rfl
    have ha : meetsB (firstK c) anyK = true := by rw [meets_sym]; rfl
    rw [selL, selL, ha, Bool.and_true]
    by_cases q : ((c.nm == nm) && (c.ar == ar)) = true
    · rw [if_pos q, List.filter_cons, h0, hsh, ← ih]
      have q1 : (c.nm == nm) = true := by rw [Bool.and_eq_true] at q; exact q.1
      have q2 : (c.ar == ar) = true := by rw [Bool.and_eq_true] at q; exact q.2
      rw [q1, q2, Bool.true_and, Bool.true_and]
    · rw [if_neg q, hsh, ← ih]
      rw [if_neg]
      intro w
      apply q
      simp only [Bool.and_eq_true] at w ⊢
      exact ⟨w.1, w.2.1⟩
theorem FCs_sub (l : List Cd) (j : Nat) (c : Cd) (h : l[j]? = some c) : List.drop j (List.take (j + 1) (FCs l)) = FCs [c] := by
  have hj : j < l.length := (List.getElem?_eq_some_iff.1 h).1
  rw [FCs_map, FCs_map, ← List.map_take, ← List.map_drop]
  congr 1
  rw [List.drop_take, show j + 1 - j = 1 by omega]
  rw [List.drop_eq_getElem_cons hj]
  have : l[j] = c := by rw [List.getElem?_eq_getElem hj] at h; injection h
  rw [this]; rfl
abbrev stM (l : List Cd) (nm : List UInt8) (ar : Int) (a : Key) (m all : List Int) (k i : Int) : St := ⟨[(2, aCs l), (3, cs nm), (4, ci ar), (5, .c (.a (.ep 0 5 0 0))), (11, cb true), (15, aIs m), (16, aIs all), (17, ci k), (18, ci i)], [(0, obK a)], 1⟩
theorem ir_ge {l : List Int} {i : Nat} {x : Int} (h : l[i]? = some x) : List.getD (IR l) (Int.toNat (i : Int)) [] = [.int .i64 x] := by
  rw [Int.toNat_natCast, IR]; simp [List.getD, h]
theorem l_imeets (l : List Cd) (hl : l.length ≤ 12) (hz : ∀ c ∈ l, c.sz ≤ B) (nm : List UInt8) (ar : Int) (a : Key) (all m : List Int) (hall : ∀ x ∈ all, ∃ j : Nat, x = (j : Int) ∧ ∃ c, l[j]? = some c ∧ c.nm = nm ∧ c.ar = ar) (hln : all.length ≤ 12) :
    ∀ (r d mr md : List Int), all = d ++ r → m = md ++ mr → mr = r.filter (keepF a l 0) → m.length ≤ 12 → RPt Try.prog 5 0 (cb true) [] 1 (stM l nm ar a m all md.length d.length)
  | [], d, mr, md, h1, h2, h3, h4 => by
    have h3 : mr = [] := h3
    refine RPt.vc hP sh lv5 (Eq.mpr (v5_1a ..) ?_)
    refine ⟨rfl, br_of (fun h => absurd (of_decide_eq_true h) (by rw [h1]; simp [IR])) (fun _ => ⟨rfl, ret_b ?_⟩)⟩
    rw [h2, h3]; simp [IR]
  | x :: r, d, mr, md, h1, h2, h3, h4 => by
    have hx : x ∈ all := by rw [h1]; simp
    obtain ⟨j, rfl, c, hc, e1, e2⟩ := hall x hx
    have hj : j < l.length := (List.getElem?_eq_some_iff.1 hc).1
    have hzc := hz c (List.mem_of_getElem? hc)
    have hs := c_isel [c] (by simp) (fun u hu => by rw [List.mem_singleton.1 hu]; exact hzc) nm ar a
    have es : selL nm ar a [c] 0 = if meetsB (firstK c) a = true then [0] else [] := by simp [selL, e1, e2]
    rw [es] at hs
    have hl1 := hln
    rw [h1, List.length_append, List.length_cons] at hl1
    have hlt : (d.length : Int) < (((IR all).length : Nat) : Int) := by rw [h1]; simp [IR]; omega
    have eg : List.getD (IR all) (Int.toNat (d.length : Int)) [] = [.int .i64 (j : Int)] := ir_ge (by rw [h1]; simp)
    have hk : keepF a l 0 (j : Int) = meetsB (firstK c) a := by unfold keepF; rw [show ((j : Int) - 0).toNat = j by omega, hc]
    rw [List.filter_cons, hk] at h3
    have ej : IntKind.wrap .i64 ((j : Int) + 1) = (j : Int) + 1 := w64 (by omega) (by omega)
    have et : List.drop (Int.toNat (j : Int)) (List.take (Int.toNat ((j : Int) + 1)) (FCs l)) = FCs [c] := by rw [show Int.toNat ((j : Int) + 1) = j + 1 by omega, Int.toNat_natCast]; exact FCs_sub l j c hc
    refine RPt.vc hP sh lv5 (Eq.mpr (v5_1a ..) ?_)
    rw [eg, show FV.asI (List.getD [FV.int .i64 (j : Int)] 0 FV.nils) = (j : Int) from rfl, ej, et, w64 (x := (d.length : Int) + 1) (by omega) (by omega)]
    refine ⟨rfl, br_of (fun _ => ⟨⟨rfl, by omega, hlt, rfl⟩, ⟨rfl, by omega, hlt, rfl⟩, rfl, ⟨by omega, by omega, by rw [FCs_length]; omega⟩, _, hs, rfl, ?_⟩) (fun h => absurd hlt (of_decide_eq_false h))⟩
    by_cases q : meetsB (firstK c) a = true
    · rw [if_pos q] at h3 ⊢
      have hml := h4
      rw [h2, h3, List.length_append, List.length_cons] at hml
      have hlm : (md.length : Int) < (((IR m).length : Nat) : Int) := by rw [h2, h3]; simp [IR]; omega
      have eg2 : List.getD (IR m) (Int.toNat (md.length : Int)) [] = [.int .i64 (j : Int)] := ir_ge (by rw [h2, h3]; simp)
      have next := l_imeets l hl hz nm ar a all m hall hln r (d ++ [(j : Int)]) (r.filter (keepF a l 0)) (md ++ [(j : Int)]) (by rw [h1]; simp) (by rw [h2, h3]; simp) rfl h4
      rw [nx, nx] at next
      rw [eg2, w64 (x := (md.length : Int) + 1) (by omega) (by omega)]
      exact br_of (fun h => by simp [IR] at h) (fun _ => ⟨rfl, br_of (fun h => absurd (of_decide_eq_true h) (by omega)) (fun _ => ⟨⟨rfl, by omega, hlm, rfl⟩, ⟨rfl, by omega, hlt, rfl⟩, br_of (fun h => by simp [FV.asI] at h) (fun _ => next)⟩)⟩)
    · rw [if_neg q] at h3 ⊢
      have next := l_imeets l hl hz nm ar a all m hall hln r (d ++ [(j : Int)]) mr md (by rw [h1]; simp) h2 h3 h4
      rw [nx] at next
      exact br_of (fun _ => next) (fun h => by simp [IR] at h)
theorem c_indexmeets (a b : Key) (l : List Cd) (nm : List UInt8) (ar : Int) (hz : ∀ c ∈ l, c.sz ≤ B) : AC Try.prog 5 [aK a, aK b, aCs l, cs nm, ci ar] [] (cb true) [] := by
  have h2 := c_iover l hz
  refine AC.vc hP sh lv5 (Nat.le_refl _) (by simp) (by simp) (Eq.mpr (v5 ..) ?_)
  refine ⟨_, c_iworks, br_of (fun h => by cases h) (fun _ => ⟨_, h2, br_of (fun _ => ret_b rfl) (fun ho => br_of (fun _ => ret_b rfl) (fun _ => br_of (fun _ => ret_b rfl) (fun _ => br_of (fun _ => ret_b rfl) (fun _ => ?_))))⟩)⟩
  have hl := over_len ho
  have hT : ∀ k, AC Try.prog 22 [.c (.a (.ep 0 1 0 0)), cs nm, ci ar, aK k] [tab0, .mapz (tabZ (tabT l 0 []))] (aIs (selL nm ar k l 0)) [tab0, .mapz (tabZ (tabT l 0 []))] := fun k => by
    have ht := c_itsel (tabT l 0 []) (fun e he => by have := tabT_mem l 0 [] 0 (fun _ h => nomatch h) e he; omega) nm ar k
    rw [selT_tab] at ht
    exact ht
  have next := l_imeets l hl hz nm ar a (selL nm ar anyK l 0) (selL nm ar a l 0) (fun x hx => by
    obtain ⟨j, h1, h2⟩ := sel_any nm ar a l 0 x hx
    exact ⟨j, by rw [h1]; simp, h2⟩) (Nat.le_trans (selL_len _ _ _ _ _) hl) (selL nm ar anyK l 0) [] (selL nm ar a l 0) [] rfl rfl (sel_filter nm ar a l 0) (Nat.le_trans (selL_len _ _ _ _ _) hl)
  refine ⟨_, c_inew l hl hz, _, c_meets a b, _, c_meets b a, br_of (fun h => ?_) (fun _ => ⟨_, c_meets a a, br_of (fun h => ?_) (fun _ => ⟨_, c_meets anyK b, br_of (fun h => by cases h) (fun _ => ⟨_, hT a, _, hT anyK, next⟩)⟩)⟩)⟩
  · rw [meets_sym a b] at h; simp at h
  · rw [meets_refl] at h; cases h

end Go.AM

set_option maxRecDepth 100000
open Go Go.Proofs
namespace Go.Proofs.Ytdpjhpfjmjhhkaa.base
open Go.ChangeShapes Go.WideShapes Go.ChangeAt Go.RowKit Go.AM

theorem one_le {H : Type} (d : DataW H) : 1 ≤ Rows.uptoBulk d := by
  cases d with
  | lit l => cases l <;> simp [Rows.uptoBulk]
  | _ => simp [Rows.uptoBulk]
theorem bulk {H : Type} : Bulk (H := H) Rows.uptoBulk Rows.uptoBulkAll :=
  ⟨rfl, fun _ _ => rfl, one_le, fun es sp => by simp only [Rows.uptoBulk]; omega, fun l => by simp [Rows.uptoBulk], fun l => by simp [Rows.uptoBulk]⟩
theorem own : ownKnob Try.prog.godebug = none := by kernel_rfl
theorem laidOut : laidOutB Try.prog = true := by kernel_rfl
theorem tmTy : ∃ f0 f1 f2 f3 : Field, TmTy Try.prog 25 f0 f1 f2 f3 :=
  ⟨_, _, _, _, Try.underlying25, Try.underlying22, Try.underlying9, Try.underlying3, Try.underlying23, rfl, rfl, rfl, rfl, by kernel_rfl, by kernel_rfl, by kernel_rfl, by kernel_rfl, by kernel_rfl⟩
theorem rec3 : Try.prog.readableRec 3 = true := by kernel_rfl
theorem lt3 : 3 < Try.prog.types.size := of_decide_eq_true (by kernel_rfl)
theorem rec9 : Try.prog.readableRec 9 = true := by kernel_rfl
theorem lt9 : 9 < Try.prog.types.size := of_decide_eq_true (by kernel_rfl)
theorem rec23 : Try.prog.readableRec 23 = true := by kernel_rfl
theorem lt23 : 23 < Try.prog.types.size := of_decide_eq_true (by kernel_rfl)
theorem rec25 : Try.prog.readableRec 25 = true := by kernel_rfl
theorem lt25 : 25 < Try.prog.types.size := of_decide_eq_true (by kernel_rfl)
theorem rec28 : Try.prog.readableRec 28 = true := by kernel_rfl
theorem lt28 : 28 < Try.prog.types.size := of_decide_eq_true (by kernel_rfl)
theorem rec30 : Try.prog.readableRec 30 = true := by kernel_rfl
theorem lt30 : 30 < Try.prog.types.size := of_decide_eq_true (by kernel_rfl)
theorem rec34 : Try.prog.readableRec 34 = true := by kernel_rfl
theorem lt34 : 34 < Try.prog.types.size := of_decide_eq_true (by kernel_rfl)
theorem rec44 : Try.prog.readableRec 44 = true := by kernel_rfl
theorem lt44 : 44 < Try.prog.types.size := of_decide_eq_true (by kernel_rfl)
theorem rec53 : Try.prog.readableRec 53 = true := by kernel_rfl
theorem lt53 : 53 < Try.prog.types.size := of_decide_eq_true (by kernel_rfl)
theorem rec54 : Try.prog.readableRec 54 = true := by kernel_rfl
theorem lt54 : 54 < Try.prog.types.size := of_decide_eq_true (by kernel_rfl)
theorem noGl (g : Nat) (h : Try.prog.globalNamed "internal/strconv.uint64pow10" = some g) : False := by
  rw [show Try.prog.globalNamed "internal/strconv.uint64pow10" = none by kernel_rfl] at h; cases h
theorem num_range {n : Int} (h : (Lit.int .i64 n).wf = true) : -9223372036854775808 ≤ n ∧ n ≤ 9223372036854775807 := by
  simp only [Lit.wf, IntKind.min, IntKind.max, IntKind.signed, IntKind.bits, Bool.and_eq_true, decide_eq_true_eq, if_true] at h; omega
theorem upto {H : Type} {l : List (DataW H)} (hk : Rows.uptoSmall H l = true) : Rows.uptoBulkAll l ≤ 1048576 := of_decide_eq_true hk
end Go.Proofs.Ytdpjhpfjmjhhkaa.base
