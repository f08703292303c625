/- Terms as data; small laws on written-out cells; contracts for weaker arguments. No conditions. -/
import Derived.Test.YtclicclinfnmlaaAmVc3
import Derived.IntWalk
namespace Go.AM

/-! ### Contracts, weakened -/
theorem AC.le {P : Program} {f : FuncId} {args args' : List TV} {Hs Hs' : List AObj} {r r' : TV} (h : AC P f args' Hs r Hs') (ha : All2 TV.Le args args') (hr : TV.Le r r') : AC P f args Hs r' Hs' := by
  refine ⟨h.1, h.2.1, fun w vals β Y h1 h2 h3 h4 => ?_⟩
  refine (h.2.2 w vals β Y h1 h2 h3 (all2_rep ha h4)).mono fun e w' ⟨v, β', h5, h6, h7, h8, h9⟩ => ?_
  exact ⟨v, β', h5, h6, h7, TRep.le hr h8, h9⟩
theorem AC.args {P : Program} {f : FuncId} {args args' : List TV} {Hs Hs' : List AObj} {r : TV} (h : AC P f args' Hs r Hs') (ha : All2 TV.Le args args') : AC P f args Hs r Hs' := h.le ha (.refl r)

abbrev ci (n : Int) : TV := .c (.a (.fz (.int .i64 n)))
abbrev cb (b : Bool) : TV := .c (.a (.fz (.bool b)))
abbrev cs (s : List UInt8) : TV := .c (.a (.fz (.str s)))
abbrev c8 (n : Int) : TV := .c (.a (.fz (.int .u8 n)))

/-- Cell by cell. -/
def LeR : List FV → List FV → Prop
  | [], [] => True
  | x :: xs, y :: ys => FV.Le x y ∧ LeR xs ys
  | _, _ => False
theorem LeR.refl : ∀ l : List FV, LeR l l
  | [] => trivial
  | x :: l => ⟨.refl x, LeR.refl l⟩
theorem LeR.length : ∀ {a b : List FV}, LeR a b → a.length = b.length
  | [], [], _ => rfl
  | _ :: _, _ :: _, h => by simp [h.2.length]
  | [], _ :: _, h => h.elim
  | _ :: _, [], h => h.elim
theorem LeR.get : ∀ {a b : List FV}, LeR a b → ∀ (i : Nat) (x y : FV), a[i]? = some x → b[i]? = some y → FV.Le x y
  | [], [], _, i, x, y, hx, _ => by simp at hx
  | a :: as, b :: bs, h, i, x, y, hx, hy => by
    cases i with
    | zero => simp at hx hy; subst hx; subst hy; exact h.1
    | succ i => exact h.2.get i x y (by simpa using hx) (by simpa using hy)
theorem le_agg {a b : List FV} (h : LeR a b) : TV.Le (.agg (fzs a)) (.agg (fzs b)) := by
  refine .agg _ _ (by simp [fzs, h.length]) fun i x y hx hy => ?_
  rw [fzs, List.getElem?_map] at hx hy
  obtain ⟨x', hx', rfl⟩ := Option.map_eq_some_iff.1 hx
  obtain ⟨y', hy', rfl⟩ := Option.map_eq_some_iff.1 hy
  exact .a _ _ (.fz _ _ (h.get i x' y' hx' hy'))
theorem le_c {x y : FV} (h : FV.Le x y) : TV.Le (.c (.a (.fz x))) (.c (.a (.fz y))) := .c _ _ (.a _ _ (.fz _ _ h))

/-! ### Terms -/
inductive Tm where
  | mk (k : Int) (s : List UInt8) (n : Int) (l : List Tm)
  deriving Inhabited
namespace Tm
def k : Tm → Int | .mk k _ _ _ => k
def s : Tm → List UInt8 | .mk _ s _ _ => s
def n : Tm → Int | .mk _ _ n _ => n
def l : Tm → List Tm | .mk _ _ _ l => l
end Tm
mutual
def FT : Tm → List FV
  | .mk k s n l => [.int .i64 k, .str s, .int .i64 n, .sl false 4 (FTs l)]
def FTs : List Tm → List (List FV)
  | [] => []
  | t :: l => FT t :: FTs l
end
mutual
/-- How much there is in a term. -/
def Tm.sz : Tm → Nat
  | .mk _ s _ l => 1 + s.length + Tm.szs l
def Tm.szs : List Tm → Nat
  | [] => 0
  | t :: l => Tm.sz t + Tm.szs l
end
theorem FTs_map : ∀ l : List Tm, FTs l = l.map FT
  | [] => rfl
  | t :: l => by simp only [FTs, List.map_cons, FTs_map l]
theorem FTs_length (l : List Tm) : (FTs l).length = l.length := by rw [FTs_map, List.length_map]
theorem FTs_append (a b : List Tm) : FTs (a ++ b) = FTs a ++ FTs b := by simp only [FTs_map, List.map_append]
theorem FT_length (t : Tm) : (FT t).length = 4 := by cases t; rfl
theorem FT_eta (t : Tm) : FT t = [.int .i64 t.k, .str t.s, .int .i64 t.n, .sl false 4 (FTs t.l)] := by cases t; rfl
theorem Tm.sz_pos (t : Tm) : 1 ≤ t.sz := by cases t; simp only [Tm.sz]; omega
theorem Tm.sz_eq (t : Tm) : t.sz = 1 + t.s.length + Tm.szs t.l := by cases t; rfl
theorem Tm.szs_mem : ∀ {l : List Tm} {t : Tm}, t ∈ l → t.sz ≤ Tm.szs l
  | x :: l, t, h => by
    rcases List.mem_cons.1 h with rfl | h
    · simp only [Tm.szs]; omega
    · have := Tm.szs_mem h; simp only [Tm.szs]; omega
theorem Tm.szs_append : ∀ (a b : List Tm), Tm.szs (a ++ b) = Tm.szs a + Tm.szs b
  | [], b => by simp [Tm.szs]
  | t :: a, b => by simp only [List.cons_append, Tm.szs, Tm.szs_append a b]; omega
theorem Tm.szs_length : ∀ l : List Tm, l.length ≤ Tm.szs l
  | [] => Nat.le_refl _
  | t :: l => by have := Tm.szs_length l; have := t.sz_pos; simp only [List.length_cons, Tm.szs]; omega
/-- By what is within. -/
theorem Tm.ind {P : Tm → Prop} (h : ∀ t, (∀ u ∈ t.l, P u) → P t) : ∀ t, P t := by
  have key : ∀ n t, t.sz ≤ n → P t := by
    intro n
    induction n with
    | zero => intro t ht; have := t.sz_pos; omega
    | succ n ih =>
      intro t ht
      refine h t fun u hu => ih u ?_
      have := Tm.szs_mem hu
      rw [Tm.sz_eq] at ht
      omega
  exact fun t => key _ t (Nat.le_refl _)

/-! An element in the middle. -/
theorem toNat_len (l : List Tm) : Int.toNat (l.length : Int) = l.length := by omega
theorem getD_mid (a : List Tm) (t : Tm) (b : List Tm) : List.getD (FTs (a ++ t :: b)) a.length [] = FT t := by
  rw [FTs_map]
  simp [List.getD]
theorem getD_i {l : List Tm} {i : Nat} (h : i < l.length) : List.getD (FTs l) i [] = FT l[i] := by
  rw [FTs_map]
  simp [List.getD, List.getElem?_map, List.getElem?_eq_getElem h]
/-- Numbers that are no greater than what lies in memory. -/
theorem w64 {x : Int} (h1 : -9223372036854775808 ≤ x) (h2 : x ≤ 9223372036854775807) : IntKind.wrap .i64 x = x := Go.IntWalk.i64_in _ ⟨h1, h2⟩
/-- How much there may be. -/
def B : Nat := 4294967296

theorem leFT {k n : Int} {s : List UInt8} {x : FV} {l : List Tm} (h : FV.Le x (.sl false 4 (FTs l))) : LeR [.int .i64 k, .str s, .int .i64 n, x] (FT (.mk k s n l)) := ⟨.refl _, .refl _, .refl _, h, trivial⟩
theorem leSl {b : Bool} {l : List Tm} : FV.Le (.sl b 4 (FTs l)) (.sl false 4 (FTs l)) := .nn _ _ _
theorem leNil : FV.Le .nils (.sl false 4 (FTs [])) := .nils 4
theorem leRows {b : Bool} {rows : List (List FV)} {l : List Tm} (hl : rows.length = l.length) (h : ∀ (i : Nat) (r : List FV) (t : Tm), rows[i]? = some r → l[i]? = some t → LeR r (FT t)) : FV.Le (.sl b 4 rows) (.sl false 4 (FTs l)) := by
  refine .trans _ (.sl b 4 (FTs l)) _ (.rows b 4 rows _ (by rw [FTs_length, hl]) (fun i e e' he he' => ?_) (fun i j e e' f f' he he' hf hf' => ?_)) leSl
  · rw [FTs_map, List.getElem?_map] at he'
    obtain ⟨t, ht, rfl⟩ := Option.map_eq_some_iff.1 he'
    exact (h i e t he ht).length
  · rw [FTs_map, List.getElem?_map] at he'
    obtain ⟨t, ht, rfl⟩ := Option.map_eq_some_iff.1 he'
    exact (h i e t he ht).get j f f' hf hf'

theorem midI (a : List Tm) (t : Tm) (b : List Tm) : List.getD (FTs (a ++ t :: b)) (Int.toNat (a.length : Int)) [] = FT t := by
  rw [show Int.toNat (a.length : Int) = a.length by omega, getD_mid]
theorem midI' (a a' : List Tm) (h : a.length = a'.length) (t : Tm) (b : List Tm) : List.getD (FTs (a' ++ t :: b)) (Int.toNat (a.length : Int)) [] = FT t := by rw [h, midI]
theorem nx {α : Type} (a : List α) (t : α) : (((a ++ [t]).length : Nat) : Int) = (a.length : Int) + 1 := by simp
theorem ap {α : Type} (a : List α) (t : α) (b : List α) : (a ++ [t]) ++ b = a ++ t :: b := by simp
theorem lenI (l : List Tm) : (((FTs l).length : Nat) : Int) = (l.length : Int) := by rw [FTs_length]
theorem ltI {α : Type} (a : List α) (t : α) (b : List α) : (a.length : Int) < (((a ++ t :: b).length : Nat) : Int) := by simp; omega
theorem ltI' (a : List Tm) (t : Tm) (b : List Tm) : (a.length : Int) < (((FTs (a ++ t :: b)).length : Nat) : Int) := by rw [FTs_length]; exact ltI a t b
theorem geI' (a : List Tm) : ¬ (a.length : Int) < (((FTs (a ++ [])).length : Nat) : Int) := by rw [FTs_length]; simp
theorem Tm.szs_mid (a : List Tm) (t : Tm) (b : List Tm) : Tm.szs (a ++ t :: b) = Tm.szs a + t.sz + Tm.szs b := by rw [Tm.szs_append]; simp only [Tm.szs]; omega
theorem len_szs (a b : List Tm) : a.length + b.length ≤ Tm.szs (a ++ b) := by have := Tm.szs_length (a ++ b); simpa using this

/-- A term as an argument, as a result. -/
abbrev aT (t : Tm) : TV := .agg [.a (.fz (.int .i64 t.k)), .a (.fz (.str t.s)), .a (.fz (.int .i64 t.n)), .a (.fz (.sl false 4 (FTs t.l)))]
abbrev aL (l : List Tm) : TV := .c (.a (.fz (.sl false 4 (FTs l))))
theorem leT {k n : Int} {s : List UInt8} {x : FV} {l : List Tm} (h : FV.Le x (.sl false 4 (FTs l))) : TV.Le (.agg [.a (.fz (.int .i64 k)), .a (.fz (.str s)), .a (.fz (.int .i64 n)), .a (.fz x)]) (aT (.mk k s n l)) := le_agg (leFT h)
theorem ret_t {x y : Tm} (h : x = y) : TV.Le (aT x) (aT y) ∧ ([] : List AObj) = [] := ⟨by rw [h]; exact .refl _, rfl⟩
theorem Tm.eta (t : Tm) : Tm.mk t.k t.s t.n t.l = t := by cases t; rfl

/-! ### Ends -/
theorem ret_b {x y : Bool} (h : x = y) : TV.Le (cb x) (cb y) ∧ ([] : List AObj) = [] := ⟨by rw [h]; exact .refl _, rfl⟩
theorem ret_i {x y : Int} (h : x = y) : TV.Le (ci x) (ci y) ∧ ([] : List AObj) = [] := ⟨by rw [h]; exact .refl _, rfl⟩
theorem ret_s {x y : List UInt8} (h : x = y) : TV.Le (cs x) (cs y) ∧ ([] : List AObj) = [] := ⟨by rw [h]; exact .refl _, rfl⟩
theorem ret_r {x y : TV} (h : TV.Le x y) : TV.Le x y ∧ ([] : List AObj) = [] := ⟨h, rfl⟩
theorem br_if {b : Bool} {t f : Prop} (h : if b = true then t else f) : br b t f := by
  cases b
  · exact h
  · exact h
/-- A contract from a library contract over numbers and strings. -/
theorem AC.of_calls {P : Program} {f : FuncId} {args : List TV} {vals : List Value} {r : TV} {v : Value} (hen : enterable P f = true) (h : ∀ w, Calls P f vals.toArray w fun e w' => e = .returned v ∧ w' = w)
    (hv : ∀ (w : World) (X : Nat → Prop) (β : Nat → Option Nat) (us : List Value), LRep (TRep w X β) args us → us = vals) (hr : ∀ (w : World) (X : Nat → Prop) (β : Nat → Option Nat), TRep w X β r v) : AC P f args [] r [] := by
  refine ⟨hen, Nat.le_refl _, fun w us β Y h1 h2 h3 h4 => ?_⟩
  rw [hv _ _ _ _ h4]
  refine (h w).mono fun e w' ⟨he, hw⟩ => ?_
  subst hw
  exact ⟨v, β, he, Good.refl _ _, h3, hr _ _ _, h1, fun o ho => absurd ho (Nat.not_lt_zero _), fun o b _ hb => absurd (h1 o b hb) (Nat.not_lt_zero _)⟩
theorem AC.str_u8 {P : Program} {f : FuncId} {s : List UInt8} {c n : Int} (hen : enterable P f = true) (h : ∀ w, Calls P f #[.string ⟨s.toArray⟩, .int .u8 c] w fun e w' => e = .returned (.int .i64 n) ∧ w' = w) : AC P f [cs s, c8 c] [] (ci n) [] := by
  refine AC.of_calls (vals := [.string ⟨s.toArray⟩, .int .u8 c]) hen h (fun w X β us hu => ?_) (fun w X β => .a _ _ (.fz _ _ (.int _ _)))
  obtain ⟨u, us', rfl, h1, h2⟩ := hu.cons_inv
  obtain ⟨v, vs', rfl, h3, h4⟩ := h2.cons_inv
  rw [TRep.str_inv h1, TRep.int_inv h3, h4.nil_inv]
end Go.AM
