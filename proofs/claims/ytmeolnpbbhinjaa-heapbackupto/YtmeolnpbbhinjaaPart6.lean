/- A calculus of plain values for the model's code, what the code of each function asks (computed by the kernel), contracts of the functions, and plain laws (part 6). No conditions. -/
import Derived.Test.YtmeolnpbbhinjaaPart5
import Derived.Test.YtmeolnpbbhinjaaPart3
import Derived.ProofKit
import Derived.OpenShut
import Derived.JoinedCond
import Derived.WalkKit
import Derived.Test.YtmeolnpbbhinjaaRows
set_option maxRecDepth 100000
open Go Go.Proofs
namespace Go.AM

/-! ### What cells tell -/
inductive Rep (C : List Cel) (N : List (List UInt8)) : Int → Tm → Nat → Prop
  | con (a : Int) : inC C a = true → (cellOf C a).t = 0 → 0 ≤ (cellOf C a).a ∧ (cellOf C a).a < (N.length : Int) → Rep C N a (.mk 0 (nameOf N (cellOf C a).a) 0 []) 1
  | atom (a : Int) : inC C a = true → (cellOf C a).t = 1 ∨ (cellOf C a).t = 2 ∨ (cellOf C a).t = 3 ∧ 0 ≤ (cellOf C a).a ∧ (cellOf C a).a ≤ 1000 → Rep C N a (.mk (cellOf C a).t [] (cellOf C a).a []) 1
  | free (a : Int) : inC C a = true → (cellOf C a).t = 4 → Rep C N a (.mk 4 [] a []) 1
  | lam (a : Int) (u : Tm) (c : Nat) : inC C a = true → (cellOf C a).t = 6 → Rep C N (cellOf C a).a u c → Rep C N a (.mk 5 [] 0 [u]) (c + 1)
  | app (a : Int) (u w : Tm) (c d : Nat) : inC C a = true → (cellOf C a).t = 7 → Rep C N (cellOf C a).a u c → Rep C N (cellOf C a).b w d → Rep C N a (applyF u [w]) (c + d + 1)
/-- Terms as they are told. -/
inductive Cl : Tm → Prop
  | leaf (k : Int) (s : List UInt8) (n : Int) : k ≠ 5 → k ≠ 6 → (k = 3 → s = [] ∧ 0 ≤ n ∧ n ≤ 1000) → Cl (.mk k s n [])
  | lam (u : Tm) : Cl u → Cl (.mk 5 [] 0 [u])
  | app (h : Tm) (l : List Tm) : Cl h → h.k ≠ 6 → l ≠ [] → (∀ u ∈ l, Cl u) → Cl (.mk 6 [] 0 (h :: l))
theorem applyF1 (u w : Tm) : applyF u [w] = if (u.k == 6) = true ∧ u.l ≠ [] then .mk 6 [] 0 (u.l ++ [w]) else .mk 6 [] 0 [u, w] := rfl
theorem rep_cl {C : List Cel} {N : List (List UInt8)} {a : Int} {x : Tm} {c : Nat} (h : Rep C N a x c) : Cl x := by
  induction h with
  | con a h1 h2 h3 => exact .leaf _ _ _ (by omega) (by omega) (fun h => by omega)
  | atom a h1 h2 => exact .leaf _ _ _ (by omega) (by omega) (fun h => ⟨rfl, by omega, by omega⟩)
  | free a h1 h2 => exact .leaf _ _ _ (by omega) (by omega) (fun h => by omega)
  | lam a u c h1 h2 h3 ih => exact .lam u ih
  | app a u w c d h1 h2 h3 h4 ih1 ih2 =>
    rw [applyF1]
    cases ih1 with
    | leaf k s n g5 g6 g3 => rw [if_neg (fun e => e.2 rfl)]; exact .app _ _ (.leaf k s n g5 g6 g3) g6 (by simp) (fun v hv => by rw [List.mem_singleton.1 hv]; exact ih2)
    | lam u hu => rw [if_neg (fun e => by have := e.1; simp [Tm.k] at this)]; exact .app _ _ (.lam u hu) (by simp [Tm.k]) (by simp) (fun v hv => by rw [List.mem_singleton.1 hv]; exact ih2)
    | app h l hh hk hl hu =>
      rw [if_pos ⟨rfl, by simp [Tm.l]⟩]
      refine .app h (l ++ [w]) hh hk (by simp) fun v hv => ?_
      rcases List.mem_append.1 hv with hv | hv
      · exact hu v hv
      · rw [List.mem_singleton.1 hv]; exact ih2
theorem rep_sz {C : List Cel} {N : List (List UInt8)} {a : Int} {x : Tm} {c : Nat} (h : Rep C N a x c) : x.sz ≤ c := by
  induction h with
  | con a h1 h2 h3 => simp [Tm.sz, Tm.szs]
  | atom a h1 h2 => simp [Tm.sz, Tm.szs]
  | free a h1 h2 => simp [Tm.sz, Tm.szs]
  | lam a u c h1 h2 h3 ih => simp only [Tm.sz, Tm.szs]; omega
  | app a u w c d h1 h2 h3 h4 ih1 ih2 =>
    rw [applyF1]
    have := u.sz_eq
    split <;> simp only [Tm.sz, Tm.szs, Tm.szs_append] <;> omega
theorem cl_bd {x : Tm} (h : Cl x) : bd 1000 x := by
  induction h with
  | leaf k s n h5 h6 h3 => exact ⟨fun e => by have := h3 e; omega, trivial⟩
  | lam u hu ih => exact ⟨fun e => by omega, ih, trivial⟩
  | app h l hh hk hl hu ih1 ih2 =>
    refine ⟨fun e => by omega, ih1, ?_⟩
    clear hl hu
    induction l with
    | nil => trivial
    | cons v l ihl => exact ⟨ih2 v List.mem_cons_self, ihl fun u hu => ih2 u (List.mem_cons_of_mem _ hu)⟩
/-- Decoded. -/
theorem c_drep (s : Hp) {a : Int} {x : Tm} {c : Nat} (h : Rep s.C s.N a x c) : ∀ f : Int, (c : Int) ≤ f → f ≤ 1000000 → AC Try.prog 31 [aD, ci a] (oD s f 0) (aT x) (oD s (f - (c : Int)) 0) := by
  induction h with
  | con a h1 h2 h3 =>
    intro f hc hf
    exact c_dtermC s a f h1 h2 (by omega) hf
  | atom a h1 h2 =>
    intro f hc hf
    have hl := c_dlook s a false f h1 (by rcases h2 with h2 | h2 | h2 <;> simp [rowB, h2]) (by omega) hf
    refine AC.vc hP sh lv31 (by simp) (by simp [isLive]) (by simp [isLive]) (Eq.mpr (v31 ..) ?_)
    refine ⟨((cellOf s.C a).t, (cellOf s.C a).a, (cellOf s.C a).b, (cellOf s.C a).c, (cellOf s.C a).d, f - 1, 0), hl, br_of (fun h => by cases h) (fun _ => br_eq (fun q => ?_) (fun _ => br_eq (fun q => ?_) (fun n1 => br_eq (fun q => ?_) (fun n2 => br_eq (fun q => ?_) (fun n3 => ?_)))))⟩
    · simp only at q; omega
    · have q : (cellOf s.C a).t = 1 := q
      rw [q]; exact ⟨leT (l := []) leNil, rfl⟩
    · have q : (cellOf s.C a).t = 2 := q
      rw [q]; exact ⟨leT (l := []) leNil, rfl⟩
    · have q : (cellOf s.C a).t = 3 := q
      rw [q]; exact ⟨leT (l := []) leNil, rfl⟩
    · simp only at n1 n2 n3; omega
  | free a h1 h2 =>
    intro f hc hf
    have hl := c_dlook s a false f h1 (by simp [rowB, h2]) (by omega) hf
    refine AC.vc hP sh lv31 (by simp) (by simp [isLive]) (by simp [isLive]) (Eq.mpr (v31 ..) ?_)
    refine ⟨((cellOf s.C a).t, (cellOf s.C a).a, (cellOf s.C a).b, (cellOf s.C a).c, (cellOf s.C a).d, f - 1, 0), hl, br_of (fun h => by cases h) (fun _ => br_eq (fun q => by simp only [h2] at q; omega) (fun _ => br_eq (fun q => by simp only [h2] at q; omega) (fun _ => br_eq (fun q => by simp only [h2] at q; omega) (fun _ => br_eq (fun q => by simp only [h2] at q; omega) (fun _ => br_eq (fun _ => ?_) (fun q => absurd h2 q))))))⟩
    exact ⟨leT (l := []) leNil, rfl⟩
  | lam a u c h1 h2 h3 ih =>
    intro f hc hf
    have hl := c_dlook s a false f h1 (by simp [rowB, h2]) (by omega) hf
    have h4 := ih (f - 1) (by omega) (by omega)
    refine AC.vc hP sh lv31 (by simp) (by simp [isLive]) (by simp [isLive]) (Eq.mpr (v31 ..) ?_)
    refine ⟨((cellOf s.C a).t, (cellOf s.C a).a, (cellOf s.C a).b, (cellOf s.C a).c, (cellOf s.C a).d, f - 1, 0), hl, br_of (fun h => by cases h) (fun _ => br_eq (fun q => by simp only [h2] at q; omega) (fun _ => br_eq (fun q => by simp only [h2] at q; omega) (fun _ => br_eq (fun q => by simp only [h2] at q; omega) (fun _ => br_eq (fun q => by simp only [h2] at q; omega) (fun _ => br_eq (fun q => by simp only [h2] at q; omega) (fun _ => br_eq (fun q => by simp only [h2] at q; omega) (fun _ => br_eq (fun _ => ?_) (fun q => absurd h2 q))))))))⟩
    refine ⟨(u, f - 1 - (c : Int), 0), h4, lamsF 1 u, c_lams 1 u (by omega), .refl _, ?_⟩
    rw [show f - 1 - (c : Int) = f - ((c + 1 : Nat) : Int) by omega]
  | app a u w c d h1 h2 h3 h4 ih1 ih2 =>
    intro f hc hf
    have hl := c_dlook s a false f h1 (by simp [rowB, h2]) (by omega) hf
    have g1 := ih1 (f - 1) (by omega) (by omega)
    have g2 := ih2 (f - 1 - (c : Int)) (by omega) (by omega)
    have z1 := rep_sz h3
    have z2 := u.sz_eq
    have z3 := Tm.szs_length u.l
    refine AC.vc hP sh lv31 (by simp) (by simp [isLive]) (by simp [isLive]) (Eq.mpr (v31 ..) ?_)
    refine ⟨((cellOf s.C a).t, (cellOf s.C a).a, (cellOf s.C a).b, (cellOf s.C a).c, (cellOf s.C a).d, f - 1, 0), hl, br_of (fun h => by cases h) (fun _ => br_eq (fun q => by simp only [h2] at q; omega) (fun _ => br_eq (fun q => by simp only [h2] at q; omega) (fun _ => br_eq (fun q => by simp only [h2] at q; omega) (fun _ => br_eq (fun q => by simp only [h2] at q; omega) (fun _ => br_eq (fun q => by simp only [h2] at q; omega) (fun _ => br_eq (fun q => by simp only [h2] at q; omega) (fun _ => br_eq (fun q => by simp only [h2] at q; omega) (fun _ => br_eq (fun _ => ?_) (fun q => absurd h2 q)))))))))⟩
    have ha := c_apply u [w] (by simp only [List.length_singleton]; omega)
    refine ⟨(u, f - 1 - (c : Int), 0), g1, (w, f - 1 - (c : Int) - (d : Int), 0), g2, ⟨rfl, Nat.le_refl _⟩, applyF u [w], ?_, .refl _, ?_⟩
    · rw [FT4_eq]; exact ha
    · rw [show f - 1 - (c : Int) - (d : Int) = f - ((c + d + 1 : Nat) : Int) by omega]
/-! ### Parts -/
mutual
theorem nd_le_sz : ∀ t : Tm, nd t ≤ t.sz
  | .mk _ _ _ l => by have := nds_le_szs l; simp only [nd, Tm.sz]; omega
theorem nds_le_szs : ∀ l : List Tm, nds l ≤ Tm.szs l
  | [] => Nat.le_refl _
  | t :: l => by have := nd_le_sz t; have := nds_le_szs l; simp only [nds, Tm.szs]; omega
end
abbrev capL (c : Cel) : AObj := .arr 5 [[.a (.fz (.int .i64 c.t)), .a (.fz (.int .i64 c.a)), .a (.fz (.int .i64 c.b)), .a (.fz (.int .i64 c.c)), .a (.fz (.int .i64 c.d))]]
abbrev capS (n : Int) : AObj := .arr 1 [[.a (.fz (.int .i64 n))]]
abbrev oP (s : Hp) (f e : Int) (cap : AObj) : List AObj := oD s f e ++ [.arr 1 [[.a (.ep 0 3 0 0)]], cap]
abbrev oF (s : Hp) (f e : Int) (cap : AObj) : List AObj := .arr 1 [[.a (.ep 1 3 0 0)]] :: de3 2 f e :: hp6 3 4 5 6 s :: [.arz 5 (CR s.C), .arz 7 (TR s.T), .arz 1 (NR s.N), .mapz (NM s.N 0), cap]
def apl : List Tm → Tm
  | [] => noT
  | x :: r => applyF x r
theorem walk_lam (lf : Tm → Int → Tm) (u : Tm) (d : Int) : walkF lf (.mk 5 [] 0 [u]) d = .mk 5 [] 0 [walkF lf u (d + 1)] := by
  rw [walkF, if_pos (show ((5 : Int) == 5 || (5 : Int) == 6) = true from rfl)]; rfl
theorem walk_app (lf : Tm → Int → Tm) (h : Tm) (l : List Tm) (d : Int) (hl : l ≠ []) (hk : h.k ≠ 6) : walkF lf (.mk 6 [] 0 (h :: l)) d = apl (walkL lf (h :: l) d) := by
  rw [walkF, if_pos (show ((6 : Int) == 5 || (6 : Int) == 6) = true from rfl)]
  rw [show (d + if ((6 : Int) == 5) = true then 1 else 0) = d by simp]
  match l, hl with
  | v :: l, _ =>
    show withF (.mk 6 [] 0 (h :: v :: l)) (walkF lf h d :: walkF lf v d :: walkL lf l d) = applyF (walkF lf h d) (walkF lf v d :: walkL lf l d)
    generalize walkF lf h d = X
    generalize walkF lf v d = Y
    generalize walkL lf l d = R
    have hk' : (h.k != 6) = true := by simpa [bne] using hk
    by_cases q : (X.k == 6) = true
    · unfold withF; exact if_pos ⟨rfl, by simp, q, hk'⟩
    · have e1 : withF (.mk 6 [] 0 (h :: v :: l)) (X :: Y :: R) = .mk 6 [] 0 (X :: Y :: R) := by unfold withF; exact if_neg (fun e => q e.2.2.1)
      have e2 : applyF X (Y :: R) = .mk 6 [] 0 (X :: Y :: R) := if_neg (fun e => q e.1)
      rw [e1, e2]
theorem aE_hd (x : Tm) (l : List Tm) : aE (List.getD (FTs (x :: l)) 0 []) = aT x := aE_FT x
abbrev hsP (s : Hp) (f : Int) (cap : AObj) (rest : List (Nat × AObj)) : List (Nat × AObj) := (0, de3 1 f 0) :: (1, hp6 2 3 4 5 s) :: (2, .arz 5 (CR s.C)) :: (3, .arz 7 (TR s.T)) :: (4, .arz 1 (NR s.N)) :: (5, .mapz (NM s.N 0)) :: (6, .arr 1 [[.a (.ep 0 3 0 0)]]) :: (7, cap) :: (8, .arr 4 [[.a (.fz (.int .i64 0)), .a (.fz (.str [])), .a (.fz (.int .i64 0)), .a (.fz .nils)]]) :: rest
section
variable (s : Hp) (c : Cel) (lf : Tm → Int → Tm) (K : Nat) (D : Int) (hK : K ≤ 1000) (hD : D ≤ 1000000)
  (leaf : ∀ (n d f : Int), 0 ≤ d → d ≤ D → d ≤ n → n ≤ 1000 → (K : Int) ≤ f → f ≤ 1000000 → ∃ f' : Int, f - (K : Int) ≤ f' ∧ f' ≤ f ∧ AC Try.prog 54 [ci (n - d), ci d, .c (.a (.ep 0 1 0 0)), .c (.a (.ep 7 5 0 0))] (oF s f 0 (capL c)) (aT (lf (.mk 3 [] n []) d)) (oF s f' 0 (capL c)))
  (out : ∀ u d, ¬ (u.k = 3 ∧ d ≤ u.n) → lf u d = u) (hS : ∀ u d, (lf u d).sz ≤ u.sz + 1000000)
abbrev goalL (lf : Tm → Int → Tm) (K : Nat) (s : Hp) (c : Cel) (t : Tm) (d f f' : Int) : Prop := f - (t.sz : Int) * (K : Int) ≤ f' ∧ f' ≤ f ∧ AC Try.prog 53 [aD, aT t, ci d, fnL] (oP s f 0 (capL c)) (aT (walkF lf t d)) (oP s f' 0 (capL c))
abbrev stBL (s : Hp) (c : Cel) (d f : Int) (x : List Tm) (i : Nat) (o : List Tm) : St :=
  ⟨[(0, aD), (2, ci d), (3, fnL), (8, .c (.a (.ep 8 4 0 0))), (9, .c (.a (.osl 9 4 0 o.length))), (42, aL x), (43, ci (x.length : Int)), (44, ci (i : Int))], hsP s f (capL c) [(9, .arz 4 (FTs o))], 10⟩
include hS hK in
theorem l_partsL (d : Int) : ∀ (b a o : List Tm), o ≠ [] → a.length = o.length → (a ++ b).length ≤ 1000 → (∀ u ∈ b, ∀ f : Int, (u.sz : Int) * (K : Int) ≤ f → f ≤ 1000000 → ∃ f', goalL lf K s c u d f f') →
    (∀ u ∈ b, u.sz ≤ 1000) → (∀ v ∈ o, v.sz ≤ 2000000000) → ∀ f : Int, ((Tm.szs b : Nat) : Int) * (K : Int) ≤ f → f ≤ 1000000 →
    ∃ f' : Int, f - ((Tm.szs b : Nat) : Int) * (K : Int) ≤ f' ∧ f' ≤ f ∧ RPt Try.prog 53 8 (aT (apl (o ++ walkL lf b d))) (oP s f' 0 (capL c)) 3 (stBL s c d f (a ++ b) a.length o)
  | [], a, o, ho, hao, hl, _, _, hso, f, hf, hf2 => by
    refine ⟨f, by simp [Tm.szs], Int.le_refl _, RPt.vc hP sh lv53 (Eq.mpr (v53_F54_3b ..) ?_)⟩
    match o, ho with
    | x :: r, _ =>
    have hlen := FTs_length (x :: r)
    have z1 := hso x List.mem_cons_self
    have z2 := x.sz_eq
    have z3 := Tm.szs_length x.l
    have ha := c_apply x r (by simp only [List.length_append, List.length_cons, List.length_nil] at hao hl; omega)
    refine br_of (fun h => absurd (of_decide_eq_true h) (by simp only [List.append_nil]; omega)) (fun _ => ⟨⟨Int.le_refl _, by simp only [List.length_cons]; omega⟩, ⟨by rw [hlen]; simp, ?_, rfl⟩, ⟨by omega, by simp only [List.length_cons]; omega, by omega⟩, ⟨rfl, by simp only [List.length_cons] at hlen ⊢; omega⟩, applyF x r, ?_, ?_⟩)
    · show rE (FT x) = List.take 4 (FT x)
      rw [rE_FT, List.take_of_length_le (by rw [FT_length]; omega)]
    · rw [aE_hd, show List.take (Int.toNat (((x :: r).length : Nat) : Int) - 1) (List.drop 1 (FTs (x :: r))) = FTs r by
        rw [Int.toNat_natCast, List.length_cons, Nat.add_sub_cancel]
        exact List.take_of_length_le (by show (FTs r).length ≤ _; rw [FTs_length]; omega)]
      exact ha
    · rw [show (x :: r) ++ walkL lf [] d = x :: r from List.append_nil _]
      exact ⟨.refl _, rfl⟩
  | u :: b, a, o, ho, hao, hl, hu, hs, hso, f, hf, hf2 => by
    simp only [Tm.szs] at hf ⊢
    have hmul : ((u.sz + Tm.szs b : Nat) : Int) * (K : Int) = (u.sz : Int) * (K : Int) + ((Tm.szs b : Nat) : Int) * (K : Int) := by push_cast; rw [Int.add_mul]
    have hnn : 0 ≤ ((Tm.szs b : Nat) : Int) * (K : Int) := Int.mul_nonneg (by omega) (by omega)
    rw [hmul] at hf ⊢
    obtain ⟨f1, g1, g2, g3⟩ := hu u List.mem_cons_self f (by omega) hf2
    have hw := walkF_sz lf 1000000 hS u d
    have hnd := nd_le_sz u
    have hsu := hs u List.mem_cons_self
    have hm : nd u * 1000000 ≤ 1000 * 1000000 := Nat.mul_le_mul_right _ (by omega)
    obtain ⟨f', k1, k2, k3⟩ := l_partsL d b (a ++ [u]) (o ++ [walkF lf u d]) (by simp) (by simp [hao]) (by simpa using hl) (fun v hv => hu v (List.mem_cons_of_mem _ hv)) (fun v hv => hs v (List.mem_cons_of_mem _ hv))
      (fun v hv => by rcases List.mem_append.1 hv with hv | hv; · exact hso v hv
                      · rw [List.mem_singleton.1 hv]; omega) f1 (by omega) (by omega)
    refine ⟨f', by omega, by omega, RPt.vc hP sh lv53 (Eq.mpr (v53_F54_3b ..) ?_)⟩
    have hlen := FTs_length (a ++ u :: b)
    have hla : a.length < (a ++ u :: b).length := by simp
    rw [aE_mid, w64 (x := (a.length : Int) + 1) (by omega) (by omega)]
    refine br_of (fun _ => ⟨⟨rfl, by omega, by rw [hlen]; omega, rE_mid a u b⟩, (walkF lf u d, f1, 0), g3, Nat.le_refl _, ⟨by rw [FTs_length]; omega, by simp only [roomB]; omega⟩, ?_⟩) (fun h => absurd (of_decide_eq_false h) (by omega))
    rw [FT4_eq, show List.take o.length (FTs o) ++ [FT (walkF lf u d)] = FTs (o ++ [walkF lf u d]) by rw [List.take_of_length_le (by rw [FTs_length]; omega), FTs_append]; rfl]
    have e1 : (o ++ [walkF lf u d]) ++ walkL lf b d = o ++ walkL lf (u :: b) d := by rw [List.append_assoc]; rfl
    rw [e1, show (a ++ [u]) ++ b = a ++ u :: b by simp, show (a ++ [u]).length = a.length + 1 by simp] at k3
    simp only [stBL, show (o ++ [walkF lf u d]).length = o.length + 1 by simp] at k3
    exact k3
include hS hK leaf out hD in
theorem c_partsL : ∀ t : Tm, Cl t → t.sz ≤ 1000 → ∀ d f : Int, 0 ≤ d → d + (t.sz : Int) ≤ D → (t.sz : Int) * (K : Int) ≤ f → f ≤ 1000000 → ∃ f', goalL lf K s c t d f f' := by
  intro t h
  induction h with
  | leaf k str n h5 h6 h3 =>
    intro hz d f h0 hd hf hf2
    have hone : ((Tm.mk k str n []).sz : Int) * (K : Int) = (K : Int) := by simp [Tm.sz, Tm.szs]
    rw [hone] at hf
    have ew : walkF lf (.mk k str n []) d = lf (.mk k str n []) d := walkF_leaf _ _ _ _ _ _ (by simp [h5, h6])
    by_cases q : k = 3 ∧ d ≤ n
    · obtain ⟨rfl, g1, g2⟩ := h3 q.1
      obtain ⟨rfl, q2⟩ := q
      obtain ⟨f', k1, k2, k3⟩ := leaf n d f h0 (Int.le_trans (Int.le_add_of_nonneg_right (Int.natCast_nonneg _)) hd) q2 g2 hf hf2
      refine ⟨f', by rw [hone]; exact k1, k2, ?_⟩
      rw [ew]
      refine AC.vc hP sh lv53 (by simp) (by simp [isLive]) (by simp [isLive]) (Eq.mpr (v53_F54 3 [] n (FTs []) ..) ?_)
      refine br_of (fun _ => br_of (fun _ => ⟨(lf (.mk 3 [] n []) d, f', 0), ?_, .refl _, rfl⟩) (fun h => absurd (of_decide_eq_false h) (by omega))) (fun h => by cases h)
      rw [w64 (x := n - d) (by omega) (by omega)]
      exact k3
    · refine ⟨f, by rw [hone]; omega, Int.le_refl _, ?_⟩
      rw [ew, out _ _ (by simpa [Tm.k, Tm.n] using q)]
      refine AC.vc hP sh lv53 (by simp) (by simp [isLive]) (by simp [isLive]) (Eq.mpr (v53_F54 k str n (FTs []) ..) ?_)
      refine br_eq (fun e => br_of (fun h => absurd ⟨e, of_decide_eq_true h⟩ q) (fun _ => ⟨.refl _, rfl⟩)) (fun _ => br_eq (fun e => absurd e h5) (fun _ => br_eq (fun e => absurd e h6) (fun _ => ⟨.refl _, rfl⟩)))
  | lam u hu ih =>
    intro hz d f h0 hd hf hf2
    have es : (Tm.mk 5 [] 0 [u]).sz = u.sz + 1 := by simp only [Tm.sz, Tm.szs]; omega
    rw [es] at hz hd hf
    have hm : ((u.sz + 1 : Nat) : Int) * (K : Int) = (u.sz : Int) * (K : Int) + (K : Int) := by push_cast; rw [Int.add_mul, Int.one_mul]
    rw [hm] at hf
    obtain ⟨f', k1, k2, k3⟩ := ih (by omega) (d + 1) f (by omega) (by omega) (by omega) hf2
    refine ⟨f', by rw [es, hm]; omega, k2, ?_⟩
    rw [walk_lam]
    refine AC.vc hP sh lv53 (by simp) (by simp [isLive]) (by simp [isLive]) (Eq.mpr (v53_F54 5 [] 0 (FTs [u]) ..) ?_)
    refine br_of (fun h => by cases h) (fun _ => br_of (fun _ => ⟨⟨rfl, Int.le_refl _, by rw [FTs_length]; simp, rE_FT u⟩, (walkF lf u (d + 1), f', 0), ?_, lamsF 1 (walkF lf u (d + 1)), c_lams 1 _ (by omega), .refl _, rfl⟩) (fun h => by cases h))
    rw [aE_hd, w64 (x := d + 1) (by omega) (by omega)]
    exact k3
  | app h l hh hk hl hu ih1 ih2 =>
    intro hz d f h0 hd hf hf2
    have es : (Tm.mk 6 [] 0 (h :: l)).sz = h.sz + Tm.szs l + 1 := by simp only [Tm.sz, Tm.szs]; omega
    rw [es] at hz hd hf
    have hm : ((h.sz + Tm.szs l + 1 : Nat) : Int) * (K : Int) = (h.sz : Int) * (K : Int) + ((Tm.szs l : Nat) : Int) * (K : Int) + (K : Int) := by push_cast; rw [Int.add_mul, Int.add_mul, Int.one_mul]
    rw [hm] at hf
    have hn1 : 0 ≤ ((Tm.szs l : Nat) : Int) * (K : Int) := Int.mul_nonneg (by omega) (by omega)
    obtain ⟨f1, k1, k2, k3⟩ := ih1 (by omega) d f h0 (by omega) (by omega) hf2
    have hw := walkF_sz lf 1000000 hS h d
    have hnd := nd_le_sz h
    have hmm : nd h * 1000000 ≤ 1000 * 1000000 := Nat.mul_le_mul_right _ (by omega)
    have hsl := Tm.szs_length l
    have hle := fun v (hv : v ∈ l) => Tm.szs_mem hv
    obtain ⟨f', g1, g2, g3⟩ := l_partsL s c lf K hK hS d l [h] [walkF lf h d] (by simp) rfl (by simp; omega)
      (fun v hv f hvf hvf2 => ih2 v hv (by have := hle v hv; omega) d f h0 (by have := hle v hv; omega) hvf hvf2) (fun v hv => by have := hle v hv; omega) (fun v hv => by rw [List.mem_singleton.1 hv]; omega) f1 (by omega) (by omega)
    refine ⟨f', by rw [es, hm]; omega, by omega, ?_⟩
    rw [walk_app lf h l d hl hk]
    refine AC.vc hP sh lv53 (by simp) (by simp [isLive]) (by simp [isLive]) (Eq.mpr (v53_F54 6 [] 0 (FTs (h :: l)) ..) ?_)
    refine br_of (fun h => by cases h) (fun _ => br_of (fun h => by cases h) (fun _ => br_of (fun _ => ⟨rfl, RPt.vc hP sh lv53 (Eq.mpr (v53_F54_3a ..) ?_)⟩) (fun h => by cases h)))
    have hlen := FTs_length (h :: l)
    refine br_of (fun _ => ⟨⟨rfl, Int.le_refl _, by rw [hlen]; simp, rE_FT h⟩, (walkF lf h d, f1, 0), ?_, Nat.le_refl _, by simp only [roomB]; omega, ?_⟩) (fun h => absurd (of_decide_eq_false h) (by rw [hlen]; simp))
    · rw [show List.getD (FTs (h :: l)) (Int.toNat 0) [] = FT h from rfl, aE_FT]; exact k3
    · rw [hlen, FT4_eq]
      exact g3
end
section
variable (s : Hp) (c : Int) (lf : Tm → Int → Tm) (K : Nat) (D : Int) (hK : K ≤ 1000) (hD : D ≤ 1000000)
  (leaf : ∀ (n d f : Int), 0 ≤ d → d ≤ D → d ≤ n → n ≤ 1000 → (K : Int) ≤ f → f ≤ 1000000 → ∃ f' : Int, f - (K : Int) ≤ f' ∧ f' ≤ f ∧ AC Try.prog 82 [ci (n - d), ci d, .c (.a (.ep 0 1 0 0)), .c (.a (.ep 7 1 0 0))] (oF s f 0 (capS c)) (aT (lf (.mk 3 [] n []) d)) (oF s f' 0 (capS c)))
  (out : ∀ u d, ¬ (u.k = 3 ∧ d ≤ u.n) → lf u d = u) (hS : ∀ u d, (lf u d).sz ≤ u.sz + 1000000)
abbrev goalS (lf : Tm → Int → Tm) (K : Nat) (s : Hp) (c : Int) (t : Tm) (d f f' : Int) : Prop := f - (t.sz : Int) * (K : Int) ≤ f' ∧ f' ≤ f ∧ AC Try.prog 53 [aD, aT t, ci d, fnS] (oP s f 0 (capS c)) (aT (walkF lf t d)) (oP s f' 0 (capS c))
abbrev stBS (s : Hp) (c : Int) (d f : Int) (x : List Tm) (i : Nat) (o : List Tm) : St :=
  ⟨[(0, aD), (2, ci d), (3, fnS), (8, .c (.a (.ep 8 4 0 0))), (9, .c (.a (.osl 9 4 0 o.length))), (42, aL x), (43, ci (x.length : Int)), (44, ci (i : Int))], hsP s f (capS c) [(9, .arz 4 (FTs o))], 10⟩
include hS hK in
theorem l_partsS (d : Int) : ∀ (b a o : List Tm), o ≠ [] → a.length = o.length → (a ++ b).length ≤ 1000 → (∀ u ∈ b, ∀ f : Int, (u.sz : Int) * (K : Int) ≤ f → f ≤ 1000000 → ∃ f', goalS lf K s c u d f f') →
    (∀ u ∈ b, u.sz ≤ 1000) → (∀ v ∈ o, v.sz ≤ 2000000000) → ∀ f : Int, ((Tm.szs b : Nat) : Int) * (K : Int) ≤ f → f ≤ 1000000 →
    ∃ f' : Int, f - ((Tm.szs b : Nat) : Int) * (K : Int) ≤ f' ∧ f' ≤ f ∧ RPt Try.prog 53 8 (aT (apl (o ++ walkL lf b d))) (oP s f' 0 (capS c)) 3 (stBS s c d f (a ++ b) a.length o)
  | [], a, o, ho, hao, hl, _, _, hso, f, hf, hf2 => by
    refine ⟨f, by simp [Tm.szs], Int.le_refl _, RPt.vc hP sh lv53 (Eq.mpr (v53_F82_3b ..) ?_)⟩
    match o, ho with
    | x :: r, _ =>
    have hlen := FTs_length (x :: r)
    have z1 := hso x List.mem_cons_self
    have z2 := x.sz_eq
    have z3 := Tm.szs_length x.l
    have ha := c_apply x r (by simp only [List.length_append, List.length_cons, List.length_nil] at hao hl; omega)
    refine br_of (fun h => absurd (of_decide_eq_true h) (by simp only [List.append_nil]; omega)) (fun _ => ⟨⟨Int.le_refl _, by simp only [List.length_cons]; omega⟩, ⟨by rw [hlen]; simp, ?_, rfl⟩, ⟨by omega, by simp only [List.length_cons]; omega, by omega⟩, ⟨rfl, by simp only [List.length_cons] at hlen ⊢; omega⟩, applyF x r, ?_, ?_⟩)
    · show rE (FT x) = List.take 4 (FT x)
      rw [rE_FT, List.take_of_length_le (by rw [FT_length]; omega)]
    · rw [aE_hd, show List.take (Int.toNat (((x :: r).length : Nat) : Int) - 1) (List.drop 1 (FTs (x :: r))) = FTs r by
        rw [Int.toNat_natCast, List.length_cons, Nat.add_sub_cancel]
        exact List.take_of_length_le (by show (FTs r).length ≤ _; rw [FTs_length]; omega)]
      exact ha
    · rw [show (x :: r) ++ walkL lf [] d = x :: r from List.append_nil _]
      exact ⟨.refl _, rfl⟩
  | u :: b, a, o, ho, hao, hl, hu, hs, hso, f, hf, hf2 => by
    simp only [Tm.szs] at hf ⊢
    have hmul : ((u.sz + Tm.szs b : Nat) : Int) * (K : Int) = (u.sz : Int) * (K : Int) + ((Tm.szs b : Nat) : Int) * (K : Int) := by push_cast; rw [Int.add_mul]
    have hnn : 0 ≤ ((Tm.szs b : Nat) : Int) * (K : Int) := Int.mul_nonneg (by omega) (by omega)
    rw [hmul] at hf ⊢
    obtain ⟨f1, g1, g2, g3⟩ := hu u List.mem_cons_self f (by omega) hf2
    have hw := walkF_sz lf 1000000 hS u d
    have hnd := nd_le_sz u
    have hsu := hs u List.mem_cons_self
    have hm : nd u * 1000000 ≤ 1000 * 1000000 := Nat.mul_le_mul_right _ (by omega)
    obtain ⟨f', k1, k2, k3⟩ := l_partsS d b (a ++ [u]) (o ++ [walkF lf u d]) (by simp) (by simp [hao]) (by simpa using hl) (fun v hv => hu v (List.mem_cons_of_mem _ hv)) (fun v hv => hs v (List.mem_cons_of_mem _ hv))
      (fun v hv => by rcases List.mem_append.1 hv with hv | hv; · exact hso v hv
                      · rw [List.mem_singleton.1 hv]; omega) f1 (by omega) (by omega)
    refine ⟨f', by omega, by omega, RPt.vc hP sh lv53 (Eq.mpr (v53_F82_3b ..) ?_)⟩
    have hlen := FTs_length (a ++ u :: b)
    have hla : a.length < (a ++ u :: b).length := by simp
    rw [aE_mid, w64 (x := (a.length : Int) + 1) (by omega) (by omega)]
    refine br_of (fun _ => ⟨⟨rfl, by omega, by rw [hlen]; omega, rE_mid a u b⟩, (walkF lf u d, f1, 0), g3, Nat.le_refl _, ⟨by rw [FTs_length]; omega, by simp only [roomB]; omega⟩, ?_⟩) (fun h => absurd (of_decide_eq_false h) (by omega))
    rw [FT4_eq, show List.take o.length (FTs o) ++ [FT (walkF lf u d)] = FTs (o ++ [walkF lf u d]) by rw [List.take_of_length_le (by rw [FTs_length]; omega), FTs_append]; rfl]
    have e1 : (o ++ [walkF lf u d]) ++ walkL lf b d = o ++ walkL lf (u :: b) d := by rw [List.append_assoc]; rfl
    rw [e1, show (a ++ [u]) ++ b = a ++ u :: b by simp, show (a ++ [u]).length = a.length + 1 by simp] at k3
    simp only [stBS, show (o ++ [walkF lf u d]).length = o.length + 1 by simp] at k3
    exact k3
include hS hK leaf out hD in
theorem c_partsS : ∀ t : Tm, Cl t → t.sz ≤ 1000 → ∀ d f : Int, 0 ≤ d → d + (t.sz : Int) ≤ D → (t.sz : Int) * (K : Int) ≤ f → f ≤ 1000000 → ∃ f', goalS lf K s c t d f f' := by
  intro t h
  induction h with
  | leaf k str n h5 h6 h3 =>
    intro hz d f h0 hd hf hf2
    have hone : ((Tm.mk k str n []).sz : Int) * (K : Int) = (K : Int) := by simp [Tm.sz, Tm.szs]
    rw [hone] at hf
    have ew : walkF lf (.mk k str n []) d = lf (.mk k str n []) d := walkF_leaf _ _ _ _ _ _ (by simp [h5, h6])
    by_cases q : k = 3 ∧ d ≤ n
    · obtain ⟨rfl, g1, g2⟩ := h3 q.1
      obtain ⟨rfl, q2⟩ := q
      obtain ⟨f', k1, k2, k3⟩ := leaf n d f h0 (Int.le_trans (Int.le_add_of_nonneg_right (Int.natCast_nonneg _)) hd) q2 g2 hf hf2
      refine ⟨f', by rw [hone]; exact k1, k2, ?_⟩
      rw [ew]
      refine AC.vc hP sh lv53 (by simp) (by simp [isLive]) (by simp [isLive]) (Eq.mpr (v53_F82 3 [] n (FTs []) ..) ?_)
      refine br_of (fun _ => br_of (fun _ => ⟨(lf (.mk 3 [] n []) d, f', 0), ?_, .refl _, rfl⟩) (fun h => absurd (of_decide_eq_false h) (by omega))) (fun h => by cases h)
      rw [w64 (x := n - d) (by omega) (by omega)]
      exact k3
    · refine ⟨f, by rw [hone]; omega, Int.le_refl _, ?_⟩
      rw [ew, out _ _ (by simpa [Tm.k, Tm.n] using q)]
      refine AC.vc hP sh lv53 (by simp) (by simp [isLive]) (by simp [isLive]) (Eq.mpr (v53_F82 k str n (FTs []) ..) ?_)
      refine br_eq (fun e => br_of (fun h => absurd ⟨e, of_decide_eq_true h⟩ q) (fun _ => ⟨.refl _, rfl⟩)) (fun _ => br_eq (fun e => absurd e h5) (fun _ => br_eq (fun e => absurd e h6) (fun _ => ⟨.refl _, rfl⟩)))
  | lam u hu ih =>
    intro hz d f h0 hd hf hf2
    have es : (Tm.mk 5 [] 0 [u]).sz = u.sz + 1 := by simp only [Tm.sz, Tm.szs]; omega
    rw [es] at hz hd hf
    have hm : ((u.sz + 1 : Nat) : Int) * (K : Int) = (u.sz : Int) * (K : Int) + (K : Int) := by push_cast; rw [Int.add_mul, Int.one_mul]
    rw [hm] at hf
    obtain ⟨f', k1, k2, k3⟩ := ih (by omega) (d + 1) f (by omega) (by omega) (by omega) hf2
    refine ⟨f', by rw [es, hm]; omega, k2, ?_⟩
    rw [walk_lam]
    refine AC.vc hP sh lv53 (by simp) (by simp [isLive]) (by simp [isLive]) (Eq.mpr (v53_F82 5 [] 0 (FTs [u]) ..) ?_)
    refine br_of (fun h => by cases h) (fun _ => br_of (fun _ => ⟨⟨rfl, Int.le_refl _, by rw [FTs_length]; simp, rE_FT u⟩, (walkF lf u (d + 1), f', 0), ?_, lamsF 1 (walkF lf u (d + 1)), c_lams 1 _ (by omega), .refl _, rfl⟩) (fun h => by cases h))
    rw [aE_hd, w64 (x := d + 1) (by omega) (by omega)]
    exact k3
  | app h l hh hk hl hu ih1 ih2 =>
    intro hz d f h0 hd hf hf2
    have es : (Tm.mk 6 [] 0 (h :: l)).sz = h.sz + Tm.szs l + 1 := by simp only [Tm.sz, Tm.szs]; omega
    rw [es] at hz hd hf
    have hm : ((h.sz + Tm.szs l + 1 : Nat) : Int) * (K : Int) = (h.sz : Int) * (K : Int) + ((Tm.szs l : Nat) : Int) * (K : Int) + (K : Int) := by push_cast; rw [Int.add_mul, Int.add_mul, Int.one_mul]
    rw [hm] at hf
    have hn1 : 0 ≤ ((Tm.szs l : Nat) : Int) * (K : Int) := Int.mul_nonneg (by omega) (by omega)
    obtain ⟨f1, k1, k2, k3⟩ := ih1 (by omega) d f h0 (by omega) (by omega) hf2
    have hw := walkF_sz lf 1000000 hS h d
    have hnd := nd_le_sz h
    have hmm : nd h * 1000000 ≤ 1000 * 1000000 := Nat.mul_le_mul_right _ (by omega)
    have hsl := Tm.szs_length l
    have hle := fun v (hv : v ∈ l) => Tm.szs_mem hv
    obtain ⟨f', g1, g2, g3⟩ := l_partsS s c lf K hK hS d l [h] [walkF lf h d] (by simp) rfl (by simp; omega)
      (fun v hv f hvf hvf2 => ih2 v hv (by have := hle v hv; omega) d f h0 (by have := hle v hv; omega) hvf hvf2) (fun v hv => by have := hle v hv; omega) (fun v hv => by rw [List.mem_singleton.1 hv]; omega) f1 (by omega) (by omega)
    refine ⟨f', by rw [es, hm]; omega, by omega, ?_⟩
    rw [walk_app lf h l d hl hk]
    refine AC.vc hP sh lv53 (by simp) (by simp [isLive]) (by simp [isLive]) (Eq.mpr (v53_F82 6 [] 0 (FTs (h :: l)) ..) ?_)
    refine br_of (fun h => by cases h) (fun _ => br_of (fun h => by cases h) (fun _ => br_of (fun _ => ⟨rfl, RPt.vc hP sh lv53 (Eq.mpr (v53_F82_3a ..) ?_)⟩) (fun h => by cases h)))
    have hlen := FTs_length (h :: l)
    refine br_of (fun _ => ⟨⟨rfl, Int.le_refl _, by rw [hlen]; simp, rE_FT h⟩, (walkF lf h d, f1, 0), ?_, Nat.le_refl _, by simp only [roomB]; omega, ?_⟩) (fun h => absurd (of_decide_eq_false h) (by rw [hlen]; simp))
    · rw [show List.getD (FTs (h :: l)) (Int.toNat 0) [] = FT h from rfl, aE_FT]; exact k3
    · rw [hlen, FT4_eq]
      exact g3
end

end Go.AM

set_option maxRecDepth 100000
open Go Go.Proofs
namespace Go.AM

/-! ### What is larger -/
mutual
theorem left_nd : ∀ (t : Tm) (m : Int), 0 ≤ leftF t m → (t.sz : Int) ≤ m - leftF t m
  | .mk _ s _ l, m, h => by
    simp only [leftF] at h ⊢
    have := left_nds l (m - 1) h
    simp only [Tm.sz]; omega
theorem left_nds : ∀ (l : List Tm) (m : Int), 0 ≤ leftL l m → (Tm.szs l : Int) ≤ m - leftL l m
  | [], m, h => by simp [leftL, Tm.szs]
  | t :: l, m, h => by
    simp only [leftL] at h ⊢
    split at h
    · rename_i h0
      rw [if_pos h0]
      have h1 := left_nds l _ h
      have h3 := (leftL_le l (leftF t m)).1
      have h2 := left_nd t m (by omega)
      simp only [Tm.szs]; omega
    · rename_i h0; exact absurd h h0
end
theorem large_sz {t : Tm} {m : Int} (h : large t m = false) : (t.sz : Int) ≤ m := by
  have h := of_decide_eq_false h
  have := left_nd t m (by omega)
  omega
/-! ### More cells -/
structure Ext (h h' : Hp) (m : Nat) : Prop where
  C : ∃ D, h'.C = h.C ++ D ∧ D.length ≤ m
  N : ∃ D, h'.N = h.N ++ D ∧ D.length ≤ m
  M : h'.M = h.M
theorem Ext.refl (h : Hp) (m : Nat) : Ext h h m := ⟨⟨[], by simp, by simp⟩, ⟨[], by simp, by simp⟩, rfl⟩
theorem Ext.trans {a b c : Hp} {m n k : Nat} (h1 : Ext a b m) (h2 : Ext b c n) (hk : m + n ≤ k) : Ext a c k := by
  obtain ⟨⟨D, d1, d2⟩, ⟨E, e1, e2⟩, m1⟩ := h1
  obtain ⟨⟨D', d1', d2'⟩, ⟨E', e1', e2'⟩, m1'⟩ := h2
  exact ⟨⟨D ++ D', by rw [d1', d1, List.append_assoc], by simp; omega⟩, ⟨E ++ E', by rw [e1', e1, List.append_assoc], by simp; omega⟩, by rw [m1', m1]⟩
theorem Ext.mono {a b : Hp} {m n : Nat} (h : Ext a b m) (hk : m ≤ n) : Ext a b n := h.trans (Ext.refl b 0) (by omega)
theorem Ext.len {a b : Hp} {m : Nat} (h : Ext a b m) : a.C.length ≤ b.C.length ∧ b.C.length ≤ a.C.length + m ∧ b.N.length ≤ a.N.length + m := by
  obtain ⟨⟨D, d1, d2⟩, ⟨E, e1, e2⟩, _⟩ := h
  rw [d1, e1]; simp; omega
theorem inC_app {C D : List Cel} {a : Int} (h : inC C a = true) : inC (C ++ D) a = true ∧ cellOf (C ++ D) a = cellOf C a := by
  simp only [inC, Bool.and_eq_true, decide_eq_true_eq] at h
  obtain ⟨hl, e⟩ := cellOf_in h.1 h.2
  refine ⟨by simp only [inC, Bool.and_eq_true, decide_eq_true_eq, List.length_append]; omega, ?_⟩
  obtain ⟨hl2, e2⟩ := cellOf_in (C := C ++ D) h.1 (by rw [List.length_append]; omega)
  rw [e, e2, List.getElem_append_left hl]
theorem Ext.cell {a b : Hp} {m : Nat} (h : Ext a b m) {x : Int} (hx : inC a.C x = true) : inC b.C x = true ∧ cellOf b.C x = cellOf a.C x := by
  obtain ⟨⟨D, d1, _⟩, _, _⟩ := h
  rw [d1]; exact inC_app hx
theorem Rep.ext {a b : Hp} {m : Nat} (h : Ext a b m) {x : Int} {t : Tm} {c : Nat} (hr : Rep a.C a.N x t c) : Rep b.C b.N x t c := by
  induction hr with
  | con x h1 h2 h3 =>
    obtain ⟨g1, g2⟩ := h.cell h1
    obtain ⟨_, ⟨E, e1, _⟩, _⟩ := h
    have en : nameOf b.N (cellOf b.C x).a = nameOf a.N (cellOf a.C x).a := by
      rw [g2, e1, nameOf, nameOf, if_pos ⟨h3.1, by rw [List.length_append]; omega⟩, if_pos h3, List.getElem?_append_left (by omega)]
    rw [← en]
    exact .con x g1 (by rw [g2]; exact h2) (by rw [g2, e1, List.length_append]; omega)
  | atom x h1 h2 =>
    obtain ⟨g1, g2⟩ := h.cell h1
    rw [← g2] at h2 ⊢
    exact .atom x g1 h2
  | free x h1 h2 =>
    obtain ⟨g1, g2⟩ := h.cell h1
    exact .free x g1 (by rw [g2]; exact h2)
  | lam x u c h1 h2 h3 ih =>
    obtain ⟨g1, g2⟩ := h.cell h1
    exact .lam x u c g1 (by rw [g2]; exact h2) (by rw [g2]; exact ih)
  | app x u w c d h1 h2 h3 h4 ih1 ih2 =>
    obtain ⟨g1, g2⟩ := h.cell h1
    exact .app x u w c d g1 (by rw [g2]; exact h2) (by rw [g2]; exact ih1) (by rw [g2]; exact ih2)
theorem cell_new (C : List Cel) (c : Cel) : inC (C ++ [c]) (C.length : Int) = true ∧ cellOf (C ++ [c]) (C.length : Int) = c := by
  refine ⟨by simp [inC]; omega, ?_⟩
  rw [cellOf, if_pos ⟨by omega, by rw [List.length_append, List.length_singleton]; omega⟩, Int.toNat_natCast]; simp
theorem put_ext (s : Hp) (c : Cel) : Ext s (putS s c).2 1 := by
  rcases (show (putS s c).2 = s ∨ (putS s c).2 = { s with C := s.C ++ [c] } by
    unfold putS; split
    · exact .inl rfl
    · split
      · exact .inl rfl
      · exact .inr rfl) with e | e
  · rw [e]; exact Ext.refl s 1
  · rw [e]; exact ⟨⟨[c], rfl, by simp⟩, ⟨[], by simp, by simp⟩, rfl⟩
/-- A cell that was put in is there. -/
theorem put_ok {s : Hp} {c : Cel} (h : (putS s c).1.2 = 0) : fitsH s c = true ∧ inC (putS s c).2.C (putS s c).1.1 = true ∧ cellOf (putS s c).2.C (putS s c).1.1 = c := by
  unfold putS at h ⊢
  split at h
  · cases h
  · rename_i h1
    rw [if_neg h1]
    split at h
    · cases h
    · rename_i h2
      rw [if_neg h2]
      have := cell_new s.C c
      exact ⟨by simpa using h1, this.1, this.2⟩
theorem sym_ext (s : Hp) (nm : List UInt8) : Ext s (symS s nm).2 1 := by
  unfold symS; split
  · exact Ext.refl s 1
  · exact ⟨⟨[], by simp, by simp⟩, ⟨[nm], rfl, by simp⟩, rfl⟩
theorem validL_mem : ∀ {l : List Tm} {u : Tm}, validL l = true → u ∈ l → validB u = true
  | x :: l, u, h, hu => by
    rw [validL, Bool.and_eq_true] at h
    rcases List.mem_cons.1 hu with rfl | hu
    · exact h.1
    · exact validL_mem h.2 hu
theorem validL_of {k n : Int} {s : List UInt8} {l : List Tm} (h : validB (.mk k s n l) = true) (hk : k = 5 ∨ k = 6) : validL l = true := by
  rw [validB] at h
  rcases hk with rfl | rfl <;> simp at h <;> simp [h]
theorem nears_mem {M : Int} : ∀ {l : List Tm} {u : Tm}, nears M l = true → u ∈ l → near M u = true
  | x :: l, u, h, hu => by
    rw [nears, Bool.and_eq_true] at h
    rcases List.mem_cons.1 hu with rfl | hu
    · exact h.1
    · exact nears_mem h.2 hu

end Go.AM

set_option maxRecDepth 100000
open Go Go.Proofs
namespace Go.AM

/-! ### Encoded, in three ways -/
mutual
def vlt (k : Int) : Tm → Bool
  | .mk kk _ n l => (kk != 4 || decide (n < k)) && vlts k l
def vlts (k : Int) : List Tm → Bool
  | [] => true
  | t :: l => vlt k t && vlts k l
end
theorem vlts_mem {k : Int} : ∀ {l : List Tm} {u : Tm}, vlts k l = true → u ∈ l → vlt k u = true
  | x :: l, u, h, hu => by
    rw [vlts, Bool.and_eq_true] at h
    rcases List.mem_cons.1 hu with rfl | hu
    · exact h.1
    · exact vlts_mem h.2 hu
theorem vlt_kid {k kk n : Int} {s : List UInt8} {l : List Tm} (h : vlt k (.mk kk s n l) = true) : vlts k l = true := by
  rw [vlt, Bool.and_eq_true] at h; exact h.2
theorem vlts_false {k : Int} {l : List Tm} {u : Tm} (hu : u ∈ l) (h : vlt k u = false) : vlts k l = false := by
  cases e : vlts k l with
  | false => rfl
  | true => rw [vlts_mem e hu] at h; cases h
theorem vlt_inner {k kk n : Int} {s : List UInt8} {l : List Tm} (hk : kk ≠ 4) : vlt k (.mk kk s n l) = vlts k l := by
  rw [vlt, show (kk != 4) = true by simp [hk]]; simp
/-- The first cells are free. -/
def HF (k : Int) (h : Hp) : Prop := ∀ i : Int, 0 ≤ i → i < k → inC h.C i = true ∧ (cellOf h.C i).t = 4
theorem HF.ext {k : Int} {a b : Hp} {m : Nat} (h : Ext a b m) (h0 : HF k a) : HF k b := fun i hi hk => by
  obtain ⟨p1, p2⟩ := h0 i hi hk
  obtain ⟨g1, g2⟩ := h.cell p1
  exact ⟨g1, by rw [g2]; exact p2⟩
theorem HF.isT {k : Int} {h : Hp} (h0 : HF k h) {i : Int} (hi : 0 ≤ i) (hk : i < k) : isT h.C i = true := by
  obtain ⟨p1, p2⟩ := h0 i hi hk
  simp [Go.AM.isT, p1, rowB, p2]
/-- The first cell can be told. -/
def R0 (h : Hp) : Prop := h.C ≠ [] → ∃ x c, Rep h.C h.N 0 x c ∧ c ≤ 1
theorem R0.ext {a b : Hp} {m : Nat} (h : Ext a b m) (h0 : R0 a) (hn : a.C ≠ []) : R0 b := fun _ => by
  obtain ⟨x, c, h1, h2⟩ := h0 hn
  exact ⟨x, c, h1.ext h, h2⟩
theorem put_zero {s : Hp} {c : Cel} (hs : s.C = []) (hn : (putS s c).2.C ≠ []) : (putS s c).1 = (0, 0) := by
  unfold putS at hn ⊢
  split at hn
  · exact absurd hs hn
  · rename_i h1
    rw [if_neg h1]
    split at hn
    · exact absurd hs hn
    · rename_i h2
      rw [if_neg h2, hs]; rfl
theorem put_err {s : Hp} {c : Cel} (hf : fitsH s c = true) : (putS s c).1.2 = 0 ∨ (putS s c).1.2 = 200 := by
  unfold putS
  rw [if_neg (by rw [hf]; simp)]
  split
  · exact .inr rfl
  · exact .inl rfl
theorem put_R0 {s : Hp} {c : Cel} (h0 : R0 s) (hr : (putS s c).1.2 = 0 → ∃ x d, Rep (putS s c).2.C (putS s c).2.N (putS s c).1.1 x d ∧ d ≤ 1) : R0 (putS s c).2 := by
  by_cases e : s.C = []
  · intro hn
    have e1 := put_zero e hn
    obtain ⟨x, d, h1, h2⟩ := hr (by rw [e1])
    rw [e1] at h1
    exact ⟨x, d, h1, h2⟩
  · exact h0.ext (put_ext s c) e
theorem inC_ne {C : List Cel} {a : Int} (h : inC C a = true) : C ≠ [] := by
  intro e; rw [e] at h; simp [inC] at h; omega
theorem rep_ne {C : List Cel} {N : List (List UInt8)} {a : Int} {x : Tm} {c : Nat} (h : Rep C N a x c) : C ≠ [] := by
  cases h with
  | con _ h1 => exact inC_ne h1
  | atom _ h1 => exact inC_ne h1
  | free _ h1 => exact inC_ne h1
  | lam _ _ _ h1 => exact inC_ne h1
  | app _ _ _ _ _ h1 => exact inC_ne h1
theorem rep_isT {C : List Cel} {N : List (List UInt8)} {a : Int} {x : Tm} {c : Nat} (h : Rep C N a x c) : isT C a = true := by
  cases h with
  | con _ h1 h2 h3 => simp [isT, h1, rowB, h2]
  | atom _ h1 h2 => rcases h2 with h2 | h2 | h2 <;> simp [isT, h1, rowB, h2]
  | free _ h1 h2 => simp [isT, h1, rowB, h2]
  | lam _ _ _ h1 h2 => simp [isT, h1, rowB, h2]
  | app _ _ _ _ _ h1 h2 => simp [isT, h1, rowB, h2]
theorem sym_name (s : Hp) (nm : List UInt8) : nameOf (symS s nm).2.N (symS s nm).1 = nm ∧ 0 ≤ (symS s nm).1 ∧ (symS s nm).1 < ((symS s nm).2.N.length : Int) := by
  match hq : numOf nm s.N 0 with
  | some x =>
    obtain ⟨q, h1, h2, _, _⟩ := (findN nm s.N 0 0).2 x hq
    have hlt : q < s.N.length := (List.getElem?_eq_some_iff.1 h2).1
    have e : symS s nm = ((x : Int), s) := by simp only [symS, hq]
    rw [e]
    refine ⟨?_, by simp only; omega, by simp only; omega⟩
    show nameOf s.N (x : Int) = nm
    rw [nameOf, if_pos (by omega), Int.toNat_natCast, h1, Nat.zero_add, h2]; rfl
  | none =>
    have e : symS s nm = ((s.N.length : Int), { s with N := s.N ++ [nm] }) := by simp only [symS, hq]
    rw [e]
    refine ⟨?_, by simp only; omega, by simp only [List.length_append, List.length_singleton]; omega⟩
    show nameOf (s.N ++ [nm]) (s.N.length : Int) = nm
    rw [nameOf, if_pos ⟨by omega, by rw [List.length_append, List.length_singleton]; omega⟩, Int.toNat_natCast]; simp
theorem put_N (s : Hp) (c : Cel) : (putS s c).2.N = s.N ∧ (putS s c).2.M = s.M ∧ ((putS s c).2.C = s.C ∨ (putS s c).2.C = s.C ++ [c]) := by
  unfold putS; split
  · exact ⟨rfl, rfl, .inl rfl⟩
  · split
    · exact ⟨rfl, rfl, .inl rfl⟩
    · exact ⟨rfl, rfl, .inr rfl⟩
theorem symS_M (s : Hp) (nm : List UInt8) : (symS s nm).2.M = s.M := by unfold symS; split <;> rfl
theorem enc_ext (s : Hp) (nm : List UInt8) : Ext s (encS s nm).2 1 := by
  unfold encS
  have h1 := sym_ext s nm
  have h2 := put_N (symS s nm).2 ⟨0, (symS s nm).1, 0, 0, 0⟩
  have e := symS_C s nm
  refine ⟨?_, by rw [h2.1]; exact h1.N, by rw [h2.2.1]; exact symS_M s nm⟩
  rcases h2.2.2 with e2 | e2 <;> rw [e2, e]
  · exact ⟨[], by simp, by simp⟩
  · exact ⟨[⟨0, (symS s nm).1, 0, 0, 0⟩], rfl, by simp⟩
theorem applyF_snoc {u : Tm} (hu : u.k ≠ 6) (done : List Tm) (w : Tm) : applyF (applyF u done) [w] = applyF u (done ++ [w]) := by
  have h6 : ¬ ((u.k == 6) = true ∧ u.l ≠ []) := fun e => hu (by simpa using e.1)
  match done with
  | [] => rfl
  | v :: d =>
    have e1 : applyF u (v :: d) = .mk 6 [] 0 (u :: v :: d) := if_neg h6
    have e2 : applyF u ((v :: d) ++ [w]) = .mk 6 [] 0 (u :: ((v :: d) ++ [w])) := if_neg h6
    rw [e1, e2]
    rw [applyF1, if_pos (show ((Tm.mk 6 [] 0 (u :: v :: d)).k == 6) = true ∧ (Tm.mk 6 [] 0 (u :: v :: d)).l ≠ [] from ⟨rfl, by simp [Tm.l]⟩)]; rfl
def ints (m : Nat) : List Int := (List.range m).map fun i : Nat => (i : Int)
theorem ints_get {m i : Nat} (h : i < m) : List.getD (IR (ints m)) (0 + i) [] = [.int .i64 (i : Int)] := by
  rw [Nat.zero_add]; simp [IR, ints, List.getD, h]
theorem ints_len (m : Nat) : (IR (ints m)).length = m := by simp [IR, ints]
abbrev oHm (m : Nat) (s : Hp) : List AObj := [hp6 1 2 3 4 s, .arz 5 (CR s.C), .arz 7 (TR s.T), .arz 1 (NR s.N), .mapz (NM s.N 0), .arz 1 (IR (ints (m + 1)))]
abbrev oHm' (m : Nat) (s : Hp) : List AObj := [hp6 6 7 8 4 s, .gone, .gone, .gone, .mapz (NM s.N 0), .arz 1 (IR (ints (m + 1))), .arz 5 (CR s.C), .arz 7 (TR s.T), .arz 1 (NR s.N)]
theorem vA (k : Int) (s : Hp) (h0 : HF k s) (n : Int) (hn : 0 ≤ n) (hq : n < k) : AC Try.prog 49 [aH 0, ci n, .c (.a (.fz .nils))] (oH s) (t2 (n, 0)) (oH s) := by
  refine AC.vc hP sh lv49 (Nat.le_refl _) (by simp [isLive]) (by simp) (Eq.mpr (v49 ..) ?_)
  have hi := c_hist s n
  rw [h0.isT hn hq] at hi
  exact ⟨_, hi, br_of (fun h => by cases h) (fun _ => ⟨.refl _, rfl⟩)⟩
theorem vB (s : Hp) (n : Int) (hn : 0 ≤ n) : AC Try.prog 49 [aH 0, ci n, .c (.a (.fz (.z0 true)))] (oH s) (t2 (0, 1)) (oH s) := by
  refine AC.vc hP sh lv49 (Nat.le_refl _) (by simp [isLive]) (by simp) (Eq.mpr (v49_i1 ..) ?_)
  exact ⟨rfl, br_of (fun _ => ⟨.refl _, rfl⟩) (fun h => absurd (of_decide_eq_false h) (by omega))⟩
theorem vC (m : Nat) (s : Hp) (h0 : HF ((m + 1 : Nat) : Int) s) (n : Int) (hn : 0 ≤ n) : AC Try.prog 49 [aH 0, ci n, .c (.a (.osl 5 1 0 (m + 1)))] (oHm m s) (t2 (if n < ((m + 1 : Nat) : Int) then (n, 0) else (0, 1))) (oHm m s) := by
  refine AC.vc hP sh lv49 (Nat.le_refl _) (by simp [isLive]) (by simp) (Eq.mpr (v49_i2 ..) ?_)
  refine br_of (fun h => ?_) (fun h => ?_)
  · have h := of_decide_eq_true h
    rw [if_neg (by omega)]; exact ⟨.refl _, rfl⟩
  · have h : ¬ n ≥ ((m + 1 : Nat) : Int) := of_decide_eq_false h
    rw [if_pos (by omega), ints_get (show n.toNat < m + 1 by omega)]
    have hi := c_hist s n
    rw [h0.isT hn (by omega)] at hi
    refine ⟨⟨hn, by omega⟩, ⟨by rw [ints_len]; omega, rfl, rfl⟩, true, ?_, br_of (fun h => by cases h) (fun _ => ?_)⟩
    · show AC Try.prog 47 [aH 0, ci ((n.toNat : Nat) : Int)] (oH s) (cb true) (oH s)
      rw [Int.toNat_of_nonneg hn]; exact hi
    · show TV.Le (t2 (((n.toNat : Nat) : Int), 0)) _ ∧ _
      rw [Int.toNat_of_nonneg hn]; exact ⟨.refl _, rfl⟩
theorem R0.same {a b : Hp} (h : R0 a) (hC : b.C = a.C) (hN : b.N = a.N) : R0 b := by unfold R0; rw [hC, hN]; exact h
def qA (k : Int) (t : Tm) : Prop := vlt k t = true
abbrev stEA (k : Int) (f : Int) (x : List Tm) (n i : Int) (s : Hp) : St :=
  ⟨[(0, aH 0), (2, .c (.a (.fz .nils))), (8, ci f), (89, aL x), (90, ci n), (91, ci i)], [(0, hp6 5 6 7 4 s), (1, .gone), (2, .gone), (3, .gone), (4, .mapz (NM s.N 0)), (5, .arz 5 (CR s.C)), (6, .arz 7 (TR s.T)), (7, .arz 1 (NR s.N))], 8⟩
def EncA (k : Int) (t : Tm) : Prop := qA k t → ∀ h : Hp, HF k h → h.C.length + 2 * t.sz ≤ 10000 → h.N.length + 2 * t.sz ≤ 10000 → ∃ r h', AC Try.prog 30 [aH 0, aT t, .c (.a (.fz .nils))] (oH h) (t2 r) (oH' h') ∧ Ext h h' (2 * t.sz - 1) ∧ (R0 h → R0 h') ∧
  (r.2 = 0 → vlt k t = true ∧ ∃ c, Rep h'.C h'.N r.1 t c ∧ c + 1 ≤ 2 * t.sz) ∧ (r.2 = 0 ∨ r.2 = 200 ∨ r.2 = 1 ∧ vlt k t = false)
theorem l_encA (k : Int) : ∀ (b a : List Tm), (∀ u ∈ b, EncA k u ∧ qA k u) → (a ++ b).length ≤ 1000 → ∀ (h : Hp) (f : Int) (x : Tm) (done : List Tm) (c : Nat), x.k ≠ 6 → HF k h → h.C.length + 2 * Tm.szs b ≤ 10000 → h.N.length + 2 * Tm.szs b ≤ 10000 → Rep h.C h.N f (applyF x done) c →
    ∃ r h', RPt Try.prog 30 5 (t2 r) (oH' h') 5 (stEA k f (a ++ b) ((a ++ b).length : Int) (a.length : Int) h) ∧ Ext h h' (2 * Tm.szs b) ∧ (r.2 = 0 → vlts k b = true ∧ ∃ c', Rep h'.C h'.N r.1 (applyF x (done ++ b)) c' ∧ c' ≤ c + 2 * Tm.szs b) ∧ (r.2 = 0 ∨ r.2 = 200 ∨ r.2 = 1 ∧ vlts k b = false)
  | [], a, _, _, h, f, x, done, c, _, _, _, _, hr => by
    refine ⟨(f, 0), h, RPt.vc hP sh lv30 (Eq.mpr (v30_5a ..) ?_), Ext.refl h _, fun _ => ⟨rfl, c, by rw [List.append_nil]; exact hr, by omega⟩, .inl rfl⟩
    exact br_of (fun q => absurd (of_decide_eq_true q) (by simp only [List.append_nil]; omega)) (fun _ => ⟨.refl _, rfl⟩)
  | u :: b, a, hu, hl, h, f, x, done, c, hx6, h0, hC, hN, hr => by
    have hs : Tm.szs (u :: b) = u.sz + Tm.szs b := rfl
    rw [hs] at hC hN ⊢
    obtain ⟨r1, h1, a1, a2, _, a3, a4⟩ := (hu u List.mem_cons_self).1 (hu u List.mem_cons_self).2 h h0 (by omega) (by omega)
    have hlen := FTs_length (a ++ u :: b)
    have hla : a.length < (a ++ u :: b).length := by simp
    have l1 := a2.len
    have zu := u.sz_eq
    by_cases e1 : r1.2 = 0
    · obtain ⟨b0, d, b1, b2⟩ := a3 e1
      have hp := c_hput h1 ⟨7, f, r1.1, 0, 0⟩ (by omega)
      have pe := put_ext h1 ⟨7, f, r1.1, 0, 0⟩
      have hfit : fitsH h1 ⟨7, f, r1.1, 0, 0⟩ = true := by simp [fitsH, rep_isT (hr.ext a2), rep_isT b1]
      by_cases e2 : (putS h1 ⟨7, f, r1.1, 0, 0⟩).1.2 = 0
      · obtain ⟨_, p1, p2⟩ := put_ok e2
        have hr2 : Rep (putS h1 ⟨7, f, r1.1, 0, 0⟩).2.C (putS h1 ⟨7, f, r1.1, 0, 0⟩).2.N (putS h1 ⟨7, f, r1.1, 0, 0⟩).1.1 (applyF x (done ++ [u])) (c + d + 1) := by
          rw [← applyF_snoc hx6]
          exact .app _ _ u c d p1 (by rw [p2]) (by rw [p2]; exact (hr.ext a2).ext pe) (by rw [p2]; exact b1.ext pe)
        have l2 := pe.len
        obtain ⟨r, h', k1, k2, k3, k4⟩ := l_encA k b (a ++ [u]) (fun v hv => hu v (List.mem_cons_of_mem _ hv)) (by simpa using hl) _ _ x (done ++ [u]) _ hx6 ((h0.ext a2).ext pe) (by omega) (by omega) hr2
        have ex : Ext h h' (2 * (u.sz + Tm.szs b)) := by
          have zp : 1 ≤ u.sz := by omega
          have e8 : 2 * u.sz - 1 + 1 + 2 * Tm.szs b ≤ 2 * (u.sz + Tm.szs b) := by clear k3 k4 a3 a4; omega
          exact (a2.trans pe (Nat.le_refl _)).trans k2 e8
        refine ⟨r, h', RPt.vc hP sh lv30 (Eq.mpr (v30_5a ..) ?_), ex, fun e => by
          obtain ⟨q0, c', q1, q2⟩ := k3 e
          exact ⟨by rw [vlts, b0, q0]; rfl, c', by rw [List.append_assoc] at q1; exact q1, by omega⟩, by rw [vlts, b0, Bool.true_and]; exact k4⟩
        rw [aE_mid, w64 (x := (a.length : Int) + 1) (by omega) (by omega)]
        refine br_of (fun _ => ⟨⟨rfl, by omega, by rw [hlen]; omega, rE_mid a u b⟩, (r1, h1), a1, br_of (fun q => absurd e1 (by simpa using q)) (fun _ => ⟨putS h1 ⟨7, f, r1.1, 0, 0⟩, hp, br_of (fun q => absurd e2 (by simpa using q)) (fun _ => ?_)⟩)⟩) (fun q => absurd (of_decide_eq_false q) (by omega))
        rw [show (a ++ [u]) ++ b = a ++ u :: b by simp, show (a ++ [u]).length = a.length + 1 by simp] at k1
        exact k1
      · refine ⟨(0, (putS h1 ⟨7, f, r1.1, 0, 0⟩).1.2), (putS h1 ⟨7, f, r1.1, 0, 0⟩).2, RPt.vc hP sh lv30 (Eq.mpr (v30_5a ..) ?_), a2.trans pe (by omega), fun e => absurd e e2, by
          rcases put_err hfit with q | q
          · exact absurd q e2
          · exact .inr (.inl q)⟩
        rw [aE_mid, w64 (x := (a.length : Int) + 1) (by omega) (by omega)]
        exact br_of (fun _ => ⟨⟨rfl, by omega, by rw [hlen]; omega, rE_mid a u b⟩, (r1, h1), a1, br_of (fun q => absurd e1 (by simpa using q)) (fun _ => ⟨putS h1 ⟨7, f, r1.1, 0, 0⟩, hp, br_of (fun _ => ⟨.refl _, rfl⟩) (fun q => absurd (by simpa using q) e2)⟩)⟩) (fun q => absurd (of_decide_eq_false q) (by omega))
    · refine ⟨(0, r1.2), h1, RPt.vc hP sh lv30 (Eq.mpr (v30_5a ..) ?_), a2.mono (by omega), fun e => absurd e e1, by
        rcases a4 with q | q | q
        · exact absurd q e1
        · exact .inr (.inl q)
        · exact .inr (.inr ⟨q.1, by rw [vlts, q.2]; rfl⟩)⟩
      rw [aE_mid, w64 (x := (a.length : Int) + 1) (by omega) (by omega)]
      exact br_of (fun _ => ⟨⟨rfl, by omega, by rw [hlen]; omega, rE_mid a u b⟩, (r1, h1), a1, br_of (fun _ => ⟨.refl _, rfl⟩) (fun q => absurd (by simpa using q) e1)⟩) (fun q => absurd (of_decide_eq_false q) (by omega))
def qB (_k : Nat) (t : Tm) : Prop := True
abbrev stEB (_k : Nat) (f : Int) (x : List Tm) (n i : Int) (s : Hp) : St :=
  ⟨[(0, aH 0), (2, .c (.a (.fz (.z0 true)))), (8, ci f), (89, aL x), (90, ci n), (91, ci i)], [(0, hp6 5 6 7 4 s), (1, .gone), (2, .gone), (3, .gone), (4, .mapz (NM s.N 0)), (5, .arz 5 (CR s.C)), (6, .arz 7 (TR s.T)), (7, .arz 1 (NR s.N))], 8⟩
def EncB (_k : Nat) (t : Tm) : Prop := qB _k t → ∀ h : Hp, HF 0 h → h.C.length + 2 * t.sz ≤ 10000 → h.N.length + 2 * t.sz ≤ 10000 → ∃ r h', AC Try.prog 30 [aH 0, aT t, .c (.a (.fz (.z0 true)))] (oH h) (t2 r) (oH' h') ∧ Ext h h' (2 * t.sz - 1) ∧ (R0 h → R0 h') ∧
  (r.2 = 0 → vlt 0 t = true ∧ ∃ c, Rep h'.C h'.N r.1 t c ∧ c + 1 ≤ 2 * t.sz) ∧ (r.2 = 0 ∨ r.2 = 200 ∨ r.2 = 1 ∧ vlt 0 t = false)
theorem l_encB (_k : Nat) : ∀ (b a : List Tm), (∀ u ∈ b, EncB _k u ∧ qB _k u) → (a ++ b).length ≤ 1000 → ∀ (h : Hp) (f : Int) (x : Tm) (done : List Tm) (c : Nat), x.k ≠ 6 → HF 0 h → h.C.length + 2 * Tm.szs b ≤ 10000 → h.N.length + 2 * Tm.szs b ≤ 10000 → Rep h.C h.N f (applyF x done) c →
    ∃ r h', RPt Try.prog 30 5 (t2 r) (oH' h') 5 (stEB _k f (a ++ b) ((a ++ b).length : Int) (a.length : Int) h) ∧ Ext h h' (2 * Tm.szs b) ∧ (r.2 = 0 → vlts 0 b = true ∧ ∃ c', Rep h'.C h'.N r.1 (applyF x (done ++ b)) c' ∧ c' ≤ c + 2 * Tm.szs b) ∧ (r.2 = 0 ∨ r.2 = 200 ∨ r.2 = 1 ∧ vlts 0 b = false)
  | [], a, _, _, h, f, x, done, c, _, _, _, _, hr => by
    refine ⟨(f, 0), h, RPt.vc hP sh lv30 (Eq.mpr (v30_i1_5a ..) ?_), Ext.refl h _, fun _ => ⟨rfl, c, by rw [List.append_nil]; exact hr, by omega⟩, .inl rfl⟩
    exact br_of (fun q => absurd (of_decide_eq_true q) (by simp only [List.append_nil]; omega)) (fun _ => ⟨.refl _, rfl⟩)
  | u :: b, a, hu, hl, h, f, x, done, c, hx6, h0, hC, hN, hr => by
    have hs : Tm.szs (u :: b) = u.sz + Tm.szs b := rfl
    rw [hs] at hC hN ⊢
    obtain ⟨r1, h1, a1, a2, _, a3, a4⟩ := (hu u List.mem_cons_self).1 (hu u List.mem_cons_self).2 h h0 (by omega) (by omega)
    have hlen := FTs_length (a ++ u :: b)
    have hla : a.length < (a ++ u :: b).length := by simp
    have l1 := a2.len
    have zu := u.sz_eq
    by_cases e1 : r1.2 = 0
    · obtain ⟨b0, d, b1, b2⟩ := a3 e1
      have hp := c_hput h1 ⟨7, f, r1.1, 0, 0⟩ (by omega)
      have pe := put_ext h1 ⟨7, f, r1.1, 0, 0⟩
      have hfit : fitsH h1 ⟨7, f, r1.1, 0, 0⟩ = true := by simp [fitsH, rep_isT (hr.ext a2), rep_isT b1]
      by_cases e2 : (putS h1 ⟨7, f, r1.1, 0, 0⟩).1.2 = 0
      · obtain ⟨_, p1, p2⟩ := put_ok e2
        have hr2 : Rep (putS h1 ⟨7, f, r1.1, 0, 0⟩).2.C (putS h1 ⟨7, f, r1.1, 0, 0⟩).2.N (putS h1 ⟨7, f, r1.1, 0, 0⟩).1.1 (applyF x (done ++ [u])) (c + d + 1) := by
          rw [← applyF_snoc hx6]
          exact .app _ _ u c d p1 (by rw [p2]) (by rw [p2]; exact (hr.ext a2).ext pe) (by rw [p2]; exact b1.ext pe)
        have l2 := pe.len
        obtain ⟨r, h', k1, k2, k3, k4⟩ := l_encB _k b (a ++ [u]) (fun v hv => hu v (List.mem_cons_of_mem _ hv)) (by simpa using hl) _ _ x (done ++ [u]) _ hx6 ((h0.ext a2).ext pe) (by omega) (by omega) hr2
        have ex : Ext h h' (2 * (u.sz + Tm.szs b)) := by
          have zp : 1 ≤ u.sz := by omega
          have e8 : 2 * u.sz - 1 + 1 + 2 * Tm.szs b ≤ 2 * (u.sz + Tm.szs b) := by clear k3 k4 a3 a4; omega
          exact (a2.trans pe (Nat.le_refl _)).trans k2 e8
        refine ⟨r, h', RPt.vc hP sh lv30 (Eq.mpr (v30_i1_5a ..) ?_), ex, fun e => by
          obtain ⟨q0, c', q1, q2⟩ := k3 e
          exact ⟨by rw [vlts, b0, q0]; rfl, c', by rw [List.append_assoc] at q1; exact q1, by omega⟩, by rw [vlts, b0, Bool.true_and]; exact k4⟩
        rw [aE_mid, w64 (x := (a.length : Int) + 1) (by omega) (by omega)]
        refine br_of (fun _ => ⟨⟨rfl, by omega, by rw [hlen]; omega, rE_mid a u b⟩, (r1, h1), a1, br_of (fun q => absurd e1 (by simpa using q)) (fun _ => ⟨putS h1 ⟨7, f, r1.1, 0, 0⟩, hp, br_of (fun q => absurd e2 (by simpa using q)) (fun _ => ?_)⟩)⟩) (fun q => absurd (of_decide_eq_false q) (by omega))
        rw [show (a ++ [u]) ++ b = a ++ u :: b by simp, show (a ++ [u]).length = a.length + 1 by simp] at k1
        exact k1
      · refine ⟨(0, (putS h1 ⟨7, f, r1.1, 0, 0⟩).1.2), (putS h1 ⟨7, f, r1.1, 0, 0⟩).2, RPt.vc hP sh lv30 (Eq.mpr (v30_i1_5a ..) ?_), a2.trans pe (by omega), fun e => absurd e e2, by
          rcases put_err hfit with q | q
          · exact absurd q e2
          · exact .inr (.inl q)⟩
        rw [aE_mid, w64 (x := (a.length : Int) + 1) (by omega) (by omega)]
        exact br_of (fun _ => ⟨⟨rfl, by omega, by rw [hlen]; omega, rE_mid a u b⟩, (r1, h1), a1, br_of (fun q => absurd e1 (by simpa using q)) (fun _ => ⟨putS h1 ⟨7, f, r1.1, 0, 0⟩, hp, br_of (fun _ => ⟨.refl _, rfl⟩) (fun q => absurd (by simpa using q) e2)⟩)⟩) (fun q => absurd (of_decide_eq_false q) (by omega))
    · refine ⟨(0, r1.2), h1, RPt.vc hP sh lv30 (Eq.mpr (v30_i1_5a ..) ?_), a2.mono (by omega), fun e => absurd e e1, by
        rcases a4 with q | q | q
        · exact absurd q e1
        · exact .inr (.inl q)
        · exact .inr (.inr ⟨q.1, by rw [vlts, q.2]; rfl⟩)⟩
      rw [aE_mid, w64 (x := (a.length : Int) + 1) (by omega) (by omega)]
      exact br_of (fun _ => ⟨⟨rfl, by omega, by rw [hlen]; omega, rE_mid a u b⟩, (r1, h1), a1, br_of (fun _ => ⟨.refl _, rfl⟩) (fun q => absurd (by simpa using q) e1)⟩) (fun q => absurd (of_decide_eq_false q) (by omega))
def qC (m : Nat) (t : Tm) : Prop := True
abbrev stEC (m : Nat) (f : Int) (x : List Tm) (n i : Int) (s : Hp) : St :=
  ⟨[(0, aH 0), (2, .c (.a (.osl 5 1 0 (m + 1)))), (8, ci f), (89, aL x), (90, ci n), (91, ci i)], [(0, hp6 6 7 8 4 s), (1, .gone), (2, .gone), (3, .gone), (4, .mapz (NM s.N 0)), (5, .arz 1 (IR (ints (m + 1)))), (6, .arz 5 (CR s.C)), (7, .arz 7 (TR s.T)), (8, .arz 1 (NR s.N))], 9⟩
def EncC (m : Nat) (t : Tm) : Prop := qC m t → ∀ h : Hp, HF ((m + 1 : Nat) : Int) h → h.C.length + 2 * t.sz ≤ 10000 → h.N.length + 2 * t.sz ≤ 10000 → ∃ r h', AC Try.prog 30 [aH 0, aT t, .c (.a (.osl 5 1 0 (m + 1)))] (oHm m h) (t2 r) (oHm' m h') ∧ Ext h h' (2 * t.sz - 1) ∧ (R0 h → R0 h') ∧
  (r.2 = 0 → vlt ((m + 1 : Nat) : Int) t = true ∧ ∃ c, Rep h'.C h'.N r.1 t c ∧ c + 1 ≤ 2 * t.sz) ∧ (r.2 = 0 ∨ r.2 = 200 ∨ r.2 = 1 ∧ vlt ((m + 1 : Nat) : Int) t = false)
theorem l_encC (m : Nat) : ∀ (b a : List Tm), (∀ u ∈ b, EncC m u ∧ qC m u) → (a ++ b).length ≤ 1000 → ∀ (h : Hp) (f : Int) (x : Tm) (done : List Tm) (c : Nat), x.k ≠ 6 → HF ((m + 1 : Nat) : Int) h → h.C.length + 2 * Tm.szs b ≤ 10000 → h.N.length + 2 * Tm.szs b ≤ 10000 → Rep h.C h.N f (applyF x done) c →
    ∃ r h', RPt Try.prog 30 6 (t2 r) (oHm' m h') 5 (stEC m f (a ++ b) ((a ++ b).length : Int) (a.length : Int) h) ∧ Ext h h' (2 * Tm.szs b) ∧ (r.2 = 0 → vlts ((m + 1 : Nat) : Int) b = true ∧ ∃ c', Rep h'.C h'.N r.1 (applyF x (done ++ b)) c' ∧ c' ≤ c + 2 * Tm.szs b) ∧ (r.2 = 0 ∨ r.2 = 200 ∨ r.2 = 1 ∧ vlts ((m + 1 : Nat) : Int) b = false)
  | [], a, _, _, h, f, x, done, c, _, _, _, _, hr => by
    refine ⟨(f, 0), h, RPt.vc hP sh lv30 (Eq.mpr (v30_i2_5a ..) ?_), Ext.refl h _, fun _ => ⟨rfl, c, by rw [List.append_nil]; exact hr, by omega⟩, .inl rfl⟩
    exact br_of (fun q => absurd (of_decide_eq_true q) (by simp only [List.append_nil]; omega)) (fun _ => ⟨.refl _, rfl⟩)
  | u :: b, a, hu, hl, h, f, x, done, c, hx6, h0, hC, hN, hr => by
    have hs : Tm.szs (u :: b) = u.sz + Tm.szs b := rfl
    rw [hs] at hC hN ⊢
    obtain ⟨r1, h1, a1, a2, _, a3, a4⟩ := (hu u List.mem_cons_self).1 (hu u List.mem_cons_self).2 h h0 (by omega) (by omega)
    have hlen := FTs_length (a ++ u :: b)
    have hla : a.length < (a ++ u :: b).length := by simp
    have l1 := a2.len
    have zu := u.sz_eq
    by_cases e1 : r1.2 = 0
    · obtain ⟨b0, d, b1, b2⟩ := a3 e1
      have hp := c_hput h1 ⟨7, f, r1.1, 0, 0⟩ (by omega)
      have pe := put_ext h1 ⟨7, f, r1.1, 0, 0⟩
      have hfit : fitsH h1 ⟨7, f, r1.1, 0, 0⟩ = true := by simp [fitsH, rep_isT (hr.ext a2), rep_isT b1]
      by_cases e2 : (putS h1 ⟨7, f, r1.1, 0, 0⟩).1.2 = 0
      · obtain ⟨_, p1, p2⟩ := put_ok e2
        have hr2 : Rep (putS h1 ⟨7, f, r1.1, 0, 0⟩).2.C (putS h1 ⟨7, f, r1.1, 0, 0⟩).2.N (putS h1 ⟨7, f, r1.1, 0, 0⟩).1.1 (applyF x (done ++ [u])) (c + d + 1) := by
          rw [← applyF_snoc hx6]
          exact .app _ _ u c d p1 (by rw [p2]) (by rw [p2]; exact (hr.ext a2).ext pe) (by rw [p2]; exact b1.ext pe)
        have l2 := pe.len
        obtain ⟨r, h', k1, k2, k3, k4⟩ := l_encC m b (a ++ [u]) (fun v hv => hu v (List.mem_cons_of_mem _ hv)) (by simpa using hl) _ _ x (done ++ [u]) _ hx6 ((h0.ext a2).ext pe) (by omega) (by omega) hr2
        have ex : Ext h h' (2 * (u.sz + Tm.szs b)) := by
          have zp : 1 ≤ u.sz := by omega
          have e8 : 2 * u.sz - 1 + 1 + 2 * Tm.szs b ≤ 2 * (u.sz + Tm.szs b) := by clear k3 k4 a3 a4; omega
          exact (a2.trans pe (Nat.le_refl _)).trans k2 e8
        refine ⟨r, h', RPt.vc hP sh lv30 (Eq.mpr (v30_i2_5a ..) ?_), ex, fun e => by
          obtain ⟨q0, c', q1, q2⟩ := k3 e
          exact ⟨by rw [vlts, b0, q0]; rfl, c', by rw [List.append_assoc] at q1; exact q1, by omega⟩, by rw [vlts, b0, Bool.true_and]; exact k4⟩
        rw [aE_mid, w64 (x := (a.length : Int) + 1) (by omega) (by omega)]
        refine br_of (fun _ => ⟨⟨rfl, by omega, by rw [hlen]; omega, rE_mid a u b⟩, (r1, h1), a1, br_of (fun q => absurd e1 (by simpa using q)) (fun _ => ⟨putS h1 ⟨7, f, r1.1, 0, 0⟩, hp, br_of (fun q => absurd e2 (by simpa using q)) (fun _ => ?_)⟩)⟩) (fun q => absurd (of_decide_eq_false q) (by omega))
        rw [show (a ++ [u]) ++ b = a ++ u :: b by simp, show (a ++ [u]).length = a.length + 1 by simp] at k1
        exact k1
      · refine ⟨(0, (putS h1 ⟨7, f, r1.1, 0, 0⟩).1.2), (putS h1 ⟨7, f, r1.1, 0, 0⟩).2, RPt.vc hP sh lv30 (Eq.mpr (v30_i2_5a ..) ?_), a2.trans pe (by omega), fun e => absurd e e2, by
          rcases put_err hfit with q | q
          · exact absurd q e2
          · exact .inr (.inl q)⟩
        rw [aE_mid, w64 (x := (a.length : Int) + 1) (by omega) (by omega)]
        exact br_of (fun _ => ⟨⟨rfl, by omega, by rw [hlen]; omega, rE_mid a u b⟩, (r1, h1), a1, br_of (fun q => absurd e1 (by simpa using q)) (fun _ => ⟨putS h1 ⟨7, f, r1.1, 0, 0⟩, hp, br_of (fun _ => ⟨.refl _, rfl⟩) (fun q => absurd (by simpa using q) e2)⟩)⟩) (fun q => absurd (of_decide_eq_false q) (by omega))
    · refine ⟨(0, r1.2), h1, RPt.vc hP sh lv30 (Eq.mpr (v30_i2_5a ..) ?_), a2.mono (by omega), fun e => absurd e e1, by
        rcases a4 with q | q | q
        · exact absurd q e1
        · exact .inr (.inl q)
        · exact .inr (.inr ⟨q.1, by rw [vlts, q.2]; rfl⟩)⟩
      rw [aE_mid, w64 (x := (a.length : Int) + 1) (by omega) (by omega)]
      exact br_of (fun _ => ⟨⟨rfl, by omega, by rw [hlen]; omega, rE_mid a u b⟩, (r1, h1), a1, br_of (fun _ => ⟨.refl _, rfl⟩) (fun q => absurd (by simpa using q) e1)⟩) (fun q => absurd (of_decide_eq_false q) (by omega))

end Go.AM

set_option maxRecDepth 100000
open Go Go.Proofs
namespace Go.AM

/-! ### Encoded, as a whole, in three ways -/
theorem ole_cut {n : Nat} {fs gs : List (List FV)} (hl : gs.length ≤ fs.length) (h : ∀ (i : Nat) (e e' : List FV), fs[i]? = some e → gs[i]? = some e' → LeR e e') : OLe (.arz n fs) (.arz n gs) :=
  .rows n fs gs hl (fun i e e' he he' => (h i e e' he he').length) fun i j e e' f f' he he' hf hf' => (h i e e' he he').get j f f' hf hf'
theorem R0.sym {h : Hp} (hR : R0 h) (nm : List UInt8) : R0 (symS h nm).2 := by
  by_cases e : h.C = []
  · intro hn; rw [symS_C] at hn; exact absurd e hn
  · exact hR.ext (sym_ext h nm) e
theorem vlt4 {k n : Int} {s : List UInt8} : vlt k (.mk 4 s n []) = decide (n < k) := by simp [vlt, vlts]
theorem vltx {k kk n : Int} {s : List UInt8} (h : kk ≠ 4) : vlt k (.mk kk s n []) = true := by rw [vlt_inner h]; rfl
/-- What a valid term is made of. -/
theorem leaf_of {k n : Int} {s : List UInt8} {l : List Tm} (h : validB (.mk k s n l) = true) (h5 : k ≠ 5) (h6 : k ≠ 6) : l = [] ∧ (k = 0 ∧ n = 0 ∨ k = 1 ∧ s = [] ∨ k = 2 ∧ s = [] ∨ k = 3 ∧ s = [] ∧ 0 ≤ n ∨ k = 4 ∧ s = [] ∧ 0 ≤ n) := by
  rw [validB] at h
  by_cases e0 : k = 0
  · subst e0; simp [FTs_length] at h; exact ⟨h.2, .inl ⟨rfl, h.1.2⟩⟩
  by_cases e1 : k = 1
  · subst e1; simp [FTs_length] at h; exact ⟨h.1.2, .inr (.inl ⟨rfl, h.1.1.2⟩)⟩
  by_cases e2 : k = 2
  · subst e2; simp [FTs_length] at h; exact ⟨h.1.2, .inr (.inr (.inl ⟨rfl, h.1.1⟩))⟩
  by_cases e3 : k = 3
  · subst e3; simp [FTs_length] at h; exact ⟨h.1.2, .inr (.inr (.inr (.inl ⟨rfl, h.1.1.2, h.1.1.1.1⟩)))⟩
  by_cases e4 : k = 4
  · subst e4; simp [FTs_length] at h; exact ⟨h.1.2, .inr (.inr (.inr (.inr ⟨rfl, h.1.1.2, h.1.1.1.1⟩)))⟩
  · simp [e0, e1, e2, e3, e4, h5, h6] at h
theorem ltA {k n : Int} (hq : qA k (.mk 4 [] n [])) : n < k := by
  have e : vlt k (.mk 4 [] n []) = true := hq
  rw [vlt4] at e; simpa using e
theorem vtA {k n : Int} {h : Hp} (h0 : HF k h) (h0n : 0 ≤ n) (hq : qA k (.mk 4 [] n [])) : vlt k (.mk 4 [] n []) = true ∧ ∃ c, Rep h.C h.N n (.mk 4 [] n []) c ∧ c + 1 ≤ 2 * (Tm.mk 4 [] n []).sz :=
  ⟨hq, 1, .free n (h0 n h0n (ltA hq)).1 (h0 n h0n (ltA hq)).2, by simp only [Tm.sz, Tm.szs]; omega⟩
theorem vtC (m : Nat) {n : Int} {h : Hp} (h0 : HF ((m + 1 : Nat) : Int) h) (h0n : 0 ≤ n) (e : (if n < ((m + 1 : Nat) : Int) then (n, (0 : Int)) else (0, 1)).2 = 0) :
    vlt ((m + 1 : Nat) : Int) (.mk 4 [] n []) = true ∧ ∃ c, Rep h.C h.N (if n < ((m + 1 : Nat) : Int) then (n, (0 : Int)) else (0, 1)).1 (.mk 4 [] n []) c ∧ c + 1 ≤ 2 * (Tm.mk 4 [] n []).sz := by
  by_cases q : n < ((m + 1 : Nat) : Int)
  · rw [if_pos q]; exact ⟨by rw [vlt4]; simpa using q, 1, .free n (h0 n h0n q).1 (h0 n h0n q).2, by simp only [Tm.sz, Tm.szs]; omega⟩
  · rw [if_neg q] at e; cases e
theorem veC (m : Nat) (n : Int) : (if n < ((m + 1 : Nat) : Int) then (n, (0 : Int)) else (0, 1)).2 = 0 ∨ (if n < ((m + 1 : Nat) : Int) then (n, (0 : Int)) else (0, 1)).2 = 200 ∨ (if n < ((m + 1 : Nat) : Int) then (n, (0 : Int)) else (0, 1)).2 = 1 ∧ vlt ((m + 1 : Nat) : Int) (.mk 4 [] n []) = false := by
  by_cases q : n < ((m + 1 : Nat) : Int)
  · rw [if_pos q]; exact .inl rfl
  · rw [if_neg q]; exact .inr (.inr ⟨rfl, by rw [vlt4]; simpa using q⟩)
theorem qkidA (k : Int) {kk n : Int} {s : List UInt8} {l : List Tm} {u : Tm} (hk : qA k (.mk kk s n l)) (hu : u ∈ l) : qA k u := vlts_mem (vlt_kid hk) hu
theorem c_encA (k : Int) : ∀ t : Tm, validB t = true → near 1000 t = true → t.sz ≤ 500 → EncA k t := by
  intro t
  induction t using Tm.ind with
  | h t ih =>
  obtain ⟨k', str, n, l⟩ := t
  intro hv hn hz hq h h0 hC hN
  have hnk : k' ≠ 2 → n ≤ 1000 := fun h2 => by
    rw [near, Bool.and_eq_true] at hn
    have := hn.1
    simp [h2] at this; omega
  have hnl : nears 1000 l = true := by rw [near, Bool.and_eq_true] at hn; exact hn.2
  have z1 : 1 ≤ 2 * (Tm.mk k' str n l).sz - 1 := by simp only [Tm.sz]; omega
  by_cases k5 : k' = 5
  · subst k5
    have hok := valid_ok _ hv
    obtain ⟨u, rfl, _⟩ := okB5 hok rfl
    obtain ⟨rfl, rfl⟩ := okB_sn hok (.inl rfl)
    have zs : (Tm.mk 5 [] 0 [u]).sz = u.sz + 1 := by simp only [Tm.sz, Tm.szs]; omega
    rw [zs] at hz hC hN
    have hvu := validL_mem (validL_of hv (.inl rfl)) (List.mem_singleton.2 rfl)
    have hqu : qA k u := qkidA k hq (List.mem_singleton.2 rfl)
    obtain ⟨r1, h1, a1, a2, aR, a3, a4⟩ := ih u (List.mem_singleton.2 rfl) hvu (nears_mem hnl (List.mem_singleton.2 rfl)) (by omega) hqu h h0 (by omega) (by omega)
    have l1 := a2.len
    have ev : vlt k (.mk 5 [] 0 [u]) = vlt k u := by rw [vlt_inner (by omega), vlts, vlts, Bool.and_true]
    rw [zs, ev]
    by_cases e1 : r1.2 = 0
    · obtain ⟨b0, d, b1, b2⟩ := a3 e1
      have hp := c_hput h1 ⟨6, r1.1, 0, 0, 0⟩ (by omega)
      have pe := put_ext h1 ⟨6, r1.1, 0, 0, 0⟩
      have hfit : fitsH h1 ⟨6, r1.1, 0, 0, 0⟩ = true := by simp [fitsH, rep_isT b1]
      refine ⟨(putS h1 ⟨6, r1.1, 0, 0, 0⟩).1, (putS h1 ⟨6, r1.1, 0, 0, 0⟩).2, ?_, a2.trans pe (by omega), fun hR => (aR hR).ext pe (rep_ne b1), fun e => ?_, (put_err hfit).elim .inl fun e => .inr (.inl e)⟩
      · refine AC.vc hP sh lv30 (by simp) (by simp [isLive]) (by simp [isLive]) (Eq.mpr (v30 5 [] 0 (FTs [u])  ..) ?_)
        refine br_of (fun h => by cases h) (fun _ => br_of (fun h => by cases h) (fun _ => br_of (fun h => by cases h) (fun _ => br_of (fun h => by cases h) (fun _ => br_of (fun h => by cases h) (fun _ => ⟨⟨rfl, Int.le_refl _, by rw [FTs_length]; simp, rE_FT u⟩, (r1, h1), ?_, br_of (fun q => absurd e1 (by simpa using q)) (fun _ => br_of (fun _ => ⟨putS h1 ⟨6, r1.1, 0, 0, 0⟩, hp, .refl _, rfl⟩) (fun h => by cases h))⟩)))))
        rw [aE_hd]; exact a1
      · obtain ⟨p0, p1, p2⟩ := put_ok e
        exact ⟨b0, d + 1, .lam _ u d p1 (by rw [p2]) (by rw [p2]; exact b1.ext pe), by omega⟩
    · refine ⟨(0, r1.2), h1, ?_, a2.mono (by omega), aR, fun e => absurd e e1, a4.elim (fun e => absurd e e1) .inr⟩
      refine AC.vc hP sh lv30 (by simp) (by simp [isLive]) (by simp [isLive]) (Eq.mpr (v30 5 [] 0 (FTs [u])  ..) ?_)
      refine br_of (fun h => by cases h) (fun _ => br_of (fun h => by cases h) (fun _ => br_of (fun h => by cases h) (fun _ => br_of (fun h => by cases h) (fun _ => br_of (fun h => by cases h) (fun _ => ⟨⟨rfl, Int.le_refl _, by rw [FTs_length]; simp, rE_FT u⟩, (r1, h1), ?_, br_of (fun _ => ⟨.refl _, rfl⟩) (fun q => absurd (by simpa using q) e1)⟩)))))
      rw [aE_hd]; exact a1
  by_cases k6 : k' = 6
  · subst k6
    have hok := valid_ok _ hv
    obtain ⟨u, y, r, rfl, hu6, _⟩ := okB6 hok rfl
    obtain ⟨rfl, rfl⟩ := okB_sn hok (.inr rfl)
    have zs : (Tm.mk 6 [] 0 (u :: y :: r)).sz = u.sz + Tm.szs (y :: r) + 1 := by simp only [Tm.sz, Tm.szs]; omega
    rw [zs] at hz hC hN
    have hvl := validL_of hv (.inr rfl)
    have hsl := Tm.szs_length (y :: r)
    have hqk : ∀ v ∈ u :: y :: r, qA k v := fun v hv => qkidA k hq hv
    obtain ⟨r1, h1, a1, a2, aR, a3, a4⟩ := ih u List.mem_cons_self (validL_mem hvl List.mem_cons_self) (nears_mem hnl List.mem_cons_self) (by omega) (hqk u List.mem_cons_self) h h0 (by omega) (by omega)
    have l1 := a2.len
    have ev : vlt k (.mk 6 [] 0 (u :: y :: r)) = (vlt k u && vlts k (y :: r)) := by rw [vlt_inner (by omega), vlts]
    rw [zs, ev]
    have hlen := FTs_length (u :: y :: r)
    by_cases e1 : r1.2 = 0
    · obtain ⟨b0, d, b1, b2⟩ := a3 e1
      obtain ⟨r2, h2, m1, m2, m3, m4⟩ := l_encA k (y :: r) [] (fun v hv => ⟨ih v (List.mem_cons_of_mem _ hv) (validL_mem hvl (List.mem_cons_of_mem _ hv)) (nears_mem hnl (List.mem_cons_of_mem _ hv)) (by have := Tm.szs_mem hv; omega), hqk v (List.mem_cons_of_mem _ hv)⟩) (by simp only [List.nil_append]; omega) h1 r1.1 u [] d hu6 (h0.ext a2) (by omega) (by omega) b1
      have et : List.drop 1 (List.take (Int.toNat (((FTs (u :: y :: r)).length : Nat) : Int)) (FTs (u :: y :: r))) = FTs (y :: r) := by rw [Int.toNat_natCast, List.take_of_length_le (Nat.le_refl _)]; rfl
      have ex : Ext h h2 (2 * (u.sz + Tm.szs (y :: r) + 1) - 1) := by
        have zu := u.sz_eq
        have e8 : 2 * u.sz - 1 + 2 * Tm.szs (y :: r) ≤ 2 * (u.sz + Tm.szs (y :: r) + 1) - 1 := by clear m3 m4 a3 a4; omega
        exact a2.trans m2 e8
      refine ⟨r2, h2, ?_, ex, fun hR => (aR hR).ext m2 (rep_ne b1), fun e => ?_, by rw [b0, Bool.true_and]; exact m4⟩
      · refine AC.vc hP sh lv30 (by simp) (by simp [isLive]) (by simp [isLive]) (Eq.mpr (v30 6 [] 0 (FTs (u :: y :: r))  ..) ?_)
        rw [et]
        refine br_of (fun h => by cases h) (fun _ => br_of (fun h => by cases h) (fun _ => br_of (fun h => by cases h) (fun _ => br_of (fun h => by cases h) (fun _ => br_of (fun h => by cases h) (fun _ => ⟨⟨rfl, Int.le_refl _, by rw [hlen]; simp only [List.length_cons]; omega, rE_FT u⟩, (r1, h1), ?_, br_of (fun q => absurd e1 (by simpa using q)) (fun _ => br_of (fun h => by cases h) (fun _ => ⟨rfl, ⟨by omega, by rw [hlen]; simp only [List.length_cons]; omega, Int.le_refl _⟩, rfl, ?_⟩))⟩)))))
        · rw [aE_hd]; exact a1
        · rw [FTs_length]; exact m1
      · obtain ⟨q0, c, q1, q2⟩ := m3 e
        have ea : applyF u ([] ++ y :: r) = .mk 6 [] 0 (u :: y :: r) := if_neg (fun e => hu6 (by simpa using e.1))
        rw [ea] at q1
        exact ⟨by rw [b0, q0]; rfl, c, q1, by omega⟩
    · refine ⟨(0, r1.2), h1, ?_, a2.mono (by omega), aR, fun e => absurd e e1, by
        rcases a4 with q | q | q
        · exact absurd q e1
        · exact .inr (.inl q)
        · exact .inr (.inr ⟨q.1, by rw [q.2]; rfl⟩)⟩
      refine AC.vc hP sh lv30 (by simp) (by simp [isLive]) (by simp [isLive]) (Eq.mpr (v30 6 [] 0 (FTs (u :: y :: r))  ..) ?_)
      refine br_of (fun h => by cases h) (fun _ => br_of (fun h => by cases h) (fun _ => br_of (fun h => by cases h) (fun _ => br_of (fun h => by cases h) (fun _ => br_of (fun h => by cases h) (fun _ => ⟨⟨rfl, Int.le_refl _, by rw [hlen]; simp only [List.length_cons]; omega, rE_FT u⟩, (r1, h1), ?_, br_of (fun _ => ⟨.refl _, rfl⟩) (fun q => absurd (by simpa using q) e1)⟩)))))
      rw [aE_hd]; exact a1
  obtain ⟨rfl, hl⟩ := leaf_of hv k5 k6
  by_cases k0 : k' = 0
  · subst k0
    obtain rfl : n = 0 := by omega
    obtain ⟨s1, s2, s3⟩ := sym_name h str
    have hfit : fitsH (symS h str).2 ⟨0, (symS h str).1, 0, 0, 0⟩ = true := by simp [fitsH, s2, s3]
    have hrep : (encS h str).1.2 = 0 → Rep (encS h str).2.C (encS h str).2.N (encS h str).1.1 (.mk 0 str 0 []) 1 := fun e => by
      obtain ⟨p0, p1, p2⟩ := put_ok e
      have hnn := (put_N (symS h str).2 ⟨0, (symS h str).1, 0, 0, 0⟩).1
      unfold encS
      have := Rep.con (N := (putS (symS h str).2 ⟨0, (symS h str).1, 0, 0, 0⟩).2.N) _ p1 (by rw [p2]) (by rw [p2, hnn]; exact ⟨s2, s3⟩)
      rw [p2, hnn] at this
      rw [hnn]
      rwa [show nameOf (symS h str).2.N (Cel.mk 0 (symS h str).1 0 0 0).a = str from s1] at this
    refine ⟨(encS h str).1, (encS h str).2, ?_, (enc_ext h str).mono z1, fun hR => put_R0 (R0.sym hR str) fun e => ⟨_, 1, hrep e, Nat.le_refl _⟩, fun e => ⟨vltx (by omega), 1, hrep e, by simp only [Tm.sz, Tm.szs]; omega⟩, (put_err hfit).elim .inl fun e => .inr (.inl e)⟩
    · refine AC.vc hP sh lv30 (by simp) (by simp [isLive]) (by simp [isLive]) (Eq.mpr (v30 0 str 0 (FTs [])  ..) ?_)
      exact br_of (fun _ => ⟨symS h str, c_hsym h str (by omega), putS (symS h str).2 ⟨0, (symS h str).1, 0, 0, 0⟩, c_hput _ _ (by rw [symS_C]; omega), .refl _, rfl⟩) (fun h => by cases h)
  by_cases k3 : k' = 1 ∨ k' = 2 ∨ k' = 3
  · obtain rfl : str = [] := by
      rcases hl with hl | hl | hl | hl | hl
      · omega
      · exact hl.2
      · exact hl.2
      · exact hl.2.1
      · omega
    have hrep : (putS h ⟨k', n, 0, 0, 0⟩).1.2 = 0 → Rep (putS h ⟨k', n, 0, 0, 0⟩).2.C (putS h ⟨k', n, 0, 0, 0⟩).2.N (putS h ⟨k', n, 0, 0, 0⟩).1.1 (.mk k' [] n []) 1 := fun e => by
      obtain ⟨p0, p1, p2⟩ := put_ok e
      have := Rep.atom (N := (putS h ⟨k', n, 0, 0, 0⟩).2.N) _ p1 (by
        rw [p2]
        rcases k3 with k3 | k3 | k3
        · exact .inl k3
        · exact .inr (.inl k3)
        · refine .inr (.inr ⟨k3, ?_, hnk (by omega)⟩)
          subst k3
          simpa [fitsH] using p0)
      rwa [p2] at this
    have hfit : fitsH h ⟨k', n, 0, 0, 0⟩ = true := by
      rcases k3 with k3 | k3 | k3
      · subst k3
        have h1 : n ≥ 1 := by rw [validB] at hv; simp at hv; omega
        simp [fitsH]; omega
      · subst k3; simp [fitsH]
      · subst k3
        have h1 : 0 ≤ n := by omega
        simp [fitsH]; omega
    refine ⟨(putS h ⟨k', n, 0, 0, 0⟩).1, (putS h ⟨k', n, 0, 0, 0⟩).2, ?_, (put_ext h _).mono z1, fun hR => put_R0 hR fun e => ⟨_, 1, hrep e, Nat.le_refl _⟩, fun e => ⟨vltx (by omega), 1, hrep e, by simp only [Tm.sz, Tm.szs]; omega⟩, (put_err hfit).elim .inl fun e => .inr (.inl e)⟩
    have hp := c_hput h ⟨k', n, 0, 0, 0⟩ (by omega)
    refine AC.vc hP sh lv30 (by simp) (by simp [isLive]) (by simp [isLive]) (Eq.mpr (v30 k' [] n (FTs [])  ..) ?_)
    refine br_eq (fun e => absurd e k0) (fun _ => br_eq (fun e => ?_) (fun n1 => br_eq (fun e => ?_) (fun n2 => br_eq (fun e => ?_) (fun n3 => ?_))))
    · subst e; exact ⟨putS h ⟨1, n, 0, 0, 0⟩, hp, .refl _, rfl⟩
    · subst e; exact ⟨putS h ⟨2, n, 0, 0, 0⟩, hp, .refl _, rfl⟩
    · subst e; exact ⟨putS h ⟨3, n, 0, 0, 0⟩, hp, .refl _, rfl⟩
    · omega
  · obtain rfl : k' = 4 := by omega
    obtain ⟨rfl, h0n⟩ : str = [] ∧ 0 ≤ n := by
      rcases hl with hl | hl | hl | hl | hl
      · omega
      · omega
      · omega
      · omega
      · exact hl.2
    refine ⟨(n, 0), h, ?_, Ext.refl h _, fun hR => hR, (fun _ => vtA h0 h0n hq), .inl rfl⟩
    have hp := vA k h h0 n h0n (ltA hq)
    refine AC.vc hP sh lv30 (by simp) (by simp [isLive]) (by simp [isLive]) (Eq.mpr (v30 4 [] n (FTs [])  ..) ?_)
    exact br_of (fun h => by cases h) (fun _ => br_of (fun h => by cases h) (fun _ => br_of (fun h => by cases h) (fun _ => br_of (fun h => by cases h) (fun _ => br_of (fun _ => ⟨(n, 0), hp, .refl _, rfl⟩) (fun h => by cases h)))))
theorem qkidB (_k : Nat) {kk n : Int} {s : List UInt8} {l : List Tm} {u : Tm} (hk : qB _k (.mk kk s n l)) (hu : u ∈ l) : qB _k u := trivial
theorem c_encB (_k : Nat) : ∀ t : Tm, validB t = true → near 1000 t = true → t.sz ≤ 500 → EncB _k t := by
  intro t
  induction t using Tm.ind with
  | h t ih =>
  obtain ⟨k', str, n, l⟩ := t
  intro hv hn hz hq h h0 hC hN
  have hnk : k' ≠ 2 → n ≤ 1000 := fun h2 => by
    rw [near, Bool.and_eq_true] at hn
    have := hn.1
    simp [h2] at this; omega
  have hnl : nears 1000 l = true := by rw [near, Bool.and_eq_true] at hn; exact hn.2
  have z1 : 1 ≤ 2 * (Tm.mk k' str n l).sz - 1 := by simp only [Tm.sz]; omega
  by_cases k5 : k' = 5
  · subst k5
    have hok := valid_ok _ hv
    obtain ⟨u, rfl, _⟩ := okB5 hok rfl
    obtain ⟨rfl, rfl⟩ := okB_sn hok (.inl rfl)
    have zs : (Tm.mk 5 [] 0 [u]).sz = u.sz + 1 := by simp only [Tm.sz, Tm.szs]; omega
    rw [zs] at hz hC hN
    have hvu := validL_mem (validL_of hv (.inl rfl)) (List.mem_singleton.2 rfl)
    have hqu : qB _k u := qkidB _k hq (List.mem_singleton.2 rfl)
    obtain ⟨r1, h1, a1, a2, aR, a3, a4⟩ := ih u (List.mem_singleton.2 rfl) hvu (nears_mem hnl (List.mem_singleton.2 rfl)) (by omega) hqu h h0 (by omega) (by omega)
    have l1 := a2.len
    have ev : vlt 0 (.mk 5 [] 0 [u]) = vlt 0 u := by rw [vlt_inner (by omega), vlts, vlts, Bool.and_true]
    rw [zs, ev]
    by_cases e1 : r1.2 = 0
    · obtain ⟨b0, d, b1, b2⟩ := a3 e1
      have hp := c_hput h1 ⟨6, r1.1, 0, 0, 0⟩ (by omega)
      have pe := put_ext h1 ⟨6, r1.1, 0, 0, 0⟩
      have hfit : fitsH h1 ⟨6, r1.1, 0, 0, 0⟩ = true := by simp [fitsH, rep_isT b1]
      refine ⟨(putS h1 ⟨6, r1.1, 0, 0, 0⟩).1, (putS h1 ⟨6, r1.1, 0, 0, 0⟩).2, ?_, a2.trans pe (by omega), fun hR => (aR hR).ext pe (rep_ne b1), fun e => ?_, (put_err hfit).elim .inl fun e => .inr (.inl e)⟩
      · refine AC.vc hP sh lv30 (by simp) (by simp [isLive]) (by simp [isLive]) (Eq.mpr (v30_i1 5 [] 0 (FTs [u])  ..) ?_)
        refine br_of (fun h => by cases h) (fun _ => br_of (fun h => by cases h) (fun _ => br_of (fun h => by cases h) (fun _ => br_of (fun h => by cases h) (fun _ => br_of (fun h => by cases h) (fun _ => ⟨⟨rfl, Int.le_refl _, by rw [FTs_length]; simp, rE_FT u⟩, (r1, h1), ?_, br_of (fun q => absurd e1 (by simpa using q)) (fun _ => br_of (fun _ => ⟨putS h1 ⟨6, r1.1, 0, 0, 0⟩, hp, .refl _, rfl⟩) (fun h => by cases h))⟩)))))
        rw [aE_hd]; exact a1
      · obtain ⟨p0, p1, p2⟩ := put_ok e
        exact ⟨b0, d + 1, .lam _ u d p1 (by rw [p2]) (by rw [p2]; exact b1.ext pe), by omega⟩
    · refine ⟨(0, r1.2), h1, ?_, a2.mono (by omega), aR, fun e => absurd e e1, a4.elim (fun e => absurd e e1) .inr⟩
      refine AC.vc hP sh lv30 (by simp) (by simp [isLive]) (by simp [isLive]) (Eq.mpr (v30_i1 5 [] 0 (FTs [u])  ..) ?_)
      refine br_of (fun h => by cases h) (fun _ => br_of (fun h => by cases h) (fun _ => br_of (fun h => by cases h) (fun _ => br_of (fun h => by cases h) (fun _ => br_of (fun h => by cases h) (fun _ => ⟨⟨rfl, Int.le_refl _, by rw [FTs_length]; simp, rE_FT u⟩, (r1, h1), ?_, br_of (fun _ => ⟨.refl _, rfl⟩) (fun q => absurd (by simpa using q) e1)⟩)))))
      rw [aE_hd]; exact a1
  by_cases k6 : k' = 6
  · subst k6
    have hok := valid_ok _ hv
    obtain ⟨u, y, r, rfl, hu6, _⟩ := okB6 hok rfl
    obtain ⟨rfl, rfl⟩ := okB_sn hok (.inr rfl)
    have zs : (Tm.mk 6 [] 0 (u :: y :: r)).sz = u.sz + Tm.szs (y :: r) + 1 := by simp only [Tm.sz, Tm.szs]; omega
    rw [zs] at hz hC hN
    have hvl := validL_of hv (.inr rfl)
    have hsl := Tm.szs_length (y :: r)
    have hqk : ∀ v ∈ u :: y :: r, qB _k v := fun v hv => qkidB _k hq hv
    obtain ⟨r1, h1, a1, a2, aR, a3, a4⟩ := ih u List.mem_cons_self (validL_mem hvl List.mem_cons_self) (nears_mem hnl List.mem_cons_self) (by omega) (hqk u List.mem_cons_self) h h0 (by omega) (by omega)
    have l1 := a2.len
    have ev : vlt 0 (.mk 6 [] 0 (u :: y :: r)) = (vlt 0 u && vlts 0 (y :: r)) := by rw [vlt_inner (by omega), vlts]
    rw [zs, ev]
    have hlen := FTs_length (u :: y :: r)
    by_cases e1 : r1.2 = 0
    · obtain ⟨b0, d, b1, b2⟩ := a3 e1
      obtain ⟨r2, h2, m1, m2, m3, m4⟩ := l_encB _k (y :: r) [] (fun v hv => ⟨ih v (List.mem_cons_of_mem _ hv) (validL_mem hvl (List.mem_cons_of_mem _ hv)) (nears_mem hnl (List.mem_cons_of_mem _ hv)) (by have := Tm.szs_mem hv; omega), hqk v (List.mem_cons_of_mem _ hv)⟩) (by simp only [List.nil_append]; omega) h1 r1.1 u [] d hu6 (h0.ext a2) (by omega) (by omega) b1
      have et : List.drop 1 (List.take (Int.toNat (((FTs (u :: y :: r)).length : Nat) : Int)) (FTs (u :: y :: r))) = FTs (y :: r) := by rw [Int.toNat_natCast, List.take_of_length_le (Nat.le_refl _)]; rfl
      have ex : Ext h h2 (2 * (u.sz + Tm.szs (y :: r) + 1) - 1) := by
        have zu := u.sz_eq
        have e8 : 2 * u.sz - 1 + 2 * Tm.szs (y :: r) ≤ 2 * (u.sz + Tm.szs (y :: r) + 1) - 1 := by clear m3 m4 a3 a4; omega
        exact a2.trans m2 e8
      refine ⟨r2, h2, ?_, ex, fun hR => (aR hR).ext m2 (rep_ne b1), fun e => ?_, by rw [b0, Bool.true_and]; exact m4⟩
      · refine AC.vc hP sh lv30 (by simp) (by simp [isLive]) (by simp [isLive]) (Eq.mpr (v30_i1 6 [] 0 (FTs (u :: y :: r))  ..) ?_)
        rw [et]
        refine br_of (fun h => by cases h) (fun _ => br_of (fun h => by cases h) (fun _ => br_of (fun h => by cases h) (fun _ => br_of (fun h => by cases h) (fun _ => br_of (fun h => by cases h) (fun _ => ⟨⟨rfl, Int.le_refl _, by rw [hlen]; simp only [List.length_cons]; omega, rE_FT u⟩, (r1, h1), ?_, br_of (fun q => absurd e1 (by simpa using q)) (fun _ => br_of (fun h => by cases h) (fun _ => ⟨rfl, ⟨by omega, by rw [hlen]; simp only [List.length_cons]; omega, Int.le_refl _⟩, rfl, ?_⟩))⟩)))))
        · rw [aE_hd]; exact a1
        · rw [FTs_length]; exact m1
      · obtain ⟨q0, c, q1, q2⟩ := m3 e
        have ea : applyF u ([] ++ y :: r) = .mk 6 [] 0 (u :: y :: r) := if_neg (fun e => hu6 (by simpa using e.1))
        rw [ea] at q1
        exact ⟨by rw [b0, q0]; rfl, c, q1, by omega⟩
    · refine ⟨(0, r1.2), h1, ?_, a2.mono (by omega), aR, fun e => absurd e e1, by
        rcases a4 with q | q | q
        · exact absurd q e1
        · exact .inr (.inl q)
        · exact .inr (.inr ⟨q.1, by rw [q.2]; rfl⟩)⟩
      refine AC.vc hP sh lv30 (by simp) (by simp [isLive]) (by simp [isLive]) (Eq.mpr (v30_i1 6 [] 0 (FTs (u :: y :: r))  ..) ?_)
      refine br_of (fun h => by cases h) (fun _ => br_of (fun h => by cases h) (fun _ => br_of (fun h => by cases h) (fun _ => br_of (fun h => by cases h) (fun _ => br_of (fun h => by cases h) (fun _ => ⟨⟨rfl, Int.le_refl _, by rw [hlen]; simp only [List.length_cons]; omega, rE_FT u⟩, (r1, h1), ?_, br_of (fun _ => ⟨.refl _, rfl⟩) (fun q => absurd (by simpa using q) e1)⟩)))))
      rw [aE_hd]; exact a1
  obtain ⟨rfl, hl⟩ := leaf_of hv k5 k6
  by_cases k0 : k' = 0
  · subst k0
    obtain rfl : n = 0 := by omega
    obtain ⟨s1, s2, s3⟩ := sym_name h str
    have hfit : fitsH (symS h str).2 ⟨0, (symS h str).1, 0, 0, 0⟩ = true := by simp [fitsH, s2, s3]
    have hrep : (encS h str).1.2 = 0 → Rep (encS h str).2.C (encS h str).2.N (encS h str).1.1 (.mk 0 str 0 []) 1 := fun e => by
      obtain ⟨p0, p1, p2⟩ := put_ok e
      have hnn := (put_N (symS h str).2 ⟨0, (symS h str).1, 0, 0, 0⟩).1
      unfold encS
      have := Rep.con (N := (putS (symS h str).2 ⟨0, (symS h str).1, 0, 0, 0⟩).2.N) _ p1 (by rw [p2]) (by rw [p2, hnn]; exact ⟨s2, s3⟩)
      rw [p2, hnn] at this
      rw [hnn]
      rwa [show nameOf (symS h str).2.N (Cel.mk 0 (symS h str).1 0 0 0).a = str from s1] at this
    refine ⟨(encS h str).1, (encS h str).2, ?_, (enc_ext h str).mono z1, fun hR => put_R0 (R0.sym hR str) fun e => ⟨_, 1, hrep e, Nat.le_refl _⟩, fun e => ⟨vltx (by omega), 1, hrep e, by simp only [Tm.sz, Tm.szs]; omega⟩, (put_err hfit).elim .inl fun e => .inr (.inl e)⟩
    · refine AC.vc hP sh lv30 (by simp) (by simp [isLive]) (by simp [isLive]) (Eq.mpr (v30_i1 0 str 0 (FTs [])  ..) ?_)
      exact br_of (fun _ => ⟨symS h str, c_hsym h str (by omega), putS (symS h str).2 ⟨0, (symS h str).1, 0, 0, 0⟩, c_hput _ _ (by rw [symS_C]; omega), .refl _, rfl⟩) (fun h => by cases h)
  by_cases k3 : k' = 1 ∨ k' = 2 ∨ k' = 3
  · obtain rfl : str = [] := by
      rcases hl with hl | hl | hl | hl | hl
      · omega
      · exact hl.2
      · exact hl.2
      · exact hl.2.1
      · omega
    have hrep : (putS h ⟨k', n, 0, 0, 0⟩).1.2 = 0 → Rep (putS h ⟨k', n, 0, 0, 0⟩).2.C (putS h ⟨k', n, 0, 0, 0⟩).2.N (putS h ⟨k', n, 0, 0, 0⟩).1.1 (.mk k' [] n []) 1 := fun e => by
      obtain ⟨p0, p1, p2⟩ := put_ok e
      have := Rep.atom (N := (putS h ⟨k', n, 0, 0, 0⟩).2.N) _ p1 (by
        rw [p2]
        rcases k3 with k3 | k3 | k3
        · exact .inl k3
        · exact .inr (.inl k3)
        · refine .inr (.inr ⟨k3, ?_, hnk (by omega)⟩)
          subst k3
          simpa [fitsH] using p0)
      rwa [p2] at this
    have hfit : fitsH h ⟨k', n, 0, 0, 0⟩ = true := by
      rcases k3 with k3 | k3 | k3
      · subst k3
        have h1 : n ≥ 1 := by rw [validB] at hv; simp at hv; omega
        simp [fitsH]; omega
      · subst k3; simp [fitsH]
      · subst k3
        have h1 : 0 ≤ n := by omega
        simp [fitsH]; omega
    refine ⟨(putS h ⟨k', n, 0, 0, 0⟩).1, (putS h ⟨k', n, 0, 0, 0⟩).2, ?_, (put_ext h _).mono z1, fun hR => put_R0 hR fun e => ⟨_, 1, hrep e, Nat.le_refl _⟩, fun e => ⟨vltx (by omega), 1, hrep e, by simp only [Tm.sz, Tm.szs]; omega⟩, (put_err hfit).elim .inl fun e => .inr (.inl e)⟩
    have hp := c_hput h ⟨k', n, 0, 0, 0⟩ (by omega)
    refine AC.vc hP sh lv30 (by simp) (by simp [isLive]) (by simp [isLive]) (Eq.mpr (v30_i1 k' [] n (FTs [])  ..) ?_)
    refine br_eq (fun e => absurd e k0) (fun _ => br_eq (fun e => ?_) (fun n1 => br_eq (fun e => ?_) (fun n2 => br_eq (fun e => ?_) (fun n3 => ?_))))
    · subst e; exact ⟨putS h ⟨1, n, 0, 0, 0⟩, hp, .refl _, rfl⟩
    · subst e; exact ⟨putS h ⟨2, n, 0, 0, 0⟩, hp, .refl _, rfl⟩
    · subst e; exact ⟨putS h ⟨3, n, 0, 0, 0⟩, hp, .refl _, rfl⟩
    · omega
  · obtain rfl : k' = 4 := by omega
    obtain ⟨rfl, h0n⟩ : str = [] ∧ 0 ≤ n := by
      rcases hl with hl | hl | hl | hl | hl
      · omega
      · omega
      · omega
      · omega
      · exact hl.2
    refine ⟨(0, 1), h, ?_, Ext.refl h _, fun hR => hR, (fun e => by cases e), .inr (.inr ⟨rfl, by rw [vlt4]; simp; omega⟩)⟩
    have hp := vB h n h0n
    refine AC.vc hP sh lv30 (by simp) (by simp [isLive]) (by simp [isLive]) (Eq.mpr (v30_i1 4 [] n (FTs [])  ..) ?_)
    exact br_of (fun h => by cases h) (fun _ => br_of (fun h => by cases h) (fun _ => br_of (fun h => by cases h) (fun _ => br_of (fun h => by cases h) (fun _ => br_of (fun _ => ⟨(0, 1), hp, .refl _, rfl⟩) (fun h => by cases h)))))
theorem qkidC (m : Nat) {kk n : Int} {s : List UInt8} {l : List Tm} {u : Tm} (hk : qC m (.mk kk s n l)) (hu : u ∈ l) : qC m u := trivial
theorem c_encC (m : Nat) : ∀ t : Tm, validB t = true → near 1000 t = true → t.sz ≤ 500 → EncC m t := by
  intro t
  induction t using Tm.ind with
  | h t ih =>
  obtain ⟨k', str, n, l⟩ := t
  intro hv hn hz hq h h0 hC hN
  have hnk : k' ≠ 2 → n ≤ 1000 := fun h2 => by
    rw [near, Bool.and_eq_true] at hn
    have := hn.1
    simp [h2] at this; omega
  have hnl : nears 1000 l = true := by rw [near, Bool.and_eq_true] at hn; exact hn.2
  have z1 : 1 ≤ 2 * (Tm.mk k' str n l).sz - 1 := by simp only [Tm.sz]; omega
  by_cases k5 : k' = 5
  · subst k5
    have hok := valid_ok _ hv
    obtain ⟨u, rfl, _⟩ := okB5 hok rfl
    obtain ⟨rfl, rfl⟩ := okB_sn hok (.inl rfl)
    have zs : (Tm.mk 5 [] 0 [u]).sz = u.sz + 1 := by simp only [Tm.sz, Tm.szs]; omega
    rw [zs] at hz hC hN
    have hvu := validL_mem (validL_of hv (.inl rfl)) (List.mem_singleton.2 rfl)
    have hqu : qC m u := qkidC m hq (List.mem_singleton.2 rfl)
    obtain ⟨r1, h1, a1, a2, aR, a3, a4⟩ := ih u (List.mem_singleton.2 rfl) hvu (nears_mem hnl (List.mem_singleton.2 rfl)) (by omega) hqu h h0 (by omega) (by omega)
    have l1 := a2.len
    have ev : vlt ((m + 1 : Nat) : Int) (.mk 5 [] 0 [u]) = vlt ((m + 1 : Nat) : Int) u := by rw [vlt_inner (by omega), vlts, vlts, Bool.and_true]
    rw [zs, ev]
    by_cases e1 : r1.2 = 0
    · obtain ⟨b0, d, b1, b2⟩ := a3 e1
      have hp := c_hput h1 ⟨6, r1.1, 0, 0, 0⟩ (by omega)
      have pe := put_ext h1 ⟨6, r1.1, 0, 0, 0⟩
      have hfit : fitsH h1 ⟨6, r1.1, 0, 0, 0⟩ = true := by simp [fitsH, rep_isT b1]
      refine ⟨(putS h1 ⟨6, r1.1, 0, 0, 0⟩).1, (putS h1 ⟨6, r1.1, 0, 0, 0⟩).2, ?_, a2.trans pe (by omega), fun hR => (aR hR).ext pe (rep_ne b1), fun e => ?_, (put_err hfit).elim .inl fun e => .inr (.inl e)⟩
      · refine AC.vc hP sh lv30 (by simp) (by simp [isLive]) (by simp [isLive]) (Eq.mpr (v30_i2 5 [] 0 (FTs [u]) m ..) ?_)
        refine br_of (fun h => by cases h) (fun _ => br_of (fun h => by cases h) (fun _ => br_of (fun h => by cases h) (fun _ => br_of (fun h => by cases h) (fun _ => br_of (fun h => by cases h) (fun _ => ⟨⟨rfl, Int.le_refl _, by rw [FTs_length]; simp, rE_FT u⟩, (r1, h1), ?_, br_of (fun q => absurd e1 (by simpa using q)) (fun _ => br_of (fun _ => ⟨putS h1 ⟨6, r1.1, 0, 0, 0⟩, hp, .refl _, rfl⟩) (fun h => by cases h))⟩)))))
        rw [aE_hd]; exact a1
      · obtain ⟨p0, p1, p2⟩ := put_ok e
        exact ⟨b0, d + 1, .lam _ u d p1 (by rw [p2]) (by rw [p2]; exact b1.ext pe), by omega⟩
    · refine ⟨(0, r1.2), h1, ?_, a2.mono (by omega), aR, fun e => absurd e e1, a4.elim (fun e => absurd e e1) .inr⟩
      refine AC.vc hP sh lv30 (by simp) (by simp [isLive]) (by simp [isLive]) (Eq.mpr (v30_i2 5 [] 0 (FTs [u]) m ..) ?_)
      refine br_of (fun h => by cases h) (fun _ => br_of (fun h => by cases h) (fun _ => br_of (fun h => by cases h) (fun _ => br_of (fun h => by cases h) (fun _ => br_of (fun h => by cases h) (fun _ => ⟨⟨rfl, Int.le_refl _, by rw [FTs_length]; simp, rE_FT u⟩, (r1, h1), ?_, br_of (fun _ => ⟨.refl _, rfl⟩) (fun q => absurd (by simpa using q) e1)⟩)))))
      rw [aE_hd]; exact a1
  by_cases k6 : k' = 6
  · subst k6
    have hok := valid_ok _ hv
    obtain ⟨u, y, r, rfl, hu6, _⟩ := okB6 hok rfl
    obtain ⟨rfl, rfl⟩ := okB_sn hok (.inr rfl)
    have zs : (Tm.mk 6 [] 0 (u :: y :: r)).sz = u.sz + Tm.szs (y :: r) + 1 := by simp only [Tm.sz, Tm.szs]; omega
    rw [zs] at hz hC hN
    have hvl := validL_of hv (.inr rfl)
    have hsl := Tm.szs_length (y :: r)
    have hqk : ∀ v ∈ u :: y :: r, qC m v := fun v hv => qkidC m hq hv
    obtain ⟨r1, h1, a1, a2, aR, a3, a4⟩ := ih u List.mem_cons_self (validL_mem hvl List.mem_cons_self) (nears_mem hnl List.mem_cons_self) (by omega) (hqk u List.mem_cons_self) h h0 (by omega) (by omega)
    have l1 := a2.len
    have ev : vlt ((m + 1 : Nat) : Int) (.mk 6 [] 0 (u :: y :: r)) = (vlt ((m + 1 : Nat) : Int) u && vlts ((m + 1 : Nat) : Int) (y :: r)) := by rw [vlt_inner (by omega), vlts]
    rw [zs, ev]
    have hlen := FTs_length (u :: y :: r)
    by_cases e1 : r1.2 = 0
    · obtain ⟨b0, d, b1, b2⟩ := a3 e1
      obtain ⟨r2, h2, m1, m2, m3, m4⟩ := l_encC m (y :: r) [] (fun v hv => ⟨ih v (List.mem_cons_of_mem _ hv) (validL_mem hvl (List.mem_cons_of_mem _ hv)) (nears_mem hnl (List.mem_cons_of_mem _ hv)) (by have := Tm.szs_mem hv; omega), hqk v (List.mem_cons_of_mem _ hv)⟩) (by simp only [List.nil_append]; omega) h1 r1.1 u [] d hu6 (h0.ext a2) (by omega) (by omega) b1
      have et : List.drop 1 (List.take (Int.toNat (((FTs (u :: y :: r)).length : Nat) : Int)) (FTs (u :: y :: r))) = FTs (y :: r) := by rw [Int.toNat_natCast, List.take_of_length_le (Nat.le_refl _)]; rfl
      have ex : Ext h h2 (2 * (u.sz + Tm.szs (y :: r) + 1) - 1) := by
        have zu := u.sz_eq
        have e8 : 2 * u.sz - 1 + 2 * Tm.szs (y :: r) ≤ 2 * (u.sz + Tm.szs (y :: r) + 1) - 1 := by clear m3 m4 a3 a4; omega
        exact a2.trans m2 e8
      refine ⟨r2, h2, ?_, ex, fun hR => (aR hR).ext m2 (rep_ne b1), fun e => ?_, by rw [b0, Bool.true_and]; exact m4⟩
      · refine AC.vc hP sh lv30 (by simp) (by simp [isLive]) (by simp [isLive]) (Eq.mpr (v30_i2 6 [] 0 (FTs (u :: y :: r)) m ..) ?_)
        rw [et]
        refine br_of (fun h => by cases h) (fun _ => br_of (fun h => by cases h) (fun _ => br_of (fun h => by cases h) (fun _ => br_of (fun h => by cases h) (fun _ => br_of (fun h => by cases h) (fun _ => ⟨⟨rfl, Int.le_refl _, by rw [hlen]; simp only [List.length_cons]; omega, rE_FT u⟩, (r1, h1), ?_, br_of (fun q => absurd e1 (by simpa using q)) (fun _ => br_of (fun h => by cases h) (fun _ => ⟨rfl, ⟨by omega, by rw [hlen]; simp only [List.length_cons]; omega, Int.le_refl _⟩, rfl, ?_⟩))⟩)))))
        · rw [aE_hd]; exact a1
        · rw [FTs_length]; exact m1
      · obtain ⟨q0, c, q1, q2⟩ := m3 e
        have ea : applyF u ([] ++ y :: r) = .mk 6 [] 0 (u :: y :: r) := if_neg (fun e => hu6 (by simpa using e.1))
        rw [ea] at q1
        exact ⟨by rw [b0, q0]; rfl, c, q1, by omega⟩
    · refine ⟨(0, r1.2), h1, ?_, a2.mono (by omega), aR, fun e => absurd e e1, by
        rcases a4 with q | q | q
        · exact absurd q e1
        · exact .inr (.inl q)
        · exact .inr (.inr ⟨q.1, by rw [q.2]; rfl⟩)⟩
      refine AC.vc hP sh lv30 (by simp) (by simp [isLive]) (by simp [isLive]) (Eq.mpr (v30_i2 6 [] 0 (FTs (u :: y :: r)) m ..) ?_)
      refine br_of (fun h => by cases h) (fun _ => br_of (fun h => by cases h) (fun _ => br_of (fun h => by cases h) (fun _ => br_of (fun h => by cases h) (fun _ => br_of (fun h => by cases h) (fun _ => ⟨⟨rfl, Int.le_refl _, by rw [hlen]; simp only [List.length_cons]; omega, rE_FT u⟩, (r1, h1), ?_, br_of (fun _ => ⟨.refl _, rfl⟩) (fun q => absurd (by simpa using q) e1)⟩)))))
      rw [aE_hd]; exact a1
  obtain ⟨rfl, hl⟩ := leaf_of hv k5 k6
  by_cases k0 : k' = 0
  · subst k0
    obtain rfl : n = 0 := by omega
    obtain ⟨s1, s2, s3⟩ := sym_name h str
    have hfit : fitsH (symS h str).2 ⟨0, (symS h str).1, 0, 0, 0⟩ = true := by simp [fitsH, s2, s3]
    have hrep : (encS h str).1.2 = 0 → Rep (encS h str).2.C (encS h str).2.N (encS h str).1.1 (.mk 0 str 0 []) 1 := fun e => by
      obtain ⟨p0, p1, p2⟩ := put_ok e
      have hnn := (put_N (symS h str).2 ⟨0, (symS h str).1, 0, 0, 0⟩).1
      unfold encS
      have := Rep.con (N := (putS (symS h str).2 ⟨0, (symS h str).1, 0, 0, 0⟩).2.N) _ p1 (by rw [p2]) (by rw [p2, hnn]; exact ⟨s2, s3⟩)
      rw [p2, hnn] at this
      rw [hnn]
      rwa [show nameOf (symS h str).2.N (Cel.mk 0 (symS h str).1 0 0 0).a = str from s1] at this
    refine ⟨(encS h str).1, (encS h str).2, ?_, (enc_ext h str).mono z1, fun hR => put_R0 (R0.sym hR str) fun e => ⟨_, 1, hrep e, Nat.le_refl _⟩, fun e => ⟨vltx (by omega), 1, hrep e, by simp only [Tm.sz, Tm.szs]; omega⟩, (put_err hfit).elim .inl fun e => .inr (.inl e)⟩
    · refine AC.vc hP sh lv30 (by simp) (by simp [isLive]) (by simp [isLive]) (Eq.mpr (v30_i2 0 str 0 (FTs []) m ..) ?_)
      exact br_of (fun _ => ⟨symS h str, c_hsym h str (by omega), putS (symS h str).2 ⟨0, (symS h str).1, 0, 0, 0⟩, c_hput _ _ (by rw [symS_C]; omega), .refl _, rfl⟩) (fun h => by cases h)
  by_cases k3 : k' = 1 ∨ k' = 2 ∨ k' = 3
  · obtain rfl : str = [] := by
      rcases hl with hl | hl | hl | hl | hl
      · omega
      · exact hl.2
      · exact hl.2
      · exact hl.2.1
      · omega
    have hrep : (putS h ⟨k', n, 0, 0, 0⟩).1.2 = 0 → Rep (putS h ⟨k', n, 0, 0, 0⟩).2.C (putS h ⟨k', n, 0, 0, 0⟩).2.N (putS h ⟨k', n, 0, 0, 0⟩).1.1 (.mk k' [] n []) 1 := fun e => by
      obtain ⟨p0, p1, p2⟩ := put_ok e
      have := Rep.atom (N := (putS h ⟨k', n, 0, 0, 0⟩).2.N) _ p1 (by
        rw [p2]
        rcases k3 with k3 | k3 | k3
        · exact .inl k3
        · exact .inr (.inl k3)
        · refine .inr (.inr ⟨k3, ?_, hnk (by omega)⟩)
          subst k3
          simpa [fitsH] using p0)
      rwa [p2] at this
    have hfit : fitsH h ⟨k', n, 0, 0, 0⟩ = true := by
      rcases k3 with k3 | k3 | k3
      · subst k3
        have h1 : n ≥ 1 := by rw [validB] at hv; simp at hv; omega
        simp [fitsH]; omega
      · subst k3; simp [fitsH]
      · subst k3
        have h1 : 0 ≤ n := by omega
        simp [fitsH]; omega
    refine ⟨(putS h ⟨k', n, 0, 0, 0⟩).1, (putS h ⟨k', n, 0, 0, 0⟩).2, ?_, (put_ext h _).mono z1, fun hR => put_R0 hR fun e => ⟨_, 1, hrep e, Nat.le_refl _⟩, fun e => ⟨vltx (by omega), 1, hrep e, by simp only [Tm.sz, Tm.szs]; omega⟩, (put_err hfit).elim .inl fun e => .inr (.inl e)⟩
    have hp := c_hput h ⟨k', n, 0, 0, 0⟩ (by omega)
    refine AC.vc hP sh lv30 (by simp) (by simp [isLive]) (by simp [isLive]) (Eq.mpr (v30_i2 k' [] n (FTs []) m ..) ?_)
    refine br_eq (fun e => absurd e k0) (fun _ => br_eq (fun e => ?_) (fun n1 => br_eq (fun e => ?_) (fun n2 => br_eq (fun e => ?_) (fun n3 => ?_))))
    · subst e; exact ⟨putS h ⟨1, n, 0, 0, 0⟩, hp, .refl _, rfl⟩
    · subst e; exact ⟨putS h ⟨2, n, 0, 0, 0⟩, hp, .refl _, rfl⟩
    · subst e; exact ⟨putS h ⟨3, n, 0, 0, 0⟩, hp, .refl _, rfl⟩
    · omega
  · obtain rfl : k' = 4 := by omega
    obtain ⟨rfl, h0n⟩ : str = [] ∧ 0 ≤ n := by
      rcases hl with hl | hl | hl | hl | hl
      · omega
      · omega
      · omega
      · omega
      · exact hl.2
    refine ⟨(if n < ((m + 1 : Nat) : Int) then (n, 0) else (0, 1)), h, ?_, Ext.refl h _, fun hR => hR, (fun e => vtC m h0 h0n e), (veC m n)⟩
    have hp := vC m h h0 n h0n
    refine AC.vc hP sh lv30 (by simp) (by simp [isLive]) (by simp [isLive]) (Eq.mpr (v30_i2 4 [] n (FTs []) m ..) ?_)
    exact br_of (fun h => by cases h) (fun _ => br_of (fun h => by cases h) (fun _ => br_of (fun h => by cases h) (fun _ => br_of (fun h => by cases h) (fun _ => br_of (fun _ => ⟨(if n < ((m + 1 : Nat) : Int) then (n, 0) else (0, 1)), hp, .refl _, rfl⟩) (fun h => by cases h)))))

end Go.AM

set_option maxRecDepth 100000
open Go Go.Proofs
namespace Go.AM

/-! ### Encode, in three ways -/
def EncR (K : Int) (t : Tm) (h h' : Hp) (r : Int × Int) : Prop := Ext h h' (2 * t.sz) ∧ (R0 h → R0 h') ∧ (r.2 ≠ 0 → r.1 = 0 ∧ h'.C = h.C) ∧ (validB t = false → r.2 = 1) ∧
  (validB t = true → (r.2 = 0 → vlt K t = true ∧ ∃ c, Rep h'.C h'.N r.1 t c ∧ c + 1 ≤ 2 * t.sz) ∧ (r.2 = 0 ∨ r.2 = 200 ∨ r.2 = 1 ∧ vlt K t = false))
theorem c_Dec (s : Hp) (a f f' : Int) (x : Tm) (h : AC Try.prog 31 [aD, ci a] (oD s f 0) (aT x) (oD s f' 0)) : AC Try.prog 13 [aH 0, ci a, ci f] (oH s) (.tup [(true, cT x), (false, [.a (.fz (.int .i64 f'))]), (false, [.a (.fz (.int .i64 0))])]) (oH s) := by
  refine AC.vc hP sh lv13 (by simp) (by simp [isLive]) (by simp [isLive]) (Eq.mpr (v13 ..) ?_)
  exact ⟨(x, f', 0), h, br_of (fun h => by cases h) (fun _ => ⟨.refl _, rfl⟩)⟩
theorem c_EncA (k : Int) (t : Tm) (hn : near 1000 t = true) (hz : t.sz ≤ 500) (hq : validB t = true → qA k t) (h : Hp) (h0 : HF k h) (hC : h.C.length + 2 * t.sz ≤ 10000) (hN : h.N.length + 2 * t.sz ≤ 10000) :
    ∃ r h', AC Try.prog 12 [aH 0, aT t, .c (.a (.fz .nils))] (oH h) (t2 r) (oH' h') ∧ EncR k t h h' r := by
  have hv := c_valid t (by simp only [B]; omega)
  cases eb : validB t with
  | false =>
    rw [eb] at hv
    refine ⟨(0, 1), h, ?_, Ext.refl h _, fun h => h, fun _ => ⟨rfl, rfl⟩, fun _ => rfl, fun e => by rw [eb] at e; cases e⟩
    obtain ⟨k', s, n, l⟩ := t
    refine AC.vc hP sh lv12 (by simp) (by simp [isLive]) (by simp [isLive]) (Eq.mpr (v12 k' s n (FTs l)  ..) ?_)
    exact ⟨_, hv, br_of (fun _ => ⟨.refl _, rfl⟩) (fun h => by cases h)⟩
  | true =>
    rw [eb] at hv
    obtain ⟨r, h', a1, a2, aR, a3, a4⟩ := c_encA k t eb hn hz (hq eb) h h0 hC hN
    by_cases er : r.2 = 0
    · refine ⟨r, h', ?_, a2.mono (by omega), aR, fun e => absurd er e, fun e => (by rw [eb] at e; cases e), fun _ => ⟨a3, a4⟩⟩
      obtain ⟨k', s, n, l⟩ := t
      refine AC.vc hP sh lv12 (by simp) (by simp [isLive]) (by simp [isLive]) (Eq.mpr (v12 k' s n (FTs l)  ..) ?_)
      refine ⟨_, hv, br_of (fun h => by cases h) (fun _ => ⟨(r, h'), a1, br_of (fun q => absurd er (by simpa using q)) (fun _ => ?_)⟩)⟩
      rw [show t2 r = t2 (r.1, 0) by rw [← er]]
      exact ⟨.refl _, rfl⟩
    · have ex : Ext h { h' with C := h.C } (2 * t.sz) := ⟨⟨[], by simp, by simp⟩, by obtain ⟨D, d1, d2⟩ := a2.N; exact ⟨D, d1, by omega⟩, a2.M⟩
      have hl := a2.len
      refine ⟨(0, r.2), { h' with C := h.C }, ?_, ex, fun hR hne => (hR.ext ex hne) hne, fun _ => ⟨rfl, rfl⟩, fun e => (by rw [eb] at e; cases e), fun _ => ⟨fun e => absurd e er, a4⟩⟩
      refine AC.obj (Hs' := [.arr 6 [[.a (.osl 5 5 0 h.C.length), .a (.osl 6 7 0 h'.T.length), .a (.fz (.int .i64 h'.M)), .a (.fz (.int .i64 h'.L)), .a (.osl 7 1 0 h'.N.length), .a (.mp 4)]], .gone, .gone, .gone, .mapz (NM h'.N 0), .arz 5 (CR h'.C), .arz 7 (TR h'.T), .arz 1 (NR h'.N)]) ?_ ⟨.refl _, .refl _, .refl _, .refl _, .refl _, ?_, .refl _, .refl _, trivial⟩
      · obtain ⟨k', s, n, l⟩ := t
        refine AC.vc hP sh lv12 (by simp) (by simp [isLive]) (by simp [isLive]) (Eq.mpr (v12 k' s n (FTs l)  ..) ?_)
        exact ⟨_, hv, br_of (fun h => by cases h) (fun _ => ⟨(r, h'), a1, br_of (fun _ => ⟨⟨by omega, by omega, by simp only; omega⟩, .refl _, rfl⟩) (fun q => absurd (by simpa using q) er)⟩)⟩
      · obtain ⟨D, d1, d2⟩ := a2.C
        refine ole_cut (by rw [CR_length, CR_length]; exact hl.1) fun i e e' he he' => ?_
        rw [CR, List.getElem?_map] at he he'
        obtain ⟨v, hv, rfl⟩ := Option.map_eq_some_iff.1 he'
        obtain ⟨v2, hv2, rfl⟩ := Option.map_eq_some_iff.1 he
        have hv : h.C[i]? = some v := hv
        rw [d1, List.getElem?_append_left (List.getElem?_eq_some_iff.1 hv).1, hv] at hv2
        injection hv2 with hv2; subst hv2; exact LeR.refl _
theorem c_EncB (_k : Nat) (t : Tm) (hn : near 1000 t = true) (hz : t.sz ≤ 500) (hq : validB t = true → qB _k t) (h : Hp) (h0 : HF 0 h) (hC : h.C.length + 2 * t.sz ≤ 10000) (hN : h.N.length + 2 * t.sz ≤ 10000) :
    ∃ r h', AC Try.prog 12 [aH 0, aT t, .c (.a (.fz (.z0 true)))] (oH h) (t2 r) (oH' h') ∧ EncR 0 t h h' r := by
  have hv := c_valid t (by simp only [B]; omega)
  cases eb : validB t with
  | false =>
    rw [eb] at hv
    refine ⟨(0, 1), h, ?_, Ext.refl h _, fun h => h, fun _ => ⟨rfl, rfl⟩, fun _ => rfl, fun e => by rw [eb] at e; cases e⟩
    obtain ⟨k', s, n, l⟩ := t
    refine AC.vc hP sh lv12 (by simp) (by simp [isLive]) (by simp [isLive]) (Eq.mpr (v12_i1 k' s n (FTs l)  ..) ?_)
    exact ⟨_, hv, br_of (fun _ => ⟨.refl _, rfl⟩) (fun h => by cases h)⟩
  | true =>
    rw [eb] at hv
    obtain ⟨r, h', a1, a2, aR, a3, a4⟩ := c_encB _k t eb hn hz (hq eb) h h0 hC hN
    by_cases er : r.2 = 0
    · refine ⟨r, h', ?_, a2.mono (by omega), aR, fun e => absurd er e, fun e => (by rw [eb] at e; cases e), fun _ => ⟨a3, a4⟩⟩
      obtain ⟨k', s, n, l⟩ := t
      refine AC.vc hP sh lv12 (by simp) (by simp [isLive]) (by simp [isLive]) (Eq.mpr (v12_i1 k' s n (FTs l)  ..) ?_)
      refine ⟨_, hv, br_of (fun h => by cases h) (fun _ => ⟨(r, h'), a1, br_of (fun q => absurd er (by simpa using q)) (fun _ => ?_)⟩)⟩
      rw [show t2 r = t2 (r.1, 0) by rw [← er]]
      exact ⟨.refl _, rfl⟩
    · have ex : Ext h { h' with C := h.C } (2 * t.sz) := ⟨⟨[], by simp, by simp⟩, by obtain ⟨D, d1, d2⟩ := a2.N; exact ⟨D, d1, by omega⟩, a2.M⟩
      have hl := a2.len
      refine ⟨(0, r.2), { h' with C := h.C }, ?_, ex, fun hR hne => (hR.ext ex hne) hne, fun _ => ⟨rfl, rfl⟩, fun e => (by rw [eb] at e; cases e), fun _ => ⟨fun e => absurd e er, a4⟩⟩
      refine AC.obj (Hs' := [.arr 6 [[.a (.osl 5 5 0 h.C.length), .a (.osl 6 7 0 h'.T.length), .a (.fz (.int .i64 h'.M)), .a (.fz (.int .i64 h'.L)), .a (.osl 7 1 0 h'.N.length), .a (.mp 4)]], .gone, .gone, .gone, .mapz (NM h'.N 0), .arz 5 (CR h'.C), .arz 7 (TR h'.T), .arz 1 (NR h'.N)]) ?_ ⟨.refl _, .refl _, .refl _, .refl _, .refl _, ?_, .refl _, .refl _, trivial⟩
      · obtain ⟨k', s, n, l⟩ := t
        refine AC.vc hP sh lv12 (by simp) (by simp [isLive]) (by simp [isLive]) (Eq.mpr (v12_i1 k' s n (FTs l)  ..) ?_)
        exact ⟨_, hv, br_of (fun h => by cases h) (fun _ => ⟨(r, h'), a1, br_of (fun _ => ⟨⟨by omega, by omega, by simp only; omega⟩, .refl _, rfl⟩) (fun q => absurd (by simpa using q) er)⟩)⟩
      · obtain ⟨D, d1, d2⟩ := a2.C
        refine ole_cut (by rw [CR_length, CR_length]; exact hl.1) fun i e e' he he' => ?_
        rw [CR, List.getElem?_map] at he he'
        obtain ⟨v, hv, rfl⟩ := Option.map_eq_some_iff.1 he'
        obtain ⟨v2, hv2, rfl⟩ := Option.map_eq_some_iff.1 he
        have hv : h.C[i]? = some v := hv
        rw [d1, List.getElem?_append_left (List.getElem?_eq_some_iff.1 hv).1, hv] at hv2
        injection hv2 with hv2; subst hv2; exact LeR.refl _
theorem c_EncC (m : Nat) (t : Tm) (hn : near 1000 t = true) (hz : t.sz ≤ 500) (hq : validB t = true → qC m t) (h : Hp) (h0 : HF ((m + 1 : Nat) : Int) h) (hC : h.C.length + 2 * t.sz ≤ 10000) (hN : h.N.length + 2 * t.sz ≤ 10000) :
    ∃ r h', AC Try.prog 12 [aH 0, aT t, .c (.a (.osl 5 1 0 (m + 1)))] (oHm m h) (t2 r) (oHm' m h') ∧ EncR ((m + 1 : Nat) : Int) t h h' r := by
  have hv := c_valid t (by simp only [B]; omega)
  cases eb : validB t with
  | false =>
    rw [eb] at hv
    refine ⟨(0, 1), h, ?_, Ext.refl h _, fun h => h, fun _ => ⟨rfl, rfl⟩, fun _ => rfl, fun e => by rw [eb] at e; cases e⟩
    obtain ⟨k', s, n, l⟩ := t
    refine AC.vc hP sh lv12 (by simp) (by simp [isLive]) (by simp [isLive]) (Eq.mpr (v12_i2 k' s n (FTs l) m ..) ?_)
    exact ⟨_, hv, br_of (fun _ => ⟨.refl _, rfl⟩) (fun h => by cases h)⟩
  | true =>
    rw [eb] at hv
    obtain ⟨r, h', a1, a2, aR, a3, a4⟩ := c_encC m t eb hn hz (hq eb) h h0 hC hN
    by_cases er : r.2 = 0
    · refine ⟨r, h', ?_, a2.mono (by omega), aR, fun e => absurd er e, fun e => (by rw [eb] at e; cases e), fun _ => ⟨a3, a4⟩⟩
      obtain ⟨k', s, n, l⟩ := t
      refine AC.vc hP sh lv12 (by simp) (by simp [isLive]) (by simp [isLive]) (Eq.mpr (v12_i2 k' s n (FTs l) m ..) ?_)
      refine ⟨_, hv, br_of (fun h => by cases h) (fun _ => ⟨(r, h'), a1, br_of (fun q => absurd er (by simpa using q)) (fun _ => ?_)⟩)⟩
      rw [show t2 r = t2 (r.1, 0) by rw [← er]]
      exact ⟨.refl _, rfl⟩
    · have ex : Ext h { h' with C := h.C } (2 * t.sz) := ⟨⟨[], by simp, by simp⟩, by obtain ⟨D, d1, d2⟩ := a2.N; exact ⟨D, d1, by omega⟩, a2.M⟩
      have hl := a2.len
      refine ⟨(0, r.2), { h' with C := h.C }, ?_, ex, fun hR hne => (hR.ext ex hne) hne, fun _ => ⟨rfl, rfl⟩, fun e => (by rw [eb] at e; cases e), fun _ => ⟨fun e => absurd e er, a4⟩⟩
      refine AC.obj (Hs' := [.arr 6 [[.a (.osl 6 5 0 h.C.length), .a (.osl 7 7 0 h'.T.length), .a (.fz (.int .i64 h'.M)), .a (.fz (.int .i64 h'.L)), .a (.osl 8 1 0 h'.N.length), .a (.mp 4)]], .gone, .gone, .gone, .mapz (NM h'.N 0), .arz 1 (IR (ints (m + 1))), .arz 5 (CR h'.C), .arz 7 (TR h'.T), .arz 1 (NR h'.N)]) ?_ ⟨.refl _, .refl _, .refl _, .refl _, .refl _, .refl _,?_, .refl _, .refl _, trivial⟩
      · obtain ⟨k', s, n, l⟩ := t
        refine AC.vc hP sh lv12 (by simp) (by simp [isLive]) (by simp [isLive]) (Eq.mpr (v12_i2 k' s n (FTs l) m ..) ?_)
        exact ⟨_, hv, br_of (fun h => by cases h) (fun _ => ⟨(r, h'), a1, br_of (fun _ => ⟨⟨by omega, by omega, by simp only; omega⟩, .refl _, rfl⟩) (fun q => absurd (by simpa using q) er)⟩)⟩
      · obtain ⟨D, d1, d2⟩ := a2.C
        refine ole_cut (by rw [CR_length, CR_length]; exact hl.1) fun i e e' he he' => ?_
        rw [CR, List.getElem?_map] at he he'
        obtain ⟨v, hv, rfl⟩ := Option.map_eq_some_iff.1 he'
        obtain ⟨v2, hv2, rfl⟩ := Option.map_eq_some_iff.1 he
        have hv : h.C[i]? = some v := hv
        rw [d1, List.getElem?_append_left (List.getElem?_eq_some_iff.1 hv).1, hv] at hv2
        injection hv2 with hv2; subst hv2; exact LeR.refl _
/-! ### Variables -/
theorem hasI_mem {v : Int} {l : List Int} : hasI v l = true ↔ v ∈ l := by
  simp only [hasI, List.any_eq_true, beq_iff_eq]
  exact ⟨fun ⟨x, h, e⟩ => by rw [e]; exact h, fun h => ⟨v, h, rfl⟩⟩
theorem varsLeaf_lt (k : Int) (u : Tm) (acc : List Int) : (∀ v ∈ varsLeaf u acc, v < k) ↔ (∀ v ∈ acc, v < k) ∧ (u.k = 4 → u.n < k) := by
  unfold varsLeaf
  by_cases q : (u.k == 4 && !hasI u.n acc) = true
  · rw [if_pos q]
    simp only [Bool.and_eq_true, beq_iff_eq] at q
    constructor
    · exact fun h => ⟨fun v hv => h v (List.mem_append_left _ hv), fun _ => h _ (List.mem_append_right _ (List.mem_singleton.2 rfl))⟩
    · intro h v hv
      rcases List.mem_append.1 hv with hv | hv
      · exact h.1 v hv
      · rw [List.mem_singleton.1 hv]; exact h.2 q.1
  · rw [if_neg q]
    constructor
    · intro h
      refine ⟨h, fun h4 => ?_⟩
      have : hasI u.n acc = true := by
        cases e : hasI u.n acc with
        | true => rfl
        | false => exact absurd (by simp [h4, e]) q
      exact h _ (hasI_mem.1 this)
    · exact fun h => h.1
mutual
theorem varsF_lt (k : Int) : ∀ (t : Tm) (acc : List Int), validB t = true → ((∀ v ∈ varsF t acc, v < k) ↔ (∀ v ∈ acc, v < k) ∧ vlt k t = true)
  | .mk kk s n l, acc, hv => by
    by_cases hk : kk = 5 ∨ kk = 6
    · rw [varsF, if_pos (by rcases hk with rfl | rfl <;> rfl), vlt_inner (by omega)]
      exact varsL_lt k l acc (validL_of hv hk)
    · obtain ⟨rfl, _⟩ := leaf_of hv (fun e => hk (.inl e)) (fun e => hk (.inr e))
      rw [varsF, if_neg (by simp; omega), varsLeaf_lt]
      simp only [Tm.k, Tm.n, vlt, vlts, Bool.and_true, Bool.or_eq_true, bne_iff_ne, decide_eq_true_eq]
      constructor
      · exact fun h => ⟨h.1, by by_cases e : kk = 4; · exact .inr (h.2 e)
                                · exact .inl e⟩
      · exact fun h => ⟨h.1, fun e => h.2.resolve_left (fun q => q e)⟩
theorem varsL_lt (k : Int) : ∀ (l : List Tm) (acc : List Int), validL l = true → ((∀ v ∈ varsL l acc, v < k) ↔ (∀ v ∈ acc, v < k) ∧ vlts k l = true)
  | [], acc, _ => by simp [varsL, vlts]
  | t :: l, acc, hv => by
    rw [validL, Bool.and_eq_true] at hv
    rw [varsL, varsL_lt k l _ hv.2, varsF_lt k t acc hv.1, vlts, Bool.and_eq_true, and_assoc]
end
theorem vars_all {k : Int} {t : Tm} (hv : validB t = true) : (varsF t []).all (fun v => decide (v < k)) = vlt k t := by
  have h := varsF_lt k t [] hv
  rw [Bool.eq_iff_iff, List.all_eq_true]
  simp only [decide_eq_true_eq]
  rw [h]; simp
/-! ### Places in the place of variables -/
def bys (m : Nat) : List Tm := (List.range m).map fun i : Nat => .mk 4 [] (i : Int) []
theorem inst_id {m : Nat} {t : Tm} (hv : validB t = true) (hl : vlt (m : Int) t = true) : inT (bys m) t 0 = t := by
  refine walk_id (inLeaf (bys m)) (fun t _ => validB t = true ∧ vlt (m : Int) t = true) (fun k s n l d hq hk u hu => ?_) (fun k s n l d hk hq => ?_) t 0 ⟨hv, hl⟩
  · have hk' : k = 5 ∨ k = 6 := by simpa using hk
    exact ⟨validL_mem (validL_of hq.1 hk') hu, vlts_mem (vlt_kid hq.2) hu⟩
  · have h5 : k ≠ 5 := by intro e; subst e; cases hk
    have h6 : k ≠ 6 := by intro e; subst e; cases hk
    obtain ⟨rfl, hs⟩ := leaf_of hq.1 h5 h6
    unfold inLeaf
    by_cases q : ((Tm.mk k s n []).k == 4) = true ∧ 0 ≤ (Tm.mk k s n []).n ∧ (Tm.mk k s n []).n < ((bys m).length : Int)
    · rw [if_pos q]
      obtain ⟨q1, q2, q3⟩ := q
      have k4 : k = 4 := by simpa [Tm.k] using q1
      subst k4
      simp only [Tm.n, bys, List.length_map, List.length_range] at q2 q3
      obtain rfl : s = [] := by
        rcases hs with hs | hs | hs | hs | hs
        · omega
        · omega
        · omega
        · omega
        · exact hs.2.1
      have e : (bys m).getD (Tm.mk 4 [] n []).n.toNat default = .mk 4 [] n [] := by
        have hlt : n.toNat < m := by omega
        simp [bys, Tm.n, List.getD, hlt, Int.toNat_of_nonneg q2]
      rw [e, shT, walkF_leaf _ _ _ _ _ _ rfl]
      rfl
    · rw [if_neg q]

end Go.AM

set_option maxRecDepth 100000
open Go Go.Proofs
namespace Go.AM

/-! ### What was encoded is decoded again -/
theorem fmaxnn (v : Int) : 0 ≤ foldMax [v, 0] := by
  simp only [foldMax, List.foldl, max, maxOfLe]; split <;> omega
theorem put_full {s : Hp} {c : Cel} (hf : fitsH s c = true) : putS s c = (((s.C.length : Int), 0), { s with C := s.C ++ [c] }) ∨ (putS s c).1.2 = 200 := by
  unfold putS
  rw [if_neg (by rw [hf]; simp)]
  split
  · exact .inr rfl
  · exact .inl rfl
abbrev byR (i : Nat) : List (List FV) := (List.range i).map fun k : Nat => [.int .i64 4, .str [], .int .i64 (k : Int), .nils]
theorem byR_succ (i : Nat) : List.take i (byR i) ++ [[FV.int .i64 4, .str [], .int .i64 (i : Int), .nils]] = byR (i + 1) := by
  rw [List.take_of_length_le (by simp), byR, byR, List.range_succ, List.map_append]; rfl
theorem ints_succ (i : Nat) : List.take i (IR (ints i)) ++ [[FV.int .i64 (i : Int)]] = IR (ints (i + 1)) := by
  rw [List.take_of_length_le (by rw [ints_len]; exact Nat.le_refl _), ints, ints, List.range_succ, List.map_append, IR, IR, List.map_append]; rfl
theorem byR_le (m : Nat) : FV.Le (.sl false 4 (List.take m (List.drop 0 (byR m)))) (.sl false 4 (FTs (bys m))) := by
  rw [List.drop_zero, List.take_of_length_le (by simp)]
  refine leRows (by simp [bys]) fun i r t hr ht => ?_
  simp only [byR, bys, List.getElem?_map] at hr ht
  obtain ⟨a, ha, rfl⟩ := Option.map_eq_some_iff.1 hr
  obtain ⟨b, hb, rfl⟩ := Option.map_eq_some_iff.1 ht
  rw [ha] at hb; injection hb with hb; subst hb
  rw [FT_eta]
  exact ⟨.refl _, .refl _, .refl _, leNil, trivial⟩
abbrev hsB (t : Tm) (s : Hp) (rest : List (Nat × AObj)) : List (Nat × AObj) := (0, .arr 4 [cT t]) :: (1, hp6 2 3 4 5 s) :: (2, .arz 5 (CR s.C)) :: (3, .arz 7 (TR s.T)) :: (4, .arz 1 (NR s.N)) :: (5, .mapz (NM s.N 0)) :: rest
theorem bys_len (m : Nat) : (bys m).length = m := by simp [bys]
theorem bys_mem {m : Nat} {x : Tm} (h : x ∈ bys m) : ∃ i : Nat, x = .mk 4 [] (i : Int) [] := by
  obtain ⟨i, _, rfl⟩ := List.mem_map.1 h; exact ⟨i, rfl⟩
abbrev st5E  (t : Tm) (s : Hp) (n : Int) (r : Int × Int) (l : List Int) (b : Bool) (j : Int) : St :=
  ⟨[(5, .c (.a (.ep 0 4 0 0))), (7, cb true), (10, aH 1), (11, .c (.a (.fz (.z0 true)))), (12, .c (.a (.fz .nils))), (16, ci n), (17, ci r.1), (18, ci r.2), (20, aI l), (21, cb b), (22, ci j)], hsB t s [], 6⟩
theorem l5E  (t : Tm) (s : Hp) (n : Int) (r : Int × Int) (l : List Int) (hl : l.length ≤ 1000) : ∀ (j i : Nat) (b : Bool), i + j = l.length →
    RPt Try.prog 6 0 (cb true) [] 5 (st5E  t s n r l (b && (l.drop i).all (fun v => decide (v < (0 : Int)))) (l.length : Int)) → RPt Try.prog 6 0 (cb true) [] 5 (st5E  t s n r l b (i : Int))
  | 0, i, b, hi, h => by
    obtain rfl : i = l.length := by omega
    rw [List.drop_eq_nil_of_le (Nat.le_refl _)] at h
    simpa using h
  | j + 1, i, b, hi, h => by
    refine RPt.vc hP sh lv6 (Eq.mpr (v6_5a ..) ?_)
    have hi2 : i < l.length := by omega
    have hlen := IR_length l
    have eg : List.getD (FV.ses (.sl false 1 (IR l))) (Int.toNat (i : Int)) [] = [.int .i64 l[i]] := by
      rw [Int.toNat_natCast]; show List.getD (IR l) i [] = _; simp [IR, List.getD, hi2]
    have ed : l.drop i = l[i] :: l.drop (i + 1) := List.drop_eq_getElem_cons hi2
    rw [ed, List.all_cons, ← Bool.and_assoc] at h
    rw [eg, w64 (x := (i : Int) + 1) (by omega) (by omega)]
    refine ⟨rfl, br_of (fun _ => ?_) (fun q => absurd (of_decide_eq_false q) (by show ¬ ¬ ((i : Int) < ((IR l).length : Int)); omega))⟩
    cases b with
    | true => exact br_of (fun _ => ⟨⟨rfl, by omega, by show (i : Int) < ((IR l).length : Int); omega, rfl⟩, rfl, l5E  t s n r l hl j (i + 1) (decide (l[i] < (0 : Int))) (by omega) (by simpa using h)⟩) (fun q => by cases q)
    | false => exact br_of (fun q => by cases q) (fun _ => l5E  t s n r l hl j (i + 1) _ (by omega) (by simpa using h))
theorem l5eE  (t : Tm) (h s : Hp) (r : Int × Int) (hv : validB t = true) (hn : near 1000 t = true) (hz : t.sz ≤ 60) (h0 : HF (0 : Int) h) (hR : R0 h) (hC : h.C.length ≤ 100) (hNl : h.N.length ≤ 100) (hM : (0 : Int) ≤ 1000) (he : EncR (0 : Int) t h s r) (l : List Int) (hl : l.length ≤ 1000) :
    RPt Try.prog 6 0 (cb true) [] 5 (st5E  t s (h.C.length : Int) r l (vlt (0 : Int) t) (l.length : Int)) := by
  obtain ⟨e1, e2, e3, _, e5⟩ := he
  obtain ⟨e6, e7⟩ := e5 hv
  have hlen := IR_length l
  have le := e1.len
  refine RPt.vc hP sh lv6 (Eq.mpr (v6_5a ..) ?_)
  refine ⟨rfl, br_of (fun q => absurd (of_decide_eq_true q) (by show ¬ ((l.length : Int) < ((IR l).length : Int)); omega)) (fun _ => br_of (fun q => ?_) (fun q => ?_))⟩
  · have q : r.2 ≠ 0 := by simpa using q
    obtain ⟨_, eC⟩ := e3 q
    refine br_of (fun _ => ⟨_, c_hlen s, br_of (fun _ => ?_) (fun h2 => ?_)⟩) (fun h => by cases h)
    · rcases e7 with e7 | e7 | e7
      · exact absurd e7 q
      · exact br_of (fun _ => ret_b rfl) (fun h3 => absurd e7 (by simpa using h3))
      · exact br_of (fun _ => ret_b rfl) (fun _ => br_of (fun _ => ret_b (by rw [e7.2]; rfl)) (fun h3 => absurd e7.1 (by simpa using h3)))
    · rw [eC] at h2; simp at h2
  · have q : r.2 = 0 := by simpa using q
    obtain ⟨b0, c, b1, b2⟩ := e6 q
    have d1 := c_Dec s r.1 1000 (1000 - (c : Int)) t (c_drep s b1 1000 (by omega) (by omega))
    have hi := c_inst t (bys 0) 1 (fun x hx => by obtain ⟨i, rfl⟩ := bys_mem hx; simp [Tm.sz, Tm.szs]) (by have := nd_le_sz t; simp only [B]; omega) (bds_of fun x hx => by obtain ⟨i, rfl⟩ := bys_mem hx; exact ⟨fun e => by omega, trivial⟩)
    rw [inst_id hv b0] at hi
    have hs := c_rsame t (by simp only [B]; omega) t
    rw [(sameB_iff _ _).2 rfl] at hs
    obtain ⟨r5, h5, f0, f1, f2, f3, _, f5⟩ := c_EncA (0 : Int) t hn (by omega) (fun _ => b0) s (h0.ext e1) (by omega) (by omega)
    obtain ⟨f6, f7⟩ := f5 hv
    have hd : ∃ (x : Tm) (g : Int), AC Try.prog 31 [aD, ci r5.1] (oD h5 1000 0) (aT x) (oD h5 g 0) ∧ x.sz ≤ 1000 ∧ (r5.2 = 0 → x = t) := by
      by_cases er : r5.2 = 0
      · obtain ⟨_, c5, g1, g2⟩ := f6 er
        exact ⟨t, _, c_drep h5 g1 1000 (by omega) (by omega), by omega, fun _ => rfl⟩
      · obtain ⟨x, c5, g1, g2⟩ := f2 (e2 hR) (by
          have := f1.len
          have hne := rep_ne b1
          intro e
          rw [e] at this
          have : s.C.length = 0 := by simpa using this.1
          exact hne (List.eq_nil_of_length_eq_zero this))
        rw [(f3 er).1]
        exact ⟨x, _, c_drep h5 g1 1000 (by omega) (by omega), by have := rep_sz g1; omega, fun e => absurd e er⟩
    obtain ⟨x, g, d2, xz, xe⟩ := hd
    have d2 := c_Dec h5 r5.1 1000 g x d2
    have hs2 := c_rsame x (by simp only [B]; omega) t
    refine ⟨(t, 1000 - (c : Int), 0), d1,  t, hi.args ⟨.refl _, .c _ _ (.a _ _ (.fz _ _ leNil)), trivial⟩, _, hs, (r5, h5), f0, (x, g, 0), d2, _, hs2, ?_⟩
    refine br_of (fun _ => br_of (fun _ => br_of (fun _ => br_of (fun _ => br_of (fun _ => ret_b rfl) (fun k1 => br_of (fun k2 => br_of (fun _ => ?_) (fun k => by cases k)) (fun k2 => ?_))) (fun k => by cases k)) (fun k => by cases k)) (fun k => by rw [b0] at k; cases k)) (fun k => by cases k)
    · rw [xe (by simpa using k2)]; exact ret_b ((sameB_iff _ _).2 rfl)
    · rcases f7 with f7 | f7 | f7
      · exact absurd f7 (by simpa using k2)
      · exact absurd f7 (by simpa using k1)
      · rw [b0] at f7; cases f7.2
abbrev st5L (m : Nat) (t : Tm) (s : Hp) (n : Int) (r : Int × Int) (l : List Int) (b : Bool) (j : Int) : St :=
  ⟨[(5, .c (.a (.ep 0 4 0 0))), (7, cb true), (10, aH 1), (11, .c (.a (.osl 6 1 0 (m + 1)))), (12, .c (.a (.osl 7 4 0 (m + 1)))), (16, ci n), (17, ci r.1), (18, ci r.2), (20, aI l), (21, cb b), (22, ci j)], hsB t s [(6, .arz 1 (IR (ints (m + 1)))), (7, .arz 4 (byR (m + 1)))], 8⟩
theorem l5L (m : Nat) (t : Tm) (s : Hp) (n : Int) (r : Int × Int) (l : List Int) (hl : l.length ≤ 1000) : ∀ (j i : Nat) (b : Bool), i + j = l.length →
    RPt Try.prog 6 0 (cb true) [] 5 (st5L m t s n r l (b && (l.drop i).all (fun v => decide (v < ((m + 1 : Nat) : Int)))) (l.length : Int)) → RPt Try.prog 6 0 (cb true) [] 5 (st5L m t s n r l b (i : Int))
  | 0, i, b, hi, h => by
    obtain rfl : i = l.length := by omega
    rw [List.drop_eq_nil_of_le (Nat.le_refl _)] at h
    simpa using h
  | j + 1, i, b, hi, h => by
    refine RPt.vc hP sh lv6 (Eq.mpr (v6_5b ..) ?_)
    have hi2 : i < l.length := by omega
    have hlen := IR_length l
    have eg : List.getD (FV.ses (.sl false 1 (IR l))) (Int.toNat (i : Int)) [] = [.int .i64 l[i]] := by
      rw [Int.toNat_natCast]; show List.getD (IR l) i [] = _; simp [IR, List.getD, hi2]
    have ed : l.drop i = l[i] :: l.drop (i + 1) := List.drop_eq_getElem_cons hi2
    rw [ed, List.all_cons, ← Bool.and_assoc] at h
    rw [eg, w64 (x := (i : Int) + 1) (by omega) (by omega)]
    refine ⟨rfl, br_of (fun _ => ?_) (fun q => absurd (of_decide_eq_false q) (by show ¬ ¬ ((i : Int) < ((IR l).length : Int)); omega))⟩
    cases b with
    | true => exact br_of (fun _ => ⟨⟨rfl, by omega, by show (i : Int) < ((IR l).length : Int); omega, rfl⟩,  l5L m t s n r l hl j (i + 1) (decide (l[i] < ((m + 1 : Nat) : Int))) (by omega) (by simpa using h)⟩) (fun q => by cases q)
    | false => exact br_of (fun q => by cases q) (fun _ => l5L m t s n r l hl j (i + 1) _ (by omega) (by simpa using h))
theorem l5eL (m : Nat) (t : Tm) (h s : Hp) (r : Int × Int) (hv : validB t = true) (hn : near 1000 t = true) (hz : t.sz ≤ 60) (h0 : HF ((m + 1 : Nat) : Int) h) (hR : R0 h) (hC : h.C.length ≤ 100) (hNl : h.N.length ≤ 100) (hM : ((m + 1 : Nat) : Int) ≤ 1000) (he : EncR ((m + 1 : Nat) : Int) t h s r) (l : List Int) (hl : l.length ≤ 1000) :
    RPt Try.prog 6 0 (cb true) [] 5 (st5L m t s (h.C.length : Int) r l (vlt ((m + 1 : Nat) : Int) t) (l.length : Int)) := by
  obtain ⟨e1, e2, e3, _, e5⟩ := he
  obtain ⟨e6, e7⟩ := e5 hv
  have hlen := IR_length l
  have le := e1.len
  refine RPt.vc hP sh lv6 (Eq.mpr (v6_5b ..) ?_)
  refine ⟨rfl, br_of (fun q => absurd (of_decide_eq_true q) (by show ¬ ((l.length : Int) < ((IR l).length : Int)); omega)) (fun _ => br_of (fun q => ?_) (fun q => ?_))⟩
  · have q : r.2 ≠ 0 := by simpa using q
    obtain ⟨_, eC⟩ := e3 q
    refine br_of (fun _ => ⟨_, c_hlen s, br_of (fun _ => ?_) (fun h2 => ?_)⟩) (fun h => by cases h)
    · rcases e7 with e7 | e7 | e7
      · exact absurd e7 q
      · exact br_of (fun _ => ret_b rfl) (fun h3 => absurd e7 (by simpa using h3))
      · exact br_of (fun _ => ret_b rfl) (fun _ => br_of (fun _ => ret_b (by rw [e7.2]; rfl)) (fun h3 => absurd e7.1 (by simpa using h3)))
    · rw [eC] at h2; simp at h2
  · have q : r.2 = 0 := by simpa using q
    obtain ⟨b0, c, b1, b2⟩ := e6 q
    have d1 := c_Dec s r.1 1000 (1000 - (c : Int)) t (c_drep s b1 1000 (by omega) (by omega))
    have hi := c_inst t (bys (m + 1)) 1 (fun x hx => by obtain ⟨i, rfl⟩ := bys_mem hx; simp [Tm.sz, Tm.szs]) (by have := nd_le_sz t; simp only [B]; omega) (bds_of fun x hx => by obtain ⟨i, rfl⟩ := bys_mem hx; exact ⟨fun e => by omega, trivial⟩)
    rw [inst_id hv b0] at hi
    have hs := c_rsame t (by simp only [B]; omega) t
    rw [(sameB_iff _ _).2 rfl] at hs
    obtain ⟨r5, h5, f0, f1, f2, f3, _, f5⟩ := c_EncA ((m + 1 : Nat) : Int) t hn (by omega) (fun _ => b0) s (h0.ext e1) (by omega) (by omega)
    obtain ⟨f6, f7⟩ := f5 hv
    have hd : ∃ (x : Tm) (g : Int), AC Try.prog 31 [aD, ci r5.1] (oD h5 1000 0) (aT x) (oD h5 g 0) ∧ x.sz ≤ 1000 ∧ (r5.2 = 0 → x = t) := by
      by_cases er : r5.2 = 0
      · obtain ⟨_, c5, g1, g2⟩ := f6 er
        exact ⟨t, _, c_drep h5 g1 1000 (by omega) (by omega), by omega, fun _ => rfl⟩
      · obtain ⟨x, c5, g1, g2⟩ := f2 (e2 hR) (by
          have := f1.len
          have hne := rep_ne b1
          intro e
          rw [e] at this
          have : s.C.length = 0 := by simpa using this.1
          exact hne (List.eq_nil_of_length_eq_zero this))
        rw [(f3 er).1]
        exact ⟨x, _, c_drep h5 g1 1000 (by omega) (by omega), by have := rep_sz g1; omega, fun e => absurd e er⟩
    obtain ⟨x, g, d2, xz, xe⟩ := hd
    have d2 := c_Dec h5 r5.1 1000 g x d2
    have hs2 := c_rsame x (by simp only [B]; omega) t
    refine ⟨(t, 1000 - (c : Int), 0), d1, ⟨rfl, by simp⟩, t, hi.args ⟨.refl _, .c _ _ (.a _ _ (.fz _ _ (byR_le (m + 1)))), trivial⟩, _, hs, (r5, h5), f0, (x, g, 0), d2, _, hs2, ?_⟩
    refine br_of (fun _ => br_of (fun _ => br_of (fun _ => br_of (fun _ => br_of (fun _ => ret_b rfl) (fun k1 => br_of (fun k2 => br_of (fun _ => ?_) (fun k => by cases k)) (fun k2 => ?_))) (fun k => by cases k)) (fun k => by cases k)) (fun k => by rw [b0] at k; cases k)) (fun k => by cases k)
    · rw [xe (by simpa using k2)]; exact ret_b ((sameB_iff _ _).2 rfl)
    · rcases f7 with f7 | f7 | f7
      · exact absurd f7 (by simpa using k2)
      · exact absurd f7 (by simpa using k1)
      · rw [b0] at f7; cases f7.2

end Go.AM

set_option maxRecDepth 100000
open Go Go.Proofs
namespace Go.AM

mutual
theorem varsF_le : ∀ (t : Tm) (acc : List Int), (varsF t acc).length ≤ acc.length + t.sz
  | .mk k s n l, acc => by
    rw [varsF]
    split
    · have := varsL_le l acc; simp only [Tm.sz]; omega
    · unfold varsLeaf; split
      · simp only [List.length_append, List.length_singleton, Tm.sz]; omega
      · omega
theorem varsL_le : ∀ (l : List Tm) (acc : List Int), (varsL l acc).length ≤ acc.length + Tm.szs l
  | [], acc => by simp [varsL]
  | t :: l, acc => by
    have h1 := varsF_le t acc
    have h2 := varsL_le l (varsF t acc)
    rw [varsL]; simp only [Tm.szs]; omega
end
theorem hf_push {i : Nat} {s : Hp} {v : Int} (h : HF (i : Int) s) (hc : s.C.length = i) : HF ((i + 1 : Nat) : Int) { s with C := s.C ++ [⟨4, v, 0, 0, 0⟩] } := fun j hj hlt => by
  by_cases q : j < (i : Int)
  · obtain ⟨p1, p2⟩ := h j hj q
    obtain ⟨g1, g2⟩ := inC_app (D := [(⟨4, v, 0, 0, 0⟩ : Cel)]) p1
    exact ⟨g1, by show (cellOf (s.C ++ [⟨4, v, 0, 0, 0⟩]) j).t = 4; rw [g2]; exact p2⟩
  · obtain rfl : j = (s.C.length : Int) := by omega
    have := cell_new s.C ⟨4, v, 0, 0, 0⟩
    exact ⟨this.1, by show (cellOf (s.C ++ [⟨4, v, 0, 0, 0⟩]) (s.C.length : Int)).t = 4; rw [this.2]⟩
theorem hf_R0 {i : Nat} {s : Hp} (h : HF (i : Int) s) (hc : s.C.length = i) : R0 s := fun hn => by
  have hp : 0 < i := by
    cases e : s.C with
    | nil => exact absurd e hn
    | cons c C => rw [e] at hc; simp at hc; omega
  obtain ⟨p1, p2⟩ := h 0 (Int.le_refl _) (by omega)
  exact ⟨_, 1, .free 0 p1 p2, Nat.le_refl _⟩
section
variable (t : Tm) (lv : List Int) (hn : near 1000 t = true) (hz : t.sz ≤ 60) (h8 : lv.length ≤ 8)
abbrev st1L (t : Tm) (lv : List Int) (s : Hp) (i : Nat) : St :=
  ⟨[(1, aI lv), (5, .c (.a (.ep 0 4 0 0))), (7, cb true), (10, aH 1), (11, .c (.a (.osl 6 1 0 i))), (12, .c (.a (.osl 7 4 0 i))), (13, ci (i : Int))], hsB t s [(6, .arz 1 (IR (ints i))), (7, .arz 4 (byR i))], 8⟩
abbrev st1E (t : Tm) (lv : List Int) (s : Hp) : St :=
  ⟨[(1, aI lv), (5, .c (.a (.ep 0 4 0 0))), (7, cb true), (10, aH 1), (11, .c (.a (.fz (.z0 true)))), (12, .c (.a (.fz .nils))), (13, ci 0)], hsB t s [], 6⟩
include hn hz h8
theorem l1L (m : Nat) (hm : lv.length = m + 1) (s : Hp) (hf : HF ((m + 1 : Nat) : Int) s) (hc : s.C.length = m + 1) (hN : s.N = []) : RPt Try.prog 6 0 (cb true) [] 1 (st1L t lv s (m + 1)) := by
  have hlen := IR_length lv
  obtain ⟨r, h', a1, a2⟩ := c_EncC m t hn (by omega) (fun _ => trivial) s hf (by omega) (by rw [hN]; simp; omega)
  have hv := c_valid t (by simp only [B]; omega)
  have hvr := c_vars t (by simp only [B]; omega)
  have hvl := varsF_le t []
  refine RPt.vc hP sh lv6 (Eq.mpr (v6_1b ..) ?_)
  refine ⟨rfl, br_of (fun q => absurd (of_decide_eq_true q) (by omega)) (fun _ => ⟨_, c_hlen s, (r, h'), a1, _, hv, br_of (fun q => ?_) (fun q => ?_)⟩)⟩
  · have eb : validB t = false := by simpa using q
    have er := a2.2.2.2.1 eb
    obtain ⟨_, eC⟩ := a2.2.2.1 (by rw [er]; omega)
    refine br_of (fun _ => br_of (fun _ => ⟨_, c_hlen h', ret_b (by rw [eC]; simp)⟩) (fun h => absurd er (by simpa using h))) (fun h => by cases h)
  · have eb : validB t = true := by simpa using q
    refine ⟨.sl false 1 (IR (varsF t [])), hvr, ?_⟩
    refine l5L m t h' (s.C.length : Int) r (varsF t []) (by simp at hvl; omega) _ 0 true (Nat.zero_add _) ?_
    rw [Bool.true_and, List.drop_zero, vars_all eb]
    exact l5eL m t s h' r eb hn hz hf (hf_R0 hf hc) (by omega) (by rw [hN]; simp) (by omega) a2 (varsF t []) (by simp at hvl; omega)
theorem l1E (hl : lv = []) (s : Hp) (hc : s.C = []) (hN : s.N = []) : RPt Try.prog 6 0 (cb true) [] 1 (st1E t lv s) := by
  have hf : HF (0 : Int) s := fun i h1 h2 => by omega
  subst hl
  obtain ⟨r, h', a1, a2⟩ := c_EncB 0 t hn (by omega) (fun _ => trivial) s hf (by rw [hc]; simp; omega) (by rw [hN]; simp; omega)
  have hv := c_valid t (by simp only [B]; omega)
  have hvr := c_vars t (by simp only [B]; omega)
  have hvl := varsF_le t []
  refine RPt.vc hP sh lv6 (Eq.mpr (v6_1a ..) ?_)
  refine ⟨rfl, br_of (fun q => by cases q) (fun _ => ⟨_, c_hlen s, (r, h'), a1, _, hv, br_of (fun q => ?_) (fun q => ?_)⟩)⟩
  · have eb : validB t = false := by simpa using q
    have er := a2.2.2.2.1 eb
    obtain ⟨_, eC⟩ := a2.2.2.1 (by rw [er]; omega)
    refine br_of (fun _ => br_of (fun _ => ⟨_, c_hlen h', ret_b (by rw [eC]; simp)⟩) (fun h => absurd er (by simpa using h))) (fun h => by cases h)
  · have eb : validB t = true := by simpa using q
    refine ⟨.sl false 1 (IR (varsF t [])), hvr, ?_⟩
    refine l5E t h' (s.C.length : Int) r (varsF t []) (by simp at hvl; omega) _ 0 true (Nat.zero_add _) ?_
    rw [Bool.true_and, List.drop_zero, vars_all eb]
    exact l5eE t s h' r eb hn hz hf (fun h => absurd hc h) (by rw [hc]; simp) (by rw [hN]; simp) (by omega) a2 (varsF t []) (by simp at hvl; omega)
theorem l1 : ∀ (j i : Nat) (s : Hp), i + 1 + j = lv.length → HF ((i + 1 : Nat) : Int) s → s.C.length = i + 1 → s.N = [] → RPt Try.prog 6 0 (cb true) [] 1 (st1L t lv s (i + 1))
  | 0, i, s, hi, hf, hc, hN => l1L t lv hn hz h8 i (by omega) s hf hc hN
  | j + 1, i, s, hi, hf, hc, hN => by
    have hlen := IR_length lv
    have hi2 : i + 1 < lv.length := by omega
    have eg : List.getD (IR lv) (Int.toNat ((i + 1 : Nat) : Int)) [] = [.int .i64 lv[i + 1]] := by rw [Int.toNat_natCast]; simp [IR, List.getD, hi2]
    have hp := c_hput s ⟨4, foldMax [lv[i + 1], 0], 0, 0, 0⟩ (by omega)
    have hfit : fitsH s ⟨4, foldMax [lv[i + 1], 0], 0, 0, 0⟩ = true := by have := fmaxnn lv[i + 1]; simp [fitsH]; omega
    refine RPt.vc hP sh lv6 (Eq.mpr (v6_1b ..) ?_)
    rw [eg, w64 (x := ((i + 1 : Nat) : Int) + 1) (by omega) (by omega)]
    refine ⟨rfl, br_of (fun _ => ⟨⟨rfl, by omega, by rw [hlen]; omega, rfl⟩, putS s ⟨4, foldMax [lv[i + 1], 0], 0, 0, 0⟩, hp, ?_⟩) (fun q => absurd (of_decide_eq_false q) (by rw [hlen]; omega))⟩
    rcases put_full hfit with e | e
    · rw [e]
      refine br_of (fun q => by cases q) (fun _ => ⟨Nat.le_refl _, ⟨by rw [ints_len]; exact Nat.le_refl _, by simp only [roomB]; omega⟩, Nat.le_refl _, ⟨by simp, by simp only [roomB]; omega⟩, ?_⟩)
      have nx := l1 j (i + 1) { s with C := s.C ++ [⟨4, foldMax [lv[i + 1], 0], 0, 0, 0⟩] } (by omega) (hf_push hf hc) (by simp [hc]) hN
      rw [hc, ints_succ, byR_succ]
      exact nx
    · refine br_of (fun _ => br_of (fun _ => ret_b (by rw [e]; rfl)) (fun q => by cases q)) (fun q => absurd e (by simp at q; omega))
end
theorem c_heapback (cells : Int) (lv : List Int) (t : Tm) (ht : t.sz ≤ B) : AC Try.prog 6 [ci cells, aI lv, aT t] [] (cb true) [] := by
  have t1 := c_large t ht 60 (by omega) (by omega)
  have t3 := c_near 1000 (by omega) (by omega) t ht
  have hlen := IR_length lv
  have key : large t 60 = false → near 1000 t = true → lv.length ≤ 8 → ∀ s : Hp, s.C = [] → s.N = [] → RPt Try.prog 6 0 (cb true) [] 1 (st1E t lv s) := fun g1 g3 g8 s hC hN => by
    have hz : t.sz ≤ 60 := by have := large_sz g1; omega
    match lv, g8 with
    | [], g8 => exact l1E t [] g3 hz g8 rfl s hC hN
    | v :: l, g8 =>
      have hp := c_hput s ⟨4, foldMax [v, 0], 0, 0, 0⟩ (by rw [hC]; simp)
      have hfit : fitsH s ⟨4, foldMax [v, 0], 0, 0, 0⟩ = true := by have := fmaxnn v; simp [fitsH]; omega
      have hlen := IR_length (v :: l)
      refine RPt.vc hP sh lv6 (Eq.mpr (v6_1a ..) ?_)
      rw [w64 (x := (0 : Int) + 1) (by omega) (by omega)]
      refine ⟨rfl, br_of (fun _ => ⟨⟨rfl, Int.le_refl _, by rw [hlen]; simp only [List.length_cons]; omega, rfl⟩, putS s ⟨4, foldMax [v, 0], 0, 0, 0⟩, hp, ?_⟩) (fun q => absurd (of_decide_eq_false q) (by rw [hlen]; simp only [List.length_cons]; omega))⟩
      rcases put_full hfit with e | e
      · rw [e]
        refine br_of (fun q => by cases q) (fun _ => ⟨Nat.le_refl _, by simp only [roomB]; omega, Nat.le_refl _, by simp only [roomB]; omega, ?_⟩)
        have nx := l1 t (v :: l) g3 hz g8 l.length 0 { s with C := s.C ++ [⟨4, foldMax [v, 0], 0, 0, 0⟩] } (by simp only [List.length_cons]; omega) (hf_push (i := 0) (fun i h1 h2 => by omega) (by rw [hC]; rfl)) (by simp [hC]) hN
        simp only [hC, List.length_nil]
        simp only [st1L, hC] at nx
        exact nx
      · refine br_of (fun _ => br_of (fun _ => ret_b (by rw [e]; rfl)) (fun q => by cases q)) (fun q => absurd e (by simp at q; omega))
  obtain ⟨k, s, n, l⟩ := t
  refine AC.vc hP sh lv6 (Nat.le_refl _) (by simp) (by simp) (Eq.mpr (v6 cells (IR lv) k s n (FTs l) ..) ?_)
  refine ⟨_, c_works20, br_of (fun h => by cases h) (fun _ => ⟨_, t1, _, t3, br_of (fun _ => ret_b rfl) (fun g1 => br_of (fun _ => ret_b rfl) (fun g3 => ⟨rfl, br_of (fun _ => ret_b rfl) (fun g8 => br_of (fun _ => ret_b rfl) (fun _ => ⟨_, c_hnew cells 0, ?_⟩))⟩))⟩)⟩
  exact key g1 (by simpa using g3) (by have := of_decide_eq_false g8; rw [hlen] at this; omega) _ rfl rfl

end Go.AM

namespace Go.AM
open Go.ChangeShapes Go.WideShapes Go.ChangeAt Go.RowKit

section
variable {H : Type} {enc : TypeId × Value → H} {P : Program} {w : World}

/-- Nothing is shut out. -/
abbrev none1 : Nat → Prop := fun _ => False
/-- Whatever reads (with so much fuel) at type t is some F a, of size at most that of what was read. -/
def RdN (enc : TypeId × Value → H) (P : Program) (w : World) (b : DataW H → Nat) (fuel : Nat) (t : TypeId) {α : Type} (F : α → List FV) (sz : α → Nat) : Prop :=
  ∀ cs x, DataW.trod enc P w 0 (fun _ => true) true fuel t cs = some x → ∃ a, LRep (FRep w none1) (F a) cs ∧ sz a ≤ b x.1

theorem rd_int {b : DataW H → Nat} {t : TypeId} {k : IntKind} (ht : P.underlying t = some (.int k)) (hb : ∀ d, 1 ≤ b d) (fuel : Nat) : RdN enc P w b fuel t (fun n : Int => [.int k n]) (fun _ => 1) := by
  intro cs x h
  obtain ⟨n, rfl, rfl, _⟩ := DataW.trod_int ht h
  exact ⟨n, .cons (.int k n) .nil, hb _⟩
/-- A number within its kind. -/
def Num (k : IntKind) := { n : Int // (Lit.int k n).wf = true }
theorem rd_num {b : DataW H → Nat} {t : TypeId} {k : IntKind} (ht : P.underlying t = some (.int k)) (hb : ∀ d, 1 ≤ b d) (fuel : Nat) : RdN enc P w b fuel t (fun n : Num k => [.int k n.1]) (fun _ => 1) := by
  intro cs x h
  obtain ⟨n, rfl, rfl, hw⟩ := DataW.trod_int ht h
  exact ⟨⟨n, hw⟩, .cons (.int k n) .nil, hb _⟩
theorem rd_bool {b : DataW H → Nat} {t : TypeId} (ht : P.underlying t = some .bool) (hb : ∀ d, 1 ≤ b d) (fuel : Nat) : RdN enc P w b fuel t (fun n : Bool => [.bool n]) (fun _ => 1) := by
  intro cs x h
  obtain ⟨n, rfl, rfl⟩ := DataW.trod_bool ht h
  exact ⟨n, .cons (.bool n) .nil, hb _⟩
theorem rd_str {b : DataW H → Nat} {t : TypeId} (ht : P.underlying t = some .string) (hb : ∀ l : List UInt8, l.length + 1 ≤ b (.lit (.string l))) (fuel : Nat) : RdN enc P w b fuel t (fun l : List UInt8 => [.str l]) (fun l => l.length + 1) := by
  intro cs x h
  obtain ⟨s, rfl, rfl, _⟩ := DataW.trod_string ht h
  refine ⟨s.data.toList, .cons ?_ .nil, hb _⟩
  have : (⟨s.data.toList.toArray⟩ : ByteArray) = s := by simp
  have h2 := FRep.str (w := w) (X := none1) s.data.toList
  rw [this] at h2
  exact h2

def sumBy {α : Type} (sz : α → Nat) : List α → Nat
  | [] => 0
  | a :: l => sz a + sumBy sz l
theorem sumBy_mem {α : Type} {sz : α → Nat} : ∀ {l : List α} {a : α}, a ∈ l → sz a ≤ sumBy sz l
  | x :: l, a, h => by
    rcases List.mem_cons.1 h with rfl | h
    · simp [sumBy]
    · have := sumBy_mem (sz := sz) h; simp only [sumBy]; omega
theorem sumBy_length {α : Type} {sz : α → Nat} (h : ∀ a, 1 ≤ sz a) : ∀ l : List α, l.length ≤ sumBy sz l
  | [] => Nat.le_refl _
  | a :: l => by have := sumBy_length h l; have := h a; simp only [sumBy, List.length_cons]; omega

theorem choose_list {α β : Type} {R : α → β → Prop} : ∀ {l : List β}, (∀ (i : Nat) (y : β), l[i]? = some y → ∃ x, R x y) → ∃ xs : List α, xs.length = l.length ∧ ∀ (i : Nat) (x : α) (y : β), xs[i]? = some x → l[i]? = some y → R x y
  | [], _ => ⟨[], rfl, fun i x y h => by simp at h⟩
  | y :: l, h => by
    obtain ⟨x, hx⟩ := h 0 y rfl
    obtain ⟨xs, h1, h2⟩ := choose_list (l := l) fun i y' hy => h (i + 1) y' (by simpa using hy)
    refine ⟨x :: xs, by simp [h1], fun i x' y' hx' hy' => ?_⟩
    cases i with
    | zero => simp at hx' hy'; subst hx'; subst hy'; exact hx
    | succ i => exact h2 i x' y' (by simpa using hx') (by simpa using hy')

theorem sum_le {α : Type} {sz : α → Nat} {b : DataW H → Nat} {bs : List (DataW H) → Nat} (hbs : ∀ d l, bs (d :: l) = b d + bs l) : ∀ {xs : List α} {es : List (DataW H × List MemPlace)}, xs.length = es.length → (∀ (i : Nat) (x : α) (y : DataW H × List MemPlace), xs[i]? = some x → es[i]? = some y → sz x ≤ b y.1) → sumBy sz xs ≤ bs (es.map (·.1))
  | [], _, _, _ => by simp [sumBy]
  | x :: xs, [], h, _ => by simp at h
  | x :: xs, e :: es, h, hr => by
    have h1 := hr 0 x e rfl rfl
    have h2 := sum_le (sz := sz) hbs (xs := xs) (es := es) (by simpa using h) fun i x y hx hy => hr (i + 1) x y (by simpa using hx) (by simpa using hy)
    simp only [sumBy, List.map_cons, hbs]
    omega

theorem cells_get {a : Addr} {n : Nat} {cs : List Value} (h : w.cells? 0 a n = some cs) : cs.length = n ∧ ∀ j u, cs[j]? = some u → w.cell? (a.add j) = some u := by
  unfold World.cells? at h
  rw [if_pos (Nat.zero_le _)] at h
  refine ⟨by have := mapM_some_length h; simpa using this, fun j u hu => ?_⟩
  have hj : j < n := by
    have h1 := (List.getElem?_eq_some_iff.1 hu).1
    have := mapM_some_length h; simp at this; omega
  have := mapM_some_get h j j (by simp [hj])
  rw [this, hu]

theorem cell_lt {b off : Nat} {u : Value} (h : w.cell? ⟨b, off, none⟩ = some u) : b < w.heap.size := by
  apply Decidable.byContradiction
  intro hn
  have : w.heap[b]? = none := by simp; omega
  simp [World.cell?, this] at h

theorem cell_spot {a : Addr} {u : Value} (h : w.cell? a = some u) : a.spot = none := by
  unfold World.cell? at h
  split at h
  · split at h
    · cases h
    · rename_i hs; simpa using hs
  · cases h
theorem cell_blk {a : Addr} {u : Value} (h : w.cell? a = some u) : a.block < w.heap.size := by
  apply Decidable.byContradiction
  intro hn
  have : w.heap[a.block]? = none := by simp; omega
  simp [World.cell?, this] at h

theorem add_zero (a : Addr) : a.add 0 = a := rfl
theorem add_none (b o k : Nat) : (Addr.mk b o none).add k = ⟨b, o + k, none⟩ := by
  unfold Addr.add
  split
  · rename_i h; rw [h]; rfl
  · rfl
/-- Slices. -/
theorem rd_slice {b : DataW H → Nat} {bs : List (DataW H) → Nat} (hbs : ∀ d l, bs (d :: l) = b d + bs l) (hb0 : ∀ d, 1 ≤ b d) (hb : ∀ es sp, bs es + 1 ≤ b (.slice es sp)) {t e : TypeId} (ht : P.underlying t = some (.slice e)) {n : Nat} (hn : P.cellsOf e = n) (hn0 : 0 < n)
    {α : Type} {F : α → List FV} {sz : α → Nat} (hF : ∀ a, (F a).length = n) {fuel : Nat} (ih : ∀ k, k < fuel → RdN enc P w b k e F sz) : RdN enc P w b fuel t (fun l : List α => [.sl false n (l.map F)]) (fun l => sumBy sz l + 1) := by
  intro cs x h
  rcases DataW.trod_slice ht h with ⟨rfl, rfl⟩ | ⟨a, len, cap, elems, rest, k, rfl, rfl, rfl, _, hlc, _, hlen, hel, hrest, _⟩
  · exact ⟨[], .cons (.slnil n) .nil, by simpa [sumBy] using hb0 _⟩
  · rw [hn] at hel
    have key : ∀ (i : Nat) (y : DataW H × List MemPlace), elems[i]? = some y → ∃ x : α, (∃ cs, w.cells? 0 (a.add (i * n)) n = some cs ∧ LRep (FRep w none1) (F x) cs) ∧ sz x ≤ b y.1 := by
      intro i y hy
      have hi : i < len := by rw [← hlen]; exact (List.getElem?_eq_some_iff.1 hy).1
      have h1 := hel i hi
      rw [hy] at h1
      obtain ⟨cs, h2, h3⟩ := Option.bind_eq_some_iff.1 h1
      obtain ⟨x, h4, h5⟩ := ih k (Nat.lt_succ_self _) cs y h3
      exact ⟨x, ⟨cs, h2, h4⟩, h5⟩
    -- the element at i, with its place
    have key2 : ∃ xs : List α, xs.length = elems.length ∧ ∀ (i : Nat) (x : α), xs[i]? = some x → (∃ cs, w.cells? 0 (a.add (i * n)) n = some cs ∧ LRep (FRep w none1) (F x) cs) ∧ ∀ y, elems[i]? = some y → sz x ≤ b y.1 := by
      have : ∀ (l : List (DataW H × List MemPlace)) (o : Nat), (∀ i, l[i]? = elems[o + i]?) → ∃ xs : List α, xs.length = l.length ∧ ∀ (i : Nat) (x : α), xs[i]? = some x → (∃ cs, w.cells? 0 (a.add ((o + i) * n)) n = some cs ∧ LRep (FRep w none1) (F x) cs) ∧ ∀ y, l[i]? = some y → sz x ≤ b y.1 := by
        intro l
        induction l with
        | nil => exact fun o _ => ⟨[], rfl, fun i x h => by simp at h⟩
        | cons y l ih =>
          intro o ho
          obtain ⟨x, hx1, hx2⟩ := key o y (by have := ho 0; simpa using this.symm)
          obtain ⟨xs, h1, h2⟩ := ih (o + 1) (fun i => by have := ho (i + 1); rw [show o + 1 + i = o + (i + 1) by omega]; simpa using this)
          refine ⟨x :: xs, by simp [h1], fun i x' hx' => ?_⟩
          cases i with
          | zero => simp at hx'; subst hx'; exact ⟨by simpa using hx1, fun y' hy' => by simp at hy'; subst hy'; exact hx2⟩
          | succ i =>
            have := h2 i x' (by simpa using hx')
            rw [show o + 1 + i = o + (i + 1) by omega] at this
            exact ⟨this.1, fun y' hy' => this.2 y' (by simpa using hy')⟩
      obtain ⟨xs, h1, h2⟩ := this elems 0 (fun i => by simp)
      exact ⟨xs, h1, fun i x hx => by simpa using h2 i x hx⟩
    obtain ⟨xs, hxl, hx⟩ := key2
    have hsum := sum_le (sz := sz) (b := b) hbs hxl (fun i x y h1 h2 => (hx i x h1).2 y h2)
    have hb' := hb (elems.map (·.1)) (rest.map (·.1))
    refine ⟨xs, ?_, show sumBy sz xs + 1 ≤ b (.slice (elems.map (·.1)) (rest.map (·.1))) by omega⟩
    by_cases hc0 : cap = 0
    · have h0 : len = 0 := by omega
      subst hc0; subst h0
      have : xs = [] := List.length_eq_zero_iff.1 (by omega)
      subst this
      exact .cons (.sl0 false n a) .nil
    · have hone : ∃ cs, w.cells? 0 a n = some cs := by
        by_cases h0 : len = 0
        · have hr := (hrest rfl).2 0 (by omega)
          have hr' : rest[0]? ≠ none := by
            rw [List.getElem?_eq_getElem (by rw [(hrest rfl).1]; omega)]; simp
          rw [hn] at hr
          rw [h0, show (0 + 0) * n = 0 by simp, add_zero] at hr
          cases hcl : w.cells? 0 a n with
          | none => rw [hcl] at hr; exact absurd hr.symm hr'
          | some cs => exact ⟨cs, rfl⟩
        · have : 0 < xs.length := by omega
          obtain ⟨⟨cs, h1, _⟩, _⟩ := hx 0 xs[0] (by simp [this])
          rw [show 0 * n = 0 by simp, add_zero] at h1
          exact ⟨cs, h1⟩
      obtain ⟨cs0, hq⟩ := hone
      obtain ⟨hl0, hq'⟩ := cells_get hq
      have hq0 := hq' 0 (cs0[0]'(by omega)) (by simp)
      rw [add_zero] at hq0
      have hsp : a.spot = none := cell_spot hq0
      have hbl : a.block < w.heap.size := cell_blk hq0
      obtain ⟨blk, off, sp⟩ := a
      have hsp : sp = none := hsp
      subst hsp
      refine .cons (.sl false n (xs.map F) blk off cap len (fun i j => (w.cell? ⟨blk, off + i * n + j, none⟩).getD (.bool false)) (by rw [List.length_map]; omega) (by rw [List.length_map]; omega) (fun h => h) hbl (fun i e he => ?_) (fun i j e f he hf => ?_) (fun i j e f he hf => ?_)) .nil
      · rw [List.getElem?_map] at he
        obtain ⟨x, _, rfl⟩ := Option.map_eq_some_iff.1 he
        exact hF x
      all_goals
        rw [List.getElem?_map] at he
        obtain ⟨x, hxi, rfl⟩ := Option.map_eq_some_iff.1 he
        obtain ⟨⟨cs, h1, h2⟩, _⟩ := hx i x hxi
        obtain ⟨h3, h4⟩ := cells_get h1
        have hj : j < cs.length := by rw [← h2.1]; exact (List.getElem?_eq_some_iff.1 hf).1
        have h5 := h4 j cs[j] (by simp)
        rw [add_none, add_none] at h5
      · rw [h5]; rfl
      · rw [h5]
        exact h2.2 j f cs[j] hf (by simp)

/-- Terms. -/
theorem FT_sum : ∀ l : List Tm, Tm.bks l = sumBy Tm.bk l
  | [] => rfl
  | t :: l => by rw [Tm.bks, sumBy, FT_sum l]
/-- How a term lies. -/
structure TmTy (P : Program) (T : TypeId) (f0 f1 f2 f3 : Field) : Prop where
  str : P.underlying T = some (.struct #[f0, f1, f2, f3])
  u0 : P.underlying f0.type = some (.int .i64)
  u1 : P.underlying f1.type = some .string
  u2 : P.underlying f2.type = some (.int .i64)
  u3 : P.underlying f3.type = some (.slice T)
  o0 : f0.offset = 0
  o1 : f1.offset = 1
  o2 : f2.offset = 2
  o3 : f3.offset = 3
  c0 : P.cellsOf f0.type = 1
  c1 : P.cellsOf f1.type = 1
  c2 : P.cellsOf f2.type = 1
  c3 : P.cellsOf f3.type = 1
  cT : P.cellsOf T = 4
/-- How much a reading holds. -/
structure Bulk (b : DataW H → Nat) (bs : List (DataW H) → Nat) : Prop where
  nil : bs [] = 0
  cons : ∀ d l, bs (d :: l) = b d + bs l
  one : ∀ d, 1 ≤ b d
  slice : ∀ es sp, bs es + 1 ≤ b (.slice es sp)
  str : ∀ l : List UInt8, l.length + 1 ≤ b (.lit (.string l))
  agg : ∀ l, bs l + 1 ≤ b (.agg l)
theorem LRep.one {α : Type} {R : α → Value → Prop} {c : α} {u : Value} (h : LRep R [c] [u]) : R c u := h.2 0 c u rfl rfl
theorem rd_term {b : DataW H → Nat} {bs : List (DataW H) → Nat} (hb : Bulk b bs) {T : TypeId} {f0 f1 f2 f3 : Field} (hT : TmTy P T f0 f1 f2 f3) : ∀ fuel, RdN enc P w b fuel T FT Tm.bk := by
  intro fuel
  induction fuel using Nat.strongRecOn with
  | _ fuel ih =>
    intro cs x h
    obtain ⟨xs, n, rfl, rfl, hl, hxl, hf⟩ := DataW.trod_struct hT.str h
    rw [hT.cT] at hl
    match cs, hl with
    | [v0, v1, v2, v3], _ =>
    match xs, hxl with
    | [x0, x1, x2, x3], _ =>
    have g0 := hf 0 f0 rfl
    have g1 := hf 1 f1 rfl
    have g2 := hf 2 f2 rfl
    have g3 := hf 3 f3 rfl
    rw [hT.o0, hT.c0] at g0
    rw [hT.o1, hT.c1] at g1
    rw [hT.o2, hT.c2] at g2
    rw [hT.o3, hT.c3] at g3
    obtain ⟨k, r0, _⟩ := rd_int (b := b) hT.u0 hb.one n _ _ g0
    obtain ⟨s, r1, z1⟩ := rd_str (b := b) hT.u1 hb.str n _ _ g1
    have z1 : s.length + 1 ≤ b x1.1 := z1
    obtain ⟨m, r2, _⟩ := rd_int (b := b) hT.u2 hb.one n _ _ g2
    obtain ⟨l, r3, z3⟩ := rd_slice (F := FT) (sz := Tm.bk) hb.cons hb.one hb.slice hT.u3 hT.cT (by omega) FT_length (fun k hk => ih k (by omega)) _ _ g3
    have z3 : sumBy Tm.bk l + 1 ≤ b x3.1 := z3
    refine ⟨.mk k s m l, ?_, ?_⟩
    · rw [FT, FTs_map]
      exact .cons (LRep.one r0) (.cons (LRep.one r1) (.cons (LRep.one r2) (.cons (LRep.one r3) .nil)))
    · have := hb.one x0.1
      simp only [Tm.bk, FT_sum]
      show _ ≤ b (.agg [x0.1, x1.1, x2.1, x3.1])
      have h9 := hb.agg [x0.1, x1.1, x2.1, x3.1]
      simp only [hb.cons, hb.nil] at h9
      omega

/-! ### Arguments -/
theorem none_own {Y : Nat → Prop} (hY : ∀ b, ¬ Y b) {Hs : List AObj} : (fun b => Y b ∨ Own (fun o => Hs.getD o .gone) (fun _ => none) b) = none1 := by
  funext b
  refine propext ⟨fun h => ?_, fun h => h.elim⟩
  rcases h with h | ⟨o, _, h⟩
  · exact (hY b h).elim
  · cases h
abbrev β0 : Nat → Option Nat := fun _ => none
theorem open_term {b : DataW H → Nat} {bs : List (DataW H) → Nat} (hb : Bulk b bs) {T : TypeId} {f0 f1 f2 f3 : Field} (hT : TmTy P T f0 f1 f2 f3) {r : Reach} {base : Nat} {v : Value} {d : DataW H} {ps : List MemPlace}
    (hv : Value.okWide P w r base T v) (hd : DataW.Trod enc P w 0 (fun _ => true) true T v d ps) : ∃ t : Tm, TRep w none1 β0 (aT t) v ∧ t.bk ≤ b d := by
  obtain ⟨cs, rfl, _⟩ := okWide_struct hT.str hv
  obtain ⟨fuel, hf⟩ := hd
  obtain ⟨t, h1, h2⟩ := rd_term hb hT fuel _ _ hf
  refine ⟨t, ⟨cs.toList, by simp, ?_⟩, h2⟩
  rw [FT_eta] at h1
  have h1 : LRep (FRep w none1) [.int .i64 t.k, .str t.s, .int .i64 t.n, .sl false 4 (FTs t.l)] cs.toList := h1
  exact h1.map (g := fun x => WV.a (.fz x)) fun c u _ h => .a _ _ (.fz _ _ h)
theorem open_terms {b : DataW H → Nat} {bs : List (DataW H) → Nat} (hb : Bulk b bs) {T S : TypeId} {f0 f1 f2 f3 : Field} (hT : TmTy P T f0 f1 f2 f3) (hS : P.underlying S = some (.slice T)) {r : Reach} {base : Nat} {v : Value} {d : DataW H} {ps : List MemPlace}
    (hv : Value.okWide P w r base S v) (hd : DataW.Trod enc P w 0 (fun _ => true) true S v d ps) : ∃ l : List Tm, TRep w none1 β0 (aL l) v ∧ Tm.bks l + 1 ≤ b d := by
  obtain ⟨a, len, cap, rfl⟩ := okWide_slice hS hv
  obtain ⟨fuel, hf⟩ := hd
  obtain ⟨l, h1, h2⟩ := rd_slice (F := FT) (sz := Tm.bk) hb.cons hb.one hb.slice hS hT.cT (by omega) FT_length (fun k _ => rd_term hb hT k) _ _ hf
  have h2 : sumBy Tm.bk l + 1 ≤ b d := h2
  rw [← FT_sum] at h2
  have h1 : LRep (FRep w none1) [.sl false 4 (l.map FT)] [_] := h1
  rw [← FTs_map] at h1
  exact ⟨l, .a _ _ (.fz _ _ h1.one), h2⟩
theorem open_num {t : TypeId} {k : IntKind} (ht : P.underlying t = some (.int k)) {r : Reach} {base : Nat} {v : Value} {d : DataW H} {ps : List MemPlace}
    (hv : Value.okWide P w r base t v) (hd : DataW.Trod enc P w 0 (fun _ => true) true t v d ps) : ∃ n : Int, TRep w none1 β0 (.c (.a (.fz (.int k n)))) v ∧ (Lit.int k n).wf = true := by
  obtain ⟨n, rfl, _, _, hw⟩ := open_int ht hv hd
  exact ⟨n, .a _ _ (.fz _ _ (.int k n)), hw⟩
theorem open_str {t : TypeId} (ht : P.underlying t = some .string) {b : DataW H → Nat} {bs : List (DataW H) → Nat} (hb : Bulk b bs) {r : Reach} {base : Nat} {v : Value} {d : DataW H} {ps : List MemPlace}
    (hv : Value.okWide P w r base t v) (hd : DataW.Trod enc P w 0 (fun _ => true) true t v d ps) : ∃ s : List UInt8, TRep w none1 β0 (cs s) v ∧ s.length + 1 ≤ b d := by
  obtain ⟨s, rfl⟩ := okWide_string ht hv
  obtain ⟨fuel, hf⟩ := hd
  obtain ⟨l, h1, h2⟩ := rd_str (b := b) ht hb.str fuel _ _ hf
  exact ⟨l, .a _ _ (.fz _ _ h1.one), h2⟩

/-! ### The end -/
theorem kept_good {w' : World} {foot : Nat → Prop} (g : Good w foot w') (hf : ∀ b, ¬ foot b) (may : MemPlace → Prop) : w.keptBut w' may := by
  refine ⟨g.os, g.output, fun i hi => ?_⟩
  rw [g.blk i hi (hf i)]
  exact (World.keptBut_refl w may).2.2 i hi
theorem same_good {w' : World} {foot : Nat → Prop} (g : Good w foot w') (hf : ∀ b, ¬ foot b) {p : MemPlace} (hp : p.block < w.heap.size) : w.sameAt w' p := by
  cases p with
  | cell b o => exact World.cell?_of_block (a := ⟨b, o, none⟩) (g.blk b hp (hf b))
  | map b => exact g.blk b hp (hf b)
theorem trodAll_stays (hl : laidOutB P = true) {w' : World} {sp : Nat → Bool} : ∀ {ts : List TypeId} {vs : List Value} {ds : List (DataW H)} {p : List MemPlace}, DataW.TrodAll enc P w 0 (fun _ => true) true ts vs ds p →
    (∀ t ∈ ts, P.readableRec t = true ∧ t < P.types.size) → (∀ x ∈ p, w.sameAt w' x) → (∀ x ∈ p, sp x.block = true) → DataW.TrodAll enc P w' 0 sp true ts vs ds p
  | [], _, _, _, h, _, _, _ => by
    obtain ⟨rfl, rfl, rfl⟩ := trodAll_nil h
    exact trodAll_mk0
  | t :: ts, _, _, _, h, ht, hs, hsp => by
    obtain ⟨v, vs', d, ds', p, q, rfl, rfl, rfl, ⟨n, h1⟩, h2⟩ := trodAll_cons h
    have hr := (ht t List.mem_cons_self).1
    exact ⟨p, q, ⟨n, DataW.trod_stays (kids_book hl hr) (book_sized hr) (fun h => by cases h) ⟨(ht t List.mem_cons_self).2, book_self t⟩ h1 (fun x hx => hs x (List.mem_append_left _ hx)) (fun x hx => hsp x (List.mem_append_left _ hx))⟩,
      trodAll_stays hl h2 (fun u hu => ht u (List.mem_cons_of_mem _ hu)) (fun x hx => hs x (List.mem_append_right _ hx)) (fun x hx => hsp x (List.mem_append_right _ hx)), rfl⟩
/-- A law's end: it returns true, and what was read reads as before. -/
theorem post_good (hl : laidOutB P = true) {f : Func} {s : ChangeSpec} {apart fresh handsOn again : Bool} {w' : World} {args : Array Value} {ds gs : List (DataW H)} {before : List MemPlace} {foot : Nat → Prop} {tb : TypeId}
    (hW : DataW.Whole enc P f.params.toList s.vars apart w args.toList ds gs before) (hv : s.vars = []) (hs : ∀ ds' : List (DataW H), ds'.length = ds.length → s.fn H ds' = { results := [.lit (.bool true)], args := ds' })
    (ht : ∀ t ∈ f.params.toList, P.readableRec t = true ∧ t < P.types.size) (hr : f.resultTypes = #[tb]) (hb : P.underlying tb = some .bool) (g : Good w foot w') (hf : ∀ b, ¬ foot b) :
    s.post enc P f apart fresh handsOn again w args (.bool true) w' := by
  have hlt := hW.lt
  obtain ⟨p, q, h1, h2, he, hz, hn⟩ := hW
  rw [hv] at h2
  obtain ⟨rfl, rfl⟩ := trodVars_none h2
  rw [List.append_nil] at he
  subst he
  have hold : ∀ x ∈ before, (fun b => decide (b < w.heap.size)) x.block = true := fun x hx => by simpa using hlt x hx
  have hfn := hs (ds ++ []) (by simp)
  have hargs : ∀ sp : Nat → Bool, (∀ x ∈ before, sp x.block = true) → DataW.TrodAll enc P w' 0 sp true f.params.toList args.toList (s.fn H (ds ++ [])).args before := fun sp hsp => by
    rw [hfn, List.append_nil]
    exact trodAll_stays hl h1 ht (fun x hx => same_good g hf (hlt x hx)) hsp
  have hres : ∀ (b : Nat) (sp : Nat → Bool) (hd : Bool), DataW.TrodAll enc P w' b sp hd f.resultTypes.toList ((Value.bool true).resultList f.resultTypes.size) (s.fn H (ds ++ [])).results [] := fun b sp hd => by
    rw [hfn, hr]
    exact trodAll_mk1 ⟨1, by simp [DataW.trod, Value.cells, hb]⟩
  have hvars : ∀ sp : Nat → Bool, DataW.TrodVars enc P w' sp s.vars (s.fn H (ds ++ [])).vars [] := fun sp => by
    rw [hfn, hv]
    rfl
  refine ⟨ds, [], before, [], before, [], ⟨before, [], h1, by rw [hv]; rfl, by simp, hz, hn⟩, hres _ _ _, hargs _ hold, hvars _, World.keptBut_mono (fun x hx => ⟨hx, ?_⟩) (kept_good g hf (· ∈ before)), fun _ => ?_⟩
  · simpa using hx
  · refine ⟨ok_one hr rfl (okWide_bool_mk hb _), _, _, ([] ++ before) ++ [], ⟨[] ++ before, [], trodAll_append (hargs _ (fun _ _ => rfl)) (hres _ _ _), hvars _, rfl, ?_, ?_⟩, ?_⟩
    · intro b off hp
      have hp : MemPlace.cell b off ∈ before := by simpa using hp
      have hb := hlt _ hp
      have : w'.frozen? ⟨b, off, none⟩ = w.frozen? ⟨b, off, none⟩ := by
        unfold World.frozen?
        rw [g.blk b hb (hf b)]
      rw [this]
      exact hz b off hp
    · intro ha
      simpa using hn ha
    · intro x hx _
      simpa using hx
/-- A contract that a law's function answers: true. -/
theorem law_true {f : FuncId} {args : List TV} (hgl : Gl P w none1) (h : AC P f args [] (cb true) []) {vals : List Value} (hv : LRep (TRep w none1 β0) args vals) :
    Calls P f vals.toArray w fun e w' => e = .returned (.bool true) ∧ ∃ foot, (∀ b, ¬ foot b) ∧ Good w foot w' := by
  have hX : (fun b => (fun _ : Nat => False) b ∨ Own (fun o => ([] : List AObj).getD o .gone) β0 b) = none1 := none_own (fun _ h => h)
  refine (h.2.2 w vals β0 (fun _ => False) (fun o b h => by cases h) (fun b h => h.elim) (hgl.sub fun b ⟨o, h5, _⟩ => by simp [isLive] at h5) ⟨fun o b h _ => by simp [isLive] at h, fun o h => by simp [isLive] at h, fun o o' b h => by simp [isLive] at h, fun o b h => by cases h⟩ (by rw [hX]; exact hv)).mono fun e w' ⟨v, β', h1, h2, h3, h4, _⟩ => ?_
  subst h1
  cases h4 with
  | a _ _ h4 =>
    cases h4 with
    | fz _ _ h4 =>
      cases h4
      exact ⟨rfl, _, fun b ⟨o, h5, _⟩ => by simp [isLive] at h5, h2⟩
end
end Go.AM

namespace Go.AM
open Go.ChangeShapes Go.WideShapes Go.ChangeAt Go.RowKit

section
variable {H : Type} {enc : TypeId × Value → H} {P : Program} {w : World}
theorem wf_range {n : Int} (h : (Lit.int .i64 n).wf = true) : -9223372036854775808 ≤ n ∧ n ≤ 9223372036854775807 := by
  simp only [Lit.wf, IntKind.min, IntKind.max, IntKind.signed, IntKind.bits, Bool.and_eq_true, decide_eq_true_eq, if_true] at h; omega
abbrev TmI := { t : Tm // okI t }
theorem sumBy_val : ∀ l : List TmI, Tm.bks (l.map (·.1)) = sumBy (fun t : TmI => t.1.bk) l
  | [] => rfl
  | t :: l => by rw [List.map_cons, Tm.bks, sumBy, sumBy_val l]
theorem okIs_val (l : List TmI) : okIs (l.map (·.1)) := okIs_of fun t ht => by
  obtain ⟨u, _, rfl⟩ := List.mem_map.1 ht
  exact u.2
theorem rd_termI {b : DataW H → Nat} {bs : List (DataW H) → Nat} (hb : Bulk b bs) {T : TypeId} {f0 f1 f2 f3 : Field} (hT : TmTy P T f0 f1 f2 f3) : ∀ fuel, RdN enc P w b fuel T (fun t : TmI => FT t.1) (fun t => t.1.bk) := by
  intro fuel
  induction fuel using Nat.strongRecOn with
  | _ fuel ih =>
    intro cs x h
    obtain ⟨xs, n, rfl, rfl, hl, hxl, hf⟩ := DataW.trod_struct hT.str h
    rw [hT.cT] at hl
    match cs, hl with
    | [v0, v1, v2, v3], _ =>
    match xs, hxl with
    | [x0, x1, x2, x3], _ =>
    have g0 := hf 0 f0 rfl
    have g1 := hf 1 f1 rfl
    have g2 := hf 2 f2 rfl
    have g3 := hf 3 f3 rfl
    rw [hT.o0, hT.c0] at g0
    rw [hT.o1, hT.c1] at g1
    rw [hT.o2, hT.c2] at g2
    rw [hT.o3, hT.c3] at g3
    obtain ⟨k, r0, _⟩ := rd_int (b := b) hT.u0 hb.one n _ _ g0
    obtain ⟨s, r1, z1⟩ := rd_str (b := b) hT.u1 hb.str n _ _ g1
    have z1 : s.length + 1 ≤ b x1.1 := z1
    obtain ⟨m, r2, _⟩ := rd_num (b := b) hT.u2 hb.one n _ _ g2
    obtain ⟨l, r3, z3⟩ := rd_slice (F := fun t : TmI => FT t.1) (sz := fun t : TmI => t.1.bk) hb.cons hb.one hb.slice hT.u3 hT.cT (by omega) (fun t => FT_length t.1) (fun k hk => ih k (by omega)) _ _ g3
    have z3 : sumBy (fun t : TmI => t.1.bk) l + 1 ≤ b x3.1 := z3
    refine ⟨⟨.mk k s m.1 (l.map (·.1)), wf_range m.2, okIs_val l⟩, ?_, ?_⟩
    · have e : FTs (l.map (·.1)) = l.map fun t : TmI => FT t.1 := by rw [FTs_map, List.map_map]; rfl
      show LRep (FRep w none1) (FT (.mk k s m.1 (l.map (·.1)))) _
      rw [FT, e]
      exact .cons (LRep.one r0) (.cons (LRep.one r1) (.cons (LRep.one r2) (.cons (LRep.one r3) .nil)))
    · have := hb.one x0.1
      show Tm.bk (.mk k s m.1 (l.map (·.1))) ≤ b (.agg [x0.1, x1.1, x2.1, x3.1])
      simp only [Tm.bk, sumBy_val]
      have h9 := hb.agg [x0.1, x1.1, x2.1, x3.1]
      simp only [hb.cons, hb.nil] at h9
      omega
theorem open_termI {b : DataW H → Nat} {bs : List (DataW H) → Nat} (hb : Bulk b bs) {T : TypeId} {f0 f1 f2 f3 : Field} (hT : TmTy P T f0 f1 f2 f3) {r : Reach} {base : Nat} {v : Value} {d : DataW H} {ps : List MemPlace}
    (hv : Value.okWide P w r base T v) (hd : DataW.Trod enc P w 0 (fun _ => true) true T v d ps) : ∃ t : Tm, TRep w none1 β0 (aT t) v ∧ t.bk ≤ b d ∧ okI t := by
  obtain ⟨cs, rfl, _⟩ := okWide_struct hT.str hv
  obtain ⟨fuel, hf⟩ := hd
  obtain ⟨t, h1, h2⟩ := rd_termI hb hT fuel _ _ hf
  refine ⟨t.1, ⟨cs.toList, by simp, ?_⟩, h2, t.2⟩
  have h1 : LRep (FRep w none1) (FT t.1) cs.toList := h1
  rw [FT_eta] at h1
  exact h1.map (g := fun x => WV.a (.fz x)) fun c u _ h => .a _ _ (.fz _ _ h)
end
end Go.AM

namespace Go.AM
open Go.ChangeShapes Go.WideShapes Go.ChangeAt Go.RowKit

section
variable {H : Type} {enc : TypeId × Value → H} {P : Program} {w : World}
/-- A row of structs, from what one is. -/
theorem open_rows {b : DataW H → Nat} {bs : List (DataW H) → Nat} (hb : Bulk b bs) {T S : TypeId} {n : Nat} {α : Type} {F : α → List FV} {sz : α → Nat} (hF : ∀ a, (F a).length = n) (hn : P.cellsOf T = n) (hn0 : 0 < n) (hz : ∀ a, 1 ≤ sz a)
    (h1 : ∀ k, RdN enc P w b k T F sz) (hS : P.underlying S = some (.slice T)) {r : Reach} {base : Nat} {v : Value} {d : DataW H} {ps : List MemPlace}
    (hv : Value.okWide P w r base S v) (hd : DataW.Trod enc P w 0 (fun _ => true) true S v d ps) : ∃ l : List α, TRep w none1 β0 (.c (.a (.fz (.sl false n (l.map F))))) v ∧ sumBy sz l + 1 ≤ b d := by
  obtain ⟨a, len, cap, rfl⟩ := okWide_slice hS hv
  obtain ⟨fuel, hf⟩ := hd
  obtain ⟨l, h1, h2⟩ := rd_slice hb.cons hb.one hb.slice hS hn hn0 hF (fun k _ => h1 k) _ _ hf
  have h1 : LRep (FRep w none1) [.sl false n (l.map F)] [_] := h1
  exact ⟨l, .a _ _ (.fz _ _ h1.one), h2⟩
/-- A truth value and a term. -/
abbrev FBT (v : Bool × TmI) : List FV := .bool v.1 :: FT v.2.1
structure BTTy (P : Program) (T Tt : TypeId) (f0 f1 : Field) : Prop where
  str : P.underlying T = some (.struct #[f0, f1])
  u0 : P.underlying f0.type = some .bool
  t1 : f1.type = Tt
  o0 : f0.offset = 0
  o1 : f1.offset = 1
  c0 : P.cellsOf f0.type = 1
  cT : P.cellsOf T = 5
theorem rd_bt {b : DataW H → Nat} {bs : List (DataW H) → Nat} (hb : Bulk b bs) {T Tt : TypeId} {g0 g1 g2 g3 f0 f1 : Field} (hT : TmTy P Tt g0 g1 g2 g3) (hV : BTTy P T Tt f0 f1) (fuel : Nat) :
    RdN enc P w b fuel T FBT (fun v => v.2.1.bk + 1) := by
  intro cs x h
  obtain ⟨xs, n, rfl, rfl, hl, hxl, hf⟩ := DataW.trod_struct hV.str h
  rw [hV.cT] at hl
  match cs, hl with
  | [v0, v1, v2, v3, v4], _ =>
  match xs, hxl with
  | [x0, x1], _ =>
  have q0 := hf 0 f0 rfl
  have q1 := hf 1 f1 rfl
  rw [hV.o0, hV.c0] at q0
  rw [hV.o1, hV.t1, hT.cT] at q1
  obtain ⟨p, r0, _⟩ := rd_bool (b := b) hV.u0 hb.one n _ _ q0
  obtain ⟨t, r1, z1⟩ := rd_termI hb hT n _ _ q1
  have z1 : t.1.bk ≤ b x1.1 := z1
  refine ⟨(p, t), .cons (LRep.one r0) r1, ?_⟩
  show t.1.bk + 1 ≤ b (.agg [x0.1, x1.1])
  have h9 := hb.agg [x0.1, x1.1]
  simp only [hb.cons, hb.nil] at h9
  omega
/-- A number, a truth value and a term. -/
abbrev IBT := { n : Int // -9223372036854775808 ≤ n ∧ n ≤ 9223372036854775807 } × Bool × TmI
abbrev FIBT (v : IBT) : List FV := .int .i64 v.1.1 :: .bool v.2.1 :: FT v.2.2.1
structure IBTTy (P : Program) (T Tt : TypeId) (f0 f1 f2 : Field) : Prop where
  str : P.underlying T = some (.struct #[f0, f1, f2])
  u0 : P.underlying f0.type = some (.int .i64)
  u1 : P.underlying f1.type = some .bool
  t2 : f2.type = Tt
  o0 : f0.offset = 0
  o1 : f1.offset = 1
  o2 : f2.offset = 2
  c0 : P.cellsOf f0.type = 1
  c1 : P.cellsOf f1.type = 1
  cT : P.cellsOf T = 6
theorem rd_ibt {b : DataW H → Nat} {bs : List (DataW H) → Nat} (hb : Bulk b bs) {T Tt : TypeId} {g0 g1 g2 g3 f0 f1 f2 : Field} (hT : TmTy P Tt g0 g1 g2 g3) (hV : IBTTy P T Tt f0 f1 f2) (fuel : Nat) :
    RdN enc P w b fuel T FIBT (fun v => v.2.2.1.bk + 2) := by
  intro cs x h
  obtain ⟨xs, n, rfl, rfl, hl, hxl, hf⟩ := DataW.trod_struct hV.str h
  rw [hV.cT] at hl
  match cs, hl with
  | [v0, v1, v2, v3, v4, v5], _ =>
  match xs, hxl with
  | [x0, x1, x2], _ =>
  have q0 := hf 0 f0 rfl
  have q1 := hf 1 f1 rfl
  have q2 := hf 2 f2 rfl
  rw [hV.o0, hV.c0] at q0
  rw [hV.o1, hV.c1] at q1
  rw [hV.o2, hV.t2, hT.cT] at q2
  obtain ⟨i, r0, z0⟩ := rd_num (b := b) hV.u0 hb.one n _ _ q0
  obtain ⟨p, r1, z1⟩ := rd_bool (b := b) hV.u1 hb.one n _ _ q1
  obtain ⟨t, r2, z2⟩ := rd_termI hb hT n _ _ q2
  have z2 : t.1.bk ≤ b x2.1 := z2
  have z0 : 1 ≤ b x0.1 := z0
  refine ⟨(⟨i.1, wf_range i.2⟩, p, t), .cons (LRep.one r0) (.cons (LRep.one r1) r2), ?_⟩
  show t.1.bk + 2 ≤ b (.agg [x0.1, x1.1, x2.1])
  have h9 := hb.agg [x0.1, x1.1, x2.1]
  simp only [hb.cons, hb.nil] at h9
  omega
/-- Three numbers and a term. -/
abbrev I3T := { n : Int × Int × Int // (-9223372036854775808 ≤ n.1 ∧ n.1 ≤ 9223372036854775807) ∧ (-9223372036854775808 ≤ n.2.1 ∧ n.2.1 ≤ 9223372036854775807) ∧ (-9223372036854775808 ≤ n.2.2 ∧ n.2.2 ≤ 9223372036854775807) } × TmI
abbrev FI3T (v : I3T) : List FV := .int .i64 v.1.1.1 :: .int .i64 v.1.1.2.1 :: .int .i64 v.1.1.2.2 :: FT v.2.1
structure I3TTy (P : Program) (T Tt : TypeId) (f0 f1 f2 f3 : Field) : Prop where
  str : P.underlying T = some (.struct #[f0, f1, f2, f3])
  u0 : P.underlying f0.type = some (.int .i64)
  u1 : P.underlying f1.type = some (.int .i64)
  u2 : P.underlying f2.type = some (.int .i64)
  t3 : f3.type = Tt
  o0 : f0.offset = 0
  o1 : f1.offset = 1
  o2 : f2.offset = 2
  o3 : f3.offset = 3
  c0 : P.cellsOf f0.type = 1
  c1 : P.cellsOf f1.type = 1
  c2 : P.cellsOf f2.type = 1
  cT : P.cellsOf T = 7
theorem rd_i3t {b : DataW H → Nat} {bs : List (DataW H) → Nat} (hb : Bulk b bs) {T Tt : TypeId} {g0 g1 g2 g3 f0 f1 f2 f3 : Field} (hT : TmTy P Tt g0 g1 g2 g3) (hV : I3TTy P T Tt f0 f1 f2 f3) (fuel : Nat) :
    RdN enc P w b fuel T FI3T (fun v => v.2.1.bk + 3) := by
  intro cs x h
  obtain ⟨xs, n, rfl, rfl, hl, hxl, hf⟩ := DataW.trod_struct hV.str h
  rw [hV.cT] at hl
  match cs, hl with
  | [v0, v1, v2, v3, v4, v5, v6], _ =>
  match xs, hxl with
  | [x0, x1, x2, x3], _ =>
  have q0 := hf 0 f0 rfl
  have q1 := hf 1 f1 rfl
  have q2 := hf 2 f2 rfl
  have q3 := hf 3 f3 rfl
  rw [hV.o0, hV.c0] at q0
  rw [hV.o1, hV.c1] at q1
  rw [hV.o2, hV.c2] at q2
  rw [hV.o3, hV.t3, hT.cT] at q3
  obtain ⟨i, r0, z0⟩ := rd_num (b := b) hV.u0 hb.one n _ _ q0
  obtain ⟨j, r1, z1⟩ := rd_num (b := b) hV.u1 hb.one n _ _ q1
  obtain ⟨k, r2, z2⟩ := rd_num (b := b) hV.u2 hb.one n _ _ q2
  obtain ⟨t, r3, z3⟩ := rd_termI hb hT n _ _ q3
  have z0 : 1 ≤ b x0.1 := z0
  have z1 : 1 ≤ b x1.1 := z1
  have z3 : t.1.bk ≤ b x3.1 := z3
  refine ⟨(⟨(i.1, j.1, k.1), wf_range i.2, wf_range j.2, wf_range k.2⟩, t), .cons (LRep.one r0) (.cons (LRep.one r1) (.cons (LRep.one r2) r3)), ?_⟩
  show t.1.bk + 3 ≤ b (.agg [x0.1, x1.1, x2.1, x3.1])
  have h9 := hb.agg [x0.1, x1.1, x2.1, x3.1]
  simp only [hb.cons, hb.nil] at h9
  omega
end
end Go.AM

set_option maxRecDepth 100000
open Go Go.Proofs
namespace Go.Proofs.Ytmeolnpbbhinjaa.base
open Go.ChangeShapes Go.WideShapes Go.ChangeAt Go.RowKit Go.AM

theorem one_le {H : Type} (d : DataW H) : 1 ≤ Rows.uptoBulk d := by
  cases d with
  | lit l => cases l <;> simp [Rows.uptoBulk]
  | _ => simp [Rows.uptoBulk]
theorem bulk {H : Type} : Bulk (H := H) Rows.uptoBulk Rows.uptoBulkAll :=
  ⟨rfl, fun _ _ => rfl, one_le, fun es sp => by simp only [Rows.uptoBulk]; omega, fun l => by simp [Rows.uptoBulk], fun l => by simp [Rows.uptoBulk]⟩
theorem own : ownKnob Try.prog.godebug = none := by kernel_rfl
theorem laidOut : laidOutB Try.prog = true := by kernel_rfl
theorem tmTy : ∃ f0 f1 f2 f3 : Field, TmTy Try.prog 25 f0 f1 f2 f3 :=
  ⟨_, _, _, _, Try.underlying25, Try.underlying22, Try.underlying9, Try.underlying3, Try.underlying23, rfl, rfl, rfl, rfl, by kernel_rfl, by kernel_rfl, by kernel_rfl, by kernel_rfl, by kernel_rfl⟩
theorem rec3 : Try.prog.readableRec 3 = true := by kernel_rfl
theorem lt3 : 3 < Try.prog.types.size := of_decide_eq_true (by kernel_rfl)
theorem rec9 : Try.prog.readableRec 9 = true := by kernel_rfl
theorem lt9 : 9 < Try.prog.types.size := of_decide_eq_true (by kernel_rfl)
theorem rec23 : Try.prog.readableRec 23 = true := by kernel_rfl
theorem lt23 : 23 < Try.prog.types.size := of_decide_eq_true (by kernel_rfl)
theorem rec25 : Try.prog.readableRec 25 = true := by kernel_rfl
theorem lt25 : 25 < Try.prog.types.size := of_decide_eq_true (by kernel_rfl)
theorem rec36 : Try.prog.readableRec 36 = true := by kernel_rfl
theorem lt36 : 36 < Try.prog.types.size := of_decide_eq_true (by kernel_rfl)
theorem rec44 : Try.prog.readableRec 44 = true := by kernel_rfl
theorem lt44 : 44 < Try.prog.types.size := of_decide_eq_true (by kernel_rfl)
theorem rec49 : Try.prog.readableRec 49 = true := by kernel_rfl
theorem lt49 : 49 < Try.prog.types.size := of_decide_eq_true (by kernel_rfl)
theorem noGl (g : Nat) (h : Try.prog.globalNamed "internal/strconv.uint64pow10" = some g) : False := by
  rw [show Try.prog.globalNamed "internal/strconv.uint64pow10" = none by kernel_rfl] at h; cases h
theorem num_range {n : Int} (h : (Lit.int .i64 n).wf = true) : -9223372036854775808 ≤ n ∧ n ≤ 9223372036854775807 := by
  simp only [Lit.wf, IntKind.min, IntKind.max, IntKind.signed, IntKind.bits, Bool.and_eq_true, decide_eq_true_eq, if_true] at h; omega
theorem upto {H : Type} {l : List (DataW H)} (hk : Rows.uptoSmall H l = true) : Rows.uptoBulkAll l ≤ 1048576 := of_decide_eq_true hk
end Go.Proofs.Ytmeolnpbbhinjaa.base
