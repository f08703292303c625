/- A calculus of plain values for the model's code, what the code of each function asks (computed by the kernel), contracts of the functions, and plain laws (part 4). No conditions. -/
import Derived.Test.YtcnpljfigfbpcaaPart3
import Derived.Test.YtcnpljfigfbpcaaPart2
import Derived.ProofKit
import Derived.OpenShut
import Derived.JoinedCond
import Derived.WalkKit
import Derived.Test.YtcnpljfigfbpcaaRows
set_option maxRecDepth 100000
open Go Go.Proofs
namespace Go.AM

mutual
theorem nd_sz : ∀ t : Tm, nd t = t.sz
  | .mk _ _ _ l => by simp only [nd, Tm.sz, nds_szs l]
theorem nds_szs : ∀ l : List Tm, nds l = Tm.szs l
  | [] => rfl
  | t :: l => by simp only [nds, Tm.szs, nd_sz t, nds_szs l]
end
mutual
theorem ok_size : ∀ t : Tm, okB t = true → sizeF t = t.sz
  | .mk k s n l, h => by
    have hl := ok_sizes l (okB_l h)
    by_cases h6 : k = 6
    · subst h6; simp [sizeF, Tm.sz, hl]
    · by_cases h5 : k = 5
      · subst h5; simp [sizeF, Tm.sz, hl]
      · have : l = [] := okB0 h h5 h6
        subst this
        simp [sizeF, Tm.sz, sizeL, Tm.szs]
theorem ok_sizes : ∀ l : List Tm, okL l = true → sizeL l = Tm.szs l
  | [], _ => rfl
  | t :: l, h => by
    simp only [okL, Bool.and_eq_true] at h
    simp only [sizeL, Tm.szs, ok_size t h.1, ok_sizes l h.2]
end
/-- How large a term may be in what follows. -/
def SZ : Nat := 67108864
theorem room_sz {body arg : Tm} (ob : okB body = true) (oa : okB arg = true) (hr : roomT body arg = true) (ha : arg.sz ≤ SZ) : body.sz + nd body * arg.sz ≤ B ∧ body.sz + occF body 0 * arg.sz ≤ 4096 := by
  have h1 : ((sizeF body : Int) + (occF body 0 : Int) * (sizeF arg : Int) ≤ 4096) := by
    have : (!decide ((sizeF body : Int) + (occF body 0 : Int) * (sizeF arg : Int) > 4096)) = true := hr
    simp only [Bool.not_eq_true', decide_eq_false_iff_not] at this
    omega
  rw [ok_size body ob, ok_size arg oa, nd_sz] at *
  have h0 : body.sz + occF body 0 * arg.sz ≤ 4096 := by
    have : ((body.sz + occF body 0 * arg.sz : Nat) : Int) ≤ 4096 := by rw [Int.natCast_add, Int.natCast_mul]; exact h1
    omega
  have h2 : body.sz ≤ 4096 := by omega
  have h3 := Nat.mul_le_mul h2 ha
  simp only [SZ] at h3
  exact ⟨by simp only [B]; omega, h0⟩
theorem zm_le {body arg : Tm} (hb : body.sz ≤ 1073741824) (ha : arg.sz ≤ 1073741824) : 0 ≤ (occF body 0 : Int) * (sizeF arg : Int) ∧ (occF body 0 : Int) * (sizeF arg : Int) ≤ 1152921504606846976 := by
  have := Nat.mul_le_mul (Nat.le_trans (occF_le body 0) hb) (Nat.le_trans (sizeF_le arg) ha)
  exact ⟨Int.mul_nonneg (by omega) (by omega), by omega⟩
theorem c_bcontr (body arg : Tm) (ob : okB body = true) (oa : okB arg = true) (hb : body.sz ≤ SZ) (ha : arg.sz ≤ SZ) (db : bd M61 body) (da : bd M61 arg) : AC Try.prog 57 [aT body, aT arg] [] (aTE (conF body arg) (conE body arg)) [] := by
  simp only [SZ] at hb ha
  have h1 := c_size body (by simp only [B]; omega)
  have h2 := c_occurs body (by simp only [B]; omega) 0 (by omega) (by omega)
  have h3 := c_size arg (by simp only [B]; omega)
  have h4 := fun hr => c_subst body arg 0 (by simp only [B]; omega) (room_sz ob oa hr (by simp only [SZ]; omega)).1 db da (by omega) (by simp only [M61]; omega)
  have z1 := sizeF_le body
  have z2 := zm_le (body := body) (arg := arg) (by omega) (by omega)
  have cF : ∀ b, roomT body arg = b → conF body arg = (if b = true then suT 0 arg body 0 else noT) ∧ conE body arg = (if b = true then 0 else 80) := fun b h => by unfold conF conE; rw [h]; exact ⟨rfl, rfl⟩
  have hf : roomT body arg = !decide ((sizeF body : Int) + (occF body 0 : Int) * (sizeF arg : Int) > 4096) := rfl
  obtain ⟨k, s, n, l⟩ := body
  obtain ⟨k', s', n', l'⟩ := arg
  refine AC.vc hP sh lv57 (Nat.le_refl _) (by simp) (by simp) (Eq.mpr (v57 k s n (FTs l) k' s' n' (FTs l') _ _) ?_)
  refine ⟨_, h1, _, h2, _, h3, ?_⟩
  rw [w64 (x := (occF (.mk k s n l) 0 : Int) * (sizeF (.mk k' s' n' l') : Int)) (by omega) (by omega), w64 (by omega) (by omega)]
  refine br_of (fun h => ?_) (fun h => ?_)
  · obtain ⟨e1, e2⟩ := cF false (by rw [hf, h]; rfl)
    rw [e1, e2]
    exact ⟨leTE leNil, rfl⟩
  · obtain ⟨e1, e2⟩ := cF true (by rw [hf, h]; rfl)
    rw [e1, e2]
    exact ⟨_, h4 (by rw [hf, h]; rfl), .refl _, rfl⟩
theorem c_bcontract (body arg : Tm) (hb : body.sz ≤ SZ) (ha : arg.sz ≤ SZ) (db : bd M61 body) (da : bd M61 arg) : AC Try.prog 51 [aT body, aT arg] [] (if (validB body && validB arg) = true then aTE (conF body arg) (conE body arg) else aTE noT 1) [] := by
  have h1 := c_valid body (by simp only [SZ, B] at *; omega)
  have h2 := c_valid arg (by simp only [SZ, B] at *; omega)
  have h3 := fun ob oa => c_bcontr body arg (valid_ok body ob) (valid_ok arg oa) hb ha db da
  obtain ⟨k, s, n, l⟩ := body
  obtain ⟨k', s', n', l'⟩ := arg
  refine AC.vc hP sh lv51 (Nat.le_refl _) (by simp) (by simp) (Eq.mpr (v51 k s n (FTs l) k' s' n' (FTs l') _ _) ?_)
  refine ⟨_, h1, br_of (fun h => ?_) (fun h => ⟨_, h2, br_of (fun h' => ?_) (fun h' => ?_)⟩)⟩
  · rw [if_neg (by rw [show validB (.mk k s n l) = false by simpa using h]; simp)]
    exact ⟨leTE leNil, rfl⟩
  · rw [if_neg (by rw [show validB (.mk k' s' n' l') = false by simpa using h']; simp)]
    exact ⟨leTE leNil, rfl⟩
  · have e1 : validB (.mk k s n l) = true := by simpa using h
    have e2 : validB (.mk k' s' n' l') = true := by simpa using h'
    rw [if_pos (by rw [e1, e2]; rfl)]
    exact ⟨(_, _), h3 e1 e2, .refl _, rfl⟩
/-! ### One step -/
theorem redex_shape {t : Tm} (ho : okB t = true) (hr : redexB t = true) : ∃ s n s1 n1 body arg rest, t = .mk 6 s n (.mk 5 s1 n1 [body] :: arg :: rest) ∧ okB body = true ∧ okB arg = true ∧ okL rest = true := by
  obtain ⟨k, s, n, l⟩ := t
  simp only [redexB, Tm.k, Tm.l, Bool.and_eq_true, beq_iff_eq] at hr
  obtain ⟨rfl, h5⟩ := hr
  obtain ⟨x, y, r, rfl, _, hl⟩ := okB6 ho rfl
  simp only [okL, Bool.and_eq_true] at hl
  obtain ⟨k', s', n', l'⟩ := x
  have h5 : k' = 5 := h5
  subst h5
  obtain ⟨b, rfl, hb⟩ := okB5 hl.1 rfl
  exact ⟨s, n, s', n', b, y, r, rfl, hb, hl.2.1, hl.2.2⟩
mutual
def stepF : Tm → Tm × Int
  | .mk k s n l => if redexB (.mk k s n l) = true then (if roomT (hd (hd l).l) (hd l.tail) = true then (applyF (suT 0 (hd l.tail) (hd (hd l).l) 0) (l.drop 2), 1) else (noT, 2))
    else if (stepL l).2 = 0 then (.mk k s n l, 0) else if (stepL l).2 = 1 then (.mk k [] 0 (stepL l).1, 1) else (noT, 2)
def stepL : List Tm → List Tm × Int
  | [] => ([], 0)
  | t :: l => if (stepF t).2 = 0 then (t :: (stepL l).1, (stepL l).2) else ((stepF t).1 :: l, (stepF t).2)
end
mutual
theorem stepF_n : ∀ t : Tm, (stepF t).2 = 0 ∨ (stepF t).2 = 1 ∨ (stepF t).2 = 2
  | .mk k s n l => by
    rw [stepF]
    split
    · split
      · exact .inr (.inl rfl)
      · exact .inr (.inr rfl)
    · split
      · exact .inl rfl
      · split
        · exact .inr (.inl rfl)
        · exact .inr (.inr rfl)
theorem stepL_n : ∀ l : List Tm, (stepL l).2 = 0 ∨ (stepL l).2 = 1 ∨ (stepL l).2 = 2
  | [] => .inl rfl
  | t :: l => by
    rw [stepL]
    split
    · exact stepL_n l
    · exact stepF_n t
end
theorem stepF_leaf {t : Tm} (ho : okB t = true) (h5 : t.k ≠ 5) (h6 : t.k ≠ 6) : stepF t = (t, 0) := by
  obtain ⟨k, s, n, l⟩ := t
  have : l = [] := okB0 ho h5 h6
  subst this
  rw [stepF, if_neg (by simp only [redexB, Tm.k, Bool.and_eq_true, beq_iff_eq]; exact fun e => h6 e.1)]
  rfl
/-- The head of what is no redex has no step. -/
theorem stepF_hd {k n : Int} {s : List UInt8} {x : Tm} {l : List Tm} (ho : okB (.mk k s n (x :: l)) = true) (hr : redexB (.mk k s n (x :: l)) = false) (hk : k = 6) : stepF x = (x, 0) := by
  obtain ⟨y, z, r, e, h6, hl⟩ := okB6 ho hk
  injection e with e1 e2
  subst e1
  subst hk
  simp only [okL, Bool.and_eq_true] at hl
  refine stepF_leaf hl.1 (fun e => ?_) h6
  have : redexB (.mk 6 s n (x :: l)) = true := by simp only [redexB, Tm.k, Tm.l, hd, List.headD_cons, Bool.and_eq_true, beq_iff_eq]; exact ⟨trivial, e⟩
  rw [hr] at this; cases this
abbrev aSt (u : Tm) (n : Int) : TV := .tup [(true, cT u), (false, [.a (.fz (.bool (n != 0)))]), (false, [.a (.fz (.int .i64 (if n = 2 then 80 else 0)))])]
theorem leSt {k n e : Int} {b : Bool} {s : List UInt8} {x : FV} {l : List Tm} (h : FV.Le x (.sl false 4 (FTs l))) : TV.Le (.tup [(true, [.a (.fz (.int .i64 k)), .a (.fz (.str s)), .a (.fz (.int .i64 n)), .a (.fz x)]), (false, [.a (.fz (.bool b))]), (false, [.a (.fz (.int .i64 e))])]) (.tup [(true, cT (.mk k s n l)), (false, [.a (.fz (.bool b))]), (false, [.a (.fz (.int .i64 e))])]) := by
  refine .tup _ _ rfl fun i p q hp hq => ?_
  match i, hp, hq with
  | 0, hp, hq =>
    simp only [List.getElem?_cons_zero, Option.some.injEq] at hp hq
    subst hp; subst hq
    refine ⟨rfl, rfl, fun j x y hx hy => ?_⟩
    match j, hx, hy with
    | 0, hx, hy => simp at hx hy; subst hx; subst hy; exact .refl _
    | 1, hx, hy => simp at hx hy; subst hx; subst hy; exact .refl _
    | 2, hx, hy => simp at hx hy; subst hx; subst hy; exact .refl _
    | 3, hx, hy => simp at hx hy; subst hx; subst hy; exact .a _ _ (.fz _ _ h)
    | j + 4, hx, _ => simp at hx
  | 1, hp, hq =>
    simp only [List.getElem?_cons_zero, List.getElem?_cons_succ, Option.some.injEq] at hp hq
    subst hp; subst hq
    exact ⟨rfl, rfl, fun j x y hx hy => by rw [hx] at hy; injection hy with hy; subst hy; exact .refl _⟩
  | 2, hp, hq =>
    simp only [List.getElem?_cons_zero, List.getElem?_cons_succ, Option.some.injEq] at hp hq
    subst hp; subst hq
    exact ⟨rfl, rfl, fun j x y hx hy => by rw [hx] at hy; injection hy with hy; subst hy; exact .refl _⟩
  | i + 3, hp, _ => simp at hp
theorem el0 (x : Tm) (l : List Tm) : FV.isSl 4 (.sl false 4 (FTs (x :: l))) = true ∧ ((0 : Int) ≤ 0 ∧ ((0 : Int) < (((FTs (x :: l)).length : Nat) : Int) ∧ (rE (List.getD (FTs (x :: l)) 0 []) : List FV) = List.getD (FTs (x :: l)) 0 [])) := ⟨rfl, Int.le_refl _, by rw [lenI]; simp only [List.length_cons]; omega, rE_FT x⟩
theorem el1 (x y : Tm) (l : List Tm) : FV.isSl 4 (.sl false 4 (FTs (x :: y :: l))) = true ∧ ((0 : Int) ≤ 1 ∧ ((1 : Int) < (((FTs (x :: y :: l)).length : Nat) : Int) ∧ (rE (List.getD (FTs (x :: y :: l)) 1 []) : List FV) = List.getD (FTs (x :: y :: l)) 1 [])) := ⟨rfl, by omega, by rw [lenI]; simp only [List.length_cons]; omega, rE_FT y⟩
theorem set_mid (a : List Tm) (t : Tm) (b : List Tm) (u : Tm) : List.set (FTs (a ++ t :: b)) (0 + Int.toNat (a.length : Int)) (FT4 u) = FTs (a ++ u :: b) := by
  rw [Nat.zero_add, toNat_len, FT4_eq, FTs_set]
  congr 1
  simp
theorem leTB {k n : Int} {b : Bool} {s : List UInt8} {x : FV} {l : List Tm} (h : FV.Le x (.sl false 4 (FTs l))) : TV.Le (.tup [(true, [.a (.fz (.int .i64 k)), .a (.fz (.str s)), .a (.fz (.int .i64 n)), .a (.fz x)]), (false, [.a (.fz (.bool b))])]) (.tup [(true, cT (.mk k s n l)), (false, [.a (.fz (.bool b))])]) := by
  refine .tup _ _ rfl fun i p q hp hq => ?_
  match i, hp, hq with
  | 0, hp, hq =>
    simp only [List.getElem?_cons_zero, Option.some.injEq] at hp hq
    subst hp; subst hq
    refine ⟨rfl, rfl, fun j x y hx hy => ?_⟩
    match j, hx, hy with
    | 0, hx, hy => simp at hx hy; subst hx; subst hy; exact .refl _
    | 1, hx, hy => simp at hx hy; subst hx; subst hy; exact .refl _
    | 2, hx, hy => simp at hx hy; subst hx; subst hy; exact .refl _
    | 3, hx, hy => simp at hx hy; subst hx; subst hy; exact .a _ _ (.fz _ _ h)
    | j + 4, hx, _ => simp at hx
  | 1, hp, hq =>
    simp only [List.getElem?_cons_zero, List.getElem?_cons_succ, Option.some.injEq] at hp hq
    subst hp; subst hq
    exact ⟨rfl, rfl, fun j x y hx hy => by rw [hx] at hy; injection hy with hy; subst hy; exact .refl _⟩
  | i + 2, hp, _ => simp at hp
/-! The document's. -/
theorem not_t {b : Bool} (h : (!b) = true) : b = false := by cases b <;> simp_all
theorem not_f {b : Bool} (h : (!b) = false) : b = true := by cases b <;> simp_all
abbrev aRs (u : Tm) (n : Int) : TV := .tup [(true, cT u), (false, [.a (.fz (.int .i64 n))])]
end Go.AM

set_option maxRecDepth 100000
open Go Go.Proofs
namespace Go.AM

/-! ### What steps make: kinds, sizes, numbers -/
theorem applyF_ok {f : Tm} {args : List Tm} (hf : okB f = true) (ha : okL args = true) : okB (applyF f args) = true := by
  match args, ha with
  | [], _ => exact hf
  | a :: r, ha =>
    obtain ⟨k, s, n, l⟩ := f
    rw [apply_some]
    split
    · rename_i h
      have hk : k = 6 := by simpa using h.1
      obtain ⟨x, y, r', rfl, h6, hl⟩ := okB6 hf hk
      have hall : okL ((x :: y :: r') ++ a :: r) = true := okL_of fun t ht => by
        rcases List.mem_append.1 ht with ht | ht
        · exact okL_mem hl ht
        · exact okL_mem ha ht
      have h6' : (x.k != 6) = true := by simpa using h6
      rw [okB, hall]
      simp [hd, h6]
    · rename_i h
      have h6 : k ≠ 6 := fun e => h ⟨by simpa using e, ok_ne hf e⟩
      have hall : okL (.mk k s n l :: a :: r) = true := by simp only [okL, Bool.and_eq_true] at ha ⊢; exact ⟨hf, ha⟩
      rw [okB, hall]
      simp [hd, Tm.k, h6]
theorem withF_ok {k n : Int} {s : List UInt8} {l o : List Tm} (h : okB (.mk k s n l) = true) (hk : k = 5 ∨ k = 6) (ho : okL o = true) (hlen : o.length = l.length) : okB (withF (.mk k s n l) o) = true := by
  obtain ⟨rfl, rfl⟩ := okB_sn h hk
  unfold withF
  split
  · rename_i hc
    match o, ho, hc with
    | [], _, hc => simp at hc
    | x :: r, ho, hc =>
      simp only [okL, Bool.and_eq_true] at ho
      exact applyF_ok ho.1 ho.2
  · rename_i hc
    show okB (.mk k [] 0 o) = true
    rcases hk with rfl | rfl
    · obtain ⟨x, rfl, _⟩ := okB5 h rfl
      rw [okB, ho]; simp only [List.length_cons, List.length_nil] at hlen; simp [hlen]
    · obtain ⟨x, y, r, rfl, h6, _⟩ := okB6 h rfl
      have h1 : ¬ (hd o).k = 6 := fun e => hc ⟨rfl, by rw [hlen]; simp, by simpa [hd] using e, show (x.k != 6) = true by simpa using h6⟩
      rw [okB, ho]; simp only [List.length_cons] at hlen; simp [hlen, h1]
mutual
theorem walkF_ok (lf : Tm → Int → Tm) (h : ∀ u d, okB u = true → u.k ≠ 5 → u.k ≠ 6 → okB (lf u d) = true) : ∀ (t : Tm) (d : Int), okB t = true → okB (walkF lf t d) = true
  | .mk k s n l, d, ho => by
    rw [walkF]
    split
    · rename_i hk
      exact withF_ok ho (by simpa using hk) (walkL_ok lf h l _ (okB_l ho)) (walkL_length ..)
    · rename_i hk
      exact h _ _ ho (fun e => hk (by simp [show k = 5 from e])) (fun e => hk (by simp [show k = 6 from e]))
theorem walkL_ok (lf : Tm → Int → Tm) (h : ∀ u d, okB u = true → u.k ≠ 5 → u.k ≠ 6 → okB (lf u d) = true) : ∀ (l : List Tm) (d : Int), okL l = true → okL (walkL lf l d) = true
  | [], _, _ => rfl
  | t :: l, d, ho => by
    simp only [okL, Bool.and_eq_true] at ho
    simp only [walkL, okL, walkF_ok lf h t d ho.1, walkL_ok lf h l d ho.2, Bool.and_self]
end
theorem okB_leaf {k n m : Int} {s : List UInt8} {l : List Tm} (h : okB (.mk k s n l) = true) (h5 : k ≠ 5) (h6 : k ≠ 6) : okB (.mk k s m l) = true := by
  have : l = [] := okB0 h h5 h6
  subst this
  simp [okB, h5, h6, okL]
theorem shT_ok {fr by_ : Int} {t : Tm} (d : Int) (h : okB t = true) : okB (shT fr by_ t d) = true := by
  refine walkF_ok _ (fun u d hu h5 h6 => ?_) t d h
  unfold shLeaf
  split
  · obtain ⟨k, s, n, l⟩ := u; exact okB_leaf hu h5 h6
  · exact hu
theorem suT_ok {i : Int} {s t : Tm} (d : Int) (hs : okB s = true) (h : okB t = true) : okB (suT i s t d) = true := by
  refine walkF_ok _ (fun u d hu h5 h6 => ?_) t d h
  unfold suLeaf
  split
  · split
    · exact hu
    · split
      · exact shT_ok _ hs
      · obtain ⟨k, s, n, l⟩ := u; exact okB_leaf hu h5 h6
  · exact hu
mutual
theorem suT_occ (i : Int) (s : Tm) : ∀ (t : Tm) (d : Int), (suT i s t d).sz ≤ t.sz + occF t (d + i) * s.sz
  | .mk k s' n l, d => by
    rw [suT, walkF]
    split
    · rename_i hk
      have h1 := suT_occs i s l (d + if (k == 5) = true then 1 else 0)
      have h2 := withF_sz (.mk k s' n l) (walkL (suLeaf i s) l (d + if (k == 5) = true then 1 else 0))
      have h3 : occF (.mk k s' n l) (d + i) = occL l (d + (if (k == 5) = true then 1 else 0) + i) := by
        rw [occF, if_neg (by rintro ⟨e, _⟩; have : k = 3 := by simpa using e
                             subst this; simp at hk)]
        congr 1; omega
      rw [h3]
      simp only [Tm.sz]; omega
    · unfold suLeaf
      rw [occF]
      split
      · rename_i h3
        split
        · omega
        · split
          · rename_i h4
            have h5 := shT_sz 0 d s 0
            rw [if_pos ⟨h3, h4⟩]; omega
          · simp only [Tm.sz, Tm.l]; omega
      · omega
theorem suT_occs (i : Int) (s : Tm) : ∀ (l : List Tm) (d : Int), Tm.szs (walkL (suLeaf i s) l d) ≤ Tm.szs l + occL l (d + i) * s.sz
  | [], _ => by simp [walkL, Tm.szs]
  | t :: l, d => by
    have h1 := suT_occ i s t d
    have h2 := suT_occs i s l d
    have h1 : (walkF (suLeaf i s) t d).sz ≤ t.sz + occF t (d + i) * s.sz := h1
    simp only [walkL, Tm.szs, occL, Nat.add_mul]; omega
end
theorem stepL_app : ∀ (a b : List Tm), (∀ u ∈ a, (stepF u).2 = 0) → stepL (a ++ b) = (a ++ (stepL b).1, (stepL b).2)
  | [], b, _ => rfl
  | x :: a, b, h => by
    have := stepL_app a b fun u hu => h u (List.mem_cons_of_mem _ hu)
    rw [List.cons_append, stepL, if_pos (h x List.mem_cons_self), this]; rfl
theorem stepL_hit {t : Tm} (b : List Tm) (h : (stepF t).2 ≠ 0) : stepL (t :: b) = ((stepF t).1 :: b, (stepF t).2) := by rw [stepL, if_neg h]
theorem stepF_non {k n : Int} {s : List UInt8} {l : List Tm} (h : redexB (.mk k s n l) = false) : stepF (.mk k s n l) = (if (stepL l).2 = 0 then (.mk k s n l, 0) else if (stepL l).2 = 1 then (.mk k [] 0 (stepL l).1, 1) else (noT, 2)) := by rw [stepF, if_neg (by rw [h]; simp)]
mutual
theorem stepF_fit (M : Int) (hM : 0 ≤ M) : ∀ t : Tm, okB t = true → t.sz ≤ SZ → bd M t → (stepF t).2 = 1 → okB (stepF t).1 = true ∧ (stepF t).1.sz ≤ t.sz + 4200 ∧ bd (M + SZ) (stepF t).1
  | .mk k s n l, ho, hs, hb, h1 => by
    by_cases q : redexB (.mk k s n l) = true
    · obtain ⟨s', n', s1, n1, body, arg, rest, e, ob, oa, orr⟩ := redex_shape ho q
      injection e with e1 e2 e3 e4
      subst e1; subst e2; subst e3; subst e4
      have hF : stepF (.mk 6 s n (.mk 5 s1 n1 [body] :: arg :: rest)) = if roomT body arg = true then (applyF (suT 0 arg body 0) rest, 1) else (noT, 2) := by rw [stepF, if_pos q]; rfl
      rw [hF] at h1 ⊢
      by_cases hr : roomT body arg = true
      · simp only [Tm.sz, Tm.szs] at hs
        have h2 := (room_sz ob oa hr (by omega)).2
        have h3 := suT_occ 0 arg body 0
        have h4 := applyF_sz (suT 0 arg body 0) rest
        rw [Int.zero_add] at h3
        rw [if_pos hr]
        refine ⟨applyF_ok (suT_ok 0 oa ob) orr, by simp only [Tm.sz, Tm.szs]; omega, applyF_bd ?_ ?_⟩
        · exact suT_bd (M := M + SZ) (M' := M) (D := SZ) arg body 0 (bd_le (by omega) _ hb.2.1.2.1) hb.2.2.1 (Int.le_refl _) (Int.le_refl _) (by omega) (Int.le_refl _) (by omega)
        · exact bds_of fun u hu => bd_le (by omega) _ (bds_mem hb.2.2.2 hu)
      · rw [if_neg hr] at h1; cases h1
    · have q : redexB (.mk k s n l) = false := by simpa using q
      have hl := okB_l ho
      rw [stepF_non q] at h1 ⊢
      split at h1
      · cases h1
      split at h1
      · rename_i h0 h2
        rw [if_neg h0, if_pos h2]
        simp only [Tm.sz] at hs
        obtain ⟨g1, g2, g3, g4, g5⟩ := stepL_fit M hM l hl (by omega) hb.2 h2
        have hk : k = 5 ∨ k = 6 := by
          by_cases k5 : k = 5
          · exact .inl k5
          · by_cases k6 : k = 6
            · exact .inr k6
            · have : l = [] := okB0 ho k5 k6
              subst this
              exact absurd rfl h0
        refine ⟨?_, by simp only [Tm.sz]; omega, ⟨fun e => by omega, g4⟩⟩
        rcases hk with rfl | rfl
        · obtain ⟨x, rfl, _⟩ := okB5 ho rfl
          rw [okB, g1]; simp only [List.length_cons, List.length_nil] at g2; simp [g2]
        · obtain ⟨x, y, r, rfl, h6, _⟩ := okB6 ho rfl
          have hx := stepF_hd ho q rfl
          rw [okB, g1]; simp only [List.length_cons] at g2
          have : (hd (stepL (x :: y :: r)).1).k ≠ 6 := by rw [stepL, if_pos (by rw [hx])]; exact h6
          simp [g2, this]
      · cases h1
theorem stepL_fit (M : Int) (hM : 0 ≤ M) : ∀ l : List Tm, okL l = true → Tm.szs l ≤ SZ → bds M l → (stepL l).2 = 1 → okL (stepL l).1 = true ∧ (stepL l).1.length = l.length ∧ Tm.szs (stepL l).1 ≤ Tm.szs l + 4200 ∧ bds (M + SZ) (stepL l).1 ∧ True
  | [], _, _, _, h => by cases h
  | t :: l, ho, hs, hb, h => by
    simp only [okL, Bool.and_eq_true] at ho
    simp only [Tm.szs] at hs
    rw [stepL] at h ⊢
    split at h
    · rename_i h0
      rw [if_pos h0]
      obtain ⟨g1, g2, g3, g4, _⟩ := stepL_fit M hM l ho.2 (by omega) hb.2 h
      exact ⟨by simp only [okL, ho.1, g1, Bool.and_self], by simp [g2], by simp only [Tm.szs]; omega, ⟨bd_le (by omega) _ hb.1, g4⟩, trivial⟩
    · rename_i h0
      rw [if_neg h0]
      obtain ⟨g1, g2, g3⟩ := stepF_fit M hM t ho.1 (by omega) hb.1 h
      exact ⟨by simp only [okL, ho.2, g1, Bool.and_self], rfl, by simp only [Tm.szs]; omega, ⟨g3, bds_of fun u hu => bd_le (by omega) _ (bds_mem hb.2 hu)⟩, trivial⟩
end
/-! ### Step by step -/
def runS : Nat → Tm → Option (Tm × Nat)
  | 0, t => if (stepF t).2 = 0 then some (t, 0) else none
  | F + 1, t => if (stepF t).2 = 0 then some (t, F + 1) else if (stepF t).2 = 1 then runS F (stepF t).1 else none
def runL : Nat → List Tm → Option (List Tm × Nat)
  | F, [] => some ([], F)
  | F, t :: l => (runS F t).bind fun p => (runL p.2 l).map fun q => (p.1 :: q.1, q.2)
theorem runS_zero {F : Nat} {t : Tm} (h : (stepF t).2 = 0) : runS F t = some (t, F) := by
  cases F with
  | zero => rw [runS, if_pos h]
  | succ F => rw [runS, if_pos h]
theorem runS_end : ∀ {F : Nat} {t u : Tm} {G : Nat}, runS F t = some (u, G) → (stepF u).2 = 0 ∧ G ≤ F
  | 0, t, u, G, h => by
    rw [runS] at h
    split at h
    · rename_i h0; injection h with h; injection h with h1 h2; subst h1; subst h2; exact ⟨h0, Nat.le_refl _⟩
    · cases h
  | F + 1, t, u, G, h => by
    rw [runS] at h
    split at h
    · rename_i h0; injection h with h; injection h with h1 h2; subst h1; subst h2; exact ⟨h0, Nat.le_refl _⟩
    · split at h
      · have := runS_end h; exact ⟨this.1, by omega⟩
      · cases h
/-- How large what is run may become. -/
def Fit (F : Nat) (t : Tm) : Prop := okB t = true ∧ t.sz + 4200 * F ≤ SZ ∧ bd (M61 - SZ - SZ * F) t ∧ F ≤ 5000
theorem Fit.next {F : Nat} {t : Tm} (h : Fit (F + 1) t) (h1 : (stepF t).2 = 1) : Fit F (stepF t).1 := by
  obtain ⟨g1, g2, g3, g4⟩ := h
  have := stepF_fit (M61 - SZ - SZ * ((F + 1 : Nat) : Int)) (by simp only [M61, SZ]; omega) t g1 (by omega) g3 h1
  refine ⟨this.1, by have := this.2.1; omega, bd_le ?_ _ this.2.2, by omega⟩
  simp only [SZ]; omega
theorem Fit.mono {F G : Nat} {t : Tm} (h : Fit F t) (hg : G ≤ F) : Fit G t := ⟨h.1, by have := h.2.1; have := Nat.mul_le_mul_left 4200 hg; omega, bd_le (by simp only [SZ]; omega) _ h.2.2.1, by have := h.2.2.2; omega⟩
theorem Fit.kid {F : Nat} {t u : Tm} (h : Fit F t) (hu : u ∈ t.l) : Fit F u := by
  have h1 := Tm.szs_mem hu
  have h2 := t.sz_eq
  refine ⟨okL_mem (okB_l h.1) hu, by have := h.2.1; omega, ?_, h.2.2.2⟩
  obtain ⟨k, s, n, l⟩ := t
  exact bds_mem h.2.2.1.2 hu
theorem Fit.sz {F : Nat} {t : Tm} (h : Fit F t) : t.sz ≤ SZ := by have := h.2.1; omega
theorem Fit.bd {F : Nat} {t : Tm} (h : Fit F t) : bd M61 t := bd_le (by simp only [SZ]; omega) _ h.2.2.1
theorem Fit.ok {F : Nat} {t : Tm} (h : Fit F t) : okB t = true := h.1
theorem runS_fit : ∀ {F : Nat} {t u : Tm} {G : Nat}, Fit F t → runS F t = some (u, G) → Fit G u
  | 0, t, u, G, hf, h => by
    rw [runS] at h
    split at h
    · injection h with h; injection h with h1 h2; subst h1; subst h2; exact hf
    · cases h
  | F + 1, t, u, G, hf, h => by
    rw [runS] at h
    split at h
    · injection h with h; injection h with h1 h2; subst h1; subst h2; exact hf
    · split at h
      · rename_i h1; exact runS_fit (hf.next h1) h
      · cases h
/-- One of many goes on. -/
theorem run_mid (k : Int) (a b : List Tm) (hk : k ≠ 6 ∨ ∃ x a', a = x :: a' ∧ x.k ≠ 5) (ha : ∀ u ∈ a, (stepF u).2 = 0) : ∀ (F : Nat) (t : Tm), runS F (.mk k [] 0 (a ++ t :: b)) = (runS F t).bind fun p => runS p.2 (.mk k [] 0 (a ++ p.1 :: b)) := by
  have nr : ∀ t, redexB (.mk k [] 0 (a ++ t :: b)) = false := fun t => by
    rcases hk with hk | ⟨x, a', rfl, hx⟩
    · simp [redexB, Tm.k, hk]
    · simp [redexB, Tm.l, hd, hx]
  have st : ∀ t, (stepF t).2 = 1 → stepF (.mk k [] 0 (a ++ t :: b)) = (.mk k [] 0 (a ++ (stepF t).1 :: b), 1) := fun t h => by
    rw [stepF_non (nr t), stepL_app a _ ha, stepL_hit b (by omega), h]; simp
  have st2 : ∀ t, (stepF t).2 = 2 → (stepF (.mk k [] 0 (a ++ t :: b))).2 = 2 := fun t h => by
    rw [stepF_non (nr t), stepL_app a _ ha, stepL_hit b (by omega), h]; simp
  intro F
  induction F with
  | zero =>
    intro t
    rcases stepF_n t with h | h | h
    · rw [runS_zero h]; rfl
    · simp [runS, st t h, h]
    · simp [runS, st2 t h, h]
  | succ F ih =>
    intro t
    rcases stepF_n t with h | h | h
    · rw [runS_zero h]; rfl
    · rw [runS, st t h, if_neg (by simp), if_pos rfl, ih]
      conv => rhs; rw [runS, if_neg (by rw [h]; omega), if_pos h]
    · rw [runS, st2 t h, if_neg (by omega), if_neg (by omega)]
      conv => rhs; rw [runS, if_neg (by rw [h]; omega), if_neg (by rw [h]; omega)]
      rfl
theorem run_list (k : Int) : ∀ (b a : List Tm) (F : Nat), (k ≠ 6 ∨ ∃ x a', a = x :: a' ∧ x.k ≠ 5) → (∀ u ∈ a, (stepF u).2 = 0) → runS F (.mk k [] 0 (a ++ b)) = (runL F b).map fun q => (.mk k [] 0 (a ++ q.1), q.2)
  | [], a, F, hk, ha => by
    have nr : redexB (.mk k [] 0 a) = false := by
      rcases hk with hk | ⟨x, a', rfl, hx⟩
      · simp [redexB, Tm.k, hk]
      · simp [redexB, Tm.l, hd, hx]
    have h2 := stepL_app a [] ha
    rw [List.append_nil] at h2 ⊢
    have h0 : (stepF (.mk k [] 0 a)).2 = 0 := by rw [stepF_non nr, h2]; simp [stepL]
    rw [runS_zero h0, runL]; simp
  | t :: b, a, F, hk, ha => by
    rw [run_mid k a b hk ha F t, runL]
    cases h : runS F t with
    | none => rfl
    | some p =>
      have h0 := (runS_end h).1
      have := run_list k b (a ++ [p.1]) p.2 (hk.imp id fun ⟨x, a', e, hx⟩ => ⟨x, a' ++ [p.1], by rw [e]; rfl, hx⟩) (fun u hu => by
        rcases List.mem_append.1 hu with hu | hu
        · exact ha u hu
        · rw [List.mem_singleton.1 hu]; exact h0)
      rw [ap] at this
      simp only [Option.bind_some, this]
      cases runL p.2 b with
      | none => rfl
      | some q => simp
/-- What is no redex runs within. -/
theorem run_kids {k n : Int} {s : List UInt8} {l : List Tm} (ho : okB (.mk k s n l) = true) (hr : redexB (.mk k s n l) = false) (F : Nat) : runS F (.mk k s n l) = (runL F l).map fun q => (.mk k s n q.1, q.2) := by
  by_cases h5 : k = 5
  · obtain ⟨rfl, rfl⟩ := okB_sn ho (.inl h5)
    exact run_list k l [] F (.inl (by omega)) (fun u hu => by cases hu)
  · by_cases h6 : k = 6
    · obtain ⟨rfl, rfl⟩ := okB_sn ho (.inr h6)
      obtain ⟨x, y, r, rfl, hx6, _⟩ := okB6 ho h6
      have hx := stepF_hd ho hr h6
      have hx5 : x.k ≠ 5 := fun e => by
        have : redexB (.mk k [] 0 (x :: y :: r)) = true := by show (k == 6 && x.k == 5) = true; rw [h6, e]; rfl
        rw [hr] at this; cases this
      have := run_list k (y :: r) [x] F (.inr ⟨x, [], rfl, hx5⟩) (fun u hu => by rw [List.mem_singleton.1 hu, hx])
      rw [show x :: y :: r = [x] ++ y :: r from rfl, this, show [x] ++ y :: r = x :: y :: r from rfl]
      conv => rhs; rw [runL, runS_zero (by rw [hx])]
      simp only [Option.bind_some]
      cases runL F (y :: r) with
      | none => rfl
      | some q => rfl
    · have : l = [] := okB0 ho h5 h6
      subst this
      rw [runS_zero (by rw [stepF_non hr]; rfl)]; rfl
/-- A step at the root. -/
theorem redex_mk (s s1 : List UInt8) (n n1 : Int) (body arg : Tm) (rest : List Tm) : redexB (.mk 6 s n (.mk 5 s1 n1 [body] :: arg :: rest)) = true := rfl
theorem run_redex0 {s s1 : List UInt8} {n n1 : Int} {body arg : Tm} {rest : List Tm} : runS 0 (.mk 6 s n (.mk 5 s1 n1 [body] :: arg :: rest)) = none := by
  have hF : stepF (.mk 6 s n (.mk 5 s1 n1 [body] :: arg :: rest)) = if roomT body arg = true then (applyF (suT 0 arg body 0) rest, 1) else (noT, 2) := by rw [stepF, if_pos (redex_mk ..)]; rfl
  rw [runS, hF]; split <;> simp
theorem run_redex {s s1 : List UInt8} {n n1 : Int} {body arg : Tm} {rest : List Tm} (F : Nat) : runS (F + 1) (.mk 6 s n (.mk 5 s1 n1 [body] :: arg :: rest)) = if roomT body arg = true then runS F (applyF (suT 0 arg body 0) rest) else none := by
  have hF : stepF (.mk 6 s n (.mk 5 s1 n1 [body] :: arg :: rest)) = if roomT body arg = true then (applyF (suT 0 arg body 0) rest, 1) else (noT, 2) := by rw [stepF, if_pos (redex_mk ..)]; rfl
  rw [runS, hF]
  by_cases h : roomT body arg = true
  · rw [if_pos h, if_neg (by simp), if_pos rfl, if_pos h]
  · rw [if_neg h, if_neg (by simp), if_neg (by simp), if_neg h]
theorem run_noroom {s s1 : List UInt8} {n n1 : Int} {body arg : Tm} {rest : List Tm} (F : Nat) (h : ¬ roomT body arg = true) : runS F (.mk 6 s n (.mk 5 s1 n1 [body] :: arg :: rest)) = none := by
  cases F with
  | zero => exact run_redex0
  | succ F => rw [run_redex, if_neg h]
/-! Normal: there is no step. -/
mutual
theorem norm_step : ∀ t : Tm, normB t = true ↔ (stepF t).2 = 0
  | .mk k s n l => by
    by_cases q : redexB (.mk k s n l) = true
    · rw [normB, q, stepF, if_pos q]
      constructor
      · intro h; cases h
      · intro h; split at h <;> cases h
    · have q : redexB (.mk k s n l) = false := by simpa using q
      rw [normB, q, stepF_non q, Bool.not_false, Bool.true_and, norm_steps l]
      constructor
      · intro h; rw [if_pos h]
      · intro h
        split at h
        · assumption
        · split at h <;> cases h
theorem norm_steps : ∀ l : List Tm, normL l = true ↔ (stepL l).2 = 0
  | [] => by simp [normL, stepL]
  | t :: l => by
    rw [normL, Bool.and_eq_true, norm_step t, norm_steps l, stepL]
    constructor
    · rintro ⟨h1, h2⟩; rw [if_pos h1]; exact h2
    · intro h
      split at h
      · rename_i h0; exact ⟨h0, h⟩
      · rename_i h0; exact absurd h h0
end

end Go.AM

set_option maxRecDepth 100000
open Go Go.Proofs
namespace Go.AM

/-! ### At the head -/
mutual
def hnB : Tm → Bool
  | .mk k s n l => !redexB (.mk k s n l) && (if (k == 5) = true then hnL l else true)
def hnL : List Tm → Bool
  | [] => true
  | t :: l => hnB t && hnL l
end
theorem hn_redex {t : Tm} (h : hnB t = true) : redexB t = false := by
  obtain ⟨k, s, n, l⟩ := t
  rw [hnB, Bool.and_eq_true] at h
  simpa using h.1
/-- What a run of head comes to. -/
def HeadR (F : Nat) (f : Int) (t : Tm) (A : Tm → Int → Int → Prop) : Prop :=
  (∃ h G, hnB h = true ∧ runS F t = runS G h ∧ G ≤ F ∧ (G = F → h = t) ∧ (hnB t = true → h = t ∧ G = F) ∧ Fit G h ∧ h.sz + 4200 * G ≤ t.sz + 4200 * F ∧ A h 0 (f - (F - G : Nat))) ∨ (runS F t = none ∧ hnB t = false ∧ ∃ f', A noT 80 f')
/-! ### All steps -/
def NormR (F : Nat) (f : Int) (t : Tm) (A : Tm → Int → Int → Prop) : Prop :=
  (∃ u G, runS F t = some (u, G) ∧ G ≤ F ∧ A u 0 (f - (F - G : Nat))) ∨ (runS F t = none ∧ ∃ f', A noT 80 f')
def NormL (F : Nat) (f : Int) (l : List Tm) (A : List Tm → Int → Prop) (N : Prop) : Prop :=
  (∃ u G, runL F l = some (u, G) ∧ G ≤ F ∧ A u (f - (F - G : Nat))) ∨ (runL F l = none ∧ N)
end Go.AM

set_option maxRecDepth 100000
open Go Go.Proofs
namespace Go.AM

abbrev aTNE (t : Tm) (n e : Int) : TV := .tup [(true, cT t), (false, [.a (.fz (.int .i64 n))]), (false, [.a (.fz (.int .i64 e))])]
theorem leTNE {k n e m : Int} {s : List UInt8} {x : FV} {l : List Tm} (h : FV.Le x (.sl false 4 (FTs l))) : TV.Le (.tup [(true, [.a (.fz (.int .i64 k)), .a (.fz (.str s)), .a (.fz (.int .i64 n)), .a (.fz x)]), (false, [.a (.fz (.int .i64 m))]), (false, [.a (.fz (.int .i64 e))])]) (aTNE (.mk k s n l) m e) := by
  refine .tup _ _ rfl fun i p q hp hq => ?_
  match i, hp, hq with
  | 0, hp, hq =>
    simp only [List.getElem?_cons_zero, Option.some.injEq] at hp hq
    subst hp; subst hq
    refine ⟨rfl, rfl, fun j x y hx hy => ?_⟩
    match j, hx, hy with
    | 0, hx, hy => simp at hx hy; subst hx; subst hy; exact .refl _
    | 1, hx, hy => simp at hx hy; subst hx; subst hy; exact .refl _
    | 2, hx, hy => simp at hx hy; subst hx; subst hy; exact .refl _
    | 3, hx, hy => simp at hx hy; subst hx; subst hy; exact .a _ _ (.fz _ _ h)
    | j + 4, hx, _ => simp at hx
  | 1, hp, hq =>
    simp only [List.getElem?_cons_zero, List.getElem?_cons_succ, Option.some.injEq] at hp hq
    subst hp; subst hq
    exact ⟨rfl, rfl, fun j x y hx hy => by rw [hx] at hy; injection hy with hy; subst hy; exact .refl _⟩
  | 2, hp, hq =>
    simp only [List.getElem?_cons_zero, List.getElem?_cons_succ, Option.some.injEq] at hp hq
    subst hp; subst hq
    exact ⟨rfl, rfl, fun j x y hx hy => by rw [hx] at hy; injection hy with hy; subst hy; exact .refl _⟩
  | i + 3, hp, _ => simp at hp
/-- What Norm comes to. -/
def normV (F : Nat) (f : Int) (t : Tm) : Tm × Int × Int :=
  if validB t = true then (match runS F t with | some (u, G) => (u, f - ((F - G : Nat) : Int), 0) | none => (noT, 0, 80)) else (noT, 0, 1)
/-! ### What is looked at -/
mutual
theorem left_nd : ∀ (t : Tm) (m : Int), 0 ≤ leftF t m → (t.sz : Int) ≤ m - leftF t m
  | .mk _ s _ l, m, h => by
    simp only [leftF] at h ⊢
    have := left_nds l (m - 1) h
    simp only [Tm.sz]; omega
theorem left_nds : ∀ (l : List Tm) (m : Int), 0 ≤ leftL l m → (Tm.szs l : Int) ≤ m - leftL l m
  | [], m, h => by simp [leftL, Tm.szs]
  | t :: l, m, h => by
    simp only [leftL] at h ⊢
    split at h
    · rename_i h0
      rw [if_pos h0]
      have h1 := left_nds l _ h
      have h3 := (leftL_le l (leftF t m)).1
      have h2 := left_nd t m (by omega)
      simp only [Tm.szs]; omega
    · rename_i h0; exact absurd h h0
end
theorem large_sz {t : Tm} {m : Int} (h : large t m = false) : (t.sz : Int) ≤ m := by
  have h := of_decide_eq_false h
  have := left_nd t m (by omega)
  omega
def over60 (t : Tm) : Bool := large t 60 || !near 1099511627776 t
theorem okay60 {t : Tm} (h : over60 t = false) : t.sz ≤ 60 ∧ bd 1099511627776 t := by
  simp only [over60, Bool.or_eq_false_iff] at h
  have := large_sz h.1
  exact ⟨by omega, near_bd t (by simpa using h.2)⟩
theorem fit60 {t : Tm} (h : over60 t = false) (hv : validB t = true) {F : Nat} (hF : F ≤ 5000) : Fit F t := by
  obtain ⟨h1, h2⟩ := okay60 h
  exact ⟨valid_ok t hv, by simp only [SZ]; omega, bd_le (by simp only [M61, SZ]; omega) _ h2, hF⟩
/-! ### The document's examples -/
theorem args1 {a : List FV} {x : Tm} (ha : LeR a (FT x)) : TV.Le (.c (.a (.fz (.sl false 4 [a])))) (aL [x]) := le_c (leRows rfl fun i r t hr ht => by
  match i, hr, ht with
  | 0, hr, ht => simp only [List.getElem?_cons_zero, Option.some.injEq] at hr ht; subst hr; subst ht; exact ha
  | i + 1, hr, _ => simp at hr)
theorem args2 {a b : List FV} {x y : Tm} (ha : LeR a (FT x)) (hb : LeR b (FT y)) : TV.Le (.c (.a (.fz (.sl false 4 [a, b])))) (aL [x, y]) := le_c (leRows rfl fun i r t hr ht => by
  match i, hr, ht with
  | 0, hr, ht => simp only [List.getElem?_cons_zero, Option.some.injEq] at hr ht; subst hr; subst ht; exact ha
  | 1, hr, ht => simp only [List.getElem?_cons_zero, List.getElem?_cons_succ, Option.some.injEq] at hr ht; subst hr; subst ht; exact hb
  | i + 2, hr, _ => simp at hr)
theorem e0 {k n : Int} {s : List UInt8} : TV.Le (.agg [.a (.fz (.int .i64 k)), .a (.fz (.str s)), .a (.fz (.int .i64 n)), .a (.fz .nils)]) (aT (.mk k s n [])) := leT leNil
abbrev exZ : Tm := .mk 3 [] 0 []
/-- Of terms that are written out. -/
def fitD (F : Nat) (t : Tm) : Bool := okB t && decide (t.sz ≤ 60) && near 1099511627776 t && decide (F ≤ 5000)
theorem fit_of {F : Nat} {t : Tm} (h : fitD F t = true) : Fit F t := by
  simp only [fitD, Bool.and_eq_true, decide_eq_true_eq] at h
  exact ⟨h.1.1.1, by simp only [SZ]; omega, bd_le (by simp only [M61, SZ]; omega) _ (near_bd t h.1.2), h.2⟩
end Go.AM

set_option maxRecDepth 100000
open Go Go.Proofs
namespace Go.AM

/-! ### Leaves that may be -/
mutual
def lvB : Tm → Bool
  | .mk k s n l => if (k == 5 || k == 6) = true then lvL l else validB (.mk k s n l)
def lvL : List Tm → Bool
  | [] => true
  | t :: l => lvB t && lvL l
end
theorem lvL_mem : ∀ {l : List Tm} {t : Tm}, lvL l = true → t ∈ l → lvB t = true
  | x :: l, t, h, hm => by
    simp only [lvL, Bool.and_eq_true] at h
    rcases List.mem_cons.1 hm with rfl | hm
    · exact h.1
    · exact lvL_mem h.2 hm
theorem lvL_of : ∀ {l : List Tm}, (∀ t ∈ l, lvB t = true) → lvL l = true
  | [], _ => rfl
  | t :: l, h => by simp only [lvL, h t List.mem_cons_self, lvL_of (l := l) fun u hu => h u (List.mem_cons_of_mem _ hu), Bool.and_self]
theorem lvB_in {k n : Int} {s : List UInt8} {l : List Tm} (hk : k = 5 ∨ k = 6) : lvB (.mk k s n l) = lvL l := by
  rw [lvB, if_pos (by rcases hk with rfl | rfl <;> rfl)]
theorem lvB_out {k n : Int} {s : List UInt8} {l : List Tm} (h5 : k ≠ 5) (h6 : k ≠ 6) : lvB (.mk k s n l) = validB (.mk k s n l) := by
  rw [lvB, if_neg (by simp [h5, h6])]
theorem valid5 {s : List UInt8} {n : Int} {l : List Tm} : validB (.mk 5 s n l) = (n == 0 && s == [] && decide (l.length = 1) && validL l) := by
  rw [validB, lenI]
  simp only [show ((5 : Int) == 0) = false from rfl, show ((5 : Int) == 1) = false from rfl, show ((5 : Int) == 2) = false from rfl, show ((5 : Int) == 3) = false from rfl, show ((5 : Int) == 4) = false from rfl, Bool.false_eq_true, if_false, show ((5 : Int) == 5) = true from rfl, if_true]
  congr 2
  by_cases h : l.length = 1
  · rw [h]; rfl
  · rw [decide_eq_false h]; simp; omega
theorem valid6 {s : List UInt8} {n : Int} {l : List Tm} : validB (.mk 6 s n l) = (n == 0 && decide (2 ≤ l.length) && ((hd l).k != 6) && s == [] && validL l) := by
  rw [validB, lenI]
  simp only [show ((6 : Int) == 0) = false from rfl, show ((6 : Int) == 1) = false from rfl, show ((6 : Int) == 2) = false from rfl, show ((6 : Int) == 3) = false from rfl, show ((6 : Int) == 4) = false from rfl, show ((6 : Int) == 5) = false from rfl, Bool.false_eq_true, if_false, show ((6 : Int) == 6) = true from rfl, if_true]
  congr 4
  by_cases h : 2 ≤ l.length
  · rw [decide_eq_true h, decide_eq_true (by omega)]
  · rw [decide_eq_false h, decide_eq_false (by omega)]
mutual
theorem valid_iff : ∀ t : Tm, validB t = (okB t && lvB t)
  | .mk k s n l => by
    by_cases h5 : k = 5
    · subst h5
      rw [valid5, lvB_in (.inl rfl), valid_iffL l, okB]
      cases okL l <;> cases lvL l <;> simp [Bool.and_comm, Bool.and_assoc, Bool.and_left_comm]
    · by_cases h6 : k = 6
      · subst h6
        rw [valid6, lvB_in (.inr rfl), valid_iffL l, okB]
        cases okL l <;> cases lvL l <;> simp [Bool.and_comm, Bool.and_assoc, Bool.and_left_comm]
      · rw [lvB_out h5 h6]
        cases hv : validB (.mk k s n l) with
        | false => simp
        | true => rw [valid_ok _ hv]; rfl
theorem valid_iffL : ∀ l : List Tm, validL l = (okL l && lvL l)
  | [] => rfl
  | t :: l => by
    rw [validL, okL, lvL, valid_iff t, valid_iffL l]
    cases okB t <;> cases lvB t <;> simp
end
theorem valid_lv {t : Tm} (h : validB t = true) : lvB t = true := by rw [valid_iff] at h; simp at h; exact h.2
theorem applyF_lv {f : Tm} {args : List Tm} (hf : lvB f = true) (ha : lvL args = true) : lvB (applyF f args) = true := by
  match args, ha with
  | [], _ => exact hf
  | a :: r, ha =>
    obtain ⟨k, s, n, l⟩ := f
    rw [apply_some]
    split
    · rename_i h
      have hk : k = 6 := by simpa using h.1
      rw [lvB_in (.inr hk)] at hf
      rw [lvB_in (.inr rfl)]
      exact lvL_of fun t ht => by
        rcases List.mem_append.1 ht with ht | ht
        · exact lvL_mem hf ht
        · exact lvL_mem ha ht
    · rw [lvB_in (.inr rfl)]
      simp only [lvL, Bool.and_eq_true] at ha ⊢
      exact ⟨hf, ha⟩
theorem withF_lv {t : Tm} {o : List Tm} (hk : t.k = 5 ∨ t.k = 6) (ho : lvL o = true) : lvB (withF t o) = true := by
  obtain ⟨k, s, n, l⟩ := t
  unfold withF
  split
  · rename_i hc
    match o, ho, hc with
    | [], _, hc => exact absurd hc.2.1 (by simp)
    | x :: r, ho, hc =>
      simp only [lvL, Bool.and_eq_true] at ho
      exact applyF_lv ho.1 ho.2
  · exact (lvB_in hk).trans ho
mutual
theorem walkF_lv (lf : Tm → Int → Tm) (Q : Tm → Int → Prop) (hq : ∀ k s n l d, Q (.mk k s n l) d → ∀ u ∈ l, Q u (d + if (k == 5) = true then 1 else 0)) (h : ∀ u d, lvB u = true → Q u d → u.k ≠ 5 → u.k ≠ 6 → lvB (lf u d) = true) : ∀ (t : Tm) (d : Int), lvB t = true → Q t d → lvB (walkF lf t d) = true
  | .mk k s n l, d, ho, hQ => by
    rw [walkF]
    split
    · rename_i hk
      have hk : k = 5 ∨ k = 6 := by simpa using hk
      rw [lvB_in hk] at ho
      exact withF_lv hk (walkL_lv lf Q hq h l _ ho (hq k s n l d hQ))
    · rename_i hk
      exact h _ _ ho hQ (fun e => hk (by simp [show k = 5 from e])) (fun e => hk (by simp [show k = 6 from e]))
theorem walkL_lv (lf : Tm → Int → Tm) (Q : Tm → Int → Prop) (hq : ∀ k s n l d, Q (.mk k s n l) d → ∀ u ∈ l, Q u (d + if (k == 5) = true then 1 else 0)) (h : ∀ u d, lvB u = true → Q u d → u.k ≠ 5 → u.k ≠ 6 → lvB (lf u d) = true) : ∀ (l : List Tm) (d : Int), lvL l = true → (∀ u ∈ l, Q u d) → lvL (walkL lf l d) = true
  | [], _, _, _ => rfl
  | t :: l, d, ho, hQ => by
    simp only [lvL, Bool.and_eq_true] at ho
    simp only [walkL, lvL, walkF_lv lf Q hq h t d ho.1 (hQ t List.mem_cons_self), walkL_lv lf Q hq h l d ho.2 (fun u hu => hQ u (List.mem_cons_of_mem _ hu)), Bool.and_self]
end
theorem valid3 {s : List UInt8} {n : Int} {l : List Tm} : validB (.mk 3 s n l) = true ↔ 0 ≤ n ∧ n ≤ 4611686018427387904 ∧ s = [] ∧ l = [] := by
  rw [validB, lenI]
  simp only [show ((3 : Int) == 0) = false from rfl, show ((3 : Int) == 1) = false from rfl, show ((3 : Int) == 2) = false from rfl, Bool.false_eq_true, if_false, show ((3 : Int) == 3) = true from rfl, if_true]
  simp only [Bool.and_eq_true, decide_eq_true_eq, beq_iff_eq]
  constructor
  · rintro ⟨⟨⟨⟨h1, h2⟩, h3⟩, h4⟩, _⟩
    exact ⟨h1, h2, h3, List.eq_nil_of_length_eq_zero (by omega)⟩
  · rintro ⟨h1, h2, rfl, rfl⟩
    exact ⟨⟨⟨⟨h1, h2⟩, rfl⟩, rfl⟩, rfl⟩
/-- Shifted upwards. -/
theorem shT_lv {by_ M D : Int} (h0 : 0 ≤ by_) (hM : M + by_ ≤ 4611686018427387904) (t : Tm) (d : Int) (fr : Int) (hb : bd M t) (h : lvB t = true) (_ : d ≤ D) : lvB (shT fr by_ t d) = true := by
  refine walkF_lv _ (fun u _ => bd M u) (fun k s n l d hQ u hu => bds_mem hQ.2 hu) (fun u d hu hQ h5 h6 => ?_) t d h hb
  unfold shLeaf
  split
  · rename_i hc
    obtain ⟨k, s, n, l⟩ := u
    have hk : k = 3 := by have hc := hc.1; have hc : (k == 3) = true := hc; simpa using hc
    subst hk
    rw [lvB_out (by decide) (by decide), valid3] at hu
    have hb := hQ.1 rfl
    show lvB (.mk 3 s (n + by_) l) = true
    rw [lvB_out (by decide) (by decide), valid3]
    exact ⟨by omega, by omega, hu.2.2.1, hu.2.2.2⟩
  · exact hu
theorem suT_lv {i M : Int} {s t : Tm} {D : Int} (hi : 0 ≤ i) (hM : M + D ≤ 4611686018427387904) (hbs : bd M s) (hs : lvB s = true) (hl : lvB t = true) (d : Int) (h0 : 0 ≤ d) (hD : d + t.sz ≤ D) : lvB (suT i s t d) = true := by
  refine walkF_lv _ (fun u d => 0 ≤ d ∧ d + u.sz ≤ D) (fun k s n l d hQ u hu => ?_) (fun u d hu hQ h5 h6 => ?_) t d hl ⟨h0, hD⟩
  · have := Tm.szs_mem hu
    simp only [Tm.sz] at hQ
    constructor
    · have := hQ.1; split <;> omega
    · have := hQ.2; split <;> omega
  · unfold suLeaf
    split
    · rename_i hc
      split
      · exact hu
      · rename_i hlt
        split
        · have := hQ.2
          exact shT_lv hQ.1 (D := 0) (by omega) s 0 0 hbs hs (Int.le_refl _)
        · rename_i hne
          obtain ⟨k, s', n, l⟩ := u
          have hk : k = 3 := by have hc : (k == 3) = true := hc; simpa using hc
          subst hk
          rw [lvB_out (by decide) (by decide), valid3] at hu
          have h1 : ¬ n < d + i := hlt
          have h2 : n ≠ d + i := fun e => hne (by rw [show Tm.n (.mk 3 s' n l) = n from rfl, e]; simp)
          show lvB (.mk 3 s' (n - 1) l) = true
          rw [lvB_out (by decide) (by decide), valid3]
          have := hQ.1
          exact ⟨by omega, by omega, hu.2.2.1, hu.2.2.2⟩
    · exact hu
mutual
theorem stepF_lv (M : Int) (hM : M + SZ ≤ 4611686018427387904) : ∀ t : Tm, okB t = true → t.sz ≤ SZ → bd M t → lvB t = true → (stepF t).2 = 1 → lvB (stepF t).1 = true
  | .mk k s n l, ho, hs, hb, hl, h1 => by
    by_cases q : redexB (.mk k s n l) = true
    · obtain ⟨s', n', s1, n1, body, arg, rest, e, ob, oa, orr⟩ := redex_shape ho q
      injection e with e1 e2 e3 e4
      subst e1; subst e2; subst e3; subst e4
      have hF : stepF (.mk 6 s n (.mk 5 s1 n1 [body] :: arg :: rest)) = if roomT body arg = true then (applyF (suT 0 arg body 0) rest, 1) else (noT, 2) := by rw [stepF, if_pos q]; rfl
      rw [hF] at h1 ⊢
      by_cases hr : roomT body arg = true
      · rw [if_pos hr]
        rw [lvB_in (.inr rfl)] at hl
        simp only [lvL, Bool.and_eq_true] at hl
        have hb0 : lvB body = true := by have := hl.1; rw [lvB_in (.inl rfl)] at this; simpa [lvL] using this
        simp only [Tm.sz, Tm.szs] at hs
        exact applyF_lv (suT_lv (M := M) (D := SZ) (Int.le_refl _) hM hb.2.2.1 hl.2.1 hb0 0 (Int.le_refl _) (by omega)) hl.2.2
      · rw [if_neg hr] at h1; cases h1
    · have q : redexB (.mk k s n l) = false := by simpa using q
      rw [stepF_non q] at h1 ⊢
      split at h1
      · cases h1
      split at h1
      · rename_i h0 h2
        rw [if_neg h0, if_pos h2]
        simp only [Tm.sz] at hs
        have hk : k = 5 ∨ k = 6 := by
          by_cases k5 : k = 5
          · exact .inl k5
          · by_cases k6 : k = 6
            · exact .inr k6
            · have : l = [] := okB0 ho k5 k6
              subst this
              exact absurd rfl h0
        rw [lvB_in hk] at hl
        show lvB (.mk k [] 0 (stepL l).1) = true
        rw [lvB_in hk]
        exact stepL_lv M hM l (okB_l ho) (by omega) hb.2 hl h2
      · cases h1
theorem stepL_lv (M : Int) (hM : M + SZ ≤ 4611686018427387904) : ∀ l : List Tm, okL l = true → Tm.szs l ≤ SZ → bds M l → lvL l = true → (stepL l).2 = 1 → lvL (stepL l).1 = true
  | [], _, _, _, _, h => by cases h
  | t :: l, ho, hs, hb, hl, h => by
    simp only [okL, Bool.and_eq_true] at ho
    simp only [Tm.szs] at hs
    simp only [lvL, Bool.and_eq_true] at hl
    rw [stepL] at h ⊢
    split at h
    · rename_i h0
      rw [if_pos h0]
      simp only [lvL, hl.1, stepL_lv M hM l ho.2 (by omega) hb.2 hl.2 h, Bool.and_self]
    · rename_i h0
      rw [if_neg h0]
      simp only [lvL, hl.2, stepF_lv M hM t ho.1 (by omega) hb.1 hl.1 h, Bool.and_self]
end
theorem runS_lv : ∀ {F : Nat} {t u : Tm} {G : Nat}, Fit F t → lvB t = true → runS F t = some (u, G) → lvB u = true
  | 0, t, u, G, hf, hl, h => by
    rw [runS] at h
    split at h
    · injection h with h; injection h with h1 h2; subst h1; exact hl
    · cases h
  | F + 1, t, u, G, hf, hl, h => by
    rw [runS] at h
    split at h
    · injection h with h; injection h with h1 h2; subst h1; exact hl
    · split at h
      · rename_i h1
        exact runS_lv (hf.next h1) (stepF_lv M61 (by simp only [M61, SZ]; omega) t hf.ok hf.sz hf.bd hl h1) h
      · cases h

end Go.AM

set_option maxRecDepth 100000
open Go Go.Proofs
namespace Go.AM

/-! ### Stores -/
theorem kid_valid {k n : Int} {s : List UInt8} {l : List Tm} (h : validB (.mk k s n l) = true) (hk : k = 5 ∨ k = 6) : ∀ u ∈ l, validB u = true := fun u hu => by
  rw [valid_iff, Bool.and_eq_true] at h ⊢
  have h1 := okB_l h.1
  have h2 := h.2
  rw [lvB_in hk] at h2
  exact ⟨okL_mem h1 hu, lvL_mem h2 hu⟩
/-- Results, cell by cell. -/
def LeW (p q : Bool × List WV) : Prop := p.1 = q.1 ∧ All2 WV.Le p.2 q.2
theorem all2_get {α β : Type} {R : α → β → Prop} : ∀ {a : List α} {b : List β}, All2 R a b → a.length = b.length ∧ ∀ (i : Nat) (x : α) (y : β), a[i]? = some x → b[i]? = some y → R x y
  | [], [], _ => ⟨rfl, fun i x y hx _ => by simp at hx⟩
  | x :: a, y :: b, h => by
    have := all2_get h.2
    refine ⟨by simp [this.1], fun i u v hu hv => ?_⟩
    match i, hu, hv with
    | 0, hu, hv => simp at hu hv; subst hu; subst hv; exact h.1
    | i + 1, hu, hv => exact this.2 i u v (by simpa using hu) (by simpa using hv)
  | [], _ :: _, h => h.elim
  | _ :: _, [], h => h.elim
theorem le_tup {a b : List (Bool × List WV)} (h : All2 LeW a b) : TV.Le (.tup a) (.tup b) := by
  have := all2_get h
  refine .tup _ _ this.1 fun i p q hp hq => ?_
  have h1 := this.2 i p q hp hq
  have h2 := all2_get h1.2
  exact ⟨h1.1, h2.1, h2.2⟩
theorem leWn : WV.Le (.a (.fz .nils)) (.a (.fz (.sl false 4 (FTs [])))) := .a _ _ (.fz _ _ leNil)
theorem lw1 {x y : WV} {b : Bool} (h : WV.Le x y) : LeW (b, [x]) (b, [y]) := ⟨rfl, h, trivial⟩
theorem lwT {k n : Int} {s : List UInt8} {x : FV} {l : List Tm} {b : Bool} (h : FV.Le x (.sl false 4 (FTs l))) : LeW (b, [.a (.fz (.int .i64 k)), .a (.fz (.str s)), .a (.fz (.int .i64 n)), .a (.fz x)]) (b, cT (.mk k s n l)) := ⟨rfl, .refl _, .refl _, .refl _, .a _ _ (.fz _ _ h), trivial⟩
theorem lwR (p : Bool × List WV) : LeW p p := by
  obtain ⟨b, l⟩ := p
  refine ⟨rfl, ?_⟩
  show All2 WV.Le l l
  induction l with
  | nil => trivial
  | cons x l ih => exact ⟨.refl _, ih⟩
theorem SR_length (l : List Inf) : (SR l).length = l.length := by simp [SR]
theorem SR_get {l : List Inf} {i : Nat} (h : i < l.length) : List.getD (SR l) i [] = Inf.c l[i] := by simp [SR, List.getD, h]
theorem SR_append (a b : List Inf) : SR (a ++ b) = SR a ++ SR b := by simp [SR]
abbrev noI : Inf := ⟨0, false, noT⟩
/-- A store's pointer; the objects. -/
abbrev aS (o : Nat) : TV := .c (.a (.ep o 2 0 0))
abbrev sto2 (a b : Nat) (s : Sto) : AObj := .arr 2 [[.a (.osl a 6 0 s.V.length), .a (.osl b 1 0 s.T.length)]]
abbrev oS (s : Sto) : List AObj := [sto2 1 2 s, .arz 6 (SR s.V), .arz 1 (IR s.T)]
abbrev oSf (s : Sto) (f : Int) : List AObj := [sto2 1 2 s, .arz 6 (SR s.V), .arz 1 (IR s.T), obj1 f]
/-- What is known. -/
def infOf (V : List Inf) (x : Int) : Inf := if 0 ≤ x ∧ x < (V.length : Int) then (V[x.toNat]?).getD noI else noI
def inB (V : List Inf) (x : Int) : Bool := decide (0 ≤ x) && decide (x < (V.length : Int))
theorem infOf_in {V : List Inf} {x : Int} (h0 : 0 ≤ x) (h1 : x < (V.length : Int)) : ∃ h : x.toNat < V.length, infOf V x = V[x.toNat] := by
  have h : x.toNat < V.length := by omega
  exact ⟨h, by rw [infOf, if_pos ⟨h0, h1⟩, List.getElem?_eq_getElem h]; rfl⟩
theorem infOf_out {V : List Inf} {x : Int} (h : ¬ (0 ≤ x ∧ x < (V.length : Int))) : infOf V x = noI := if_neg h
abbrev tI (i : Inf) (b : Bool) : TV := .tup [(true, [.a (.fz (.int .i64 i.lv)), .a (.fz (.bool i.bd)), .a (.fz (.int .i64 i.v.k)), .a (.fz (.str i.v.s)), .a (.fz (.int .i64 i.v.n)), .a (.fz (.sl false 4 (FTs i.v.l)))]), (false, [.a (.fz (.bool b))])]
theorem inf_no {c d : Bool} (h : c = d) {n : Nat} : TV.Le (.tup [(true, [.a (.fz (.int .i64 0)), .a (.fz (.bool false)), .a (.fz (.int .i64 0)), .a (.fz (.str [])), .a (.fz (.int .i64 0)), .a (.fz .nils)]), (false, [.a (.fz (.bool c))])]) (tI noI d) ∧ n = n := by
  subst h
  exact ⟨le_tup ⟨⟨rfl, .refl _, .refl _, .refl _, .refl _, .refl _, leWn, trivial⟩, lwR _, trivial⟩, rfl⟩
theorem c_snew : AC Try.prog 14 [] [] (aS 0) (oS ⟨[], []⟩) := by
  refine AC.vc hP sh lv14 (by simp) (by simp) (by simp [isLive]) (Eq.mpr (v14 ..) ?_)
  exact ⟨.refl _, rfl⟩
theorem c_sinfo (s : Sto) (x : Int) : AC Try.prog 56 [aS 0, ci x] (oS s) (tI (infOf s.V x) (inB s.V x)) (oS s) := by
  refine AC.vc hP sh lv56 (Nat.le_refl _) (by simp [isLive]) (by simp) (Eq.mpr (v56 ..) ?_)
  refine br_of (fun h => ?_) (fun h => br_of (fun h' => ?_) (fun h' => ?_))
  · have h := of_decide_eq_true h
    rw [infOf_out (by omega)]
    exact ⟨(inf_no (by simp [inB]; omega) (n := 0)).1, rfl⟩
  · have h' := of_decide_eq_true h'
    rw [infOf_out (by omega)]
    exact ⟨(inf_no (by simp [inB]; omega) (n := 0)).1, rfl⟩
  · have h := of_decide_eq_false h
    have h' := of_decide_eq_false h'
    obtain ⟨hl, e⟩ := infOf_in (V := s.V) (x := x) (by omega) (by omega)
    rw [e, show List.getD (SR s.V) (0 + Int.toNat x) [] = Inf.c s.V[x.toNat] by rw [Nat.zero_add, SR_get hl], show inB s.V x = true by simp [inB]; omega]
    refine ⟨⟨by omega, by omega⟩, ⟨by rw [SR_length]; omega, rfl, rfl⟩, .refl _, rfl⟩
/-- What a term's variable stands for; does it? -/
def valS (s : Sto) (t : Tm) : Tm := (infOf s.V t.n).v
def valB (s : Sto) (t : Tm) : Bool := t.k == 4 && (infOf s.V t.n).bd
theorem c_svalue (s : Sto) (t : Tm) : AC Try.prog 50 [aS 0, aT t] (oS s) (.tup [(true, cT (valS s t)), (false, [.a (.fz (.bool (valB s t)))])]) (oS s) := by
  have hi := c_sinfo s t.n
  obtain ⟨k, str, n, l⟩ := t
  refine AC.vc hP sh lv50 (Nat.le_refl _) (by simp [isLive]) (by simp) (Eq.mpr (v50 k str n (FTs l) ..) ?_)
  have out : inB s.V n = false → (infOf s.V n).bd = false := fun h => by
    rw [infOf_out (by simp [inB] at h; omega)]
  refine ⟨(_, _, _, _), hi, br_of (fun h => br_of (fun h' => ?_) (fun h' => ?_)) (fun h => ?_)⟩
  · refine ⟨?_, rfl⟩
    show TV.Le _ (.tup [(true, cT (infOf s.V n).v), (false, [.a (.fz (.bool (k == 4 && (infOf s.V n).bd)))])])
    rw [show (k == 4) = true from h]; exact .refl _
  · refine ⟨?_, rfl⟩
    show TV.Le _ (.tup [(true, cT (infOf s.V n).v), (false, [.a (.fz (.bool (k == 4 && (infOf s.V n).bd)))])])
    rw [out h', Bool.and_false]; exact .refl _
  · refine ⟨?_, rfl⟩
    show TV.Le _ (.tup [(true, cT (infOf s.V n).v), (false, [.a (.fz (.bool (k == 4 && (infOf s.V n).bd)))])])
    rw [show (k == 4) = false from h]; exact .refl _
/-- What variables may stand for. -/
def OKV (v : Tm) : Prop := validB v = true ∧ v.sz ≤ 4000 ∧ bd 2199023255552 v
def OKS (s : Sto) : Prop := ∀ i ∈ s.V, i.bd = true → OKV i.v
theorem OKS.val {s : Sto} (h : OKS s) {t : Tm} (hb : valB s t = true) : OKV (valS s t) := by
  simp only [valB, Bool.and_eq_true] at hb
  by_cases q : 0 ≤ t.n ∧ t.n < (s.V.length : Int)
  · obtain ⟨hl, e⟩ := infOf_in q.1 q.2
    rw [valS, e]
    rw [e] at hb
    exact h _ (List.getElem_mem hl) hb.2
  · rw [infOf_out q] at hb; simp [noI] at hb
/-- One step at the head: 0: there is none, 2: too large. -/
def stepS (s : Sto) (t : Tm) : Tm × Int :=
  if valB s t = true then (valS s t, 1) else if t.k ≠ 6 then (t, 0)
  else if valB s (hd t.l) = true then (applyF (valS s (hd t.l)) (t.l.drop 1), 1) else if (hd t.l).k ≠ 5 then (t, 0)
  else (applyF (conF (hd (hd t.l).l) (hd (t.l.drop 1))) (t.l.drop 2), if roomT (hd (hd t.l).l) (hd (t.l.drop 1)) = true then 1 else 2)
theorem stepS_n (s : Sto) (t : Tm) : (stepS s t).2 = 0 ∨ (stepS s t).2 = 1 ∨ (stepS s t).2 = 2 := by
  unfold stepS
  split
  · exact .inr (.inl rfl)
  · split
    · exact .inl rfl
    · split
      · exact .inr (.inl rfl)
      · split
        · exact .inl rfl
        · simp only; split
          · exact .inr (.inl rfl)
          · exact .inr (.inr rfl)
theorem take_nat (t : List (List FV)) : List.take (Int.toNat ((t.length : Nat) : Int)) t = t := by rw [Int.toNat_natCast, List.take_of_length_le (Nat.le_refl _)]
theorem aE0 (x : Tm) (l : List Tm) : aE (List.getD (FTs (x :: l)) 0 []) = aT x := aE_FT x
theorem aE1 (x y : Tm) (l : List Tm) : aE (List.getD (FTs (x :: y :: l)) 1 []) = aT y := aE_FT y
theorem asI0 (x : Tm) (l : List Tm) : FV.asI (List.getD (List.getD (FTs (x :: l)) 0 []) 0 FV.nils) = x.k := by cases x; rfl
theorem c_sstep (s : Sto) (hs : OKS s) (t : Tm) (hv : validB t = true) (hz : t.sz ≤ SZ) (hb : bd M61 t) : AC Try.prog 47 [aS 0, aT t] (oS s) (aSt (stepS s t).1 (stepS s t).2) (oS s) := by
  have h1 := c_svalue s t
  have ok := valid_ok t hv
  obtain ⟨k, str, n, l⟩ := t
  refine AC.vc hP sh lv47 (Nat.le_refl _) (by simp [isLive]) (by simp) (Eq.mpr (v47 k str n (FTs l) ..) ?_)
  refine ⟨(_, _), h1, br_of (fun h => ?_) (fun h => br_of (fun h6 => ?_) (fun h6 => ?_))⟩
  · have h : valB s (.mk k str n l) = true := h
    rw [stepS, if_pos h]; exact ⟨.refl _, rfl⟩
  · have h : valB s (.mk k str n l) = false := h
    have h6 : k ≠ 6 := by simpa using h6
    rw [stepS, if_neg (by rw [h]; simp), if_pos (show Tm.k (.mk k str n l) ≠ 6 from h6)]; exact ⟨.refl _, rfl⟩
  have h : valB s (.mk k str n l) = false := h
  have h6 : k = 6 := by simpa using h6
  obtain ⟨x, y, r, rfl, hx6, hl⟩ := okB6 ok h6
  simp only [okL, Bool.and_eq_true] at hl
  subst h6
  simp only [Tm.sz, Tm.szs, SZ] at hz
  have szr := Tm.szs_length r
  have bx := hb.2.1
  have by_ := hb.2.2.1
  have h2 := c_svalue s x
  have e1 : List.drop 1 (List.take (Int.toNat (((FTs (x :: y :: r)).length : Nat) : Int)) (FTs (x :: y :: r))) = FTs (y :: r) := by rw [take_nat]; rfl
  have e2 : List.drop 2 (List.take (Int.toNat (((FTs (x :: y :: r)).length : Nat) : Int)) (FTs (x :: y :: r))) = FTs r := by rw [take_nat]; rfl
  rw [e1, e2, aE0, aE1, asI0]
  have len : ∀ n : Nat, n ≤ 2 → ((n : Nat) : Int) ≤ (((FTs (x :: y :: r)).length : Nat) : Int) := fun n hn => by rw [FTs_length]; simp only [List.length_cons]; omega
  have hS : stepS s (.mk 6 str n (x :: y :: r)) = if valB s x = true then (applyF (valS s x) (y :: r), 1) else if x.k ≠ 5 then (.mk 6 str n (x :: y :: r), 0) else (applyF (conF (hd x.l) y) r, if roomT (hd x.l) y = true then 1 else 2) := by
    rw [stepS, if_neg (by rw [h]; simp), if_neg (show ¬ Tm.k (.mk 6 str n (x :: y :: r)) ≠ 6 from fun e => e rfl)]; rfl
  refine ⟨el0 x (y :: r), (_, _), h2, br_of (fun h3 => ⟨rfl, ⟨by omega, len 1 (by omega), Int.le_refl _⟩, _, c_apply (valS s x) (y :: r) ?_, ?_⟩) (fun h3 => ⟨el0 x (y :: r), br_of (fun h5 => ?_) (fun h5 => ?_)⟩)⟩
  · have h3 : valB s x = true := h3
    have hv := (hs.val h3).2.1
    have := Tm.szs_length (valS s x).l
    have := (valS s x).sz_eq
    simp only [List.length_cons]; omega
  · have h3 : valB s x = true := h3
    rw [hS, if_pos h3]; exact ⟨.refl _, rfl⟩
  · have h3 : valB s x = false := h3
    have h5 : x.k ≠ 5 := by simpa using h5
    rw [hS, if_neg (by rw [h3]; simp), if_pos h5]; exact ⟨.refl _, rfl⟩
  · have h3 : valB s x = false := h3
    have h5 : x.k = 5 := by simpa using h5
    rw [hS, if_neg (by rw [h3]; simp), if_neg (by rw [h5]; simp)]
    have hvl := kid_valid hv (.inr rfl)
    have vx := hvl x List.mem_cons_self
    have vy := hvl y (List.mem_cons_of_mem _ List.mem_cons_self)
    obtain ⟨xk, xs, xn, xl⟩ := x
    have h5 : xk = 5 := h5
    subst h5
    obtain ⟨b, rfl, ob⟩ := okB5 hl.1 rfl
    have vb := kid_valid vx (.inl rfl) b List.mem_cons_self
    simp only [Tm.sz, Tm.szs] at hz
    have hc := c_bcontract b y (by simp only [SZ]; omega) (by simp only [SZ]; omega) bx.2.1 by_
    rw [if_pos (by rw [vb, vy]; rfl)] at hc
    rw [show aE (List.getD (FV.ses (List.getD (List.getD (FTs (.mk 5 xs xn [b] :: y :: r)) 0 []) 3 FV.nils)) 0 []) = aT b from aE_FT b]
    refine ⟨el0 _ _, el0 b [], el1 _ _ _, (_, _), hc, rfl, ⟨by omega, len 2 (by omega), Int.le_refl _⟩, _, c_apply (conF b y) r ?_, ?_⟩
    · unfold conF
      split
      · rename_i hr
        have h5 := (room_sz ob hl.2.1 hr (by simp only [SZ]; omega)).1
        have hz := suT_sz 0 y b 0
        have h6 := Tm.szs_length (suT 0 y b 0).l
        have h7 := (suT 0 y b 0).sz_eq
        simp only [B] at h5
        omega
      · simp only [Tm.l, List.length_nil]; omega
    · refine ⟨?_, rfl⟩
      show TV.Le (.tup [(true, cT (applyF (conF b y) r)), (false, [.a (.fz (.bool true))]), (false, [.a (.fz (.int .i64 (conE b y)))])]) (aSt (applyF (conF b y) r) (if roomT b y = true then 1 else 2))
      unfold conE
      by_cases q : roomT b y = true
      · rw [if_pos q, if_pos q]; exact .refl _
      · rw [if_neg q, if_neg q]; exact .refl _

end Go.AM

set_option maxRecDepth 100000
open Go Go.Proofs
namespace Go.AM

theorem stepS_fit {F : Nat} {s : Sto} {t : Tm} (hs : OKS s) (hv : validB t = true) (hf : Fit (F + 1) t) (h : (stepS s t).2 = 1) : validB (stepS s t).1 = true ∧ Fit F (stepS s t).1 := by
  have hM : (2199023255552 : Int) ≤ M61 - SZ - SZ * F := by have := hf.2.2.2; simp only [M61, SZ]; omega
  have hval : ∀ u, valB s u = true → validB (valS s u) = true ∧ okB (valS s u) = true ∧ lvB (valS s u) = true ∧ (valS s u).sz ≤ 4000 ∧ bd (M61 - SZ - SZ * F) (valS s u) := fun u hu => by
    have := hs.val hu
    exact ⟨this.1, valid_ok _ this.1, valid_lv this.1, this.2.1, bd_le hM _ this.2.2⟩
  have hF := hf.2.1
  have hF4 := hf.2.2.2
  unfold stepS at h ⊢
  split
  · rename_i q
    obtain ⟨v1, v2, v3, v4, v5⟩ := hval _ q
    exact ⟨v1, v2, by simp only; omega, v5, by omega⟩
  rename_i q
  rw [if_neg q] at h
  split
  · rename_i q2; rw [if_pos q2] at h; simp at h
  rename_i q2
  rw [if_neg q2] at h
  have ok := valid_ok t hv
  obtain ⟨k, str, n, l⟩ := t
  have h6 : k = 6 := by
    by_cases e : k = 6
    · exact e
    · exact absurd e q2
  obtain ⟨x, y, r, rfl, hx6, hl⟩ := okB6 ok h6
  subst h6
  simp only [okL, Bool.and_eq_true] at hl
  have kv := kid_valid hv (.inr rfl)
  have hb := bd_le (M' := M61 - SZ - SZ * F) (by simp only [SZ]; omega) _ hf.2.2.1
  simp only [Tm.sz, Tm.szs] at hF
  have lvr : lvL r = true := lvL_of fun u hu => valid_lv (kv u (List.mem_cons_of_mem _ (List.mem_cons_of_mem _ hu)))
  have ey : Tm.l (.mk 6 str n (x :: y :: r)) = x :: y :: r := rfl
  have eh : hd (x :: y :: r) = x := rfl
  have e1 : List.drop 1 (x :: y :: r) = y :: r := rfl
  have e2 : List.drop 2 (x :: y :: r) = r := rfl
  have ehy : hd (y :: r) = y := rfl
  simp only [ey, eh, e1, e2, ehy] at h ⊢
  split
  · rename_i q3
    obtain ⟨v1, v2, v3, v4, v5⟩ := hval _ q3
    have ok2 : okB (applyF (valS s x) (y :: r)) = true := applyF_ok v2 (by simp only [okL, hl.2.1, hl.2.2, Bool.and_self])
    have lv2 : lvB (applyF (valS s x) (y :: r)) = true := applyF_lv v3 (by simp only [lvL, lvr, valid_lv (kv y (List.mem_cons_of_mem _ List.mem_cons_self)), Bool.and_self])
    have z := applyF_sz (valS s x) (y :: r)
    simp only [Tm.szs] at z
    refine ⟨by rw [valid_iff, ok2, lv2]; rfl, ok2, by simp only; omega, applyF_bd v5 (show bds _ (y :: r) from ⟨hb.2.2.1, hb.2.2.2⟩), by omega⟩
  rename_i q3
  rw [if_neg q3] at h
  split
  · rename_i q4; rw [if_pos q4] at h; simp at h
  rename_i q4
  rw [if_neg q4] at h
  obtain ⟨xk, xs, xn, xl⟩ := x
  have h5 : xk = 5 := by
    by_cases e : xk = 5
    · exact e
    · exact absurd e q4
  subst h5
  obtain ⟨b, rfl, ob⟩ := okB5 hl.1 rfl
  have room : roomT b y = true := by
    by_cases e : roomT b y = true
    · exact e
    · exfalso
      have h : (if roomT b y = true then (1 : Int) else 2) = 1 := h
      rw [if_neg e] at h; cases h
  have hst : stepF (.mk 6 str n (.mk 5 xs xn [b] :: y :: r)) = (applyF (suT 0 y b 0) r, 1) := by
    rw [stepF, if_pos (redex_mk str xs n xn b y r)]; exact if_pos room
  have e3 : conF (hd (Tm.l (.mk 5 xs xn [b]))) y = suT 0 y b 0 := by show conF b y = _; rw [conF, if_pos room]
  rw [e3]
  have hn := hf.next (by rw [hst])
  have hlv := stepF_lv (M61 - SZ - SZ * ((F + 1 : Nat) : Int)) (by simp only [M61, SZ]; omega) _ ok hf.sz hf.2.2.1 (valid_lv hv) (by rw [hst])
  rw [hst] at hn hlv
  exact ⟨by rw [valid_iff, hn.1, hlv]; rfl, hn⟩
/-- All steps at the head: the term, what is wrong, how many. -/
def runH (s : Sto) : Nat → Tm → Tm × Int × Nat
  | 0, t => if (stepS s t).2 = 0 then (t, 0, 0) else (noT, 80, 0)
  | F + 1, t => if (stepS s t).2 = 0 then (t, 0, 0) else if (stepS s t).2 = 2 then (noT, 80, 0) else ((runH s F (stepS s t).1).1, (runH s F (stepS s t).1).2.1, (runH s F (stepS s t).1).2.2 + 1)
theorem runH_fit {s : Sto} (hs : OKS s) : ∀ {F : Nat} {t : Tm}, validB t = true → Fit F t → (runH s F t).2.2 ≤ F ∧ ((runH s F t).2.1 = 0 ∧ validB (runH s F t).1 = true ∧ Fit (F - (runH s F t).2.2) (runH s F t).1 ∧ (stepS s (runH s F t).1).2 = 0 ∨ (runH s F t).2.1 = 80 ∧ (runH s F t).1 = noT)
  | 0, t, hv, hf => by
    rw [runH]
    split
    · rename_i h; exact ⟨Nat.le_refl _, .inl ⟨rfl, hv, hf, h⟩⟩
    · exact ⟨Nat.le_refl _, .inr ⟨rfl, rfl⟩⟩
  | F + 1, t, hv, hf => by
    rw [runH]
    split
    · rename_i h; exact ⟨Nat.zero_le _, .inl ⟨rfl, hv, hf, h⟩⟩
    · rename_i h0
      split
      · exact ⟨Nat.zero_le _, .inr ⟨rfl, rfl⟩⟩
      · rename_i h2
        have h1 : (stepS s t).2 = 1 := by rcases stepS_n s t with q | q | q; · exact absurd q h0
                                          · exact q
                                          · exact absurd q h2
        obtain ⟨v, f⟩ := stepS_fit hs hv hf h1
        have := runH_fit hs v f
        refine ⟨by simp only; omega, ?_⟩
        rcases this.2 with ⟨a, b, c, d⟩ | ⟨a, b⟩
        · exact .inl ⟨a, b, by simp only; rw [show F + 1 - ((runH s F (stepS s t).1).2.2 + 1) = F - (runH s F (stepS s t).1).2.2 by omega]; exact c, d⟩
        · exact .inr ⟨a, b⟩
theorem l_shead (s : Sto) (hs : OKS s) : ∀ (F : Nat) (f : Int) (t : Tm), f.toNat = F → 0 - 4611686018427387904 ≤ f → validB t = true → Fit F t →
    RPt Try.prog 40 4 (aTE (runH s F t).1 (runH s F t).2.1) (oSf s (f - ((runH s F t).2.2 : Int))) 1
      ⟨[(0, aS 0), (2, .c (.a (.ep 3 1 0 0))), (4, .c (.a (.ep 4 4 0 0))), (6, .c (.a (.ep 5 4 0 0)))], [(0, sto2 1 2 s), (1, .arz 6 (SR s.V)), (2, .arz 1 (IR s.T)), (3, obj1 f), (4, .arr 4 [cT t]), (5, .arr 4 [zT])], 6⟩ := by
  intro F
  induction F with
  | zero =>
    intro f t hf hf0 hv hfit
    have hc := c_sstep s hs t hv hfit.sz hfit.bd
    have hr : runH s 0 t = if (stepS s t).2 = 0 then (t, 0, 0) else (noT, 80, 0) := rfl
    rw [hr]
    obtain ⟨k, str, n, l⟩ := t
    refine RPt.vc hP sh lv40 (Eq.mpr (v40_1a s.V.length s.T.length (SR s.V) (IR s.T) f k str n (FTs l) 0 [] 0 _ _) ?_)
    refine ⟨(_, _, _), hc, br_of (fun h => ?_) (fun h => br_of (fun h2 => ?_) (fun h2 => br_of (fun h3 => ?_) (fun h3 => absurd (of_decide_eq_false h3) (by omega))))⟩
    · have h : (stepS s (.mk k str n l)).2 = 0 := by have h : (!((stepS s (.mk k str n l)).2 != 0)) = true := h; simpa using h
      rw [if_pos h]
      exact ⟨.refl _, by simp⟩
    · have h : ¬ (stepS s (.mk k str n l)).2 = 0 := by have h : (!((stepS s (.mk k str n l)).2 != 0)) = false := h; simpa using h
      rw [if_neg h]
      exact ⟨leTE (l := []) leNil, by simp⟩
    · have h : ¬ (stepS s (.mk k str n l)).2 = 0 := by have h : (!((stepS s (.mk k str n l)).2 != 0)) = false := h; simpa using h
      rw [if_neg h]
      exact ⟨leTE (l := []) leNil, by simp⟩
  | succ F ih =>
    intro f t hf hf0 hv hfit
    have hc := c_sstep s hs t hv hfit.sz hfit.bd
    have hr : runH s (F + 1) t = if (stepS s t).2 = 0 then (t, 0, 0) else if (stepS s t).2 = 2 then (noT, 80, 0) else ((runH s F (stepS s t).1).1, (runH s F (stepS s t).1).2.1, (runH s F (stepS s t).1).2.2 + 1) := rfl
    rw [hr]
    have hF4 := hfit.2.2.2
    have next : ¬ (stepS s t).2 = 0 → ¬ (stepS s t).2 = 2 → _ := fun h0 h2 => by
      have h1 : (stepS s t).2 = 1 := by rcases stepS_n s t with q | q | q; · exact absurd q h0
                                        · exact q
                                        · exact absurd q h2
      obtain ⟨v, ff⟩ := stepS_fit hs hv hfit h1
      exact ih (f - 1) (stepS s t).1 (by omega) (by omega) v ff
    obtain ⟨k, str, n, l⟩ := t
    refine RPt.vc hP sh lv40 (Eq.mpr (v40_1a s.V.length s.T.length (SR s.V) (IR s.T) f k str n (FTs l) 0 [] 0 _ _) ?_)
    rw [w64 (x := f - 1) (by omega) (by omega)]
    refine ⟨(_, _, _), hc, br_of (fun h => ?_) (fun h => br_of (fun h2 => ?_) (fun h2 => br_of (fun h3 => absurd (of_decide_eq_true h3) (by omega)) (fun h3 => ?_)))⟩
    · have h : (stepS s (.mk k str n l)).2 = 0 := by have h : (!((stepS s (.mk k str n l)).2 != 0)) = true := h; simpa using h
      rw [if_pos h]
      exact ⟨.refl _, by simp⟩
    · have h : ¬ (stepS s (.mk k str n l)).2 = 0 := by have h : (!((stepS s (.mk k str n l)).2 != 0)) = false := h; simpa using h
      have h2 : (stepS s (.mk k str n l)).2 = 2 := by
        by_cases q : (stepS s (.mk k str n l)).2 = 2
        · exact q
        · have h2 : ((if (stepS s (.mk k str n l)).2 = 2 then (80 : Int) else 0) != 0) = true := h2
          rw [if_neg q] at h2; cases h2
      rw [if_neg h, if_pos h2]
      exact ⟨leTE (l := []) leNil, by simp⟩
    · have h : ¬ (stepS s (.mk k str n l)).2 = 0 := by have h : (!((stepS s (.mk k str n l)).2 != 0)) = false := h; simpa using h
      have h2 : ¬ (stepS s (.mk k str n l)).2 = 2 := fun q => by
        have h2 : ((if (stepS s (.mk k str n l)).2 = 2 then (80 : Int) else 0) != 0) = false := h2
        rw [if_pos q] at h2; cases h2
      rw [if_neg h, if_neg h2]
      have := next h h2
      rw [show f - 1 - (((runH s F (stepS s (.mk k str n l)).1).2.2 : Nat) : Int) = f - (((runH s F (stepS s (.mk k str n l)).1).2.2 + 1 : Nat) : Int) by omega] at this
      exact this
theorem c_shead (s : Sto) (hs : OKS s) (F : Nat) (f : Int) (t : Tm) (hF : f.toNat = F) (h0 : 0 - 4611686018427387904 ≤ f) (hv : validB t = true) (hf : Fit F t) :
    AC Try.prog 40 [aS 0, aT t, .c (.a (.ep 3 1 0 0))] (oSf s f) (aTE (runH s F t).1 (runH s F t).2.1) (oSf s (f - ((runH s F t).2.2 : Int))) := by
  have h := l_shead s hs F f t hF h0 hv hf
  obtain ⟨k, str, n, l⟩ := t
  exact AC.vc hP sh lv40 (Nat.le_refl _) (by simp [isLive]) (by simp) (Eq.mpr (v40 k str n (FTs l) ..) h)
/-- Head: the term, what is left, what is wrong. -/
def headV (s : Sto) (f : Int) (t : Tm) : Tm × Int × Int :=
  if validB t = true then (if (runH s f.toNat t).2.1 = 0 then ((runH s f.toNat t).1, f - ((runH s f.toNat t).2.2 : Int), 0) else (noT, 0, (runH s f.toNat t).2.1)) else (noT, 0, 1)
abbrev aHd (z : Tm × Int × Int) : TV := .tup [(true, cT z.1), (false, [.a (.fz (.int .i64 z.2.1))]), (false, [.a (.fz (.int .i64 z.2.2))])]
theorem leHd {k n a e : Int} {s : List UInt8} {x : FV} {l : List Tm} (h : FV.Le x (.sl false 4 (FTs l))) : TV.Le (.tup [(true, [.a (.fz (.int .i64 k)), .a (.fz (.str s)), .a (.fz (.int .i64 n)), .a (.fz x)]), (false, [.a (.fz (.int .i64 a))]), (false, [.a (.fz (.int .i64 e))])]) (aHd (.mk k s n l, a, e)) :=
  le_tup ⟨lwT h, lwR _, lwR _, trivial⟩
theorem c_srun_head (s : Sto) (hs : OKS s) (f : Int) (t : Tm) (h0 : 0 - 4611686018427387904 ≤ f) (hz : t.sz ≤ B) (hf : validB t = true → Fit f.toNat t) :
    AC Try.prog 39 [aT t, ci f, .c (.fn (.func 40) [(false, [.ep 0 2 0 0])] [])] (oS s) (aHd (headV s f t)) (oS s) := by
  have h1 := c_valid t hz
  have h2 := fun hv => c_shead s hs f.toNat f t rfl h0 hv (hf hv)
  have h3 := fun hv => runH_fit hs hv (hf hv)
  have hV : headV s f t = if validB t = true then (if (runH s f.toNat t).2.1 = 0 then ((runH s f.toNat t).1, f - ((runH s f.toNat t).2.2 : Int), 0) else (noT, 0, (runH s f.toNat t).2.1)) else (noT, 0, 1) := rfl
  rw [hV]
  obtain ⟨k, str, n, l⟩ := t
  refine AC.vc hP sh lv39 (Nat.le_refl _) (by simp [isLive]) (by simp) (Eq.mpr (v39_F40 k str n (FTs l) ..) ?_)
  refine ⟨_, h1, br_of (fun h => ?_) (fun h => ⟨(_, _, _), h2 (by simpa using h), br_of (fun h' => ?_) (fun h' => ?_)⟩)⟩
  · rw [if_neg (by simpa using h)]; exact ⟨leHd (l := []) leNil, rfl⟩
  · have h : validB (.mk k str n l) = true := by simpa using h
    have h' : ((runH s f.toNat (.mk k str n l)).2.1 != 0) = true := h'
    rw [if_pos h, if_neg (by simpa using h')]; exact ⟨leHd (l := []) leNil, rfl⟩
  · have h : validB (.mk k str n l) = true := by simpa using h
    have h' : ((runH s f.toNat (.mk k str n l)).2.1 != 0) = false := h'
    rw [if_pos h, if_pos (by simpa using h')]; exact ⟨.refl _, rfl⟩
theorem c_sHead (s : Sto) (hs : OKS s) (f : Int) (t : Tm) (h0 : 0 - 4611686018427387904 ≤ f) (hz : t.sz ≤ B) (hf : validB t = true → Fit f.toNat t) : AC Try.prog 28 [aS 0, aT t, ci f] (oS s) (aHd (headV s f t)) (oS s) := by
  have h := c_srun_head s hs f t h0 hz hf
  obtain ⟨k, str, n, l⟩ := t
  refine AC.vc hP sh lv28 (Nat.le_refl _) (by simp [isLive]) (by simp) (Eq.mpr (v28 k str n (FTs l) ..) ?_)
  exact ⟨(_, _, _), h, .refl _, rfl⟩
/-! ### Head and arguments -/
def splitF (t : Tm) : Tm × List Tm := if t.k = 6 ∧ validB t = true then (hd t.l, t.l.drop 1) else (t, [])
abbrev aSp (z : Tm × List Tm) : TV := .tup [(true, cT z.1), (false, [.a (.fz (.sl false 4 (FTs z.2)))])]
theorem c_csplit (t : Tm) (hz : t.sz ≤ B) : AC Try.prog 29 [aT t] [] (aSp (splitF t)) [] := by
  have h1 := c_valid t hz
  have hlen := Tm.szs_length t.l
  have hsz := t.sz_eq
  obtain ⟨k, str, n, l⟩ := t
  have no : ∀ x : FV, FV.Le x (.sl false 4 (FTs [])) → TV.Le (.tup [(true, [.a (.fz (.int .i64 k)), .a (.fz (.str str)), .a (.fz (.int .i64 n)), .a (.fz (.sl false 4 (FTs l)))]), (false, [.a (.fz x)])]) (aSp (.mk k str n l, [])) :=
    fun x hx => le_tup ⟨lwR _, lw1 (.a _ _ (.fz _ _ hx)), trivial⟩
  refine AC.vc hP sh lv29 (Nat.le_refl _) (by simp) (by simp) (Eq.mpr (v29 k str n (FTs l) _ _) ?_)
  refine br_of (fun h => ?_) (fun h => ⟨_, h1, br_of (fun h' => ?_) (fun h' => ?_)⟩)
  · rw [splitF, if_neg (fun e => by have e1 : k = 6 := e.1; subst e1; cases h)]; exact ⟨no _ leNil, rfl⟩
  · rw [splitF, if_neg (fun e => by rw [show validB (.mk k str n l) = false by simpa using h'] at e; cases e.2)]; exact ⟨no _ leNil, rfl⟩
  · have h6 : k = 6 := by simpa using h
    subst h6
    have hv : validB (.mk 6 str n l) = true := by simpa using h'
    obtain ⟨x, y, r, rfl, hx6, hl⟩ := okB6 (valid_ok _ hv) rfl
    simp only [Tm.l, List.length_cons, B] at hlen hsz hz
    have hcl := c_clone.1 (FTs (y :: r)) (by simp [FTs]) (by rw [FTs_length]; simp only [List.length_cons, B]; omega)
    have e1 : List.drop 1 (List.take (Int.toNat (((FTs (x :: y :: r)).length : Nat) : Int)) (FTs (x :: y :: r))) = FTs (y :: r) := by rw [take_nat]; rfl
    rw [e1, splitF, if_pos ⟨rfl, hv⟩]
    refine ⟨el0 x (y :: r), rfl, ⟨by omega, by rw [FTs_length]; simp only [List.length_cons]; omega, Int.le_refl _⟩, .inr ⟨_, hcl, ⟨rfl, by omega⟩, ?_, rfl⟩⟩
    rw [List.drop_zero, List.take_of_length_le (Nat.le_refl _), show cE (List.getD (FTs (x :: y :: r)) 0 []) = cT x from cE_FT x]
    exact .refl _
theorem stepS_sz {F : Nat} {s : Sto} {t : Tm} (hs : OKS s) (hv : validB t = true) (hf : Fit (F + 1) t) (h : (stepS s t).2 = 1) : (stepS s t).1.sz ≤ t.sz + 4200 := by
  unfold stepS at h ⊢
  split
  · rename_i q
    have := (hs.val q).2.1
    simp only; omega
  rename_i q
  rw [if_neg q] at h
  split
  · rename_i q2; rw [if_pos q2] at h; simp at h
  rename_i q2
  rw [if_neg q2] at h
  have ok := valid_ok t hv
  obtain ⟨k, str, n, l⟩ := t
  have h6 : k = 6 := by
    by_cases e : k = 6
    · exact e
    · exact absurd e q2
  obtain ⟨x, y, r, rfl, hx6, hl⟩ := okB6 ok h6
  subst h6
  simp only [okL, Bool.and_eq_true] at hl
  have ey : Tm.l (.mk 6 str n (x :: y :: r)) = x :: y :: r := rfl
  have eh : hd (x :: y :: r) = x := rfl
  have e1 : List.drop 1 (x :: y :: r) = y :: r := rfl
  have e2 : List.drop 2 (x :: y :: r) = r := rfl
  have ehy : hd (y :: r) = y := rfl
  simp only [ey, eh, e1, e2, ehy] at h ⊢
  split
  · rename_i q3
    have v4 := (hs.val q3).2.1
    have z := applyF_sz (valS s x) (y :: r)
    have zx := x.sz_pos
    simp only [Tm.szs, Tm.sz] at z ⊢
    omega
  rename_i q3
  rw [if_neg q3] at h
  split
  · rename_i q4; rw [if_pos q4] at h; simp at h
  rename_i q4
  rw [if_neg q4] at h
  obtain ⟨xk, xs, xn, xl⟩ := x
  have h5 : xk = 5 := by
    by_cases e : xk = 5
    · exact e
    · exact absurd e q4
  subst h5
  obtain ⟨b, rfl, ob⟩ := okB5 hl.1 rfl
  have room : roomT b y = true := by
    by_cases e : roomT b y = true
    · exact e
    · exfalso
      have h : (if roomT b y = true then (1 : Int) else 2) = 1 := h
      rw [if_neg e] at h; cases h
  have hst : stepF (.mk 6 str n (.mk 5 xs xn [b] :: y :: r)) = (applyF (suT 0 y b 0) r, 1) := by
    rw [stepF, if_pos (redex_mk str xs n xn b y r)]; exact if_pos room
  have e3 : conF (hd (Tm.l (.mk 5 xs xn [b]))) y = suT 0 y b 0 := by show conF b y = _; rw [conF, if_pos room]
  rw [e3]
  have := (stepF_fit M61 (by simp only [M61]; omega) _ hf.ok hf.sz hf.bd (by rw [hst])).2.1
  rw [hst] at this
  exact this

end Go.AM

set_option maxRecDepth 100000
open Go Go.Proofs
namespace Go.AM

/-! ### Numbers of 64 bits -/
def I64 (x : Int) : Prop := -9223372036854775808 ≤ x ∧ x ≤ 9223372036854775807
instance (x : Int) : Decidable (I64 x) := by unfold I64; exact inferInstance
def fitV (x : Int) : Int × Int := if -9223372036854775808 ≤ x ∧ x ≤ 9223372036854775807 then (x, 0) else (0, 182)
theorem fitV_in {x : Int} (h : I64 x) : fitV x = (x, 0) := if_pos h
theorem fitV_out {x : Int} (h : ¬ I64 x) : fitV x = (0, 182) := if_neg h
/-- An operation: the number, what is wrong. -/
def doV (op : List UInt8) (a b : Int) : Int × Int :=
  if op = [43] then fitV (a + b) else if op = [126] then fitV (-a) else if op = [45] then fitV (a - b) else if op = [42] then fitV (a * b)
  else if op = [100, 105, 118] then (if b = 0 then (0, 181) else fitV (a.tdiv b)) else if op = [109, 111, 100] then (if b = 0 then (0, 181) else (a.tmod b, 0)) else (0, 180)
def testV (op : List UInt8) (a b : Int) : Bool × Int :=
  if op = [60] then (decide (a < b), 0) else if op = [61, 60] then (decide (a ≤ b), 0) else if op = [62] then (decide (a > b), 0) else if op = [62, 61] then (decide (a ≥ b), 0) else (false, 180)
abbrev tII (z : Int × Int) : TV := .tup [(false, [.a (.fz (.int .i64 z.1))]), (false, [.a (.fz (.int .i64 z.2))])]
abbrev tBI (z : Bool × Int) : TV := .tup [(false, [.a (.fz (.bool z.1))]), (false, [.a (.fz (.int .i64 z.2))])]
theorem leII {a b : Int} {z : Int × Int} (h : z = (a, b)) : TV.Le (.tup [(false, [.a (.fz (.int .i64 a))]), (false, [.a (.fz (.int .i64 b))])]) (tII z) ∧ ([] : List AObj) = [] := by rw [h]; exact ⟨.refl _, rfl⟩
theorem leBI {a : Bool} {b : Int} {z : Bool × Int} (h : z = (a, b)) : TV.Le (.tup [(false, [.a (.fz (.bool a))]), (false, [.a (.fz (.int .i64 b))])]) (tBI z) ∧ ([] : List AObj) = [] := by rw [h]; exact ⟨.refl _, rfl⟩
abbrev cu (n : Int) : TV := .c (.a (.fz (.int .u64 n)))
theorem c_asum (a b : Int) (ha : I64 a) (hb : I64 b) : AC Try.prog 17 [ci a, ci b] [] (tII (fitV (a + b))) [] := by
  refine AC.vc hP sh lv17 (Nat.le_refl _) (by simp) (by simp) (Eq.mpr (v17 ..) ?_)
  have key : (I64 (a + b) ∧ IntKind.wrap .i64 (a + b) = a + b) ∨ (9223372036854775807 < a + b ∧ IntKind.wrap .i64 (a + b) = a + b - 18446744073709551616) ∨ (a + b < -9223372036854775808 ∧ IntKind.wrap .i64 (a + b) = a + b + 18446744073709551616) := by
    rw [IntKind.wrap_i64]; unfold I64 at *; omega
  generalize IntKind.wrap .i64 (a + b) = w at key
  have eq : ∀ (p q : Prop) [Decidable p] [Decidable q], (!(decide p == decide q)) = true → (p ∧ ¬ q) ∨ (¬ p ∧ q) := fun p q _ _ h => by
    by_cases hp : p <;> by_cases hq : q <;> simp_all
  have eq' : ∀ (p q : Prop) [Decidable p] [Decidable q], (!(decide p == decide q)) = false → (p ∧ q) ∨ (¬ p ∧ ¬ q) := fun p q _ _ h => by
    by_cases hp : p <;> by_cases hq : q <;> simp_all
  unfold I64 at ha hb key
  refine br_of (fun h => br_of (fun h0 => ?_) (fun h0 => ?_)) (fun h => ?_)
  · have h := eq _ _ h
    have h0 : b ≠ 0 := by simpa using h0
    exact leII (fitV_out (by unfold I64; omega))
  · have h := eq _ _ h
    have h0 : b = 0 := by simpa using h0
    have : w = a + b ∧ I64 (a + b) := by unfold I64; omega
    rw [this.1]
    exact leII (fitV_in this.2)
  · have h := eq' _ _ h
    have : w = a + b ∧ I64 (a + b) := by unfold I64; omega
    rw [this.1]
    exact leII (fitV_in this.2)
theorem c_asize (a : Int) (ha : I64 a) : AC Try.prog 19 [ci a] [] (cu (a.natAbs : Int)) [] := by
  refine AC.vc hP sh lv19 (Nat.le_refl _) (by simp) (by simp) (Eq.mpr (v19 ..) ?_)
  unfold I64 at ha
  refine br_of (fun h => ?_) (fun h => ?_)
  · have h := of_decide_eq_true h
    rw [show IntKind.wrap .u64 (0 - IntKind.wrap .u64 a) = (a.natAbs : Int) by rw [IntKind.wrap_u64, IntKind.wrap_u64]; omega]
    exact ⟨.refl _, rfl⟩
  · have h := of_decide_eq_false h
    rw [show IntKind.wrap .u64 a = (a.natAbs : Int) by rw [IntKind.wrap_u64]; omega]
    exact ⟨.refl _, rfl⟩
theorem c_asigned (m : Bool) (hi lo : Nat) (hl : lo < 18446744073709551616) : AC Try.prog 18 [cb m, cu (hi : Int), cu (lo : Int)] [] (tII (fitV (if m = true then -(((hi * 18446744073709551616 + lo : Nat) : Int)) else ((hi * 18446744073709551616 + lo : Nat) : Int)))) [] := by
  refine AC.vc hP sh lv18 (Nat.le_refl _) (by simp) (by simp) (Eq.mpr (v18 ..) ?_)
  refine br_of (fun hm => ?_) (fun hm => ?_)
  · rw [if_pos hm]
    refine br_of (fun h => ?_) (fun h => br_of (fun h2 => ?_) (fun h2 => br_of (fun _ => ?_) (fun e => by rw [hm] at e; cases e)))
    · have h := of_decide_eq_true h
      exact leII (fitV_out (by unfold I64; omega))
    · have h2 := of_decide_eq_true h2
      exact leII (fitV_out (by unfold I64; omega))
    · have h := of_decide_eq_false h
      have h2 := of_decide_eq_false h2
      rw [show IntKind.wrap .i64 (IntKind.wrap .u64 (0 - (lo : Int))) = -(((hi * 18446744073709551616 + lo : Nat) : Int)) by rw [IntKind.wrap_i64, IntKind.wrap_u64]; omega]
      exact leII (fitV_in (by unfold I64; omega))
  · rw [if_neg (by rw [hm]; simp)]
    refine br_of (fun h => ?_) (fun h => br_of (fun h2 => ?_) (fun h2 => br_of (fun e => by rw [hm] at e; cases e) (fun _ => ?_)))
    · have h := of_decide_eq_true h
      exact leII (fitV_out (by unfold I64; omega))
    · have h2 := of_decide_eq_true h2
      exact leII (fitV_out (by unfold I64; omega))
    · have h := of_decide_eq_false h
      have h2 := of_decide_eq_false h2
      rw [show IntKind.wrap .i64 (lo : Int) = ((hi * 18446744073709551616 + lo : Nat) : Int) by rw [IntKind.wrap_i64]; omega]
      exact leII (fitV_in (by unfold I64; omega))
theorem c_amul (x y : Nat) (hx : x < 18446744073709551616) (hy : y < 18446744073709551616) : AC Try.prog 20 [cu (x : Int), cu (y : Int)] [] (.tup [(false, [.a (.fz (.int .u64 ((x * y / 18446744073709551616 : Nat) : Int)))]), (false, [.a (.fz (.int .u64 ((x * y % 18446744073709551616 : Nat) : Int)))])]) [] := by
  refine AC.of_calls (vals := [.int .u64 x, .int .u64 y]) (v := .tuple #[.int .u64 ((x * y / 18446744073709551616 : Nat) : Int), .int .u64 ((x * y % 18446744073709551616 : Nat) : Int)]) (by kernel_rfl) (fun w => Try.bits_Mul64 x y hx hy w) (fun w X β us hu => ?_) (fun w X β => ?_)
  · obtain ⟨u, us', rfl, h1, h2⟩ := hu.cons_inv
    obtain ⟨v, vs', rfl, h3, h4⟩ := h2.cons_inv
    rw [TRep.int_inv h1, TRep.int_inv h3, h4.nil_inv]
  · refine ⟨[.int .u64 ((x * y / 18446744073709551616 : Nat) : Int), .int .u64 ((x * y % 18446744073709551616 : Nat) : Int)], rfl, ?_⟩
    have one : ∀ n : Int, PRep (WRep w X β) (false, [.a (.fz (.int .u64 n))]) (.int .u64 n) := fun n => ⟨[.int .u64 n], rfl, .cons (.a _ _ (.fz _ _ (.int _ _))) .nil, fun _ => rfl⟩
    exact .cons (one _) (.cons (one _) .nil)
theorem sgn_mul (a b : Int) : (if (!(decide (a < 0) == decide (b < 0))) = true then -(((a.natAbs * b.natAbs : Nat) : Int)) else ((a.natAbs * b.natAbs : Nat) : Int)) = a * b := by
  rw [Int.natCast_mul]
  by_cases h1 : a < 0 <;> by_cases h2 : b < 0 <;> simp only [h1, h2, decide_true, decide_false, beq_self_eq_true, Bool.not_true, Bool.false_eq_true, if_false, Bool.true_beq, Bool.false_beq, Bool.not_false, Bool.not_true, if_true]
  · rw [show (a.natAbs : Int) = -a by omega, show (b.natAbs : Int) = -b by omega, Int.neg_mul_neg]
  · rw [show (a.natAbs : Int) = -a by omega, show (b.natAbs : Int) = b by omega, Int.neg_mul, Int.neg_neg]
  · rw [show (a.natAbs : Int) = a by omega, show (b.natAbs : Int) = -b by omega, Int.mul_neg, Int.neg_neg]
  · rw [show (a.natAbs : Int) = a by omega, show (b.natAbs : Int) = b by omega]
theorem sgn_div (a b : Int) : (if (!(decide (a < 0) == decide (b < 0))) = true then -(((a.natAbs / b.natAbs : Nat) : Int)) else ((a.natAbs / b.natAbs : Nat) : Int)) = a.tdiv b := by
  have key : ∀ x y : Nat, ((x / y : Nat) : Int) = Int.tdiv x y := fun x y => by rw [Int.ofNat_tdiv]
  rw [key]
  by_cases h1 : a < 0 <;> by_cases h2 : b < 0 <;> simp only [h1, h2, decide_true, decide_false, beq_self_eq_true, Bool.not_true, Bool.false_eq_true, if_false, Bool.true_beq, Bool.false_beq, Bool.not_false, Bool.not_true, if_true]
  · rw [show (a.natAbs : Int) = -a by omega, show (b.natAbs : Int) = -b by omega, Int.neg_tdiv, Int.tdiv_neg, Int.neg_neg]
  · rw [show (a.natAbs : Int) = -a by omega, show (b.natAbs : Int) = b by omega, Int.neg_tdiv, Int.neg_neg]
  · rw [show (a.natAbs : Int) = a by omega, show (b.natAbs : Int) = -b by omega, Int.tdiv_neg, Int.neg_neg]
  · rw [show (a.natAbs : Int) = a by omega, show (b.natAbs : Int) = b by omega]
theorem op_ne {x y : List UInt8} (h : (x == y) = false) : ¬ x = y := by simpa using h
theorem op_eq {x y : List UInt8} (h : (x == y) = true) : x = y := by simpa using h
theorem c_ado (op : List UInt8) (a b : Int) (ha : I64 a) (hb : I64 b) : AC Try.prog 7 [cs op, ci a, ci b] [] (tII (doV op a b)) [] := by
  have sa := c_asize a ha
  have sb := c_asize b hb
  have na : a.natAbs ≤ 9223372036854775808 := by unfold I64 at ha; omega
  have nb : b.natAbs ≤ 9223372036854775808 := by unfold I64 at hb; omega
  have hdiv : b ≠ 0 → AC Try.prog 18 [cb (!(decide (a < 0) == decide (b < 0))), cu 0, cu (IntKind.wrap .u64 (Int.tdiv (a.natAbs : Int) (b.natAbs : Int)))] [] (tII (fitV (a.tdiv b))) [] := fun h => by
    have e : IntKind.wrap .u64 (Int.tdiv (a.natAbs : Int) (b.natAbs : Int)) = ((a.natAbs / b.natAbs : Nat) : Int) := by
      rw [← Int.ofNat_tdiv]
      have := Nat.div_le_self a.natAbs b.natAbs
      rw [Go.IntWalk.u64_in _ ⟨Int.natCast_nonneg _, by omega⟩]
    rw [e, ← sgn_div]
    have := Nat.div_le_self a.natAbs b.natAbs
    have h2 := c_asigned (!(decide (a < 0) == decide (b < 0))) 0 (a.natAbs / b.natAbs) (by omega)
    rw [Nat.zero_mul, Nat.zero_add] at h2
    exact h2
  have hb0 : b ≠ 0 → ((b.natAbs : Nat) : Int) ≠ 0 := fun h => by omega
  refine AC.vc hP sh lv7 (Nat.le_refl _) (by simp) (by simp) (Eq.mpr (v7 ..) ?_)
  unfold doV
  refine br_of (fun h => ?_) (fun h => ?_)
  · rw [if_pos (op_eq h)]; exact ⟨_, _, c_asum a b ha hb, leII rfl⟩
  rw [if_neg (op_ne h)]
  clear h
  refine br_of (fun h => ?_) (fun h => ?_)
  · rw [if_pos (op_eq h)]
    have h2 := c_asigned (decide (a > 0)) 0 a.natAbs (by omega)
    rw [show (if decide (a > 0) = true then -(((0 * 18446744073709551616 + a.natAbs : Nat) : Int)) else ((0 * 18446744073709551616 + a.natAbs : Nat) : Int)) = -a by
      by_cases q : a > 0
      · rw [if_pos (decide_eq_true q)]; omega
      · rw [if_neg (by simpa using q)]; omega] at h2
    exact ⟨_, sa, _, _, h2, leII rfl⟩
  rw [if_neg (op_ne h)]
  clear h
  refine br_of (fun h => ?_) (fun h => ?_)
  · rw [if_pos (op_eq h)]
    refine br_of (fun h1 => ?_) (fun h1 => ?_)
    · have h1 : b ≠ -9223372036854775808 := by simpa using h1
      unfold I64 at ha hb
      rw [w64 (x := 0 - b) (by omega) (by omega)]
      have h2 := c_asum a (0 - b) (by unfold I64; omega) (by unfold I64; omega)
      rw [show a + (0 - b) = a - b by omega] at h2
      exact ⟨_, _, h2, leII rfl⟩
    · have h1 : b = -9223372036854775808 := by simpa using h1
      unfold I64 at ha
      have h2 := c_asum a 9223372036854775807 (by unfold I64; omega) (by unfold I64; omega)
      refine ⟨_, _, h2, br_of (fun h3 => ?_) (fun h3 => ?_)⟩
      · have q : ¬ I64 (a + 9223372036854775807) := fun q => by rw [fitV_in q] at h3; cases h3
        have q' : ¬ I64 (a - b) := by unfold I64 at q ⊢; omega
        rw [fitV_out q, fitV_out q']; exact leII rfl
      · have q : I64 (a + 9223372036854775807) := by
          by_cases q : I64 (a + 9223372036854775807)
          · exact q
          · rw [fitV_out q] at h3; cases h3
        have h4 := c_asum (a + 9223372036854775807) 1 q (by unfold I64; omega)
        rw [show a + 9223372036854775807 + 1 = a - b by omega] at h4
        rw [fitV_in q]
        exact ⟨_, _, h4, leII rfl⟩
  rw [if_neg (op_ne h)]
  clear h
  refine br_of (fun h => ?_) (fun h => ?_)
  · rw [if_pos (op_eq h)]
    have hm := c_amul a.natAbs b.natAbs (by omega) (by omega)
    have h2 := c_asigned (!(decide (a < 0) == decide (b < 0))) (a.natAbs * b.natAbs / 18446744073709551616) (a.natAbs * b.natAbs % 18446744073709551616) (Nat.mod_lt _ (by omega))
    rw [show a.natAbs * b.natAbs / 18446744073709551616 * 18446744073709551616 + a.natAbs * b.natAbs % 18446744073709551616 = a.natAbs * b.natAbs by omega, sgn_mul] at h2
    exact ⟨_, sa, _, sb, _, _, hm, _, _, h2, leII rfl⟩
  rw [if_neg (op_ne h)]
  clear h
  refine br_of (fun h => ?_) (fun h => ?_)
  · rw [if_pos (op_eq h)]
    refine br_of (fun h1 => ?_) (fun h1 => br_of (fun h2 => by rw [op_eq h] at h2; cases h2) (fun _ => ?_))
    · rw [if_pos (by simpa using h1)]; exact leII rfl
    · have h1 : b ≠ 0 := by simpa using h1
      rw [if_neg h1]
      exact ⟨_, sa, _, sb, ⟨rfl, hb0 h1⟩, _, _, hdiv h1, leII rfl⟩
  rw [if_neg (op_ne h)]
  clear h
  refine br_of (fun h => ?_) (fun h => ?_)
  · rw [if_pos (op_eq h)]
    refine br_of (fun h1 => ?_) (fun h1 => br_of (fun h2 => ?_) (fun h2 => by rw [h] at h2; cases h2))
    · rw [if_pos (by simpa using h1)]; exact leII rfl
    · have h1 : b ≠ 0 := by simpa using h1
      rw [if_neg h1]
      exact ⟨⟨rfl, h1⟩, leII rfl⟩
  · rw [if_neg (op_ne h)]; exact leII rfl
theorem c_atest (op : List UInt8) (a b : Int) : AC Try.prog 9 [cs op, ci a, ci b] [] (tBI (testV op a b)) [] := by
  refine AC.vc hP sh lv9 (Nat.le_refl _) (by simp) (by simp) (Eq.mpr (v9 ..) ?_)
  unfold testV
  repeat' (first | refine br_of (fun h => ?_) (fun h => ?_))
  · rw [if_pos (op_eq h)]; exact leBI rfl
  · rename_i h1; rw [if_neg (op_ne h1), if_pos (op_eq h)]; exact leBI rfl
  · rename_i h2 h1; rw [if_neg (op_ne h2), if_neg (op_ne h1), if_pos (op_eq h)]; exact leBI rfl
  · rename_i h3 h2 h1; rw [if_neg (op_ne h3), if_neg (op_ne h2), if_neg (op_ne h1), if_pos (op_eq h)]; exact leBI rfl
  · rename_i h3 h2 h1; rw [if_neg (op_ne h3), if_neg (op_ne h2), if_neg (op_ne h1), if_neg (op_ne h)]; exact leBI rfl
theorem c_rtest (op : List UInt8) (a b : Int) : AC Try.prog 10 [cs op, ci a, ci b] [] (tBI (testV op a b)) [] := by
  refine AC.vc hP sh lv10 (Nat.le_refl _) (by simp) (by simp) (Eq.mpr (v10 ..) ?_)
  unfold testV
  repeat' (first | refine br_of (fun h => ?_) (fun h => ?_))
  · rw [if_pos (op_eq h)]; exact leBI rfl
  · rename_i h1; rw [if_neg (op_ne h1), if_pos (op_eq h)]; exact leBI rfl
  · rename_i h2 h1; rw [if_neg (op_ne h2), if_neg (op_ne h1), if_pos (op_eq h)]; exact leBI rfl
  · rename_i h3 h2 h1; rw [if_neg (op_ne h3), if_neg (op_ne h2), if_neg (op_ne h1), if_pos (op_eq h)]; exact leBI rfl
  · rename_i h3 h2 h1; rw [if_neg (op_ne h3), if_neg (op_ne h2), if_neg (op_ne h1), if_neg (op_ne h)]; exact leBI rfl
/-! ### The document's -/
theorem c_rfits18 (a b : Int) (ha : I64 a) (hb : I64 b) : AC Try.prog 21 [ci a, ci b] [] (cb (decide (I64 (a + b)))) [] := by
  refine AC.vc hP sh lv21 (Nat.le_refl _) (by simp) (by simp) (Eq.mpr (v21 ..) ?_)
  unfold I64 at ha hb
  refine br_of (fun h => ?_) (fun h => ?_)
  · have h := of_decide_eq_true h
    rw [w64 (by omega) (by omega)]
    exact ret_b (decide_eq_decide.2 ⟨fun q => (by unfold I64; omega), fun q => (by unfold I64 at q; omega)⟩)
  · have h := of_decide_eq_false h
    rw [w64 (by omega) (by omega)]
    exact ret_b (decide_eq_decide.2 ⟨fun q => (by unfold I64; omega), fun q => (by unfold I64 at q; omega)⟩)
theorem tdiv_in {p b : Int} (hp : I64 p) (hb : b ≠ -1) : I64 (p.tdiv b) := by
  have h1 := Int.natAbs_tdiv p b
  have h2 := Nat.div_le_self p.natAbs b.natAbs
  unfold I64 at *
  by_cases hbz : b = 0
  · subst hbz; simp
  by_cases hb1 : b = 1
  · subst hb1; rw [Int.tdiv_one]; exact hp
  have h3 : p.natAbs / b.natAbs ≤ p.natAbs / 2 := Nat.div_le_div_left (by omega) (by omega)
  have h4 : (p.tdiv b).natAbs = p.natAbs / b.natAbs := h1
  rw [← h4] at h3
  omega
theorem wrap_I64 (x : Int) : I64 (IntKind.wrap .i64 x) := by rw [IntKind.wrap_i64]; unfold I64; omega
theorem c_rtimes (a b : Int) (ha : I64 a) (hb : I64 b) : AC Try.prog 22 [ci a, ci b] [] (.tup [(false, [.a (.fz (.int .i64 (IntKind.wrap .i64 (a * b))))]), (false, [.a (.fz (.bool (decide (I64 (a * b)))))])]) [] := by
  refine AC.vc hP sh lv22 (Nat.le_refl _) (by simp) (by simp) (Eq.mpr (v22 ..) ?_)
  have fin : ∀ {n : Int} {c : Bool}, n = IntKind.wrap .i64 (a * b) → c = decide (I64 (a * b)) → TV.Le (.tup [(false, [.a (.fz (.int .i64 n))]), (false, [.a (.fz (.bool c))])]) (.tup [(false, [.a (.fz (.int .i64 (IntKind.wrap .i64 (a * b))))]), (false, [.a (.fz (.bool (decide (I64 (a * b)))))])]) ∧ ([] : List AObj) = [] := fun h1 h2 => by rw [h1, h2]; exact ⟨.refl _, rfl⟩
  have hw := wrap_I64 (a * b)
  have hin : I64 (a * b) → IntKind.wrap .i64 (a * b) = a * b := fun h => Go.IntWalk.i64_in _ h
  refine br_of (fun h => ?_) (fun h => br_of (fun h1 => ?_) (fun h1 => br_of (fun h2 => ?_) (fun h2 => br_of (fun h3 => ?_) (fun h3 => ?_))))
  · have h : a = 0 := by simpa using h
    subst h
    exact fin (by rw [Int.zero_mul]; rfl) (by rw [Int.zero_mul]; rfl)
  · have h : b = 0 := by simpa using h1
    subst h
    exact fin (by rw [Int.mul_zero]; rfl) (by rw [Int.mul_zero]; rfl)
  · have h : a = -1 := by simpa using h2
    subst h
    refine fin rfl ?_
    unfold I64 at hb
    by_cases q : b = -9223372036854775808
    · subst q; rfl
    · rw [show (b != -9223372036854775808) = true by simpa using q, decide_eq_true (by unfold I64; omega)]
  · have h : b = -1 := by simpa using h3
    subst h
    refine fin rfl ?_
    unfold I64 at ha
    by_cases q : a = -9223372036854775808
    · subst q; rfl
    · rw [show (a != -9223372036854775808) = true by simpa using q, decide_eq_true (by unfold I64; omega)]
  · have hb0 : b ≠ 0 := by simpa using h1
    have hb1 : b ≠ -1 := by simpa using h3
    have hq := tdiv_in hw hb1
    rw [show IntKind.wrap .i64 (Int.tdiv (IntKind.wrap .i64 (a * b)) b) = Int.tdiv (IntKind.wrap .i64 (a * b)) b from Go.IntWalk.i64_in _ hq]
    have hsum := Int.mul_tdiv_add_tmod (IntKind.wrap .i64 (a * b)) b
    refine ⟨⟨rfl, hb0⟩, br_of (fun h4 => ⟨⟨rfl, hb0⟩, fin rfl ?_⟩) (fun h4 => fin rfl ?_)⟩
    · have h4 : Int.tdiv (IntKind.wrap .i64 (a * b)) b = a := by simpa using h4
      rw [h4] at hsum
      by_cases q : Int.tmod (IntKind.wrap .i64 (a * b)) b = 0
      · rw [q, Int.add_zero, Int.mul_comm b a] at hsum
        rw [show (Int.tmod (IntKind.wrap .i64 (a * b)) b == 0) = true by simpa using q, decide_eq_true (by rw [hsum]; exact hw)]
      · rw [show (Int.tmod (IntKind.wrap .i64 (a * b)) b == 0) = false by simpa using q, decide_eq_false (fun r => q ?_)]
        rw [hin r, Int.mul_tmod_left]
    · have h4 : ¬ Int.tdiv (IntKind.wrap .i64 (a * b)) b = a := by simpa using h4
      rw [decide_eq_false (fun r => h4 ?_)]
      rw [hin r, Int.mul_tdiv_cancel _ hb0]
theorem c_rdo (op : List UInt8) (a b : Int) (ha : I64 a) (hb : I64 b) : AC Try.prog 8 [cs op, ci a, ci b] [] (tII (doV op a b)) [] := by
  refine AC.vc hP sh lv8 (Nat.le_refl _) (by simp) (by simp) (Eq.mpr (v8 ..) ?_)
  unfold doV
  have fit : ∀ {x y n : Int}, x = y → (I64 y → n = y) → br (!(decide (I64 x))) (TV.Le (.tup [(false, [.a (.fz (.int .i64 0))]), (false, [.a (.fz (.int .i64 182))])]) (tII (fitV y)) ∧ ([] : List AObj) = []) (TV.Le (.tup [(false, [.a (.fz (.int .i64 n))]), (false, [.a (.fz (.int .i64 0))])]) (tII (fitV y)) ∧ ([] : List AObj) = []) := fun {x y n} e hn => by
    subst e
    refine br_of (fun h => ?_) (fun h => ?_)
    · have h : ¬ I64 x := by simpa using h
      exact leII (fitV_out h)
    · have h : I64 x := by simpa using h
      rw [hn h]; exact leII (fitV_in h)
  have hdiv : b ≠ 0 → br ((a : Int) == (-9223372036854775808 : Int)) (br ((b : Int) == (-1 : Int)) (TV.Le (.tup [(false, [.a (.fz (.int .i64 0))]), (false, [.a (.fz (.int .i64 182))])]) (tII (fitV (a.tdiv b))) ∧ ([] : List AObj) = [])
      ((IntKind.i64 = IntKind.i64 ∧ b ≠ 0) ∧ (TV.Le (.tup [(false, [.a (.fz (.int .i64 (IntKind.wrap .i64 (Int.tdiv a b))))]), (false, [.a (.fz (.int .i64 0))])]) (tII (fitV (a.tdiv b))) ∧ ([] : List AObj) = [])))
      ((IntKind.i64 = IntKind.i64 ∧ b ≠ 0) ∧ (TV.Le (.tup [(false, [.a (.fz (.int .i64 (IntKind.wrap .i64 (Int.tdiv a b))))]), (false, [.a (.fz (.int .i64 0))])]) (tII (fitV (a.tdiv b))) ∧ ([] : List AObj) = [])) := fun h0 => by
    have ok : I64 (a.tdiv b) → (IntKind.i64 = IntKind.i64 ∧ b ≠ 0) ∧ (TV.Le (.tup [(false, [.a (.fz (.int .i64 (IntKind.wrap .i64 (Int.tdiv a b))))]), (false, [.a (.fz (.int .i64 0))])]) (tII (fitV (a.tdiv b))) ∧ ([] : List AObj) = []) := fun h => by
      rw [Go.IntWalk.i64_in _ h]; exact ⟨⟨rfl, h0⟩, leII (fitV_in h)⟩
    refine br_of (fun h => br_of (fun h1 => ?_) (fun h1 => ok (tdiv_in ha (by simpa using h1)))) (fun h => ok ?_)
    · have h : a = -9223372036854775808 := by simpa using h
      have h1 : b = -1 := by simpa using h1
      subst h; subst h1
      exact leII rfl
    · have h : a ≠ -9223372036854775808 := by simpa using h
      by_cases q : b = -1
      · subst q
        rw [Int.tdiv_neg, Int.tdiv_one]
        unfold I64 at *; omega
      · exact tdiv_in ha q
  refine br_of (fun h => ?_) (fun h => ?_)
  · have e := op_eq h
    subst e
    rw [if_neg (by decide), if_pos rfl]
    refine br_of (fun h1 => ?_) (fun h1 => ?_)
    · have h1 : a = -9223372036854775808 := by simpa using h1
      subst h1; exact leII rfl
    · have h1 : a ≠ -9223372036854775808 := by simpa using h1
      unfold I64 at ha
      rw [w64 (x := 0 - a) (by omega) (by omega)]
      refine ⟨_, c_rfits18 0 (0 - a) (by unfold I64; omega) (by unfold I64; omega), fit (by omega) (fun h => by omega)⟩
  rw [show (if op = [43] then fitV (a + b) else if op = [126] then fitV (-a) else if op = [45] then fitV (a - b) else if op = [42] then fitV (a * b) else if op = [100, 105, 118] then (if b = 0 then (0, 181) else fitV (a.tdiv b)) else if op = [109, 111, 100] then (if b = 0 then (0, 181) else (a.tmod b, 0)) else (0, 180)) =
    (if op = [43] then fitV (a + b) else if op = [45] then fitV (a - b) else if op = [42] then fitV (a * b) else if op = [100, 105, 118] then (if b = 0 then (0, 181) else fitV (a.tdiv b)) else if op = [109, 111, 100] then (if b = 0 then (0, 181) else (a.tmod b, 0)) else (0, 180)) by rw [if_neg (op_ne h)]]
  clear h
  refine br_of (fun h => ?_) (fun h => ?_)
  · rw [if_pos (op_eq h)]
    exact ⟨_, c_rfits18 a b ha hb, fit rfl (fun h => Go.IntWalk.i64_in _ h)⟩
  rw [if_neg (op_ne h)]
  clear h
  refine br_of (fun h => ?_) (fun h => ?_)
  · rw [if_pos (op_eq h)]
    refine br_of (fun h1 => ?_) (fun h1 => ?_)
    · have h1 : b = -9223372036854775808 := by simpa using h1
      subst h1
      unfold I64 at ha
      refine br_of (fun h2 => leII (fitV_out (by have h2 := of_decide_eq_true h2; unfold I64; omega))) (fun h2 => ?_)
      have h2 := of_decide_eq_false h2
      rw [w64 (x := a + 9223372036854775807) (by omega) (by omega), w64 (by omega) (by omega), show a + 9223372036854775807 + 1 = a - -9223372036854775808 by omega]
      exact leII (fitV_in (by unfold I64; omega))
    · have h1 : b ≠ -9223372036854775808 := by simpa using h1
      have hb' := hb
      unfold I64 at hb'
      rw [w64 (x := 0 - b) (by omega) (by omega)]
      exact ⟨_, c_rfits18 a (0 - b) ha (by unfold I64; omega), fit (by omega) (fun h => Go.IntWalk.i64_in _ h)⟩
  rw [if_neg (op_ne h)]
  clear h
  refine br_of (fun h => ?_) (fun h => ?_)
  · rw [if_pos (op_eq h)]
    exact ⟨_, _, c_rtimes a b ha hb, fit rfl (fun h => Go.IntWalk.i64_in _ h)⟩
  rw [if_neg (op_ne h)]
  clear h
  refine br_of (fun h => ?_) (fun h => ?_)
  · rw [if_pos (op_eq h)]
    refine br_of (fun h1 => ?_) (fun h1 => br_of (fun h2 => by rw [op_eq h] at h2; cases h2) (fun _ => ?_))
    · rw [if_pos (by simpa using h1)]; exact leII rfl
    · have h1 : b ≠ 0 := by simpa using h1
      rw [if_neg h1]; exact hdiv h1
  rw [if_neg (op_ne h)]
  clear h
  refine br_of (fun h => ?_) (fun h => ?_)
  · rw [if_pos (op_eq h)]
    refine br_of (fun h1 => ?_) (fun h1 => br_of (fun h2 => ?_) (fun h2 => by rw [h] at h2; cases h2))
    · rw [if_pos (by simpa using h1)]; exact leII rfl
    · have h1 : b ≠ 0 := by simpa using h1
      rw [if_neg h1]
      exact ⟨⟨rfl, h1⟩, leII rfl⟩
  · rw [if_neg (op_ne h)]; exact leII rfl

end Go.AM

set_option maxRecDepth 100000
open Go Go.Proofs
namespace Go.AM

/-! ### The numbers of a term -/
mutual
def okN : Tm → Prop
  | .mk k _ n l => (k = 2 → I64 n) ∧ okNs l
def okNs : List Tm → Prop
  | [] => True
  | t :: l => okN t ∧ okNs l
end
theorem okNs_mem : ∀ {l : List Tm} {t : Tm}, okNs l → t ∈ l → okN t
  | x :: l, t, h, hm => by
    rcases List.mem_cons.1 hm with rfl | hm
    · exact h.1
    · exact okNs_mem h.2 hm
theorem okNs_of : ∀ {l : List Tm}, (∀ t ∈ l, okN t) → okNs l
  | [], _ => trivial
  | t :: l, h => ⟨h t List.mem_cons_self, okNs_of fun u hu => h u (List.mem_cons_of_mem _ hu)⟩
theorem okNs_append {a b : List Tm} (ha : okNs a) (hb : okNs b) : okNs (a ++ b) := okNs_of fun t ht => by
  rcases List.mem_append.1 ht with ht | ht
  · exact okNs_mem ha ht
  · exact okNs_mem hb ht
mutual
theorem okI_N : ∀ t : Tm, okI t → okN t
  | .mk k s n l, h => ⟨fun _ => h.1, okIs_N l h.2⟩
theorem okIs_N : ∀ l : List Tm, okIs l → okNs l
  | [], _ => trivial
  | t :: l, h => ⟨okI_N t h.1, okIs_N l h.2⟩
end
theorem okN_l {t : Tm} (h : okN t) : okNs t.l := by cases t; exact h.2
theorem okN_hd {l : List Tm} (h : okNs l) : okN (hd l) := by
  match l, h with
  | [], _ => exact ⟨fun e => (by cases e), trivial⟩
  | x :: r, h => exact h.1
theorem okNs_drop {l : List Tm} (n : Nat) (h : okNs l) : okNs (l.drop n) := okNs_of fun _ hu => okNs_mem h (List.mem_of_mem_drop hu)
theorem okN_no : okN noT := ⟨fun e => (by cases e), trivial⟩
theorem applyF_N {f : Tm} {args : List Tm} (hf : okN f) (ha : okNs args) : okN (applyF f args) := by
  match args, ha with
  | [], _ => exact hf
  | a :: r, ha =>
    obtain ⟨k, s, n, l⟩ := f
    rw [apply_some]
    split
    · exact ⟨fun e => (by cases e), okNs_append hf.2 ha⟩
    · exact ⟨fun e => (by cases e), hf, ha⟩
theorem withF_N {t : Tm} {o : List Tm} (h : t.k ≠ 2) (ho : okNs o) : okN (withF t o) := by
  unfold withF
  split
  · match o, ho with
    | [], _ => exact applyF_N ⟨fun e => (by cases e), trivial⟩ trivial
    | x :: r, ho => exact applyF_N ho.1 ho.2
  · exact ⟨fun e => absurd e h, ho⟩
mutual
theorem walkF_N (lf : Tm → Int → Tm) (h : ∀ u d, okN u → okN (lf u d)) : ∀ (t : Tm) (d : Int), okN t → okN (walkF lf t d)
  | .mk k s n l, d, ho => by
    rw [walkF]
    split
    · rename_i hk
      refine withF_N (fun e => ?_) (walkL_N lf h l _ ho.2)
      have e : k = 2 := e
      subst e; cases hk
    · exact h _ _ ho
theorem walkL_N (lf : Tm → Int → Tm) (h : ∀ u d, okN u → okN (lf u d)) : ∀ (l : List Tm) (d : Int), okNs l → okNs (walkL lf l d)
  | [], _, _ => trivial
  | t :: l, d, ho => ⟨walkF_N lf h t d ho.1, walkL_N lf h l d ho.2⟩
end
theorem okN3 {u : Tm} {m : Int} (h3 : (u.k == 3) = true) (h : okN u) : okN (.mk u.k u.s m u.l) := ⟨fun e => (by have e : u.k = 2 := e; rw [e] at h3; cases h3), okN_l h⟩
theorem shT_N {fr by_ : Int} {t : Tm} (d : Int) (h : okN t) : okN (shT fr by_ t d) := by
  refine walkF_N _ (fun u d hu => ?_) t d h
  unfold shLeaf
  split
  · rename_i hc; exact okN3 hc.1 hu
  · exact hu
theorem suT_N {i : Int} {s t : Tm} (d : Int) (hs : okN s) (h : okN t) : okN (suT i s t d) := by
  refine walkF_N _ (fun u d hu => ?_) t d h
  unfold suLeaf
  split
  · rename_i h3
    split
    · exact hu
    · split
      · exact shT_N _ hs
      · exact okN3 h3 hu
  · exact hu
def OKN (s : Sto) : Prop := ∀ i ∈ s.V, okN i.v
theorem OKN.val {s : Sto} (h : OKN s) (t : Tm) : okN (valS s t) := by
  unfold valS infOf
  split
  · cases e : s.V[t.n.toNat]? with
    | none => exact okN_no
    | some i => exact h i (List.mem_of_getElem? e)
  · exact okN_no
theorem stepS_N {s : Sto} {t : Tm} (hs : OKN s) (h : okN t) : okN (stepS s t).1 := by
  unfold stepS
  split
  · exact hs.val t
  · split
    · exact h
    · split
      · exact applyF_N (hs.val _) (okNs_drop 1 (okN_l h))
      · split
        · exact h
        · refine applyF_N ?_ (okNs_drop 2 (okN_l h))
          unfold conF
          split
          · exact suT_N 0 (okN_hd (okNs_drop 1 (okN_l h))) (okN_hd (okN_l (okN_hd (okN_l h))))
          · exact okN_no
theorem runH_N {s : Sto} (hs : OKN s) : ∀ {F : Nat} {t : Tm}, okN t → okN (runH s F t).1
  | 0, t, h => by rw [runH]; split; · exact h
                  · exact okN_no
  | F + 1, t, h => by
    rw [runH]
    split
    · exact h
    · split
      · exact okN_no
      · exact runH_N hs (stepS_N hs h)
theorem headV_N {s : Sto} {f : Int} {t : Tm} (hs : OKN s) (h : okN t) : okN (headV s f t).1 := by
  unfold headV
  split
  · split
    · exact runH_N hs h
    · exact okN_no
  · exact okN_no
/-! ### A term's number -/
def argsV (op : List UInt8) : Int := if op = [43] then 2 else if op = [45] then 2 else if op = [42] then 2 else if op = [100, 105, 118] then 2 else if op = [109, 111, 100] then 2 else if op = [126] then 1 else 0
theorem c_aargs (op : List UInt8) : AC Try.prog 30 [cs op] [] (ci (argsV op)) [] := by
  refine AC.vc hP sh lv30 (Nat.le_refl _) (by simp) (by simp) (Eq.mpr (v30 ..) ?_)
  unfold argsV
  refine br_of (fun h => ?_) (fun h => ?_)
  · rw [if_pos (op_eq h)]; exact ret_i rfl
  rw [if_neg (op_ne h)]
  refine br_of (fun h => ?_) (fun h => ?_)
  · rw [if_pos (op_eq h)]; exact ret_i rfl
  rw [if_neg (op_ne h)]
  refine br_of (fun h => ?_) (fun h => ?_)
  · rw [if_pos (op_eq h)]; exact ret_i rfl
  rw [if_neg (op_ne h)]
  refine br_of (fun h => ?_) (fun h => ?_)
  · rw [if_pos (op_eq h)]; exact ret_i rfl
  rw [if_neg (op_ne h)]
  refine br_of (fun h => ?_) (fun h => ?_)
  · rw [if_pos (op_eq h)]; exact ret_i rfl
  rw [if_neg (op_ne h)]
  refine br_of (fun h => ?_) (fun h => ?_)
  · rw [if_pos (op_eq h)]; exact ret_i rfl
  rw [if_neg (op_ne h)]
  exact ret_i rfl
theorem argsV_n (op : List UInt8) : argsV op = 0 ∨ argsV op = 1 ∨ argsV op = 2 := by
  unfold argsV
  repeat' split
  all_goals simp
theorem doV_I64 (op : List UInt8) (a b : Int) (ha : I64 a) (hb : I64 b) : I64 (doV op a b).1 := by
  have fit : ∀ x : Int, I64 (fitV x).1 := fun x => by unfold fitV; split; · assumption
                                                      · unfold I64; simp
  have zero : I64 0 := by unfold I64; omega
  unfold doV
  split; · exact fit _
  split; · exact fit _
  split; · exact fit _
  split; · exact fit _
  split
  · split
    · exact zero
    · exact fit _
  split
  · split
    · exact zero
    · rename_i h0
      have h1 := Int.natAbs_tmod a b
      have h2 := Nat.mod_lt a.natAbs (show 0 < b.natAbs by omega)
      unfold I64 at *
      have h3 : (a.tmod b).natAbs = a.natAbs % b.natAbs := h1
      show _ ≤ a.tmod b ∧ a.tmod b ≤ _
      omega
  · exact zero
/-- One of a row, and what follows: the numbers, what is left, what is wrong. -/
def finE (op : List UInt8) (a b left : Int) : Int × Int × Int := if (doV op a b).2 ≠ 0 then (0, 0, (doV op a b).2) else ((doV op a b).1, left, 0)
def ev2 (ev : Int → Tm → Int × Int × Int) (op : List UInt8) (y : Tm) (a : Int × Int × Int) : Int × Int × Int :=
  if a.2.2 ≠ 0 then (0, 0, a.2.2) else if (ev a.2.1 y).2.2 ≠ 0 then (0, 0, (ev a.2.1 y).2.2) else finE op a.1 (ev a.2.1 y).1 (ev a.2.1 y).2.1
def ev1 (op : List UInt8) (a : Int × Int × Int) : Int × Int × Int := if a.2.2 ≠ 0 then (0, 0, a.2.2) else finE op a.1 0 a.2.1
def evA (ev : Int → Tm → Int × Int × Int) (left : Int) (h : Tm) (l : List Tm) : Int × Int × Int :=
  if h.k ≠ 0 ∨ argsV h.s = 0 ∨ argsV h.s ≠ (l.length : Int) then (0, 0, 180)
  else match l with
    | [x] => ev1 h.s (ev left x)
    | x :: y :: _ => ev2 ev h.s y (ev left x)
    | [] => (0, 0, 180)
def evK (ev : Int → Tm → Int × Int × Int) (z : Tm × Int × Int) : Int × Int × Int :=
  if z.2.2 ≠ 0 then (0, 0, z.2.2) else if z.1.k = 2 then (z.1.n, z.2.1, 0) else evA ev z.2.1 (splitF z.1).1 (splitF z.1).2
/-- The number that a term is; so deep at most. -/
def evalV (s : Sto) : Nat → Int → Tm → Int × Int × Int
  | 0, _, _ => (0, 0, 180)
  | D + 1, f, t => evK (evalV s D) (headV s f t)
abbrev t3 (z : Int × Int × Int) : TV := .tup [(false, [.a (.fz (.int .i64 z.1))]), (false, [.a (.fz (.int .i64 z.2.1))]), (false, [.a (.fz (.int .i64 z.2.2))])]
theorem le3 {a b c : Int} {z : Int × Int × Int} {s : Sto} (h : z = (a, b, c)) : TV.Le (.tup [(false, [.a (.fz (.int .i64 a))]), (false, [.a (.fz (.int .i64 b))]), (false, [.a (.fz (.int .i64 c))])]) (t3 z) ∧ oS s = oS s := by rw [h]; exact ⟨.refl _, rfl⟩
/-- What is known of a head. -/
theorem headV_spec {s : Sto} (hs : OKS s) {f : Int} {t : Tm} (hf : validB t = true → Fit f.toNat t) (h0 : (headV s f t).2.2 = 0) :
    ∃ u : Nat, u ≤ f.toNat ∧ (headV s f t).2.1 = f - (u : Int) ∧ validB (headV s f t).1 = true ∧ Fit (f.toNat - u) (headV s f t).1 ∧ (headV s f t).1.sz + 4200 * (f.toNat - u) ≤ t.sz + 4200 * f.toNat := by
  unfold headV at *
  split at h0
  · rename_i hv
    rw [if_pos hv] at *
    split at h0
    · rename_i h1
      rw [if_pos h1] at *
      have key : ∀ (F : Nat) (t : Tm), validB t = true → Fit F t → (runH s F t).2.1 = 0 → (runH s F t).1.sz + 4200 * (F - (runH s F t).2.2) ≤ t.sz + 4200 * F := by
        intro F
        induction F with
        | zero => intro t hv hf h; rw [runH] at h ⊢; split <;> rename_i q
                  · exact Nat.le_refl _
                  · rw [if_neg q] at h; cases h
        | succ F ih =>
          intro t hv hf h
          rw [runH] at h ⊢
          split
          · exact Nat.le_refl _
          · rename_i q
            rw [if_neg q] at h
            split
            · rename_i q2; rw [if_pos q2] at h; cases h
            · rename_i q2
              rw [if_neg q2] at h
              have q1 : (stepS s t).2 = 1 := by rcases stepS_n s t with q' | q' | q'; · exact absurd q' q
                                                · exact q'
                                                · exact absurd q' q2
              obtain ⟨v, ff⟩ := stepS_fit hs hv hf q1
              have h1 := ih _ v ff h
              have h2 := stepS_sz hs hv hf q1
              simp only
              omega
      obtain ⟨g1, g2⟩ := runH_fit hs hv (hf hv)
      rcases g2 with ⟨_, a, b, _⟩ | ⟨a, _⟩
      · exact ⟨_, g1, rfl, a, b, key _ _ hv (hf hv) h1⟩
      · rw [h1] at a; cases a
    · rename_i h1; exact absurd h0 h1
  · cases h0

end Go.AM

set_option maxRecDepth 100000
open Go Go.Proofs
namespace Go.AM

/-! ### Eval: its code -/
def evOK (f : Int) (z : Int × Int × Int) : Prop := z.2.2 = 0 → I64 z.1 ∧ ∃ u : Nat, u ≤ f.toNat ∧ z.2.1 = f - (u : Int)
theorem finE_ok {op : List UInt8} {a b l f : Int} (ha : I64 a) (hb : I64 b) (hl : ∃ u : Nat, u ≤ f.toNat ∧ l = f - (u : Int)) : evOK f (finE op a b l) := by
  intro h
  unfold finE at *
  split at h
  · rename_i q; exact absurd h q
  · rename_i q; rw [if_neg q]; exact ⟨doV_I64 _ _ _ ha hb, hl⟩
theorem I64_0 : I64 0 := by unfold I64; omega
abbrev hpE (s : Sto) (h : Tm) (a b : Int) : AHeap := [(0, sto2 1 2 s), (1, .arz 6 (SR s.V)), (2, .arz 1 (IR s.T)), (3, .arr 4 [cT h]), (4, .arr 2 [[.a (.fz (.int .i64 a)), .a (.fz (.int .i64 b))]])]
abbrev enE (f : Int) (l : List Tm) (i : Int) : Env := [(0, aS 0), (2, ci f), (10, .c (.a (.ep 3 4 0 0))), (13, .c (.a (.ep 4 2 0 0))), (55, aL l), (56, ci (((FTs l).length : Nat) : Int)), (57, ci i)]
theorem end_in : ((0 : Int) ≤ 0 ∧ (0 : Int) < ((2 : Nat) : Int)) ∧ ((0 : Int) ≤ 1 ∧ (1 : Int) < ((2 : Nat) : Int)) := by omega
theorem fin_br {s : Sto} {op : List UInt8} {a b left : Int} : br ((doV op a b).2 != 0) (TV.Le (.tup [(false, [.a (.fz (.int .i64 0))]), (false, [.a (.fz (.int .i64 0))]), (false, [.a (.fz (.int .i64 (doV op a b).2))])]) (t3 (finE op a b left)) ∧ oS s = oS s)
    (TV.Le (.tup [(false, [.a (.fz (.int .i64 (doV op a b).1))]), (false, [.a (.fz (.int .i64 left))]), (false, [.a (.fz (.int .i64 0))])]) (t3 (finE op a b left)) ∧ oS s = oS s) := by
  refine br_of (fun h => ?_) (fun h => ?_)
  · exact le3 (if_pos (by simpa using h))
  · exact le3 (if_neg (by simpa using h))
/-- One argument. -/
theorem l_eval1 (s : Sto) (h x : Tm) (f : Int) (z : Int × Int × Int) (hx : AC Try.prog 15 [aS 0, aT x, ci f] (oS s) (t3 z) (oS s)) (hz : z.2.2 = 0 → I64 z.1) :
    RPt Try.prog 15 3 (t3 (ev1 h.s z)) (oS s) 1 ⟨enE f [x] 0, hpE s h 0 0, 5⟩ := by
  obtain ⟨k, str, n, l⟩ := h
  refine RPt.vc hP sh lv15 (Eq.mpr (v15_1a f (FTs [x]) _ s.V.length s.T.length (SR s.V) (IR s.T) k str n (FTs l) 0 0 _ _) ?_)
  rw [aE0]
  refine br_of (fun _ => ⟨el0 x [], _, _, _, hx, end_in.1, br_of (fun h => le3 (if_pos (by simpa using h))) (fun h => ?_)⟩) (fun h => absurd (of_decide_eq_false h) (by rw [FTs_length]; simp))
  have hz0 : z.2.2 = 0 := by simpa using h
  have e : ev1 str z = finE str z.1 0 z.2.1 := if_neg (by rw [hz0]; simp)
  show RPt _ _ _ (t3 (ev1 str z)) _ _ _
  rw [e]
  refine RPt.vc hP sh lv15 (Eq.mpr (v15_1b z.2.1 (FTs [x]) _ s.V.length s.T.length (SR s.V) (IR s.T) k str n (FTs l) z.1 0 _ _) ?_)
  refine br_of (fun h => absurd (of_decide_eq_true h) (by rw [FTs_length]; simp)) (fun _ => ⟨end_in.1, end_in.2, _, _, c_ado str z.1 0 (hz hz0) I64_0, fin_br⟩)
/-- Two. -/
theorem l_eval2 (s : Sto) (h x y : Tm) (f : Int) (z z2 : Int × Int × Int) (hx : AC Try.prog 15 [aS 0, aT x, ci f] (oS s) (t3 z) (oS s)) (hz : z.2.2 = 0 → I64 z.1) (hy : z.2.2 = 0 → AC Try.prog 15 [aS 0, aT y, ci z.2.1] (oS s) (t3 z2) (oS s) ∧ (z2.2.2 = 0 → I64 z2.1))
    (r : Int × Int × Int) (hr : r = if z.2.2 ≠ 0 then (0, 0, z.2.2) else if z2.2.2 ≠ 0 then (0, 0, z2.2.2) else finE h.s z.1 z2.1 z2.2.1) :
    RPt Try.prog 15 3 (t3 r) (oS s) 1 ⟨enE f [x, y] 0, hpE s h 0 0, 5⟩ := by
  subst hr
  obtain ⟨k, str, n, l⟩ := h
  refine RPt.vc hP sh lv15 (Eq.mpr (v15_1a f (FTs [x, y]) _ s.V.length s.T.length (SR s.V) (IR s.T) k str n (FTs l) 0 0 _ _) ?_)
  rw [aE0]
  refine br_of (fun _ => ⟨el0 x [y], _, _, _, hx, end_in.1, br_of (fun h => le3 (if_pos (by simpa using h))) (fun h => ?_)⟩) (fun h => absurd (of_decide_eq_false h) (by rw [FTs_length]; simp))
  have hz0 : z.2.2 = 0 := by simpa using h
  rw [if_neg (by rw [hz0]; simp)]
  obtain ⟨hy1, hy2⟩ := hy hz0
  refine RPt.vc hP sh lv15 (Eq.mpr (v15_1b z.2.1 (FTs [x, y]) _ s.V.length s.T.length (SR s.V) (IR s.T) k str n (FTs l) z.1 0 _ _) ?_)
  rw [aE1]
  refine br_of (fun _ => ⟨el1 x y [], _, _, _, hy1, end_in.2, br_of (fun h => le3 (if_pos (by simpa using h))) (fun h => ?_)⟩) (fun h => absurd (of_decide_eq_false h) (by rw [FTs_length]; simp))
  have hz2 : z2.2.2 = 0 := by simpa using h
  rw [if_neg (by rw [hz2]; simp)]
  refine RPt.vc hP sh lv15 (Eq.mpr (v15_1c z2.2.1 (FTs [x, y]) _ s.V.length s.T.length (SR s.V) (IR s.T) k str n (FTs l) z.1 z2.1 _ _) ?_)
  refine br_of (fun h => absurd (of_decide_eq_true h) (by rw [FTs_length]; simp)) (fun _ => ⟨end_in.1, end_in.2, _, _, c_ado str z.1 z2.1 (hz hz0) (hy2 hz2), fin_br⟩)
theorem splitF_kid {t : Tm} : ∀ u ∈ (splitF t).2, u ∈ t.l ∧ validB t = true ∧ t.k = 6 := by
  intro u hu
  unfold splitF at hu
  split at hu
  · rename_i q; exact ⟨List.mem_of_mem_drop hu, q.2, q.1⟩
  · cases hu
theorem c_aeval (s : Sto) (hs : OKS s) (hn : OKN s) : ∀ (D : Nat) (f : Int) (t : Tm), 0 - 4611686018427387904 ≤ f → f ≤ 4611686018427387904 → t.sz ≤ B → (validB t = true → Fit f.toNat t) → okN t → t.sz + 4200 * f.toNat ≤ D →
    AC Try.prog 15 [aS 0, aT t, ci f] (oS s) (t3 (evalV s D f t)) (oS s) ∧ evOK f (evalV s D f t) := by
  intro D
  induction D with
  | zero => intro f t _ _ _ _ _ h; have := t.sz_pos; omega
  | succ D ih =>
    intro f t h0 h1 hz hf hN hD
    have hH := c_sHead s hs f t h0 hz hf
    have hK := headV_spec hs (f := f) (t := t) hf
    have hN2 := headV_N (f := f) hn hN
    have eE : evalV s (D + 1) f t = evK (evalV s D) (headV s f t) := rfl
    rw [eE]
    generalize headV s f t = q at *
    obtain ⟨h, left, e⟩ := q
    simp only at hH hK hN2
    by_cases he : e = 0
    case neg =>
      have e1 : evK (evalV s D) (h, left, e) = (0, 0, e) := if_pos he
      rw [e1]
      refine ⟨?_, fun q => absurd q he⟩
      obtain ⟨k, str, n, l⟩ := t
      refine AC.vc hP sh lv15 (Nat.le_refl _) (by simp [isLive]) (by simp) (Eq.mpr (v15 k str n (FTs l) ..) ?_)
      exact ⟨(_, _, _), hH, br_of (fun _ => le3 rfl) (fun q => absurd (by simpa using q) he)⟩
    subst he
    obtain ⟨u, hu1, hu2, hv, hfh, hsz⟩ := hK rfl
    clear hK
    have hft : left.toNat = f.toNat - u := by omega
    by_cases h2 : h.k = 2
    · have e1 : evK (evalV s D) (h, left, 0) = (h.n, left, 0) := by rw [evK, if_neg (by simp), if_pos h2]
      rw [e1]
      refine ⟨?_, fun _ => ⟨?_, u, hu1, hu2⟩⟩
      · obtain ⟨k, str, n, l⟩ := t
        refine AC.vc hP sh lv15 (Nat.le_refl _) (by simp [isLive]) (by simp) (Eq.mpr (v15 k str n (FTs l) ..) ?_)
        exact ⟨(_, _, _), hH, br_of (fun q => by cases q) (fun _ => br_of (fun _ => le3 rfl) (fun q => absurd h2 (by simpa using q)))⟩
      · obtain ⟨k, str, n, l⟩ := h; exact hN2.1 h2
    have e1 : evK (evalV s D) (h, left, 0) = evA (evalV s D) left (splitF h).1 (splitF h).2 := by rw [evK, if_neg (by simp), if_neg h2]
    rw [e1]
    have hsp := c_csplit h (by have := hfh.sz; simp only [SZ, B] at *; omega)
    have kid := fun u hu => splitF_kid (t := h) u hu
    generalize splitF h = p at *
    obtain ⟨ph, pl⟩ := p
    simp only at hsp kid ⊢
    have ha := c_aargs ph.s
    -- what an argument comes to
    have arg : ∀ x ∈ pl, ∀ g : Int, (∃ w : Nat, w ≤ left.toNat ∧ g = left - (w : Int)) → AC Try.prog 15 [aS 0, aT x, ci g] (oS s) (t3 (evalV s D g x)) (oS s) ∧ evOK g (evalV s D g x) := by
      intro x hx g hg
      obtain ⟨w, hw1, hw2⟩ := hg
      obtain ⟨k1, k2, k3⟩ := kid x hx
      have hlt := Tm.szs_mem k1
      have hse := h.sz_eq
      have hgt : g.toNat = left.toNat - w := by omega
      have hfx : Fit left.toNat x := by rw [hft]; exact hfh.kid k1
      refine ih g x (by omega) (by omega) (by have := hfx.sz; simp only [SZ, B] at *; omega) (fun _ => hfx.mono (by omega)) ?_ (by omega)
      exact okNs_mem (okN_l hN2) k1
    have left0 : ∃ w : Nat, w ≤ left.toNat ∧ left = left - (w : Int) := ⟨0, Nat.zero_le _, by omega⟩
    have back : ∀ {g : Int} {z : Int × Int × Int}, (∃ w : Nat, w ≤ left.toNat ∧ g = left - (w : Int)) → (∃ v : Nat, v ≤ g.toNat ∧ z.2.1 = g - (v : Int)) → ∃ v : Nat, v ≤ f.toNat ∧ z.2.1 = f - (v : Int) := by
      intro g z h1 h2
      obtain ⟨w, a, b⟩ := h1
      obtain ⟨v, c, d⟩ := h2
      exact ⟨u + w + v, by omega, by omega⟩
    have back2 : ∀ {g : Int} {z : Int × Int × Int}, (∃ w : Nat, w ≤ left.toNat ∧ g = left - (w : Int)) → (∃ v : Nat, v ≤ g.toNat ∧ z.2.1 = g - (v : Int)) → ∃ v : Nat, v ≤ left.toNat ∧ z.2.1 = left - (v : Int) := by
      intro g z h1 h2
      obtain ⟨w, a, b⟩ := h1
      obtain ⟨v, c, d⟩ := h2
      exact ⟨w + v, by omega, by omega⟩
    have goal : ∀ r : Int × Int × Int, r = evA (evalV s D) left ph pl → (ph.k = 0 → argsV ph.s ≠ 0 → argsV ph.s = (pl.length : Int) → RPt Try.prog 15 3 (t3 r) (oS s) 1 ⟨enE left pl 0, hpE s ph 0 0, 5⟩) → AC Try.prog 15 [aS 0, aT t, ci f] (oS s) (t3 r) (oS s) := fun r hr hgo => by
      obtain ⟨k, str, n, l⟩ := t
      refine AC.vc hP sh lv15 (Nat.le_refl _) (by simp [isLive]) (by simp) (Eq.mpr (v15 k str n (FTs l) ..) ?_)
      have no : (ph.k ≠ 0 ∨ argsV ph.s = 0 ∨ argsV ph.s ≠ (pl.length : Int)) → r = (0, 0, 180) := fun q => hr.trans (if_pos q)
      refine ⟨(_, _, _), hH, br_of (fun q => by cases q) (fun _ => br_of (fun q => absurd (by simpa using q) h2) (fun _ => ⟨(_, _), hsp, _, ha, br_of (fun q => le3 (no (.inl (by simpa using q)))) (fun q1 => br_of (fun q => le3 (no (.inr (.inl (by simpa using q))))) (fun q2 => ⟨rfl, br_of (fun q => le3 (no (.inr (.inr ?_)))) (fun q3 => ⟨rfl, ?_⟩)⟩))⟩))⟩
      · rw [lenI] at q; simpa using q
      · rw [lenI] at q3
        exact hgo (by simpa using q1) (by simpa using q2) (by simpa using q3)
    by_cases hc : ph.k ≠ 0 ∨ argsV ph.s = 0 ∨ argsV ph.s ≠ (pl.length : Int)
    · have e2 : evA (evalV s D) left ph pl = (0, 0, 180) := if_pos hc
      refine ⟨goal _ rfl (fun a b c => by rcases hc with q | q | q; · exact absurd a q
                                          · exact absurd q b
                                          · exact absurd c q), fun q => by rw [e2] at q; cases q⟩
    match pl, arg, goal, hc with
    | [], _, _, hc => rcases argsV_n ph.s with q | q | q <;> exfalso <;> exact hc (by rw [q]; simp)
    | [x], arg, goal, hc =>
      have e2 : evA (evalV s D) left ph [x] = ev1 ph.s (evalV s D left x) := if_neg hc
      obtain ⟨a1, a2⟩ := arg x (by simp) left left0
      rw [e2]
      refine ⟨goal _ e2.symm fun _ _ _ => l_eval1 s ph x left _ a1 (fun q => (a2 q).1), fun q => ?_⟩
      by_cases q0 : (evalV s D left x).2.2 = 0
      · have e3 : ev1 ph.s (evalV s D left x) = finE ph.s (evalV s D left x).1 0 (evalV s D left x).2.1 := if_neg (by rw [q0]; simp)
        rw [e3] at q ⊢
        exact finE_ok (f := f) (a2 q0).1 I64_0 (back left0 (a2 q0).2) q
      · have e3 : ev1 ph.s (evalV s D left x) = (0, 0, (evalV s D left x).2.2) := if_pos q0
        rw [e3] at q; exact absurd q q0
    | x :: y :: r, arg, goal, hc =>
      have hr : r = [] := by
        rcases argsV_n ph.s with q | q | q
        · exact absurd (.inr (.inl q)) hc
        · exact absurd (.inr (.inr (by rw [q]; simp only [List.length_cons]; omega))) hc
        · refine List.eq_nil_of_length_eq_zero ?_
          by_cases w : r.length = 0
          · exact w
          · exact absurd (.inr (.inr (by rw [q]; simp only [List.length_cons]; omega))) hc
      subst hr
      have e2 : evA (evalV s D) left ph [x, y] = ev2 (evalV s D) ph.s y (evalV s D left x) := if_neg hc
      obtain ⟨a1, a2⟩ := arg x (by simp) left left0
      have a3 := fun q => arg y (by simp) (evalV s D left x).2.1 (back2 left0 (a2 q).2)
      rw [e2]
      refine ⟨goal _ e2.symm fun _ _ _ => l_eval2 s ph x y left _ _ a1 (fun q => (a2 q).1) (fun q => ⟨(a3 q).1, fun w => ((a3 q).2 w).1⟩) _ rfl, fun q => ?_⟩
      unfold ev2 at q ⊢
      by_cases q0 : (evalV s D left x).2.2 = 0
      · rw [if_neg (by rw [q0]; simp)] at q ⊢
        by_cases q1 : (evalV s D (evalV s D left x).2.1 y).2.2 = 0
        · rw [if_neg (by rw [q1]; simp)] at q ⊢
          exact finE_ok (f := f) (a2 q0).1 ((a3 q0).2 q1).1 (back (back2 left0 (a2 q0).2) ((a3 q0).2 q1).2) q
        · rw [if_pos q1] at q; exact absurd q q1
      · rw [if_pos q0] at q; exact absurd q q0

end Go.AM

set_option maxRecDepth 100000
open Go Go.Proofs
namespace Go.AM

/-! ### A store without variables -/
abbrev s0 : Sto := ⟨[], []⟩
theorem ok_s0 : OKS s0 := fun i hi => by cases hi
theorem okn_s0 : OKN s0 := fun i hi => by cases hi
theorem val_s0 (t : Tm) : valB s0 t = false := by
  rw [valB, infOf_out (by simp only [List.length_nil]; omega)]; simp [noI]
/-! ### More fuel -/
theorem runH_used (s : Sto) : ∀ (F : Nat) (t : Tm), (runH s F t).2.2 ≤ F
  | 0, t => by rw [runH]; split <;> exact Nat.le_refl _
  | F + 1, t => by
    rw [runH]
    split
    · exact Nat.zero_le _
    · split
      · exact Nat.zero_le _
      · have := runH_used s F (stepS s t).1
        simp only; omega
theorem runH_err (s : Sto) : ∀ (F : Nat) (t : Tm), (runH s F t).2.1 = 0 ∨ (runH s F t).2.1 = 80
  | 0, t => by rw [runH]; split; · exact .inl rfl
               · exact .inr rfl
  | F + 1, t => by
    rw [runH]
    split
    · exact .inl rfl
    · split
      · exact .inr rfl
      · exact runH_err s F _
theorem runH_more (s : Sto) : ∀ (F : Nat) (t : Tm) (d : Nat), (runH s F t).2.1 = 0 → runH s (F + d) t = runH s F t
  | 0, t, d, h => by
    have h0 : (stepS s t).2 = 0 := by
      by_cases q : (stepS s t).2 = 0
      · exact q
      · rw [runH, if_neg q] at h; cases h
    have e : ∀ F, runH s F t = (t, 0, 0) := fun F => by
      cases F with
      | zero => rw [runH, if_pos h0]
      | succ F => rw [runH, if_pos h0]
    rw [e, e]
  | F + 1, t, d, h => by
    rw [show F + 1 + d = (F + d) + 1 by omega]
    rw [runH] at h
    rw [runH, runH]
    split
    · rfl
    · rename_i q
      rw [if_neg q] at h
      split
      · rfl
      · rename_i q2
        rw [if_neg q2] at h
        rw [runH_more s F _ d h]
theorem headV_more (s : Sto) {f f' : Int} (t : Tm) (h0 : 0 ≤ f) (h1 : f ≤ f') (h : (headV s f t).2.2 ≠ 80) :
    (headV s f' t).1 = (headV s f t).1 ∧ (headV s f' t).2.2 = (headV s f t).2.2 ∧ ((headV s f t).2.2 = 0 → (headV s f' t).2.1 = (headV s f t).2.1 + (f' - f) ∧ 0 ≤ (headV s f t).2.1) := by
  unfold headV at h ⊢
  split
  · rename_i hv
    rw [if_pos hv] at h
    have e0 : (runH s f.toNat t).2.1 = 0 := by
      rcases runH_err s f.toNat t with q | q
      · exact q
      · rw [if_neg (by rw [q]; simp)] at h; exact absurd q h
    have em := runH_more s f.toNat t (f'.toNat - f.toNat) e0
    rw [show f.toNat + (f'.toNat - f.toNat) = f'.toNat by omega] at em
    have hu := runH_used s f.toNat t
    rw [em, if_pos e0, if_pos e0]
    refine ⟨rfl, rfl, fun _ => ⟨?_, ?_⟩⟩
    · simp only; omega
    · simp only; omega
  · exact ⟨rfl, rfl, fun q => by cases q⟩
def More (f f' : Int) (z z' : Int × Int × Int) : Prop := z.2.2 ≠ 80 → z'.1 = z.1 ∧ z'.2.2 = z.2.2 ∧ (z.2.2 = 0 → z'.2.1 = z.2.1 + (f' - f) ∧ 0 ≤ z.2.1)
theorem More.same {f f' : Int} {z : Int × Int × Int} (h : z.2.2 ≠ 0) : More f f' z z := fun _ => ⟨rfl, rfl, fun q => absurd q h⟩
theorem finE_more {op : List UInt8} {a b l l' f f' : Int} (h : l' = l + (f' - f)) (h0 : 0 ≤ l) : More f f' (finE op a b l) (finE op a b l') := by
  intro _
  unfold finE
  split
  · rename_i q; exact ⟨rfl, rfl, fun r => absurd r q⟩
  · exact ⟨rfl, rfl, fun _ => ⟨h, h0⟩⟩
theorem ev1_more {op : List UInt8} {z z' : Int × Int × Int} {f f' : Int} (h : More f f' z z') : More f f' (ev1 op z) (ev1 op z') := by
  unfold ev1
  by_cases q : z.2.2 = 0
  · obtain ⟨h1, h2, h3⟩ := h (by rw [q]; simp)
    rw [if_neg (by rw [q]; simp), if_neg (by rw [h2, q]; simp), h1]
    exact finE_more (h3 q).1 (h3 q).2
  · intro h80
    rw [if_pos q] at h80
    obtain ⟨h1, h2, h3⟩ := h h80
    rw [if_pos q, if_pos (by rw [h2]; exact q), h2]
    exact ⟨rfl, rfl, fun r => absurd r q⟩
theorem ev2_more {ev : Int → Tm → Int × Int × Int} {op : List UInt8} {y : Tm} {z z' : Int × Int × Int} {f f' : Int} (hf : f ≤ f') (hev : ∀ g g' : Int, 0 ≤ g → g ≤ g' → More g g' (ev g y) (ev g' y)) (h : More f f' z z') : More f f' (ev2 ev op y z) (ev2 ev op y z') := by
  unfold ev2
  by_cases q : z.2.2 = 0
  · obtain ⟨h1, h2, h3⟩ := h (by rw [q]; simp)
    obtain ⟨h4, h5⟩ := h3 q
    have hy := hev z.2.1 z'.2.1 h5 (by omega)
    rw [if_neg (by rw [q]; simp), if_neg (show ¬ z'.2.2 ≠ 0 by rw [h2, q]; simp)]
    by_cases w : (ev z.2.1 y).2.2 = 0
    · obtain ⟨k1, k2, k3⟩ := hy (by rw [w]; simp)
      rw [if_neg (by rw [w]; simp), if_neg (show ¬ (ev z'.2.1 y).2.2 ≠ 0 by rw [k2, w]; simp), h1, k1]
      exact finE_more (by have := (k3 w).1; omega) (k3 w).2
    · intro h80
      rw [if_pos w] at h80
      obtain ⟨k1, k2, k3⟩ := hy h80
      rw [if_pos w, if_pos (show (ev z'.2.1 y).2.2 ≠ 0 by rw [k2]; exact w), k2]
      exact ⟨rfl, rfl, fun r => absurd r w⟩
  · intro h80
    rw [if_pos q] at h80
    obtain ⟨h1, h2, h3⟩ := h h80
    rw [if_pos q, if_pos (show z'.2.2 ≠ 0 by rw [h2]; exact q), h2]
    exact ⟨rfl, rfl, fun r => absurd r q⟩
theorem evA_more {ev : Int → Tm → Int × Int × Int} (hev : ∀ (x : Tm) (g g' : Int), 0 ≤ g → g ≤ g' → More g g' (ev g x) (ev g' x)) (h : Tm) (l : List Tm) {f f' : Int} (h0 : 0 ≤ f) (h1 : f ≤ f') : More f f' (evA ev f h l) (evA ev f' h l) := by
  unfold evA
  split
  · exact More.same (by simp)
  · match l with
    | [] => exact More.same (by simp)
    | [x] => exact ev1_more (hev x f f' h0 h1)
    | x :: y :: _ => exact ev2_more h1 (hev y) (hev x f f' h0 h1)
theorem evalV_more (s : Sto) : ∀ (D : Nat) (t : Tm) (f f' : Int), 0 ≤ f → f ≤ f' → More f f' (evalV s D f t) (evalV s D f' t)
  | 0, _, _, _, _, _ => More.same (by rw [evalV]; simp)
  | D + 1, t, f, f', h0, h1 => by
    show More f f' (evK (evalV s D) (headV s f t)) (evK (evalV s D) (headV s f' t))
    by_cases q : (headV s f t).2.2 = 0
    · obtain ⟨g1, g2, g3⟩ := headV_more s t h0 h1 (by rw [q]; simp)
      obtain ⟨g4, g5⟩ := g3 q
      unfold evK
      rw [if_neg (by rw [q]; simp), if_neg (show ¬ (headV s f' t).2.2 ≠ 0 by rw [g2, q]; simp), g1]
      split
      · exact fun _ => ⟨rfl, rfl, fun _ => ⟨g4, g5⟩⟩
      · have := evA_more (ev := evalV s D) (fun x g g' a b => evalV_more s D x g g' a b) (splitF (headV s f t).1).1 (splitF (headV s f t).1).2 g5 (show (headV s f t).2.1 ≤ (headV s f' t).2.1 by omega)
        intro h80
        obtain ⟨k1, k2, k3⟩ := this h80
        exact ⟨k1, k2, fun r => by have := k3 r; omega⟩
    · intro h80
      have e : evK (evalV s D) (headV s f t) = (0, 0, (headV s f t).2.2) := if_pos q
      rw [e] at h80 ⊢
      obtain ⟨g1, g2, g3⟩ := headV_more s t h0 h1 h80
      have e' : evK (evalV s D) (headV s f' t) = (0, 0, (headV s f' t).2.2) := if_pos (by rw [g2]; exact q)
      rw [e', g2]
      exact ⟨rfl, rfl, fun r => absurd r q⟩
/-! ### An operation of two terms -/
theorem headV_none {s : Sto} {f : Int} {t : Tm} (hv : validB t = true) (h : (stepS s t).2 = 0) : headV s f t = (t, f, 0) := by
  have e : ∀ F, runH s F t = (t, 0, 0) := fun F => by
    cases F with
    | zero => rw [runH, if_pos h]
    | succ F => rw [runH, if_pos h]
  rw [headV, if_pos hv, e, if_pos rfl]; simp
theorem validB_bin {op : List UInt8} {a b : Tm} (ho : validB (.mk 0 op 0 []) = true) (ha : validB a = true) (hb : validB b = true) : validB (.mk 6 [] 0 [.mk 0 op 0 [], a, b]) = true := by
  rw [valid_iff, Bool.and_eq_true] at ho ha hb ⊢
  refine ⟨?_, ?_⟩
  · rw [okB]; simp only [okL, ho.1, ha.1, hb.1]; rfl
  · rw [lvB_in (.inr rfl)]; simp only [lvL, ho.2, ha.2, hb.2, Bool.and_self]
theorem eval_bin (D : Nat) (f : Int) (op : List UInt8) (a b : Tm) (ho : validB (.mk 0 op 0 []) = true) (ha : validB a = true) (hb : validB b = true) (h2 : argsV op = 2) :
    evalV s0 (D + 1) f (.mk 6 [] 0 [.mk 0 op 0 [], a, b]) = ev2 (evalV s0 D) op b (evalV s0 D f a) := by
  have hv := validB_bin ho ha hb
  have hst : (stepS s0 (.mk 6 [] 0 [.mk 0 op 0 [], a, b])).2 = 0 := by
    rw [stepS, if_neg (by rw [val_s0]; simp), if_neg (by simp [Tm.k]), if_neg (by rw [val_s0]; simp), if_pos (by simp [hd, Tm.l, Tm.k])]
  show evK (evalV s0 D) (headV s0 f _) = _
  rw [headV_none hv hst]
  have hs : splitF (.mk 6 [] 0 [.mk 0 op 0 [], a, b]) = (.mk 0 op 0 [], [a, b]) := if_pos ⟨rfl, hv⟩
  unfold evK
  rw [if_neg (by simp), if_neg (by simp [Tm.k]), hs]
  have hc : ¬ ((Tm.mk 0 op 0 []).k ≠ 0 ∨ argsV (Tm.mk 0 op 0 []).s = 0 ∨ argsV (Tm.mk 0 op 0 []).s ≠ (([a, b] : List Tm).length : Int)) := by
    show ¬ ((0 : Int) ≠ 0 ∨ argsV op = 0 ∨ argsV op ≠ _)
    rw [h2]; simp
  exact if_neg hc
theorem eval_int (D : Nat) (f n : Int) : evalV s0 (D + 1) f (.mk 2 [] n []) = (n, f, 0) := by
  show evK (evalV s0 D) (headV s0 f _) = _
  have hst : (stepS s0 (.mk 2 [] n [])).2 = 0 := by rw [stepS, if_neg (by rw [val_s0]; simp), if_pos (by simp [Tm.k])]
  rw [headV_none (by rfl) hst]
  rfl
/-! ### The document's examples -/
abbrev exI (n : Int) : Tm := .mk 2 [] n []
theorem c_works18 : AC Try.prog 6 [] [] (cb true) [] := by
  have d1 : doV [100, 105, 118] (-7) 2 = (-3, 0) := by decide
  have d2 : doV [109, 111, 100] (-7) 2 = (-1, 0) := by decide
  have d3 : doV [126] (-9223372036854775808) 0 = (0, 182) := by decide
  have r2 : I64 2 := by unfold I64; omega
  have r7 : I64 (-7) := by unfold I64; omega
  have rm : I64 (-9223372036854775808) := by unfold I64; omega
  have h1 := c_ado [100, 105, 118] (-7) 2 r7 r2
  have h2 := c_ado [109, 111, 100] (-7) 2 r7 r2
  have h3 := c_ado [126] (-9223372036854775808) 0 rm I64_0
  have h4 := c_apply (.mk 0 [42] 0 []) [exI 2, exI 3] (by decide)
  have h5 := c_apply (.mk 0 [43] 0 []) [exI 1, .mk 6 [] 0 [.mk 0 [42] 0 [], exI 2, exI 3]] (by decide)
  have fit : Fit 5 (.mk 6 [] 0 [.mk 0 [43] 0 [], exI 1, .mk 6 [] 0 [.mk 0 [42] 0 [], exI 2, exI 3]]) := fit_of (by decide +kernel)
  have h6 := (c_aeval s0 ok_s0 okn_s0 30000 5 (.mk 6 [] 0 [.mk 0 [43] 0 [], exI 1, .mk 6 [] 0 [.mk 0 [42] 0 [], exI 2, exI 3]]) (by omega) (by omega) (by decide) (fun _ => fit)
    (okI_N _ (by simp [okI, okIs])) (by decide)).1
  have e6 : evalV s0 30000 5 (.mk 6 [] 0 [.mk 0 [43] 0 [], exI 1, .mk 6 [] 0 [.mk 0 [42] 0 [], exI 2, exI 3]]) = (7, 5, 0) := by
    have hm : evalV s0 29999 5 (.mk 6 [] 0 [.mk 0 [42] 0 [], exI 2, exI 3]) = (6, 5, 0) := by
      rw [show (29999 : Nat) = 29998 + 1 from rfl, eval_bin _ _ _ _ _ (by rfl) (by rfl) (by rfl) (by rfl)]
      have h2 : evalV s0 29998 5 (exI 2) = (2, 5, 0) := eval_int 29997 5 2
      have h3 : evalV s0 29998 5 (exI 3) = (3, 5, 0) := eval_int 29997 5 3
      simp only [ev2, h2, h3]; decide
    rw [show (30000 : Nat) = 29999 + 1 from rfl, eval_bin _ _ _ _ _ (by rfl) (by rfl) (by rfl) (by rfl)]
    have h1 : evalV s0 29999 5 (exI 1) = (1, 5, 0) := eval_int 29998 5 1
    simp only [ev2, h1, hm]; decide
  have h7 := c_atest [61, 60] 3 3
  rw [d1] at h1; rw [d2] at h2; rw [d3] at h3; rw [e6] at h6
  refine AC.vc hP sh lv6 (Nat.le_refl _) (by simp) (by simp) (Eq.mpr (v6 ..) ?_)
  refine ⟨_, _, h1, _, _, h2, _, _, h3, (), c_snew, ⟨rfl, by omega⟩, .mk 6 [] 0 [.mk 0 [42] 0 [], exI 2, exI 3], h4.args ⟨e0, args2 (leFT (l := []) leNil) (leFT (l := []) leNil), trivial⟩, ⟨rfl, by omega⟩, .mk 6 [] 0 [.mk 0 [43] 0 [], exI 1, .mk 6 [] 0 [.mk 0 [42] 0 [], exI 2, exI 3]],
    h5.args ⟨e0, args2 (leFT (l := []) leNil) (LeR.refl _), trivial⟩, _, _, _, h6, _, _, h7, ?_⟩
  exact ret_b (by decide)

end Go.AM

set_option maxRecDepth 100000
open Go Go.Proofs
namespace Go.AM

/-! ### The laws -/
theorem c_arithdoes (op : List UInt8) (a b : Int) (ha : I64 a) (hb : I64 b) : AC Try.prog 3 [cs op, ci a, ci b] [] (cb true) [] := by
  have h1 := c_ado op a b ha hb
  have h2 := c_rdo op a b ha hb
  have h3 := c_atest op a b
  have h4 := c_rtest op a b
  refine AC.vc hP sh lv3 (Nat.le_refl _) (by simp) (by simp) (Eq.mpr (v3 ..) ?_)
  refine ⟨_, c_works18, br_of (fun h => by cases h) (fun _ => br_of (fun _ => ret_b rfl) (fun _ => ⟨_, _, h1, _, _, h2, _, _, h3, _, _, h4, ?_⟩))⟩
  refine br_of (fun _ => br_of (fun _ => br_of (fun _ => br_of (fun _ => ret_b (by simp)) (fun h => by simp at h)) (fun h => by simp at h)) (fun h => by simp at h)) (fun h => by cases h)
theorem do_add (a b : Int) : doV [43] a b = fitV (a + b) := if_pos rfl
theorem do_sub (a b : Int) : doV [45] a b = fitV (a - b) := rfl
theorem do_mul (a b : Int) : doV [42] a b = fitV (a * b) := rfl
theorem do_div (a b : Int) : doV [100, 105, 118] a b = if b = 0 then (0, 181) else fitV (a.tdiv b) := rfl
theorem do_mod (a b : Int) : doV [109, 111, 100] a b = if b = 0 then (0, 181) else (a.tmod b, 0) := rfl
theorem fit_ok {x : Int} (h : (fitV x).2 = 0) : I64 x := by
  by_cases q : I64 x
  · exact q
  · rw [fitV_out q] at h; cases h
abbrev stL (a b : Int) : St := ⟨[(0, ci a), (1, ci b), (5, cb true)], [], 0⟩
theorem p_laws58 (a b : Int) : RPt Try.prog 4 0 (cb true) [] 58 (stL a b) := by
  refine RPt.vc hP sh lv4 (Eq.mpr (v4_58a ..) ?_)
  refine ⟨_, _, c_atest [60] a b, _, _, c_atest [62] a b, _, _, c_atest [61, 60] a b, _, _, c_atest [62, 61] a b, br_of (fun _ => ?_) (fun h => by cases h)⟩
  have t1 : testV [60] a b = (decide (a < b), 0) := rfl
  have t2 : testV [62] a b = (decide (a > b), 0) := rfl
  have t3 : testV [61, 60] a b = (decide (a ≤ b), 0) := rfl
  have t4 : testV [62, 61] a b = (decide (a ≥ b), 0) := rfl
  rw [t1, t2, t3, t4]
  rcases Int.lt_trichotomy a b with h | h | h
  · rw [decide_eq_true h, decide_eq_false (show ¬ a > b by omega), decide_eq_true (show a ≤ b by omega), decide_eq_false (show ¬ a ≥ b by omega), show (a == b) = false by simp; omega]
    exact ret_b rfl
  · subst h
    rw [decide_eq_false (show ¬ a < a by omega), decide_eq_true (show a ≤ a by omega), show (a == a) = true by simp]
    exact ret_b rfl
  · rw [decide_eq_false (show ¬ a < b by omega), decide_eq_true (show a > b by omega), decide_eq_false (show ¬ a ≤ b by omega), decide_eq_true (show a ≥ b by omega), show (a == b) = false by simp; omega]
    exact ret_b rfl
theorem p_laws40 (a b : Int) (ha : I64 a) (hb : I64 b) : RPt Try.prog 4 0 (cb true) [] 40 (stL a b) := by
  refine RPt.vc hP sh lv4 (Eq.mpr (v4_40a ..) ?_)
  have h1 := c_ado [100, 105, 118] a b ha hb
  have h2 := c_ado [109, 111, 100] a b ha hb
  rw [do_div] at h1
  rw [do_mod] at h2
  refine ⟨_, _, h1, _, _, h2, ?_⟩
  by_cases hb0 : b = 0
  · rw [if_pos hb0, if_pos hb0]
    subst hb0
    exact p_laws58 a 0
  · rw [if_neg hb0, if_neg hb0, show ((b : Int) == 0) = false by simpa using hb0]
    by_cases q : I64 (a.tdiv b)
    · rw [fitV_in q]
      have hsum := Int.mul_tdiv_add_tmod a b
      have hmul : I64 (a.tdiv b * b) := by
        have hm := Int.natAbs_tmod a b
        have hm2 : (a.tmod b).natAbs = a.natAbs % b.natAbs := hm
        have hm3 := Nat.mod_le a.natAbs b.natAbs
        rw [← hm2] at hm3
        have hs : 0 ≤ a → 0 ≤ a.tmod b := fun h => Int.tmod_nonneg b h
        have hs2 : a ≤ 0 → a.tmod b ≤ 0 := fun h => by
          have := Int.tmod_nonneg b (show 0 ≤ -a by omega)
          rw [Int.neg_tmod] at this; omega
        rw [Int.mul_comm] at hsum
        unfold I64 at *
        omega
      have hmod : I64 (a.tmod b) := by
        have := doV_I64 [109, 111, 100] a b ha hb
        rw [do_mod, if_neg hb0] at this; exact this
      have h3 := c_ado [42] (a.tdiv b) b q hb
      rw [do_mul, fitV_in hmul] at h3
      have h4 := c_ado [43] (a.tdiv b * b) (a.tmod b) hmul hmod
      rw [Int.mul_comm] at hsum
      rw [do_add, hsum, fitV_in ha] at h4
      refine ⟨_, _, h3, _, _, h4, br_of (fun h => by cases h) (fun _ => br_of (fun h => by cases h) (fun _ => br_of (fun h => by simp at h) (fun _ => p_laws58 a b)))⟩
    · rw [fitV_out q]
      exact p_laws58 a b
theorem p_laws24 (a b : Int) (ha : I64 a) (hb : I64 b) : RPt Try.prog 4 0 (cb true) [] 24 (stL a b) := by
  refine RPt.vc hP sh lv4 (Eq.mpr (v4_24a ..) ?_)
  have h1 := c_ado [42] a b ha hb
  have h2 := c_ado [42] b a hb ha
  rw [do_mul] at h1 h2
  rw [Int.mul_comm b a] at h2
  have nx := p_laws40 a b ha hb
  refine ⟨_, _, h1, _, _, h2, br_of (fun h => by simp at h) (fun _ => br_of (fun h => by simp at h) (fun _ => br_of (fun h => br_of (fun hb0 => ?_) (fun _ => nx)) (fun _ => nx)))⟩
  have hb0 : b ≠ 0 := by simpa using hb0
  have hin : I64 (a * b) := fit_ok (by simpa using h)
  have h3 := c_ado [100, 105, 118] (a * b) b hin hb
  rw [do_div, if_neg hb0, Int.mul_tdiv_cancel _ hb0, fitV_in ha] at h3
  rw [fitV_in hin]
  exact ⟨_, _, h3, br_of (fun _ => br_of (fun h => by simp at h) (fun _ => br_of (fun h => by cases h) (fun _ => nx))) (fun h => by cases h)⟩
theorem c_arithlaws (a b : Int) (ha : I64 a) (hb : I64 b) : AC Try.prog 4 [ci a, ci b] [] (cb true) [] := by
  have h1 := c_ado [43] a b ha hb
  have h2 := c_ado [43] b a hb ha
  rw [do_add] at h1 h2
  rw [Int.add_comm b a] at h2
  have nx := p_laws24 a b ha hb
  refine AC.vc hP sh lv4 (Nat.le_refl _) (by simp) (by simp) (Eq.mpr (v4 ..) ?_)
  refine ⟨_, c_works18, br_of (fun h => by cases h) (fun _ => ⟨_, _, h1, _, _, h2, br_of (fun h => by simp at h) (fun _ => br_of (fun h => by simp at h) (fun _ => br_of (fun h => ?_) (fun _ => nx)))⟩)⟩
  have hin : I64 (a + b) := fit_ok (by simpa using h)
  have h3 := c_ado [45] (a + b) b hin hb
  rw [do_sub, Int.add_sub_cancel, fitV_in ha] at h3
  rw [fitV_in hin]
  exact ⟨_, _, h3, br_of (fun h => by simp at h) (fun _ => br_of (fun h => by cases h) (fun _ => nx))⟩
theorem doV_err {op : List UInt8} {a b : Int} (h : (doV op a b).2 ≠ 0) : (doV op a b).1 = 0 := by
  have fit : ∀ x, (fitV x).2 ≠ 0 → (fitV x).1 = 0 := fun x h => by
    by_cases q : I64 x
    · rw [fitV_in q] at h; exact absurd rfl h
    · rw [fitV_out q]
  unfold doV at h ⊢
  split; · rename_i q; rw [if_pos q] at h; exact fit _ h
  rename_i q; rw [if_neg q] at h
  split; · rename_i q; rw [if_pos q] at h; exact fit _ h
  rename_i q; rw [if_neg q] at h
  split; · rename_i q; rw [if_pos q] at h; exact fit _ h
  rename_i q; rw [if_neg q] at h
  split; · rename_i q; rw [if_pos q] at h; exact fit _ h
  rename_i q; rw [if_neg q] at h
  split
  · rename_i q; rw [if_pos q] at h
    split
    · rfl
    · rename_i q; rw [if_neg q] at h; exact fit _ h
  rename_i q; rw [if_neg q] at h
  split
  · rename_i q; rw [if_pos q] at h
    split
    · rfl
    · rename_i q; rw [if_neg q] at h; exact absurd rfl h
  · rfl
theorem op_valid {op : List UInt8} (h : op = [43] ∨ op = [45] ∨ op = [42] ∨ op = [100, 105, 118] ∨ op = [109, 111, 100]) : validB (.mk 0 op 0 []) = true ∧ argsV op = 2 := by
  rcases h with rfl | rfl | rfl | rfl | rfl <;> exact ⟨rfl, rfl⟩
abbrev hpT (a b : Tm) : AHeap := [(0, .arr 4 [cT a]), (1, .arr 4 [cT b])]
theorem p_nests24 (op : List UInt8) (ho : op = [43] ∨ op = [45] ∨ op = [42] ∨ op = [100, 105, 118] ∨ op = [109, 111, 100]) (a b : Tm) (va : validB a = true) (vb : validB b = true) (za : a.sz ≤ 30) (zb : b.sz ≤ 30) (da : bd 1000 a) (db : bd 1000 b) (na : okN a) (nb : okN b) :
    RPt Try.prog 5 0 (cb true) [] 24 ⟨[(0, cs op), (4, .c (.a (.ep 0 4 0 0))), (5, .c (.a (.ep 1 4 0 0))), (7, cb true)], hpT a b, 2⟩ := by
  obtain ⟨vo, h2⟩ := op_valid ho
  have fit : ∀ {F : Nat} {t : Tm}, validB t = true → t.sz ≤ 100 → bd 1000 t → F ≤ 5000 → Fit F t := fun hv hz hd hF => ⟨valid_ok _ hv, by simp only [SZ]; omega, bd_le (by simp only [M61, SZ]; omega) _ hd, hF⟩
  have ea := c_aeval s0 ok_s0 okn_s0 1500000 100 a (by omega) (by omega) (by simp only [B]; omega) (fun _ => fit va (by omega) da (by decide)) na (by rw [show (100 : Int).toNat = 100 from rfl]; omega)
  have eb := c_aeval s0 ok_s0 okn_s0 1500000 100 b (by omega) (by omega) (by simp only [B]; omega) (fun _ => fit vb (by omega) db (by decide)) nb (by rw [show (100 : Int).toNat = 100 from rfl]; omega)
  have vt := validB_bin vo va vb
  have et := c_aeval s0 ok_s0 okn_s0 (1500000 + 1) 300 (.mk 6 [] 0 [.mk 0 op 0 [], a, b]) (by omega) (by omega) (by simp only [Tm.sz, Tm.szs, B]; omega)
    (fun hv => fit hv (by simp only [Tm.sz, Tm.szs]; omega) ⟨fun e => (by cases e), ⟨fun e => (by cases e), trivial⟩, da, db, trivial⟩ (by decide)) ⟨fun e => (by cases e), ⟨fun e => (by cases e), trivial⟩, na, nb, trivial⟩
    (by rw [show (300 : Int).toNat = 300 from rfl]; simp only [Tm.sz, Tm.szs]; omega)
  rw [eval_bin _ _ _ _ _ vo va vb h2] at et
  have hap := c_apply (.mk 0 op 0 []) [a, b] (by simp [Tm.l])
  have ma := evalV_more s0 1500000 a 100 300 (by omega) (by omega)
  have mb := fun g hg => evalV_more s0 1500000 b 100 g (by omega) hg
  have hb0 := eb.2
  obtain ⟨ak, aS1, an, al⟩ := a
  obtain ⟨bk, bs, bn, bl⟩ := b
  refine RPt.vc hP sh lv5 (Eq.mpr (v5_24a op true ak aS1 an (FTs al) bk bs bn (FTs bl) _ _) ?_)
  generalize hA : evalV s0 1500000 100 (.mk ak aS1 an al) = A at *
  generalize hB : evalV s0 1500000 100 (.mk bk bs bn bl) = Bv at *
  refine ⟨(), c_snew, _, _, _, ea.1, _, _, _, eb.1, ⟨rfl, by omega⟩, .mk 6 [] 0 [.mk 0 op 0 [], .mk ak aS1 an al, .mk bk bs bn bl], hap.args ⟨e0, args2 (LeR.refl _) (LeR.refl _), trivial⟩, _, _, _, et.1, ?_⟩
  refine br_of (fun _ => ret_b rfl) (fun ha80 => br_of (fun _ => ret_b rfl) (fun hb80 => ?_))
  have ha80 : A.2.2 ≠ 80 := by simpa using ha80
  have hb80 : Bv.2.2 ≠ 80 := by simpa using hb80
  obtain ⟨m1, m2, m3⟩ := ma ha80
  by_cases hA0 : A.2.2 = 0
  case neg =>
    have e : ev2 (evalV s0 1500000) op (.mk bk bs bn bl) (evalV s0 1500000 300 (.mk ak aS1 an al)) = (0, 0, A.2.2) := by
      rw [ev2, if_pos (by rw [m2]; exact hA0), m2]
    rw [e]
    refine br_of (fun _ => br_of (fun _ => br_of (fun _ => ret_b rfl) (fun h => by simp at h)) (fun h => by cases h)) (fun h => absurd (by simpa using h) hA0)
  obtain ⟨m4, m5⟩ := m3 hA0
  obtain ⟨k1, k2, k3⟩ := mb (evalV s0 1500000 300 (.mk ak aS1 an al)).2.1 (by rw [m4]; omega) hb80
  by_cases hB0 : Bv.2.2 = 0
  case neg =>
    have e : ev2 (evalV s0 1500000) op (.mk bk bs bn bl) (evalV s0 1500000 300 (.mk ak aS1 an al)) = (0, 0, Bv.2.2) := by
      rw [ev2, if_neg (by rw [m2, hA0]; simp), if_pos (by rw [k2]; exact hB0), k2]
    rw [e]
    refine br_of (fun h => absurd hA0 (by simpa using h)) (fun _ => br_of (fun _ => br_of (fun _ => br_of (fun _ => ret_b rfl) (fun h => by simp at h)) (fun h => by cases h)) (fun h => absurd (by simpa using h) hB0))
  have hd := c_ado op A.1 Bv.1 (ea.2 hA0).1 (eb.2 hB0).1
  have e : ev2 (evalV s0 1500000) op (.mk bk bs bn bl) (evalV s0 1500000 300 (.mk ak aS1 an al)) = finE op A.1 Bv.1 (evalV s0 1500000 (evalV s0 1500000 300 (.mk ak aS1 an al)).2.1 (.mk bk bs bn bl)).2.1 := by
    rw [ev2, if_neg (by rw [m2, hA0]; simp), if_neg (by rw [k2, hB0]; simp), m1, k1]
  rw [e]
  refine br_of (fun h => absurd hA0 (by simpa using h)) (fun _ => br_of (fun h => absurd hB0 (by simpa using h)) (fun _ => ⟨_, _, hd, br_of (fun _ => ?_) (fun h => by cases h)⟩))
  unfold finE
  by_cases q : (doV op A.1 Bv.1).2 = 0
  · rw [if_neg (by rw [q]; simp)]
    exact br_of (fun _ => ret_b (by simp [q])) (fun h => by simp at h)
  · rw [if_pos q, doV_err q]
    exact br_of (fun _ => ret_b (by simp)) (fun h => by simp at h)
theorem p_nests16 (op : List UInt8) (a b : Tm) (l1 l2 nr kn : Bool) (hz1 : a.sz ≤ B) (hz2 : b.sz ≤ B)
    (h : l1 = false → l2 = false → nr = true → kn = true → (op = [43] ∨ op = [45] ∨ op = [42] ∨ op = [100, 105, 118] ∨ op = [109, 111, 100]) ∧ a.sz ≤ 30 ∧ b.sz ≤ 30 ∧ bd 1000 a ∧ bd 1000 b) (na : okN a) (nb : okN b) :
    RPt Try.prog 5 0 (cb true) [] 16 ⟨[(0, cs op), (4, .c (.a (.ep 0 4 0 0))), (5, .c (.a (.ep 1 4 0 0))), (7, cb true), (8, cb l1), (9, cb l2), (10, cb nr), (11, cb kn)], hpT a b, 2⟩ := by
  have h1 := c_valid a hz1
  have h2 := c_valid b hz2
  have go := fun va vb x y z w => p_nests24 op (h x y z w).1 a b va vb (h x y z w).2.1 (h x y z w).2.2.1 (h x y z w).2.2.2.1 (h x y z w).2.2.2.2 na nb
  obtain ⟨ak, aS1, an, al⟩ := a
  obtain ⟨bk, bs, bn, bl⟩ := b
  refine RPt.vc hP sh lv5 (Eq.mpr (v5_16a op true l1 l2 nr kn ak aS1 an (FTs al) bk bs bn (FTs bl) _ _) ?_)
  refine ⟨_, h1, _, h2, br_of (fun _ => ret_b rfl) (fun e1 => br_of (fun _ => ret_b rfl) (fun e2 => br_of (fun _ => ret_b rfl) (fun e3 => br_of (fun _ => ret_b rfl) (fun e4 => br_of (fun _ => ret_b rfl) (fun e5 => br_of (fun _ => ret_b rfl) (fun e6 => ?_))))))⟩
  exact go (by simpa using e5) (by simpa using e6) e1 e2 (by simpa using e3) (by simpa using e4)
theorem c_arithnests (op : List UInt8) (a b : Tm) (hz1 : a.sz ≤ B) (hz2 : b.sz ≤ B) (ja : okI a) (jb : okI b) : AC Try.prog 5 [cs op, aT a, aT b] [] (cb true) [] := by
  have l1 := c_large a hz1 30 (by omega) (by omega)
  have l2 := c_large b hz2 30 (by omega) (by omega)
  have n1 := c_near 1000 (by omega) (by omega) a hz1
  have n2 := c_near 1000 (by omega) (by omega) b hz2
  have nx : ∀ nr kn : Bool, (nr = true → near 1000 a = true ∧ near 1000 b = true) → (kn = true → op = [43] ∨ op = [45] ∨ op = [42] ∨ op = [100, 105, 118] ∨ op = [109, 111, 100]) → _ := fun nr kn hnr hkn =>
    p_nests16 op a b (large a 30) (large b 30) nr kn hz1 hz2 (fun x y z w => ⟨hkn w, by have := large_sz x; omega, by have := large_sz y; omega, near_bd a (hnr z).1, near_bd b (hnr z).2⟩) (okI_N _ ja) (okI_N _ jb)
  obtain ⟨ak, aS1, an, al⟩ := a
  obtain ⟨bk, bs, bn, bl⟩ := b
  refine AC.vc hP sh lv5 (Nat.le_refl _) (by simp) (by simp) (Eq.mpr (v5 op ak aS1 an (FTs al) bk bs bn (FTs bl) _ _) ?_)
  refine ⟨_, c_works18, br_of (fun h => by cases h) (fun _ => ⟨_, l1, _, l2, _, n1, ?_⟩)⟩
  have ops : ∀ nr : Bool, (nr = true → near 1000 (.mk ak aS1 an al) = true ∧ near 1000 (.mk bk bs bn bl) = true) → _ := fun nr hnr =>
    br_of (b := (op == [43])) (fun h => nx nr true hnr (fun _ => .inl (op_eq h))) (fun _ => br_of (b := (op == [45])) (fun h => nx nr true hnr (fun _ => .inr (.inl (op_eq h)))) (fun _ => br_of (b := (op == [42])) (fun h => nx nr true hnr (fun _ => .inr (.inr (.inl (op_eq h))))) (fun _ =>
      br_of (b := (op == [100, 105, 118])) (fun h => nx nr true hnr (fun _ => .inr (.inr (.inr (.inl (op_eq h)))))) (fun _ => nx nr (op == [109, 111, 100]) hnr (fun h => .inr (.inr (.inr (.inr (op_eq h)))))))))
  exact br_of (fun h => ⟨_, n2, ops _ (fun h' => ⟨h, h'⟩)⟩) (fun h => ops false (fun h' => by cases h'))

end Go.AM

namespace Go.AM
open Go.ChangeShapes Go.WideShapes Go.ChangeAt Go.RowKit

section
variable {H : Type} {enc : TypeId × Value → H} {P : Program} {w : World}

/-- Nothing is shut out. -/
abbrev none1 : Nat → Prop := fun _ => False
/-- Whatever reads (with so much fuel) at type t is some F a, of size at most that of what was read. -/
def RdN (enc : TypeId × Value → H) (P : Program) (w : World) (b : DataW H → Nat) (fuel : Nat) (t : TypeId) {α : Type} (F : α → List FV) (sz : α → Nat) : Prop :=
  ∀ cs x, DataW.trod enc P w 0 (fun _ => true) true fuel t cs = some x → ∃ a, LRep (FRep w none1) (F a) cs ∧ sz a ≤ b x.1

theorem rd_int {b : DataW H → Nat} {t : TypeId} {k : IntKind} (ht : P.underlying t = some (.int k)) (hb : ∀ d, 1 ≤ b d) (fuel : Nat) : RdN enc P w b fuel t (fun n : Int => [.int k n]) (fun _ => 1) := by
  intro cs x h
  obtain ⟨n, rfl, rfl, _⟩ := DataW.trod_int ht h
  exact ⟨n, .cons (.int k n) .nil, hb _⟩
/-- A number within its kind. -/
def Num (k : IntKind) := { n : Int // (Lit.int k n).wf = true }
theorem rd_num {b : DataW H → Nat} {t : TypeId} {k : IntKind} (ht : P.underlying t = some (.int k)) (hb : ∀ d, 1 ≤ b d) (fuel : Nat) : RdN enc P w b fuel t (fun n : Num k => [.int k n.1]) (fun _ => 1) := by
  intro cs x h
  obtain ⟨n, rfl, rfl, hw⟩ := DataW.trod_int ht h
  exact ⟨⟨n, hw⟩, .cons (.int k n) .nil, hb _⟩
theorem rd_bool {b : DataW H → Nat} {t : TypeId} (ht : P.underlying t = some .bool) (hb : ∀ d, 1 ≤ b d) (fuel : Nat) : RdN enc P w b fuel t (fun n : Bool => [.bool n]) (fun _ => 1) := by
  intro cs x h
  obtain ⟨n, rfl, rfl⟩ := DataW.trod_bool ht h
  exact ⟨n, .cons (.bool n) .nil, hb _⟩
theorem rd_str {b : DataW H → Nat} {t : TypeId} (ht : P.underlying t = some .string) (hb : ∀ l : List UInt8, l.length + 1 ≤ b (.lit (.string l))) (fuel : Nat) : RdN enc P w b fuel t (fun l : List UInt8 => [.str l]) (fun l => l.length + 1) := by
  intro cs x h
  obtain ⟨s, rfl, rfl, _⟩ := DataW.trod_string ht h
  refine ⟨s.data.toList, .cons ?_ .nil, hb _⟩
  have : (⟨s.data.toList.toArray⟩ : ByteArray) = s := by simp
  have h2 := FRep.str (w := w) (X := none1) s.data.toList
  rw [this] at h2
  exact h2

def sumBy {α : Type} (sz : α → Nat) : List α → Nat
  | [] => 0
  | a :: l => sz a + sumBy sz l
theorem sumBy_mem {α : Type} {sz : α → Nat} : ∀ {l : List α} {a : α}, a ∈ l → sz a ≤ sumBy sz l
  | x :: l, a, h => by
    rcases List.mem_cons.1 h with rfl | h
    · simp [sumBy]
    · have := sumBy_mem (sz := sz) h; simp only [sumBy]; omega
theorem sumBy_length {α : Type} {sz : α → Nat} (h : ∀ a, 1 ≤ sz a) : ∀ l : List α, l.length ≤ sumBy sz l
  | [] => Nat.le_refl _
  | a :: l => by have := sumBy_length h l; have := h a; simp only [sumBy, List.length_cons]; omega

theorem choose_list {α β : Type} {R : α → β → Prop} : ∀ {l : List β}, (∀ (i : Nat) (y : β), l[i]? = some y → ∃ x, R x y) → ∃ xs : List α, xs.length = l.length ∧ ∀ (i : Nat) (x : α) (y : β), xs[i]? = some x → l[i]? = some y → R x y
  | [], _ => ⟨[], rfl, fun i x y h => by simp at h⟩
  | y :: l, h => by
    obtain ⟨x, hx⟩ := h 0 y rfl
    obtain ⟨xs, h1, h2⟩ := choose_list (l := l) fun i y' hy => h (i + 1) y' (by simpa using hy)
    refine ⟨x :: xs, by simp [h1], fun i x' y' hx' hy' => ?_⟩
    cases i with
    | zero => simp at hx' hy'; subst hx'; subst hy'; exact hx
    | succ i => exact h2 i x' y' (by simpa using hx') (by simpa using hy')

theorem sum_le {α : Type} {sz : α → Nat} {b : DataW H → Nat} {bs : List (DataW H) → Nat} (hbs : ∀ d l, bs (d :: l) = b d + bs l) : ∀ {xs : List α} {es : List (DataW H × List MemPlace)}, xs.length = es.length → (∀ (i : Nat) (x : α) (y : DataW H × List MemPlace), xs[i]? = some x → es[i]? = some y → sz x ≤ b y.1) → sumBy sz xs ≤ bs (es.map (·.1))
  | [], _, _, _ => by simp [sumBy]
  | x :: xs, [], h, _ => by simp at h
  | x :: xs, e :: es, h, hr => by
    have h1 := hr 0 x e rfl rfl
    have h2 := sum_le (sz := sz) hbs (xs := xs) (es := es) (by simpa using h) fun i x y hx hy => hr (i + 1) x y (by simpa using hx) (by simpa using hy)
    simp only [sumBy, List.map_cons, hbs]
    omega

theorem cells_get {a : Addr} {n : Nat} {cs : List Value} (h : w.cells? 0 a n = some cs) : cs.length = n ∧ ∀ j u, cs[j]? = some u → w.cell? (a.add j) = some u := by
  unfold World.cells? at h
  rw [if_pos (Nat.zero_le _)] at h
  refine ⟨by have := mapM_some_length h; simpa using this, fun j u hu => ?_⟩
  have hj : j < n := by
    have h1 := (List.getElem?_eq_some_iff.1 hu).1
    have := mapM_some_length h; simp at this; omega
  have := mapM_some_get h j j (by simp [hj])
  rw [this, hu]

theorem cell_lt {b off : Nat} {u : Value} (h : w.cell? ⟨b, off, none⟩ = some u) : b < w.heap.size := by
  apply Decidable.byContradiction
  intro hn
  have : w.heap[b]? = none := by simp; omega
  simp [World.cell?, this] at h

theorem cell_spot {a : Addr} {u : Value} (h : w.cell? a = some u) : a.spot = none := by
  unfold World.cell? at h
  split at h
  · split at h
    · cases h
    · rename_i hs; simpa using hs
  · cases h
theorem cell_blk {a : Addr} {u : Value} (h : w.cell? a = some u) : a.block < w.heap.size := by
  apply Decidable.byContradiction
  intro hn
  have : w.heap[a.block]? = none := by simp; omega
  simp [World.cell?, this] at h

theorem add_zero (a : Addr) : a.add 0 = a := rfl
theorem add_none (b o k : Nat) : (Addr.mk b o none).add k = ⟨b, o + k, none⟩ := by
  unfold Addr.add
  split
  · rename_i h; rw [h]; rfl
  · rfl
/-- Slices. -/
theorem rd_slice {b : DataW H → Nat} {bs : List (DataW H) → Nat} (hbs : ∀ d l, bs (d :: l) = b d + bs l) (hb0 : ∀ d, 1 ≤ b d) (hb : ∀ es sp, bs es + 1 ≤ b (.slice es sp)) {t e : TypeId} (ht : P.underlying t = some (.slice e)) {n : Nat} (hn : P.cellsOf e = n) (hn0 : 0 < n)
    {α : Type} {F : α → List FV} {sz : α → Nat} (hF : ∀ a, (F a).length = n) {fuel : Nat} (ih : ∀ k, k < fuel → RdN enc P w b k e F sz) : RdN enc P w b fuel t (fun l : List α => [.sl false n (l.map F)]) (fun l => sumBy sz l + 1) := by
  intro cs x h
  rcases DataW.trod_slice ht h with ⟨rfl, rfl⟩ | ⟨a, len, cap, elems, rest, k, rfl, rfl, rfl, _, hlc, _, hlen, hel, hrest, _⟩
  · exact ⟨[], .cons (.slnil n) .nil, by simpa [sumBy] using hb0 _⟩
  · rw [hn] at hel
    have key : ∀ (i : Nat) (y : DataW H × List MemPlace), elems[i]? = some y → ∃ x : α, (∃ cs, w.cells? 0 (a.add (i * n)) n = some cs ∧ LRep (FRep w none1) (F x) cs) ∧ sz x ≤ b y.1 := by
      intro i y hy
      have hi : i < len := by rw [← hlen]; exact (List.getElem?_eq_some_iff.1 hy).1
      have h1 := hel i hi
      rw [hy] at h1
      obtain ⟨cs, h2, h3⟩ := Option.bind_eq_some_iff.1 h1
      obtain ⟨x, h4, h5⟩ := ih k (Nat.lt_succ_self _) cs y h3
      exact ⟨x, ⟨cs, h2, h4⟩, h5⟩
    -- the element at i, with its place
    have key2 : ∃ xs : List α, xs.length = elems.length ∧ ∀ (i : Nat) (x : α), xs[i]? = some x → (∃ cs, w.cells? 0 (a.add (i * n)) n = some cs ∧ LRep (FRep w none1) (F x) cs) ∧ ∀ y, elems[i]? = some y → sz x ≤ b y.1 := by
      have : ∀ (l : List (DataW H × List MemPlace)) (o : Nat), (∀ i, l[i]? = elems[o + i]?) → ∃ xs : List α, xs.length = l.length ∧ ∀ (i : Nat) (x : α), xs[i]? = some x → (∃ cs, w.cells? 0 (a.add ((o + i) * n)) n = some cs ∧ LRep (FRep w none1) (F x) cs) ∧ ∀ y, l[i]? = some y → sz x ≤ b y.1 := by
        intro l
        induction l with
        | nil => exact fun o _ => ⟨[], rfl, fun i x h => by simp at h⟩
        | cons y l ih =>
          intro o ho
          obtain ⟨x, hx1, hx2⟩ := key o y (by have := ho 0; simpa using this.symm)
          obtain ⟨xs, h1, h2⟩ := ih (o + 1) (fun i => by have := ho (i + 1); rw [show o + 1 + i = o + (i + 1) by omega]; simpa using this)
          refine ⟨x :: xs, by simp [h1], fun i x' hx' => ?_⟩
          cases i with
          | zero => simp at hx'; subst hx'; exact ⟨by simpa using hx1, fun y' hy' => by simp at hy'; subst hy'; exact hx2⟩
          | succ i =>
            have := h2 i x' (by simpa using hx')
            rw [show o + 1 + i = o + (i + 1) by omega] at this
            exact ⟨this.1, fun y' hy' => this.2 y' (by simpa using hy')⟩
      obtain ⟨xs, h1, h2⟩ := this elems 0 (fun i => by simp)
      exact ⟨xs, h1, fun i x hx => by simpa using h2 i x hx⟩
    obtain ⟨xs, hxl, hx⟩ := key2
    have hsum := sum_le (sz := sz) (b := b) hbs hxl (fun i x y h1 h2 => (hx i x h1).2 y h2)
    have hb' := hb (elems.map (·.1)) (rest.map (·.1))
    refine ⟨xs, ?_, show sumBy sz xs + 1 ≤ b (.slice (elems.map (·.1)) (rest.map (·.1))) by omega⟩
    by_cases hc0 : cap = 0
    · have h0 : len = 0 := by omega
      subst hc0; subst h0
      have : xs = [] := List.length_eq_zero_iff.1 (by omega)
      subst this
      exact .cons (.sl0 false n a) .nil
    · have hone : ∃ cs, w.cells? 0 a n = some cs := by
        by_cases h0 : len = 0
        · have hr := (hrest rfl).2 0 (by omega)
          have hr' : rest[0]? ≠ none := by
            rw [List.getElem?_eq_getElem (by rw [(hrest rfl).1]; omega)]; simp
          rw [hn] at hr
          rw [h0, show (0 + 0) * n = 0 by simp, add_zero] at hr
          cases hcl : w.cells? 0 a n with
          | none => rw [hcl] at hr; exact absurd hr.symm hr'
          | some cs => exact ⟨cs, rfl⟩
        · have : 0 < xs.length := by omega
          obtain ⟨⟨cs, h1, _⟩, _⟩ := hx 0 xs[0] (by simp [this])
          rw [show 0 * n = 0 by simp, add_zero] at h1
          exact ⟨cs, h1⟩
      obtain ⟨cs0, hq⟩ := hone
      obtain ⟨hl0, hq'⟩ := cells_get hq
      have hq0 := hq' 0 (cs0[0]'(by omega)) (by simp)
      rw [add_zero] at hq0
      have hsp : a.spot = none := cell_spot hq0
      have hbl : a.block < w.heap.size := cell_blk hq0
      obtain ⟨blk, off, sp⟩ := a
      have hsp : sp = none := hsp
      subst hsp
      refine .cons (.sl false n (xs.map F) blk off cap len (fun i j => (w.cell? ⟨blk, off + i * n + j, none⟩).getD (.bool false)) (by rw [List.length_map]; omega) (by rw [List.length_map]; omega) (fun h => h) hbl (fun i e he => ?_) (fun i j e f he hf => ?_) (fun i j e f he hf => ?_)) .nil
      · rw [List.getElem?_map] at he
        obtain ⟨x, _, rfl⟩ := Option.map_eq_some_iff.1 he
        exact hF x
      all_goals
        rw [List.getElem?_map] at he
        obtain ⟨x, hxi, rfl⟩ := Option.map_eq_some_iff.1 he
        obtain ⟨⟨cs, h1, h2⟩, _⟩ := hx i x hxi
        obtain ⟨h3, h4⟩ := cells_get h1
        have hj : j < cs.length := by rw [← h2.1]; exact (List.getElem?_eq_some_iff.1 hf).1
        have h5 := h4 j cs[j] (by simp)
        rw [add_none, add_none] at h5
      · rw [h5]; rfl
      · rw [h5]
        exact h2.2 j f cs[j] hf (by simp)

/-- Terms. -/
theorem FT_sum : ∀ l : List Tm, Tm.bks l = sumBy Tm.bk l
  | [] => rfl
  | t :: l => by rw [Tm.bks, sumBy, FT_sum l]
/-- How a term lies. -/
structure TmTy (P : Program) (T : TypeId) (f0 f1 f2 f3 : Field) : Prop where
  str : P.underlying T = some (.struct #[f0, f1, f2, f3])
  u0 : P.underlying f0.type = some (.int .i64)
  u1 : P.underlying f1.type = some .string
  u2 : P.underlying f2.type = some (.int .i64)
  u3 : P.underlying f3.type = some (.slice T)
  o0 : f0.offset = 0
  o1 : f1.offset = 1
  o2 : f2.offset = 2
  o3 : f3.offset = 3
  c0 : P.cellsOf f0.type = 1
  c1 : P.cellsOf f1.type = 1
  c2 : P.cellsOf f2.type = 1
  c3 : P.cellsOf f3.type = 1
  cT : P.cellsOf T = 4
/-- How much a reading holds. -/
structure Bulk (b : DataW H → Nat) (bs : List (DataW H) → Nat) : Prop where
  nil : bs [] = 0
  cons : ∀ d l, bs (d :: l) = b d + bs l
  one : ∀ d, 1 ≤ b d
  slice : ∀ es sp, bs es + 1 ≤ b (.slice es sp)
  str : ∀ l : List UInt8, l.length + 1 ≤ b (.lit (.string l))
  agg : ∀ l, bs l + 1 ≤ b (.agg l)
theorem LRep.one {α : Type} {R : α → Value → Prop} {c : α} {u : Value} (h : LRep R [c] [u]) : R c u := h.2 0 c u rfl rfl
theorem rd_term {b : DataW H → Nat} {bs : List (DataW H) → Nat} (hb : Bulk b bs) {T : TypeId} {f0 f1 f2 f3 : Field} (hT : TmTy P T f0 f1 f2 f3) : ∀ fuel, RdN enc P w b fuel T FT Tm.bk := by
  intro fuel
  induction fuel using Nat.strongRecOn with
  | _ fuel ih =>
    intro cs x h
    obtain ⟨xs, n, rfl, rfl, hl, hxl, hf⟩ := DataW.trod_struct hT.str h
    rw [hT.cT] at hl
    match cs, hl with
    | [v0, v1, v2, v3], _ =>
    match xs, hxl with
    | [x0, x1, x2, x3], _ =>
    have g0 := hf 0 f0 rfl
    have g1 := hf 1 f1 rfl
    have g2 := hf 2 f2 rfl
    have g3 := hf 3 f3 rfl
    rw [hT.o0, hT.c0] at g0
    rw [hT.o1, hT.c1] at g1
    rw [hT.o2, hT.c2] at g2
    rw [hT.o3, hT.c3] at g3
    obtain ⟨k, r0, _⟩ := rd_int (b := b) hT.u0 hb.one n _ _ g0
    obtain ⟨s, r1, z1⟩ := rd_str (b := b) hT.u1 hb.str n _ _ g1
    have z1 : s.length + 1 ≤ b x1.1 := z1
    obtain ⟨m, r2, _⟩ := rd_int (b := b) hT.u2 hb.one n _ _ g2
    obtain ⟨l, r3, z3⟩ := rd_slice (F := FT) (sz := Tm.bk) hb.cons hb.one hb.slice hT.u3 hT.cT (by omega) FT_length (fun k hk => ih k (by omega)) _ _ g3
    have z3 : sumBy Tm.bk l + 1 ≤ b x3.1 := z3
    refine ⟨.mk k s m l, ?_, ?_⟩
    · rw [FT, FTs_map]
      exact .cons (LRep.one r0) (.cons (LRep.one r1) (.cons (LRep.one r2) (.cons (LRep.one r3) .nil)))
    · have := hb.one x0.1
      simp only [Tm.bk, FT_sum]
      show _ ≤ b (.agg [x0.1, x1.1, x2.1, x3.1])
      have h9 := hb.agg [x0.1, x1.1, x2.1, x3.1]
      simp only [hb.cons, hb.nil] at h9
      omega

/-! ### Arguments -/
theorem none_own {Y : Nat → Prop} (hY : ∀ b, ¬ Y b) {Hs : List AObj} : (fun b => Y b ∨ Own (fun o => Hs.getD o .gone) (fun _ => none) b) = none1 := by
  funext b
  refine propext ⟨fun h => ?_, fun h => h.elim⟩
  rcases h with h | ⟨o, _, h⟩
  · exact (hY b h).elim
  · cases h
abbrev β0 : Nat → Option Nat := fun _ => none
theorem open_term {b : DataW H → Nat} {bs : List (DataW H) → Nat} (hb : Bulk b bs) {T : TypeId} {f0 f1 f2 f3 : Field} (hT : TmTy P T f0 f1 f2 f3) {r : Reach} {base : Nat} {v : Value} {d : DataW H} {ps : List MemPlace}
    (hv : Value.okWide P w r base T v) (hd : DataW.Trod enc P w 0 (fun _ => true) true T v d ps) : ∃ t : Tm, TRep w none1 β0 (aT t) v ∧ t.bk ≤ b d := by
  obtain ⟨cs, rfl, _⟩ := okWide_struct hT.str hv
  obtain ⟨fuel, hf⟩ := hd
  obtain ⟨t, h1, h2⟩ := rd_term hb hT fuel _ _ hf
  refine ⟨t, ⟨cs.toList, by simp, ?_⟩, h2⟩
  rw [FT_eta] at h1
  have h1 : LRep (FRep w none1) [.int .i64 t.k, .str t.s, .int .i64 t.n, .sl false 4 (FTs t.l)] cs.toList := h1
  exact h1.map (g := fun x => WV.a (.fz x)) fun c u _ h => .a _ _ (.fz _ _ h)
theorem open_terms {b : DataW H → Nat} {bs : List (DataW H) → Nat} (hb : Bulk b bs) {T S : TypeId} {f0 f1 f2 f3 : Field} (hT : TmTy P T f0 f1 f2 f3) (hS : P.underlying S = some (.slice T)) {r : Reach} {base : Nat} {v : Value} {d : DataW H} {ps : List MemPlace}
    (hv : Value.okWide P w r base S v) (hd : DataW.Trod enc P w 0 (fun _ => true) true S v d ps) : ∃ l : List Tm, TRep w none1 β0 (aL l) v ∧ Tm.bks l + 1 ≤ b d := by
  obtain ⟨a, len, cap, rfl⟩ := okWide_slice hS hv
  obtain ⟨fuel, hf⟩ := hd
  obtain ⟨l, h1, h2⟩ := rd_slice (F := FT) (sz := Tm.bk) hb.cons hb.one hb.slice hS hT.cT (by omega) FT_length (fun k _ => rd_term hb hT k) _ _ hf
  have h2 : sumBy Tm.bk l + 1 ≤ b d := h2
  rw [← FT_sum] at h2
  have h1 : LRep (FRep w none1) [.sl false 4 (l.map FT)] [_] := h1
  rw [← FTs_map] at h1
  exact ⟨l, .a _ _ (.fz _ _ h1.one), h2⟩
theorem open_num {t : TypeId} {k : IntKind} (ht : P.underlying t = some (.int k)) {r : Reach} {base : Nat} {v : Value} {d : DataW H} {ps : List MemPlace}
    (hv : Value.okWide P w r base t v) (hd : DataW.Trod enc P w 0 (fun _ => true) true t v d ps) : ∃ n : Int, TRep w none1 β0 (.c (.a (.fz (.int k n)))) v ∧ (Lit.int k n).wf = true := by
  obtain ⟨n, rfl, _, _, hw⟩ := open_int ht hv hd
  exact ⟨n, .a _ _ (.fz _ _ (.int k n)), hw⟩
theorem open_str {t : TypeId} (ht : P.underlying t = some .string) {b : DataW H → Nat} {bs : List (DataW H) → Nat} (hb : Bulk b bs) {r : Reach} {base : Nat} {v : Value} {d : DataW H} {ps : List MemPlace}
    (hv : Value.okWide P w r base t v) (hd : DataW.Trod enc P w 0 (fun _ => true) true t v d ps) : ∃ s : List UInt8, TRep w none1 β0 (cs s) v ∧ s.length + 1 ≤ b d := by
  obtain ⟨s, rfl⟩ := okWide_string ht hv
  obtain ⟨fuel, hf⟩ := hd
  obtain ⟨l, h1, h2⟩ := rd_str (b := b) ht hb.str fuel _ _ hf
  exact ⟨l, .a _ _ (.fz _ _ h1.one), h2⟩

/-! ### The end -/
theorem kept_good {w' : World} {foot : Nat → Prop} (g : Good w foot w') (hf : ∀ b, ¬ foot b) (may : MemPlace → Prop) : w.keptBut w' may := by
  refine ⟨g.os, g.output, fun i hi => ?_⟩
  rw [g.blk i hi (hf i)]
  exact (World.keptBut_refl w may).2.2 i hi
theorem same_good {w' : World} {foot : Nat → Prop} (g : Good w foot w') (hf : ∀ b, ¬ foot b) {p : MemPlace} (hp : p.block < w.heap.size) : w.sameAt w' p := by
  cases p with
  | cell b o => exact World.cell?_of_block (a := ⟨b, o, none⟩) (g.blk b hp (hf b))
  | map b => exact g.blk b hp (hf b)
theorem trodAll_stays (hl : laidOutB P = true) {w' : World} {sp : Nat → Bool} : ∀ {ts : List TypeId} {vs : List Value} {ds : List (DataW H)} {p : List MemPlace}, DataW.TrodAll enc P w 0 (fun _ => true) true ts vs ds p →
    (∀ t ∈ ts, P.readableRec t = true ∧ t < P.types.size) → (∀ x ∈ p, w.sameAt w' x) → (∀ x ∈ p, sp x.block = true) → DataW.TrodAll enc P w' 0 sp true ts vs ds p
  | [], _, _, _, h, _, _, _ => by
    obtain ⟨rfl, rfl, rfl⟩ := trodAll_nil h
    exact trodAll_mk0
  | t :: ts, _, _, _, h, ht, hs, hsp => by
    obtain ⟨v, vs', d, ds', p, q, rfl, rfl, rfl, ⟨n, h1⟩, h2⟩ := trodAll_cons h
    have hr := (ht t List.mem_cons_self).1
    exact ⟨p, q, ⟨n, DataW.trod_stays (kids_book hl hr) (book_sized hr) (fun h => by cases h) ⟨(ht t List.mem_cons_self).2, book_self t⟩ h1 (fun x hx => hs x (List.mem_append_left _ hx)) (fun x hx => hsp x (List.mem_append_left _ hx))⟩,
      trodAll_stays hl h2 (fun u hu => ht u (List.mem_cons_of_mem _ hu)) (fun x hx => hs x (List.mem_append_right _ hx)) (fun x hx => hsp x (List.mem_append_right _ hx)), rfl⟩
/-- A law's end: it returns true, and what was read reads as before. -/
theorem post_good (hl : laidOutB P = true) {f : Func} {s : ChangeSpec} {apart fresh handsOn again : Bool} {w' : World} {args : Array Value} {ds gs : List (DataW H)} {before : List MemPlace} {foot : Nat → Prop} {tb : TypeId}
    (hW : DataW.Whole enc P f.params.toList s.vars apart w args.toList ds gs before) (hv : s.vars = []) (hs : ∀ ds' : List (DataW H), ds'.length = ds.length → s.fn H ds' = { results := [.lit (.bool true)], args := ds' })
    (ht : ∀ t ∈ f.params.toList, P.readableRec t = true ∧ t < P.types.size) (hr : f.resultTypes = #[tb]) (hb : P.underlying tb = some .bool) (g : Good w foot w') (hf : ∀ b, ¬ foot b) :
    s.post enc P f apart fresh handsOn again w args (.bool true) w' := by
  have hlt := hW.lt
  obtain ⟨p, q, h1, h2, he, hz, hn⟩ := hW
  rw [hv] at h2
  obtain ⟨rfl, rfl⟩ := trodVars_none h2
  rw [List.append_nil] at he
  subst he
  have hold : ∀ x ∈ before, (fun b => decide (b < w.heap.size)) x.block = true := fun x hx => by simpa using hlt x hx
  have hfn := hs (ds ++ []) (by simp)
  have hargs : ∀ sp : Nat → Bool, (∀ x ∈ before, sp x.block = true) → DataW.TrodAll enc P w' 0 sp true f.params.toList args.toList (s.fn H (ds ++ [])).args before := fun sp hsp => by
    rw [hfn, List.append_nil]
    exact trodAll_stays hl h1 ht (fun x hx => same_good g hf (hlt x hx)) hsp
  have hres : ∀ (b : Nat) (sp : Nat → Bool) (hd : Bool), DataW.TrodAll enc P w' b sp hd f.resultTypes.toList ((Value.bool true).resultList f.resultTypes.size) (s.fn H (ds ++ [])).results [] := fun b sp hd => by
    rw [hfn, hr]
    exact trodAll_mk1 ⟨1, by simp [DataW.trod, Value.cells, hb]⟩
  have hvars : ∀ sp : Nat → Bool, DataW.TrodVars enc P w' sp s.vars (s.fn H (ds ++ [])).vars [] := fun sp => by
    rw [hfn, hv]
    rfl
  refine ⟨ds, [], before, [], before, [], ⟨before, [], h1, by rw [hv]; rfl, by simp, hz, hn⟩, hres _ _ _, hargs _ hold, hvars _, World.keptBut_mono (fun x hx => ⟨hx, ?_⟩) (kept_good g hf (· ∈ before)), fun _ => ?_⟩
  · simpa using hx
  · refine ⟨ok_one hr rfl (okWide_bool_mk hb _), _, _, ([] ++ before) ++ [], ⟨[] ++ before, [], trodAll_append (hargs _ (fun _ _ => rfl)) (hres _ _ _), hvars _, rfl, ?_, ?_⟩, ?_⟩
    · intro b off hp
      have hp : MemPlace.cell b off ∈ before := by simpa using hp
      have hb := hlt _ hp
      have : w'.frozen? ⟨b, off, none⟩ = w.frozen? ⟨b, off, none⟩ := by
        unfold World.frozen?
        rw [g.blk b hb (hf b)]
      rw [this]
      exact hz b off hp
    · intro ha
      simpa using hn ha
    · intro x hx _
      simpa using hx
/-- A contract that a law's function answers: true. -/
theorem law_true {f : FuncId} {args : List TV} (hgl : Gl P w none1) (h : AC P f args [] (cb true) []) {vals : List Value} (hv : LRep (TRep w none1 β0) args vals) :
    Calls P f vals.toArray w fun e w' => e = .returned (.bool true) ∧ ∃ foot, (∀ b, ¬ foot b) ∧ Good w foot w' := by
  have hX : (fun b => (fun _ : Nat => False) b ∨ Own (fun o => ([] : List AObj).getD o .gone) β0 b) = none1 := none_own (fun _ h => h)
  refine (h.2.2 w vals β0 (fun _ => False) (fun o b h => by cases h) (fun b h => h.elim) (hgl.sub fun b ⟨o, h5, _⟩ => by simp [isLive] at h5) ⟨fun o b h _ => by simp [isLive] at h, fun o h => by simp [isLive] at h, fun o o' b h => by simp [isLive] at h, fun o b h => by cases h⟩ (by rw [hX]; exact hv)).mono fun e w' ⟨v, β', h1, h2, h3, h4, _⟩ => ?_
  subst h1
  cases h4 with
  | a _ _ h4 =>
    cases h4 with
    | fz _ _ h4 =>
      cases h4
      exact ⟨rfl, _, fun b ⟨o, h5, _⟩ => by simp [isLive] at h5, h2⟩
end
end Go.AM

namespace Go.AM
open Go.ChangeShapes Go.WideShapes Go.ChangeAt Go.RowKit

section
variable {H : Type} {enc : TypeId × Value → H} {P : Program} {w : World}
theorem wf_range {n : Int} (h : (Lit.int .i64 n).wf = true) : -9223372036854775808 ≤ n ∧ n ≤ 9223372036854775807 := by
  simp only [Lit.wf, IntKind.min, IntKind.max, IntKind.signed, IntKind.bits, Bool.and_eq_true, decide_eq_true_eq, if_true] at h; omega
abbrev TmI := { t : Tm // okI t }
theorem sumBy_val : ∀ l : List TmI, Tm.bks (l.map (·.1)) = sumBy (fun t : TmI => t.1.bk) l
  | [] => rfl
  | t :: l => by rw [List.map_cons, Tm.bks, sumBy, sumBy_val l]
theorem okIs_val (l : List TmI) : okIs (l.map (·.1)) := okIs_of fun t ht => by
  obtain ⟨u, _, rfl⟩ := List.mem_map.1 ht
  exact u.2
theorem rd_termI {b : DataW H → Nat} {bs : List (DataW H) → Nat} (hb : Bulk b bs) {T : TypeId} {f0 f1 f2 f3 : Field} (hT : TmTy P T f0 f1 f2 f3) : ∀ fuel, RdN enc P w b fuel T (fun t : TmI => FT t.1) (fun t => t.1.bk) := by
  intro fuel
  induction fuel using Nat.strongRecOn with
  | _ fuel ih =>
    intro cs x h
    obtain ⟨xs, n, rfl, rfl, hl, hxl, hf⟩ := DataW.trod_struct hT.str h
    rw [hT.cT] at hl
    match cs, hl with
    | [v0, v1, v2, v3], _ =>
    match xs, hxl with
    | [x0, x1, x2, x3], _ =>
    have g0 := hf 0 f0 rfl
    have g1 := hf 1 f1 rfl
    have g2 := hf 2 f2 rfl
    have g3 := hf 3 f3 rfl
    rw [hT.o0, hT.c0] at g0
    rw [hT.o1, hT.c1] at g1
    rw [hT.o2, hT.c2] at g2
    rw [hT.o3, hT.c3] at g3
    obtain ⟨k, r0, _⟩ := rd_int (b := b) hT.u0 hb.one n _ _ g0
    obtain ⟨s, r1, z1⟩ := rd_str (b := b) hT.u1 hb.str n _ _ g1
    have z1 : s.length + 1 ≤ b x1.1 := z1
    obtain ⟨m, r2, _⟩ := rd_num (b := b) hT.u2 hb.one n _ _ g2
    obtain ⟨l, r3, z3⟩ := rd_slice (F := fun t : TmI => FT t.1) (sz := fun t : TmI => t.1.bk) hb.cons hb.one hb.slice hT.u3 hT.cT (by omega) (fun t => FT_length t.1) (fun k hk => ih k (by omega)) _ _ g3
    have z3 : sumBy (fun t : TmI => t.1.bk) l + 1 ≤ b x3.1 := z3
    refine ⟨⟨.mk k s m.1 (l.map (·.1)), wf_range m.2, okIs_val l⟩, ?_, ?_⟩
    · have e : FTs (l.map (·.1)) = l.map fun t : TmI => FT t.1 := by rw [FTs_map, List.map_map]; rfl
      show LRep (FRep w none1) (FT (.mk k s m.1 (l.map (·.1)))) _
      rw [FT, e]
      exact .cons (LRep.one r0) (.cons (LRep.one r1) (.cons (LRep.one r2) (.cons (LRep.one r3) .nil)))
    · have := hb.one x0.1
      show Tm.bk (.mk k s m.1 (l.map (·.1))) ≤ b (.agg [x0.1, x1.1, x2.1, x3.1])
      simp only [Tm.bk, sumBy_val]
      have h9 := hb.agg [x0.1, x1.1, x2.1, x3.1]
      simp only [hb.cons, hb.nil] at h9
      omega
theorem open_termI {b : DataW H → Nat} {bs : List (DataW H) → Nat} (hb : Bulk b bs) {T : TypeId} {f0 f1 f2 f3 : Field} (hT : TmTy P T f0 f1 f2 f3) {r : Reach} {base : Nat} {v : Value} {d : DataW H} {ps : List MemPlace}
    (hv : Value.okWide P w r base T v) (hd : DataW.Trod enc P w 0 (fun _ => true) true T v d ps) : ∃ t : Tm, TRep w none1 β0 (aT t) v ∧ t.bk ≤ b d ∧ okI t := by
  obtain ⟨cs, rfl, _⟩ := okWide_struct hT.str hv
  obtain ⟨fuel, hf⟩ := hd
  obtain ⟨t, h1, h2⟩ := rd_termI hb hT fuel _ _ hf
  refine ⟨t.1, ⟨cs.toList, by simp, ?_⟩, h2, t.2⟩
  have h1 : LRep (FRep w none1) (FT t.1) cs.toList := h1
  rw [FT_eta] at h1
  exact h1.map (g := fun x => WV.a (.fz x)) fun c u _ h => .a _ _ (.fz _ _ h)
end
end Go.AM

set_option maxRecDepth 100000
open Go Go.Proofs
namespace Go.Proofs.Ytcnpljfigfbpcaa.base
open Go.ChangeShapes Go.WideShapes Go.ChangeAt Go.RowKit Go.AM

theorem one_le {H : Type} (d : DataW H) : 1 ≤ Rows.uptoBulk d := by
  cases d with
  | lit l => cases l <;> simp [Rows.uptoBulk]
  | _ => simp [Rows.uptoBulk]
theorem bulk {H : Type} : Bulk (H := H) Rows.uptoBulk Rows.uptoBulkAll :=
  ⟨rfl, fun _ _ => rfl, one_le, fun es sp => by simp only [Rows.uptoBulk]; omega, fun l => by simp [Rows.uptoBulk], fun l => by simp [Rows.uptoBulk]⟩
theorem own : ownKnob Try.prog.godebug = none := by kernel_rfl
theorem laidOut : laidOutB Try.prog = true := by kernel_rfl
theorem tmTy : ∃ f0 f1 f2 f3 : Field, TmTy Try.prog 33 f0 f1 f2 f3 :=
  ⟨_, _, _, _, Try.underlying33, Try.underlying30, Try.underlying9, Try.underlying3, Try.underlying31, rfl, rfl, rfl, rfl, by kernel_rfl, by kernel_rfl, by kernel_rfl, by kernel_rfl, by kernel_rfl⟩
theorem rec3 : Try.prog.readableRec 3 = true := by kernel_rfl
theorem lt3 : 3 < Try.prog.types.size := of_decide_eq_true (by kernel_rfl)
theorem rec9 : Try.prog.readableRec 9 = true := by kernel_rfl
theorem lt9 : 9 < Try.prog.types.size := of_decide_eq_true (by kernel_rfl)
theorem rec31 : Try.prog.readableRec 31 = true := by kernel_rfl
theorem lt31 : 31 < Try.prog.types.size := of_decide_eq_true (by kernel_rfl)
theorem rec33 : Try.prog.readableRec 33 = true := by kernel_rfl
theorem lt33 : 33 < Try.prog.types.size := of_decide_eq_true (by kernel_rfl)
theorem noGl (g : Nat) (h : Try.prog.globalNamed "internal/strconv.uint64pow10" = some g) : False := by
  rw [show Try.prog.globalNamed "internal/strconv.uint64pow10" = none by kernel_rfl] at h; cases h
theorem num_range {n : Int} (h : (Lit.int .i64 n).wf = true) : -9223372036854775808 ≤ n ∧ n ≤ 9223372036854775807 := by
  simp only [Lit.wf, IntKind.min, IntKind.max, IntKind.signed, IntKind.bits, Bool.and_eq_true, decide_eq_true_eq, if_true] at h; omega
theorem upto {H : Type} {l : List (DataW H)} (hk : Rows.uptoSmall H l = true) : Rows.uptoBulkAll l ≤ 1048576 := of_decide_eq_true hk
end Go.Proofs.Ytcnpljfigfbpcaa.base
