/- Functions, point by point: what a run from one point to the next asks. 'vcE' (from the entry), 'vcP' (from a point), and that they are enough. No conditions. -/
import Derived.Test.YtclicclinfnmlaaAmVc2
namespace Go.AM

/-! ### Loops, a round at a time -/
def Code.lwp (P : Program) (c : Code) (Q : Exit → Act → World → Prop) (a : Act) (w : World) : Prop :=
  ∀ (b : Frame) (k : List Item) (cs : List Frame),
    ∃ e a' w', Q e a' w' ∧ Arrives P (lone (b.at a (.code c :: .inLoop c :: k)) cs w) b k cs e a' w'
theorem lwp_wp {P : Program} {c : Code} {Q : Exit → Act → World → Prop} {a : Act} {w : World} (h : Code.lwp P c Q a w) : (Code.loop c).wp P Q a w := fun b k cs => by
  obtain ⟨e, a', w', hq, harr⟩ := h b k cs
  exact ⟨e, a', w', hq, .of_steps (.one step_loop) harr⟩
theorem lwp_unroll {P : Program} {c : Code} {Q : Exit → Act → World → Prop} {a : Act} {w : World} (h : c.wp P (Exit.then (Code.lwp P c Q) Q) a w) : Code.lwp P c Q a w := fun b k cs => by
  obtain ⟨e, a₁, w₁, hq, harr⟩ := h b (.inLoop c :: k) cs
  cases e with
  | normal =>
    obtain ⟨e₂, a₂, w₂, hq₂, harr₂⟩ := hq b k cs
    exact ⟨e₂, a₂, w₂, hq₂, .of_steps (Steps.trans harr (.one step_inLoop)) harr₂⟩
  | exit id => exact ⟨_, a₁, w₁, hq, .pass (x := .inLoop c) rfl (fun _ _ => .inl (by simp)) harr⟩
  | goto l => exact ⟨_, a₁, w₁, hq, .pass (x := .inLoop c) rfl (fun _ _ => .inl (by simp)) harr⟩
  | ret => exact ⟨_, a₁, w₁, hq, .pass (x := .inLoop c) rfl (fun _ _ => .inl (by simp)) harr⟩
  | panic ch => exact ⟨_, a₁, w₁, hq, .pass (x := .inLoop c) rfl (fun _ _ => .inl (by simp)) harr⟩
  | outgrown => exact ⟨_, a₁, w₁, hq, .pass (x := .inLoop c) rfl (fun _ _ => .inl (by simp)) harr⟩
theorem lwp_mono {P : Program} {c : Code} {Q Q' : Exit → Act → World → Prop} {a : Act} {w : World} (h : Code.lwp P c Q a w) (hq : ∀ e a w, Q e a w → Q' e a w) : Code.lwp P c Q' a w :=
  fun b k cs => let ⟨e, a', w', q, r⟩ := h b k cs; ⟨e, a', w', hq _ _ _ q, r⟩

section
variable {P : Program} {n m : Nat} {c : Code} {Q : AExit → St → Prop} {s : St}
/-- At a loop's head. -/
def Alwp (P : Program) (n m : Nat) (c : Code) (Q : AExit → St → Prop) (s : St) : Prop :=
  ∀ (w0 : World) (foot Y : Nat → Prop) (pin β : Nat → Option Nat) (a : Act) (w : World), (∀ o b, pin o = some b → o < m) → a.tmps.size = n → RelF w0 foot Y pin (look s.env) (hook s.heap) β a w → (∀ k, β k ≠ none → k < s.nx) →
    Code.lwp P c (Lift w0 foot Y pin n Q) a w
theorem Alwp.loop (h : Alwp P n m c Q s) : Awp P n m (.loop c) Q s := fun w0 foot Y pin β a w hm hn hR hb => lwp_wp (h w0 foot Y pin β a w hm hn hR hb)
theorem Alwp.unroll (h : Awp P n m c (thenQ (Alwp P n m c Q) Q) s) : Alwp P n m c Q s := fun w0 foot Y pin β a w hm hn hR hb => by
  refine lwp_unroll (wp_mono (h w0 foot Y pin β a w hm hn hR hb) fun e a' w' hq => ?_)
  cases e with
  | normal => obtain ⟨s', β', h1, h2, h3, h4⟩ := hq; exact h1 w0 foot Y pin β' a' w' hm h2 h3 h4
  | exit i => exact hq
  | ret => exact hq
  | _ => exact hq.elim
theorem Alwp.weak {s' : St} (hs : Sle m s s') (h : Alwp P n m c Q s') : Alwp P n m c Q s := fun w0 foot Y pin β a w hm hn hR _ =>
  let ⟨β', h1, h2⟩ := relF_sle hs hm hR
  h w0 foot Y pin β' a w hm hn h1 h2
theorem Awp.look {e1 e2 : Env} {h : AHeap} {nx : Nat} (he : look e1 = look e2) (hA : Awp P n m c Q ⟨e1, h, nx⟩) : Awp P n m c Q ⟨e2, h, nx⟩ := fun w0 foot Y pin β a w hm hn hR hb =>
  hA w0 foot Y pin β a w hm hn (by show RelF _ _ _ _ (Go.AM.look e1) _ _ _ _; rw [he]; exact hR) hb
/-- The same state by other words. -/
def eqQ (Q : AExit → St → Prop) (e : AExit) (s : St) : Prop := ∃ e2, Go.AM.look e2 = Go.AM.look s.env ∧ Q e ⟨e2, s.heap, s.nx⟩
theorem Awp.uneq (h : Awp P n m c (eqQ Q) s) : Awp P n m c Q s := fun w0 foot Y pin β a w hm hn hR hb => by
  refine wp_mono (h w0 foot Y pin β a w hm hn hR hb) fun e a' w' hq => ?_
  have key : ∀ x, At w0 foot Y pin n (eqQ Q x) a' w' → At w0 foot Y pin n (Q x) a' w' := by
    rintro x ⟨s', β', ⟨e2, h1, h2⟩, h3, h4, h5⟩
    exact ⟨_, β', h2, h3, by show RelF _ _ _ _ (Go.AM.look e2) _ _ _ _; rw [h1]; exact h4, h5⟩
  cases e with
  | normal => exact key _ hq
  | exit i => exact key _ hq
  | ret => exact key _ hq
  | _ => exact hq.elim
end

/-! ### Points -/
/-- The points of a code: 2 i: its region i; 2 i + 1: its block i, if that is a loop. -/
def pts : Code → List Nat
  | .region i _ _ => [2 * i]
  | .seq a b => pts a ++ pts b
  | .cond _ a b => pts a ++ pts b
  | .block i c => (2 * i + 1) :: pts c
  | .loop c => pts c
  | _ => []
def isLoop : Code → Bool | .loop _ => true | _ => false
def loopBody : Code → Code | .loop c => c | c => c

/-- From the point p on. -/
def rz (P : Program) (n m : Nat) : Code → Nat → (AExit → St → Prop) → St → Prop
  | .region i ops d, p, Q, s => p = 2 * i ∧ Awp P n m (.region i ops d) Q s
  | .seq a b, p, Q, s => if (pts a).contains p then rz P n m a p (thenQ (Awp P n m b Q) Q) s else rz P n m b p Q s
  | .cond _ a b, p, Q, s => if (pts a).contains p then rz P n m a p Q s else rz P n m b p Q s
  | .block i c, p, Q, s => if p = 2 * i + 1 then isLoop c = true ∧ Alwp P n m (loopBody c) (inBlockQ i Q) s else rz P n m c p (inBlockQ i Q) s
  | .loop c, p, Q, s => rz P n m c p (thenQ (Alwp P n m c Q) Q) s
  | _, _, _, _ => False

theorem rz_weak {P : Program} {n m : Nat} : ∀ {c : Code} {p : Nat} {Q : AExit → St → Prop} {s s' : St}, Sle m s s' → rz P n m c p Q s' → rz P n m c p Q s
  | .region i ops d, p, Q, s, s', hs, h => ⟨h.1, h.2.weak hs⟩
  | .seq a b, p, Q, s, s', hs, h => by
    unfold rz at h ⊢
    split
    · rename_i hc; rw [if_pos hc] at h; exact rz_weak hs h
    · rename_i hc; rw [if_neg hc] at h; exact rz_weak hs h
  | .cond x a b, p, Q, s, s', hs, h => by
    unfold rz at h ⊢
    split
    · rename_i hc; rw [if_pos hc] at h; exact rz_weak hs h
    · rename_i hc; rw [if_neg hc] at h; exact rz_weak hs h
  | .block i c, p, Q, s, s', hs, h => by
    unfold rz at h ⊢
    split
    · rename_i hc; rw [if_pos hc] at h; exact ⟨h.1, h.2.weak hs⟩
    · rename_i hc; rw [if_neg hc] at h; exact rz_weak hs h
  | .loop c, p, Q, s, s', hs, h => by unfold rz at h ⊢; exact rz_weak hs h
  | .skip, _, _, _, _, _, h => h.elim
  | .rangeFunc .., _, _, _, _, _, h => h.elim
  | .exit _, _, _, _, _, _, h => h.elim
  | .scope _, _, _, _, _, _, h => h.elim
  | .label _, _, _, _, _, _, h => h.elim
  | .goto _, _, _, _, _, _, h => h.elim
  | .ret, _, _, _, _, _, h => h.elim
  | .refuse _, _, _, _, _, _, h => h.elim

/-- From point p of function f, in state s, the function hands back r and leaves the objects Hs'. -/
def RPt (P : Program) (f : FuncId) (m : Nat) (r : TV) (Hs' : List AObj) (p : Nat) (s : St) : Prop :=
  ∃ (fn : Func) (c : Code), P.funcs[f]? = some fn ∧ fn.body = some c ∧ rz P fn.ntmps m c p (Ret P fn.results.toList m r Hs') s

/-! ### From point to point -/
def normH (h : Nat → AObj) (ids : List Nat) : Nat → List Nat → AHeap
  | _, [] => []
  | k, o :: r => (k, (h o).ren (inv ids)) :: normH h ids (k + 1) r
def prefB (m : Nat) (ids : List Nat) : Bool := Nat.ble m ids.length && (List.range m).all fun o => ids.getD o m == o
def gotoV (m : Nat) (lv : List (Nat × List Nat)) (G : Nat → St → Prop) (p : Nat) (s : St) : Prop :=
  match find2 lv p with
  | none => False
  | some live => match reachM m (hook s.heap) (live.flatMap fun t => (look s.env t).ids) with
    | ids => match nodupB ids && ids.all (fun o => (hook s.heap o).inn ids) && live.all (fun t => (look s.env t).inn ids) && prefB m ids with
      | true => G p ⟨live.map fun t => (t, (look s.env t).ren (inv ids)), normH (hook s.heap) ids 0 ids, ids.length⟩
      | false => False

theorem normH_mem {h : Nat → AObj} {ids : List Nat} : ∀ {l : List Nat} {k : Nat} {p : Nat × AObj}, p ∈ normH h ids k l → ∃ j, l[j]? = some (l.getD j 0) ∧ j < l.length ∧ p = (k + j, (h (l.getD j 0)).ren (inv ids))
  | [], _, _, hp => by cases hp
  | o :: l, k, p, hp => by
    rcases List.mem_cons.1 hp with rfl | hp
    · exact ⟨0, rfl, by simp, rfl⟩
    · obtain ⟨j, h1, h2, h3⟩ := normH_mem hp
      exact ⟨j + 1, by simpa using h1, by simp; omega, by rw [h3]; simp; omega⟩
theorem lend_nil_T (x : TV) : x.lend [] = x := by
  have := map_lend_nil [x]
  simpa using this
theorem lend_nil_O (x : AObj) : x.lend [] = x := by
  have hw : ∀ y : WV, y.lend [] = y := fun y => by
    have := lend_nil_T (.c y); simp only [TV.lend, TV.c.injEq] at this; exact this
  cases x with
  | arr n es => simp only [AObj.lend, show WV.lend [] = id from funext hw, List.map_id, List.map_id']
  | _ => rfl
theorem prefB_ok {m : Nat} {ids : List Nat} (h : prefB m ids = true) : m ≤ ids.length ∧ ∀ o, o < m → sub ids 0 o = o := by
  simp only [prefB, Bool.and_eq_true, List.all_eq_true, List.mem_range, beq_iff_eq] at h
  refine ⟨Nat.le_of_ble_eq_true h.1, fun o ho => ?_⟩
  have h1 := Nat.le_of_ble_eq_true h.1
  have h2 := h.2 o ho
  simp only [sub, show o < ids.length by omega, if_true]
  simp only [List.getD, List.getElem?_eq_getElem (show o < ids.length by omega), Option.getD_some] at h2 ⊢
  exact h2

theorem gotoV_inv {m : Nat} {lv : List (Nat × List Nat)} {G : Nat → St → Prop} {p : Nat} {s : St} (hg : gotoV m lv G p s) : ∃ s', Sle m s s' ∧ G p s' := by
  unfold gotoV at hg
  split at hg
  · exact hg.elim
  · rename_i live hlv
    generalize reachM _ _ _ = ids at hg
    simp only at hg
    split at hg
    · rename_i hb
      simp only [Bool.and_eq_true] at hb
      obtain ⟨⟨⟨h1, h2⟩, h3⟩, h4⟩ := hb
      refine ⟨_, ⟨sub ids 0, [], (fun p hp => by cases hp), (prefB_ok h4).1, (prefB_ok h4).2, fun q hq => ?_, fun q hq => ?_, fun q hq q' hq' e => ?_⟩, hg⟩
      · obtain ⟨t, ht, rfl⟩ := List.mem_map.1 hq
        have := TV.ren_inv (fr := 0) (List.all_eq_true.1 h3 t ht)
        rw [lend_nil_T]
        exact ⟨by rw [this.1]; exact .refl _, this.2⟩
      · obtain ⟨j, e1, e2, rfl⟩ := normH_mem hq
        have hsub : sub ids 0 (0 + j) = ids.getD j 0 := by simp only [sub, Nat.zero_add, e2, if_true]
        have := AObj.ren_inv (fr := 0) (List.all_eq_true.1 h2 (ids.getD j 0) (List.mem_of_getElem? e1))
        refine ⟨by simpa using e2, ?_, this.2, (fun q hq => by cases hq)⟩
        simp only [hsub, lend_nil_O, this.1]
      · obtain ⟨j, e1, e2, rfl⟩ := normH_mem hq
        obtain ⟨j', e1', e2', rfl⟩ := normH_mem hq'
        simp only [sub, Nat.zero_add, e2, e2', if_true] at e ⊢
        rw [e] at e1
        exact nodup_get (nodupB_iff h1) e1 e1'
    · exact hg.elim

/-! ### Returns -/
/-- Slices of the call's own that are handed back are given up, but where 'own' says that they are the caller's. -/
def retV (P : Program) (own : Bool) (rl : List ResultVar) (m : Nat) (R : TV → List AObj → Prop) (s : St) : Prop :=
  match resAs P s rl with
  | none => False
  | some rs => match own with
    | false => asksA (hook s.heap) rs (match reachM m (hook s.heap) ((rs.map fun x => (givT (hook s.heap) x).1).flatMap TV.ids) with
      | ids => match nodupB ids && ids.all (fun o => (hook s.heap o).inn ids) && (rs.map fun x => (givT (hook s.heap) x).1).all (TV.inn ids) && prefB m ids && (rs.flatMap (lentT (hook s.heap))).all (fun p => !ids.contains p.1) with
        | true => match packA ((rs.map fun x => (givT (hook s.heap) x).1).map (TV.ren (inv ids))) with
          | some r0 => R r0 (ids.map fun o => (hook s.heap o).ren (inv ids))
          | none => False
        | false => False)
    | true => match reachM m (hook s.heap) (rs.flatMap TV.ids) with
      | ids => match nodupB ids && ids.all (fun o => (hook s.heap o).inn ids) && rs.all (TV.inn ids) && prefB m ids with
        | true => match packA (rs.map (TV.ren (inv ids))) with
          | some r0 => R r0 (ids.map fun o => (hook s.heap o).ren (inv ids))
          | none => False
        | false => False

theorem lend_inn {ids : List Nat} {E : Lent} (hd : ∀ p ∈ E, p.1 ∉ ids) {x : AObj} (hx : x.inn ids = true) : x.lend E = x := by
  have hw : ∀ y : WV, y.inn ids = true → y.lend E = y := fun y hy => by
    cases y with
    | fn f a b => rfl
    | a y => cases y with
      | osl o n off len =>
        simp only [WV.inn, AV.inn, List.contains_eq_mem, decide_eq_true_eq] at hy
        simp only [WV.lend, AV.lend]
        rw [find2_none]
        intro p hp e
        exact hd p hp (e ▸ hy)
      | _ => rfl
  cases x with
  | arr n es =>
    simp only [AObj.inn, List.all_eq_true] at hx
    simp only [AObj.lend]
    congr 1
    conv => rhs; rw [← List.map_id es]
    refine List.map_congr_left fun e he => ?_
    conv => rhs; rw [id, ← List.map_id e]
    exact List.map_congr_left fun y hy => hw y (hx e he y hy)
  | _ => rfl

theorem objHeap_mem : ∀ {l : List AObj} {k : Nat} {p : Nat × AObj}, p ∈ objHeap k l → ∃ j, p.1 = k + j ∧ l[j]? = some p.2
  | [], _, _, hp => by cases hp
  | o :: l, k, p, hp => by
    rcases List.mem_cons.1 hp with rfl | hp
    · exact ⟨0, rfl, rfl⟩
    · obtain ⟨j, h1, h2⟩ := objHeap_mem hp
      exact ⟨j + 1, by omega, by simpa using h2⟩

theorem all2_mapmap {α β γ : Type} {R : α → β → Prop} {f : γ → α} {g : γ → β} : ∀ {l : List γ}, (∀ x ∈ l, R (f x) (g x)) → All2 R (l.map f) (l.map g)
  | [], _ => trivial
  | x :: l, h => ⟨h x List.mem_cons_self, all2_mapmap fun y hy => h y (List.mem_cons_of_mem _ hy)⟩
theorem all2_map1 {α β : Type} {R : α → β → Prop} {g : α → β} : ∀ {l : List α}, (∀ x ∈ l, R x (g x)) → All2 R l (l.map g)
  | [], _ => trivial
  | x :: l, h => ⟨h x List.mem_cons_self, all2_map1 fun y hy => h y (List.mem_cons_of_mem _ hy)⟩

theorem ret_core {P : Program} {rl : List ResultVar} {m : Nat} {r r0 : TV} {s : St} {rs rs1 : List TV} {E : Lent} {ids : List Nat} (hrs : resAs P s rl = some rs) (hl : rs.map (TV.lend E) = rs1) (hE : E.ok (hook s.heap)) (h1 : nodupB ids = true) (h2 : (ids.all fun o => (hook s.heap o).inn ids) = true) (h3 : rs1.all (TV.inn ids) = true) (h4 : prefB m ids = true)
    (hdis : ∀ p ∈ E, p.1 ∉ ids) (hr0 : packA (rs1.map (TV.ren (inv ids))) = some r0) (hle : TV.Le r0 r) : RetOK P rl m r (ids.map fun o => (hook s.heap o).ren (inv ids)) s := by
  have hlen : (ids.map fun o => (hook s.heap o).ren (inv ids)).length = ids.length := by simp
  refine ⟨rs, _, sub ids 0, E, r0, hrs, hr0, hle, hE, ?_, (prefB_ok h4).2, fun q hq => ?_, fun q hq q' hq' e => ?_⟩
  · rw [← hl, List.map_map]
    refine all2_map1 fun x hx => ?_
    have hx2 : (x.lend E).inn ids = true := by
      rw [← hl] at h3
      exact List.all_eq_true.1 h3 _ (List.mem_map.2 ⟨x, hx, rfl⟩)
    have := TV.ren_inv (fr := 0) hx2
    simp only [Function.comp, hlen]
    exact ⟨by rw [this.1]; exact .refl _, this.2⟩
  · obtain ⟨j, e1, e2⟩ := objHeap_mem hq
    rw [List.getElem?_map] at e2
    obtain ⟨o, ho, e3⟩ := Option.map_eq_some_iff.1 e2
    clear e2
    obtain ⟨q1, q2⟩ := q
    simp only [Nat.zero_add] at e1 e3
    subst e1; subst e3
    have hj : q1 < ids.length := (List.getElem?_eq_some_iff.1 ho).1
    have hsub : sub ids 0 q1 = o := by simp only [sub, hj, if_true, List.getD, ho, Option.getD_some]
    have hinn := List.all_eq_true.1 h2 o (List.mem_of_getElem? ho)
    have := AObj.ren_inv (fr := 0) hinn
    simp only [hlen, hsub, this.1, this.2, hj, true_and]
    refine ⟨by rw [lend_inn hdis hinn], fun p hp e => hdis p hp ?_⟩
    rw [e]; exact List.mem_of_getElem? ho
  · obtain ⟨j, e1, e2⟩ := objHeap_mem hq
    obtain ⟨j', e1', e2'⟩ := objHeap_mem hq'
    rw [List.getElem?_map] at e2 e2'
    obtain ⟨o, ho, e2⟩ := Option.map_eq_some_iff.1 e2
    obtain ⟨o', ho', e2'⟩ := Option.map_eq_some_iff.1 e2'
    rw [e1, e1'] at e ⊢
    have hj : j < ids.length := (List.getElem?_eq_some_iff.1 ho).1
    have hj' : j' < ids.length := (List.getElem?_eq_some_iff.1 ho').1
    simp only [Nat.zero_add] at e ⊢
    simp only [sub, hj, hj', if_true, List.getD, ho, ho', Option.getD_some] at e
    rw [e] at ho
    exact nodup_get (nodupB_iff h1) ho ho'

theorem retV_inv {P : Program} {own : Bool} {rl : List ResultVar} {m : Nat} {r : TV} {Hs' : List AObj} {s : St} (h : retV P own rl m (fun r0 Hs0 => TV.Le r0 r ∧ Hs0 = Hs') s) : RetOK P rl m r Hs' s := by
  unfold retV at h
  split at h
  · exact h.elim
  · rename_i rs hrs
    split at h
    · obtain ⟨hl, h⟩ := asksA_inv (L := rs.flatMap (lentT (hook s.heap))) lents_ok (fun p hp => hp) h
      generalize reachM _ _ _ = ids at h
      simp only at h
      split at h
      · rename_i hb
        simp only [Bool.and_eq_true] at hb
        obtain ⟨⟨⟨⟨h1, h2⟩, h3⟩, h4⟩, h5⟩ := hb
        have hdis : ∀ p ∈ rs.flatMap (lentT (hook s.heap)), p.1 ∉ ids := fun p hp => by
          have := List.all_eq_true.1 h5 p hp
          simpa using this
        split at h
        · rename_i r0 hr0
          obtain ⟨hle, rfl⟩ := h
          exact ret_core hrs hl lents_ok.ok h1 h2 h3 h4 hdis hr0 hle
        · exact h.elim
      · exact h.elim
    · generalize reachM _ _ _ = ids at h
      simp only at h
      split at h
      · rename_i hb
        simp only [Bool.and_eq_true] at hb
        obtain ⟨⟨⟨h1, h2⟩, h3⟩, h4⟩ := hb
        split at h
        · rename_i r0 hr0
          obtain ⟨hle, rfl⟩ := h
          exact ret_core (E := []) hrs (map_lend_nil rs) (fun p hp => by cases hp) h1 h2 h3 h4 (fun p hp => by cases hp) hr0 hle
        · exact h.elim
      · exact h.elim

/-! ### Code -/
section
variable (P : Program) (sh : FuncId → List Sh) (n m : Nat) (lv : List (Nat × List Nat)) (G : Nat → St → Prop)

def regV (ops : Array Oper) (d : Bool) (K : AExit → St → Prop) (s : St) : Prop :=
  match dstB ops n with
  | true => lexV P sh ops s.nx ops.toList 0 s.env s.heap [] fun e h tr => match !d || drawB ops tr with
    | true => K .normal ⟨e, h, s.nx + 32 * ops.size⟩
    | false => False
  | false => False

def thenV (K1 : St → Prop) (K : AExit → St → Prop) : AExit → St → Prop
  | .normal, s => K1 s
  | e, s => K e s
def condV (x : Operand) (s : St) (A B : St → Prop) : Prop :=
  match ev s.env x with
  | .c (.a (.fz (.bool b))) => match x with
    | .tmp t => br b (A ⟨(t, bV true) :: s.env, s.heap, s.nx⟩) (B ⟨(t, bV false) :: s.env, s.heap, s.nx⟩)
    | _ => br b (A s) (B s)
  | _ => False

def runV : Code → (AExit → St → Prop) → St → Prop
  | .skip, K, s => K .normal s
  | .ret, K, s => K .ret s
  | .exit i, K, s => K (.exit i) s
  | .seq a b, K, s => runV a (thenV (runV b K) K) s
  | .cond x a b, K, s => condV x s (runV a K) (runV b K)
  | .block i c, K, s => match isLoop c with
    | true => gotoV m lv G (2 * i + 1) s
    | false => runV c (inBlockQ i K) s
  | .region i ops d, K, s => match (find2 lv (2 * i)).isSome with
    | true => gotoV m lv G (2 * i) s
    | false => regV P sh n ops d K s
  | _, _, _ => False

def resuV : Code → Nat → (AExit → St → Prop) → St → Prop
  | .region i ops d, p, K, s => match p == 2 * i with
    | true => regV P sh n ops d K s
    | false => False
  | .seq a b, p, K, s => match (pts a).contains p with
    | true => resuV a p (thenV (runV P sh n m lv G b K) K) s
    | false => resuV b p K s
  | .cond _ a b, p, K, s => match (pts a).contains p with
    | true => resuV a p K s
    | false => resuV b p K s
  | .block i c, p, K, s => match p == 2 * i + 1 with
    | true => match c with
      | .loop b => runV P sh n m lv G b (thenV (gotoV m lv G (2 * i + 1)) (inBlockQ i K)) s
      | _ => False
    | false => match c with
      | .loop b => resuV b p (thenV (gotoV m lv G (2 * i + 1)) (inBlockQ i K)) s
      | c => resuV c p (inBlockQ i K) s
  | _, _, _, _ => False
end

section
variable {P : Program} {sh : FuncId → List Sh} {n m : Nat} {lv : List (Nat × List Nat)} {G : Nat → St → Prop}

theorem regV_inv (hP : P.follows .mixedOrders = true) {i : Nat} {ops : Array Oper} {d : Bool} {K Q : AExit → St → Prop} {s : St} (hk : ∀ e s, K e s → Q e s) (h : regV P sh n ops d K s) : Awp P n m (.region i ops d) Q s := by
  unfold regV at h
  split at h
  · rename_i hd
    refine Awp.uneq (Awp.region hP hd ?_)
    have h1 := lexV_inv rfl h
    have mono : ∀ {K1 K2 : Env → AHeap → Track → Prop}, (∀ e h tr, K1 e h tr → K2 e h tr) → ∀ {l : List Oper} {i : Nat} {e : Env} {h : AHeap} {tr : Track}, lex P ops s.nx l i e h tr K1 → lex P ops s.nx l i e h tr K2 := by
      intro K1 K2 hk l
      induction l with
      | nil => exact fun h => hk _ _ _ h
      | cons o rest ih =>
        intro i e h tr hl
        unfold lex guardK at hl ⊢
        split
        · rename_i hw; rw [hw] at hl; exact hl
        · rename_i w hw
          rw [hw] at hl
          simp only at hl
          split
          · rename_i hw1
            rw [if_pos hw1] at hl
            unfold stepK at hl ⊢
            cases hg : goCall o.op with
            | some c =>
              rw [hg] at hl
              simp only at hl ⊢
              cases hcl : calleeOf (ev e) c with
              | some fa => rw [hcl] at hl; simp only at hl ⊢; exact hl.imp fun r u rd hk => ih hk
              | none => rw [hcl] at hl; exact hl.elim
            | none =>
              rw [hg] at hl
              simp only at hl ⊢
              cases ha : aopF P o (s.nx + 32 * i) (ev e) (hook h) with
              | some r => rw [ha] at hl; simp only at hl ⊢; exact ih hl
              | none => rw [ha] at hl; exact hl.elim
          · rename_i hw1; rw [if_neg hw1] at hl; exact ih hl
    refine mono ?_ h1
    rintro e1 h1 tr1 ⟨e2, he, hk2⟩
    split at hk2
    · rename_i hb
      refine ⟨fun hd2 => ?_, e2, he, hk _ _ hk2⟩
      subst hd2; simpa using hb
    · exact hk2.elim
  · exact h.elim

/-- G stands for the points of c, behind which Q is wanted. -/
def GOK (P : Program) (n m : Nat) (G : Nat → St → Prop) (c : Code) (Q : AExit → St → Prop) : Prop := ∀ p s, p ∈ pts c → G p s → rz P n m c p Q s

theorem thenV_thenQ {K1 Q1 : St → Prop} {K Q : AExit → St → Prop} (h1 : ∀ s, K1 s → Q1 s) (h : ∀ e s, K e s → Q e s) : ∀ e s, thenV K1 K e s → thenQ Q1 Q e s := by
  intro e s hk
  cases e with
  | normal => exact h1 s hk
  | exit i => exact h _ s hk
  | ret => exact h _ s hk
theorem inBlock_mono {i : Nat} {K Q : AExit → St → Prop} (h : ∀ e s, K e s → Q e s) : ∀ e s, inBlockQ i K e s → inBlockQ i Q e s := by
  intro e s hk
  cases e with
  | normal => exact h _ s hk
  | exit j =>
    simp only [inBlockQ] at hk ⊢
    split
    · rename_i hj; rw [if_pos hj] at hk; exact h _ s hk
    · rename_i hj; rw [if_neg hj] at hk; exact h _ s hk
  | ret => exact h _ s hk
theorem GOK.left {a b : Code} {Q : AExit → St → Prop} (h : GOK P n m G (.seq a b) Q) : GOK P n m G a (thenQ (Awp P n m b Q) Q) := fun p s hp hg => by
  have := h p s (List.mem_append.2 (.inl hp)) hg
  unfold rz at this
  rwa [if_pos (by simpa using hp)] at this
theorem GOK.right {a b : Code} {Q : AExit → St → Prop} (hn : (pts (.seq a b)).Nodup) (h : GOK P n m G (.seq a b) Q) : GOK P n m G b Q := fun p s hp hg => by
  have := h p s (List.mem_append.2 (.inr hp)) hg
  unfold rz at this
  rwa [if_neg (by have := (List.nodup_append.1 hn).2.2; simp only [List.contains_eq_mem, decide_eq_true_eq]; exact fun h1 => this p h1 p hp rfl)] at this
theorem GOK.condL {x : Operand} {a b : Code} {Q : AExit → St → Prop} (h : GOK P n m G (.cond x a b) Q) : GOK P n m G a Q := fun p s hp hg => by
  have := h p s (List.mem_append.2 (.inl hp)) hg
  unfold rz at this
  rwa [if_pos (by simpa using hp)] at this
theorem GOK.condR {x : Operand} {a b : Code} {Q : AExit → St → Prop} (hn : (pts (.cond x a b)).Nodup) (h : GOK P n m G (.cond x a b) Q) : GOK P n m G b Q := fun p s hp hg => by
  have := h p s (List.mem_append.2 (.inr hp)) hg
  unfold rz at this
  rwa [if_neg (by have := (List.nodup_append.1 hn).2.2; simp only [List.contains_eq_mem, decide_eq_true_eq]; exact fun h1 => this p h1 p hp rfl)] at this
theorem GOK.block {i : Nat} {c : Code} {Q : AExit → St → Prop} (hn : (pts (.block i c)).Nodup) (h : GOK P n m G (.block i c) Q) : GOK P n m G c (inBlockQ i Q) := fun p s hp hg => by
  have := h p s (List.mem_cons_of_mem _ hp) hg
  unfold rz at this
  rwa [if_neg (fun e => by subst e; exact (List.nodup_cons.1 hn).1 hp)] at this
theorem GOK.loop {c : Code} {Q : AExit → St → Prop} (h : GOK P n m G (.loop c) Q) : GOK P n m G c (thenQ (Alwp P n m c Q) Q) := fun p s hp hg => by
  have := h p s hp hg
  unfold rz at this
  exact this
theorem GOK.head {i : Nat} {c : Code} {Q : AExit → St → Prop} (h : GOK P n m G (.block i (.loop c)) Q) {s : St} (hg : gotoV m lv G (2 * i + 1) s) : Alwp P n m c (inBlockQ i Q) s := by
  obtain ⟨s', hs, hg⟩ := gotoV_inv hg
  have := h _ _ List.mem_cons_self hg
  unfold rz at this
  rw [if_pos rfl] at this
  exact this.2.weak hs

theorem runV_inv (hP : P.follows .mixedOrders = true) : ∀ {c : Code} {K Q : AExit → St → Prop} {s : St}, (pts c).Nodup → GOK P n m G c Q → (∀ e s, K e s → Q e s) → runV P sh n m lv G c K s → Awp P n m c Q s
  | .skip, K, Q, s, _, _, hk, h => Awp.skip (hk _ _ h)
  | .ret, K, Q, s, _, _, hk, h => Awp.ret (hk _ _ h)
  | .exit i, K, Q, s, _, _, hk, h => Awp.exit (hk _ _ h)
  | .seq a b, K, Q, s, hn, hG, hk, h => by
    have hn' := List.nodup_append.1 hn
    exact Awp.seq (runV_inv hP hn'.1 hG.left (thenV_thenQ (fun s hs => runV_inv hP hn'.2.1 (hG.right hn) hk hs) hk) h)
  | .cond x a b, K, Q, s, hn, hG, hk, h => by
    have hn' := List.nodup_append.1 hn
    unfold runV condV at h
    split at h
    · rename_i t ht
      split at h
      · rename_i tt
        have hsame : ∀ y, t = y → look ((tt, bV y) :: s.env) = look s.env := fun y hy => look_same (by simp only [ev] at ht; rw [ht, hy]; rfl)
        cases t with
        | true => exact Awp.cond ht (fun _ => Awp.look (hsame _ rfl) (runV_inv hP hn'.1 hG.condL hk h)) (fun e => by cases e)
        | false => exact Awp.cond ht (fun e => by cases e) (fun _ => Awp.look (hsame _ rfl) (runV_inv hP hn'.2.1 (hG.condR hn) hk h))
      · cases t with
        | true => exact Awp.cond ht (fun _ => runV_inv hP hn'.1 hG.condL hk h) (fun e => by cases e)
        | false => exact Awp.cond ht (fun e => by cases e) (fun _ => runV_inv hP hn'.2.1 (hG.condR hn) hk h)
    · exact h.elim
  | .block i c, K, Q, s, hn, hG, hk, h => by
    unfold runV at h
    split at h
    · rename_i hl
      cases c with
      | loop b => exact Awp.block (Alwp.loop (hG.head h))
      | _ => cases hl
    · exact Awp.block (runV_inv hP (List.nodup_cons.1 hn).2 (hG.block hn) (inBlock_mono hk) h)
  | .region i ops d, K, Q, s, hn, hG, hk, h => by
    unfold runV at h
    split at h
    · obtain ⟨s', hs, hg⟩ := gotoV_inv h
      have := hG _ _ List.mem_cons_self hg
      exact this.2.weak hs
    · exact regV_inv hP hk h
  | .loop _, _, _, _, _, _, _, h => h.elim
  | .rangeFunc .., _, _, _, _, _, _, h => h.elim
  | .scope _, _, _, _, _, _, _, h => h.elim
  | .label _, _, _, _, _, _, _, h => h.elim
  | .goto _, _, _, _, _, _, _, h => h.elim
  | .refuse _, _, _, _, _, _, _, h => h.elim

theorem resuV_inv (hP : P.follows .mixedOrders = true) : ∀ {c : Code} {p : Nat} {K Q : AExit → St → Prop} {s : St}, (pts c).Nodup → GOK P n m G c Q → (∀ e s, K e s → Q e s) → resuV P sh n m lv G c p K s → rz P n m c p Q s
  | .region i ops d, p, K, Q, s, _, _, hk, h => by
    unfold resuV at h
    split at h
    · rename_i hp; exact ⟨by simpa using hp, regV_inv hP hk h⟩
    · exact h.elim
  | .seq a b, p, K, Q, s, hn, hG, hk, h => by
    have hn' := List.nodup_append.1 hn
    unfold resuV at h
    unfold rz
    split at h
    · rename_i hp; rw [if_pos hp]; exact resuV_inv hP hn'.1 hG.left (thenV_thenQ (fun s hs => runV_inv hP hn'.2.1 (hG.right hn) hk hs) hk) h
    · rename_i hp; rw [if_neg (by simp only [hp]; decide)]; exact resuV_inv hP hn'.2.1 (hG.right hn) hk h
  | .cond x a b, p, K, Q, s, hn, hG, hk, h => by
    have hn' := List.nodup_append.1 hn
    unfold resuV at h
    unfold rz
    split at h
    · rename_i hp; rw [if_pos hp]; exact resuV_inv hP hn'.1 hG.condL hk h
    · rename_i hp; rw [if_neg (by simp only [hp]; decide)]; exact resuV_inv hP hn'.2.1 (hG.condR hn) hk h
  | .block i c, p, K, Q, s, hn, hG, hk, h => by
    unfold resuV at h
    unfold rz
    split at h
    · rename_i hp
      rw [if_pos (by simpa using hp)]
      split at h
      · rename_i b
        have hn2 : (pts b).Nodup := (List.nodup_cons.1 hn).2
        exact ⟨rfl, Alwp.unroll (runV_inv hP hn2 (GOK.loop (hG.block hn)) (thenV_thenQ (fun s hs => hG.head hs) (inBlock_mono hk)) h)⟩
      · exact h.elim
    · rename_i hp
      rw [if_neg (by simpa using hp)]
      split at h
      · rename_i b
        have hn2 : (pts b).Nodup := (List.nodup_cons.1 hn).2
        unfold rz
        exact resuV_inv hP hn2 (GOK.loop (hG.block hn)) (thenV_thenQ (fun s hs => hG.head hs) (inBlock_mono hk)) h
      · exact resuV_inv hP (List.nodup_cons.1 hn).2 (hG.block hn) (inBlock_mono hk) h
  | .skip, _, _, _, _, _, _, _, h => h.elim
  | .ret, _, _, _, _, _, _, _, h => h.elim
  | .exit _, _, _, _, _, _, _, _, h => h.elim
  | .loop _, _, _, _, _, _, _, _, h => h.elim
  | .rangeFunc .., _, _, _, _, _, _, _, h => h.elim
  | .scope _, _, _, _, _, _, _, _, h => h.elim
  | .label _, _, _, _, _, _, _, _, h => h.elim
  | .goto _, _, _, _, _, _, _, _, h => h.elim
  | .refuse _, _, _, _, _, _, _, _, h => h.elim
end

/-! ### Functions -/
def endV (P : Program) (own : Bool) (rl : List ResultVar) (m : Nat) (R : TV → List AObj → Prop) : AExit → St → Prop
  | .exit _, _ => False
  | _, s => retV P own rl m R s

/-- From the entry. -/
def vcE (P : Program) (sh : FuncId → List Sh) (lv : List (Nat × List Nat)) (f : FuncId) (args : List TV) (Hs : List AObj) (R : TV → List AObj → Prop) (G : Nat → St → Prop) : Prop :=
  match P.funcs[f]? with
  | some fn => match fn.body with
    | some c => match enterable P f && Nat.ble args.length fn.ntmps && nodupB (pts c) with
      | true => runV P sh fn.ntmps Hs.length lv G c (endV P (!(sh f).isEmpty) fn.results.toList Hs.length R) ⟨argEnv 0 args, objHeap 0 Hs, Hs.length⟩
      | false => False
    | none => False
  | none => False
/-- From a point. -/
def vcP (P : Program) (sh : FuncId → List Sh) (lv : List (Nat × List Nat)) (f : FuncId) (m : Nat) (R : TV → List AObj → Prop) (G : Nat → St → Prop) (p : Nat) (s : St) : Prop :=
  match P.funcs[f]? with
  | some fn => match fn.body with
    | some c => match nodupB (pts c) with
      | true => resuV P sh fn.ntmps m lv G c p (endV P (!(sh f).isEmpty) fn.results.toList m R) s
      | false => False
    | none => False
  | none => False

section
variable {P : Program} {sh : FuncId → List Sh} {lv : List (Nat × List Nat)} {f : FuncId}

theorem endV_inv {own : Bool} {rl : List ResultVar} {m : Nat} {r : TV} {Hs' : List AObj} : ∀ e s, endV P own rl m (fun r0 Hs0 => TV.Le r0 r ∧ Hs0 = Hs') e s → Ret P rl m r Hs' e s := by
  intro e s h
  cases e with
  | normal => exact retV_inv h
  | exit i => exact h
  | ret => exact retV_inv h

theorem gok_RPt {fn : Func} {c : Code} {m : Nat} {r : TV} {Hs' : List AObj} (hf : P.funcs[f]? = some fn) (hb : fn.body = some c) : GOK P fn.ntmps m (RPt P f m r Hs') c (Ret P fn.results.toList m r Hs') := by
  rintro p s _ ⟨fn', c', h1, h2, h3⟩
  rw [hf] at h1; injection h1 with h1; subst h1
  rw [hb] at h2; injection h2 with h2; subst h2
  exact h3

/-- A CONTRACT, from what the code asks. -/
theorem AC.vc (hP : P.follows .mixedOrders = true) (sh : FuncId → List Sh) (lv : List (Nat × List Nat)) {args : List TV} {Hs Hs' : List AObj} {r : TV} (hlen : Hs.length ≤ Hs'.length) (hlive : ∀ x ∈ Hs, isLive x) (hlive' : ∀ x ∈ Hs'.drop Hs.length, isLive x)
    (h : vcE P sh lv f args Hs (fun r0 Hs0 => TV.Le r0 r ∧ Hs0 = Hs') (RPt P f Hs.length r Hs')) : AC P f args Hs r Hs' := by
  unfold vcE at h
  split at h
  · rename_i fn hf
    split at h
    · rename_i c hc
      split at h
      · rename_i hb
        simp only [Bool.and_eq_true] at hb
        exact AC.intro hf hc rfl rfl hb.1.1 (Nat.le_of_ble_eq_true hb.1.2) hlen hlive hlive' (runV_inv hP (nodupB_iff hb.2) (gok_RPt hf hc) endV_inv h)
      · exact h.elim
    · exact h.elim
  · exact h.elim
/-- From a point on. -/
theorem RPt.vc (hP : P.follows .mixedOrders = true) (sh : FuncId → List Sh) (lv : List (Nat × List Nat)) {m : Nat} {Hs' : List AObj} {r : TV} {p : Nat} {s : St}
    (h : vcP P sh lv f m (fun r0 Hs0 => TV.Le r0 r ∧ Hs0 = Hs') (RPt P f m r Hs') p s) : RPt P f m r Hs' p s := by
  unfold vcP at h
  split at h
  · rename_i fn hf
    split at h
    · rename_i c hc
      split at h
      · rename_i hb
        exact ⟨fn, c, hf, hc, resuV_inv hP (nodupB_iff hb) (gok_RPt hf hc) endV_inv h⟩
      · exact h.elim
    · exact h.elim
  · exact h.elim
end
end Go.AM
