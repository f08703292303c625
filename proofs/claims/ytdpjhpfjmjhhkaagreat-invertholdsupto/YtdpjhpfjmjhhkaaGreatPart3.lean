/- A calculus of plain values for the model's code, what the code of each function asks (computed by the kernel), contracts of the functions, and plain laws (part 3). No conditions. -/
import Derived.Test.YtdpjhpfjmjhhkaaGreatPart2
import Derived.IntWalk
import Derived.RangeFuncIn
import Derived.Test.YtdpjhpfjmjhhkaaGreatProg
namespace Go.AM
def Code.lwp (P : Program) (c : Code) (Q : Exit → Act → World → Prop) (a : Act) (w : World) : Prop :=
 ∀ (b : Frame) (k : List Item) (cs : List Frame),
  ∃ e a' w', Q e a' w' ∧ Arrives P (lone (b.at a (.code c :: .inLoop c :: k)) cs w) b k cs e a' w'
theorem lwp_wp {P : Program} {c : Code} {Q : Exit → Act → World → Prop} {a : Act} {w : World} (h : Code.lwp P c Q a w) : (Code.loop c).wp P Q a w := fun b k cs => by
 obtain ⟨e, a', w', hq, harr⟩ := h b k cs
 exact ⟨e, a', w', hq, .of_steps (.one step_loop) harr⟩
theorem zp2 {P : Program} {c : Code} {Q : Exit → Act → World → Prop} {a : Act} {w : World} (h : c.wp P (Exit.then (Code.lwp P c Q) Q) a w) : Code.lwp P c Q a w := fun b k cs => by
 obtain ⟨e, a₁, w₁, hq, harr⟩ := h b (.inLoop c :: k) cs
 cases e with
 | normal =>
  obtain ⟨e₂, a₂, w₂, hq₂, harr₂⟩ := hq b k cs
  exact ⟨e₂, a₂, w₂, hq₂, .of_steps (Steps.trans harr (.one step_inLoop)) harr₂⟩
 | exit id => exact ⟨_, a₁, w₁, hq, .pass (x := .inLoop c) rfl (fun _ _ => .inl (by simp)) harr⟩
 | goto l => exact ⟨_, a₁, w₁, hq, .pass (x := .inLoop c) rfl (fun _ _ => .inl (by simp)) harr⟩
 | ret => exact ⟨_, a₁, w₁, hq, .pass (x := .inLoop c) rfl (fun _ _ => .inl (by simp)) harr⟩
 | panic ch => exact ⟨_, a₁, w₁, hq, .pass (x := .inLoop c) rfl (fun _ _ => .inl (by simp)) harr⟩
 | outgrown => exact ⟨_, a₁, w₁, hq, .pass (x := .inLoop c) rfl (fun _ _ => .inl (by simp)) harr⟩
section
variable {P : Program} {n m : Nat} {c : Code} {Q : AExit → St → Prop} {s : St}
def Alwp (P : Program) (n m : Nat) (c : Code) (Q : AExit → St → Prop) (s : St) : Prop :=
 ∀ (w0 : World) (foot Y : Nat → Prop) (pin : Nat → Option (Option Nat)) (β : Nat → Option Nat) (a : Act) (w : World), (∀ o b, pin o = some b → o < m) → a.tmps.size = n → RelF P w0 foot Y pin (look s.env) (hook s.heap) β a w → (∀ k, Occ pin β k → k < s.nx) →
  Code.lwp P c (Lift P w0 foot Y pin n Q) a w
theorem Alwp.loop (h : Alwp P n m c Q s) : Awp P n m (.loop c) Q s := fun w0 foot Y pin β a w hm hn hR hb => lwp_wp (h w0 foot Y pin β a w hm hn hR hb)
theorem Alwp.unroll (h : Awp P n m c (zlf (Alwp P n m c Q) Q) s) : Alwp P n m c Q s := fun w0 foot Y pin β a w hm hn hR hb => by
 refine zp2 (wp_mono (h w0 foot Y pin β a w hm hn hR hb) fun e a' w' hq => ?_)
 cases e with
 | normal => obtain ⟨s', β', h1, h2, h3, h4⟩ := hq; exact h1 w0 foot Y pin β' a' w' hm h2 h3 h4
 | exit i => exact hq
 | ret => exact hq
 | _ => exact hq.elim
theorem Alwp.weak {s' : St} (hs : Sle m s s') (h : Alwp P n m c Q s') : Alwp P n m c Q s := fun w0 foot Y pin _ a w hm hn hR _ =>
 let ⟨β', h1, h2⟩ := zml hs hm hR
 h w0 foot Y pin β' a w hm hn h1 h2
theorem Awp.look {e1 e2 : Env} {h : AHeap} {nx : Nat} (he : look e1 = look e2) (hA : Awp P n m c Q ⟨e1, h, nx⟩) : Awp P n m c Q ⟨e2, h, nx⟩ := fun w0 foot Y pin β a w hm hn hR hb =>
 hA w0 foot Y pin β a w hm hn (by show RelF _ _ _ _ _ (Go.AM.look e1) _ _ _ _; rw [he]; exact hR) hb
def eqQ (Q : AExit → St → Prop) (e : AExit) (s : St) : Prop := ∃ e2, Go.AM.look e2 = Go.AM.look s.env ∧ Q e ⟨e2, s.heap, s.nx⟩
theorem Awp.uneq (h : Awp P n m c (eqQ Q) s) : Awp P n m c Q s := fun w0 foot Y pin β a w hm hn hR hb => by
 refine wp_mono (h w0 foot Y pin β a w hm hn hR hb) fun e a' w' hq => ?_
 have key : ∀ x, At P w0 foot Y pin n (eqQ Q x) a' w' → At P w0 foot Y pin n (Q x) a' w' := by
  rintro x ⟨s', β', ⟨e2, h1, h2⟩, h3, h4, h5⟩
  exact ⟨_, β', h2, h3, by show RelF _ _ _ _ _ (Go.AM.look e2) _ _ _ _; rw [h1]; exact h4, h5⟩
 cases e with
 | normal => exact key _ hq
 | exit i => exact key _ hq
 | ret => exact key _ hq
 | _ => exact hq.elim
end
def pts : Code → List Nat
 | .region i _ _ => [2 * i]
 | .seq a b => pts a ++ pts b
 | .cond _ a b => pts a ++ pts b
 | .block i c => (2 * i + 1) :: pts c
 | .loop c => pts c
 | _ => []
def isLoop : Code → Bool | .loop _ => true | .rangeFunc .. => true | _ => false
def headA (P : Program) (n m : Nat) : Code → (AExit → St → Prop) → St → Prop
 | .loop c, Q, s => Alwp P n m c Q s
 | .rangeFunc g ps a b, Q, s => Awp P n m (.rangeFunc g ps a b) Q s
 | _, _, _ => False
theorem headA.weak {P : Program} {n m : Nat} {c : Code} {Q : AExit → St → Prop} {s s' : St} (hs : Sle m s s') (h : headA P n m c Q s') : headA P n m c Q s := by
 cases c with
 | loop c => exact Alwp.weak hs h
 | rangeFunc g ps a b => exact Awp.weak hs h
 | _ => exact h.elim
theorem headA.awp {P : Program} {n m : Nat} {c : Code} {Q : AExit → St → Prop} {s : St} (h : headA P n m c Q s) : Awp P n m c Q s := by
 cases c with
 | loop c => exact Alwp.loop h
 | rangeFunc g ps a b => exact h
 | _ => exact h.elim
def rz (P : Program) (n m : Nat) : Code → Nat → (AExit → St → Prop) → St → Prop
 | .region i ops d, p, Q, s => p = 2 * i ∧ Awp P n m (.region i ops d) Q s
 | .seq a b, p, Q, s => if (pts a).contains p then rz P n m a p (zlf (Awp P n m b Q) Q) s else rz P n m b p Q s
 | .cond _ a b, p, Q, s => if (pts a).contains p then rz P n m a p Q s else rz P n m b p Q s
 | .block i c, p, Q, s => if p = 2 * i + 1 then headA P n m c (z1t i Q) s else rz P n m c p (z1t i Q) s
 | .loop c, p, Q, s => rz P n m c p (zlf (Alwp P n m c Q) Q) s
 | _, _, _, _ => False
def RPt (P : Program) (f : FuncId) (m : Nat) (r : TV) (Hs' : List AObj) (p : Nat) (s : St) : Prop :=
 ∃ (fn : Func) (c : Code), P.funcs[f]? = some fn ∧ fn.body = some c ∧ rz P fn.ntmps m c p (Ret P fn.results.toList m r Hs') s
def invU (m : Nat) (rest : List Nat) (o : Nat) : Nat := match rest.contains o with | true => m + rest.idxOf o | false => o
def outU (m : Nat) (rest : List Nat) (o : Nat) : Nat := sub (List.range m ++ rest) 0 o
def okU (m : Nat) (U rest : List Nat) : Bool := zan rest && rest.all fun o => Nat.ble m o || U.contains o
def z8d (m : Nat) (U rest : List Nat) (h : Nat → AObj) : List AObj := ((List.range m).map fun o => match U.contains o with | true => AObj.gone | false => (h o).ren (invU m rest)) ++ rest.map fun o => (h o).ren (invU m rest)
def lvU (lv : List (Nat × List Nat)) : List Nat := match z0m lv 1000001 with | some l => l | none => []
theorem z6q {m : Nat} {U rest : List Nat} {h : Nat → AObj} : (z8d m U rest h).length = m + rest.length := by simp [z8d]
theorem zfj {m : Nat} {rest : List Nat} {o : Nat} (h : o < m) : outU m rest o = o := by
 simp only [outU, sub, List.length_append, List.length_range, show o < m + rest.length by omega, if_true, List.getD]
 rw [List.getElem?_append_left (by simpa using h), List.getElem?_range h]; rfl
theorem zun {m : Nat} {rest : List Nat} {j o : Nat} (h : rest[j]? = some o) : outU m rest (m + j) = o := by
 have hj := (List.getElem?_eq_some_iff.1 h).1
 simp only [outU, sub, List.length_append, List.length_range, show m + j < m + rest.length by omega, if_true, List.getD]
 rw [List.getElem?_append_right (by simp), List.length_range, Nat.add_sub_cancel_left, h]; rfl
theorem backU {m : Nat} {U rest : List Nat} : Back (keep m U ++ rest) (invU m rest) (outU m rest) (m + rest.length) := by
 intro o ho
 unfold invU
 split
 · rename_i hc
   simp only [List.contains_eq_mem, decide_eq_true_eq] at hc
   have h1 : rest.idxOf o < rest.length := List.idxOf_lt_length_iff.2 hc
   refine ⟨by omega, zun ?_⟩
   rw [List.getElem?_eq_getElem h1, List.getElem_idxOf h1]
 · rename_i hc
   have hk : o ∈ keep m U := by
    simp only [List.contains_eq_mem, decide_eq_true_eq, List.mem_append] at ho
    exact ho.resolve_right fun h => by simp [h] at hc
   have hm : o < m := by
    have := (List.mem_filter.1 hk).1
    simpa using this
   exact ⟨by omega, zfj hm⟩
theorem zog {m : Nat} {U : List Nat} {o : Nat} : o ∈ keep m U ↔ o < m ∧ U.contains o = false := by simp [keep]
theorem z69 {m : Nat} {U rest : List Nat} {h : Nat → AObj} {j : Nat} {x : AObj} (hx : (z8d m U rest h)[j]? = some x) (hl : isLive x) :
  j < m + rest.length ∧ x = (h (outU m rest j)).ren (invU m rest) ∧ ((j ∈ keep m U ∧ outU m rest j = j) ∨ (m ≤ j ∧ rest[j - m]? = some (outU m rest j))) := by
 have hlt := (List.getElem?_eq_some_iff.1 hx).1
 rw [z6q] at hlt
 refine ⟨hlt, ?_⟩
 by_cases hj : j < m
 · unfold z8d at hx
   rw [List.getElem?_append_left (by simpa using hj), List.getElem?_map, List.getElem?_range hj] at hx
   simp only [Option.map_some, Option.some.injEq] at hx
   rw [zfj hj]
   split at hx
   · subst hx; exact hl.elim
   · rename_i hu
     exact ⟨hx.symm, .inl ⟨zog.2 ⟨hj, by simpa using hu⟩, rfl⟩⟩
 · unfold z8d at hx
   rw [List.getElem?_append_right (by simp; omega), List.length_map, List.length_range, List.getElem?_map] at hx
   obtain ⟨o, ho, rfl⟩ := Option.map_eq_some_iff.1 hx
   have := zun (m := m) ho
   rw [show m + (j - m) = j by omega] at this
   rw [this]
   exact ⟨rfl, .inr ⟨by omega, ho⟩⟩
theorem zk3 {m : Nat} {U rest : List Nat} {h : Nat → AObj} (hok : okU m U rest = true) {j j' : Nat} {x x' : AObj} (hx : (z8d m U rest h)[j]? = some x) (hl : isLive x) (hx' : (z8d m U rest h)[j']? = some x') (hl' : isLive x')
  (e : outU m rest j = outU m rest j') : j = j' := by
 simp only [okU, Bool.and_eq_true, List.all_eq_true, Bool.or_eq_true] at hok
 have apart : ∀ o, o ∈ keep m U → o ∈ rest → False := fun o h1 h2 => by
  have h1 := zog.1 h1
  rcases hok.2 o h2 with h3 | h3
  · have := Nat.le_of_ble_eq_true h3; omega
  · rw [h1.2] at h3; cases h3
 obtain ⟨_, _, g⟩ := z69 hx hl
 obtain ⟨_, _, g'⟩ := z69 hx' hl'
 rcases g with ⟨g1, g2⟩ | ⟨g1, g2⟩ <;> rcases g' with ⟨g1', g2'⟩ | ⟨g1', g2'⟩
 · rw [← g2, e, g2']
 · exact (apart _ g1 (by rw [← g2, e]; exact List.mem_of_getElem? g2')).elim
 · exact (apart _ g1' (by rw [← g2', ← e]; exact List.mem_of_getElem? g2)).elim
 · rw [e] at g2
   have := z8s (z38 hok.1) g2 g2'
   omega
theorem zju {m : Nat} {U rest : List Nat} {h : Nat → AObj} {j : Nat} {x : AObj} (hx : (z8d m U rest h)[j]? = some x) (hl : isLive x) : outU m rest j ∈ keep m U ++ rest := by
 rcases (z69 hx hl).2.2 with ⟨g1, g2⟩ | ⟨_, g2⟩
 · rw [g2]; exact List.mem_append_left _ g1
 · exact List.mem_append_right _ (List.mem_of_getElem? g2)
def zgt (m : Nat) (lv : List (Nat × List Nat)) (G : Nat → St → Prop) (p : Nat) (s : St) : Prop :=
 match z0m lv p with
 | none => False
 | some live => match z8p m (lvU lv) (hook s.heap) (live.flatMap fun t => (look s.env t).ids) with
  | rest => match okU m (lvU lv) rest && (keep m (lvU lv) ++ rest).all (fun o => (hook s.heap o).inn (keep m (lvU lv) ++ rest)) && live.all (fun t => (look s.env t).inn (keep m (lvU lv) ++ rest)) with
   | true => G p ⟨live.map fun t => (t, (look s.env t).ren (invU m rest)), z1d 0 (z8d m (lvU lv) rest (hook s.heap)), m + rest.length⟩
   | false => False
theorem z2q : ∀ {l : List AObj} {k : Nat} {p : Nat × AObj}, p ∈ z1d k l → ∃ j, p.1 = k + j ∧ l[j]? = some p.2
 | [], _, _, hp => by cases hp
 | o :: l, k, p, hp => by
  rcases List.mem_cons.1 hp with rfl | hp
  · exact ⟨0, rfl, rfl⟩
  · obtain ⟨j, h1, h2⟩ := z2q hp
    exact ⟨j + 1, by omega, by simpa using h2⟩
theorem ze1 (x : TV) : x.lend [] = x := by
 have := z0y [x]
 simpa using this
theorem zpx (x : AObj) : x.lend [] = x := by
 have hw : ∀ y : WV, y.lend [] = y := fun y => by
  have := ze1 (.c y); simp only [TV.lend, TV.c.injEq] at this; exact this
 cases x with
 | arr n es => simp only [AObj.lend, show WV.lend [] = id from funext hw, List.map_id, List.map_id']
 | _ => rfl
theorem zde {m : Nat} {lv : List (Nat × List Nat)} {G : Nat → St → Prop} {p : Nat} {s : St} (hg : zgt m lv G p s) : ∃ s', Sle m s s' ∧ G p s' := by
 unfold zgt at hg
 split at hg
 · exact hg.elim
 · rename_i live hlv
   generalize z8p _ _ _ _ = rest at hg
   generalize lvU lv = U at hg
   simp only at hg
   split at hg
   · rename_i hb
     simp only [Bool.and_eq_true] at hb
     obtain ⟨⟨h1, h2⟩, h3⟩ := hb
     refine ⟨_, ⟨outU m rest, [], (fun p hp => by cases hp), Nat.le_add_right _ _, fun o ho => zfj ho, fun q hq => ?_, fun q hq hl => ?_, fun q hq q' hq' hl hl' e => ?_⟩, hg⟩
     · obtain ⟨t, ht, rfl⟩ := List.mem_map.1 hq
       have := TV.renV (backU (m := m) (U := U) (rest := rest)) (List.all_eq_true.1 h3 t ht)
       rw [ze1]
       exact ⟨by rw [this.1]; exact .refl _, this.2⟩
     · obtain ⟨j, e1, e2⟩ := z2q hq
       obtain ⟨g1, g2, _⟩ := z69 e2 hl
       have := AObj.renV (backU (m := m) (U := U) (rest := rest)) (List.all_eq_true.1 h2 _ (zju e2 hl))
       rw [Nat.zero_add] at e1
       rw [e1, g2]
       exact ⟨g1, by rw [zpx, this.1], this.2, (fun q hq => by cases hq)⟩
     · obtain ⟨j, e1, e2⟩ := z2q hq
       obtain ⟨j', e1', e2'⟩ := z2q hq'
       rw [Nat.zero_add] at e1 e1'
       rw [e1, e1'] at e ⊢
       exact zk3 h1 e2 hl e2' hl' e
   · exact hg.elim
def retV (P : Program) (own : Bool) (rl : List ResultVar) (m : Nat) (U : List Nat) (R : TV → List AObj → Prop) (s : St) : Prop :=
 match ziv P s rl with
 | none => False
 | some rs => match own with
  | false => asksA (hook s.heap) rs (match z8p m U (hook s.heap) ((rs.map fun x => (givT (hook s.heap) x).1).flatMap TV.ids) with
   | rest => match okU m U rest && (keep m U ++ rest).all (fun o => (hook s.heap o).inn (keep m U ++ rest)) && (rs.map fun x => (givT (hook s.heap) x).1).all (TV.inn (keep m U ++ rest)) && (rs.flatMap (zax (hook s.heap))).all (fun p => !(keep m U ++ rest).contains p.1) with
    | true => match zl0 ((rs.map fun x => (givT (hook s.heap) x).1).map (TV.ren (invU m rest))) with
     | some r0 => R r0 (z8d m U rest (hook s.heap))
     | none => False
    | false => False)
  | true => match z8p m U (hook s.heap) (rs.flatMap TV.ids) with
   | rest => match okU m U rest && (keep m U ++ rest).all (fun o => (hook s.heap o).inn (keep m U ++ rest)) && rs.all (TV.inn (keep m U ++ rest)) with
    | true => match zl0 (rs.map (TV.ren (invU m rest))) with
     | some r0 => R r0 (z8d m U rest (hook s.heap))
     | none => False
    | false => False
theorem lend_inn {ids : List Nat} {E : Lent} (hd : ∀ p ∈ E, p.1 ∉ ids) {x : AObj} (hx : x.inn ids = true) : x.lend E = x := by
 have hw : ∀ y : WV, y.inn ids = true → y.lend E = y := fun y hy => by
  cases y with
  | fn f a b => rfl
  | a y => cases y with
   | osl o n off len =>
    simp only [WV.inn, AV.inn, List.contains_eq_mem, decide_eq_true_eq] at hy
    simp only [WV.lend, AV.lend]
    rw [z9s]
    intro p hp e
    exact hd p hp (e ▸ hy)
   | _ => rfl
 cases x with
 | arr n es =>
  simp only [AObj.inn, List.all_eq_true] at hx
  simp only [AObj.lend]
  congr 1
  conv => rhs; rw [← List.map_id es]
  refine List.map_congr_left fun e he => ?_
  conv => rhs; rw [id, ← List.map_id e]
  exact List.map_congr_left fun y hy => hw y (hx e he y hy)
 | _ => rfl
theorem zj4 {α β : Type} {R : α → β → Prop} {g : α → β} : ∀ {l : List α}, (∀ x ∈ l, R x (g x)) → All2 R l (l.map g)
 | [], _ => trivial
 | x :: _, h => ⟨h x List.mem_cons_self, zj4 fun y hy => h y (List.mem_cons_of_mem _ hy)⟩
theorem zfw {P : Program} {rl : List ResultVar} {m : Nat} {U : List Nat} {r r0 : TV} {s : St} {rs rs1 : List TV} {E : Lent} {rest : List Nat} (hrs : ziv P s rl = some rs) (hl : rs.map (TV.lend E) = rs1) (hE : E.ok (hook s.heap)) (h1 : okU m U rest = true)
  (h2 : ((keep m U ++ rest).all fun o => (hook s.heap o).inn (keep m U ++ rest)) = true) (h3 : rs1.all (TV.inn (keep m U ++ rest)) = true)
  (hdis : ∀ p ∈ E, p.1 ∉ keep m U ++ rest) (hr0 : zl0 (rs1.map (TV.ren (invU m rest))) = some r0) (hle : TV.Le r0 r) : zul P rl m r (z8d m U rest (hook s.heap)) s := by
 refine ⟨rs, _, outU m rest, E, r0, hrs, hr0, hle, hE, ?_, fun o ho => zfj ho, fun q hq hl => ?_, fun q hq q' hq' hl hl' e => ?_⟩
 · rw [← hl, List.map_map]
   refine zj4 fun x hx => ?_
   have hx2 : (x.lend E).inn (keep m U ++ rest) = true := by
    rw [← hl] at h3
    exact List.all_eq_true.1 h3 _ (List.mem_map.2 ⟨x, hx, rfl⟩)
   have := TV.renV (backU (m := m) (U := U) (rest := rest)) hx2
   simp only [Function.comp, z6q]
   exact ⟨by rw [this.1]; exact .refl _, this.2⟩
 · obtain ⟨j, e1, e2⟩ := z2q hq
   obtain ⟨g1, g2, _⟩ := z69 e2 hl
   have hmem := zju e2 hl
   have hinn := List.all_eq_true.1 h2 _ hmem
   have := AObj.renV (backU (m := m) (U := U) (rest := rest)) hinn
   rw [Nat.zero_add] at e1
   rw [e1, g2, z6q]
   exact ⟨g1, by rw [lend_inn hdis hinn, this.1], this.2, fun p hp e => hdis p hp (e ▸ hmem)⟩
 · obtain ⟨j, e1, e2⟩ := z2q hq
   obtain ⟨j', e1', e2'⟩ := z2q hq'
   rw [Nat.zero_add] at e1 e1'
   rw [e1, e1'] at e ⊢
   exact zk3 h1 e2 hl e2' hl' e
theorem zot {P : Program} {own : Bool} {rl : List ResultVar} {m : Nat} {U : List Nat} {r : TV} {Hs' : List AObj} {s : St} (h : retV P own rl m U (fun r0 Hs0 => TV.Le r0 r ∧ Hs0 = Hs') s) : zul P rl m r Hs' s := by
 unfold retV at h
 split at h
 · exact h.elim
 · rename_i rs hrs
   split at h
   · obtain ⟨hl, h⟩ := zbq (L := rs.flatMap (zax (hook s.heap))) z8w (fun p hp => hp) h
     generalize z8p _ _ _ _ = rest at h
     simp only at h
     split at h
     · rename_i hb
       simp only [Bool.and_eq_true] at hb
       obtain ⟨⟨⟨h1, h2⟩, h3⟩, h5⟩ := hb
       have hdis : ∀ p ∈ rs.flatMap (zax (hook s.heap)), p.1 ∉ keep m U ++ rest := fun p hp hm => by
        have := List.all_eq_true.1 h5 p hp
        simp only [Bool.not_eq_true', List.contains_eq_mem, decide_eq_false_iff_not] at this
        exact this hm
       split at h
       · rename_i r0 hr0
         obtain ⟨hle, rfl⟩ := h
         exact zfw hrs hl z8w.ok h1 h2 h3 hdis hr0 hle
       · exact h.elim
     · exact h.elim
   · generalize z8p _ _ _ _ = rest at h
     simp only at h
     split at h
     · rename_i hb
       simp only [Bool.and_eq_true] at hb
       obtain ⟨⟨h1, h2⟩, h3⟩ := hb
       split at h
       · rename_i r0 hr0
         obtain ⟨hle, rfl⟩ := h
         exact zfw (E := []) hrs (z0y rs) (fun p hp => by cases hp) h1 h2 h3 (fun p hp => by cases hp) hr0 hle
       · exact h.elim
     · exact h.elim
section
variable (P : Program) (sh : FuncId → List Sh) (n m : Nat) (lv : List (Nat × List Nat)) (G : Nat → St → Prop)
def regV (ops : Array Oper) (d : Bool) (K : AExit → St → Prop) (s : St) : Prop :=
 match dstB ops n with
 | true => lexV P sh ops s.nx ops.toList 0 s.env s.heap [] fun e h tr => match !d || zl8 ops tr with
  | true => K .normal ⟨e, h, s.nx + 32 * ops.size⟩
  | false => False
 | false => False
def zrd (K1 : St → Prop) (K : AExit → St → Prop) : AExit → St → Prop
 | .normal, s => K1 s
 | e, s => K e s
def condV (x : Operand) (s : St) (A B : St → Prop) : Prop :=
 match ev s.env x with
 | .c (.a (.fz (.bool b))) => match x with
  | .tmp t => br b (A ⟨(t, bV true) :: s.env, s.heap, s.nx⟩) (B ⟨(t, bV false) :: s.env, s.heap, s.nx⟩)
  | _ => br b (A s) (B s)
 | _ => False
def runV : Code → (AExit → St → Prop) → St → Prop
 | .skip, K, s => K .normal s
 | .ret, K, s => K .ret s
 | .exit i, K, s => K (.exit i) s
 | .seq a b, K, s => runV a (zrd (runV b K) K) s
 | .cond x a b, K, s => condV x s (runV a K) (runV b K)
 | .block i c, K, s => match isLoop c with
  | true => zgt m lv G (2 * i + 1) s
  | false => runV c (z1t i K) s
 | .region i ops d, K, s => match (z0m lv (2 * i)).isSome with
  | true => zgt m lv G (2 * i) s
  | false => regV P sh n ops d K s
 | _, _, _ => False
def zau : Code → Nat → (AExit → St → Prop) → St → Prop
 | .region i ops d, p, K, s => match p == 2 * i with
  | true => regV P sh n ops d K s
  | false => False
 | .seq a b, p, K, s => match (pts a).contains p with
  | true => zau a p (zrd (runV P sh n m lv G b K) K) s
  | false => zau b p K s
 | .cond _ a b, p, K, s => match (pts a).contains p with
  | true => zau a p K s
  | false => zau b p K s
 | .block i c, p, K, s => match p == 2 * i + 1 with
  | true => match c with
   | .loop b => runV P sh n m lv G b (zrd (zgt m lv G (2 * i + 1)) (z1t i K)) s
   | _ => False
  | false => match c with
   | .loop b => zau b p (zrd (zgt m lv G (2 * i + 1)) (z1t i K)) s
   | c => zau c p (z1t i K) s
 | _, _, _, _ => False
end
section
variable {P : Program} {sh : FuncId → List Sh} {n m : Nat} {lv : List (Nat × List Nat)} {G : Nat → St → Prop}
theorem zoh {P : Program} {ops : Array Oper} {nx : Nat} {K1 K2 : Env → AHeap → z3e → Prop} (hk : ∀ e h tr, K1 e h tr → K2 e h tr) : ∀ {l : List Oper} {i : Nat} {e : Env} {h : AHeap} {tr : z3e}, lex P ops nx l i e h tr K1 → lex P ops nx l i e h tr K2 := by
 intro l
 induction l with
 | nil => exact fun h => hk _ _ _ h
 | cons o rest ih =>
  intro i e h tr hl
  unfold lex zj6 at hl ⊢
  split
  · rename_i hw; rw [hw] at hl; exact hl
  · rename_i w hw
    rw [hw] at hl
    simp only at hl
    split
    · rename_i hw1
      rw [if_pos hw1] at hl
      unfold zq2 at hl ⊢
      cases hg : goCall o.op with
      | some c =>
       rw [hg] at hl
       simp only at hl ⊢
       cases hcl : calleeOf (ev e) c with
       | some fa => rw [hcl] at hl; simp only at hl ⊢; exact hl.imp fun r u rd hk => ih hk
       | none => rw [hcl] at hl; exact hl.elim
      | none =>
       rw [hg] at hl
       simp only at hl ⊢
       cases ha : aopS P o (nx + 32 * i) (ev e) (hook h) with
       | some r => rw [ha] at hl; simp only at hl ⊢; exact ih hl
       | none => rw [ha] at hl; exact hl.elim
    · rename_i hw1; rw [if_neg hw1] at hl; exact ih hl
theorem zmj (hP : P.follows .mixedOrders = true) {i : Nat} {ops : Array Oper} {d : Bool} {K Q : AExit → St → Prop} {s : St} (hk : ∀ e s, K e s → Q e s) (h : regV P sh n ops d K s) : Awp P n m (.region i ops d) Q s := by
 unfold regV at h
 split at h
 · rename_i hd
   refine Awp.uneq (Awp.region hP hd ?_)
   have h1 := z5p rfl h
   refine zoh ?_ h1
   rintro e1 h1 tr1 ⟨e2, he, hk2⟩
   split at hk2
   · rename_i hb
     refine ⟨fun hd2 => ?_, e2, he, hk _ _ hk2⟩
     subst hd2; simpa using hb
   · exact hk2.elim
 · exact h.elim
def GOK (P : Program) (n m : Nat) (G : Nat → St → Prop) (c : Code) (Q : AExit → St → Prop) : Prop := ∀ p s, p ∈ pts c → G p s → rz P n m c p Q s
theorem z5q {K1 Q1 : St → Prop} {K Q : AExit → St → Prop} (h1 : ∀ s, K1 s → Q1 s) (h : ∀ e s, K e s → Q e s) : ∀ e s, zrd K1 K e s → zlf Q1 Q e s := by
 intro e s hk
 cases e with
 | normal => exact h1 s hk
 | exit i => exact h _ s hk
 | ret => exact h _ s hk
theorem z4u {i : Nat} {K Q : AExit → St → Prop} (h : ∀ e s, K e s → Q e s) : ∀ e s, z1t i K e s → z1t i Q e s := by
 intro e s hk
 cases e with
 | normal => exact h _ s hk
 | exit j =>
  simp only [z1t] at hk ⊢
  split
  · rename_i hj; rw [if_pos hj] at hk; exact h _ s hk
  · rename_i hj; rw [if_neg hj] at hk; exact h _ s hk
 | ret => exact h _ s hk
theorem GOK.left {a b : Code} {Q : AExit → St → Prop} (h : GOK P n m G (.seq a b) Q) : GOK P n m G a (zlf (Awp P n m b Q) Q) := fun p s hp hg => by
 have := h p s (List.mem_append.2 (.inl hp)) hg
 unfold rz at this
 rwa [if_pos (by simpa using hp)] at this
theorem GOK.right {a b : Code} {Q : AExit → St → Prop} (hn : (pts (.seq a b)).Nodup) (h : GOK P n m G (.seq a b) Q) : GOK P n m G b Q := fun p s hp hg => by
 have := h p s (List.mem_append.2 (.inr hp)) hg
 unfold rz at this
 rwa [if_neg (by have := (List.nodup_append.1 hn).2.2; simp only [List.contains_eq_mem, decide_eq_true_eq]; exact fun h1 => this p h1 p hp rfl)] at this
theorem GOK.condL {x : Operand} {a b : Code} {Q : AExit → St → Prop} (h : GOK P n m G (.cond x a b) Q) : GOK P n m G a Q := fun p s hp hg => by
 have := h p s (List.mem_append.2 (.inl hp)) hg
 unfold rz at this
 rwa [if_pos (by simpa using hp)] at this
theorem GOK.condR {x : Operand} {a b : Code} {Q : AExit → St → Prop} (hn : (pts (.cond x a b)).Nodup) (h : GOK P n m G (.cond x a b) Q) : GOK P n m G b Q := fun p s hp hg => by
 have := h p s (List.mem_append.2 (.inr hp)) hg
 unfold rz at this
 rwa [if_neg (by have := (List.nodup_append.1 hn).2.2; simp only [List.contains_eq_mem, decide_eq_true_eq]; exact fun h1 => this p h1 p hp rfl)] at this
theorem GOK.block {i : Nat} {c : Code} {Q : AExit → St → Prop} (hn : (pts (.block i c)).Nodup) (h : GOK P n m G (.block i c) Q) : GOK P n m G c (z1t i Q) := fun p s hp hg => by
 have := h p s (List.mem_cons_of_mem _ hp) hg
 unfold rz at this
 rwa [if_neg (fun e => by subst e; exact (List.nodup_cons.1 hn).1 hp)] at this
theorem GOK.loop {c : Code} {Q : AExit → St → Prop} (h : GOK P n m G (.loop c) Q) : GOK P n m G c (zlf (Alwp P n m c Q) Q) := fun p s hp hg => by
 have := h p s hp hg
 unfold rz at this
 exact this
theorem GOK.head {i : Nat} {c : Code} {Q : AExit → St → Prop} (h : GOK P n m G (.block i c) Q) {s : St} (hg : zgt m lv G (2 * i + 1) s) : headA P n m c (z1t i Q) s := by
 obtain ⟨s', hs, hg⟩ := zde hg
 have := h _ _ List.mem_cons_self hg
 unfold rz at this
 rw [if_pos rfl] at this
 exact headA.weak hs this
theorem z3f (hP : P.follows .mixedOrders = true) : ∀ {c : Code} {K Q : AExit → St → Prop} {s : St}, (pts c).Nodup → GOK P n m G c Q → (∀ e s, K e s → Q e s) → runV P sh n m lv G c K s → Awp P n m c Q s
 | .skip, K, Q, s, _, _, hk, h => Awp.skip (hk _ _ h)
 | .ret, K, Q, s, _, _, hk, h => Awp.ret (hk _ _ h)
 | .exit i, K, Q, s, _, _, hk, h => Awp.exit (hk _ _ h)
 | .seq a b, K, Q, s, hn, hG, hk, h => by
  have hn' := List.nodup_append.1 hn
  exact Awp.seq (z3f hP hn'.1 hG.left (z5q (fun s hs => z3f hP hn'.2.1 (hG.right hn) hk hs) hk) h)
 | .cond x a b, K, Q, s, hn, hG, hk, h => by
  have hn' := List.nodup_append.1 hn
  unfold runV condV at h
  split at h
  · rename_i t ht
    split at h
    · rename_i tt
      have hsame : ∀ y, t = y → look ((tt, bV y) :: s.env) = look s.env := fun y hy => zjz (by simp only [ev] at ht; rw [ht, hy]; rfl)
      cases t with
      | true => exact Awp.cond ht (fun _ => Awp.look (hsame _ rfl) (z3f hP hn'.1 hG.condL hk h)) (fun e => by cases e)
      | false => exact Awp.cond ht (fun e => by cases e) (fun _ => Awp.look (hsame _ rfl) (z3f hP hn'.2.1 (hG.condR hn) hk h))
    · cases t with
      | true => exact Awp.cond ht (fun _ => z3f hP hn'.1 hG.condL hk h) (fun e => by cases e)
      | false => exact Awp.cond ht (fun e => by cases e) (fun _ => z3f hP hn'.2.1 (hG.condR hn) hk h)
  · exact h.elim
 | .block i c, K, Q, s, hn, hG, hk, h => by
  unfold runV at h
  split at h
  · rename_i hl
    exact Awp.block (hG.head h).awp
  · exact Awp.block (z3f hP (List.nodup_cons.1 hn).2 (hG.block hn) (z4u hk) h)
 | .region i ops d, K, Q, s, hn, hG, hk, h => by
  unfold runV at h
  split at h
  · obtain ⟨s', hs, hg⟩ := zde h
    have := hG _ _ List.mem_cons_self hg
    exact this.2.weak hs
  · exact zmj hP hk h
 | .loop _, _, _, _, _, _, _, h => h.elim
 | .rangeFunc .., _, _, _, _, _, _, h => h.elim
 | .scope _, _, _, _, _, _, _, h => h.elim
 | .label _, _, _, _, _, _, _, h => h.elim
 | .goto _, _, _, _, _, _, _, h => h.elim
 | .refuse _, _, _, _, _, _, _, h => h.elim
theorem z4c (hP : P.follows .mixedOrders = true) : ∀ {c : Code} {p : Nat} {K Q : AExit → St → Prop} {s : St}, (pts c).Nodup → GOK P n m G c Q → (∀ e s, K e s → Q e s) → zau P sh n m lv G c p K s → rz P n m c p Q s
 | .region i ops d, p, K, Q, s, _, _, hk, h => by
  unfold zau at h
  split at h
  · rename_i hp; exact ⟨by simpa using hp, zmj hP hk h⟩
  · exact h.elim
 | .seq a b, p, K, Q, s, hn, hG, hk, h => by
  have hn' := List.nodup_append.1 hn
  unfold zau at h
  unfold rz
  split at h
  · rename_i hp; rw [if_pos hp]; exact z4c hP hn'.1 hG.left (z5q (fun s hs => z3f hP hn'.2.1 (hG.right hn) hk hs) hk) h
  · rename_i hp; rw [if_neg (by simp only [hp]; decide)]; exact z4c hP hn'.2.1 (hG.right hn) hk h
 | .cond x a b, p, K, Q, s, hn, hG, hk, h => by
  have hn' := List.nodup_append.1 hn
  unfold zau at h
  unfold rz
  split at h
  · rename_i hp; rw [if_pos hp]; exact z4c hP hn'.1 hG.condL hk h
  · rename_i hp; rw [if_neg (by simp only [hp]; decide)]; exact z4c hP hn'.2.1 (hG.condR hn) hk h
 | .block i c, p, K, Q, s, hn, hG, hk, h => by
  unfold zau at h
  unfold rz
  split at h
  · rename_i hp
    rw [if_pos (by simpa using hp)]
    split at h
    · rename_i b
      have hn2 : (pts b).Nodup := (List.nodup_cons.1 hn).2
      exact (Alwp.unroll (z3f hP hn2 (GOK.loop (hG.block hn)) (z5q (fun s hs => hG.head hs) (z4u hk)) h) : Alwp _ _ _ _ _ _)
    · exact h.elim
  · rename_i hp
    rw [if_neg (by simpa using hp)]
    split at h
    · rename_i b
      have hn2 : (pts b).Nodup := (List.nodup_cons.1 hn).2
      unfold rz
      exact z4c hP hn2 (GOK.loop (hG.block hn)) (z5q (fun s hs => hG.head hs) (z4u hk)) h
    · exact z4c hP (List.nodup_cons.1 hn).2 (hG.block hn) (z4u hk) h
 | .skip, _, _, _, _, _, _, _, h => h.elim
 | .ret, _, _, _, _, _, _, _, h => h.elim
 | .exit _, _, _, _, _, _, _, _, h => h.elim
 | .loop _, _, _, _, _, _, _, _, h => h.elim
 | .rangeFunc .., _, _, _, _, _, _, _, h => h.elim
 | .scope _, _, _, _, _, _, _, _, h => h.elim
 | .label _, _, _, _, _, _, _, _, h => h.elim
 | .goto _, _, _, _, _, _, _, _, h => h.elim
 | .refuse _, _, _, _, _, _, _, _, h => h.elim
end
def endV (P : Program) (own : Bool) (rl : List ResultVar) (m : Nat) (U : List Nat) (R : TV → List AObj → Prop) : AExit → St → Prop
 | .exit _, _ => False
 | _, s => retV P own rl m U R s
def vcE (P : Program) (sh : FuncId → List Sh) (lv : List (Nat × List Nat)) (f : FuncId) (args : List TV) (Hs : List AObj) (R : TV → List AObj → Prop) (G : Nat → St → Prop) : Prop :=
 match P.funcs[f]? with
 | some fn => match fn.body with
  | some c => match z30 P f && Nat.ble args.length fn.ntmps && zan (pts c) with
   | true => runV P sh fn.ntmps Hs.length lv G c (endV P (ownB (sh f)) fn.results.toList Hs.length (lvU lv) R) ⟨z92 0 args, z1d 0 Hs, Hs.length⟩
   | false => False
  | none => False
 | none => False
def vcP (P : Program) (sh : FuncId → List Sh) (lv : List (Nat × List Nat)) (f : FuncId) (m : Nat) (R : TV → List AObj → Prop) (G : Nat → St → Prop) (p : Nat) (s : St) : Prop :=
 match P.funcs[f]? with
 | some fn => match fn.body with
  | some c => match zan (pts c) with
   | true => zau P sh fn.ntmps m lv G c p (endV P (ownB (sh f)) fn.results.toList m (lvU lv) R) s
   | false => False
  | none => False
 | none => False
section
variable {P : Program} {sh : FuncId → List Sh} {lv : List (Nat × List Nat)} {f : FuncId}
theorem zny {own : Bool} {rl : List ResultVar} {m : Nat} {U : List Nat} {r : TV} {Hs' : List AObj} : ∀ e s, endV P own rl m U (fun r0 Hs0 => TV.Le r0 r ∧ Hs0 = Hs') e s → Ret P rl m r Hs' e s := by
 intro e s h
 cases e with
 | normal => exact zot h
 | exit i => exact h
 | ret => exact zot h
theorem zqu {fn : Func} {c : Code} {m : Nat} {r : TV} {Hs' : List AObj} (hf : P.funcs[f]? = some fn) (hb : fn.body = some c) : GOK P fn.ntmps m (RPt P f m r Hs') c (Ret P fn.results.toList m r Hs') := by
 rintro p s _ ⟨fn', c', h1, h2, h3⟩
 rw [hf] at h1; injection h1 with h1; subst h1
 rw [hb] at h2; injection h2 with h2; subst h2
 exact h3
theorem AC.vc (hP : P.follows .mixedOrders = true) (sh : FuncId → List Sh) (lv : List (Nat × List Nat)) {args : List TV} {Hs Hs' : List AObj} {r : TV} (hlen : Hs.length ≤ Hs'.length) (hlive : ∀ x ∈ Hs, isLive x) (hlive' : ∀ x ∈ Hs'.drop Hs.length, isLive x)
  (h : vcE P sh lv f args Hs (fun r0 Hs0 => TV.Le r0 r ∧ Hs0 = Hs') (RPt P f Hs.length r Hs')) : AC P f args Hs r Hs' := by
 unfold vcE at h
 split at h
 · rename_i fn hf
   split at h
   · rename_i c hc
     split at h
     · rename_i hb
       simp only [Bool.and_eq_true] at hb
       exact AC.intro hf hc rfl rfl hb.1.1 (Nat.le_of_ble_eq_true hb.1.2) hlen hlive hlive' (z3f hP (z38 hb.2) (zqu hf hc) zny h)
     · exact h.elim
   · exact h.elim
 · exact h.elim
theorem RPt.vc (hP : P.follows .mixedOrders = true) (sh : FuncId → List Sh) (lv : List (Nat × List Nat)) {m : Nat} {Hs' : List AObj} {r : TV} {p : Nat} {s : St}
  (h : vcP P sh lv f m (fun r0 Hs0 => TV.Le r0 r ∧ Hs0 = Hs') (RPt P f m r Hs') p s) : RPt P f m r Hs' p s := by
 unfold vcP at h
 split at h
 · rename_i fn hf
   split at h
   · rename_i c hc
     split at h
     · rename_i hb
       exact ⟨fn, c, hf, hc, z4c hP (z38 hb) (zqu hf hc) zny h⟩
     · exact h.elim
   · exact h.elim
 · exact h.elim
end
end Go.AM

namespace Go.AM
theorem AC.le {P : Program} {f : FuncId} {args args' : List TV} {Hs Hs' : List AObj} {r r' : TV} (h : AC P f args' Hs r Hs') (ha : All2 TV.Le args args') (hr : TV.Le r r') : AC P f args Hs r' Hs' := by
 refine ⟨h.1, h.2.1, fun w vals β Y h1 h2 hgl h3 h4 => ?_⟩
 refine (h.2.2 w vals β Y h1 h2 hgl h3 (zg8 ha h4)).mono fun e w' ⟨v, β', h5, h6, h7, h8, h9⟩ => ?_
 exact ⟨v, β', h5, h6, h7, TRep.le hr h8, h9⟩
theorem AC.args {P : Program} {f : FuncId} {args args' : List TV} {Hs Hs' : List AObj} {r : TV} (h : AC P f args' Hs r Hs') (ha : All2 TV.Le args args') : AC P f args Hs r Hs' := h.le ha (.refl r)
inductive OLe : AObj → AObj → Prop
 | refl (a : AObj) : OLe a a
 | rows (n : Nat) (fs gs : List (List FV)) : gs.length ≤ fs.length → (∀ (i : Nat) (e e' : List FV), fs[i]? = some e → gs[i]? = some e' → e.length = e'.length) →
   (∀ (i j : Nat) (e e' : List FV) (f f' : FV), fs[i]? = some e → gs[i]? = some e' → e[j]? = some f → e'[j]? = some f' → FV.Le f f') → OLe (.arz n fs) (.arz n gs)
theorem OLe.live {a b : AObj} (h : OLe a b) : isLive a ↔ isLive b := by cases h <;> exact Iff.rfl
theorem OLe.bare {a b : AObj} (h : OLe a b) (hb : bareO a) : bareO b := by
 cases h with
 | refl => exact hb
 | rows n fs gs hl _ _ =>
  obtain ⟨m, hm⟩ := hb
  simp only [flat, AObj.arr.injEq, List.map_eq_nil_iff] at hm
  have : gs = [] := List.eq_nil_of_length_eq_zero (by rw [hm.2] at hl; simpa using hl)
  exact ⟨n, by rw [this]; rfl⟩
theorem OLe.rep {w : World} {X : Nat → Prop} {β : Nat → Option Nat} {a b : AObj} {k : Nat} (h : OLe a b) (hr : ORep w X β a k) : ORep w X β b k := by
 cases h with
 | refl => exact hr
 | rows n fs gs hl he hf =>
  obtain ⟨us, t, h1, h2, h3, h4⟩ := hr
  have back : ∀ {i : Nat} {e' : List FV}, gs[i]? = some e' → ∃ e, fs[i]? = some e ∧ e.length = e'.length := by
   intro i e' he'
   have hi : i < fs.length := by have := (List.getElem?_eq_some_iff.1 he').1; omega
   exact ⟨fs[i], List.getElem?_eq_getElem hi, he i _ _ (List.getElem?_eq_getElem hi) he'⟩
  have hlen : gs.length * n ≤ fs.length * n := Nat.mul_le_mul_right _ hl
  refine ⟨us, t, h1, by simp only [List.length_map] at h2 ⊢; omega, fun e' he' => ?_, fun i j e' c' he' hc' => ?_⟩
  · obtain ⟨g, hg, rfl⟩ := List.mem_map.1 he'
    obtain ⟨i, hi⟩ := List.getElem?_of_mem hg
    obtain ⟨e, h5, h6⟩ := back hi
    have := h3 (fzs e) (List.mem_map.2 ⟨e, List.mem_of_getElem? h5, rfl⟩)
    simp only [fzs, List.length_map] at this ⊢
    rw [← h6]; exact this
  · rw [List.getElem?_map] at he'
    obtain ⟨g, hg, rfl⟩ := Option.map_eq_some_iff.1 he'
    rw [fzs, List.getElem?_map] at hc'
    obtain ⟨f', hf', rfl⟩ := Option.map_eq_some_iff.1 hc'
    obtain ⟨e, h5, h6⟩ := back hg
    have hj : j < e.length := by rw [h6]; exact (List.getElem?_eq_some_iff.1 hf').1
    have hej := List.getElem?_eq_getElem hj
    obtain ⟨u, hu, hr⟩ := h4 i j (fzs e) (cell e[j]) (by rw [List.getElem?_map, h5]; rfl) (by rw [fzs, List.getElem?_map, hej]; rfl)
    exact ⟨u, hu, WRep.le (.a _ _ (.fz _ _ (hf i j e g _ _ h5 hg hej hf'))) hr⟩
theorem AC.obj {P : Program} {f : FuncId} {args : List TV} {Hs Hs' Hs'' : List AObj} {r : TV} (h : AC P f args Hs r Hs') (ho : All2 OLe Hs' Hs'') : AC P f args Hs r Hs'' := by
 have len : ∀ {a b : List AObj}, All2 OLe a b → a.length = b.length := by
  intro a
  induction a with
  | nil => intro b h; cases b; · rfl
           · exact h.elim
  | cons x a ih => intro b h; cases b; · exact h.elim
                   · simp [ih h.2]
 have get : ∀ {a b : List AObj} (i : Nat), All2 OLe a b → OLe (a.getD i .gone) (b.getD i .gone) := by
  intro a
  induction a with
  | nil => intro b i h; cases b; · exact .refl _
           · exact h.elim
  | cons x a ih =>
   intro b i h
   cases b with
   | nil => exact h.elim
   | cons y b => cases i with
    | zero => exact h.1
    | succ i => exact ih (b := b) i h.2
 have hl := len ho
 refine ⟨h.1, by rw [← hl]; exact h.2.1, fun w vals β Y h1 h2 hgl h3 h4 => ?_⟩
 refine (h.2.2 w vals β Y h1 h2 hgl h3 h4).mono fun e w' ⟨v, β', k1, k2, k3, k4, k5, k6, k7⟩ => ?_
 have hown : Own (fun o => Hs''.getD o .gone) β' = Own (fun o => Hs'.getD o .gone) β' := by
  funext b
  exact propext ⟨fun ⟨o, a, c⟩ => ⟨o, (get o ho).live.2 a, c⟩, fun ⟨o, a, c⟩ => ⟨o, (get o ho).live.1 a, c⟩⟩
 refine ⟨v, β', k1, k2, ⟨fun o b a c => ?_, fun o a => ?_, fun o o' b a a' => k3.inj o o' b ((get o ho).live.2 a) ((get o' ho).live.2 a'), k3.lt⟩, by rw [hown]; exact k4, by rw [← hl]; exact k5, k6, k7⟩
 · rw [hown]; exact (get o ho).rep (k3.rep o b ((get o ho).live.2 a) c)
 · exact (k3.has o ((get o ho).live.2 a)).imp id fun ⟨p, q⟩ => ⟨(get o ho).bare p, q⟩
abbrev ci (n : Int) : TV := .c (.a (.fz (.int .i64 n)))
abbrev cb (b : Bool) : TV := .c (.a (.fz (.bool b)))
abbrev cs (s : List UInt8) : TV := .c (.a (.fz (.str s)))
abbrev c8 (n : Int) : TV := .c (.a (.fz (.int .u8 n)))
def LeR : List FV → List FV → Prop
 | [], [] => True
 | x :: xs, y :: ys => FV.Le x y ∧ LeR xs ys
 | _, _ => False
theorem LeR.refl : ∀ l : List FV, LeR l l
 | [] => trivial
 | x :: l => ⟨.refl x, LeR.refl l⟩
theorem LeR.length : ∀ {a b : List FV}, LeR a b → a.length = b.length
 | [], [], _ => rfl
 | _ :: _, _ :: _, h => by simp [h.2.length]
 | [], _ :: _, h => h.elim
 | _ :: _, [], h => h.elim
theorem LeR.get : ∀ {a b : List FV}, LeR a b → ∀ (i : Nat) (x y : FV), a[i]? = some x → b[i]? = some y → FV.Le x y
 | [], [], _, i, x, y, hx, _ => by simp at hx
 | a :: a9, b :: bs, h, i, x, y, hx, hy => by
  cases i with
  | zero => simp at hx hy; subst hx; subst hy; exact h.1
  | succ i => exact h.2.get i x y (by simpa using hx) (by simpa using hy)
theorem le_agg {a b : List FV} (h : LeR a b) : TV.Le (.agg (fzs a)) (.agg (fzs b)) := by
 refine .agg _ _ (by simp [fzs, h.length]) fun i x y hx hy => ?_
 rw [fzs, List.getElem?_map] at hx hy
 obtain ⟨x', hx', rfl⟩ := Option.map_eq_some_iff.1 hx
 obtain ⟨y', hy', rfl⟩ := Option.map_eq_some_iff.1 hy
 exact .a _ _ (.fz _ _ (h.get i x' y' hx' hy'))
theorem le_c {x y : FV} (h : FV.Le x y) : TV.Le (.c (.a (.fz x))) (.c (.a (.fz y))) := .c _ _ (.a _ _ (.fz _ _ h))
inductive Tm where
 | mk (k : Int) (s : List UInt8) (n : Int) (l : List Tm)
 deriving Inhabited
namespace Tm
def k : Tm → Int | .mk k _ _ _ => k
def s : Tm → List UInt8 | .mk _ s _ _ => s
def n : Tm → Int | .mk _ _ n _ => n
def l : Tm → List Tm | .mk _ _ _ l => l
end Tm
mutual
def FT : Tm → List FV
 | .mk k s n l => [.int .i64 k, .str s, .int .i64 n, .sl false 4 (FTs l)]
def FTs : List Tm → List (List FV)
 | [] => []
 | t :: l => FT t :: FTs l
end
mutual
def Tm.sz : Tm → Nat
 | .mk _ _ _ l => 1 + Tm.szs l
def Tm.szs : List Tm → Nat
 | [] => 0
 | t :: l => Tm.sz t + Tm.szs l
end
theorem z2c : ∀ l : List Tm, FTs l = l.map FT
 | [] => rfl
 | t :: l => by simp only [FTs, List.map_cons, z2c l]
theorem z01 (l : List Tm) : (FTs l).length = l.length := by rw [z2c, List.length_map]
theorem z27 (a b : List Tm) : FTs (a ++ b) = FTs a ++ FTs b := by simp only [z2c, List.map_append]
theorem z2k (t : Tm) : (FT t).length = 4 := by cases t; rfl
theorem z82 (t : Tm) : FT t = [.int .i64 t.k, .str t.s, .int .i64 t.n, .sl false 4 (FTs t.l)] := by cases t; rfl
theorem Tm.sz_pos (t : Tm) : 1 ≤ t.sz := by cases t; simp only [Tm.sz]; omega
theorem Tm.sz_eq (t : Tm) : t.sz = 1 + Tm.szs t.l := by cases t; rfl
mutual
def Tm.bk : Tm → Nat
 | .mk _ s _ l => 1 + s.length + Tm.bks l
def Tm.bks : List Tm → Nat
 | [] => 0
 | t :: l => Tm.bk t + Tm.bks l
end
mutual
theorem Tm.sz_bk : ∀ t : Tm, t.sz ≤ t.bk
 | .mk _ s _ l => by have := Tm.szs_bks l; simp only [Tm.sz, Tm.bk]; omega
theorem Tm.szs_bks : ∀ l : List Tm, Tm.szs l ≤ Tm.bks l
 | [] => Nat.le_refl _
 | t :: l => by have := Tm.sz_bk t; have := Tm.szs_bks l; simp only [Tm.szs, Tm.bks]; omega
end
theorem Tm.bks_mem : ∀ {l : List Tm} {t : Tm}, t ∈ l → t.bk ≤ Tm.bks l
 | x :: l, t, h => by
  rcases List.mem_cons.1 h with rfl | h
  · simp only [Tm.bks]; omega
  · have := Tm.bks_mem h; simp only [Tm.bks]; omega
theorem Tm.szs_mem : ∀ {l : List Tm} {t : Tm}, t ∈ l → t.sz ≤ Tm.szs l
 | x :: l, t, h => by
  rcases List.mem_cons.1 h with rfl | h
  · simp only [Tm.szs]; omega
  · have := Tm.szs_mem h; simp only [Tm.szs]; omega
theorem Tm.szs_append : ∀ (a b : List Tm), Tm.szs (a ++ b) = Tm.szs a + Tm.szs b
 | [], b => by simp [Tm.szs]
 | t :: a, b => by simp only [List.cons_append, Tm.szs, Tm.szs_append a b]; omega
theorem Tm.szs_length : ∀ l : List Tm, l.length ≤ Tm.szs l
 | [] => Nat.le_refl _
 | t :: l => by have := Tm.szs_length l; have := t.sz_pos; simp only [List.length_cons, Tm.szs]; omega
theorem Tm.ind {P : Tm → Prop} (h : ∀ t, (∀ u ∈ t.l, P u) → P t) : ∀ t, P t := by
 have key : ∀ n t, t.sz ≤ n → P t := by
  intro n
  induction n with
  | zero => intro t ht; have := t.sz_pos; omega
  | succ n ih =>
   intro t ht
   refine h t fun u hu => ih u ?_
   have := Tm.szs_mem hu
   rw [Tm.sz_eq] at ht
   omega
 exact fun t => key _ t (Nat.le_refl _)
theorem z8v (l : List Tm) : Int.toNat (l.length : Int) = l.length := by omega
theorem zfa (a : List Tm) (t : Tm) (b : List Tm) : List.getD (FTs (a ++ t :: b)) a.length [] = FT t := by
 rw [z2c]
 simp [List.getD]
theorem w64 {x : Int} (h1 : -9223372036854775808 ≤ x) (h2 : x ≤ 9223372036854775807) : IntKind.wrap .i64 x = x := Go.IntWalk.i64_in _ ⟨h1, h2⟩
def B : Nat := 549755813888
theorem leFT {k n : Int} {s : List UInt8} {x : FV} {l : List Tm} (h : FV.Le x (.sl false 4 (FTs l))) : LeR [.int .i64 k, .str s, .int .i64 n, x] (FT (.mk k s n l)) := ⟨.refl _, .refl _, .refl _, h, trivial⟩
theorem leSl {b : Bool} {l : List Tm} : FV.Le (.sl b 4 (FTs l)) (.sl false 4 (FTs l)) := .nn _ _ _
theorem z0r : FV.Le .nils (.sl false 4 (FTs [])) := .nils 4
theorem leRows {b : Bool} {rows : List (List FV)} {l : List Tm} (hl : rows.length = l.length) (h : ∀ (i : Nat) (r : List FV) (t : Tm), rows[i]? = some r → l[i]? = some t → LeR r (FT t)) : FV.Le (.sl b 4 rows) (.sl false 4 (FTs l)) := by
 refine .trans _ (.sl b 4 (FTs l)) _ (.rows b 4 rows _ (by rw [z01, hl]) (fun i e e' he he' => ?_) (fun i j e e' f f' he he' hf hf' => ?_)) leSl
 · rw [z2c, List.getElem?_map] at he'
   obtain ⟨t, ht, rfl⟩ := Option.map_eq_some_iff.1 he'
   exact (h i e t he ht).length
 · rw [z2c, List.getElem?_map] at he'
   obtain ⟨t, ht, rfl⟩ := Option.map_eq_some_iff.1 he'
   exact (h i e t he ht).get j f f' hf hf'
theorem midI (a : List Tm) (t : Tm) (b : List Tm) : List.getD (FTs (a ++ t :: b)) (Int.toNat (a.length : Int)) [] = FT t := by
 rw [show Int.toNat (a.length : Int) = a.length by omega, zfa]
theorem midI' (a a' : List Tm) (h : a.length = a'.length) (t : Tm) (b : List Tm) : List.getD (FTs (a' ++ t :: b)) (Int.toNat (a.length : Int)) [] = FT t := by rw [h, midI]
theorem nx {α : Type} (a : List α) (t : α) : (((a ++ [t]).length : Nat) : Int) = (a.length : Int) + 1 := by simp
theorem ap {α : Type} (a : List α) (t : α) (b : List α) : (a ++ [t]) ++ b = a ++ t :: b := by simp
theorem lenI (l : List Tm) : (((FTs l).length : Nat) : Int) = (l.length : Int) := by rw [z01]
theorem ltI {α : Type} (a : List α) (t : α) (b : List α) : (a.length : Int) < (((a ++ t :: b).length : Nat) : Int) := by simp; omega
theorem ltI' (a : List Tm) (t : Tm) (b : List Tm) : (a.length : Int) < (((FTs (a ++ t :: b)).length : Nat) : Int) := by rw [z01]; exact ltI a t b
theorem geI' (a : List Tm) : ¬ (a.length : Int) < (((FTs (a ++ [])).length : Nat) : Int) := by rw [z01]; simp
abbrev aT (t : Tm) : TV := .agg [.a (.fz (.int .i64 t.k)), .a (.fz (.str t.s)), .a (.fz (.int .i64 t.n)), .a (.fz (.sl false 4 (FTs t.l)))]
abbrev cT (t : Tm) : List WV := [.a (.fz (.int .i64 t.k)), .a (.fz (.str t.s)), .a (.fz (.int .i64 t.n)), .a (.fz (.sl false 4 (FTs t.l)))]
abbrev rE (r : List FV) : List FV := [.int .i64 (FV.asI (List.getD r 0 FV.nils)), .str (FV.asS (List.getD r 1 FV.nils)), .int .i64 (FV.asI (List.getD r 2 FV.nils)), List.getD r 3 FV.nils]
abbrev cE (r : List FV) : List WV := [.a (.fz (.int .i64 (FV.asI (List.getD r 0 FV.nils)))), .a (.fz (.str (FV.asS (List.getD r 1 FV.nils)))), .a (.fz (.int .i64 (FV.asI (List.getD r 2 FV.nils)))), .a (.fz (List.getD r 3 FV.nils))]
abbrev aE (r : List FV) : TV := .agg (cE r)
abbrev FT4 (t : Tm) : List FV := [.int .i64 t.k, .str t.s, .int .i64 t.n, .sl false 4 (FTs t.l)]
theorem zdp (t : Tm) : aE (FT t) = aT t := by cases t; rfl
theorem cE_FT (t : Tm) : cE (FT t) = cT t := by cases t; rfl
theorem zgp (t : Tm) : rE (FT t) = FT t := by cases t; rfl
theorem z7e (t : Tm) : FT4 t = FT t := by cases t; rfl
theorem znb (n : Nat) (l : List Tm) : List.drop n (FTs l) = FTs (List.drop n l) := by rw [z2c, z2c, List.map_drop]
theorem FTs_take (n : Nat) (l : List Tm) : List.take n (FTs l) = FTs (List.take n l) := by rw [z2c, z2c, List.map_take]
theorem FTs_set (n : Nat) (l : List Tm) (t : Tm) : List.set (FTs l) n (FT t) = FTs (List.set l n t) := by rw [z2c, z2c, List.map_set]
theorem z65 (a : List Tm) (t : Tm) (b : List Tm) : aE (List.getD (FTs (a ++ t :: b)) (Int.toNat (a.length : Int)) []) = aT t := by
 rw [show List.getD (FTs (a ++ t :: b)) (Int.toNat (a.length : Int)) [] = FT t from by rw [show Int.toNat (a.length : Int) = a.length by omega, zfa]]; exact zdp t
theorem z4x (a : List Tm) (t : Tm) (b : List Tm) : rE (List.getD (FTs (a ++ t :: b)) (Int.toNat (a.length : Int)) []) = List.getD (FTs (a ++ t :: b)) (Int.toNat (a.length : Int)) [] := by
 rw [show List.getD (FTs (a ++ t :: b)) (Int.toNat (a.length : Int)) [] = FT t from by rw [show Int.toNat (a.length : Int) = a.length by omega, zfa]]; exact zgp t
mutual
def okI : Tm → Prop
 | .mk _ _ n l => (-9223372036854775808 ≤ n ∧ n ≤ 9223372036854775807) ∧ okIs l
def okIs : List Tm → Prop
 | [] => True
 | t :: l => okI t ∧ okIs l
end
theorem zrh : ∀ {l : List Tm}, (∀ t ∈ l, okI t) → okIs l
 | [], _ => trivial
 | t :: l, h => ⟨h t List.mem_cons_self, zrh fun u hu => h u (List.mem_cons_of_mem _ hu)⟩
structure Inf where
 lv : Int
 bd : Bool
 v : Tm
def Inf.c (i : Inf) : List FV := [.int .i64 i.lv, .bool i.bd, .int .i64 i.v.k, .str i.v.s, .int .i64 i.v.n, .sl false 4 (FTs i.v.l)]
def SR (l : List Inf) : List (List FV) := l.map Inf.c
structure Sto where
 V : List Inf
 T : List Int
def IR (l : List Int) : List (List FV) := l.map fun n => [.int .i64 n]
abbrev aL (l : List Tm) : TV := .c (.a (.fz (.sl false 4 (FTs l))))
theorem leT {k n : Int} {s : List UInt8} {x : FV} {l : List Tm} (h : FV.Le x (.sl false 4 (FTs l))) : TV.Le (.agg [.a (.fz (.int .i64 k)), .a (.fz (.str s)), .a (.fz (.int .i64 n)), .a (.fz x)]) (aT (.mk k s n l)) := le_agg (leFT h)
theorem z05 {x y : Bool} (h : x = y) : TV.Le (cb x) (cb y) ∧ ([] : List AObj) = [] := ⟨by rw [h]; exact .refl _, rfl⟩
theorem z31 {x y : Int} (h : x = y) : TV.Le (ci x) (ci y) ∧ ([] : List AObj) = [] := ⟨by rw [h]; exact .refl _, rfl⟩
theorem zh6 {x y : TV} (h : TV.Le x y) : TV.Le x y ∧ ([] : List AObj) = [] := ⟨h, rfl⟩
theorem AC.of_calls {P : Program} {f : FuncId} {args : List TV} {vals : List Value} {r : TV} {v : Value} (hen : z30 P f = true) (h : ∀ w, Calls P f vals.toArray w fun e w' => e = .returned v ∧ w' = w)
  (hv : ∀ (w : World) (X : Nat → Prop) (β : Nat → Option Nat) (us : List Value), LRep (TRep w X β) args us → us = vals) (hr : ∀ (w : World) (X : Nat → Prop) (β : Nat → Option Nat), TRep w X β r v) : AC P f args [] r [] := by
 refine ⟨hen, Nat.le_refl _, fun w us β Y h1 h2 _ h3 h4 => ?_⟩
 rw [hv _ _ _ _ h4]
 refine (h w).mono fun e w' ⟨he, hw⟩ => ?_
 subst hw
 exact ⟨v, β, he, Good.refl _ _, h3, hr _ _ _, h1, fun o ho => absurd ho (Nat.not_lt_zero _), fun o b _ hb => absurd (h1 o b hb) (Nat.not_lt_zero _)⟩
theorem AC.str_u8 {P : Program} {f : FuncId} {s : List UInt8} {c n : Int} (hen : z30 P f = true) (h : ∀ w, Calls P f #[.string ⟨s.toArray⟩, .int .u8 c] w fun e w' => e = .returned (.int .i64 n) ∧ w' = w) : AC P f [cs s, c8 c] [] (ci n) [] := by
 refine AC.of_calls (vals := [.string ⟨s.toArray⟩, .int .u8 c]) hen h (fun w X β us hu => ?_) (fun w X β => .a _ _ (.fz _ _ (.int _ _)))
 obtain ⟨u, us', rfl, h1, h2⟩ := hu.cons_inv
 obtain ⟨v, vs', rfl, h3, h4⟩ := h2.cons_inv
 rw [TRep.str_inv h1, TRep.int_inv h3, h4.nil_inv]
end Go.AM

namespace Go.AM
theorem znd {w : World} {X : Nat → Prop} {n : Nat} {es : List (List FV)} {v : Value} (h : FRep w X (.sl false n es) v) : (v = .slice none 0 0 ∧ es = []) ∨ FRep w X (.sl true n es) v := by
 cases h with
 | slnil => exact .inl ⟨rfl, rfl⟩
 | sl0 nn n a => exact .inr (.sl0 true n a)
 | sl nn n es b off cap len u h1 h2 h3 h4 h5 h6 h7 => exact .inr (.sl true n es b off cap len u h1 h2 h3 h4 h5 h6 h7)
theorem zt {w : World} {X : Nat → Prop} {β : Nat → Option Nat} {x : FV} {vals : List Value} (h : LRep (TRep w X β) [.c (.a (.fz x))] vals) : ∃ v, vals = [v] ∧ FRep w X x v := by
 obtain ⟨v, us, rfl, h1, h2⟩ := h.cons_inv
 obtain rfl := h2.nil_inv
 refine ⟨v, rfl, ?_⟩
 have h1 : WRep w X β (.a (.fz x)) v := h1
 cases h1 with
 | a _ _ h1 => cases h1 with
  | fz _ _ h1 => exact h1
theorem zlp {w : World} {X : Nat → Prop} {β : Nat → Option Nat} {x : FV} {v : Value} (h : FRep w X x v) : LRep (TRep w X β) [.c (.a (.fz x))] [v] := .cons (.a _ _ (.fz _ _ h)) .nil
theorem AC.clone0 {P : Program} {f : FuncId} {n : Nat} (h0 : AC P f [.c (.a (.fz .nils))] [] (.c (.a (.fz .nils))) []) (h1 : AC P f [.c (.a (.fz (.sl true n [])))] [] (.c (.a (.osl 0 n 0 0))) [.arz n []]) :
  AC P f [.c (.a (.fz (.sl false n [])))] [] (.c (.a (.fz (.sl false n [])))) [] := by
 refine ⟨h0.1, by simp, fun w vals β Y g1 g2 gl g3 g4 => ?_⟩
 obtain ⟨v, rfl, hv⟩ := zt g4
 rcases znd hv with ⟨e, _⟩ | hv
 · subst e
   exact (h0.le (r' := .c (.a (.fz (.sl false n [])))) (z58) (le_c (.nils n))).2.2 w [_] β Y g1 g2 gl g3 (zlp .nils)
 · refine (h1.2.2 w [v] β Y g1 g2 gl g3 (zlp hv)).mono fun e w' ⟨v', β', k1, k2, k3, k4, k5, k6, k7⟩ => ?_
   have none' : (fun b => Y b ∨ Own (fun o => ([] : List AObj).getD o .gone) (fun _ => none) b) = Y := by
    funext b
    refine propext ⟨fun h => h.elim id fun ⟨o, h, _⟩ => by simp [isLive] at h, .inl⟩
   refine ⟨v', fun _ => none, k1, k2, ⟨fun o b h => by simp [isLive] at h, fun o h => by simp [isLive] at h, fun o o' b h => by simp [isLive] at h, fun o b h => by cases h⟩, ?_, (fun o b h => by cases h), (fun o h => by simp at h), (fun o b _ h => by cases h)⟩
   rw [none']
   have k4 : WRep w' _ β' (.a (.osl 0 n 0 0)) v' := k4
   refine show WRep w' Y (fun _ => none) (.a (.fz (.sl false n []))) v' from ?_
   cases k4 with
   | a _ _ k4 => cases k4 with
    | oslN => exact .a _ _ (.fz _ _ (.slnil n))
    | osl o n off len b' q cap sz t p1 p2 p3 p4 p5 =>
     obtain ⟨kl, kY⟩ := k3.here (o := 0) (b := b') (by simp [isLive]) p1
     exact .a _ _ (.fz _ _ (.sl false n [] b' q cap 0 (fun _ _ => .bool false) rfl (Nat.zero_le _) kY kl (fun i e h => by simp at h) (fun i j e f h => by simp at h) (fun i j e f h => by simp at h)))
theorem AC.clone_le {P : Program} {f : FuncId} {n M : Nat} (h0 : AC P f [.c (.a (.fz .nils))] [] (.c (.a (.fz .nils))) []) (h1 : ∀ es : List (List FV), es.length ≤ M → AC P f [.c (.a (.fz (.sl true n es)))] [] (.c (.a (.osl 0 n 0 es.length))) [.arz n es]) :
  (∀ es : List (List FV), es ≠ [] → es.length ≤ M → AC P f [.c (.a (.fz (.sl false n es)))] [] (.c (.a (.osl 0 n 0 es.length))) [.arz n es]) ∧ AC P f [.c (.a (.fz (.sl false n [])))] [] (.c (.a (.fz (.sl false n [])))) [] := by
 refine ⟨fun es hne hl => ⟨h0.1, by simp, fun w vals β Y g1 g2 gl g3 g4 => ?_⟩, (AC.clone0 h0 (h1 [] (Nat.zero_le _)))⟩
 obtain ⟨v, rfl, hv⟩ := zt g4
 rcases znd hv with ⟨_, e⟩ | hv
 · exact absurd e hne
 · exact (h1 es hl).2.2 w [v] β Y g1 g2 gl g3 (zlp hv)
end Go.AM

namespace Go.AM
section
variable {β : Type}
def oN (n : Nat) (K : Nat → β) : β := match n with
 | 0 => K 0
 | k + 1 => K (k + 1)
def oI (n : Int) (K : Int → β) : β := match n with
 | .ofNat k => oN k fun k => K (.ofNat k)
 | .negSucc k => oN k fun k => K (.negSucc k)
def oL {α : Type} (f : α → (α → β) → β) : List α → (List α → β) → β
 | [], K => K []
 | x :: l, K => f x fun x => oL f l fun l => K (x :: l)
def o1 {α : Type} (x : α) (K : α → β) : β := K x
def oB (b : Bool) (K : Bool → β) : β := match b with
 | true => K true
 | false => K false
def oF (x : FV) (K : FV → β) : β := match x with
 | .int k n => oI n fun n => K (.int k n)
 | .bool b => oB b fun b => K (.bool b)
 | .str l => oL o1 l fun l => K (.str l)
 | .sl nn n es => oB nn fun nn => oN n fun n => oL (oL o1) es fun es => K (.sl nn n es)
 | .pt cs => oL o1 cs fun cs => K (.pt cs)
 | .z0 nn => oB nn fun nn => K (.z0 nn)
 | .nils => K .nils
 | .cst v => K (.cst v)
def oA (x : AV) (K : AV → β) : β := match x with
 | .fz x => oF x fun x => K (.fz x)
 | .ep o n i j => oN o fun o => oN n fun n => oN i fun i => oN j fun j => K (.ep o n i j)
 | .osl o n i j => oN o fun o => oN n fun n => oN i fun i => oN j fun j => K (.osl o n i j)
 | .mp o => oN o fun o => K (.mp o)
 | .any => K .any
def oP {α γ : Type} (f : α → (α → β) → β) (g : γ → (γ → β) → β) (p : α × γ) (K : α × γ → β) : β := match p with
 | (a, b) => f a fun a => g b fun b => K (a, b)
def oW (x : WV) (K : WV → β) : β := match x with
 | .a x => oA x fun x => K (.a x)
 | .fn f a b => oL (oP oB (oL oA)) a fun a => oL (oP oB (oL oA)) b fun b => K (.fn f a b)
def oT (x : TV) (K : TV → β) : β := match x with
 | .any => K .any
 | .c x => oW x fun x => K (.c x)
 | .agg cs => oL oW cs fun cs => K (.agg cs)
 | .tup vs => oL (oP oB (oL oW)) vs fun vs => K (.tup vs)
def oO (x : AObj) (K : AObj → β) : β := match x with
 | .gone => K .gone
 | .arr n es => oN n fun n => oL (oL oW) es fun es => K (.arr n es)
 | .arz n fs => oN n fun n => oL (oL oF) fs fun fs => K (.arz n fs)
 | .mapo es => oL (oP (oP oB (oL oF)) (oP oB (oL oW))) es fun es => K (.mapo es)
 | .mapz es => oL (oP (oP oB (oL oF)) (oP oB (oL oF))) es fun es => K (.mapz es)
def z93 {α : Type} (f : α → (α → β) → β) : Prop := ∀ x K, f x K = K x
theorem z2v : z93 (oN (β := β)) := fun x K => by cases x <;> rfl
theorem opens_I : z93 (oI (β := β)) := fun x K => by cases x <;> (simp only [oI]; rw [z2v])
theorem zlm {α : Type} : z93 (o1 (α := α) (β := β)) := fun _ _ => rfl
theorem z52 : z93 (oB (β := β)) := fun x K => by cases x <;> rfl
theorem z0q {α : Type} {f : α → (α → β) → β} (h : z93 f) : z93 (oL f) := fun l => by
 induction l with
 | nil => exact fun _ => rfl
 | cons x l ih => intro K; simp only [oL]; rw [h, ih]
theorem z56 {α γ : Type} {f : α → (α → β) → β} {g : γ → (γ → β) → β} (hf : z93 f) (hg : z93 g) : z93 (oP f g) := fun p K => by
 obtain ⟨a, b⟩ := p
 simp only [oP]; rw [hf, hg]
theorem zbn : z93 (oF (β := β)) := fun x K => by
 cases x <;> simp only [oF]
 · rw [opens_I]
 · rw [z52]
 · rw [z0q zlm]
 · rw [z52, z2v, z0q (z0q zlm)]
 · rw [z52]
 · rw [z0q zlm]
theorem zka : z93 (oA (β := β)) := fun x K => by
 cases x <;> simp only [oA]
 · rw [zbn]
 · rw [z2v, z2v, z2v, z2v]
 · rw [z2v, z2v, z2v, z2v]
 · rw [z2v]
theorem zdi : z93 (oW (β := β)) := fun x K => by
 cases x <;> simp only [oW]
 · rw [zka]
 · rw [z0q (z56 z52 (z0q zka)), z0q (z56 z52 (z0q zka))]
theorem zd5 : z93 (oT (β := β)) := fun x K => by
 cases x <;> simp only [oT]
 · rw [zdi]
 · rw [z0q zdi]
 · rw [z0q (z56 z52 (z0q zdi))]
theorem zlx : z93 (oO (β := β)) := fun x K => by
 cases x <;> simp only [oO]
 · rw [z2v, z0q (z0q zdi)]
 · rw [z2v, z0q (z0q zbn)]
 · rw [z0q (z56 (z56 z52 (z0q zbn)) (z56 z52 (z0q zdi)))]
 · rw [z0q (z56 (z56 z52 (z0q zbn)) (z56 z52 (z0q zbn)))]
end
abbrev RunF := FuncId → List TV → List AObj → Option (TV × List AObj)
def zs0 (P : Program) (run : RunF) : Prop := ∀ f args Hs r Hs', run f args Hs = some (r, Hs') → AC P f args Hs r Hs'
def zmc (run : RunF) (f : FuncId) (args : List TV) (h : Nat → AObj) (fr : Nat) : Option (TV × AHeap × List Nat) :=
 match zio h 400 (args.flatMap TV.ids) [] with
 | ids => match zan ids && ids.all (fun o => zgv (h o) && (h o).inn ids) && args.all (TV.inn ids) && ids.all (fun o => Nat.blt o fr) with
  | true => match run f (args.map (TV.ren (inv ids))) (ids.map fun o => (h o).ren (inv ids)) with
   | some (r, Hs') => match Nat.ble Hs'.length (ids.length + 32) with
    | true => some (r.ren (sub ids fr), z1z (sub ids fr) ids Hs' ++ z2d (sub ids fr) fr (Hs'.drop ids.length), ids)
    | false => none
   | none => none
  | false => none
theorem zk5 {P : Program} {run : RunF} (hr : zs0 P run) {f : FuncId} {args : List TV} {h : Nat → AObj} {fr : Nat} {r : TV} {u : AHeap} {rd : List Nat} (hc : zmc run f args h fr = some (r, u, rd)) :
  CallK P f args h fr fun r' u' rd' => r' = r ∧ u' = u ∧ rd' = rd := by
 unfold zmc at hc
 generalize zio h 400 (args.flatMap TV.ids) [] = ids at hc
 simp only at hc
 split at hc
 · rename_i hb
   simp only [Bool.and_eq_true] at hb
   obtain ⟨⟨⟨h1, h2⟩, h3⟩, h0⟩ := hb
   have h0 : ∀ i ∈ ids, i < fr := fun i hi => Nat.le_of_ble_eq_true (List.all_eq_true.1 h0 i hi)
   have ha := zd0 (fr := fr) h3
   have ho := z6h (fr := fr) h2
   split at hc
   · rename_i r0 Hs' hrun
     split at hc
     · rename_i hlen
       simp only [Option.some.injEq, Prod.mk.injEq] at hc
       refine ⟨ids, [], _, _, _, _, hr _ _ _ _ _ hrun, ⟨z38 h1, h0⟩, Nat.le_of_ble_eq_true hlen, ho.1, ?_, ha.2, ho.2, .inl rfl, by simpa using hc⟩
       rw [z0y, ha.1]; exact z58
     · cases hc
   · cases hc
 · cases hc
def callX (run : RunF) (mode : FuncId → Nat) (f : FuncId) (args : List TV) (h : Nat → AObj) (fr : Nat) : Option (TV × AHeap × List Nat) :=
 match Nat.ble (mode f) 1 with
 | true => zmc run f args h fr
 | false => match args.flatMap (zax h) with
  | L => match zmc run f (args.map (TV.lend L)) (over (L.map fun p => (p.1, AObj.gone)) h) fr with
   | some (r, u, rd) => some (r, u ++ L.map (fun p => (p.1, AObj.gone)), rd ++ L.map Prod.fst)
   | none => none
theorem callX_ok {P : Program} {run : RunF} {mode : FuncId → Nat} (hr : zs0 P run) {f : FuncId} {args : List TV} {h : Nat → AObj} {fr : Nat} {r : TV} {u : AHeap} {rd : List Nat} (hc : callX run mode f args h fr = some (r, u, rd)) :
  CallE P f args h fr fun r' u' rd' => r' = r ∧ u' = u ∧ rd' = rd := by
 unfold callX at hc
 split at hc
 · refine ⟨[], (fun p hp => by cases hp), ?_⟩
   rw [z0y]
   have e : over (([] : Lent).map fun p => (p.1, AObj.gone)) h = h := by funext o; rfl
   rw [e]
   exact (zk5 hr hc).imp fun r u rd hk => by simpa using hk
 · refine ⟨args.flatMap (zax h), z8w.ok, ?_⟩
   generalize args.flatMap (zax h) = L at hc ⊢
   simp only at hc
   split at hc
   · rename_i r1 u1 rd1 hk
     simp only [Option.some.injEq, Prod.mk.injEq] at hc
     refine (zk5 hr hk).imp fun r u rd hk => ?_
     obtain ⟨rfl, rfl, rfl⟩ := hk
     exact hc
   · cases hc
section
variable (P : Program) (run : RunF) (mode : FuncId → Nat)
def stepX (fr : Nat) (o : Oper) (e : Env) (h : AHeap) (tr : z3e) : Option (Env × AHeap × z3e) :=
 match goCall o.op with
 | some c => match calleeOf (ev e) c with
  | some (f, args) => match callX run mode f args (hook h) fr with
   | some (r, u, rd) => oT r fun r => some (putE o.dst r e, u ++ h, (rd, u.map Prod.fst) :: tr)
   | none => none
  | none => none
 | none => match aopS P o fr (ev e) (hook h) with
  | some r => oT r.val fun v => some (putE o.dst v e, r.upd ++ h, (r.rd, r.upd.map Prod.fst) :: tr)
  | none => none
def lexX (ops : Array Oper) (nx : Nat) : List Oper → Nat → Env → AHeap → z3e → Option (Env × AHeap × z3e)
 | [], _, e, h, tr => some (e, h, tr)
 | o :: rest, i, e, h, tr => match want ops o (look e) with
  | none => none
  | some w => match (match w with | true => stepX P run mode (nx + 32 * i) o e h tr | false => some (putE o.dst (.tup []) e, h, ([], []) :: tr)) with
   | some (e, h, tr) => lexX ops nx rest (i + 1) e h tr
   | none => none
variable {P run mode}
theorem ztj (hr : zs0 P run) {ops : Array Oper} {nx : Nat} : ∀ {l : List Oper} {i : Nat} {e : Env} {h : AHeap} {tr : z3e} {e1 : Env} {h1 : AHeap} {tr1 : z3e},
  lexX P run mode ops nx l i e h tr = some (e1, h1, tr1) → lex P ops nx l i e h tr fun e h tr => e = e1 ∧ h = h1 ∧ tr = tr1
 | [], _, _, _, _, _, _, _, hl => by
  simp only [lexX, Option.some.injEq, Prod.mk.injEq] at hl
  exact hl
 | o :: rest, i, e, h, tr, e1, h1, tr1, hl => by
  unfold lexX at hl
  unfold lex zj6
  split at hl
  · cases hl
  · rename_i w hw
    rw [hw]
    simp only
    split at hl
    · rename_i e2 h2 tr2 he
      have ih := ztj hr hl
      cases w with
      | false =>
       simp only [Option.some.injEq, Prod.mk.injEq] at he
       obtain ⟨rfl, rfl, rfl⟩ := he
       simpa using ih
      | true =>
       simp only at he
       rw [if_pos rfl]
       unfold stepX at he
       unfold zq2
       cases hg : goCall o.op with
       | some c =>
        rw [hg] at he
        simp only at he ⊢
        split at he
        · rename_i f args hcl
          rw [hcl]
          simp only
          split at he
          · rename_i r u rd hcall
            rw [zd5] at he
            simp only [Option.some.injEq, Prod.mk.injEq] at he
            obtain ⟨rfl, rfl, rfl⟩ := he
            refine (callX_ok hr hcall).imp fun r' u' rd' hk => ?_
            obtain ⟨rfl, rfl, rfl⟩ := hk
            exact ih
          · cases he
        · cases he
       | none =>
        rw [hg] at he
        simp only at he ⊢
        split at he
        · rename_i r ha
          rw [ha]
          rw [zd5] at he
          simp only [Option.some.injEq, Prod.mk.injEq] at he
          obtain ⟨rfl, rfl, rfl⟩ := he
          exact ih
        · cases he
    · cases hl
end
def tidyX (m : Nat) (U live : List Nat) (s : St) : Option St :=
 match z8p m U (hook s.heap) (live.flatMap fun t => (look s.env t).ids) with
 | rest => match okU m U rest && (keep m U ++ rest).all (fun o => (hook s.heap o).inn (keep m U ++ rest)) && live.all (fun t => (look s.env t).inn (keep m U ++ rest)) with
  | true => oL (oP oN oT) (live.map fun t => (t, (look s.env t).ren (invU m rest))) fun env => oL oO (z8d m U rest (hook s.heap)) fun obs => some ⟨env, z1d 0 obs, m + rest.length⟩
  | false => none
theorem tidyX_ok {m : Nat} {U live : List Nat} {s s' : St} (h : tidyX m U live s = some s') : Sle m s s' := by
 have hg : zgt m [(0, live), (1000001, U)] (fun _ s1 => s1 = s') 0 s := by
  unfold tidyX at h
  unfold zgt
  simp only [z0m, if_true, lvU, show ¬ ((0 : Nat) = 1000001) by decide, if_false]
  generalize z8p m U (hook s.heap) (live.flatMap fun t => (look s.env t).ids) = rest at h ⊢
  simp only at h ⊢
  split at h
  · rename_i hb
    try rw [hb]
    rw [z0q (z56 z2v zd5), z0q zlx, Option.some.injEq] at h
    exact h
  · cases h
 obtain ⟨s1, h1, h2⟩ := zde hg
 rw [← h2]; exact h1
def goneX (m : Nat) (s : St) : List Nat := (List.range m).filter fun o => !zgv (hook s.heap o)
section
variable (P : Program) (run : RunF) (mode : FuncId → Nat) (n m lf : Nat)
def regX (ops : Array Oper) (d : Bool) (s : St) : Option St :=
 match dstB ops n with
 | true => match lexX P run mode ops s.nx ops.toList 0 s.env s.heap [] with
  | some (e, h, tr) => match !d || zl8 ops tr with
   | true => some ⟨e, h, s.nx + 32 * ops.size⟩
   | false => none
  | none => none
 | false => none
def loopX (F : St → Option (AExit × St)) : Nat → St → Option (AExit × St)
 | 0, _ => none
 | k + 1, s => match tidyX m (goneX m s) (List.range n) s with
  | some s => match F s with
   | some (.normal, s) => loopX F k s
   | r => r
  | none => none
def z67 : Code → St → Option (AExit × St)
 | .skip, s => some (.normal, s)
 | .ret, s => some (.ret, s)
 | .exit i, s => some (.exit i, s)
 | .seq a b, s => match z67 a s with
  | some (.normal, s) => z67 b s
  | r => r
 | .cond x a b, s => match ev s.env x with
  | .c (.a (.fz (.bool t))) => match t with
   | true => z67 a s
   | false => z67 b s
  | _ => none
 | .block i c, s => match z67 c s with
  | some (.exit j, s) => match Nat.beq j i with
   | true => some (.normal, s)
   | false => some (.exit j, s)
  | r => r
 | .region _ ops d, s => match regX P run mode n ops d s with
  | some s => some (.normal, s)
  | none => none
 | .loop c, s => loopX n m (z67 c) lf s
 | _, _ => none
variable {P run mode n m lf}
theorem zni {c : Code} {F : St → Option (AExit × St)} (hF : ∀ s e s', F s = some (e, s') → Awp P n m c (fun e1 s1 => e1 = e ∧ s1 = s') s) : ∀ {k : Nat} {s : St} {e : AExit} {s' : St},
  loopX n m F k s = some (e, s') → Alwp P n m c (fun e1 s1 => e1 = e ∧ s1 = s') s
 | 0, _, _, _, h => by cases h
 | k + 1, s, e, s', h => by
  unfold loopX at h
  split at h
  · rename_i s1 hs1
    refine Alwp.weak (tidyX_ok hs1) (Alwp.unroll ?_)
    split at h
    · rename_i s2 h2
      refine (hF _ _ _ h2).mono fun e1 s1 hk => ?_
      obtain ⟨rfl, rfl⟩ := hk
      exact zni hF h
    · rename_i hne
      refine (hF _ _ _ h).mono fun e1 s1 hk => ?_
      obtain ⟨rfl, rfl⟩ := hk
      cases e1 with
      | normal => exact absurd h (hne _)
      | _ => exact ⟨rfl, rfl⟩
  · cases h
theorem z3x (hP : P.follows .mixedOrders = true) (hr : zs0 P run) : ∀ {c : Code} {s : St} {e : AExit} {s' : St}, z67 P run mode n m lf c s = some (e, s') → Awp P n m c (fun e1 s1 => e1 = e ∧ s1 = s') s
 | .skip, s, e, s', h => by
  simp only [z67, Option.some.injEq, Prod.mk.injEq] at h; exact Awp.skip ⟨h.1, h.2⟩
 | .ret, s, e, s', h => by
  simp only [z67, Option.some.injEq, Prod.mk.injEq] at h; exact Awp.ret ⟨h.1, h.2⟩
 | .exit i, s, e, s', h => by
  simp only [z67, Option.some.injEq, Prod.mk.injEq] at h; exact Awp.exit ⟨h.1, h.2⟩
 | .seq a b, s, e, s', h => by
  unfold z67 at h
  refine Awp.seq ?_
  split at h
  · rename_i s1 h1
    refine (z3x hP hr h1).mono fun e1 s2 hk => ?_
    obtain ⟨rfl, rfl⟩ := hk
    exact z3x hP hr h
  · rename_i hne
    refine (z3x hP hr h).mono fun e1 s2 hk => ?_
    obtain ⟨rfl, rfl⟩ := hk
    cases e1 with
    | normal => exact absurd h (hne _)
    | _ => exact ⟨rfl, rfl⟩
 | .cond x a b, s, e, s', h => by
  unfold z67 at h
  split at h
  · rename_i t ht
    cases t with
    | true => exact Awp.cond ht (fun _ => z3x hP hr h) (fun e => by cases e)
    | false => exact Awp.cond ht (fun e => by cases e) (fun _ => z3x hP hr h)
  · cases h
 | .block i c, s, e, s', h => by
  unfold z67 at h
  refine Awp.block ?_
  split at h
  · rename_i j s1 h1
    refine (z3x hP hr h1).mono fun e1 s2 hk => ?_
    obtain ⟨rfl, rfl⟩ := hk
    simp only [z1t]
    split at h
    · rename_i hb
      rw [if_pos (Nat.eq_of_beq_eq_true hb)]
      simp only [Option.some.injEq, Prod.mk.injEq] at h; exact ⟨h.1, h.2⟩
    · rename_i hb
      rw [if_neg (Nat.ne_of_beq_eq_false hb)]
      simp only [Option.some.injEq, Prod.mk.injEq] at h; exact ⟨h.1, h.2⟩
  · rename_i hne
    refine (z3x hP hr h).mono fun e1 s2 hk => ?_
    obtain ⟨rfl, rfl⟩ := hk
    cases e1 with
    | exit j => exact absurd h (hne _ _)
    | _ => exact ⟨rfl, rfl⟩
 | .region i ops d, s, e, s', h => by
  unfold z67 at h
  split at h
  · rename_i s1 h1
    simp only [Option.some.injEq, Prod.mk.injEq] at h
    obtain ⟨rfl, rfl⟩ := h
    unfold regX at h1
    split at h1
    · rename_i hd
      refine Awp.region hP hd ?_
      split at h1
      · rename_i e2 h2 tr2 hl
        split at h1
        · rename_i hb
          rw [Option.some.injEq] at h1
          subst h1
          refine zoh ?_ (ztj hr hl)
          rintro e1 h1 tr1 ⟨rfl, rfl, rfl⟩
          refine ⟨fun hd2 => ?_, rfl, rfl⟩
          subst hd2; simpa using hb
        · cases h1
      · cases h1
    · cases h1
  · cases h
 | .loop c, s, e, s', h => by
  unfold z67 at h
  exact Alwp.loop (zni (fun s e s' hs => z3x hP hr hs) h)
 | .rangeFunc .., _, _, _, h => by cases h
 | .scope _, _, _, _, h => by cases h
 | .label _, _, _, _, h => by cases h
 | .goto _, _, _, _, h => by cases h
 | .refuse _, _, _, _, h => by cases h
end
def lentR (fz : Bool) (h : Nat → AObj) (rs : List TV) : Lent := match fz with | true => rs.flatMap (zax h) | false => []
theorem lentR_ok {fz : Bool} {h : Nat → AObj} {rs : List TV} : LentOK h (lentR fz h rs) := by
 cases fz with
 | true => exact z8w
 | false => exact fun p hp => nomatch hp
def retX (P : Program) (fz : Bool) (rl : List ResultVar) (m : Nat) (U : List Nat) (s : St) : Option (TV × List AObj) :=
 match ziv P s rl with
 | none => none
 | some rs => match lentR fz (hook s.heap) rs with
  | E => match U ++ (E.map Prod.fst).filter (fun o => Nat.blt o m) with
   | U => match z8p m U (hook s.heap) ((rs.map (TV.lend E)).flatMap TV.ids) with
    | rest => match okU m U rest && (keep m U ++ rest).all (fun o => (hook s.heap o).inn (keep m U ++ rest)) && (rs.map (TV.lend E)).all (TV.inn (keep m U ++ rest)) && E.all (fun p => !(keep m U ++ rest).contains p.1) with
     | true => match zl0 ((rs.map (TV.lend E)).map (TV.ren (invU m rest))) with
      | some r0 => oT r0 fun r0 => oL oO (z8d m U rest (hook s.heap)) fun Hs => some (r0, Hs)
      | none => none
     | false => none
theorem zu7 {P : Program} {fz : Bool} {rl : List ResultVar} {m : Nat} {U : List Nat} {s : St} {r : TV} {Hs' : List AObj} (h : retX P fz rl m U s = some (r, Hs')) : zul P rl m r Hs' s := by
 unfold retX at h
 split at h
 · cases h
 · rename_i rs hrs
   dsimp only at h
   split at h
   · rename_i hb
     simp only [Bool.and_eq_true] at hb
     obtain ⟨⟨⟨h1, h2⟩, h3⟩, h5⟩ := hb
     split at h
     · rename_i r0 hr0
       rw [zd5, z0q zlx] at h
       simp only [Option.some.injEq, Prod.mk.injEq] at h
       obtain ⟨rfl, rfl⟩ := h
       refine zfw (E := lentR fz (hook s.heap) rs) hrs rfl lentR_ok.ok h1 h2 h3 (fun p hp hm => ?_) hr0 (.refl _)
       have := List.all_eq_true.1 h5 p hp
       simp only [Bool.not_eq_true', List.contains_eq_mem, decide_eq_false_iff_not] at this
       exact this hm
     · cases h
   · cases h
def runX (P : Program) (mode : FuncId → Nat) (lf : Nat) : Nat → RunF
 | 0, _, _, _ => none
 | k + 1, f, args, Hs => match P.funcs[f]? with
  | some fn => match fn.body with
   | some c => match z30 P f && Nat.ble args.length fn.ntmps && Hs.all zgv with
    | true => oL oT args fun args => oL oO Hs fun Hs => match z67 P (runX P mode lf k) mode fn.ntmps Hs.length lf c ⟨z92 0 args, z1d 0 Hs, Hs.length⟩ with
     | some (.exit _, _) => none
     | some (_, s) => match retX P (Nat.ble 1 (mode f) && Nat.ble (mode f) 2) fn.results.toList Hs.length (goneX Hs.length s) s with
      | some (r, Hs') => match Nat.ble Hs.length Hs'.length && (Hs'.drop Hs.length).all zgv with
       | true => some (r, Hs')
       | false => none
      | none => none
     | none => none
    | false => none
   | none => none
  | none => none
theorem ztd {P : Program} {mode : FuncId → Nat} {lf : Nat} (hP : P.follows .mixedOrders = true) : ∀ k, zs0 P (runX P mode lf k)
 | 0 => fun f args Hs r Hs' h => by cases h
 | k + 1 => fun f args Hs r Hs' h => by
  unfold runX at h
  split at h
  · rename_i fn hf
    split at h
    · rename_i c hc
      split at h
      · rename_i hb
        simp only [Bool.and_eq_true] at hb
        rw [z0q zd5, z0q zlx] at h
        have key : ∀ {e : AExit} {s : St}, z67 P (runX P mode lf k) mode fn.ntmps Hs.length lf c ⟨z92 0 args, z1d 0 Hs, Hs.length⟩ = some (e, s) → (∀ i, e ≠ .exit i) →
          (match retX P (Nat.ble 1 (mode f) && Nat.ble (mode f) 2) fn.results.toList Hs.length (goneX Hs.length s) s with
          | some (r, Hs') => match Nat.ble Hs.length Hs'.length && (Hs'.drop Hs.length).all zgv with
           | true => some (r, Hs')
           | false => none
          | none => none) = some (r, Hs') → AC P f args Hs r Hs' := by
         intro e s hs he h
         split at h
         · rename_i r1 Hs1 hret
           split at h
           · rename_i hb2
             simp only [Bool.and_eq_true] at hb2
             simp only [Option.some.injEq, Prod.mk.injEq] at h
             obtain ⟨rfl, rfl⟩ := h
             refine AC.intro hf hc rfl rfl hb.1.1 (Nat.le_of_ble_eq_true hb.1.2) (Nat.le_of_ble_eq_true hb2.1) (fun x hx => zcc (List.all_eq_true.1 hb.2 x hx)) (fun x hx => zcc (List.all_eq_true.1 hb2.2 x hx)) ?_
             refine (z3x hP (ztd hP k) hs).mono fun e1 s1 hk => ?_
             obtain ⟨rfl, rfl⟩ := hk
             cases e1 with
             | exit i => exact absurd rfl (he i)
             | normal => exact zu7 hret
             | ret => exact zu7 hret
           · cases h
         · cases h
        cases hs : z67 P (runX P mode lf k) mode fn.ntmps Hs.length lf c ⟨z92 0 args, z1d 0 Hs, Hs.length⟩ with
        | none => rw [hs] at h; cases h
        | some q =>
         obtain ⟨e, s⟩ := q
         rw [hs] at h
         cases e with
         | exit i => cases h
         | normal => exact key hs (fun i hi => by cases hi) h
         | ret => exact key hs (fun i hi => by cases hi) h
      · cases h
    · cases h
  · cases h
theorem runX_AC {P : Program} (hP : P.follows .mixedOrders = true) (mode : FuncId → Nat) (lf k : Nat) {f : FuncId} {args : List TV} {Hs : List AObj} {r : TV} {Hs' : List AObj} (h : runX P mode lf k f args Hs = some (r, Hs')) : AC P f args Hs r Hs' := ztd hP k _ _ _ _ _ h
end Go.AM




set_option maxRecDepth 100000
open Go Go.Proofs
namespace Go.AM
abbrev RW := List (List FV)
abbrev RT (a : TV) (b : List AObj) (r : TV) (H : List AObj) : Prop := TV.Le a r ∧ b = H
open List (getD length take drop)
open Int (toNat)
abbrev Q0 (a : FV) : WV := .a (.fz a)
abbrev Q1 (a : Int) : FV := .int .i64 a
abbrev Q2 (a : Int) : WV := Q0 (Q1 a)
abbrev Q3 (a b c d : Nat) : WV := .a (.osl a b c d)
abbrev Q4 (a : Nat) (b : WV) : Nat × TV := (a, .c b)
abbrev Q5 (a : Nat) (b : RW) : FV := .sl false a b
abbrev Q6 (a : List UInt8) : WV := Q0 (.str a)
abbrev Q7 (a : Nat) (b : List WV) : AObj := .arr a [b]
abbrev Q8 (a : Nat) (b : RW) : WV := Q0 (Q5 a b)
abbrev Q10 (a b c d : Nat) : WV := .a (.ep a b c d)
abbrev Q11 (a : Nat) (b : List TV) (c : List AObj) (d : TV) (e : List AObj) : Prop := AC Tryz.prog a b c d e
abbrev Q12 (a : Bool) : WV := Q0 (.bool a)
abbrev Q13 (a : Nat) (b : Int) : Nat × TV := Q4 a (Q2 b)
abbrev Q15 (a : Int) (b : List UInt8) (c : Int) (d : WV) : List WV := [Q2 a, Q6 b, Q2 c, d]
abbrev Q17 (a : Int) (b : List UInt8) (c : Int) (d : Nat) (e : RW) : List WV := Q15 a b c (Q8 d e)
abbrev Q18 (a : List WV) : Bool × (List WV) := (false, a)
abbrev Q19 (a b : Nat) (c : List WV) : Nat × AObj := (a, Q7 b c)
abbrev Q20 (a b : Nat) (c : RW) : Nat × AObj := (a, .arz b c)
abbrev Q22 (a b c d e f g h : Nat) : List WV := [Q3 a b c d, Q3 e f g h]
abbrev Q24 (a b c d e f g h i : Nat) : AObj := Q7 a (Q22 b c d e f g h i)
abbrev Q25 (a : Int) : TV := .c (Q2 a)
abbrev Q28  : WV := Q0 .nils
abbrev Q29 (a : Bool) : TV := .c (Q12 a)
abbrev Q30 (a : RW) : AObj := .arz 1 a
abbrev Q31 (a : Int) : List WV := [Q2 a]
abbrev Q32 (a : Int) : Bool × (List WV) := Q18 (Q31 a)
abbrev Q33 (a : RW) : AObj := .arz 6 a
abbrev Q34 (a b : AObj) (c : RW) : List AObj := [a, b, Q30 c]
abbrev Q35 (a b : WV) (c : Int) (d : WV) (e : Int) (f : WV) : List WV := [a, b, Q2 c, d, Q2 e, f]
abbrev Q36 (a : Bool) (b : List AObj) (c : TV) (d : List AObj) : Prop := RT (Q29 a) b c d
abbrev Q37 (a : List WV) : Bool × (List WV) := (true, a)
abbrev Q39 (a : Nat) (b : List TV) (c : List AObj) (d : List (Bool × (List WV))) (e : List AObj) : Prop := Q11 a b c (.tup d) e
abbrev Q41 (a b : Nat) (c : TV) (d : List AObj) (e : Nat) (f : List (Nat × TV)) (g : List (Nat × AObj)) (h : Nat) : Prop := RPt Tryz.prog a b c d e ⟨f, g, h⟩
abbrev Q42 (a : List (Bool × (List WV))) (b : List AObj) (c : TV) (d : List AObj) : Prop := RT (.tup a) b c d
abbrev Q44 (a b c d e f g h i : Nat) (j k : RW) : List AObj := Q34 (Q24 a b c d e f g h i) (Q33 j) k
abbrev Q45 (a : Int) (b : List UInt8) (c : Int) : List WV := Q15 a b c Q28
abbrev Q48 (a b c : Nat) : Nat × TV := Q4 a (Q10 b c 0 0)
abbrev Q51 (a b : Nat) (c : Int) (d : List UInt8) (e : Int) (f : Nat) (g : RW) : Nat × AObj := Q19 a b (Q17 c d e f g)
abbrev Q52 (a b c d : Nat) (e f : Int) (g : Nat) (h : RW) (i j : Int) : List WV := Q35 (Q10 a b c d) (Q2 e) f (Q8 g h) i (Q2 j)
abbrev Q53 (a b : Nat) (c : RW) : Nat × TV := Q4 a (Q8 b c)
abbrev Q54 (a : List WV) (b : Bool × (List WV)) : List (Bool × (List WV)) := [Q37 a, b]
abbrev Q55 (a : Nat) : Nat × AObj := (a, .gone)
abbrev Q56 (a : Nat) (b : List TV) (c : TV) (d : List AObj) : Prop := Q11 a b [] c d
abbrev Q57 (a : Nat) (b : List TV) (c : TV) : Prop := Q56 a b c []
abbrev Q58 (a : Bool) (b : TV) (c : List AObj) : Prop := Q36 a [] b c
abbrev Q59 (a : TV) (b : Int) (c : TV) : List TV := [a, Q25 b, c]
abbrev Q60 (a : Nat) (b : List TV) (c : Bool) : Prop := Q57 a b (Q29 c)
abbrev Q61 (a b c d e f g h i j : Nat) : Nat × AObj := Q19 a b (Q22 c d e f g h i j)
abbrev Q62 (a : TV) (b : List AObj) : Prop := Q58 false a b
abbrev Q63 (a b : List WV) : List (Bool × (List WV)) := Q54 a (Q18 b)
abbrev Q65 (a b c : Nat × TV) (d : Nat) (e : Int) : List (Nat × TV) := [a, b, c, Q13 d e]
abbrev Q67 (a : Int) (b : List UInt8) (c : Int) (d : RW) : TV := .agg (Q17 a b c 4 d)
abbrev Q68 (a : Nat) (b : FV) : Nat × TV := Q4 a (Q0 b)
abbrev Q69 (a b : Nat) (c : Int) (d : List UInt8) (e : Int) : Nat × AObj := Q19 a b (Q45 c d e)
abbrev Q71  : List WV := [Q28]
abbrev Q72 (a b c d e : Nat) (f g : Int) (h : Nat) (i : RW) (j k : Int) : AObj := Q7 a (Q52 b c d e f g h i j k)
abbrev Q73 (a b : Bool × (List WV)) (c : Int) : List (Bool × (List WV)) := [a, b, Q32 c]
abbrev Q75 (a b : Nat) : AV := .ep a b 0 0
abbrev Q76 (a : Nat) (b : RW) : TV := .c (Q8 a b)
abbrev Q77 (a b : Nat) : Nat × TV := Q48 a b 4
abbrev Q78 (a : TV) (b : Int) : List TV := [a, Q25 b]
abbrev Q80 (a : Bool × (List WV)) (b c : Int) : List (Bool × (List WV)) := Q73 a (Q32 b) c
abbrev Q81 (a : Nat) : AV := Q75 0 a
abbrev Q86 (a b c d : Nat) : AObj := Q24 2 a 6 0 b c 1 0 d
abbrev Q87 (a b c d e : AObj) : List AObj := [a, b, .gone, c, d, e]
abbrev Q88 (a : AObj) (b c d e : Nat) (f g : RW) : List AObj := [a, Q86 b c d e, Q33 f, Q30 g]
abbrev Q89 (a : Bool) : List WV := [Q12 a]
abbrev Q90 (a : List WV) (b : Bool) : List (Bool × (List WV)) := Q63 a (Q89 b)
abbrev Q91 (a : Int) : AObj := Q7 1 (Q31 a)
abbrev Q92  : AV := Q81 1
abbrev Q93 (a b c d : Nat) : List WV := [Q3 a b c d]
abbrev Q94 (a b c d e : Nat) : AObj := Q7 a (Q93 b c d e)
abbrev Q95 (a b : Nat) (c : Int) : Nat × AObj := Q19 a b (Q31 c)
abbrev Q96 (a : Int) (b : List AObj) (c : TV) (d : List AObj) : Prop := RT (Q25 a) b c d
abbrev Q97 (a : TV) (b : Int) (c : WV) : List TV := Q59 a b (.c c)
abbrev Q98 (a : Nat) (b : Int) (c : List UInt8) (d : Int) (e : Nat) (f : RW) : AObj := Q7 a (Q17 b c d e f)
abbrev Q99 (a : Nat) : AObj := Q7 a Q71
abbrev Q101 (a b : Nat) : TV := .c (Q10 a b 0 0)
abbrev Q102 (a : Nat) : TV := Q101 0 a
abbrev Q103 (a : Nat) (b c : TV) : List TV := [Q102 a, b, c]
abbrev Q107 (a : Int) (b : AObj) : List AObj := [Q91 a, b]
abbrev Q108 (a : AObj) (b : RW) : List AObj := [a, Q30 b]
abbrev Q109 (a b c d e : Nat) (f : RW) : List AObj := Q108 (Q94 a b c d e) f
abbrev Q110 (a : Int) : Nat × TV := Q13 7 a
abbrev Q114 (a : Nat) (b : Int) (c : Nat × TV) (d : Int) (e : Nat) (f : FV) (g : Nat) (h : Int) (i : Nat) (j : Int) : List (Nat × TV) := [Q13 a b, c, Q110 d, Q68 e f, Q13 g h, Q13 i j]
abbrev Q115 (a : TV) (b : WV) : List TV := [a, .c b]
abbrev Q116 (a : Nat) (b : RW) : Nat × AObj := Q20 a 1 b
abbrev Q117 (a b c d e : Nat) : Nat × TV := Q4 a (Q3 b c d e)
abbrev Q118 (a : Nat) : Nat × TV := Q4 a Q28
abbrev Q119 (a b c d : Nat) (e f : RW) : List AObj := [Q86 a b c d, .gone, .gone, Q33 e, Q30 f]
abbrev Q122 (a : Int) (b : Bool) (c : Int) (d : List UInt8) (e : Int) (f : WV) : List WV := Q35 (Q2 a) (Q12 b) c (Q6 d) e f
theorem hP : Tryz.prog.follows .mixedOrders = true := by kernel_rfl
def sh : FuncId → List Sh
 | 12 => [⟨Sto × Sto, fun _ => (.tup [Q18 [Q10 0 2 0 0], Q18 [Q10 3 2 0 0]]), fun x _ => [Q86 1 (length x.1.V) 2 (length x.1.T), Q33 (SR x.1.V), Q30 (IR x.1.T), Q86 4 (length x.2.V) 5 (length x.2.T), Q33 (SR x.2.V), Q30 (IR x.2.T)], false, false⟩]
 | 13 => [⟨List Tm × Int × Int, fun x => (.tup (Q80 (Q18 [Q8 4 (FTs x.1)]) x.2.1 x.2.2)), fun _ H => H, true, false⟩]
 | 14 => [⟨List Tm × Int × Int, fun x => (.tup (Q80 (Q18 [Q8 4 (FTs x.1)]) x.2.1 x.2.2)), fun _ H => H, true, false⟩]
 | 18 => [⟨(Tm × Int × Int) × Sto, fun x => (.tup (Q80 (Q37 (cT x.1.1)) x.1.2.1 x.1.2.2)), fun x _ => (Q119 3 (length x.2.V) 4 (length x.2.T) (SR x.2.V) (IR x.2.T)), true, false⟩]
 | 19 => [⟨Int × Bool × Tm × Bool, fun x => (.tup (Q90 (Q122 x.1 x.2.1 x.2.2.1.k x.2.2.1.s x.2.2.1.n (Q8 4 (FTs x.2.2.1.l))) x.2.2.2)), fun _ H => H, true, false⟩]
 | 21 => [⟨Tm × Int × Int, fun x => (.tup (Q80 (Q37 (cT x.1)) x.2.1 x.2.2)), fun _ H => H, true, false⟩]
 | 24 => [⟨Tm, fun x => (aT x), fun _ H => H, true, false⟩]
 | 26 => [⟨Tm, fun x => (aT x), fun _ H => H, true, false⟩]
 | 30 => [⟨Sto × Sto, fun _ => (.tup [Q18 [Q10 0 2 0 0], Q18 [Q10 3 2 0 0]]), fun x _ => [Q86 1 (length x.1.V) 2 (length x.1.T), Q33 (SR x.1.V), Q30 (IR x.1.T), Q86 4 (length x.2.V) 5 (length x.2.T), Q33 (SR x.2.V), Q30 (IR x.2.T)], false, false⟩]
 | 32 => [⟨(Int × Int) × Sto, fun x => (.tup [Q32 x.1.1, Q32 x.1.2]), fun x _ => (Q119 3 (length x.2.V) 4 (length x.2.T) (SR x.2.V) (IR x.2.T)), true, false⟩]
 | 34 => [⟨Unit, fun _ => (Q102 2), fun _ _ => (Q44 2 1 6 0 0 2 1 0 0 [] []), false, false⟩]
 | 35 => [⟨Int × Sto, fun x => (Q25 x.1), fun x _ => (Q119 3 (length x.2.V) 4 (length x.2.T) (SR x.2.V) (IR x.2.T)), false, false⟩]
 | 36 => [⟨(Int × Int) × Sto, fun x => (.tup [Q32 x.1.1, Q32 x.1.2]), fun x _ => (Q119 3 (length x.2.V) 4 (length x.2.T) (SR x.2.V) (IR x.2.T)), true, false⟩]
 | 45 => [⟨Tm, fun x => (aT x), fun _ H => H, true, false⟩]
 | 46 => [⟨Int × Sto, fun x => (Q25 x.1), fun x _ => (Q119 3 (length x.2.V) 4 (length x.2.T) (SR x.2.V) (IR x.2.T)), false, false⟩]
 | 47 => [⟨Int × Sto, fun x => (Q25 x.1), fun x _ => (Q119 3 (length x.2.V) 4 (length x.2.T) (SR x.2.V) (IR x.2.T)), false, false⟩]
 | 48 => [⟨Int × Sto, fun x => (Q25 x.1), fun x _ => (Q119 3 (length x.2.V) 4 (length x.2.T) (SR x.2.V) (IR x.2.T)), false, false⟩]
 | 49 => [⟨Bool, fun x => (Q29 x), fun _ H => H, true, true⟩]
 | 51 => [⟨Tm × Bool, fun x => (.tup (Q90 (cT x.1) x.2)), fun _ H => H, true, false⟩]
 | 55 => [⟨Tm × Int × Int, fun x => (.tup (Q80 (Q37 (cT x.1)) x.2.1 x.2.2)), fun _ H => H, true, false⟩]
 | 56 => [⟨Tm × Bool, fun x => (.tup (Q90 (cT x.1) x.2)), fun _ H => H, true, false⟩]
 | 58 => [⟨Int, fun _ => (.tup []), fun x _ => [Q91 x], false, false⟩, ⟨Unit, fun _ => (.tup []), fun _ _ => [Q99 1], false, false⟩, ⟨Nat × RW, fun _ => (.tup []), fun x _ => (Q109 1 1 1 0 x.1 x.2), false, false⟩, ⟨Nat × RW, fun _ => (.tup []), fun x _ => (Q34 (Q94 1 2 1 0 x.1) .gone x.2), false, false⟩]
 | 59 => [⟨Unit, fun _ => (.tup []), fun _ _ => [Q99 1], false, false⟩, ⟨Nat × RW, fun _ => (.tup []), fun x _ => (Q109 1 1 1 0 x.1 x.2), false, false⟩, ⟨Nat × RW, fun _ => (.tup []), fun x _ => (Q34 (Q94 1 2 1 0 x.1) .gone x.2), false, false⟩]
 | 63 => [⟨Tm × Sto × Int × Int × List Tm × Int × Int, fun x => (aT x.1), fun x _ => (Q87 (Q72 6 1 2 0 0 x.2.2.1 x.2.2.2.1 4 (FTs x.2.2.2.2.1) x.2.2.2.2.2.1 x.2.2.2.2.2.2) (Q86 4 (length x.2.1.V) 5 (length x.2.1.T)) .gone (Q33 (SR x.2.1.V)) (Q30 (IR x.2.1.T))), true, false⟩]
 | 67 => [⟨Tm × Int × Int, fun x => (.tup (Q80 (Q37 (cT x.1)) x.2.1 x.2.2)), fun _ H => H, true, false⟩]
 | 68 => [⟨Tm × Int × Int, fun x => (.tup (Q54 (cT x.1) (Q32 x.2.1))), fun x H => List.set H 3 (Q91 x.2.2), true, false⟩]
 | 69 => [⟨Int, fun _ => (.tup []), fun x _ => [Q91 x], false, false⟩]
 | 70 => [⟨List Tm, fun x => (Q76 4 (FTs x)), fun _ H => H, true, false⟩]
 | 71 => [⟨Tm, fun x => (aT x), fun _ H => H, true, false⟩]
 | 72 => [⟨Sto, fun _ => (.tup []), fun x _ => (Q119 3 (length x.V) 4 (length x.T) (SR x.V) (IR x.T)), false, false⟩]
 | 75 => [⟨RW, fun _ => (.c (.fn (.func 108) [] [(false, [Q92])])), fun x _ => [Q7 1 [Q8 8 x]], true, false⟩]
 | 76 => [⟨Int × Sto × Nat × RW × Int, fun x => (Q25 x.1), fun x H => bif Nat.beq H.length 5 then [Q7 3 [Q10 1 2 0 0, Q3 7 8 0 x.2.2.1, Q2 x.2.2.2.2], Q86 5 (length x.2.1.V) 6 (length x.2.1.T), .gone, .gone, .gone, Q33 (SR x.2.1.V), Q30 (IR x.2.1.T), .arz 8 x.2.2.2.1] else (Q87 (Q7 3 [Q10 1 2 0 0, Q28, Q2 x.2.2.2.2]) (Q86 4 (length x.2.1.V) 5 (length x.2.1.T)) .gone (Q33 (SR x.2.1.V)) (Q30 (IR x.2.1.T))), true, false⟩]
 | 77 => [⟨List Int, fun x => (Q76 1 (IR x)), fun _ H => H, true, false⟩]
 | 78 => [⟨List MapZ, fun _ => (Q102 1), fun x _ => [Q7 1 [.a (.mp 1)], .mapz x], true, false⟩]
 | 79 => [⟨List Int, fun x => (Q76 1 (IR x)), fun _ H => H, true, false⟩]
 | 83 => [⟨Int, fun x => (Q25 x), fun _ H => H, true, true⟩]
 | 86 => [⟨Tm × Int × Int, fun x => (.tup (Q80 (Q37 (cT x.1)) x.2.1 x.2.2)), fun _ H => H, true, false⟩]
 | 87 => [⟨Tm, fun x => (aT x), fun _ H => H, true, false⟩]
 | 90 => [⟨Int × Int × List Tm × Int × Int, fun _ => (Q67 0 [] 0 []), fun x H => List.set H 0 (Q72 6 1 2 0 0 x.1 x.2.1 4 (FTs x.2.2.1) x.2.2.2.1 x.2.2.2.2), true, false⟩]
 | 91 => [⟨Tm × Int × Int, fun x => (.tup (Q80 (Q37 (cT x.1)) x.2.1 x.2.2)), fun _ H => H, true, false⟩]
 | 92 => [⟨Tm, fun x => (.tup (Q63 (cT x) Q71)), fun _ _ => [], false, false⟩, ⟨Tm × List Tm, fun x => (.tup (Q63 (cT x.1) (Q93 0 4 0 (length x.2)))), fun x _ => [.arz 4 (FTs x.2)], false, false⟩]
 | 93 => [⟨Tm × Sto × Int × Int × List Tm × Int × Int, fun x => (aT x.1), fun x _ => (Q87 (Q72 6 1 2 0 0 x.2.2.1 x.2.2.2.1 4 (FTs x.2.2.2.2.1) x.2.2.2.2.2.1 x.2.2.2.2.2.2) (Q86 4 (length x.2.1.V) 5 (length x.2.1.T)) .gone (Q33 (SR x.2.1.V)) (Q30 (IR x.2.1.T))), true, false⟩]
 | 94 => [⟨Tm × Bool, fun x => (.tup (Q90 (cT x.1) x.2)), fun _ H => H, true, false⟩]
 | 101 => [⟨Tm × Int × Int, fun x => (.tup (Q54 (cT x.1) (Q32 x.2.1))), fun x H => List.set H 3 (Q91 x.2.2), true, false⟩]
 | 102 => [⟨Bool, fun x => (.c (Q0 (.sl x 4 []))), fun _ _ => [], false, false⟩, ⟨RW, fun x => (.c (Q3 0 4 0 (length x))), fun x _ => [.arz 4 x], false, false⟩]
 | 103 => [⟨Unit, fun _ => (.c Q28), fun _ _ => [], false, false⟩, ⟨Unit, fun _ => (.c (Q3 0 4 0 0)), fun _ _ => [.arz 4 []], false, false⟩]
 | 104 => [⟨Tm × Bool, fun x => (.tup (Q90 (cT x.1) x.2)), fun _ H => H, true, false⟩]
 | 105 => [⟨Nat, fun x => (.c (Q3 0 1 0 x)), fun _ H => H, false, true⟩]
 | 109 => [⟨Int × Sto × Nat × RW × Int, fun x => (Q25 x.1), fun x _ => [Q7 3 [Q10 1 2 0 0, Q3 7 8 0 x.2.2.1, Q2 x.2.2.2.2], Q86 5 (length x.2.1.V) 6 (length x.2.1.T), .gone, .gone, .gone, Q33 (SR x.2.1.V), Q30 (IR x.2.1.T), .arz 8 x.2.2.2.1], true, false⟩]
 | 111 => [⟨List Int, fun x => (Q76 1 (IR x)), fun _ H => H, true, false⟩]
 | 117 => [⟨Tm × Int × Int, fun x => (.tup (Q80 (Q37 (cT x.1)) x.2.1 x.2.2)), fun _ H => H, true, false⟩]
 | 118 => [⟨Tm, fun x => (aT x), fun _ H => H, true, false⟩]
 | 120 => [⟨Tm, fun x => (aT x), fun _ H => H, true, false⟩]
 | 121 => [⟨Tm, fun x => (aT x), fun _ H => H, true, false⟩]
 | 122 => [⟨Tm, fun x => (aT x), fun _ H => H, true, false⟩]
 | 123 => [⟨Tm × Sto, fun x => (aT x.1), fun x _ => (Q119 3 (length x.2.V) 4 (length x.2.T) (SR x.2.V) (IR x.2.T)), true, false⟩]
 | 129 => [⟨Tm × Bool × Int, fun x => (.tup (Q73 (Q37 (cT x.1)) (Q18 (Q89 x.2.1)) x.2.2)), fun _ H => H, true, false⟩]
 | 131 => [⟨Tm, fun x => (aT x), fun _ H => H, true, false⟩]
 | 132 => [⟨Int, fun x => (Q25 x), fun _ H => H, true, true⟩]
 | 133 => [⟨Tm × Tm × List Tm × Int × Nat × Int, fun x => (.tup (Q54 [Q2 x.1.k, Q6 x.1.s, Q2 x.1.n, Q8 4 (FTs x.1.l), Q2 x.2.1.k, Q6 x.2.1.s, Q2 x.2.1.n, Q8 4 (FTs x.2.1.l), Q8 4 (FTs x.2.2.1)] (Q32 x.2.2.2.1))), fun x H => List.set H 0 (Q7 3 [Q10 1 2 0 0, Q3 4 8 0 x.2.2.2.2.1, Q2 x.2.2.2.2.2]), true, false⟩]
 | 134 => [⟨Sto × Nat × RW × Int, fun _ => (.tup []), fun x _ => [Q7 3 [Q10 1 2 0 0, Q3 7 8 0 x.2.1, Q2 x.2.2.2], Q86 5 (length x.1.V) 6 (length x.1.T), .gone, .gone, .gone, Q33 (SR x.1.V), Q30 (IR x.1.T), .arz 8 x.2.2.1], true, false⟩]
 | 135 => [⟨Tm, fun x => (aT x), fun _ H => H, true, false⟩]
 | 137 => [⟨Int × Sto × Nat × RW × Int, fun x => (Q25 x.1), fun x _ => [Q7 3 [Q10 1 2 0 0, Q3 7 8 0 x.2.2.1, Q2 x.2.2.2.2], Q86 5 (length x.2.1.V) 6 (length x.2.1.T), .gone, .gone, .gone, Q33 (SR x.2.1.V), Q30 (IR x.2.1.T), .arz 8 x.2.2.2.1], true, false⟩]
 | 138 => [⟨Int × Sto × Nat × RW × Int, fun x => (Q25 x.1), fun x _ => [Q7 3 [Q10 1 2 0 0, Q3 7 8 0 x.2.2.1, Q2 x.2.2.2.2], Q86 5 (length x.2.1.V) 6 (length x.2.1.T), .gone, .gone, .gone, Q33 (SR x.2.1.V), Q30 (IR x.2.1.T), .arz 8 x.2.2.2.1], true, false⟩]
 | 141 => [⟨Tm × Int, fun x => (.tup (Q54 (cT x.1) (Q32 x.2))), fun _ H => H, true, false⟩]
 | 143 => [⟨Tm, fun x => (aT x), fun _ H => H, true, false⟩]
 | 146 => [⟨Tm × Bool, fun x => (.tup (Q90 (cT x.1) x.2)), fun _ H => H, true, false⟩]
 | 147 => [⟨Tm × Int, fun x => (.tup (Q54 (cT x.1) (Q32 x.2))), fun _ H => H, true, false⟩]
 | 149 => [⟨Tm, fun x => (aT x), fun _ H => H, true, false⟩]
 | 150 => [⟨Tm, fun x => (aT x), fun _ H => H, true, false⟩]
 | 151 => [⟨Tm, fun x => (aT x), fun _ H => H, true, false⟩]
 | 152 => [⟨List Tm, fun _ => (.c (.fn (.func 167) [] [(false, [Q92])])), fun x _ => [Q7 1 [Q8 4 (FTs x)]], true, false⟩]
 | 153 => [⟨List Tm × Int × Nat × Int, fun x => (.tup [Q18 [Q8 4 (FTs x.1)], Q32 x.2.1]), fun x H => List.set H 0 (Q7 3 [Q10 1 2 0 0, Q3 4 8 0 x.2.2.1, Q2 x.2.2.2]), true, false⟩]
 | 155 => [⟨Int × Sto, fun x => (Q25 x.1), fun x _ => (Q119 3 (length x.2.V) 4 (length x.2.T) (SR x.2.V) (IR x.2.T)), true, false⟩]
 | 156 => [⟨Int × Sto × Nat × RW × Int, fun x => (Q25 x.1), fun x _ => [Q7 3 [Q10 1 2 0 0, Q3 7 8 0 x.2.2.1, Q2 x.2.2.2.2], Q86 5 (length x.2.1.V) 6 (length x.2.1.T), .gone, .gone, .gone, Q33 (SR x.2.1.V), Q30 (IR x.2.1.T), .arz 8 x.2.2.2.1], true, false⟩]
 | 159 => [⟨Tm × Bool, fun x => (.tup (Q90 (cT x.1) x.2)), fun _ H => H, true, false⟩]
 | 160 => [⟨Tm, fun x => (aT x), fun _ H => H, true, false⟩]
 | 165 => [⟨Tm × Int, fun x => (.tup (Q54 (cT x.1) (Q32 x.2))), fun _ H => H, true, false⟩]
 | 170 => [⟨Tm, fun x => (aT x), fun _ H => H, true, false⟩]
 | 173 => [⟨Tm, fun x => (aT x), fun _ H => H, true, false⟩]
 | 175 => [⟨Tm, fun x => (aT x), fun _ H => H, true, false⟩]
 | 176 => [⟨Tm, fun x => (aT x), fun _ H => H, true, false⟩]
 | _ => []
abbrev VQ (l : List (Nat × List Nat)) (f m : Nat) (r : TV) (H : List AObj) (p : Nat) (s : St) : Prop := vcP Tryz.prog sh l f m (fun r0 Hs0 => TV.Le r0 r ∧ Hs0 = H) (RPt Tryz.prog f m r H) p s
abbrev VE (l : List (Nat × List Nat)) (f m : Nat) (r : TV) (H : List AObj) (a : List TV) (h : List AObj) : Prop := vcE Tryz.prog sh l f a h (fun r0 Hs0 => TV.Le r0 r ∧ Hs0 = H) (RPt Tryz.prog f m r H)
def lv4 : List (Nat × List Nat) := [(1, [0, 1, 2, 7, 9, 13, 15, 16]), (5, [0, 1, 2, 7, 9, 13, 17])]
theorem v4 (v : RW) (x : Int) (l : RW) (t_0 : Int) (t_1 : List UInt8) (t_2 : Int) (t_3 : RW) (r : TV) (Hs' : List AObj) : VE lv4 4 0 r Hs' [Q76 6 v, Q25 x, Q76 4 l, Q67 t_0 t_1 t_2 t_3] [] =
  (∃ b1 : Bool, ((Q60 9 [] b1) ∧ (br (!b1) (Q62 r Hs') (∃ b2 : Bool, ((Q60 10 [Q76 6 v] b2) ∧ (∃ b3 : Bool, ((Q60 11 [Q76 4 l] b3) ∧ (((4 : Nat) = 4 ∧ 1 ≤ 1) ∧ (∃ b4 : Bool, ((Q60 11 [Q76 4 [[(Q1 t_0), (.str t_1), (Q1 t_2), (Q5 4 t_3)]]] b4) ∧ ((true = true) ∧ (br b2 (Q58 b1 r Hs') (br b3 (Q58 b1 r Hs') (br b4 (Q58 b1 r Hs') (∃ z5 : Sto × Sto, ((Q39 12 [Q76 6 v] [] [Q18 [Q10 0 2 0 0], Q18 [Q10 3 2 0 0]] [Q86 1 (length z5.1.V) 2 (length z5.1.T), Q33 (SR z5.1.V), Q30 (IR z5.1.T), Q86 4 (length z5.2.V) 5 (length z5.2.T), Q33 (SR z5.2.V), Q30 (IR z5.2.T)]) ∧ (∃ y6 : FV, ((Q57 17 [Q67 t_0 t_1 t_2 t_3] (.c (Q0 y6))) ∧ (Q41 4 0 r Hs' 1 [Q53 0 6 v, Q13 1 x, Q53 2 4 l, Q77 7 0, Q4 9 (Q12 b1), Q48 13 1 2, Q68 15 y6, Q13 16 0] [Q51 0 4 t_0 t_1 t_2 4 t_3, Q61 1 2 2 6 0 (length z5.1.V) 3 1 0 (length z5.1.T), Q20 2 6 (SR z5.1.V), Q116 3 (IR z5.1.T)] 4))))))))))))))))))) := by kernel_rfl
theorem v4_1a (x0 : RW) (x1 : Int) (x2 : RW) (x9 : Bool) (x15 : FV) (x16 h0_0 : Int) (h0_1 : List UInt8) (h0_2 : Int) (h0_3 : RW) (h1_0l h1_1l : Nat) (h2 h3 : RW) (r : TV) (Hs' : List AObj) : VQ lv4 4 0 r Hs' 1 ⟨[Q53 0 6 x0, Q13 1 x1, Q53 2 4 x2, Q77 7 0, Q4 9 (Q12 x9), Q48 13 1 2, Q68 15 x15, Q13 16 x16], [Q51 0 4 h0_0 h0_1 h0_2 4 h0_3, Q61 1 2 2 6 0 h1_0l 3 1 0 h1_1l, Q20 2 6 h2, Q116 3 h3], 4⟩ =
  ((FV.isSl 1 x15 = true) ∧ (br (decide ((x16 : Int) < (length (FV.ses x15) : Int))) (((FV.isSl 1 x15 = true) ∧ ((0 ≤ x16) ∧ ((x16 < (length (FV.ses x15) : Int)) ∧ (([(Q1 (FV.asI (getD (getD (FV.ses x15) (toNat x16) []) 0 FV.nils)))] : List FV) = (getD (FV.ses x15) (toNat x16) []))))) ∧ ((FV.isSl 6 (Q5 6 x0) = true) ∧ (br (decide (((FV.asI (getD (getD (FV.ses x15) (toNat x16) []) 0 FV.nils)) : Int) ≥ (length x0 : Int))) (Q58 x9 r Hs') (Q41 4 0 r Hs' 1 [Q53 0 6 x0, Q13 1 x1, Q53 2 4 x2, Q77 7 0, Q4 9 (Q12 x9), Q48 13 1 2, Q68 15 x15, Q13 16 (IntKind.wrap .i64 (x16 + 1))] [Q51 0 4 h0_0 h0_1 h0_2 4 h0_3, Q61 1 2 2 6 0 h1_0l 3 1 0 h1_1l, Q20 2 6 h2, Q116 3 h3] 4)))) (Q41 4 0 r Hs' 5 [Q53 0 6 x0, Q13 1 x1, Q53 2 4 x2, Q77 7 0, Q4 9 (Q12 x9), Q48 13 1 2, Q13 17 0] [Q51 0 4 h0_0 h0_1 h0_2 4 h0_3, Q61 1 2 2 6 0 h1_0l 3 1 0 h1_1l, Q20 2 6 h2, Q116 3 h3] 4))) := by kernel_rfl
theorem v4_5a (x0 : RW) (x1 : Int) (x2 : RW) (x9 : Bool) (x17 h0_0 : Int) (h0_1 : List UInt8) (h0_2 : Int) (h0_3 : RW) (h1_0l h1_1l : Nat) (h2 h3 : RW) (r : TV) (Hs' : List AObj) : VQ lv4 4 0 r Hs' 5 ⟨[Q53 0 6 x0, Q13 1 x1, Q53 2 4 x2, Q77 7 0, Q4 9 (Q12 x9), Q48 13 1 2, Q13 17 x17], [Q51 0 4 h0_0 h0_1 h0_2 4 h0_3, Q61 1 2 2 6 0 h1_0l 3 1 0 h1_1l, Q20 2 6 h2, Q116 3 h3], 4⟩ =
  ((FV.isSl 6 (Q5 6 x0) = true) ∧ (br (decide ((x17 : Int) < (length x0 : Int))) (((FV.isSl 6 (Q5 6 x0) = true) ∧ ((0 ≤ x17) ∧ ((x17 < (length x0 : Int)) ∧ (([(Q1 (FV.asI (getD (getD x0 (toNat x17) []) 0 FV.nils))), (.bool (FV.asB (getD (getD x0 (toNat x17) []) 1 FV.nils))), (Q1 (FV.asI (getD (getD x0 (toNat x17) []) 2 FV.nils))), (.str (FV.asS (getD (getD x0 (toNat x17) []) 3 FV.nils))), (Q1 (FV.asI (getD (getD x0 (toNat x17) []) 4 FV.nils))), (getD (getD x0 (toNat x17) []) 5 FV.nils)] : List FV) = (getD x0 (toNat x17) []))))) ∧ (br (FV.asB (getD (getD x0 (toNat x17) []) 1 FV.nils)) (Q58 x9 r Hs') (Q41 4 0 r Hs' 5 [Q53 0 6 x0, Q13 1 x1, Q53 2 4 x2, Q77 7 0, Q4 9 (Q12 x9), Q48 13 1 2, Q13 17 (IntKind.wrap .i64 (x17 + 1))] [Q51 0 4 h0_0 h0_1 h0_2 4 h0_3, Q61 1 2 2 6 0 h1_0l 3 1 0 h1_1l, Q20 2 6 h2, Q116 3 h3] 4))) (∃ z1 : List Tm × Int × Int, ((Q39 13 [Q102 2, Q25 x1, Q76 4 x2, Q25 80] (Q44 2 1 6 0 h1_0l 2 1 0 h1_1l h2 h3) (Q80 (Q18 [Q8 4 (FTs z1.1)]) z1.2.1 z1.2.2) (Q44 2 1 6 0 h1_0l 2 1 0 h1_1l h2 h3)) ∧ (br ((z1.2.2 : Int) != (0 : Int)) (Q58 x9 r Hs') (∃ z2 : (Tm × Int × Int) × Sto, ((Q39 18 [Q102 2, Q25 x1, Q76 4 (FTs z1.1), Q67 h0_0 h0_1 h0_2 h0_3, Q25 80] (Q44 2 1 6 0 h1_0l 2 1 0 h1_1l h2 h3) (Q80 (Q37 (cT z2.1.1)) z2.1.2.1 z2.1.2.2) (Q119 3 (length z2.2.V) 4 (length z2.2.T) (SR z2.2.V) (IR z2.2.T))) ∧ (br ((z2.1.2.2 : Int) != (0 : Int)) (Q58 x9 r Hs') (∃ z3 : Int × Bool × Tm × Bool, ((Q39 19 (Q78 (Q102 2) x1) (Q44 2 1 6 0 (length z2.2.V) 2 1 0 (length z2.2.T) (SR z2.2.V) (IR z2.2.T)) (Q90 (Q122 z3.1 z3.2.1 z3.2.2.1.k z3.2.2.1.s z3.2.2.1.n (Q8 4 (FTs z3.2.2.1.l))) z3.2.2.2) (Q44 2 1 6 0 (length z2.2.V) 2 1 0 (length z2.2.T) (SR z2.2.V) (IR z2.2.T))) ∧ (∃ b4 : Bool, ((Q60 20 [(aT z2.1.1)] b4) ∧ (∃ z5 : Tm × Int × Int, ((Q39 21 (Q103 2 (aT z2.1.1) (Q25 500)) (Q44 2 1 6 0 (length z2.2.V) 2 1 0 (length z2.2.T) (SR z2.2.V) (IR z2.2.T)) (Q80 (Q37 (cT z5.1)) z5.2.1 z5.2.2) (Q44 2 1 6 0 (length z2.2.V) 2 1 0 (length z2.2.T) (SR z2.2.V) (IR z2.2.T))) ∧ (br (!b4) (Q62 r Hs') (∃ n6 : Int, ((Q57 22 [(aT z2.1.1)] (Q25 n6)) ∧ (br ((n6 : Int) != (0 : Int)) (Q62 r Hs') (br ((z5.2.2 : Int) != (0 : Int)) (Q58 x9 r Hs') (∃ b7 : Bool, ((Q11 23 (Q103 2 (aT z5.1) (Q25 z3.1)) (Q44 2 1 6 0 (length z2.2.V) 2 1 0 (length z2.2.T) (SR z2.2.V) (IR z2.2.T)) (Q29 b7) (Q44 2 1 6 0 (length z2.2.V) 2 1 0 (length z2.2.T) (SR z2.2.V) (IR z2.2.T))) ∧ (∃ z8 : Tm, ((Q57 24 [(aT z2.1.1), Q76 4 (FTs z1.1)] (aT z8)) ∧ (∃ z9 : Tm × Int × Int, ((Q39 21 (Q103 2 (aT z8) (Q25 1000)) (Q44 2 1 6 0 (length z2.2.V) 2 1 0 (length z2.2.T) (SR z2.2.V) (IR z2.2.T)) (Q80 (Q37 (cT z9.1)) z9.2.1 z9.2.2) (Q44 2 1 6 0 (length z2.2.V) 2 1 0 (length z2.2.T) (SR z2.2.V) (IR z2.2.T))) ∧ (∃ z10 : Tm × Int × Int, ((Q39 21 (Q103 2 (Q67 h0_0 h0_1 h0_2 h0_3) (Q25 1000)) (Q44 2 1 6 0 (length z2.2.V) 2 1 0 (length z2.2.T) (SR z2.2.V) (IR z2.2.T)) (Q80 (Q37 (cT z10.1)) z10.2.1 z10.2.2) (Q44 2 1 6 0 (length z2.2.V) 2 1 0 (length z2.2.T) (SR z2.2.V) (IR z2.2.T))) ∧ (∃ b11 : Bool, ((Q60 25 [(aT z9.1), (aT z10.1)] b11) ∧ (∃ z12 : Tm, ((Q57 26 [(aT z5.1)] (aT z12)) ∧ (∃ b13 : Bool, ((Q60 25 [(aT z12), (aT z5.1)] b13) ∧ (br x9 (br b7 (br b13 (br ((z9.2.2 : Int) != (0 : Int)) (Q58 true r Hs') (br ((z10.2.2 : Int) != (0 : Int)) (Q58 true r Hs') (Q58 b11 r Hs'))) (Q62 r Hs')) (Q62 r Hs')) (Q62 r Hs'))))))))))))))))))))))))))))))))))) := by kernel_rfl
def lv10 : List (Nat × List Nat) := [(1, [0, 3])]
theorem v10 (l : RW) (r : TV) (Hs' : List AObj) : VE lv10 10 0 r Hs' [Q76 6 l] [] =
  ((FV.isSl 6 (Q5 6 l) = true) ∧ (br (decide (((length l : Int) : Int) > (8 : Int))) (Q58 true r Hs') (Q41 10 0 r Hs' 1 [Q53 0 6 l, Q13 3 0] [] 0))) := by kernel_rfl
theorem v10_1a (x0 : RW) (x3 : Int) (r : TV) (Hs' : List AObj) : VQ lv10 10 0 r Hs' 1 ⟨[Q53 0 6 x0, Q13 3 x3], [], 0⟩ =
  ((FV.isSl 6 (Q5 6 x0) = true) ∧ (br (decide ((x3 : Int) < (length x0 : Int))) (((FV.isSl 6 (Q5 6 x0) = true) ∧ ((0 ≤ x3) ∧ ((x3 < (length x0 : Int)) ∧ (([(Q1 (FV.asI (getD (getD x0 (toNat x3) []) 0 FV.nils))), (.bool (FV.asB (getD (getD x0 (toNat x3) []) 1 FV.nils))), (Q1 (FV.asI (getD (getD x0 (toNat x3) []) 2 FV.nils))), (.str (FV.asS (getD (getD x0 (toNat x3) []) 3 FV.nils))), (Q1 (FV.asI (getD (getD x0 (toNat x3) []) 4 FV.nils))), (getD (getD x0 (toNat x3) []) 5 FV.nils)] : List FV) = (getD x0 (toNat x3) []))))) ∧ (∃ b1 : Bool, ((Q60 41 (Q78 (.agg (Q15 (FV.asI (getD (getD x0 (toNat x3) []) 2 FV.nils)) (FV.asS (getD (getD x0 (toNat x3) []) 3 FV.nils)) (FV.asI (getD (getD x0 (toNat x3) []) 4 FV.nils)) (Q0 (getD (getD x0 (toNat x3) []) 5 FV.nils)))) 12) b1) ∧ (((FV.isSl 6 (Q5 6 x0) = true) ∧ ((0 ≤ x3) ∧ ((x3 < (length x0 : Int)) ∧ (([(Q1 (FV.asI (getD (getD x0 (toNat x3) []) 0 FV.nils))), (.bool (FV.asB (getD (getD x0 (toNat x3) []) 1 FV.nils))), (Q1 (FV.asI (getD (getD x0 (toNat x3) []) 2 FV.nils))), (.str (FV.asS (getD (getD x0 (toNat x3) []) 3 FV.nils))), (Q1 (FV.asI (getD (getD x0 (toNat x3) []) 4 FV.nils))), (getD (getD x0 (toNat x3) []) 5 FV.nils)] : List FV) = (getD x0 (toNat x3) []))))) ∧ (∃ b2 : Bool, ((Q60 42 (Q78 (.agg (Q15 (FV.asI (getD (getD x0 (toNat x3) []) 2 FV.nils)) (FV.asS (getD (getD x0 (toNat x3) []) 3 FV.nils)) (FV.asI (getD (getD x0 (toNat x3) []) 4 FV.nils)) (Q0 (getD (getD x0 (toNat x3) []) 5 FV.nils)))) 1000) b2) ∧ (br b1 (Q58 true r Hs') (br (!b2) (Q58 true r Hs') (Q41 10 0 r Hs' 1 [Q53 0 6 x0, Q13 3 (IntKind.wrap .i64 (x3 + 1))] [] 0))))))))) (Q62 r Hs'))) := by kernel_rfl
def lv11 : List (Nat × List Nat) := [(1, [0, 3])]
theorem v11 (l : RW) (r : TV) (Hs' : List AObj) : VE lv11 11 0 r Hs' [Q76 4 l] [] =
  ((FV.isSl 4 (Q5 4 l) = true) ∧ (br (decide (((length l : Int) : Int) > (6 : Int))) (Q58 true r Hs') (Q41 11 0 r Hs' 1 [Q53 0 4 l, Q13 3 0] [] 0))) := by kernel_rfl
theorem v11_1a (x0 : RW) (x3 : Int) (r : TV) (Hs' : List AObj) : VQ lv11 11 0 r Hs' 1 ⟨[Q53 0 4 x0, Q13 3 x3], [], 0⟩ =
  ((FV.isSl 4 (Q5 4 x0) = true) ∧ (br (decide ((x3 : Int) < (length x0 : Int))) (((FV.isSl 4 (Q5 4 x0) = true) ∧ ((0 ≤ x3) ∧ ((x3 < (length x0 : Int)) ∧ (((rE (getD x0 (toNat x3) [])) : List FV) = (getD x0 (toNat x3) []))))) ∧ (∃ b1 : Bool, ((Q60 41 (Q78 (aE (getD x0 (toNat x3) [])) 24) b1) ∧ (((FV.isSl 4 (Q5 4 x0) = true) ∧ ((0 ≤ x3) ∧ ((x3 < (length x0 : Int)) ∧ (((rE (getD x0 (toNat x3) [])) : List FV) = (getD x0 (toNat x3) []))))) ∧ (∃ b2 : Bool, ((Q60 42 (Q78 (aE (getD x0 (toNat x3) [])) 1000) b2) ∧ (br b1 (Q58 true r Hs') (br (!b2) (Q58 true r Hs') (Q41 11 0 r Hs' 1 [Q53 0 4 x0, Q13 3 (IntKind.wrap .i64 (x3 + 1))] [] 0))))))))) (Q62 r Hs'))) := by kernel_rfl
def lv12 : List (Nat × List Nat) := [(1, [0, 4, 5, 6]), (5, [0, 4, 5, 7])]
theorem v12 (l : RW) (r : TV) (Hs' : List AObj) : VE lv12 12 0 r Hs' [Q76 6 l] [] =
  (∃ _ : Unit, ((Q56 34 [] (Q102 2) (Q44 2 1 6 0 0 2 1 0 0 [] [])) ∧ (Q41 12 0 r Hs' 1 (Q65 (Q53 0 6 l) (Q48 4 0 2) (Q48 5 3 2) 6 0) [Q61 0 2 1 6 0 0 2 1 0 0, Q20 1 6 [], Q116 2 [], Q61 3 2 4 6 0 0 5 1 0 0, Q20 4 6 [], Q116 5 []] 6))) := by kernel_rfl
theorem v12_1a (x0 : RW) (x6 : Int) (h0_0l h0_1l : Nat) (h1 h2 : RW) (h3_0l h3_1l : Nat) (h4 h5 : RW) (r : TV) (Hs' : List AObj) : VQ lv12 12 0 r Hs' 1 ⟨Q65 (Q53 0 6 x0) (Q48 4 0 2) (Q48 5 3 2) 6 x6, [Q61 0 2 1 6 0 h0_0l 2 1 0 h0_1l, Q20 1 6 h1, Q116 2 h2, Q61 3 2 4 6 0 h3_0l 5 1 0 h3_1l, Q20 4 6 h4, Q116 5 h5], 6⟩ =
  ((FV.isSl 6 (Q5 6 x0) = true) ∧ (br (decide ((x6 : Int) < (length x0 : Int))) (((FV.isSl 6 (Q5 6 x0) = true) ∧ ((0 ≤ x6) ∧ ((x6 < (length x0 : Int)) ∧ (([(Q1 (FV.asI (getD (getD x0 (toNat x6) []) 0 FV.nils))), (.bool (FV.asB (getD (getD x0 (toNat x6) []) 1 FV.nils))), (Q1 (FV.asI (getD (getD x0 (toNat x6) []) 2 FV.nils))), (.str (FV.asS (getD (getD x0 (toNat x6) []) 3 FV.nils))), (Q1 (FV.asI (getD (getD x0 (toNat x6) []) 4 FV.nils))), (getD (getD x0 (toNat x6) []) 5 FV.nils)] : List FV) = (getD x0 (toNat x6) []))))) ∧ (∃ z1 : Int × Sto, ((Q11 35 (Q78 (Q102 2) (FV.asI (getD (getD x0 (toNat x6) []) 0 FV.nils))) (Q44 2 1 6 0 h0_0l 2 1 0 h0_1l h1 h2) (Q25 z1.1) (Q119 3 (length z1.2.V) 4 (length z1.2.T) (SR z1.2.V) (IR z1.2.T))) ∧ (((FV.isSl 6 (Q5 6 x0) = true) ∧ ((0 ≤ x6) ∧ ((x6 < (length x0 : Int)) ∧ (([(Q1 (FV.asI (getD (getD x0 (toNat x6) []) 0 FV.nils))), (.bool (FV.asB (getD (getD x0 (toNat x6) []) 1 FV.nils))), (Q1 (FV.asI (getD (getD x0 (toNat x6) []) 2 FV.nils))), (.str (FV.asS (getD (getD x0 (toNat x6) []) 3 FV.nils))), (Q1 (FV.asI (getD (getD x0 (toNat x6) []) 4 FV.nils))), (getD (getD x0 (toNat x6) []) 5 FV.nils)] : List FV) = (getD x0 (toNat x6) []))))) ∧ (∃ z2 : Int × Sto, ((Q11 46 (Q78 (Q102 2) (FV.asI (getD (getD x0 (toNat x6) []) 0 FV.nils))) (Q44 2 1 6 0 h3_0l 2 1 0 h3_1l h4 h5) (Q25 z2.1) (Q119 3 (length z2.2.V) 4 (length z2.2.T) (SR z2.2.V) (IR z2.2.T))) ∧ (Q41 12 0 r Hs' 1 (Q65 (Q53 0 6 x0) (Q48 4 0 2) (Q48 5 3 2) 6 (IntKind.wrap .i64 (x6 + 1))) [Q61 0 2 1 6 0 (length z1.2.V) 2 1 0 (length z1.2.T), Q20 1 6 (SR z1.2.V), Q116 2 (IR z1.2.T), Q61 3 2 4 6 0 (length z2.2.V) 5 1 0 (length z2.2.T), Q20 4 6 (SR z2.2.V), Q116 5 (IR z2.2.T)] 6))))))) (Q41 12 0 r Hs' 5 (Q65 (Q53 0 6 x0) (Q48 4 0 2) (Q48 5 3 2) 7 0) [Q61 0 2 1 6 0 h0_0l 2 1 0 h0_1l, Q20 1 6 h1, Q116 2 h2, Q61 3 2 4 6 0 h3_0l 5 1 0 h3_1l, Q20 4 6 h4, Q116 5 h5] 6))) := by kernel_rfl
theorem v12_5a (x0 : RW) (x7 : Int) (h0_0l h0_1l : Nat) (h1 h2 : RW) (h3_0l h3_1l : Nat) (h4 h5 : RW) (r : TV) (Hs' : List AObj) : VQ lv12 12 0 r Hs' 5 ⟨Q65 (Q53 0 6 x0) (Q48 4 0 2) (Q48 5 3 2) 7 x7, [Q61 0 2 1 6 0 h0_0l 2 1 0 h0_1l, Q20 1 6 h1, Q116 2 h2, Q61 3 2 4 6 0 h3_0l 5 1 0 h3_1l, Q20 4 6 h4, Q116 5 h5], 6⟩ =
  ((FV.isSl 6 (Q5 6 x0) = true) ∧ (br (decide ((x7 : Int) < (length x0 : Int))) (((FV.isSl 6 (Q5 6 x0) = true) ∧ ((0 ≤ x7) ∧ ((x7 < (length x0 : Int)) ∧ (([(Q1 (FV.asI (getD (getD x0 (toNat x7) []) 0 FV.nils))), (.bool (FV.asB (getD (getD x0 (toNat x7) []) 1 FV.nils))), (Q1 (FV.asI (getD (getD x0 (toNat x7) []) 2 FV.nils))), (.str (FV.asS (getD (getD x0 (toNat x7) []) 3 FV.nils))), (Q1 (FV.asI (getD (getD x0 (toNat x7) []) 4 FV.nils))), (getD (getD x0 (toNat x7) []) 5 FV.nils)] : List FV) = (getD x0 (toNat x7) []))))) ∧ (br (FV.asB (getD (getD x0 (toNat x7) []) 1 FV.nils)) (((FV.isSl 6 (Q5 6 x0) = true) ∧ ((0 ≤ x7) ∧ ((x7 < (length x0 : Int)) ∧ (([(Q1 (FV.asI (getD (getD x0 (toNat x7) []) 0 FV.nils))), (.bool (FV.asB (getD (getD x0 (toNat x7) []) 1 FV.nils))), (Q1 (FV.asI (getD (getD x0 (toNat x7) []) 2 FV.nils))), (.str (FV.asS (getD (getD x0 (toNat x7) []) 3 FV.nils))), (Q1 (FV.asI (getD (getD x0 (toNat x7) []) 4 FV.nils))), (getD (getD x0 (toNat x7) []) 5 FV.nils)] : List FV) = (getD x0 (toNat x7) []))))) ∧ (∃ z1 : Int × Sto, ((Q11 47 (Q59 (Q102 2) x7 (.agg (Q15 (FV.asI (getD (getD x0 (toNat x7) []) 2 FV.nils)) (FV.asS (getD (getD x0 (toNat x7) []) 3 FV.nils)) (FV.asI (getD (getD x0 (toNat x7) []) 4 FV.nils)) (Q0 (getD (getD x0 (toNat x7) []) 5 FV.nils))))) (Q44 2 1 6 0 h0_0l 2 1 0 h0_1l h1 h2) (Q25 z1.1) (Q119 3 (length z1.2.V) 4 (length z1.2.T) (SR z1.2.V) (IR z1.2.T))) ∧ (((FV.isSl 6 (Q5 6 x0) = true) ∧ ((0 ≤ x7) ∧ ((x7 < (length x0 : Int)) ∧ (([(Q1 (FV.asI (getD (getD x0 (toNat x7) []) 0 FV.nils))), (.bool (FV.asB (getD (getD x0 (toNat x7) []) 1 FV.nils))), (Q1 (FV.asI (getD (getD x0 (toNat x7) []) 2 FV.nils))), (.str (FV.asS (getD (getD x0 (toNat x7) []) 3 FV.nils))), (Q1 (FV.asI (getD (getD x0 (toNat x7) []) 4 FV.nils))), (getD (getD x0 (toNat x7) []) 5 FV.nils)] : List FV) = (getD x0 (toNat x7) []))))) ∧ (∃ z2 : Int × Sto, ((Q11 48 (Q59 (Q102 2) x7 (.agg (Q15 (FV.asI (getD (getD x0 (toNat x7) []) 2 FV.nils)) (FV.asS (getD (getD x0 (toNat x7) []) 3 FV.nils)) (FV.asI (getD (getD x0 (toNat x7) []) 4 FV.nils)) (Q0 (getD (getD x0 (toNat x7) []) 5 FV.nils))))) (Q44 2 1 6 0 h3_0l 2 1 0 h3_1l h4 h5) (Q25 z2.1) (Q119 3 (length z2.2.V) 4 (length z2.2.T) (SR z2.2.V) (IR z2.2.T))) ∧ (Q41 12 0 r Hs' 5 (Q65 (Q53 0 6 x0) (Q48 4 0 2) (Q48 5 3 2) 7 (IntKind.wrap .i64 (x7 + 1))) [Q61 0 2 1 6 0 (length z1.2.V) 2 1 0 (length z1.2.T), Q20 1 6 (SR z1.2.V), Q116 2 (IR z1.2.T), Q61 3 2 4 6 0 (length z2.2.V) 5 1 0 (length z2.2.T), Q20 4 6 (SR z2.2.V), Q116 5 (IR z2.2.T)] 6))))))) (Q41 12 0 r Hs' 5 (Q65 (Q53 0 6 x0) (Q48 4 0 2) (Q48 5 3 2) 7 (IntKind.wrap .i64 (x7 + 1))) [Q61 0 2 1 6 0 h0_0l 2 1 0 h0_1l, Q20 1 6 h1, Q116 2 h2, Q61 3 2 4 6 0 h3_0l 5 1 0 h3_1l, Q20 4 6 h4, Q116 5 h5] 6))) (Q42 [Q18 [Q10 0 2 0 0], Q18 [Q10 3 2 0 0]] [Q86 1 h0_0l 2 h0_1l, Q33 h1, Q30 h2, Q86 4 h3_0l 5 h3_1l, Q33 h4, Q30 h5] r Hs'))) := by kernel_rfl
def lv17 : List (Nat × List Nat) := []
theorem v17 (t_0 : Int) (t_1 : List UInt8) (t_2 : Int) (t_3 : RW) (r : TV) (Hs' : List AObj) : VE lv17 17 0 r Hs' [Q67 t_0 t_1 t_2 t_3] [] =
  ((∃ z1 : Int, ((Q39 58 (Q97 (Q67 t_0 t_1 t_2 t_3) 0 (.fn (.func 59) [] [(false, [Q92])])) [Q99 1] [] [Q91 z1]) ∧ (Q96 z1 [] r Hs'))) ∨ ((∃ _ : Unit, ((Q39 58 (Q97 (Q67 t_0 t_1 t_2 t_3) 0 (.fn (.func 59) [] [(false, [Q92])])) [Q99 1] [] [Q99 1]) ∧ (RT (.c Q28) [] r Hs'))) ∨ ((∃ z3 : Nat × RW, ((Q39 58 (Q97 (Q67 t_0 t_1 t_2 t_3) 0 (.fn (.func 59) [] [(false, [Q92])])) [Q99 1] [] (Q109 1 1 1 0 z3.1 z3.2)) ∧ (((1 : Nat) = 1 ∧ (0 + z3.1) ≤ (length z3.2)) ∧ (RT (Q76 1 (take z3.1 (drop 0 z3.2))) [] r Hs')))) ∨ (∃ z4 : Nat × RW, ((Q39 58 (Q97 (Q67 t_0 t_1 t_2 t_3) 0 (.fn (.func 59) [] [(false, [Q92])])) [Q99 1] [] (Q34 (Q94 1 2 1 0 z4.1) .gone z4.2)) ∧ (((1 : Nat) = 1 ∧ (0 + z4.1) ≤ (length z4.2)) ∧ (RT (Q76 1 (take z4.1 (drop 0 z4.2))) [] r Hs'))))))) := by kernel_rfl
def lv13 : List (Nat × List Nat) := [(1, [0, 3, 11, 13, 35, 36, 37])]
theorem v13 (x : Int) (l : RW) (fuel : Int) (o0_0l o0_1l : Nat) (o1 o2 : RW) (r : TV) (Hs' : List AObj) : VE lv13 13 3 r Hs' [Q102 2, Q25 x, Q76 4 l, Q25 fuel] (Q44 2 1 6 0 o0_0l 2 1 0 o0_1l o1 o2) =
  (∃ z1 : Int × Bool × Tm × Bool, ((Q39 19 (Q78 (Q102 2) x) (Q44 2 1 6 0 o0_0l 2 1 0 o0_1l o1 o2) (Q90 (Q122 z1.1 z1.2.1 z1.2.2.1.k z1.2.2.1.s z1.2.2.1.n (Q8 4 (FTs z1.2.2.1.l))) z1.2.2.2) (Q44 2 1 6 0 o0_0l 2 1 0 o0_1l o1 o2)) ∧ (br (!z1.2.2.2) (Q42 (Q80 (Q18 Q71) 0 1) (Q44 2 1 6 0 o0_0l 2 1 0 o0_1l o1 o2) r Hs') (∃ z2 : Bool, ((Q60 49 (Q115 (Q76 4 l) (.fn (.func 50) [] [])) z2) ∧ (br z2 (Q42 (Q80 (Q18 Q71) 0 1) (Q44 2 1 6 0 o0_0l 2 1 0 o0_1l o1 o2) r Hs') ((FV.isSl 4 (Q5 4 l) = true) ∧ (Q41 13 3 r Hs' 1 [Q48 0 0 2, Q13 3 fuel, Q48 11 3 6, Q118 13, Q53 35 4 l, Q13 36 (length l : Int), Q13 37 0] [Q61 0 2 1 6 0 o0_0l 2 1 0 o0_1l, Q20 1 6 o1, Q116 2 o2, Q19 3 6 (Q122 z1.1 z1.2.1 z1.2.2.1.k z1.2.2.1.s z1.2.2.1.n (Q8 4 (FTs z1.2.2.1.l)))] 4)))))))) := by kernel_rfl
theorem v13_1a (x3 : Int) (x35 : RW) (x36 x37 : Int) (h0_0l h0_1l : Nat) (h1 h2 : RW) (h3_0 : Int) (h3_1 : Bool) (h3_2 : Int) (h3_3 : List UInt8) (h3_4 : Int) (h3_5 : RW) (r : TV) (Hs' : List AObj) : VQ lv13 13 3 r Hs' 1 ⟨[Q48 0 0 2, Q13 3 x3, Q48 11 3 6, Q118 13, Q53 35 4 x35, Q13 36 x36, Q13 37 x37], [Q61 0 2 1 6 0 h0_0l 2 1 0 h0_1l, Q20 1 6 h1, Q116 2 h2, Q19 3 6 (Q122 h3_0 h3_1 h3_2 h3_3 h3_4 (Q8 4 h3_5))], 4⟩ =
  (br (decide ((x37 : Int) < x36)) (((FV.isSl 4 (Q5 4 x35) = true) ∧ ((0 ≤ x37) ∧ ((x37 < (length x35 : Int)) ∧ (((rE (getD x35 (toNat x37) [])) : List FV) = (getD x35 (toNat x37) []))))) ∧ (∃ z1 : Tm × Int × Int, ((Q39 21 (Q103 2 (aE (getD x35 (toNat x37) [])) (Q25 x3)) (Q44 2 1 6 0 h0_0l 2 1 0 h0_1l h1 h2) (Q80 (Q37 (cT z1.1)) z1.2.1 z1.2.2) (Q44 2 1 6 0 h0_0l 2 1 0 h0_1l h1 h2)) ∧ (br ((z1.2.2 : Int) != (0 : Int)) (Q42 (Q80 (Q18 Q71) 0 z1.2.2) (Q44 2 1 6 0 h0_0l 2 1 0 h0_1l h1 h2) r Hs') (∃ z2 : Tm × Bool, ((Q39 51 [(aT z1.1)] [] (Q90 (cT z2.1) z2.2) []) ∧ (br ((z2.1.k : Int) == (1 : Int)) (∃ z3 : Bool, ((Q11 49 (Q115 (.c Q28) (.fn (.func 52) [] [(false, [(Q81 4)])])) [Q7 4 (cT z2.1)] (Q29 z3) [Q7 4 (cT z2.1)]) ∧ (br (!z2.2) (Q42 (Q80 (Q18 Q71) 0 171) (Q44 2 1 6 0 h0_0l 2 1 0 h0_1l h1 h2) r Hs') (br (decide ((z2.1.n : Int) ≤ h3_0)) (Q42 (Q80 (Q18 Q71) 0 171) (Q44 2 1 6 0 h0_0l 2 1 0 h0_1l h1 h2) r Hs') (br z3 (Q42 (Q80 (Q18 Q71) 0 171) (Q44 2 1 6 0 h0_0l 2 1 0 h0_1l h1 h2) r Hs') ((1 ≤ 1) ∧ ((z0k 1 56) ∧ (Q41 13 3 r Hs' 1 [Q48 0 0 2, Q13 3 z1.2.1, Q48 11 3 6, Q117 13 4 4 0 1, Q53 35 4 x35, Q13 36 x36, Q13 37 (IntKind.wrap .i64 (x37 + 1))] [Q61 0 2 1 6 0 h0_0l 2 1 0 h0_1l, Q20 1 6 h1, Q116 2 h2, Q19 3 6 (Q122 h3_0 h3_1 h3_2 h3_3 h3_4 (Q8 4 h3_5)), Q20 4 4 [(FT4 z2.1)]] 5)))))))) (∃ z4 : Bool, ((Q11 49 (Q115 (.c Q28) (.fn (.func 52) [] [(false, [(Q81 4)])])) [Q7 4 (cT z2.1)] (Q29 z4) [Q7 4 (cT z2.1)]) ∧ (br (!z2.2) (Q42 (Q80 (Q18 Q71) 0 171) (Q44 2 1 6 0 h0_0l 2 1 0 h0_1l h1 h2) r Hs') (br z4 (Q42 (Q80 (Q18 Q71) 0 171) (Q44 2 1 6 0 h0_0l 2 1 0 h0_1l h1 h2) r Hs') ((1 ≤ 1) ∧ ((z0k 1 56) ∧ (Q41 13 3 r Hs' 1 [Q48 0 0 2, Q13 3 z1.2.1, Q48 11 3 6, Q117 13 4 4 0 1, Q53 35 4 x35, Q13 36 x36, Q13 37 (IntKind.wrap .i64 (x37 + 1))] [Q61 0 2 1 6 0 h0_0l 2 1 0 h0_1l, Q20 1 6 h1, Q116 2 h2, Q19 3 6 (Q122 h3_0 h3_1 h3_2 h3_3 h3_4 (Q8 4 h3_5)), Q20 4 4 [(FT4 z2.1)]] 5)))))))))))))) (Q42 (Q80 (Q18 Q71) x3 0) (Q44 2 1 6 0 h0_0l 2 1 0 h0_1l h1 h2) r Hs')) := by kernel_rfl
theorem v13_1b (x3 : Int) (x13l : Nat) (x35 : RW) (x36 x37 : Int) (h0_0l h0_1l : Nat) (h1 h2 : RW) (h3_0 : Int) (h3_1 : Bool) (h3_2 : Int) (h3_3 : List UInt8) (h3_4 : Int) (h3_5 h4 : RW) (r : TV) (Hs' : List AObj) : VQ lv13 13 3 r Hs' 1 ⟨[Q48 0 0 2, Q13 3 x3, Q48 11 3 6, Q117 13 4 4 0 x13l, Q53 35 4 x35, Q13 36 x36, Q13 37 x37], [Q61 0 2 1 6 0 h0_0l 2 1 0 h0_1l, Q20 1 6 h1, Q116 2 h2, Q19 3 6 (Q122 h3_0 h3_1 h3_2 h3_3 h3_4 (Q8 4 h3_5)), Q20 4 4 h4], 5⟩ =
  (br (decide ((x37 : Int) < x36)) (((FV.isSl 4 (Q5 4 x35) = true) ∧ ((0 ≤ x37) ∧ ((x37 < (length x35 : Int)) ∧ (((rE (getD x35 (toNat x37) [])) : List FV) = (getD x35 (toNat x37) []))))) ∧ (∃ z1 : Tm × Int × Int, ((Q39 21 (Q103 2 (aE (getD x35 (toNat x37) [])) (Q25 x3)) (Q44 2 1 6 0 h0_0l 2 1 0 h0_1l h1 h2) (Q80 (Q37 (cT z1.1)) z1.2.1 z1.2.2) (Q44 2 1 6 0 h0_0l 2 1 0 h0_1l h1 h2)) ∧ (br ((z1.2.2 : Int) != (0 : Int)) (Q42 (Q80 (Q18 Q71) 0 z1.2.2) (Q44 2 1 6 0 h0_0l 2 1 0 h0_1l h1 h2) r Hs') (∃ z2 : Tm × Bool, ((Q39 51 [(aT z1.1)] [] (Q90 (cT z2.1) z2.2) []) ∧ (br ((z2.1.k : Int) == (1 : Int)) (∃ z3 : Bool, ((Q11 49 (Q115 (.c (Q3 0 4 0 x13l)) (.fn (.func 52) [] [(false, [(Q75 1 4)])])) [.arz 4 h4, Q7 4 (cT z2.1)] (Q29 z3) [.arz 4 h4, Q7 4 (cT z2.1)]) ∧ (br (!z2.2) (Q42 (Q80 (Q18 Q71) 0 171) (Q44 2 1 6 0 h0_0l 2 1 0 h0_1l h1 h2) r Hs') (br (decide ((z2.1.n : Int) ≤ h3_0)) (Q42 (Q80 (Q18 Q71) 0 171) (Q44 2 1 6 0 h0_0l 2 1 0 h0_1l h1 h2) r Hs') (br z3 (Q42 (Q80 (Q18 Q71) 0 171) (Q44 2 1 6 0 h0_0l 2 1 0 h0_1l h1 h2) r Hs') ((1 ≤ 1) ∧ ((x13l ≤ (length h4) ∧ z0k (x13l + 1) 56) ∧ (Q41 13 3 r Hs' 1 [Q48 0 0 2, Q13 3 z1.2.1, Q48 11 3 6, Q117 13 4 4 0 (x13l + 1), Q53 35 4 x35, Q13 36 x36, Q13 37 (IntKind.wrap .i64 (x37 + 1))] [Q61 0 2 1 6 0 h0_0l 2 1 0 h0_1l, Q20 1 6 h1, Q116 2 h2, Q19 3 6 (Q122 h3_0 h3_1 h3_2 h3_3 h3_4 (Q8 4 h3_5)), Q20 4 4 ((take x13l h4) ++ [(FT4 z2.1)])] 5)))))))) (∃ z4 : Bool, ((Q11 49 (Q115 (.c (Q3 0 4 0 x13l)) (.fn (.func 52) [] [(false, [(Q75 1 4)])])) [.arz 4 h4, Q7 4 (cT z2.1)] (Q29 z4) [.arz 4 h4, Q7 4 (cT z2.1)]) ∧ (br (!z2.2) (Q42 (Q80 (Q18 Q71) 0 171) (Q44 2 1 6 0 h0_0l 2 1 0 h0_1l h1 h2) r Hs') (br z4 (Q42 (Q80 (Q18 Q71) 0 171) (Q44 2 1 6 0 h0_0l 2 1 0 h0_1l h1 h2) r Hs') ((1 ≤ 1) ∧ ((x13l ≤ (length h4) ∧ z0k (x13l + 1) 56) ∧ (Q41 13 3 r Hs' 1 [Q48 0 0 2, Q13 3 z1.2.1, Q48 11 3 6, Q117 13 4 4 0 (x13l + 1), Q53 35 4 x35, Q13 36 x36, Q13 37 (IntKind.wrap .i64 (x37 + 1))] [Q61 0 2 1 6 0 h0_0l 2 1 0 h0_1l, Q20 1 6 h1, Q116 2 h2, Q19 3 6 (Q122 h3_0 h3_1 h3_2 h3_3 h3_4 (Q8 4 h3_5)), Q20 4 4 ((take x13l h4) ++ [(FT4 z2.1)])] 5)))))))))))))) (((4 : Nat) = 4 ∧ (0 + x13l) ≤ (length h4)) ∧ (Q42 (Q80 (Q18 [Q8 4 (take x13l (drop 0 h4))]) x3 0) (Q44 2 1 6 0 h0_0l 2 1 0 h0_1l h1 h2) r Hs'))) := by kernel_rfl
def lv18 : List (Nat × List Nat) := [(1000001, [1, 2])]
theorem v18 (x : Int) (l : RW) (t_0 : Int) (t_1 : List UInt8) (t_2 : Int) (t_3 : RW) (fuel : Int) (o0_0l o0_1l : Nat) (o1 o2 : RW) (r : TV) (Hs' : List AObj) : VE lv18 18 3 r Hs' [Q102 2, Q25 x, Q76 4 l, Q67 t_0 t_1 t_2 t_3, Q25 fuel] (Q44 2 1 6 0 o0_0l 2 1 0 o0_1l o1 o2) =
  (∃ z1 : Int × Bool × Tm × Bool, ((Q39 19 (Q78 (Q102 2) x) (Q44 2 1 6 0 o0_0l 2 1 0 o0_1l o1 o2) (Q90 (Q122 z1.1 z1.2.1 z1.2.2.1.k z1.2.2.1.s z1.2.2.1.n (Q8 4 (FTs z1.2.2.1.l))) z1.2.2.2) (Q44 2 1 6 0 o0_0l 2 1 0 o0_1l o1 o2)) ∧ (br (!z1.2.2.2) (Q42 (Q80 (Q37 (Q45 0 [] 0)) 0 1) (Q119 3 o0_0l 4 o0_1l o1 o2) r Hs') (br z1.2.1 (Q42 (Q80 (Q37 (Q45 0 [] 0)) 0 1) (Q119 3 o0_0l 4 o0_1l o1 o2) r Hs') (∃ b2 : Bool, ((Q60 50 [Q67 t_0 t_1 t_2 t_3] b2) ∧ (br b2 (Q42 (Q80 (Q37 (Q45 0 [] 0)) 0 1) (Q119 3 o0_0l 4 o0_1l o1 o2) r Hs') (∃ z3 : Bool, ((Q60 49 (Q115 (Q76 4 l) (.fn (.func 61) [] [])) z3) ∧ (br z3 (Q42 (Q80 (Q37 (Q45 0 [] 0)) 0 1) (Q119 3 o0_0l 4 o0_1l o1 o2) r Hs') (∃ z4 : Tm × Sto × Int × Int × List Tm × Int × Int, ((Q11 63 (Q103 6 (Q67 t_0 t_1 t_2 t_3) (Q25 0)) (Q88 (Q72 6 1 2 0 0 x z1.1 4 l fuel 0) 2 o0_0l 3 o0_1l o1 o2) (aT z4.1) (Q87 (Q72 6 1 2 0 0 z4.2.2.1 z4.2.2.2.1 4 (FTs z4.2.2.2.2.1) z4.2.2.2.2.2.1 z4.2.2.2.2.2.2) (Q86 4 (length z4.2.1.V) 5 (length z4.2.1.T)) .gone (Q33 (SR z4.2.1.V)) (Q30 (IR z4.2.1.T)))) ∧ (br ((z4.2.2.2.2.2.2 : Int) != (0 : Int)) (Q42 (Q80 (Q37 (Q45 0 [] 0)) 0 z4.2.2.2.2.2.2) (Q119 3 (length z4.2.1.V) 4 (length z4.2.1.T) (SR z4.2.1.V) (IR z4.2.1.T)) r Hs') ((FV.isSl 4 (Q5 4 l) = true) ∧ (∃ z5 : Tm, ((Q57 45 [Q25 (length l : Int), (aT z4.1)] (aT z5)) ∧ (Q42 (Q80 (Q37 (cT z5)) z4.2.2.2.2.2.1 0) (Q119 3 (length z4.2.1.V) 4 (length z4.2.1.T) (SR z4.2.1.V) (IR z4.2.1.T)) r Hs'))))))))))))))))) := by kernel_rfl
def lv19 : List (Nat × List Nat) := []
theorem v19 (x : Int) (o0_0l o0_1l : Nat) (o1 o2 : RW) (r : TV) (Hs' : List AObj) : VE lv19 19 3 r Hs' (Q78 (Q102 2) x) (Q44 2 1 6 0 o0_0l 2 1 0 o0_1l o1 o2) =
  (br (decide ((x : Int) < (0 : Int))) (Q42 (Q90 (Q122 0 false 0 [] 0 Q28) false) (Q44 2 1 6 0 o0_0l 2 1 0 o0_1l o1 o2) r Hs') (br (decide ((x : Int) ≥ (o0_0l : Int))) (Q42 (Q90 (Q122 0 false 0 [] 0 Q28) false) (Q44 2 1 6 0 o0_0l 2 1 0 o0_1l o1 o2) r Hs') ((0 ≤ x ∧ x < (o0_0l : Int)) ∧ ((((0 + (toNat x)) < (length o1)) ∧ ((([(Q1 (FV.asI (getD (getD o1 (0 + (toNat x)) []) 0 FV.nils))), (.bool (FV.asB (getD (getD o1 (0 + (toNat x)) []) 1 FV.nils))), (Q1 (FV.asI (getD (getD o1 (0 + (toNat x)) []) 2 FV.nils))), (.str (FV.asS (getD (getD o1 (0 + (toNat x)) []) 3 FV.nils))), (Q1 (FV.asI (getD (getD o1 (0 + (toNat x)) []) 4 FV.nils))), (getD (getD o1 (0 + (toNat x)) []) 5 FV.nils)] : List FV) = (take 6 (drop 0 (getD o1 (0 + (toNat x)) [])))) ∧ ((6 : Nat) = 6))) ∧ (Q42 (Q90 (Q122 (FV.asI (getD (getD o1 (0 + (toNat x)) []) 0 FV.nils)) (FV.asB (getD (getD o1 (0 + (toNat x)) []) 1 FV.nils)) (FV.asI (getD (getD o1 (0 + (toNat x)) []) 2 FV.nils)) (FV.asS (getD (getD o1 (0 + (toNat x)) []) 3 FV.nils)) (FV.asI (getD (getD o1 (0 + (toNat x)) []) 4 FV.nils)) (Q0 (getD (getD o1 (0 + (toNat x)) []) 5 FV.nils))) true) (Q44 2 1 6 0 o0_0l 2 1 0 o0_1l o1 o2) r Hs'))))) := by kernel_rfl
def lv20 : List (Nat × List Nat) := []
theorem v20 (t_0 : Int) (t_1 : List UInt8) (t_2 : Int) (t_3 : RW) (r : TV) (Hs' : List AObj) : VE lv20 20 0 r Hs' [Q67 t_0 t_1 t_2 t_3] [] =
  (br ((t_0 : Int) == (0 : Int)) (∃ b1 : Bool, ((Q60 64 [.c (Q6 t_1)] b1) ∧ (br b1 (br ((t_2 : Int) == (0 : Int)) ((FV.isSl 4 (Q5 4 t_3) = true) ∧ (Q58 (((length t_3 : Int) : Int) == (0 : Int)) r Hs')) (Q62 r Hs')) (∃ b2 : Bool, ((Q60 65 [.c (Q6 t_1)] b2) ∧ (br b2 (br ((t_2 : Int) == (0 : Int)) ((FV.isSl 4 (Q5 4 t_3) = true) ∧ (Q58 (((length t_3 : Int) : Int) == (0 : Int)) r Hs')) (Q62 r Hs')) (Q62 r Hs'))))))) (br ((t_0 : Int) == (1 : Int)) (br (decide ((t_2 : Int) ≥ (1 : Int))) (br ((t_1 : List UInt8) == []) ((FV.isSl 4 (Q5 4 t_3) = true) ∧ (br (((length t_3 : Int) : Int) == (0 : Int)) (∃ z3 : Bool, ((Q60 49 (Q115 (Q76 4 t_3) (.fn (.func 66) [] [])) z3) ∧ (Q58 (!z3) r Hs'))) (Q62 r Hs'))) (Q62 r Hs')) (Q62 r Hs')) (br ((t_0 : Int) == (2 : Int)) (br ((t_1 : List UInt8) == []) ((FV.isSl 4 (Q5 4 t_3) = true) ∧ (br (((length t_3 : Int) : Int) == (0 : Int)) (∃ z4 : Bool, ((Q60 49 (Q115 (Q76 4 t_3) (.fn (.func 66) [] [])) z4) ∧ (Q58 (!z4) r Hs'))) (Q62 r Hs'))) (Q62 r Hs')) (br ((t_0 : Int) == (3 : Int)) (br (decide ((t_2 : Int) ≥ (0 : Int))) (br (decide ((t_2 : Int) ≤ (4611686018427387904 : Int))) (br ((t_1 : List UInt8) == []) ((FV.isSl 4 (Q5 4 t_3) = true) ∧ (br (((length t_3 : Int) : Int) == (0 : Int)) (∃ z5 : Bool, ((Q60 49 (Q115 (Q76 4 t_3) (.fn (.func 66) [] [])) z5) ∧ (Q58 (!z5) r Hs'))) (Q62 r Hs'))) (Q62 r Hs')) (Q62 r Hs')) (Q62 r Hs')) (br ((t_0 : Int) == (4 : Int)) (br (decide ((t_2 : Int) ≥ (0 : Int))) (br (decide ((t_2 : Int) ≤ (4611686018427387904 : Int))) (br ((t_1 : List UInt8) == []) ((FV.isSl 4 (Q5 4 t_3) = true) ∧ (br (((length t_3 : Int) : Int) == (0 : Int)) (∃ z6 : Bool, ((Q60 49 (Q115 (Q76 4 t_3) (.fn (.func 66) [] [])) z6) ∧ (Q58 (!z6) r Hs'))) (Q62 r Hs'))) (Q62 r Hs')) (Q62 r Hs')) (Q62 r Hs')) (br ((t_0 : Int) == (5 : Int)) (br ((t_2 : Int) == (0 : Int)) (br ((t_1 : List UInt8) == []) ((FV.isSl 4 (Q5 4 t_3) = true) ∧ (br (((length t_3 : Int) : Int) == (1 : Int)) (∃ z7 : Bool, ((Q60 49 (Q115 (Q76 4 t_3) (.fn (.func 66) [] [])) z7) ∧ (Q58 (!z7) r Hs'))) (Q62 r Hs'))) (Q62 r Hs')) (Q62 r Hs')) (br ((t_0 : Int) == (6 : Int)) (br ((t_2 : Int) == (0 : Int)) ((FV.isSl 4 (Q5 4 t_3) = true) ∧ (br (decide (((length t_3 : Int) : Int) ≥ (2 : Int))) (((FV.isSl 4 (Q5 4 t_3) = true) ∧ ((0 ≤ (0 : Int)) ∧ (((0 : Int) < (length t_3 : Int)) ∧ (((rE (getD t_3 0 [])) : List FV) = (getD t_3 0 []))))) ∧ ((FV.isSl 4 (Q5 4 t_3) = true) ∧ (br (((FV.asI (getD (getD t_3 0 []) 0 FV.nils)) : Int) != (6 : Int)) (br ((t_1 : List UInt8) == []) ((FV.isSl 4 (Q5 4 t_3) = true) ∧ (br (((length t_3 : Int) : Int) == (length t_3 : Int)) (∃ z8 : Bool, ((Q60 49 (Q115 (Q76 4 t_3) (.fn (.func 66) [] [])) z8) ∧ (Q58 (!z8) r Hs'))) (Q62 r Hs'))) (Q62 r Hs')) (Q62 r Hs')))) ((FV.isSl 4 (Q5 4 t_3) = true) ∧ (Q62 r Hs')))) ((FV.isSl 4 (Q5 4 t_3) = true) ∧ (Q62 r Hs'))) (Q62 r Hs')))))))) := by kernel_rfl
def lv21 : List (Nat × List Nat) := []
theorem v21 (t_0 : Int) (t_1 : List UInt8) (t_2 : Int) (t_3 : RW) (fuel : Int) (o0_0l o0_1l : Nat) (o1 o2 : RW) (r : TV) (Hs' : List AObj) : VE lv21 21 3 r Hs' (Q103 2 (Q67 t_0 t_1 t_2 t_3) (Q25 fuel)) (Q44 2 1 6 0 o0_0l 2 1 0 o0_1l o1 o2) =
  (∃ z1 : Tm × Int × Int, ((Q39 67 (Q97 (Q67 t_0 t_1 t_2 t_3) fuel (.fn (.func 68) [(false, [(Q81 2)])] [])) (Q44 2 1 6 0 o0_0l 2 1 0 o0_1l o1 o2) (Q80 (Q37 (cT z1.1)) z1.2.1 z1.2.2) (Q44 2 1 6 0 o0_0l 2 1 0 o0_1l o1 o2)) ∧ (br ((z1.2.2 : Int) != (0 : Int)) (Q42 (Q80 (Q37 (Q45 0 [] 0)) 0 z1.2.2) (Q44 2 1 6 0 o0_0l 2 1 0 o0_1l o1 o2) r Hs') (∃ z2 : Tm, ((Q57 26 [(aT z1.1)] (aT z2)) ∧ (Q42 (Q80 (Q37 (cT z2)) z1.2.1 0) (Q44 2 1 6 0 o0_0l 2 1 0 o0_1l o1 o2) r Hs')))))) := by kernel_rfl
def lv22 : List (Nat × List Nat) := []
theorem v22 (t_0 : Int) (t_1 : List UInt8) (t_2 : Int) (t_3 : RW) (r : TV) (Hs' : List AObj) : VE lv22 22 0 r Hs' [Q67 t_0 t_1 t_2 t_3] [] =
  ((∃ z1 : Int, ((Q39 58 (Q97 (Q67 t_0 t_1 t_2 t_3) 0 (.fn (.func 69) [] [(false, [Q92])])) [Q91 0] [] [Q91 z1]) ∧ (Q96 z1 [] r Hs'))) ∨ ((∃ _ : Unit, ((Q39 58 (Q97 (Q67 t_0 t_1 t_2 t_3) 0 (.fn (.func 69) [] [(false, [Q92])])) [Q91 0] [] [Q99 1]) ∧ (RT (.c Q28) [] r Hs'))) ∨ ((∃ z3 : Nat × RW, ((Q39 58 (Q97 (Q67 t_0 t_1 t_2 t_3) 0 (.fn (.func 69) [] [(false, [Q92])])) [Q91 0] [] (Q109 1 1 1 0 z3.1 z3.2)) ∧ (((1 : Nat) = 1 ∧ (0 + z3.1) ≤ (length z3.2)) ∧ (RT (Q76 1 (take z3.1 (drop 0 z3.2))) [] r Hs')))) ∨ (∃ z4 : Nat × RW, ((Q39 58 (Q97 (Q67 t_0 t_1 t_2 t_3) 0 (.fn (.func 69) [] [(false, [Q92])])) [Q91 0] [] (Q34 (Q94 1 2 1 0 z4.1) .gone z4.2)) ∧ (((1 : Nat) = 1 ∧ (0 + z4.1) ≤ (length z4.2)) ∧ (RT (Q76 1 (take z4.1 (drop 0 z4.2))) [] r Hs'))))))) := by kernel_rfl
def lv23 : List (Nat × List Nat) := [(1, [0, 2, 4, 9])]
theorem v23 (t_0 : Int) (t_1 : List UInt8) (t_2 : Int) (t_3 : RW) (level : Int) (o0_0l o0_1l : Nat) (o1 o2 : RW) (r : TV) (Hs' : List AObj) : VE lv23 23 3 r Hs' (Q103 2 (Q67 t_0 t_1 t_2 t_3) (Q25 level)) (Q44 2 1 6 0 o0_0l 2 1 0 o0_1l o1 o2) =
  (br ((t_0 : Int) == (1 : Int)) (br (decide ((t_2 : Int) > level)) (Q36 false (Q44 2 1 6 0 o0_0l 2 1 0 o0_1l o1 o2) r Hs') (br ((t_0 : Int) == (4 : Int)) (∃ z1 : Int × Bool × Tm × Bool, ((Q39 19 (Q78 (Q102 2) t_2) (Q44 2 1 6 0 o0_0l 2 1 0 o0_1l o1 o2) (Q90 (Q122 z1.1 z1.2.1 z1.2.2.1.k z1.2.2.1.s z1.2.2.1.n (Q8 4 (FTs z1.2.2.1.l))) z1.2.2.2) (Q44 2 1 6 0 o0_0l 2 1 0 o0_1l o1 o2)) ∧ (br z1.2.2.2 (br (decide ((z1.1 : Int) > level)) (Q36 false (Q44 2 1 6 0 o0_0l 2 1 0 o0_1l o1 o2) r Hs') (Q41 23 3 r Hs' 1 (Q65 (Q48 0 0 2) (Q13 2 level) (Q77 4 3) 9 0) [Q61 0 2 1 6 0 o0_0l 2 1 0 o0_1l, Q20 1 6 o1, Q116 2 o2, Q51 3 4 t_0 t_1 t_2 4 t_3] 4)) (Q41 23 3 r Hs' 1 (Q65 (Q48 0 0 2) (Q13 2 level) (Q77 4 3) 9 0) [Q61 0 2 1 6 0 o0_0l 2 1 0 o0_1l, Q20 1 6 o1, Q116 2 o2, Q51 3 4 t_0 t_1 t_2 4 t_3] 4)))) (Q41 23 3 r Hs' 1 (Q65 (Q48 0 0 2) (Q13 2 level) (Q77 4 3) 9 0) [Q61 0 2 1 6 0 o0_0l 2 1 0 o0_1l, Q20 1 6 o1, Q116 2 o2, Q51 3 4 t_0 t_1 t_2 4 t_3] 4))) (br ((t_0 : Int) == (4 : Int)) (∃ z2 : Int × Bool × Tm × Bool, ((Q39 19 (Q78 (Q102 2) t_2) (Q44 2 1 6 0 o0_0l 2 1 0 o0_1l o1 o2) (Q90 (Q122 z2.1 z2.2.1 z2.2.2.1.k z2.2.2.1.s z2.2.2.1.n (Q8 4 (FTs z2.2.2.1.l))) z2.2.2.2) (Q44 2 1 6 0 o0_0l 2 1 0 o0_1l o1 o2)) ∧ (br z2.2.2.2 (br (decide ((z2.1 : Int) > level)) (Q36 false (Q44 2 1 6 0 o0_0l 2 1 0 o0_1l o1 o2) r Hs') (Q41 23 3 r Hs' 1 (Q65 (Q48 0 0 2) (Q13 2 level) (Q77 4 3) 9 0) [Q61 0 2 1 6 0 o0_0l 2 1 0 o0_1l, Q20 1 6 o1, Q116 2 o2, Q51 3 4 t_0 t_1 t_2 4 t_3] 4)) (Q41 23 3 r Hs' 1 (Q65 (Q48 0 0 2) (Q13 2 level) (Q77 4 3) 9 0) [Q61 0 2 1 6 0 o0_0l 2 1 0 o0_1l, Q20 1 6 o1, Q116 2 o2, Q51 3 4 t_0 t_1 t_2 4 t_3] 4)))) (Q41 23 3 r Hs' 1 (Q65 (Q48 0 0 2) (Q13 2 level) (Q77 4 3) 9 0) [Q61 0 2 1 6 0 o0_0l 2 1 0 o0_1l, Q20 1 6 o1, Q116 2 o2, Q51 3 4 t_0 t_1 t_2 4 t_3] 4))) := by kernel_rfl
theorem v23_1a (x2 x9 : Int) (h0_0l h0_1l : Nat) (h1 h2 : RW) (h3_0 : Int) (h3_1 : List UInt8) (h3_2 : Int) (h3_3 : RW) (r : TV) (Hs' : List AObj) : VQ lv23 23 3 r Hs' 1 ⟨Q65 (Q48 0 0 2) (Q13 2 x2) (Q77 4 3) 9 x9, [Q61 0 2 1 6 0 h0_0l 2 1 0 h0_1l, Q20 1 6 h1, Q116 2 h2, Q51 3 4 h3_0 h3_1 h3_2 4 h3_3], 4⟩ =
  ((FV.isSl 4 (Q5 4 h3_3) = true) ∧ (br (decide ((x9 : Int) < (length h3_3 : Int))) (((FV.isSl 4 (Q5 4 h3_3) = true) ∧ ((0 ≤ x9) ∧ ((x9 < (length h3_3 : Int)) ∧ (((rE (getD h3_3 (toNat x9) [])) : List FV) = (getD h3_3 (toNat x9) []))))) ∧ (∃ b1 : Bool, ((Q11 23 (Q103 2 (aE (getD h3_3 (toNat x9) [])) (Q25 x2)) (Q44 2 1 6 0 h0_0l 2 1 0 h0_1l h1 h2) (Q29 b1) (Q44 2 1 6 0 h0_0l 2 1 0 h0_1l h1 h2)) ∧ (br (!b1) (Q36 false (Q44 2 1 6 0 h0_0l 2 1 0 h0_1l h1 h2) r Hs') (Q41 23 3 r Hs' 1 (Q65 (Q48 0 0 2) (Q13 2 x2) (Q77 4 3) 9 (IntKind.wrap .i64 (x9 + 1))) [Q61 0 2 1 6 0 h0_0l 2 1 0 h0_1l, Q20 1 6 h1, Q116 2 h2, Q51 3 4 h3_0 h3_1 h3_2 4 h3_3] 4))))) (Q36 true (Q44 2 1 6 0 h0_0l 2 1 0 h0_1l h1 h2) r Hs'))) := by kernel_rfl
def lv24 : List (Nat × List Nat) := []
theorem v24 (f_0 : Int) (f_1 : List UInt8) (f_2 : Int) (f_3 args : RW) (r : TV) (Hs' : List AObj) : VE lv24 24 0 r Hs' [Q67 f_0 f_1 f_2 f_3, Q76 4 args] [] =
  ((FV.isSl 4 (Q5 4 args) = true) ∧ (br (((length args : Int) : Int) == (0 : Int)) (RT (Q67 f_0 f_1 f_2 f_3) [] r Hs') (br ((f_0 : Int) == (6 : Int)) ((FV.isSl 4 (Q5 4 f_3) = true) ∧ (br (decide (((length f_3 : Int) : Int) > (0 : Int))) (((1 : Nat) = 1 ∧ 2 ≤ 2) ∧ (∃ z1 : List Tm, ((Q57 70 [Q76 1 [[(Q5 4 f_3)], [(Q5 4 args)]]] (Q76 4 (FTs z1))) ∧ (RT (Q67 6 [] 0 (FTs z1)) [] r Hs')))) (((4 : Nat) = 4 ∧ 1 ≤ 1) ∧ (((1 : Nat) = 1 ∧ 2 ≤ 2) ∧ (∃ z2 : List Tm, ((Q57 70 [Q76 1 [[(Q5 4 [[(Q1 f_0), (.str f_1), (Q1 f_2), (Q5 4 f_3)]])], [(Q5 4 args)]]] (Q76 4 (FTs z2))) ∧ (RT (Q67 6 [] 0 (FTs z2)) [] r Hs'))))))) (((4 : Nat) = 4 ∧ 1 ≤ 1) ∧ (((1 : Nat) = 1 ∧ 2 ≤ 2) ∧ (∃ z3 : List Tm, ((Q57 70 [Q76 1 [[(Q5 4 [[(Q1 f_0), (.str f_1), (Q1 f_2), (Q5 4 f_3)]])], [(Q5 4 args)]]] (Q76 4 (FTs z3))) ∧ (RT (Q67 6 [] 0 (FTs z3)) [] r Hs')))))))) := by kernel_rfl
def lv25 : List (Nat × List Nat) := [(1, [2, 3, 5])]
theorem v25 (a_0 : Int) (a_1 : List UInt8) (a_2 : Int) (a_3 : RW) (b_0 : Int) (b_1 : List UInt8) (b_2 : Int) (b_3 : RW) (r : TV) (Hs' : List AObj) : VE lv25 25 0 r Hs' [Q67 a_0 a_1 a_2 a_3, Q67 b_0 b_1 b_2 b_3] [] =
  (br ((a_0 : Int) != b_0) (Q62 r Hs') (br (!((a_1 : List UInt8) == b_1)) (Q62 r Hs') (br ((a_2 : Int) != b_2) (Q62 r Hs') ((FV.isSl 4 (Q5 4 a_3) = true) ∧ ((FV.isSl 4 (Q5 4 b_3) = true) ∧ (br (((length a_3 : Int) : Int) != (length b_3 : Int)) (Q62 r Hs') (Q41 25 0 r Hs' 1 [Q77 2 0, Q77 3 1, Q13 5 0] [Q51 0 4 a_0 a_1 a_2 4 a_3, Q51 1 4 b_0 b_1 b_2 4 b_3] 2))))))) := by kernel_rfl
theorem v25_1a (x5 h0_0 : Int) (h0_1 : List UInt8) (h0_2 : Int) (h0_3 : RW) (h1_0 : Int) (h1_1 : List UInt8) (h1_2 : Int) (h1_3 : RW) (r : TV) (Hs' : List AObj) : VQ lv25 25 0 r Hs' 1 ⟨[Q77 2 0, Q77 3 1, Q13 5 x5], [Q51 0 4 h0_0 h0_1 h0_2 4 h0_3, Q51 1 4 h1_0 h1_1 h1_2 4 h1_3], 2⟩ =
  ((FV.isSl 4 (Q5 4 h0_3) = true) ∧ (br (decide ((x5 : Int) < (length h0_3 : Int))) (((FV.isSl 4 (Q5 4 h0_3) = true) ∧ ((0 ≤ x5) ∧ ((x5 < (length h0_3 : Int)) ∧ (((rE (getD h0_3 (toNat x5) [])) : List FV) = (getD h0_3 (toNat x5) []))))) ∧ (((FV.isSl 4 (Q5 4 h1_3) = true) ∧ ((0 ≤ x5) ∧ ((x5 < (length h1_3 : Int)) ∧ (((rE (getD h1_3 (toNat x5) [])) : List FV) = (getD h1_3 (toNat x5) []))))) ∧ (∃ b1 : Bool, ((Q60 25 [(aE (getD h0_3 (toNat x5) [])), (aE (getD h1_3 (toNat x5) []))] b1) ∧ (br (!b1) (Q62 r Hs') (Q41 25 0 r Hs' 1 [Q77 2 0, Q77 3 1, Q13 5 (IntKind.wrap .i64 (x5 + 1))] [Q51 0 4 h0_0 h0_1 h0_2 4 h0_3, Q51 1 4 h1_0 h1_1 h1_2 4 h1_3] 2)))))) (Q58 true r Hs'))) := by kernel_rfl
def lv26 : List (Nat × List Nat) := []
theorem v26 (t_0 : Int) (t_1 : List UInt8) (t_2 : Int) (t_3 : RW) (r : TV) (Hs' : List AObj) : VE lv26 26 0 r Hs' [Q67 t_0 t_1 t_2 t_3] [] =
  (∃ b1 : Bool, ((Q60 20 [Q67 t_0 t_1 t_2 t_3] b1) ∧ (br (!b1) (RT (Q67 t_0 t_1 t_2 t_3) [] r Hs') (∃ z2 : Tm, ((Q57 71 [Q67 t_0 t_1 t_2 t_3] (aT z2)) ∧ (RT (aT z2) [] r Hs')))))) := by kernel_rfl
def lv41 : List (Nat × List Nat) := []
theorem v41 (t_0 : Int) (t_1 : List UInt8) (t_2 : Int) (t_3 : RW) (most : Int) (r : TV) (Hs' : List AObj) : VE lv41 41 0 r Hs' (Q78 (Q67 t_0 t_1 t_2 t_3) most) [] =
  (∃ n1 : Int, ((Q57 81 (Q78 (Q67 t_0 t_1 t_2 t_3) most) (Q25 n1)) ∧ (Q58 (decide ((n1 : Int) < (0 : Int))) r Hs'))) := by kernel_rfl
def lv42 : List (Nat × List Nat) := [(1, [1, 2, 5])]
theorem v42 (t_0 : Int) (t_1 : List UInt8) (t_2 : Int) (t_3 : RW) (most : Int) (r : TV) (Hs' : List AObj) : VE lv42 42 0 r Hs' (Q78 (Q67 t_0 t_1 t_2 t_3) most) [] =
  (br ((t_0 : Int) != (2 : Int)) (br (decide ((t_2 : Int) > most)) (Q62 r Hs') (br (decide ((t_2 : Int) < (IntKind.wrap .i64 (0 - most)))) (Q62 r Hs') (Q41 42 0 r Hs' 1 [Q13 1 most, Q77 2 0, Q13 5 0] [Q51 0 4 t_0 t_1 t_2 4 t_3] 1))) (Q41 42 0 r Hs' 1 [Q13 1 most, Q77 2 0, Q13 5 0] [Q51 0 4 t_0 t_1 t_2 4 t_3] 1)) := by kernel_rfl
theorem v42_1a (x1 x5 h0_0 : Int) (h0_1 : List UInt8) (h0_2 : Int) (h0_3 : RW) (r : TV) (Hs' : List AObj) : VQ lv42 42 0 r Hs' 1 ⟨[Q13 1 x1, Q77 2 0, Q13 5 x5], [Q51 0 4 h0_0 h0_1 h0_2 4 h0_3], 1⟩ =
  ((FV.isSl 4 (Q5 4 h0_3) = true) ∧ (br (decide ((x5 : Int) < (length h0_3 : Int))) (((FV.isSl 4 (Q5 4 h0_3) = true) ∧ ((0 ≤ x5) ∧ ((x5 < (length h0_3 : Int)) ∧ (((rE (getD h0_3 (toNat x5) [])) : List FV) = (getD h0_3 (toNat x5) []))))) ∧ (∃ b1 : Bool, ((Q60 42 (Q78 (aE (getD h0_3 (toNat x5) [])) x1) b1) ∧ (br (!b1) (Q62 r Hs') (Q41 42 0 r Hs' 1 [Q13 1 x1, Q77 2 0, Q13 5 (IntKind.wrap .i64 (x5 + 1))] [Q51 0 4 h0_0 h0_1 h0_2 4 h0_3] 1))))) (Q58 true r Hs'))) := by kernel_rfl
def lv34 : List (Nat × List Nat) := []
theorem v34  (r : TV) (Hs' : List AObj) : VE lv34 34 0 r Hs' [] [] =
  (RT (Q102 2) (Q44 2 1 6 0 0 2 1 0 0 [] []) r Hs') := by kernel_rfl
def lv35 : List (Nat × List Nat) := [(1000001, [1, 2])]
theorem v35 (level : Int) (o0_0l o0_1l : Nat) (o1 o2 : RW) (r : TV) (Hs' : List AObj) : VE lv35 35 3 r Hs' (Q78 (Q102 2) level) (Q44 2 1 6 0 o0_0l 2 1 0 o0_1l o1 o2) =
  ((1 ≤ 1) ∧ ((o0_0l ≤ (length o1) ∧ z0k (o0_0l + 1) 72) ∧ (Q96 (IntKind.wrap .i64 ((((o0_0l + 1) : Nat) : Int) - (1 : Int))) (Q119 3 (o0_0l + 1) 4 o0_1l ((take o0_0l o1) ++ [[(Q1 (z0i [level, (0 : Int)])), (.bool false), (Q1 0), (.str []), (Q1 0), .nils]]) o2) r Hs'))) := by kernel_rfl
def lv46 : List (Nat × List Nat) := [(1000001, [1, 2])]
theorem v46 (level : Int) (o0_0l o0_1l : Nat) (o1 o2 : RW) (r : TV) (Hs' : List AObj) : VE lv46 46 3 r Hs' (Q78 (Q102 2) level) (Q44 2 1 6 0 o0_0l 2 1 0 o0_1l o1 o2) =
  ((1 ≤ 1) ∧ ((o0_0l ≤ (length o1) ∧ z0k (o0_0l + 1) 72) ∧ (Q96 (IntKind.wrap .i64 ((((o0_0l + 1) : Nat) : Int) - (1 : Int))) (Q119 3 (o0_0l + 1) 4 o0_1l ((take o0_0l o1) ++ [[(Q1 (z0i [level, (0 : Int)])), (.bool false), (Q1 0), (.str []), (Q1 0), .nils]]) o2) r Hs'))) := by kernel_rfl
def lv47 : List (Nat × List Nat) := [(1000001, [1, 2])]
theorem v47 (x t_0 : Int) (t_1 : List UInt8) (t_2 : Int) (t_3 : RW) (o0_0l o0_1l : Nat) (o1 o2 : RW) (r : TV) (Hs' : List AObj) : VE lv47 47 3 r Hs' (Q59 (Q102 2) x (Q67 t_0 t_1 t_2 t_3)) (Q44 2 1 6 0 o0_0l 2 1 0 o0_1l o1 o2) =
  (∃ z1 : Int × Bool × Tm × Bool, ((Q39 19 (Q78 (Q102 2) x) (Q44 2 1 6 0 o0_0l 2 1 0 o0_1l o1 o2) (Q90 (Q122 z1.1 z1.2.1 z1.2.2.1.k z1.2.2.1.s z1.2.2.1.n (Q8 4 (FTs z1.2.2.1.l))) z1.2.2.2) (Q44 2 1 6 0 o0_0l 2 1 0 o0_1l o1 o2)) ∧ (br (!z1.2.2.2) (Q96 1 (Q119 3 o0_0l 4 o0_1l o1 o2) r Hs') (br z1.2.1 (Q96 1 (Q119 3 o0_0l 4 o0_1l o1 o2) r Hs') (∃ b2 : Bool, ((Q60 20 [Q67 t_0 t_1 t_2 t_3] b2) ∧ (br (!b2) (Q96 1 (Q119 3 o0_0l 4 o0_1l o1 o2) r Hs') (∃ n3 : Int, ((Q57 22 [Q67 t_0 t_1 t_2 t_3] (Q25 n3)) ∧ (br (decide ((n3 : Int) > (0 : Int))) (Q96 1 (Q119 3 o0_0l 4 o0_1l o1 o2) r Hs') ((0 ≤ x ∧ x < (o0_0l : Int)) ∧ (((0 + (toNat x)) < (length o1) ∧ (length (getD o1 (0 + (toNat x)) [])) = 6) ∧ ((1 ≤ 1) ∧ ((o0_1l ≤ (length o2) ∧ z0k (o0_1l + 1) 8) ∧ (Q96 0 (Q119 3 o0_0l 4 (o0_1l + 1) (List.set o1 (0 + (toNat x)) [(Q1 z1.1), (.bool true), (Q1 t_0), (.str t_1), (Q1 t_2), (Q5 4 t_3)]) ((take o0_1l o2) ++ [[(Q1 x)]])) r Hs'))))))))))))))) := by kernel_rfl
def lv48 : List (Nat × List Nat) := [(1000001, [1, 2])]
theorem v48 (x t_0 : Int) (t_1 : List UInt8) (t_2 : Int) (t_3 : RW) (o0_0l o0_1l : Nat) (o1 o2 : RW) (r : TV) (Hs' : List AObj) : VE lv48 48 3 r Hs' (Q59 (Q102 2) x (Q67 t_0 t_1 t_2 t_3)) (Q44 2 1 6 0 o0_0l 2 1 0 o0_1l o1 o2) =
  (∃ b1 : Bool, ((Q60 54 [Q67 t_0 t_1 t_2 t_3] b1) ∧ (br (decide ((x : Int) < (0 : Int))) (Q96 1 (Q119 3 o0_0l 4 o0_1l o1 o2) r Hs') (br (decide ((x : Int) ≥ (o0_0l : Int))) (Q96 1 (Q119 3 o0_0l 4 o0_1l o1 o2) r Hs') (br (!b1) (Q96 1 (Q119 3 o0_0l 4 o0_1l o1 o2) r Hs') ((0 ≤ x ∧ x < (o0_0l : Int)) ∧ ((((0 + (toNat x)) < (length o1)) ∧ ((([(.bool (FV.asB (getD (getD o1 (0 + (toNat x)) []) 1 FV.nils)))] : List FV) = (take 1 (drop 1 (getD o1 (0 + (toNat x)) [])))) ∧ ((1 : Nat) = 1))) ∧ (br (FV.asB (getD (getD o1 (0 + (toNat x)) []) 1 FV.nils)) (Q96 1 (Q119 3 o0_0l 4 o0_1l o1 o2) r Hs') (∃ n2 : Int, ((Q57 82 (Q78 (Q67 t_0 t_1 t_2 t_3) 0) (Q25 n2)) ∧ (br (decide ((n2 : Int) > (0 : Int))) (Q96 1 (Q119 3 o0_0l 4 o0_1l o1 o2) r Hs') ((0 ≤ x ∧ x < (o0_0l : Int)) ∧ ((((0 + (toNat x)) < (length o1)) ∧ ((([(Q1 (FV.asI (getD (getD o1 (0 + (toNat x)) []) 0 FV.nils)))] : List FV) = (take 1 (drop 0 (getD o1 (0 + (toNat x)) [])))) ∧ ((1 : Nat) = 1))) ∧ ((0 ≤ x ∧ x < (o0_0l : Int)) ∧ (((0 + (toNat x)) < (length o1) ∧ (length (getD o1 (0 + (toNat x)) [])) = 6) ∧ ((1 ≤ 1) ∧ ((o0_1l ≤ (length o2) ∧ z0k (o0_1l + 1) 8) ∧ (Q96 0 (Q119 3 o0_0l 4 (o0_1l + 1) (List.set o1 (0 + (toNat x)) [(Q1 (FV.asI (getD (getD o1 (0 + (toNat x)) []) 0 FV.nils))), (.bool true), (Q1 t_0), (.str t_1), (Q1 t_2), (Q5 4 t_3)]) ((take o0_1l o2) ++ [[(Q1 x)]])) r Hs')))))))))))))))))) := by kernel_rfl
def lv58 : List (Nat × List Nat) := [(1, [1, 2, 7, 27, 28, 29])]
theorem v58_F59 (t_0 : Int) (t_1 : List UInt8) (t_2 : Int) (t_3 : RW) (k : Int) (r : TV) (Hs' : List AObj) : VE lv58 58 1 r Hs' (Q97 (Q67 t_0 t_1 t_2 t_3) k (.fn (.func 59) [] [(false, [Q92])])) [Q99 1] =
  (br ((t_0 : Int) != (5 : Int)) (br ((t_0 : Int) != (6 : Int)) ((∃ _ : Unit, ((Q39 59 (Q59 (Q67 t_0 t_1 t_2 t_3) k (Q102 1)) [Q99 1] [] [Q99 1]) ∧ (Q42 [] [Q99 1] r Hs'))) ∨ ((∃ z2 : Nat × RW, ((Q39 59 (Q59 (Q67 t_0 t_1 t_2 t_3) k (Q102 1)) [Q99 1] [] (Q109 1 1 1 0 z2.1 z2.2)) ∧ (Q42 [] (Q109 1 1 1 0 z2.1 z2.2) r Hs'))) ∨ (∃ z3 : Nat × RW, ((Q39 59 (Q59 (Q67 t_0 t_1 t_2 t_3) k (Q102 1)) [Q99 1] [] (Q34 (Q94 1 2 1 0 z3.1) .gone z3.2)) ∧ (Q42 [] (Q109 1 1 1 0 z3.1 z3.2) r Hs'))))) (∃ y4 : FV, (∃ n5 : Int, ((Q39 88 [Q67 t_0 t_1 t_2 t_3] [] [Q18 [Q0 y4], Q32 n5] []) ∧ ((FV.isSl 4 y4 = true) ∧ (Q41 58 1 r Hs' 1 (Q114 1 k (Q4 2 (.fn (.func 59) [] [(false, [Q92])])) n5 27 y4 28 (length (FV.ses y4) : Int) 29 0) [Q19 0 1 Q71] 1)))))) (∃ y6 : FV, (∃ n7 : Int, ((Q39 88 [Q67 t_0 t_1 t_2 t_3] [] [Q18 [Q0 y6], Q32 n7] []) ∧ ((FV.isSl 4 y6 = true) ∧ (Q41 58 1 r Hs' 1 (Q114 1 k (Q4 2 (.fn (.func 59) [] [(false, [Q92])])) n7 27 y6 28 (length (FV.ses y6) : Int) 29 0) [Q19 0 1 Q71] 1)))))) := by kernel_rfl
theorem zeh (x1 x7 : Int) (x27 : FV) (x28 x29 : Int) (r : TV) (Hs' : List AObj) : VQ lv58 58 1 r Hs' 1 ⟨Q114 1 x1 (Q4 2 (.fn (.func 59) [] [(false, [Q92])])) x7 27 x27 28 x28 29 x29, [Q19 0 1 Q71], 1⟩ =
  (br (decide ((x29 : Int) < x28)) (((FV.isSl 4 x27 = true) ∧ ((0 ≤ x29) ∧ ((x29 < (length (FV.ses x27) : Int)) ∧ (((rE (getD (FV.ses x27) (toNat x29) [])) : List FV) = (getD (FV.ses x27) (toNat x29) []))))) ∧ ((∃ z1 : Int, ((Q39 58 (Q97 (aE (getD (FV.ses x27) (toNat x29) [])) (IntKind.wrap .i64 (x1 + x7)) (.fn (.func 59) [] [(false, [Q92])])) [Q99 1] [] [Q91 z1]) ∧ (Q41 58 1 r Hs' 1 (Q114 1 x1 (Q4 2 (.fn (.func 59) [] [(false, [Q92])])) x7 27 x27 28 x28 29 (IntKind.wrap .i64 (x29 + 1))) [Q95 0 1 z1] 1))) ∨ ((∃ _ : Unit, ((Q39 58 (Q97 (aE (getD (FV.ses x27) (toNat x29) [])) (IntKind.wrap .i64 (x1 + x7)) (.fn (.func 59) [] [(false, [Q92])])) [Q99 1] [] [Q99 1]) ∧ (Q41 58 1 r Hs' 1 (Q114 1 x1 (Q4 2 (.fn (.func 59) [] [(false, [Q92])])) x7 27 x27 28 x28 29 (IntKind.wrap .i64 (x29 + 1))) [Q19 0 1 Q71] 1))) ∨ ((∃ z3 : Nat × RW, ((Q39 58 (Q97 (aE (getD (FV.ses x27) (toNat x29) [])) (IntKind.wrap .i64 (x1 + x7)) (.fn (.func 59) [] [(false, [Q92])])) [Q99 1] [] (Q109 1 1 1 0 z3.1 z3.2)) ∧ (Q41 58 1 r Hs' 1 (Q114 1 x1 (Q4 2 (.fn (.func 59) [] [(false, [Q92])])) x7 27 x27 28 x28 29 (IntKind.wrap .i64 (x29 + 1))) [Q19 0 1 (Q93 1 1 0 z3.1), Q116 1 z3.2] 2))) ∨ (∃ z4 : Nat × RW, ((Q39 58 (Q97 (aE (getD (FV.ses x27) (toNat x29) [])) (IntKind.wrap .i64 (x1 + x7)) (.fn (.func 59) [] [(false, [Q92])])) [Q99 1] [] (Q34 (Q94 1 2 1 0 z4.1) .gone z4.2)) ∧ (Q41 58 1 r Hs' 1 (Q114 1 x1 (Q4 2 (.fn (.func 59) [] [(false, [Q92])])) x7 27 x27 28 x28 29 (IntKind.wrap .i64 (x29 + 1))) [Q19 0 1 (Q93 1 1 0 z4.1), Q116 1 z4.2] 2))))))) (Q42 [] [Q99 1] r Hs')) := by kernel_rfl
theorem zei (x1 x7 : Int) (x27 : FV) (x28 x29 : Int) (h0_0l : Nat) (h1 : RW) (r : TV) (Hs' : List AObj) : VQ lv58 58 1 r Hs' 1 ⟨Q114 1 x1 (Q4 2 (.fn (.func 59) [] [(false, [Q92])])) x7 27 x27 28 x28 29 x29, [Q19 0 1 (Q93 1 1 0 h0_0l), Q116 1 h1], 2⟩ =
  (br (decide ((x29 : Int) < x28)) (((FV.isSl 4 x27 = true) ∧ ((0 ≤ x29) ∧ ((x29 < (length (FV.ses x27) : Int)) ∧ (((rE (getD (FV.ses x27) (toNat x29) [])) : List FV) = (getD (FV.ses x27) (toNat x29) []))))) ∧ ((∃ z1 : Int, ((Q39 58 (Q97 (aE (getD (FV.ses x27) (toNat x29) [])) (IntKind.wrap .i64 (x1 + x7)) (.fn (.func 59) [] [(false, [Q92])])) (Q109 1 1 1 0 h0_0l h1) [] [Q91 z1]) ∧ (Q41 58 1 r Hs' 1 (Q114 1 x1 (Q4 2 (.fn (.func 59) [] [(false, [Q92])])) x7 27 x27 28 x28 29 (IntKind.wrap .i64 (x29 + 1))) [Q95 0 1 z1] 1))) ∨ ((∃ _ : Unit, ((Q39 58 (Q97 (aE (getD (FV.ses x27) (toNat x29) [])) (IntKind.wrap .i64 (x1 + x7)) (.fn (.func 59) [] [(false, [Q92])])) (Q109 1 1 1 0 h0_0l h1) [] [Q99 1]) ∧ (Q41 58 1 r Hs' 1 (Q114 1 x1 (Q4 2 (.fn (.func 59) [] [(false, [Q92])])) x7 27 x27 28 x28 29 (IntKind.wrap .i64 (x29 + 1))) [Q19 0 1 Q71] 1))) ∨ ((∃ z3 : Nat × RW, ((Q39 58 (Q97 (aE (getD (FV.ses x27) (toNat x29) [])) (IntKind.wrap .i64 (x1 + x7)) (.fn (.func 59) [] [(false, [Q92])])) (Q109 1 1 1 0 h0_0l h1) [] (Q109 1 1 1 0 z3.1 z3.2)) ∧ (Q41 58 1 r Hs' 1 (Q114 1 x1 (Q4 2 (.fn (.func 59) [] [(false, [Q92])])) x7 27 x27 28 x28 29 (IntKind.wrap .i64 (x29 + 1))) [Q19 0 1 (Q93 1 1 0 z3.1), Q116 1 z3.2] 2))) ∨ (∃ z4 : Nat × RW, ((Q39 58 (Q97 (aE (getD (FV.ses x27) (toNat x29) [])) (IntKind.wrap .i64 (x1 + x7)) (.fn (.func 59) [] [(false, [Q92])])) (Q109 1 1 1 0 h0_0l h1) [] (Q34 (Q94 1 2 1 0 z4.1) .gone z4.2)) ∧ (Q41 58 1 r Hs' 1 (Q114 1 x1 (Q4 2 (.fn (.func 59) [] [(false, [Q92])])) x7 27 x27 28 x28 29 (IntKind.wrap .i64 (x29 + 1))) [Q19 0 1 (Q93 1 1 0 z4.1), Q116 1 z4.2] 2))))))) (Q42 [] (Q109 1 1 1 0 h0_0l h1) r Hs')) := by kernel_rfl
def lv49 : List (Nat × List Nat) := []
theorem v49_F50 (s : RW) (r : TV) (Hs' : List AObj) : VE lv49 49 0 r Hs' (Q115 (Q76 4 s) (.fn (.func 50) [] [])) [] =
  (∃ z1 : Int, ((Q57 83 (Q115 (Q76 4 s) (.fn (.func 50) [] [])) (Q25 z1)) ∧ (Q58 (decide ((z1 : Int) ≥ (0 : Int))) r Hs'))) := by kernel_rfl
def lv51 : List (Nat × List Nat) := []
theorem v51 (t_0 : Int) (t_1 : List UInt8) (t_2 : Int) (t_3 : RW) (r : TV) (Hs' : List AObj) : VE lv51 51 0 r Hs' [Q67 t_0 t_1 t_2 t_3] [] =
  (∃ b1 : Bool, ((Q60 20 [Q67 t_0 t_1 t_2 t_3] b1) ∧ (br (!b1) (Q42 (Q90 (Q45 0 [] 0) false) [] r Hs') (∃ z2 : Tm, ((Q57 71 [Q67 t_0 t_1 t_2 t_3] (aT z2)) ∧ (br ((z2.k : Int) == (3 : Int)) (Q42 (Q90 (cT z2) true) [] r Hs') (br ((z2.k : Int) == (1 : Int)) (Q42 (Q90 (cT z2) true) [] r Hs') (Q42 (Q90 (Q45 0 [] 0) false) [] r Hs')))))))) := by kernel_rfl
theorem v49_F52 (s : RW) (o0_0 : Int) (o0_1 : List UInt8) (o0_2 : Int) (o0_3 : RW) (r : TV) (Hs' : List AObj) : VE lv49 49 1 r Hs' (Q115 (Q76 4 s) (.fn (.func 52) [] [(false, [(Q81 4)])])) [Q98 4 o0_0 o0_1 o0_2 4 o0_3] =
  (∃ z1 : Int, ((Q11 83 (Q115 (Q76 4 s) (.fn (.func 52) [] [(false, [(Q81 4)])])) [Q98 4 o0_0 o0_1 o0_2 4 o0_3] (Q25 z1) [Q98 4 o0_0 o0_1 o0_2 4 o0_3]) ∧ (Q36 (decide ((z1 : Int) ≥ (0 : Int))) [Q98 4 o0_0 o0_1 o0_2 4 o0_3] r Hs'))) := by kernel_rfl
theorem zp7 (sl : Nat) (o0 : RW) (o1_0 : Int) (o1_1 : List UInt8) (o1_2 : Int) (o1_3 : RW) (r : TV) (Hs' : List AObj) : VE lv49 49 2 r Hs' (Q115 (.c (Q3 0 4 0 sl)) (.fn (.func 52) [] [(false, [(Q75 1 4)])])) [.arz 4 o0, Q98 4 o1_0 o1_1 o1_2 4 o1_3] =
  (∃ z1 : Int, ((Q11 83 (Q115 (.c (Q3 0 4 0 sl)) (.fn (.func 52) [] [(false, [(Q75 1 4)])])) [.arz 4 o0, Q98 4 o1_0 o1_1 o1_2 4 o1_3] (Q25 z1) [.arz 4 o0, Q98 4 o1_0 o1_1 o1_2 4 o1_3]) ∧ (Q36 (decide ((z1 : Int) ≥ (0 : Int))) [.arz 4 o0, Q98 4 o1_0 o1_1 o1_2 4 o1_3] r Hs'))) := by kernel_rfl
def lv50 : List (Nat × List Nat) := []
theorem v50 (t_0 : Int) (t_1 : List UInt8) (t_2 : Int) (t_3 : RW) (r : TV) (Hs' : List AObj) : VE lv50 50 0 r Hs' [Q67 t_0 t_1 t_2 t_3] [] =
  (∃ b1 : Bool, ((Q60 20 [Q67 t_0 t_1 t_2 t_3] b1) ∧ (Q58 (!b1) r Hs'))) := by kernel_rfl
theorem v49_F61 (s : RW) (r : TV) (Hs' : List AObj) : VE lv49 49 0 r Hs' (Q115 (Q76 4 s) (.fn (.func 61) [] [])) [] =
  (∃ z1 : Int, ((Q57 83 (Q115 (Q76 4 s) (.fn (.func 61) [] [])) (Q25 z1)) ∧ (Q58 (decide ((z1 : Int) ≥ (0 : Int))) r Hs'))) := by kernel_rfl
def lv63 : List (Nat × List Nat) := [(3, [0, 2, 6, 9, 10, 102, 103, 104]), (1000001, [2, 3])]
theorem v63 (t_0 : Int) (t_1 : List UInt8) (t_2 : Int) (t_3 : RW) (k o0_1 o0_2 : Int) (o0_3 : RW) (o0_4 o0_5 : Int) (o1_0l o1_1l : Nat) (o2 o3 : RW) (r : TV) (Hs' : List AObj) : VE lv63 63 4 r Hs' (Q103 6 (Q67 t_0 t_1 t_2 t_3) (Q25 k)) (Q88 (Q72 6 1 2 0 0 o0_1 o0_2 4 o0_3 o0_4 o0_5) 2 o1_0l 3 o1_1l o2 o3) =
  (br ((o0_5 : Int) != (0 : Int)) (RT (.agg (Q45 0 [] 0)) (Q87 (Q72 6 1 2 0 0 o0_1 o0_2 4 o0_3 o0_4 o0_5) (Q86 4 o1_0l 5 o1_1l) .gone (Q33 o2) (Q30 o3)) r Hs') (br (decide ((o0_4 : Int) ≤ (0 : Int))) (∃ z1 : Int × Int × List Tm × Int × Int, ((Q11 90 (Q78 (Q102 6) 80) (Q88 (Q72 6 1 2 0 0 o0_1 o0_2 4 o0_3 o0_4 o0_5) 2 o1_0l 3 o1_1l o2 o3) (Q67 0 [] 0 []) (Q88 (Q72 6 1 2 0 0 z1.1 z1.2.1 4 (FTs z1.2.2.1) z1.2.2.2.1 z1.2.2.2.2) 2 o1_0l 3 o1_1l o2 o3)) ∧ (RT (Q67 0 [] 0 []) (Q87 (Q72 6 1 2 0 0 z1.1 z1.2.1 4 (FTs z1.2.2.1) z1.2.2.2.1 z1.2.2.2.2) (Q86 4 o1_0l 5 o1_1l) .gone (Q33 o2) (Q30 o3)) r Hs'))) (∃ z2 : Tm × Int × Int, ((Q39 91 (Q103 2 (Q67 t_0 t_1 t_2 t_3) (Q25 (IntKind.wrap .i64 (o0_4 - 1)))) (Q44 2 1 6 0 o1_0l 2 1 0 o1_1l o2 o3) (Q80 (Q37 (cT z2.1)) z2.2.1 z2.2.2) (Q44 2 1 6 0 o1_0l 2 1 0 o1_1l o2 o3)) ∧ (br ((z2.2.2 : Int) != (0 : Int)) (∃ z3 : Int × Int × List Tm × Int × Int, ((Q11 90 (Q78 (Q102 6) z2.2.2) (Q88 (Q72 6 1 2 0 0 o0_1 o0_2 4 o0_3 o0_4 o0_5) 2 o1_0l 3 o1_1l o2 o3) (Q67 0 [] 0 []) (Q88 (Q72 6 1 2 0 0 z3.1 z3.2.1 4 (FTs z3.2.2.1) z3.2.2.2.1 z3.2.2.2.2) 2 o1_0l 3 o1_1l o2 o3)) ∧ (RT (Q67 0 [] 0 []) (Q87 (Q72 6 1 2 0 0 z3.1 z3.2.1 4 (FTs z3.2.2.1) z3.2.2.2.1 z3.2.2.2.2) (Q86 4 o1_0l 5 o1_1l) .gone (Q33 o2) (Q30 o3)) r Hs'))) ((∃ z4 : Tm, ((Q39 92 [(aT z2.1)] [] (Q63 (cT z4) Q71) []) ∧ (br ((z4.k : Int) == (5 : Int)) (((FV.isSl 4 (Q5 4 (FTs z4.l)) = true) ∧ ((0 ≤ (0 : Int)) ∧ (((0 : Int) < (length (FTs z4.l) : Int)) ∧ (((rE (getD (FTs z4.l) 0 [])) : List FV) = (getD (FTs z4.l) 0 []))))) ∧ (∃ z5 : Tm × Sto × Int × Int × List Tm × Int × Int, ((Q11 63 (Q103 6 (aE (getD (FTs z4.l) 0 [])) (Q25 (IntKind.wrap .i64 (k + 1)))) (Q88 (Q72 6 1 2 0 0 o0_1 o0_2 4 o0_3 z2.2.1 o0_5) 2 o1_0l 3 o1_1l o2 o3) (aT z5.1) (Q87 (Q72 6 1 2 0 0 z5.2.2.1 z5.2.2.2.1 4 (FTs z5.2.2.2.2.1) z5.2.2.2.2.2.1 z5.2.2.2.2.2.2) (Q86 4 (length z5.2.1.V) 5 (length z5.2.1.T)) .gone (Q33 (SR z5.2.1.V)) (Q30 (IR z5.2.1.T)))) ∧ (∃ z6 : Tm, ((Q57 45 [Q25 1, (aT z5.1)] (aT z6)) ∧ (RT (aT z6) (Q87 (Q72 6 1 2 0 0 z5.2.2.1 z5.2.2.2.1 4 (FTs z5.2.2.2.2.1) z5.2.2.2.2.2.1 z5.2.2.2.2.2.2) (Q86 4 (length z5.2.1.V) 5 (length z5.2.1.T)) .gone (Q33 (SR z5.2.1.V)) (Q30 (IR z5.2.1.T))) r Hs')))))) (br ((z4.k : Int) == (4 : Int)) (br ((z4.n : Int) == o0_1) (∃ z7 : Int × Int × List Tm × Int × Int, ((Q11 90 (Q78 (Q102 6) 170) (Q88 (Q72 6 1 2 0 0 o0_1 o0_2 4 o0_3 z2.2.1 o0_5) 2 o1_0l 3 o1_1l o2 o3) (Q67 0 [] 0 []) (Q88 (Q72 6 1 2 0 0 z7.1 z7.2.1 4 (FTs z7.2.2.1) z7.2.2.2.1 z7.2.2.2.2) 2 o1_0l 3 o1_1l o2 o3)) ∧ (RT (Q67 0 [] 0 []) (Q87 (Q72 6 1 2 0 0 z7.1 z7.2.1 4 (FTs z7.2.2.1) z7.2.2.2.1 z7.2.2.2.2) (Q86 4 o1_0l 5 o1_1l) .gone (Q33 o2) (Q30 o3)) r Hs'))) (∃ z8 : Tm × Sto × Int × Int × List Tm × Int × Int, ((Q11 93 [Q102 6, Q25 z4.n, .c Q28, Q25 k] (Q88 (Q72 6 1 2 0 0 o0_1 o0_2 4 o0_3 z2.2.1 o0_5) 2 o1_0l 3 o1_1l o2 o3) (aT z8.1) (Q87 (Q72 6 1 2 0 0 z8.2.2.1 z8.2.2.2.1 4 (FTs z8.2.2.2.2.1) z8.2.2.2.2.2.1 z8.2.2.2.2.2.2) (Q86 4 (length z8.2.1.V) 5 (length z8.2.1.T)) .gone (Q33 (SR z8.2.1.V)) (Q30 (IR z8.2.1.T)))) ∧ (RT (aT z8.1) (Q87 (Q72 6 1 2 0 0 z8.2.2.1 z8.2.2.2.1 4 (FTs z8.2.2.2.2.1) z8.2.2.2.2.2.1 z8.2.2.2.2.2.2) (Q86 4 (length z8.2.1.V) 5 (length z8.2.1.T)) .gone (Q33 (SR z8.2.1.V)) (Q30 (IR z8.2.1.T))) r Hs')))) (br ((z4.k : Int) == (3 : Int)) (∃ z9 : Tm × Bool, ((Q39 94 (Q103 6 (aT z4) (Q25 k)) (Q88 (Q72 6 1 2 0 0 o0_1 o0_2 4 o0_3 z2.2.1 o0_5) 2 o1_0l 3 o1_1l o2 o3) (Q90 (cT z9.1) z9.2) (Q88 (Q72 6 1 2 0 0 o0_1 o0_2 4 o0_3 z2.2.1 o0_5) 2 o1_0l 3 o1_1l o2 o3)) ∧ (br (!z9.2) (∃ z10 : Int × Int × List Tm × Int × Int, ((Q11 90 (Q78 (Q102 6) 170) (Q88 (Q72 6 1 2 0 0 o0_1 o0_2 4 o0_3 z2.2.1 o0_5) 2 o1_0l 3 o1_1l o2 o3) (Q67 0 [] 0 []) (Q88 (Q72 6 1 2 0 0 z10.1 z10.2.1 4 (FTs z10.2.2.1) z10.2.2.2.1 z10.2.2.2.2) 2 o1_0l 3 o1_1l o2 o3)) ∧ (RT (Q67 0 [] 0 []) (Q87 (Q72 6 1 2 0 0 z10.1 z10.2.1 4 (FTs z10.2.2.1) z10.2.2.2.1 z10.2.2.2.2) (Q86 4 o1_0l 5 o1_1l) .gone (Q33 o2) (Q30 o3)) r Hs'))) ((FV.isSl 4 .nils = true) ∧ (Q41 63 4 r Hs' 3 [Q48 0 0 6, Q13 2 k, Q77 6 6, Q77 9 7, Q118 10, Q118 102, Q13 103 0, Q13 104 0] [Q19 0 6 (Q52 1 2 0 0 o0_1 o0_2 4 o0_3 z2.2.1 o0_5), Q61 1 2 4 6 0 o1_0l 5 1 0 o1_1l, Q55 2, Q55 3, Q20 4 6 o2, Q116 5 o3, Q69 6 4 0 [] 0, Q19 7 4 (cT z9.1)] 8))))) (br ((z4.k : Int) == (1 : Int)) (∃ z11 : Tm × Bool, ((Q39 94 (Q103 6 (aT z4) (Q25 k)) (Q88 (Q72 6 1 2 0 0 o0_1 o0_2 4 o0_3 z2.2.1 o0_5) 2 o1_0l 3 o1_1l o2 o3) (Q90 (cT z11.1) z11.2) (Q88 (Q72 6 1 2 0 0 o0_1 o0_2 4 o0_3 z2.2.1 o0_5) 2 o1_0l 3 o1_1l o2 o3)) ∧ (br (!z11.2) (∃ z12 : Int × Int × List Tm × Int × Int, ((Q11 90 (Q78 (Q102 6) 170) (Q88 (Q72 6 1 2 0 0 o0_1 o0_2 4 o0_3 z2.2.1 o0_5) 2 o1_0l 3 o1_1l o2 o3) (Q67 0 [] 0 []) (Q88 (Q72 6 1 2 0 0 z12.1 z12.2.1 4 (FTs z12.2.2.1) z12.2.2.2.1 z12.2.2.2.2) 2 o1_0l 3 o1_1l o2 o3)) ∧ (RT (Q67 0 [] 0 []) (Q87 (Q72 6 1 2 0 0 z12.1 z12.2.1 4 (FTs z12.2.2.1) z12.2.2.2.1 z12.2.2.2.2) (Q86 4 o1_0l 5 o1_1l) .gone (Q33 o2) (Q30 o3)) r Hs'))) ((FV.isSl 4 .nils = true) ∧ (Q41 63 4 r Hs' 3 [Q48 0 0 6, Q13 2 k, Q77 6 6, Q77 9 7, Q118 10, Q118 102, Q13 103 0, Q13 104 0] [Q19 0 6 (Q52 1 2 0 0 o0_1 o0_2 4 o0_3 z2.2.1 o0_5), Q61 1 2 4 6 0 o1_0l 5 1 0 o1_1l, Q55 2, Q55 3, Q20 4 6 o2, Q116 5 o3, Q69 6 4 0 [] 0, Q19 7 4 (cT z11.1)] 8))))) ((FV.isSl 4 .nils = true) ∧ (Q41 63 4 r Hs' 3 [Q48 0 0 6, Q13 2 k, Q77 6 6, Q77 9 7, Q118 10, Q118 102, Q13 103 0, Q13 104 0] [Q19 0 6 (Q52 1 2 0 0 o0_1 o0_2 4 o0_3 z2.2.1 o0_5), Q61 1 2 4 6 0 o1_0l 5 1 0 o1_1l, Q55 2, Q55 3, Q20 4 6 o2, Q116 5 o3, Q69 6 4 0 [] 0, Q19 7 4 (cT z4)] 8)))))))) ∨ (∃ z13 : Tm × List Tm, ((Q39 92 [(aT z2.1)] [] (Q63 (cT z13.1) (Q93 0 4 0 (length z13.2))) [.arz 4 (FTs z13.2)]) ∧ (br ((z13.1.k : Int) == (5 : Int)) (((FV.isSl 4 (Q5 4 (FTs z13.1.l)) = true) ∧ ((0 ≤ (0 : Int)) ∧ (((0 : Int) < (length (FTs z13.1.l) : Int)) ∧ (((rE (getD (FTs z13.1.l) 0 [])) : List FV) = (getD (FTs z13.1.l) 0 []))))) ∧ (∃ z14 : Tm × Sto × Int × Int × List Tm × Int × Int, ((Q11 63 (Q103 6 (aE (getD (FTs z13.1.l) 0 [])) (Q25 (IntKind.wrap .i64 (k + 1)))) (Q88 (Q72 6 1 2 0 0 o0_1 o0_2 4 o0_3 z2.2.1 o0_5) 2 o1_0l 3 o1_1l o2 o3) (aT z14.1) (Q87 (Q72 6 1 2 0 0 z14.2.2.1 z14.2.2.2.1 4 (FTs z14.2.2.2.2.1) z14.2.2.2.2.2.1 z14.2.2.2.2.2.2) (Q86 4 (length z14.2.1.V) 5 (length z14.2.1.T)) .gone (Q33 (SR z14.2.1.V)) (Q30 (IR z14.2.1.T)))) ∧ (∃ z15 : Tm, ((Q57 45 [Q25 1, (aT z14.1)] (aT z15)) ∧ (RT (aT z15) (Q87 (Q72 6 1 2 0 0 z14.2.2.1 z14.2.2.2.1 4 (FTs z14.2.2.2.2.1) z14.2.2.2.2.2.1 z14.2.2.2.2.2.2) (Q86 4 (length z14.2.1.V) 5 (length z14.2.1.T)) .gone (Q33 (SR z14.2.1.V)) (Q30 (IR z14.2.1.T))) r Hs')))))) (br ((z13.1.k : Int) == (4 : Int)) (br ((z13.1.n : Int) == o0_1) (∃ z16 : Int × Int × List Tm × Int × Int, ((Q11 90 (Q78 (Q102 6) 170) (Q88 (Q72 6 1 2 0 0 o0_1 o0_2 4 o0_3 z2.2.1 o0_5) 2 o1_0l 3 o1_1l o2 o3) (Q67 0 [] 0 []) (Q88 (Q72 6 1 2 0 0 z16.1 z16.2.1 4 (FTs z16.2.2.1) z16.2.2.2.1 z16.2.2.2.2) 2 o1_0l 3 o1_1l o2 o3)) ∧ (RT (Q67 0 [] 0 []) (Q87 (Q72 6 1 2 0 0 z16.1 z16.2.1 4 (FTs z16.2.2.1) z16.2.2.2.1 z16.2.2.2.2) (Q86 4 o1_0l 5 o1_1l) .gone (Q33 o2) (Q30 o3)) r Hs'))) (((4 : Nat) = 4 ∧ (0 + (length z13.2)) ≤ (length (FTs z13.2))) ∧ (∃ z17 : Tm × Sto × Int × Int × List Tm × Int × Int, ((Q11 93 [Q102 6, Q25 z13.1.n, Q76 4 (take (length z13.2) (drop 0 (FTs z13.2))), Q25 k] (Q88 (Q72 6 1 2 0 0 o0_1 o0_2 4 o0_3 z2.2.1 o0_5) 2 o1_0l 3 o1_1l o2 o3) (aT z17.1) (Q87 (Q72 6 1 2 0 0 z17.2.2.1 z17.2.2.2.1 4 (FTs z17.2.2.2.2.1) z17.2.2.2.2.2.1 z17.2.2.2.2.2.2) (Q86 4 (length z17.2.1.V) 5 (length z17.2.1.T)) .gone (Q33 (SR z17.2.1.V)) (Q30 (IR z17.2.1.T)))) ∧ (RT (aT z17.1) (Q87 (Q72 6 1 2 0 0 z17.2.2.1 z17.2.2.2.1 4 (FTs z17.2.2.2.2.1) z17.2.2.2.2.2.1 z17.2.2.2.2.2.2) (Q86 4 (length z17.2.1.V) 5 (length z17.2.1.T)) .gone (Q33 (SR z17.2.1.V)) (Q30 (IR z17.2.1.T))) r Hs'))))) (br ((z13.1.k : Int) == (3 : Int)) (∃ z18 : Tm × Bool, ((Q39 94 (Q103 6 (aT z13.1) (Q25 k)) (Q88 (Q72 6 1 2 0 0 o0_1 o0_2 4 o0_3 z2.2.1 o0_5) 2 o1_0l 3 o1_1l o2 o3) (Q90 (cT z18.1) z18.2) (Q88 (Q72 6 1 2 0 0 o0_1 o0_2 4 o0_3 z2.2.1 o0_5) 2 o1_0l 3 o1_1l o2 o3)) ∧ (br (!z18.2) (∃ z19 : Int × Int × List Tm × Int × Int, ((Q11 90 (Q78 (Q102 6) 170) (Q88 (Q72 6 1 2 0 0 o0_1 o0_2 4 o0_3 z2.2.1 o0_5) 2 o1_0l 3 o1_1l o2 o3) (Q67 0 [] 0 []) (Q88 (Q72 6 1 2 0 0 z19.1 z19.2.1 4 (FTs z19.2.2.1) z19.2.2.2.1 z19.2.2.2.2) 2 o1_0l 3 o1_1l o2 o3)) ∧ (RT (Q67 0 [] 0 []) (Q87 (Q72 6 1 2 0 0 z19.1 z19.2.1 4 (FTs z19.2.2.1) z19.2.2.2.1 z19.2.2.2.2) (Q86 4 o1_0l 5 o1_1l) .gone (Q33 o2) (Q30 o3)) r Hs'))) (Q41 63 4 r Hs' 3 [Q48 0 0 6, Q13 2 k, Q77 6 6, Q77 9 7, Q117 10 8 4 0 (length z13.2), Q117 102 8 4 0 (length z13.2), Q13 103 (((length z13.2) : Nat) : Int), Q13 104 0] [Q19 0 6 (Q52 1 2 0 0 o0_1 o0_2 4 o0_3 z2.2.1 o0_5), Q61 1 2 4 6 0 o1_0l 5 1 0 o1_1l, Q55 2, Q55 3, Q20 4 6 o2, Q116 5 o3, Q69 6 4 0 [] 0, Q19 7 4 (cT z18.1), Q20 8 4 (FTs z13.2)] 9)))) (br ((z13.1.k : Int) == (1 : Int)) (∃ z20 : Tm × Bool, ((Q39 94 (Q103 6 (aT z13.1) (Q25 k)) (Q88 (Q72 6 1 2 0 0 o0_1 o0_2 4 o0_3 z2.2.1 o0_5) 2 o1_0l 3 o1_1l o2 o3) (Q90 (cT z20.1) z20.2) (Q88 (Q72 6 1 2 0 0 o0_1 o0_2 4 o0_3 z2.2.1 o0_5) 2 o1_0l 3 o1_1l o2 o3)) ∧ (br (!z20.2) (∃ z21 : Int × Int × List Tm × Int × Int, ((Q11 90 (Q78 (Q102 6) 170) (Q88 (Q72 6 1 2 0 0 o0_1 o0_2 4 o0_3 z2.2.1 o0_5) 2 o1_0l 3 o1_1l o2 o3) (Q67 0 [] 0 []) (Q88 (Q72 6 1 2 0 0 z21.1 z21.2.1 4 (FTs z21.2.2.1) z21.2.2.2.1 z21.2.2.2.2) 2 o1_0l 3 o1_1l o2 o3)) ∧ (RT (Q67 0 [] 0 []) (Q87 (Q72 6 1 2 0 0 z21.1 z21.2.1 4 (FTs z21.2.2.1) z21.2.2.2.1 z21.2.2.2.2) (Q86 4 o1_0l 5 o1_1l) .gone (Q33 o2) (Q30 o3)) r Hs'))) (Q41 63 4 r Hs' 3 [Q48 0 0 6, Q13 2 k, Q77 6 6, Q77 9 7, Q117 10 8 4 0 (length z13.2), Q117 102 8 4 0 (length z13.2), Q13 103 (((length z13.2) : Nat) : Int), Q13 104 0] [Q19 0 6 (Q52 1 2 0 0 o0_1 o0_2 4 o0_3 z2.2.1 o0_5), Q61 1 2 4 6 0 o1_0l 5 1 0 o1_1l, Q55 2, Q55 3, Q20 4 6 o2, Q116 5 o3, Q69 6 4 0 [] 0, Q19 7 4 (cT z20.1), Q20 8 4 (FTs z13.2)] 9)))) (Q41 63 4 r Hs' 3 [Q48 0 0 6, Q13 2 k, Q77 6 6, Q77 9 7, Q117 10 8 4 0 (length z13.2), Q117 102 8 4 0 (length z13.2), Q13 103 (((length z13.2) : Nat) : Int), Q13 104 0] [Q19 0 6 (Q52 1 2 0 0 o0_1 o0_2 4 o0_3 z2.2.1 o0_5), Q61 1 2 4 6 0 o1_0l 5 1 0 o1_1l, Q55 2, Q55 3, Q20 4 6 o2, Q116 5 o3, Q69 6 4 0 [] 0, Q19 7 4 (cT z13.1), Q20 8 4 (FTs z13.2)] 9))))))))))))) := by kernel_rfl
theorem v63_3a (x2 x103 x104 h0_1 h0_2 : Int) (h0_3 : RW) (h0_4 h0_5 : Int) (h1_0l h1_1l : Nat) (h4 h5 : RW) (h6_0 : Int) (h6_1 : List UInt8) (h6_2 h7_0 : Int) (h7_1 : List UInt8) (h7_2 : Int) (h7_3 : RW) (r : TV) (Hs' : List AObj) : VQ lv63 63 4 r Hs' 3 ⟨[Q48 0 0 6, Q13 2 x2, Q77 6 6, Q77 9 7, Q118 10, Q118 102, Q13 103 x103, Q13 104 x104], [Q19 0 6 (Q52 1 2 0 0 h0_1 h0_2 4 h0_3 h0_4 h0_5), Q61 1 2 4 6 0 h1_0l 5 1 0 h1_1l, Q55 2, Q55 3, Q20 4 6 h4, Q116 5 h5, Q69 6 4 h6_0 h6_1 h6_2, Q51 7 4 h7_0 h7_1 h7_2 4 h7_3], 8⟩ =
  (br (decide ((x104 : Int) < x103)) (((FV.isSl 4 .nils = true) ∧ ((0 ≤ x104) ∧ ((x104 < ((0 : Nat) : Int)) ∧ (((rE (getD [] (toNat x104) [])) : List FV) = (getD [] (toNat x104) []))))) ∧ (∃ z1 : Tm × Sto × Int × Int × List Tm × Int × Int, ((Q11 63 (Q103 6 (aE (getD [] (toNat x104) [])) (Q25 x2)) (Q88 (Q72 6 1 2 0 0 h0_1 h0_2 4 h0_3 h0_4 h0_5) 2 h1_0l 3 h1_1l h4 h5) (aT z1.1) (Q87 (Q72 6 1 2 0 0 z1.2.2.1 z1.2.2.2.1 4 (FTs z1.2.2.2.2.1) z1.2.2.2.2.2.1 z1.2.2.2.2.2.2) (Q86 4 (length z1.2.1.V) 5 (length z1.2.1.T)) .gone (Q33 (SR z1.2.1.V)) (Q30 (IR z1.2.1.T)))) ∧ (((FV.isSl 4 .nils = true) ∧ ((0 ≤ x104) ∧ ((x104 < ((0 : Nat) : Int)) ∧ (((rE (getD [] (toNat x104) [])) : List FV) = (getD [] (toNat x104) []))))) ∧ False)))) (∃ z2 : Tm, ((Q57 24 (Q115 (Q67 h7_0 h7_1 h7_2 h7_3) Q28) (aT z2)) ∧ (RT (aT z2) (Q87 (Q72 6 1 2 0 0 h0_1 h0_2 4 h0_3 h0_4 h0_5) (Q86 4 h1_0l 5 h1_1l) .gone (Q33 h4) (Q30 h5)) r Hs')))) := by kernel_rfl
theorem v63_3b (x2 : Int) (x10l x102l : Nat) (x103 x104 h0_1 h0_2 : Int) (h0_3 : RW) (h0_4 h0_5 : Int) (h1_0l h1_1l : Nat) (h4 h5 : RW) (h6_0 : Int) (h6_1 : List UInt8) (h6_2 h7_0 : Int) (h7_1 : List UInt8) (h7_2 : Int) (h7_3 h8 : RW) (r : TV) (Hs' : List AObj) : VQ lv63 63 4 r Hs' 3 ⟨[Q48 0 0 6, Q13 2 x2, Q77 6 6, Q77 9 7, Q117 10 8 4 0 x10l, Q117 102 8 4 0 x102l, Q13 103 x103, Q13 104 x104], [Q19 0 6 (Q52 1 2 0 0 h0_1 h0_2 4 h0_3 h0_4 h0_5), Q61 1 2 4 6 0 h1_0l 5 1 0 h1_1l, Q55 2, Q55 3, Q20 4 6 h4, Q116 5 h5, Q69 6 4 h6_0 h6_1 h6_2, Q51 7 4 h7_0 h7_1 h7_2 4 h7_3, Q20 8 4 h8], 9⟩ =
  (br (decide ((x104 : Int) < x103)) ((0 ≤ x104 ∧ x104 < (x102l : Int)) ∧ ((((0 + (toNat x104)) < (length h8)) ∧ ((((rE (getD h8 (0 + (toNat x104)) [])) : List FV) = (take 4 (drop 0 (getD h8 (0 + (toNat x104)) [])))) ∧ ((4 : Nat) = 4))) ∧ (∃ z1 : Tm × Sto × Int × Int × List Tm × Int × Int, ((Q11 63 (Q103 6 (aE (getD h8 (0 + (toNat x104)) [])) (Q25 x2)) (Q88 (Q72 6 1 2 0 0 h0_1 h0_2 4 h0_3 h0_4 h0_5) 2 h1_0l 3 h1_1l h4 h5) (aT z1.1) (Q87 (Q72 6 1 2 0 0 z1.2.2.1 z1.2.2.2.1 4 (FTs z1.2.2.2.2.1) z1.2.2.2.2.2.1 z1.2.2.2.2.2.2) (Q86 4 (length z1.2.1.V) 5 (length z1.2.1.T)) .gone (Q33 (SR z1.2.1.V)) (Q30 (IR z1.2.1.T)))) ∧ ((0 ≤ x104 ∧ x104 < (x10l : Int)) ∧ (((0 + (toNat x104)) < (length h8) ∧ (length (getD h8 (0 + (toNat x104)) [])) = 4) ∧ (Q41 63 4 r Hs' 3 [Q48 0 0 6, Q13 2 x2, Q77 6 6, Q77 9 7, Q117 10 8 4 0 x10l, Q117 102 8 4 0 x102l, Q13 103 x103, Q13 104 (IntKind.wrap .i64 (x104 + 1))] [Q19 0 6 (Q52 1 2 0 0 z1.2.2.1 z1.2.2.2.1 4 (FTs z1.2.2.2.2.1) z1.2.2.2.2.2.1 z1.2.2.2.2.2.2), Q61 1 2 4 6 0 (length z1.2.1.V) 5 1 0 (length z1.2.1.T), Q55 2, Q55 3, Q20 4 6 (SR z1.2.1.V), Q116 5 (IR z1.2.1.T), Q69 6 4 h6_0 h6_1 h6_2, Q51 7 4 h7_0 h7_1 h7_2 4 h7_3, Q20 8 4 (List.set h8 (0 + (toNat x104)) (FT4 z1.1))] 9))))))) (((4 : Nat) = 4 ∧ (0 + x10l) ≤ (length h8)) ∧ (∃ z2 : Tm, ((Q57 24 [Q67 h7_0 h7_1 h7_2 h7_3, Q76 4 (take x10l (drop 0 h8))] (aT z2)) ∧ (RT (aT z2) (Q87 (Q72 6 1 2 0 0 h0_1 h0_2 4 h0_3 h0_4 h0_5) (Q86 4 h1_0l 5 h1_1l) .gone (Q33 h4) (Q30 h5)) r Hs'))))) := by kernel_rfl
def lv45 : List (Nat × List Nat) := [(1, [3, 4, 6, 7])]
theorem v45 (n t_0 : Int) (t_1 : List UInt8) (t_2 : Int) (t_3 : RW) (r : TV) (Hs' : List AObj) : VE lv45 45 0 r Hs' [Q25 n, Q67 t_0 t_1 t_2 t_3] [] =
  (Q41 45 0 r Hs' 1 (Q65 (Q77 3 0) (Q77 4 1) (Q13 6 (z0i [n, (0 : Int)])) 7 0) [Q51 0 4 t_0 t_1 t_2 4 t_3, Q69 1 4 0 [] 0] 2) := by kernel_rfl
theorem zrv (x6 x7 h0_0 : Int) (h0_1 : List UInt8) (h0_2 : Int) (h0_3 : RW) (h1_0 : Int) (h1_1 : List UInt8) (h1_2 : Int) (r : TV) (Hs' : List AObj) : VQ lv45 45 0 r Hs' 1 ⟨Q65 (Q77 3 0) (Q77 4 1) (Q13 6 x6) 7 x7, [Q51 0 4 h0_0 h0_1 h0_2 4 h0_3, Q69 1 4 h1_0 h1_1 h1_2], 2⟩ =
  (br (decide ((x7 : Int) < x6)) (((4 : Nat) = 4 ∧ 1 ≤ 1) ∧ (Q41 45 0 r Hs' 1 (Q65 (Q77 3 0) (Q77 4 1) (Q13 6 x6) 7 (IntKind.wrap .i64 (x7 + 1))) [Q51 0 4 5 [] 0 4 [[(Q1 h0_0), (.str h0_1), (Q1 h0_2), (Q5 4 h0_3)]], Q69 1 4 h1_0 h1_1 h1_2] 2)) (RT (Q67 h0_0 h0_1 h0_2 h0_3) [] r Hs')) := by kernel_rfl
def lv64 : List (Nat × List Nat) := []
theorem v64 (s : List UInt8) (r : TV) (Hs' : List AObj) : VE lv64 64 0 r Hs' [.c (Q6 s)] [] =
  (∃ b1 : Bool, ((Q60 95 [.c (Q6 s)] b1) ∧ (br b1 ((0 ≤ (0 : Int) ∧ (0 : Int) < (length s : Int)) ∧ (∃ b2 : Bool, ((Q60 96 [.c (Q0 (.int .u8 ((UInt8.toNat (getD s 0 0) : Nat) : Int)))] b2) ∧ (br b2 (∃ n3 : Int, ((Q57 97 (Q115 (.c (Q6 s)) (.fn (.func 98) [] [])) (Q25 n3)) ∧ (Q58 ((n3 : Int) == (length s : Int)) r Hs'))) (Q62 r Hs'))))) (Q62 r Hs')))) := by kernel_rfl
def lv65 : List (Nat × List Nat) := []
theorem v65 (s : List UInt8) (r : TV) (Hs' : List AObj) : VE lv65 65 0 r Hs' [.c (Q6 s)] [] =
  (∃ b1 : Bool, ((Q60 95 [.c (Q6 s)] b1) ∧ (br b1 (∃ n2 : Int, ((Q57 97 (Q115 (.c (Q6 s)) (.fn (.func 99) [] [])) (Q25 n2)) ∧ (br ((n2 : Int) == (length s : Int)) (Q58 true r Hs') (br (((length s : Int) : Int) == (1 : Int)) (∃ b3 : Bool, ((Q60 100 (Q115 (.c (Q6 [44, 59, 33])) (Q6 s)) b3) ∧ (Q58 b3 r Hs'))) (Q62 r Hs'))))) (Q62 r Hs')))) := by kernel_rfl
theorem v49_F66 (s : RW) (r : TV) (Hs' : List AObj) : VE lv49 49 0 r Hs' (Q115 (Q76 4 s) (.fn (.func 66) [] [])) [] =
  (∃ z1 : Int, ((Q57 83 (Q115 (Q76 4 s) (.fn (.func 66) [] [])) (Q25 z1)) ∧ (Q58 (decide ((z1 : Int) ≥ (0 : Int))) r Hs'))) := by kernel_rfl
def lv67 : List (Nat × List Nat) := []
theorem v67_F68 (t_0 : Int) (t_1 : List UInt8) (t_2 : Int) (t_3 : RW) (fuel : Int) (o0_0l o0_1l : Nat) (o1 o2 : RW) (r : TV) (Hs' : List AObj) : VE lv67 67 3 r Hs' (Q97 (Q67 t_0 t_1 t_2 t_3) fuel (.fn (.func 68) [(false, [(Q81 2)])] [])) (Q44 2 1 6 0 o0_0l 2 1 0 o0_1l o1 o2) =
  (∃ b1 : Bool, ((Q60 20 [Q67 t_0 t_1 t_2 t_3] b1) ∧ (br (!b1) (Q42 (Q80 (Q37 (Q45 0 [] 0)) 0 1) (Q44 2 1 6 0 o0_0l 2 1 0 o0_1l o1 o2) r Hs') (∃ z2 : Tm × Int × Int, ((Q39 68 (Q103 2 (Q67 t_0 t_1 t_2 t_3) (Q101 3 1)) [Q86 1 o0_0l 2 o0_1l, Q33 o1, Q30 o2, Q91 fuel] (Q54 (cT z2.1) (Q32 z2.2.1)) [Q86 1 o0_0l 2 o0_1l, Q33 o1, Q30 o2, Q91 z2.2.2]) ∧ (br ((z2.2.1 : Int) != (0 : Int)) (Q42 (Q80 (Q37 (Q45 0 [] 0)) 0 z2.2.1) (Q44 2 1 6 0 o0_0l 2 1 0 o0_1l o1 o2) r Hs') (Q42 (Q80 (Q37 (cT z2.1)) z2.2.2 0) (Q44 2 1 6 0 o0_0l 2 1 0 o0_1l o1 o2) r Hs'))))))) := by kernel_rfl
theorem v58_F69 (t_0 : Int) (t_1 : List UInt8) (t_2 : Int) (t_3 : RW) (k o0_0 : Int) (r : TV) (Hs' : List AObj) : VE lv58 58 1 r Hs' (Q97 (Q67 t_0 t_1 t_2 t_3) k (.fn (.func 69) [] [(false, [Q92])])) [Q91 o0_0] =
  (br ((t_0 : Int) != (5 : Int)) (br ((t_0 : Int) != (6 : Int)) (∃ z1 : Int, ((Q39 69 (Q59 (Q67 t_0 t_1 t_2 t_3) k (Q102 1)) [Q91 o0_0] [] [Q91 z1]) ∧ (Q42 [] [Q91 z1] r Hs'))) (∃ y2 : FV, (∃ n3 : Int, ((Q39 88 [Q67 t_0 t_1 t_2 t_3] [] [Q18 [Q0 y2], Q32 n3] []) ∧ ((FV.isSl 4 y2 = true) ∧ (Q41 58 1 r Hs' 1 (Q114 1 k (Q4 2 (.fn (.func 69) [] [(false, [Q92])])) n3 27 y2 28 (length (FV.ses y2) : Int) 29 0) [Q95 0 1 o0_0] 1)))))) (∃ y4 : FV, (∃ n5 : Int, ((Q39 88 [Q67 t_0 t_1 t_2 t_3] [] [Q18 [Q0 y4], Q32 n5] []) ∧ ((FV.isSl 4 y4 = true) ∧ (Q41 58 1 r Hs' 1 (Q114 1 k (Q4 2 (.fn (.func 69) [] [(false, [Q92])])) n5 27 y4 28 (length (FV.ses y4) : Int) 29 0) [Q95 0 1 o0_0] 1)))))) := by kernel_rfl
theorem zex (x1 x7 : Int) (x27 : FV) (x28 x29 h0_0 : Int) (r : TV) (Hs' : List AObj) : VQ lv58 58 1 r Hs' 1 ⟨Q114 1 x1 (Q4 2 (.fn (.func 69) [] [(false, [Q92])])) x7 27 x27 28 x28 29 x29, [Q95 0 1 h0_0], 1⟩ =
  (br (decide ((x29 : Int) < x28)) (((FV.isSl 4 x27 = true) ∧ ((0 ≤ x29) ∧ ((x29 < (length (FV.ses x27) : Int)) ∧ (((rE (getD (FV.ses x27) (toNat x29) [])) : List FV) = (getD (FV.ses x27) (toNat x29) []))))) ∧ ((∃ z1 : Int, ((Q39 58 (Q97 (aE (getD (FV.ses x27) (toNat x29) [])) (IntKind.wrap .i64 (x1 + x7)) (.fn (.func 69) [] [(false, [Q92])])) [Q91 h0_0] [] [Q91 z1]) ∧ (Q41 58 1 r Hs' 1 (Q114 1 x1 (Q4 2 (.fn (.func 69) [] [(false, [Q92])])) x7 27 x27 28 x28 29 (IntKind.wrap .i64 (x29 + 1))) [Q95 0 1 z1] 1))) ∨ ((∃ _ : Unit, ((Q39 58 (Q97 (aE (getD (FV.ses x27) (toNat x29) [])) (IntKind.wrap .i64 (x1 + x7)) (.fn (.func 69) [] [(false, [Q92])])) [Q91 h0_0] [] [Q99 1]) ∧ (Q41 58 1 r Hs' 1 (Q114 1 x1 (Q4 2 (.fn (.func 69) [] [(false, [Q92])])) x7 27 x27 28 x28 29 (IntKind.wrap .i64 (x29 + 1))) [Q19 0 1 Q71] 1))) ∨ ((∃ z3 : Nat × RW, ((Q39 58 (Q97 (aE (getD (FV.ses x27) (toNat x29) [])) (IntKind.wrap .i64 (x1 + x7)) (.fn (.func 69) [] [(false, [Q92])])) [Q91 h0_0] [] (Q109 1 1 1 0 z3.1 z3.2)) ∧ (Q41 58 1 r Hs' 1 (Q114 1 x1 (Q4 2 (.fn (.func 69) [] [(false, [Q92])])) x7 27 x27 28 x28 29 (IntKind.wrap .i64 (x29 + 1))) [Q19 0 1 (Q93 1 1 0 z3.1), Q116 1 z3.2] 2))) ∨ (∃ z4 : Nat × RW, ((Q39 58 (Q97 (aE (getD (FV.ses x27) (toNat x29) [])) (IntKind.wrap .i64 (x1 + x7)) (.fn (.func 69) [] [(false, [Q92])])) [Q91 h0_0] [] (Q34 (Q94 1 2 1 0 z4.1) .gone z4.2)) ∧ (Q41 58 1 r Hs' 1 (Q114 1 x1 (Q4 2 (.fn (.func 69) [] [(false, [Q92])])) x7 27 x27 28 x28 29 (IntKind.wrap .i64 (x29 + 1))) [Q19 0 1 (Q93 1 1 0 z4.1), Q116 1 z4.2] 2))))))) (Q42 [] [Q91 h0_0] r Hs')) := by kernel_rfl
def lv70 : List (Nat × List Nat) := [(1, [0, 3, 9, 10, 11]), (5, [6, 25, 26, 27])]
theorem v70 (slices : RW) (r : TV) (Hs' : List AObj) : VE lv70 70 0 r Hs' [Q76 1 slices] [] =
  ((FV.isSl 1 (Q5 1 slices) = true) ∧ (Q41 70 0 r Hs' 1 [Q53 0 1 slices, Q13 3 0, Q53 9 1 slices, Q13 10 (length slices : Int), Q13 11 0] [] 0)) := by kernel_rfl
theorem v70_1a (x0 : RW) (x3 : Int) (x9 : RW) (x10 x11 : Int) (r : TV) (Hs' : List AObj) : VQ lv70 70 0 r Hs' 1 ⟨[Q53 0 1 x0, Q13 3 x3, Q53 9 1 x9, Q13 10 x10, Q13 11 x11], [], 0⟩ =
  (br (decide ((x11 : Int) < x10)) (((FV.isSl 1 (Q5 1 x9) = true) ∧ ((0 ≤ x11) ∧ ((x11 < (length x9 : Int)) ∧ (([(getD (getD x9 (toNat x11) []) 0 FV.nils)] : List FV) = (getD x9 (toNat x11) []))))) ∧ ((FV.isSl 4 (getD (getD x9 (toNat x11) []) 0 FV.nils) = true) ∧ (br (decide (((IntKind.wrap .i64 (x3 + (((length (FV.ses (getD (getD x9 (toNat x11) []) 0 FV.nils))) : Nat) : Int))) : Int) < (0 : Int))) False (Q41 70 0 r Hs' 1 [Q53 0 1 x0, Q13 3 (IntKind.wrap .i64 (x3 + (((length (FV.ses (getD (getD x9 (toNat x11) []) 0 FV.nils))) : Nat) : Int))), Q53 9 1 x9, Q13 10 x10, Q13 11 (IntKind.wrap .i64 (x11 + 1))] [] 0)))) ((∃ _ : Unit, ((Q57 103 (Q78 (.c Q28) x3) (.c Q28)) ∧ ((FV.isSl 1 (Q5 1 x0) = true) ∧ (Q41 70 0 r Hs' 5 (Q65 (Q118 6) (Q53 25 1 x0) (Q13 26 (length x0 : Int)) 27 0) [] 0)))) ∨ (∃ _ : Unit, ((Q56 103 (Q78 (.c Q28) x3) (.c (Q3 0 4 0 0)) [.arz 4 []]) ∧ ((FV.isSl 1 (Q5 1 x0) = true) ∧ (Q41 70 0 r Hs' 5 (Q65 (Q117 6 0 4 0 0) (Q53 25 1 x0) (Q13 26 (length x0 : Int)) 27 0) [Q20 0 4 []] 1)))))) := by kernel_rfl
theorem v70_5a (x25 : RW) (x26 x27 : Int) (r : TV) (Hs' : List AObj) : VQ lv70 70 0 r Hs' 5 ⟨Q65 (Q118 6) (Q53 25 1 x25) (Q13 26 x26) 27 x27, [], 0⟩ =
  (br (decide ((x27 : Int) < x26)) (((FV.isSl 1 (Q5 1 x25) = true) ∧ ((0 ≤ x27) ∧ ((x27 < (length x25 : Int)) ∧ (([(getD (getD x25 (toNat x27) []) 0 FV.nils)] : List FV) = (getD x25 (toNat x27) []))))) ∧ ((FV.isSl 4 (getD (getD x25 (toNat x27) []) 0 FV.nils) = true) ∧ (br (List.isEmpty (FV.ses (getD (getD x25 (toNat x27) []) 0 FV.nils))) (Q41 70 0 r Hs' 5 (Q65 (Q118 6) (Q53 25 1 x25) (Q13 26 x26) 27 (IntKind.wrap .i64 (x27 + 1))) [] 0) ((z0k (length (FV.ses (getD (getD x25 (toNat x27) []) 0 FV.nils))) 56) ∧ (Q41 70 0 r Hs' 5 (Q65 (Q117 6 0 4 0 (length (FV.ses (getD (getD x25 (toNat x27) []) 0 FV.nils)))) (Q53 25 1 x25) (Q13 26 x26) 27 (IntKind.wrap .i64 (x27 + 1))) [Q20 0 4 (FV.ses (getD (getD x25 (toNat x27) []) 0 FV.nils))] 1))))) (RT (.c Q28) [] r Hs')) := by kernel_rfl
theorem v70_5b (x6l : Nat) (x25 : RW) (x26 x27 : Int) (h0 : RW) (r : TV) (Hs' : List AObj) : VQ lv70 70 0 r Hs' 5 ⟨Q65 (Q117 6 0 4 0 x6l) (Q53 25 1 x25) (Q13 26 x26) 27 x27, [Q20 0 4 h0], 1⟩ =
  (br (decide ((x27 : Int) < x26)) (((FV.isSl 1 (Q5 1 x25) = true) ∧ ((0 ≤ x27) ∧ ((x27 < (length x25 : Int)) ∧ (([(getD (getD x25 (toNat x27) []) 0 FV.nils)] : List FV) = (getD x25 (toNat x27) []))))) ∧ ((FV.isSl 4 (getD (getD x25 (toNat x27) []) 0 FV.nils) = true) ∧ ((x6l ≤ (length h0) ∧ z0k (x6l + (length (FV.ses (getD (getD x25 (toNat x27) []) 0 FV.nils)))) 56) ∧ (Q41 70 0 r Hs' 5 (Q65 (Q117 6 0 4 0 (x6l + (length (FV.ses (getD (getD x25 (toNat x27) []) 0 FV.nils))))) (Q53 25 1 x25) (Q13 26 x26) 27 (IntKind.wrap .i64 (x27 + 1))) [Q20 0 4 ((take x6l h0) ++ (FV.ses (getD (getD x25 (toNat x27) []) 0 FV.nils)))] 1)))) (((4 : Nat) = 4 ∧ (0 + x6l) ≤ (length h0)) ∧ (RT (Q76 4 (take x6l (drop 0 h0))) [] r Hs'))) := by kernel_rfl
def lv71 : List (Nat × List Nat) := [(3, [2, 6, 30, 31, 32])]
theorem v71 (t_0 : Int) (t_1 : List UInt8) (t_2 : Int) (t_3 : RW) (r : TV) (Hs' : List AObj) : VE lv71 71 0 r Hs' [Q67 t_0 t_1 t_2 t_3] [] =
  (br ((t_0 : Int) == (5 : Int)) (((FV.isSl 4 (Q5 4 t_3) = true) ∧ ((0 ≤ (0 : Int)) ∧ (((0 : Int) < (length t_3 : Int)) ∧ (((rE (getD t_3 0 [])) : List FV) = (getD t_3 0 []))))) ∧ (∃ z1 : Tm, ((Q57 71 [(aE (getD t_3 0 []))] (aT z1)) ∧ (∃ z2 : Tm × Bool, ((Q39 104 [(aT z1)] [] (Q90 (cT z2.1) z2.2) []) ∧ (br z2.2 (RT (aT z2.1) [] r Hs') (∃ z3 : Tm, ((Q57 45 [Q25 1, (aT z1)] (aT z3)) ∧ (RT (aT z3) [] r Hs'))))))))) (br ((t_0 : Int) == (6 : Int)) ((FV.isSl 4 (Q5 4 t_3) = true) ∧ (Q41 71 0 r Hs' 3 [Q77 2 0, Q118 6, Q53 30 4 t_3, Q13 31 (length t_3 : Int), Q13 32 0] [Q69 0 4 0 [] 0] 1)) (RT (Q67 t_0 t_1 t_2 t_3) [] r Hs'))) := by kernel_rfl
theorem v71_3a (x30 : RW) (x31 x32 h0_0 : Int) (h0_1 : List UInt8) (h0_2 : Int) (r : TV) (Hs' : List AObj) : VQ lv71 71 0 r Hs' 3 ⟨[Q77 2 0, Q118 6, Q53 30 4 x30, Q13 31 x31, Q13 32 x32], [Q69 0 4 h0_0 h0_1 h0_2], 1⟩ =
  (br (decide ((x32 : Int) < x31)) (((FV.isSl 4 (Q5 4 x30) = true) ∧ ((0 ≤ x32) ∧ ((x32 < (length x30 : Int)) ∧ (((rE (getD x30 (toNat x32) [])) : List FV) = (getD x30 (toNat x32) []))))) ∧ (∃ z1 : Tm, ((Q57 71 [(aE (getD x30 (toNat x32) []))] (aT z1)) ∧ ((1 ≤ 1) ∧ ((z0k 1 56) ∧ (Q41 71 0 r Hs' 3 [Q77 2 0, Q117 6 1 4 0 1, Q53 30 4 x30, Q13 31 x31, Q13 32 (IntKind.wrap .i64 (x32 + 1))] [Q69 0 4 h0_0 h0_1 h0_2, Q20 1 4 [(FT4 z1)]] 2)))))) (((FV.isSl 4 .nils = true) ∧ ((0 ≤ (0 : Int)) ∧ (((0 : Int) < ((0 : Nat) : Int)) ∧ (([(Q1 0), (.str []), (Q1 0), .nils] : List FV) = [])))) ∧ ((FV.isSl 4 .nils = true) ∧ (((0 ≤ (1 : Int)) ∧ (((1 : Int) ≤ (0 : Int)) ∧ ((0 : Int) ≤ ((0 : Nat) : Int)))) ∧ (∃ z2 : Tm, ((Q57 24 (Q115 (.agg (Q45 0 [] 0)) Q28) (aT z2)) ∧ (RT (aT z2) [] r Hs'))))))) := by kernel_rfl
theorem v71_3b (x6l : Nat) (x30 : RW) (x31 x32 h0_0 : Int) (h0_1 : List UInt8) (h0_2 : Int) (h1 : RW) (r : TV) (Hs' : List AObj) : VQ lv71 71 0 r Hs' 3 ⟨[Q77 2 0, Q117 6 1 4 0 x6l, Q53 30 4 x30, Q13 31 x31, Q13 32 x32], [Q69 0 4 h0_0 h0_1 h0_2, Q20 1 4 h1], 2⟩ =
  (br (decide ((x32 : Int) < x31)) (((FV.isSl 4 (Q5 4 x30) = true) ∧ ((0 ≤ x32) ∧ ((x32 < (length x30 : Int)) ∧ (((rE (getD x30 (toNat x32) [])) : List FV) = (getD x30 (toNat x32) []))))) ∧ (∃ z1 : Tm, ((Q57 71 [(aE (getD x30 (toNat x32) []))] (aT z1)) ∧ ((1 ≤ 1) ∧ ((x6l ≤ (length h1) ∧ z0k (x6l + 1) 56) ∧ (Q41 71 0 r Hs' 3 [Q77 2 0, Q117 6 1 4 0 (x6l + 1), Q53 30 4 x30, Q13 31 x31, Q13 32 (IntKind.wrap .i64 (x32 + 1))] [Q69 0 4 h0_0 h0_1 h0_2, Q20 1 4 ((take x6l h1) ++ [(FT4 z1)])] 2)))))) ((0 ≤ (0 : Int) ∧ (0 : Int) < (x6l : Int)) ∧ (((0 < (length h1)) ∧ ((((rE (getD h1 0 [])) : List FV) = (take 4 (drop 0 (getD h1 0 [])))) ∧ ((4 : Nat) = 4))) ∧ (((0 ≤ (1 : Int)) ∧ (((1 : Int) ≤ (x6l : Int)) ∧ ((x6l : Int) ≤ (x6l : Int)))) ∧ (((4 : Nat) = 4 ∧ (1 + ((toNat (x6l : Int)) - 1)) ≤ (length h1)) ∧ (∃ z2 : Tm, ((Q57 24 [(aE (getD h1 0 [])), Q76 4 (take ((toNat (x6l : Int)) - 1) (drop 1 h1))] (aT z2)) ∧ (RT (aT z2) [] r Hs')))))))) := by kernel_rfl
def lv81 : List (Nat × List Nat) := [(1, [2, 5, 6])]
theorem v81 (t_0 : Int) (t_1 : List UInt8) (t_2 : Int) (t_3 : RW) (most : Int) (r : TV) (Hs' : List AObj) : VE lv81 81 0 r Hs' (Q78 (Q67 t_0 t_1 t_2 t_3) most) [] =
  (Q41 81 0 r Hs' 1 [Q77 2 0, Q13 5 (IntKind.wrap .i64 (most - 1)), Q13 6 0] [Q51 0 4 t_0 t_1 t_2 4 t_3] 1) := by kernel_rfl
theorem v81_1a (x5 x6 h0_0 : Int) (h0_1 : List UInt8) (h0_2 : Int) (h0_3 : RW) (r : TV) (Hs' : List AObj) : VQ lv81 81 0 r Hs' 1 ⟨[Q77 2 0, Q13 5 x5, Q13 6 x6], [Q51 0 4 h0_0 h0_1 h0_2 4 h0_3], 1⟩ =
  ((FV.isSl 4 (Q5 4 h0_3) = true) ∧ (br (decide ((x6 : Int) < (length h0_3 : Int))) (br (decide ((x5 : Int) ≥ (0 : Int))) (((FV.isSl 4 (Q5 4 h0_3) = true) ∧ ((0 ≤ x6) ∧ ((x6 < (length h0_3 : Int)) ∧ (((rE (getD h0_3 (toNat x6) [])) : List FV) = (getD h0_3 (toNat x6) []))))) ∧ (∃ n1 : Int, ((Q57 81 (Q78 (aE (getD h0_3 (toNat x6) [])) x5) (Q25 n1)) ∧ (Q41 81 0 r Hs' 1 [Q77 2 0, Q13 5 n1, Q13 6 (IntKind.wrap .i64 (x6 + 1))] [Q51 0 4 h0_0 h0_1 h0_2 4 h0_3] 1)))) (Q96 x5 [] r Hs')) (Q96 x5 [] r Hs'))) := by kernel_rfl
def lv54 : List (Nat × List Nat) := [(3, [1, 3, 7])]
theorem v54 (t_0 : Int) (t_1 : List UInt8) (t_2 : Int) (t_3 : RW) (r : TV) (Hs' : List AObj) : VE lv54 54 0 r Hs' [Q67 t_0 t_1 t_2 t_3] [] =
  (br ((t_0 : Int) == (0 : Int)) (∃ b1 : Bool, ((Q60 84 [.c (Q6 t_1)] b1) ∧ (∃ b2 : Bool, ((Q60 85 [.c (Q6 t_1)] b2) ∧ (br b1 (br ((t_2 : Int) == (0 : Int)) ((FV.isSl 4 (Q5 4 t_3) = true) ∧ (Q58 (((length t_3 : Int) : Int) == (0 : Int)) r Hs')) (Q62 r Hs')) (br b2 (br ((t_2 : Int) == (0 : Int)) ((FV.isSl 4 (Q5 4 t_3) = true) ∧ (Q58 (((length t_3 : Int) : Int) == (0 : Int)) r Hs')) (Q62 r Hs')) (Q62 r Hs'))))))) (br ((t_0 : Int) == (1 : Int)) (br (decide ((t_2 : Int) ≥ (1 : Int))) (br ((t_1 : List UInt8) == []) ((FV.isSl 4 (Q5 4 t_3) = true) ∧ (Q41 54 0 r Hs' 3 [Q77 1 0, Q4 3 (Q12 (((length t_3 : Int) : Int) == (0 : Int))), Q110 0] [Q51 0 4 t_0 t_1 t_2 4 t_3] 1)) (Q41 54 0 r Hs' 3 [Q77 1 0, Q4 3 (Q12 false), Q110 0] [Q51 0 4 t_0 t_1 t_2 4 t_3] 1)) (Q41 54 0 r Hs' 3 [Q77 1 0, Q4 3 (Q12 false), Q110 0] [Q51 0 4 t_0 t_1 t_2 4 t_3] 1)) (br ((t_0 : Int) == (2 : Int)) (br ((t_1 : List UInt8) == []) ((FV.isSl 4 (Q5 4 t_3) = true) ∧ (Q41 54 0 r Hs' 3 [Q77 1 0, Q4 3 (Q12 (((length t_3 : Int) : Int) == (0 : Int))), Q110 0] [Q51 0 4 t_0 t_1 t_2 4 t_3] 1)) (Q41 54 0 r Hs' 3 [Q77 1 0, Q4 3 (Q12 false), Q110 0] [Q51 0 4 t_0 t_1 t_2 4 t_3] 1)) (br ((t_0 : Int) == (3 : Int)) (br (decide ((t_2 : Int) ≥ (0 : Int))) (br (decide ((t_2 : Int) ≤ (4611686018427387904 : Int))) (br ((t_1 : List UInt8) == []) ((FV.isSl 4 (Q5 4 t_3) = true) ∧ (Q41 54 0 r Hs' 3 [Q77 1 0, Q4 3 (Q12 (((length t_3 : Int) : Int) == (0 : Int))), Q110 0] [Q51 0 4 t_0 t_1 t_2 4 t_3] 1)) (Q41 54 0 r Hs' 3 [Q77 1 0, Q4 3 (Q12 false), Q110 0] [Q51 0 4 t_0 t_1 t_2 4 t_3] 1)) (Q41 54 0 r Hs' 3 [Q77 1 0, Q4 3 (Q12 false), Q110 0] [Q51 0 4 t_0 t_1 t_2 4 t_3] 1)) (Q41 54 0 r Hs' 3 [Q77 1 0, Q4 3 (Q12 false), Q110 0] [Q51 0 4 t_0 t_1 t_2 4 t_3] 1)) (br ((t_0 : Int) == (4 : Int)) (br (decide ((t_2 : Int) ≥ (0 : Int))) (br (decide ((t_2 : Int) ≤ (4611686018427387904 : Int))) (br ((t_1 : List UInt8) == []) ((FV.isSl 4 (Q5 4 t_3) = true) ∧ (Q41 54 0 r Hs' 3 [Q77 1 0, Q4 3 (Q12 (((length t_3 : Int) : Int) == (0 : Int))), Q110 0] [Q51 0 4 t_0 t_1 t_2 4 t_3] 1)) (Q41 54 0 r Hs' 3 [Q77 1 0, Q4 3 (Q12 false), Q110 0] [Q51 0 4 t_0 t_1 t_2 4 t_3] 1)) (Q41 54 0 r Hs' 3 [Q77 1 0, Q4 3 (Q12 false), Q110 0] [Q51 0 4 t_0 t_1 t_2 4 t_3] 1)) (Q41 54 0 r Hs' 3 [Q77 1 0, Q4 3 (Q12 false), Q110 0] [Q51 0 4 t_0 t_1 t_2 4 t_3] 1)) (br ((t_0 : Int) == (5 : Int)) (br ((t_2 : Int) == (0 : Int)) (br ((t_1 : List UInt8) == []) ((FV.isSl 4 (Q5 4 t_3) = true) ∧ (Q41 54 0 r Hs' 3 [Q77 1 0, Q4 3 (Q12 (((length t_3 : Int) : Int) == (1 : Int))), Q110 0] [Q51 0 4 t_0 t_1 t_2 4 t_3] 1)) (Q41 54 0 r Hs' 3 [Q77 1 0, Q4 3 (Q12 false), Q110 0] [Q51 0 4 t_0 t_1 t_2 4 t_3] 1)) (Q41 54 0 r Hs' 3 [Q77 1 0, Q4 3 (Q12 false), Q110 0] [Q51 0 4 t_0 t_1 t_2 4 t_3] 1)) (br ((t_0 : Int) == (6 : Int)) (br ((t_2 : Int) == (0 : Int)) ((FV.isSl 4 (Q5 4 t_3) = true) ∧ (br (decide (((length t_3 : Int) : Int) ≥ (2 : Int))) (((FV.isSl 4 (Q5 4 t_3) = true) ∧ ((0 ≤ (0 : Int)) ∧ (((0 : Int) < (length t_3 : Int)) ∧ (((rE (getD t_3 0 [])) : List FV) = (getD t_3 0 []))))) ∧ ((FV.isSl 4 (Q5 4 t_3) = true) ∧ (br (((FV.asI (getD (getD t_3 0 []) 0 FV.nils)) : Int) != (6 : Int)) (br ((t_1 : List UInt8) == []) ((FV.isSl 4 (Q5 4 t_3) = true) ∧ (Q41 54 0 r Hs' 3 [Q77 1 0, Q4 3 (Q12 (((length t_3 : Int) : Int) == (length t_3 : Int))), Q110 0] [Q51 0 4 t_0 t_1 t_2 4 t_3] 1)) (Q41 54 0 r Hs' 3 [Q77 1 0, Q4 3 (Q12 false), Q110 0] [Q51 0 4 t_0 t_1 t_2 4 t_3] 1)) (Q41 54 0 r Hs' 3 [Q77 1 0, Q4 3 (Q12 false), Q110 0] [Q51 0 4 t_0 t_1 t_2 4 t_3] 1)))) ((FV.isSl 4 (Q5 4 t_3) = true) ∧ (Q41 54 0 r Hs' 3 [Q77 1 0, Q4 3 (Q12 false), Q110 0] [Q51 0 4 t_0 t_1 t_2 4 t_3] 1)))) ((FV.isSl 4 (Q5 4 t_3) = true) ∧ (Q41 54 0 r Hs' 3 [Q77 1 0, Q4 3 (Q12 false), Q110 0] [Q51 0 4 t_0 t_1 t_2 4 t_3] 1))) (Q41 54 0 r Hs' 3 [Q77 1 0, Q4 3 (Q12 false), Q110 0] [Q51 0 4 t_0 t_1 t_2 4 t_3] 1)))))))) := by kernel_rfl
theorem v54_3a (x3 : Bool) (x7 h0_0 : Int) (h0_1 : List UInt8) (h0_2 : Int) (h0_3 : RW) (r : TV) (Hs' : List AObj) : VQ lv54 54 0 r Hs' 3 ⟨[Q77 1 0, Q4 3 (Q12 x3), Q110 x7], [Q51 0 4 h0_0 h0_1 h0_2 4 h0_3], 1⟩ =
  ((FV.isSl 4 (Q5 4 h0_3) = true) ∧ (br (decide ((x7 : Int) < (length h0_3 : Int))) (br x3 (((FV.isSl 4 (Q5 4 h0_3) = true) ∧ ((0 ≤ x7) ∧ ((x7 < (length h0_3 : Int)) ∧ (((rE (getD h0_3 (toNat x7) [])) : List FV) = (getD h0_3 (toNat x7) []))))) ∧ (∃ b1 : Bool, ((Q60 54 [(aE (getD h0_3 (toNat x7) []))] b1) ∧ (Q41 54 0 r Hs' 3 [Q77 1 0, Q4 3 (Q12 b1), Q110 (IntKind.wrap .i64 (x7 + 1))] [Q51 0 4 h0_0 h0_1 h0_2 4 h0_3] 1)))) (Q58 x3 r Hs')) (Q58 x3 r Hs'))) := by kernel_rfl
def lv82 : List (Nat × List Nat) := [(1, [1, 2, 5, 6, 7])]
theorem v82 (t_0 : Int) (t_1 : List UInt8) (t_2 : Int) (t_3 : RW) (k : Int) (r : TV) (Hs' : List AObj) : VE lv82 82 0 r Hs' (Q78 (Q67 t_0 t_1 t_2 t_3) k) [] =
  (br ((t_0 : Int) == (3 : Int)) (Q96 (z0i [(0 : Int), (IntKind.wrap .i64 ((IntKind.wrap .i64 (t_2 - k)) + (1 : Int)))]) [] r Hs') (∃ b1 : Bool, ((Q60 112 [Q67 t_0 t_1 t_2 t_3] b1) ∧ (Q41 82 0 r Hs' 1 [Q13 1 k, Q77 2 0, Q13 5 0, Q4 6 (Q12 b1), Q110 0] [Q51 0 4 t_0 t_1 t_2 4 t_3] 1)))) := by kernel_rfl
theorem v82_1a (x1 x5 : Int) (x6 : Bool) (x7 h0_0 : Int) (h0_1 : List UInt8) (h0_2 : Int) (h0_3 : RW) (r : TV) (Hs' : List AObj) : VQ lv82 82 0 r Hs' 1 ⟨[Q13 1 x1, Q77 2 0, Q13 5 x5, Q4 6 (Q12 x6), Q110 x7], [Q51 0 4 h0_0 h0_1 h0_2 4 h0_3], 1⟩ =
  ((FV.isSl 4 (Q5 4 h0_3) = true) ∧ (br (decide ((x7 : Int) < (length h0_3 : Int))) (br x6 (((FV.isSl 4 (Q5 4 h0_3) = true) ∧ ((0 ≤ x7) ∧ ((x7 < (length h0_3 : Int)) ∧ (((rE (getD h0_3 (toNat x7) [])) : List FV) = (getD h0_3 (toNat x7) []))))) ∧ (∃ n1 : Int, ((Q57 113 (Q78 (Q67 h0_0 h0_1 h0_2 h0_3) x1) (Q25 n1)) ∧ (∃ n2 : Int, ((Q57 82 (Q78 (aE (getD h0_3 (toNat x7) [])) n1) (Q25 n2)) ∧ (Q41 82 0 r Hs' 1 [Q13 1 x1, Q77 2 0, Q13 5 (z0i [x5, n2]), Q4 6 (Q12 x6), Q110 (IntKind.wrap .i64 (x7 + 1))] [Q51 0 4 h0_0 h0_1 h0_2 4 h0_3] 1)))))) (Q96 x5 [] r Hs')) (Q96 x5 [] r Hs'))) := by kernel_rfl
def lv59 : List (Nat × List Nat) := []
theorem v59 (u_0 : Int) (u_1 : List UInt8) (u_2 : Int) (u_3 : RW) (a1 : Int) (r : TV) (Hs' : List AObj) : VE lv59 59 1 r Hs' (Q59 (Q67 u_0 u_1 u_2 u_3) a1 (Q102 1)) [Q99 1] =
  (br ((u_0 : Int) == (4 : Int)) (∃ b1 : Bool, ((Q60 60 (Q78 (.c Q28) u_2) b1) ∧ (br (!b1) ((1 ≤ 1) ∧ ((z0k 1 8) ∧ (Q42 [] (Q109 1 1 1 0 1 [[(Q1 u_2)]]) r Hs'))) (Q42 [] [Q99 1] r Hs')))) (Q42 [] [Q99 1] r Hs')) := by kernel_rfl
def lv88 : List (Nat × List Nat) := []
theorem v88 (t_0 : Int) (t_1 : List UInt8) (t_2 : Int) (t_3 : RW) (r : TV) (Hs' : List AObj) : VE lv88 88 0 r Hs' [Q67 t_0 t_1 t_2 t_3] [] =
  (br ((t_0 : Int) == (5 : Int)) (Q42 [Q18 [Q8 4 t_3], Q32 1] [] r Hs') (br ((t_0 : Int) == (6 : Int)) (Q42 [Q18 [Q8 4 t_3], Q32 0] [] r Hs') (Q42 [Q18 Q71, Q32 0] [] r Hs'))) := by kernel_rfl
theorem zq1 (t_0 : Int) (t_1 : List UInt8) (t_2 : Int) (t_3 : RW) (k : Int) (o0_0l : Nat) (o1 : RW) (r : TV) (Hs' : List AObj) : VE lv58 58 2 r Hs' (Q97 (Q67 t_0 t_1 t_2 t_3) k (.fn (.func 59) [] [(false, [Q92])])) (Q109 1 1 1 0 o0_0l o1) =
  (br ((t_0 : Int) != (5 : Int)) (br ((t_0 : Int) != (6 : Int)) ((∃ _ : Unit, ((Q39 59 (Q59 (Q67 t_0 t_1 t_2 t_3) k (Q102 1)) (Q109 1 1 1 0 o0_0l o1) [] [Q99 1]) ∧ (Q42 [] (Q108 (Q99 1) o1) r Hs'))) ∨ ((∃ z2 : Nat × RW, ((Q39 59 (Q59 (Q67 t_0 t_1 t_2 t_3) k (Q102 1)) (Q109 1 1 1 0 o0_0l o1) [] (Q109 1 1 1 0 z2.1 z2.2)) ∧ (Q42 [] (Q109 1 1 1 0 z2.1 z2.2) r Hs'))) ∨ (∃ z3 : Nat × RW, ((Q39 59 (Q59 (Q67 t_0 t_1 t_2 t_3) k (Q102 1)) (Q109 1 1 1 0 o0_0l o1) [] (Q34 (Q94 1 2 1 0 z3.1) .gone z3.2)) ∧ (Q42 [] (Q34 (Q94 1 2 1 0 z3.1) .gone z3.2) r Hs'))))) (∃ y4 : FV, (∃ n5 : Int, ((Q39 88 [Q67 t_0 t_1 t_2 t_3] [] [Q18 [Q0 y4], Q32 n5] []) ∧ ((FV.isSl 4 y4 = true) ∧ (Q41 58 2 r Hs' 1 (Q114 1 k (Q4 2 (.fn (.func 59) [] [(false, [Q92])])) n5 27 y4 28 (length (FV.ses y4) : Int) 29 0) [Q19 0 1 (Q93 1 1 0 o0_0l), Q116 1 o1] 2)))))) (∃ y6 : FV, (∃ n7 : Int, ((Q39 88 [Q67 t_0 t_1 t_2 t_3] [] [Q18 [Q0 y6], Q32 n7] []) ∧ ((FV.isSl 4 y6 = true) ∧ (Q41 58 2 r Hs' 1 (Q114 1 k (Q4 2 (.fn (.func 59) [] [(false, [Q92])])) n7 27 y6 28 (length (FV.ses y6) : Int) 29 0) [Q19 0 1 (Q93 1 1 0 o0_0l), Q116 1 o1] 2)))))) := by kernel_rfl
theorem z94 (x1 x7 : Int) (x27 : FV) (x28 x29 : Int) (h0_0l : Nat) (h1 : RW) (r : TV) (Hs' : List AObj) : VQ lv58 58 2 r Hs' 1 ⟨Q114 1 x1 (Q4 2 (.fn (.func 59) [] [(false, [Q92])])) x7 27 x27 28 x28 29 x29, [Q19 0 1 (Q93 1 1 0 h0_0l), Q116 1 h1], 2⟩ =
  (br (decide ((x29 : Int) < x28)) (((FV.isSl 4 x27 = true) ∧ ((0 ≤ x29) ∧ ((x29 < (length (FV.ses x27) : Int)) ∧ (((rE (getD (FV.ses x27) (toNat x29) [])) : List FV) = (getD (FV.ses x27) (toNat x29) []))))) ∧ ((∃ z1 : Int, ((Q39 58 (Q97 (aE (getD (FV.ses x27) (toNat x29) [])) (IntKind.wrap .i64 (x1 + x7)) (.fn (.func 59) [] [(false, [Q92])])) (Q109 1 1 1 0 h0_0l h1) [] [Q91 z1]) ∧ (Q41 58 2 r Hs' 1 (Q114 1 x1 (Q4 2 (.fn (.func 59) [] [(false, [Q92])])) x7 27 x27 28 x28 29 (IntKind.wrap .i64 (x29 + 1))) [Q95 0 1 z1, Q116 1 h1] 2))) ∨ ((∃ _ : Unit, ((Q39 58 (Q97 (aE (getD (FV.ses x27) (toNat x29) [])) (IntKind.wrap .i64 (x1 + x7)) (.fn (.func 59) [] [(false, [Q92])])) (Q109 1 1 1 0 h0_0l h1) [] [Q99 1]) ∧ (Q41 58 2 r Hs' 1 (Q114 1 x1 (Q4 2 (.fn (.func 59) [] [(false, [Q92])])) x7 27 x27 28 x28 29 (IntKind.wrap .i64 (x29 + 1))) [Q19 0 1 Q71, Q116 1 h1] 2))) ∨ ((∃ z3 : Nat × RW, ((Q39 58 (Q97 (aE (getD (FV.ses x27) (toNat x29) [])) (IntKind.wrap .i64 (x1 + x7)) (.fn (.func 59) [] [(false, [Q92])])) (Q109 1 1 1 0 h0_0l h1) [] (Q109 1 1 1 0 z3.1 z3.2)) ∧ (Q41 58 2 r Hs' 1 (Q114 1 x1 (Q4 2 (.fn (.func 59) [] [(false, [Q92])])) x7 27 x27 28 x28 29 (IntKind.wrap .i64 (x29 + 1))) [Q19 0 1 (Q93 1 1 0 z3.1), Q116 1 z3.2] 2))) ∨ (∃ z4 : Nat × RW, ((Q39 58 (Q97 (aE (getD (FV.ses x27) (toNat x29) [])) (IntKind.wrap .i64 (x1 + x7)) (.fn (.func 59) [] [(false, [Q92])])) (Q109 1 1 1 0 h0_0l h1) [] (Q34 (Q94 1 2 1 0 z4.1) .gone z4.2)) ∧ (Q41 58 2 r Hs' 1 (Q114 1 x1 (Q4 2 (.fn (.func 59) [] [(false, [Q92])])) x7 27 x27 28 x28 29 (IntKind.wrap .i64 (x29 + 1))) [Q19 0 1 (Q93 2 1 0 z4.1), Q55 1, Q116 2 z4.2] 3))))))) (Q42 [] (Q109 1 1 1 0 h0_0l h1) r Hs')) := by kernel_rfl
theorem z81 (x1 x7 : Int) (x27 : FV) (x28 x29 : Int) (h0_0l : Nat) (h2 : RW) (r : TV) (Hs' : List AObj) : VQ lv58 58 2 r Hs' 1 ⟨Q114 1 x1 (Q4 2 (.fn (.func 59) [] [(false, [Q92])])) x7 27 x27 28 x28 29 x29, [Q19 0 1 (Q93 2 1 0 h0_0l), Q55 1, Q116 2 h2], 3⟩ =
  (br (decide ((x29 : Int) < x28)) (((FV.isSl 4 x27 = true) ∧ ((0 ≤ x29) ∧ ((x29 < (length (FV.ses x27) : Int)) ∧ (((rE (getD (FV.ses x27) (toNat x29) [])) : List FV) = (getD (FV.ses x27) (toNat x29) []))))) ∧ ((∃ z1 : Int, ((Q39 58 (Q97 (aE (getD (FV.ses x27) (toNat x29) [])) (IntKind.wrap .i64 (x1 + x7)) (.fn (.func 59) [] [(false, [Q92])])) (Q109 1 1 1 0 h0_0l h2) [] [Q91 z1]) ∧ (Q41 58 2 r Hs' 1 (Q114 1 x1 (Q4 2 (.fn (.func 59) [] [(false, [Q92])])) x7 27 x27 28 x28 29 (IntKind.wrap .i64 (x29 + 1))) [Q95 0 1 z1, Q55 1] 2))) ∨ ((∃ _ : Unit, ((Q39 58 (Q97 (aE (getD (FV.ses x27) (toNat x29) [])) (IntKind.wrap .i64 (x1 + x7)) (.fn (.func 59) [] [(false, [Q92])])) (Q109 1 1 1 0 h0_0l h2) [] [Q99 1]) ∧ (Q41 58 2 r Hs' 1 (Q114 1 x1 (Q4 2 (.fn (.func 59) [] [(false, [Q92])])) x7 27 x27 28 x28 29 (IntKind.wrap .i64 (x29 + 1))) [Q19 0 1 Q71, Q55 1] 2))) ∨ ((∃ z3 : Nat × RW, ((Q39 58 (Q97 (aE (getD (FV.ses x27) (toNat x29) [])) (IntKind.wrap .i64 (x1 + x7)) (.fn (.func 59) [] [(false, [Q92])])) (Q109 1 1 1 0 h0_0l h2) [] (Q109 1 1 1 0 z3.1 z3.2)) ∧ (Q41 58 2 r Hs' 1 (Q114 1 x1 (Q4 2 (.fn (.func 59) [] [(false, [Q92])])) x7 27 x27 28 x28 29 (IntKind.wrap .i64 (x29 + 1))) [Q19 0 1 (Q93 2 1 0 z3.1), Q55 1, Q116 2 z3.2] 3))) ∨ (∃ z4 : Nat × RW, ((Q39 58 (Q97 (aE (getD (FV.ses x27) (toNat x29) [])) (IntKind.wrap .i64 (x1 + x7)) (.fn (.func 59) [] [(false, [Q92])])) (Q109 1 1 1 0 h0_0l h2) [] (Q34 (Q94 1 2 1 0 z4.1) .gone z4.2)) ∧ (Q41 58 2 r Hs' 1 (Q114 1 x1 (Q4 2 (.fn (.func 59) [] [(false, [Q92])])) x7 27 x27 28 x28 29 (IntKind.wrap .i64 (x29 + 1))) [Q19 0 1 (Q93 2 1 0 z4.1), Q55 1, Q116 2 z4.2] 3))))))) (Q42 [] (Q34 (Q94 1 2 1 0 h0_0l) .gone h2) r Hs')) := by kernel_rfl
def lv83 : List (Nat × List Nat) := [(1, [0, 1, 7, 8])]
theorem v83_F50 (s : RW) (r : TV) (Hs' : List AObj) : VE lv83 83 0 r Hs' (Q115 (Q76 4 s) (.fn (.func 50) [] [])) [] =
  ((FV.isSl 4 (Q5 4 s) = true) ∧ (Q41 83 0 r Hs' 1 (Q65 (Q53 0 4 s) (Q4 1 (.fn (.func 50) [] [])) (Q110 (length s : Int)) 8 0) [] 0)) := by kernel_rfl
theorem ze2 (x0 : RW) (x7 x8 : Int) (r : TV) (Hs' : List AObj) : VQ lv83 83 0 r Hs' 1 ⟨Q65 (Q53 0 4 x0) (Q4 1 (.fn (.func 50) [] [])) (Q110 x7) 8 x8, [], 0⟩ =
  (br (decide ((x8 : Int) < x7)) (((FV.isSl 4 (Q5 4 x0) = true) ∧ ((0 ≤ x8) ∧ ((x8 < (length x0 : Int)) ∧ (((rE (getD x0 (toNat x8) [])) : List FV) = (getD x0 (toNat x8) []))))) ∧ (∃ b1 : Bool, ((Q60 50 [(aE (getD x0 (toNat x8) []))] b1) ∧ (br b1 (Q96 x8 [] r Hs') (Q41 83 0 r Hs' 1 (Q65 (Q53 0 4 x0) (Q4 1 (.fn (.func 50) [] [])) (Q110 x7) 8 (IntKind.wrap .i64 (x8 + 1))) [] 0))))) (Q96 (-1 : Int) [] r Hs')) := by kernel_rfl
theorem v83_F52 (s : RW) (o0_0 : Int) (o0_1 : List UInt8) (o0_2 : Int) (o0_3 : RW) (r : TV) (Hs' : List AObj) : VE lv83 83 1 r Hs' (Q115 (Q76 4 s) (.fn (.func 52) [] [(false, [(Q81 4)])])) [Q98 4 o0_0 o0_1 o0_2 4 o0_3] =
  ((FV.isSl 4 (Q5 4 s) = true) ∧ (Q41 83 1 r Hs' 1 (Q65 (Q53 0 4 s) (Q4 1 (.fn (.func 52) [] [(false, [(Q81 4)])])) (Q110 (length s : Int)) 8 0) [Q51 0 4 o0_0 o0_1 o0_2 4 o0_3] 1)) := by kernel_rfl
theorem ze0 (x0 : RW) (x7 x8 h0_0 : Int) (h0_1 : List UInt8) (h0_2 : Int) (h0_3 : RW) (r : TV) (Hs' : List AObj) : VQ lv83 83 1 r Hs' 1 ⟨Q65 (Q53 0 4 x0) (Q4 1 (.fn (.func 52) [] [(false, [(Q81 4)])])) (Q110 x7) 8 x8, [Q51 0 4 h0_0 h0_1 h0_2 4 h0_3], 1⟩ =
  (br (decide ((x8 : Int) < x7)) (((FV.isSl 4 (Q5 4 x0) = true) ∧ ((0 ≤ x8) ∧ ((x8 < (length x0 : Int)) ∧ (((rE (getD x0 (toNat x8) [])) : List FV) = (getD x0 (toNat x8) []))))) ∧ (∃ b1 : Bool, ((Q11 52 [(aE (getD x0 (toNat x8) [])), Q102 4] [Q98 4 h0_0 h0_1 h0_2 4 h0_3] (Q29 b1) [Q98 4 h0_0 h0_1 h0_2 4 h0_3]) ∧ (br b1 (Q96 x8 [Q98 4 h0_0 h0_1 h0_2 4 h0_3] r Hs') (Q41 83 1 r Hs' 1 (Q65 (Q53 0 4 x0) (Q4 1 (.fn (.func 52) [] [(false, [(Q81 4)])])) (Q110 x7) 8 (IntKind.wrap .i64 (x8 + 1))) [Q51 0 4 h0_0 h0_1 h0_2 4 h0_3] 1))))) (Q96 (-1 : Int) [Q98 4 h0_0 h0_1 h0_2 4 h0_3] r Hs')) := by kernel_rfl
theorem zqf (sl : Nat) (o0 : RW) (o1_0 : Int) (o1_1 : List UInt8) (o1_2 : Int) (o1_3 : RW) (r : TV) (Hs' : List AObj) : VE lv83 83 2 r Hs' (Q115 (.c (Q3 0 4 0 sl)) (.fn (.func 52) [] [(false, [(Q75 1 4)])])) [.arz 4 o0, Q98 4 o1_0 o1_1 o1_2 4 o1_3] =
  (Q41 83 2 r Hs' 1 (Q65 (Q117 0 0 4 0 sl) (Q4 1 (.fn (.func 52) [] [(false, [(Q75 1 4)])])) (Q110 (sl : Int)) 8 0) [Q20 0 4 o0, Q51 1 4 o1_0 o1_1 o1_2 4 o1_3] 2) := by kernel_rfl
theorem z8z (x0l : Nat) (x7 x8 : Int) (h0 : RW) (h1_0 : Int) (h1_1 : List UInt8) (h1_2 : Int) (h1_3 : RW) (r : TV) (Hs' : List AObj) : VQ lv83 83 2 r Hs' 1 ⟨Q65 (Q117 0 0 4 0 x0l) (Q4 1 (.fn (.func 52) [] [(false, [(Q75 1 4)])])) (Q110 x7) 8 x8, [Q20 0 4 h0, Q51 1 4 h1_0 h1_1 h1_2 4 h1_3], 2⟩ =
  (br (decide ((x8 : Int) < x7)) ((0 ≤ x8 ∧ x8 < (x0l : Int)) ∧ ((((0 + (toNat x8)) < (length h0)) ∧ ((((rE (getD h0 (0 + (toNat x8)) [])) : List FV) = (take 4 (drop 0 (getD h0 (0 + (toNat x8)) [])))) ∧ ((4 : Nat) = 4))) ∧ (∃ b1 : Bool, ((Q11 52 [(aE (getD h0 (0 + (toNat x8)) [])), Q102 4] [Q98 4 h1_0 h1_1 h1_2 4 h1_3] (Q29 b1) [Q98 4 h1_0 h1_1 h1_2 4 h1_3]) ∧ (br b1 (Q96 x8 [.arz 4 h0, Q98 4 h1_0 h1_1 h1_2 4 h1_3] r Hs') (Q41 83 2 r Hs' 1 (Q65 (Q117 0 0 4 0 x0l) (Q4 1 (.fn (.func 52) [] [(false, [(Q75 1 4)])])) (Q110 x7) 8 (IntKind.wrap .i64 (x8 + 1))) [Q20 0 4 h0, Q51 1 4 h1_0 h1_1 h1_2 4 h1_3] 2)))))) (Q96 (-1 : Int) [.arz 4 h0, Q98 4 h1_0 h1_1 h1_2 4 h1_3] r Hs')) := by kernel_rfl
theorem v83_F61 (s : RW) (r : TV) (Hs' : List AObj) : VE lv83 83 0 r Hs' (Q115 (Q76 4 s) (.fn (.func 61) [] [])) [] =
  ((FV.isSl 4 (Q5 4 s) = true) ∧ (Q41 83 0 r Hs' 1 (Q65 (Q53 0 4 s) (Q4 1 (.fn (.func 61) [] [])) (Q110 (length s : Int)) 8 0) [] 0)) := by kernel_rfl
theorem ze8 (x0 : RW) (x7 x8 : Int) (r : TV) (Hs' : List AObj) : VQ lv83 83 0 r Hs' 1 ⟨Q65 (Q53 0 4 x0) (Q4 1 (.fn (.func 61) [] [])) (Q110 x7) 8 x8, [], 0⟩ =
  (br (decide ((x8 : Int) < x7)) (((FV.isSl 4 (Q5 4 x0) = true) ∧ ((0 ≤ x8) ∧ ((x8 < (length x0 : Int)) ∧ (((rE (getD x0 (toNat x8) [])) : List FV) = (getD x0 (toNat x8) []))))) ∧ (∃ b1 : Bool, ((Q60 61 [(aE (getD x0 (toNat x8) []))] b1) ∧ (br b1 (Q96 x8 [] r Hs') (Q41 83 0 r Hs' 1 (Q65 (Q53 0 4 x0) (Q4 1 (.fn (.func 61) [] [])) (Q110 x7) 8 (IntKind.wrap .i64 (x8 + 1))) [] 0))))) (Q96 (-1 : Int) [] r Hs')) := by kernel_rfl
def lv90 : List (Nat × List Nat) := []
theorem v90 (e o0_1 o0_2 : Int) (o0_3 : RW) (o0_4 o0_5 : Int) (o1_0l o1_1l : Nat) (o2 o3 : RW) (r : TV) (Hs' : List AObj) : VE lv90 90 4 r Hs' (Q78 (Q102 6) e) (Q88 (Q72 6 1 2 0 0 o0_1 o0_2 4 o0_3 o0_4 o0_5) 2 o1_0l 3 o1_1l o2 o3) =
  (br ((o0_5 : Int) == (0 : Int)) (RT (.agg (Q45 0 [] 0)) (Q88 (Q72 6 1 2 0 0 o0_1 o0_2 4 o0_3 o0_4 e) 2 o1_0l 3 o1_1l o2 o3) r Hs') (RT (.agg (Q45 0 [] 0)) (Q88 (Q72 6 1 2 0 0 o0_1 o0_2 4 o0_3 o0_4 o0_5) 2 o1_0l 3 o1_1l o2 o3) r Hs')) := by kernel_rfl
def lv91 : List (Nat × List Nat) := []
theorem v91 (t_0 : Int) (t_1 : List UInt8) (t_2 : Int) (t_3 : RW) (fuel : Int) (o0_0l o0_1l : Nat) (o1 o2 : RW) (r : TV) (Hs' : List AObj) : VE lv91 91 3 r Hs' (Q103 2 (Q67 t_0 t_1 t_2 t_3) (Q25 fuel)) (Q44 2 1 6 0 o0_0l 2 1 0 o0_1l o1 o2) =
  (∃ z1 : Tm × Int × Int, ((Q39 67 (Q97 (Q67 t_0 t_1 t_2 t_3) fuel (.fn (.func 101) [(false, [(Q81 2)])] [])) (Q44 2 1 6 0 o0_0l 2 1 0 o0_1l o1 o2) (Q80 (Q37 (cT z1.1)) z1.2.1 z1.2.2) (Q44 2 1 6 0 o0_0l 2 1 0 o0_1l o1 o2)) ∧ (Q42 (Q80 (Q37 (cT z1.1)) z1.2.1 z1.2.2) (Q44 2 1 6 0 o0_0l 2 1 0 o0_1l o1 o2) r Hs'))) := by kernel_rfl
def lv92 : List (Nat × List Nat) := []
theorem v92 (t_0 : Int) (t_1 : List UInt8) (t_2 : Int) (t_3 : RW) (r : TV) (Hs' : List AObj) : VE lv92 92 0 r Hs' [Q67 t_0 t_1 t_2 t_3] [] =
  (br ((t_0 : Int) != (6 : Int)) (Q42 (Q63 (Q17 t_0 t_1 t_2 4 t_3) Q71) [] r Hs') (∃ b1 : Bool, ((Q60 20 [Q67 t_0 t_1 t_2 t_3] b1) ∧ (br (!b1) (Q42 (Q63 (Q17 t_0 t_1 t_2 4 t_3) Q71) [] r Hs') (((FV.isSl 4 (Q5 4 t_3) = true) ∧ ((0 ≤ (0 : Int)) ∧ (((0 : Int) < (length t_3 : Int)) ∧ (((rE (getD t_3 0 [])) : List FV) = (getD t_3 0 []))))) ∧ ((FV.isSl 4 (Q5 4 t_3) = true) ∧ (((0 ≤ (1 : Int)) ∧ (((1 : Int) ≤ (length t_3 : Int)) ∧ ((length t_3 : Int) ≤ (length t_3 : Int)))) ∧ ((∃ z2 : Bool, ((Q57 102 [Q76 4 (drop 1 (take (toNat (length t_3 : Int)) t_3))] (.c (Q0 (.sl z2 4 [])))) ∧ (Q42 (Q63 (cE (getD t_3 0 [])) [Q0 (.sl z2 4 [])]) [] r Hs'))) ∨ (∃ z3 : RW, ((Q56 102 [Q76 4 (drop 1 (take (toNat (length t_3 : Int)) t_3))] (.c (Q3 0 4 0 (length z3))) [.arz 4 z3]) ∧ (Q42 (Q63 (cE (getD t_3 0 [])) (Q93 0 4 0 (length z3))) [.arz 4 z3] r Hs'))))))))))) := by kernel_rfl
def lv93 : List (Nat × List Nat) := [(1, [0, 1, 3, 8, 9, 12, 14, 15, 55, 56, 57]), (5, [0, 1, 3, 8, 9, 12, 14, 15, 105, 106, 107]), (1000001, [2, 3])]
theorem v93 (y : Int) (l : RW) (k o0_1 o0_2 : Int) (o0_3 : RW) (o0_4 o0_5 : Int) (o1_0l o1_1l : Nat) (o2 o3 : RW) (r : TV) (Hs' : List AObj) : VE lv93 93 4 r Hs' [Q102 6, Q25 y, Q76 4 l, Q25 k] (Q88 (Q72 6 1 2 0 0 o0_1 o0_2 4 o0_3 o0_4 o0_5) 2 o1_0l 3 o1_1l o2 o3) =
  (∃ z1 : List Tm × Int × Int, ((Q39 13 [Q102 2, Q25 y, Q76 4 l, Q25 o0_4] (Q44 2 1 6 0 o1_0l 2 1 0 o1_1l o2 o3) (Q80 (Q18 [Q8 4 (FTs z1.1)]) z1.2.1 z1.2.2) (Q44 2 1 6 0 o1_0l 2 1 0 o1_1l o2 o3)) ∧ (br ((z1.2.2 : Int) != (0 : Int)) (∃ z2 : Int × Int × List Tm × Int × Int, ((Q11 90 (Q78 (Q102 6) z1.2.2) (Q88 (Q72 6 1 2 0 0 o0_1 o0_2 4 o0_3 o0_4 o0_5) 2 o1_0l 3 o1_1l o2 o3) (Q67 0 [] 0 []) (Q88 (Q72 6 1 2 0 0 z2.1 z2.2.1 4 (FTs z2.2.2.1) z2.2.2.2.1 z2.2.2.2.2) 2 o1_0l 3 o1_1l o2 o3)) ∧ (RT (Q67 0 [] 0 []) (Q87 (Q72 6 1 2 0 0 z2.1 z2.2.1 4 (FTs z2.2.2.1) z2.2.2.2.1 z2.2.2.2.2) (Q86 4 o1_0l 5 o1_1l) .gone (Q33 o2) (Q30 o3)) r Hs'))) (∃ z3 : Int × Bool × Tm × Bool, ((Q39 19 (Q78 (Q102 2) y) (Q44 2 1 6 0 o1_0l 2 1 0 o1_1l o2 o3) (Q90 (Q122 z3.1 z3.2.1 z3.2.2.1.k z3.2.2.1.s z3.2.2.1.n (Q8 4 (FTs z3.2.2.1.l))) z3.2.2.2) (Q44 2 1 6 0 o1_0l 2 1 0 o1_1l o2 o3)) ∧ ((FV.isSl 4 (Q5 4 (FTs z1.1)) = true) ∧ (Q41 93 4 r Hs' 1 [Q48 0 0 6, Q13 1 y, Q13 3 k, Q77 8 6, Q53 9 4 (FTs z1.1), Q48 12 7 6, Q118 14, Q118 15, Q53 55 4 (FTs z1.1), Q13 56 (length (FTs z1.1) : Int), Q13 57 0] [Q19 0 6 (Q52 1 2 0 0 o0_1 o0_2 4 o0_3 z1.2.1 o0_5), Q61 1 2 4 6 0 o1_0l 5 1 0 o1_1l, Q55 2, Q55 3, Q20 4 6 o2, Q116 5 o3, Q69 6 4 0 [] 0, Q19 7 6 (Q122 z3.1 z3.2.1 z3.2.2.1.k z3.2.2.1.s z3.2.2.1.n (Q8 4 (FTs z3.2.2.1.l)))] 8))))))) := by kernel_rfl
theorem v93_1a (x1 x3 : Int) (x9 x55 : RW) (x56 x57 h0_1 h0_2 : Int) (h0_3 : RW) (h0_4 h0_5 : Int) (h1_0l h1_1l : Nat) (h4 h5 : RW) (h6_0 : Int) (h6_1 : List UInt8) (h6_2 h7_0 : Int) (h7_1 : Bool) (h7_2 : Int) (h7_3 : List UInt8) (h7_4 : Int) (h7_5 : RW) (r : TV) (Hs' : List AObj) : VQ lv93 93 4 r Hs' 1 ⟨[Q48 0 0 6, Q13 1 x1, Q13 3 x3, Q77 8 6, Q53 9 4 x9, Q48 12 7 6, Q118 14, Q118 15, Q53 55 4 x55, Q13 56 x56, Q13 57 x57], [Q19 0 6 (Q52 1 2 0 0 h0_1 h0_2 4 h0_3 h0_4 h0_5), Q61 1 2 4 6 0 h1_0l 5 1 0 h1_1l, Q55 2, Q55 3, Q20 4 6 h4, Q116 5 h5, Q69 6 4 h6_0 h6_1 h6_2, Q19 7 6 (Q122 h7_0 h7_1 h7_2 h7_3 h7_4 (Q8 4 h7_5))], 8⟩ =
  (br (decide ((x57 : Int) < x56)) (((FV.isSl 4 (Q5 4 x55) = true) ∧ ((0 ≤ x57) ∧ ((x57 < (length x55 : Int)) ∧ (((rE (getD x55 (toNat x57) [])) : List FV) = (getD x55 (toNat x57) []))))) ∧ (∃ z1 : Tm × Bool, ((Q39 94 (Q103 6 (aE (getD x55 (toNat x57) [])) (Q25 x3)) (Q88 (Q72 6 1 2 0 0 h0_1 h0_2 4 h0_3 h0_4 h0_5) 2 h1_0l 3 h1_1l h4 h5) (Q90 (cT z1.1) z1.2) (Q88 (Q72 6 1 2 0 0 h0_1 h0_2 4 h0_3 h0_4 h0_5) 2 h1_0l 3 h1_1l h4 h5)) ∧ (br z1.2 ((FV.isSl 4 (Q5 4 x9) = true) ∧ (∃ z2 : Tm, ((Q57 121 [Q25 (IntKind.wrap .i64 ((IntKind.wrap .i64 ((length x9 : Int) - (1 : Int))) - x57))] (aT z2)) ∧ ((1 ≤ 1) ∧ ((z0k 1 56) ∧ ((1 ≤ 1) ∧ ((z0k 1 56) ∧ (Q41 93 4 r Hs' 1 [Q48 0 0 6, Q13 1 x1, Q13 3 x3, Q77 8 6, Q53 9 4 x9, Q48 12 7 6, Q117 14 8 4 0 1, Q117 15 9 4 0 1, Q53 55 4 x55, Q13 56 x56, Q13 57 (IntKind.wrap .i64 (x57 + 1))] [Q19 0 6 (Q52 1 2 0 0 h0_1 h0_2 4 h0_3 h0_4 h0_5), Q61 1 2 4 6 0 h1_0l 5 1 0 h1_1l, Q55 2, Q55 3, Q20 4 6 h4, Q116 5 h5, Q69 6 4 h6_0 h6_1 h6_2, Q19 7 6 (Q122 h7_0 h7_1 h7_2 h7_3 h7_4 (Q8 4 h7_5)), Q20 8 4 [(FT4 z2)], Q20 9 4 [(FT4 z1.1)]] 10)))))))) (Q41 93 4 r Hs' 1 [Q48 0 0 6, Q13 1 x1, Q13 3 x3, Q77 8 6, Q53 9 4 x9, Q48 12 7 6, Q118 14, Q118 15, Q53 55 4 x55, Q13 56 x56, Q13 57 (IntKind.wrap .i64 (x57 + 1))] [Q19 0 6 (Q52 1 2 0 0 h0_1 h0_2 4 h0_3 h0_4 h0_5), Q61 1 2 4 6 0 h1_0l 5 1 0 h1_1l, Q55 2, Q55 3, Q20 4 6 h4, Q116 5 h5, Q69 6 4 h6_0 h6_1 h6_2, Q19 7 6 (Q122 h7_0 h7_1 h7_2 h7_3 h7_4 (Q8 4 h7_5))] 8))))) ((FV.isSl 4 .nils = true) ∧ ((FV.isSl 4 (Q5 4 x9) = true) ∧ (br (((0 : Int) : Int) == (length x9 : Int)) (br (decide ((h7_0 : Int) ≤ h0_2)) (∃ z3 : Tm, ((Q57 122 [Q25 x1] (aT z3)) ∧ (∃ z4 : Tm, ((Q57 24 (Q115 (aT z3) Q28) (aT z4)) ∧ (RT (aT z4) (Q87 (Q72 6 1 2 0 0 h0_1 h0_2 4 h0_3 h0_4 h0_5) (Q86 4 h1_0l 5 h1_1l) .gone (Q33 h4) (Q30 h5)) r Hs'))))) ((FV.isSl 4 (Q5 4 h0_3) = true) ∧ (Q41 93 4 r Hs' 5 [Q48 0 0 6, Q13 1 x1, Q13 3 x3, Q77 8 6, Q53 9 4 x9, Q48 12 7 6, Q118 14, Q118 15, Q53 105 4 h0_3, Q13 106 (length h0_3 : Int), Q13 107 0] [Q19 0 6 (Q52 1 2 0 0 h0_1 h0_2 4 h0_3 h0_4 h0_5), Q61 1 2 4 6 0 h1_0l 5 1 0 h1_1l, Q55 2, Q55 3, Q20 4 6 h4, Q116 5 h5, Q69 6 4 h6_0 h6_1 h6_2, Q19 7 6 (Q122 h7_0 h7_1 h7_2 h7_3 h7_4 (Q8 4 h7_5))] 8))) ((FV.isSl 4 (Q5 4 h0_3) = true) ∧ (Q41 93 4 r Hs' 5 [Q48 0 0 6, Q13 1 x1, Q13 3 x3, Q77 8 6, Q53 9 4 x9, Q48 12 7 6, Q118 14, Q118 15, Q53 105 4 h0_3, Q13 106 (length h0_3 : Int), Q13 107 0] [Q19 0 6 (Q52 1 2 0 0 h0_1 h0_2 4 h0_3 h0_4 h0_5), Q61 1 2 4 6 0 h1_0l 5 1 0 h1_1l, Q55 2, Q55 3, Q20 4 6 h4, Q116 5 h5, Q69 6 4 h6_0 h6_1 h6_2, Q19 7 6 (Q122 h7_0 h7_1 h7_2 h7_3 h7_4 (Q8 4 h7_5))] 8)))))) := by kernel_rfl
theorem v93_1b (x1 x3 : Int) (x9 : RW) (x14l x15l : Nat) (x55 : RW) (x56 x57 h0_1 h0_2 : Int) (h0_3 : RW) (h0_4 h0_5 : Int) (h1_0l h1_1l : Nat) (h4 h5 : RW) (h6_0 : Int) (h6_1 : List UInt8) (h6_2 h7_0 : Int) (h7_1 : Bool) (h7_2 : Int) (h7_3 : List UInt8) (h7_4 : Int) (h7_5 h8 h9 : RW) (r : TV) (Hs' : List AObj) : VQ lv93 93 4 r Hs' 1 ⟨[Q48 0 0 6, Q13 1 x1, Q13 3 x3, Q77 8 6, Q53 9 4 x9, Q48 12 7 6, Q117 14 8 4 0 x14l, Q117 15 9 4 0 x15l, Q53 55 4 x55, Q13 56 x56, Q13 57 x57], [Q19 0 6 (Q52 1 2 0 0 h0_1 h0_2 4 h0_3 h0_4 h0_5), Q61 1 2 4 6 0 h1_0l 5 1 0 h1_1l, Q55 2, Q55 3, Q20 4 6 h4, Q116 5 h5, Q69 6 4 h6_0 h6_1 h6_2, Q19 7 6 (Q122 h7_0 h7_1 h7_2 h7_3 h7_4 (Q8 4 h7_5)), Q20 8 4 h8, Q20 9 4 h9], 10⟩ =
  (br (decide ((x57 : Int) < x56)) (((FV.isSl 4 (Q5 4 x55) = true) ∧ ((0 ≤ x57) ∧ ((x57 < (length x55 : Int)) ∧ (((rE (getD x55 (toNat x57) [])) : List FV) = (getD x55 (toNat x57) []))))) ∧ (∃ z1 : Tm × Bool, ((Q39 94 (Q103 6 (aE (getD x55 (toNat x57) [])) (Q25 x3)) (Q88 (Q72 6 1 2 0 0 h0_1 h0_2 4 h0_3 h0_4 h0_5) 2 h1_0l 3 h1_1l h4 h5) (Q90 (cT z1.1) z1.2) (Q88 (Q72 6 1 2 0 0 h0_1 h0_2 4 h0_3 h0_4 h0_5) 2 h1_0l 3 h1_1l h4 h5)) ∧ (br z1.2 ((FV.isSl 4 (Q5 4 x9) = true) ∧ (∃ z2 : Tm, ((Q57 121 [Q25 (IntKind.wrap .i64 ((IntKind.wrap .i64 ((length x9 : Int) - (1 : Int))) - x57))] (aT z2)) ∧ ((1 ≤ 1) ∧ ((x14l ≤ (length h8) ∧ z0k (x14l + 1) 56) ∧ ((1 ≤ 1) ∧ ((x15l ≤ (length h9) ∧ z0k (x15l + 1) 56) ∧ (Q41 93 4 r Hs' 1 [Q48 0 0 6, Q13 1 x1, Q13 3 x3, Q77 8 6, Q53 9 4 x9, Q48 12 7 6, Q117 14 8 4 0 (x14l + 1), Q117 15 9 4 0 (x15l + 1), Q53 55 4 x55, Q13 56 x56, Q13 57 (IntKind.wrap .i64 (x57 + 1))] [Q19 0 6 (Q52 1 2 0 0 h0_1 h0_2 4 h0_3 h0_4 h0_5), Q61 1 2 4 6 0 h1_0l 5 1 0 h1_1l, Q55 2, Q55 3, Q20 4 6 h4, Q116 5 h5, Q69 6 4 h6_0 h6_1 h6_2, Q19 7 6 (Q122 h7_0 h7_1 h7_2 h7_3 h7_4 (Q8 4 h7_5)), Q20 8 4 ((take x14l h8) ++ [(FT4 z2)]), Q20 9 4 ((take x15l h9) ++ [(FT4 z1.1)])] 10)))))))) (Q41 93 4 r Hs' 1 [Q48 0 0 6, Q13 1 x1, Q13 3 x3, Q77 8 6, Q53 9 4 x9, Q48 12 7 6, Q117 14 8 4 0 x14l, Q117 15 9 4 0 x15l, Q53 55 4 x55, Q13 56 x56, Q13 57 (IntKind.wrap .i64 (x57 + 1))] [Q19 0 6 (Q52 1 2 0 0 h0_1 h0_2 4 h0_3 h0_4 h0_5), Q61 1 2 4 6 0 h1_0l 5 1 0 h1_1l, Q55 2, Q55 3, Q20 4 6 h4, Q116 5 h5, Q69 6 4 h6_0 h6_1 h6_2, Q19 7 6 (Q122 h7_0 h7_1 h7_2 h7_3 h7_4 (Q8 4 h7_5)), Q20 8 4 h8, Q20 9 4 h9] 10))))) ((FV.isSl 4 (Q5 4 x9) = true) ∧ (br (((x14l : Int) : Int) == (length x9 : Int)) (br (decide ((h7_0 : Int) ≤ h0_2)) (∃ z3 : Tm, ((Q57 122 [Q25 x1] (aT z3)) ∧ (((4 : Nat) = 4 ∧ (0 + x15l) ≤ (length h9)) ∧ (∃ z4 : Tm, ((Q57 24 [(aT z3), Q76 4 (take x15l (drop 0 h9))] (aT z4)) ∧ (RT (aT z4) (Q87 (Q72 6 1 2 0 0 h0_1 h0_2 4 h0_3 h0_4 h0_5) (Q86 4 h1_0l 5 h1_1l) .gone (Q33 h4) (Q30 h5)) r Hs')))))) ((FV.isSl 4 (Q5 4 h0_3) = true) ∧ (Q41 93 4 r Hs' 5 [Q48 0 0 6, Q13 1 x1, Q13 3 x3, Q77 8 6, Q53 9 4 x9, Q48 12 7 6, Q117 14 8 4 0 x14l, Q117 15 9 4 0 x15l, Q53 105 4 h0_3, Q13 106 (length h0_3 : Int), Q13 107 0] [Q19 0 6 (Q52 1 2 0 0 h0_1 h0_2 4 h0_3 h0_4 h0_5), Q61 1 2 4 6 0 h1_0l 5 1 0 h1_1l, Q55 2, Q55 3, Q20 4 6 h4, Q116 5 h5, Q69 6 4 h6_0 h6_1 h6_2, Q19 7 6 (Q122 h7_0 h7_1 h7_2 h7_3 h7_4 (Q8 4 h7_5)), Q20 8 4 h8, Q20 9 4 h9] 10))) ((FV.isSl 4 (Q5 4 h0_3) = true) ∧ (Q41 93 4 r Hs' 5 [Q48 0 0 6, Q13 1 x1, Q13 3 x3, Q77 8 6, Q53 9 4 x9, Q48 12 7 6, Q117 14 8 4 0 x14l, Q117 15 9 4 0 x15l, Q53 105 4 h0_3, Q13 106 (length h0_3 : Int), Q13 107 0] [Q19 0 6 (Q52 1 2 0 0 h0_1 h0_2 4 h0_3 h0_4 h0_5), Q61 1 2 4 6 0 h1_0l 5 1 0 h1_1l, Q55 2, Q55 3, Q20 4 6 h4, Q116 5 h5, Q69 6 4 h6_0 h6_1 h6_2, Q19 7 6 (Q122 h7_0 h7_1 h7_2 h7_3 h7_4 (Q8 4 h7_5)), Q20 8 4 h8, Q20 9 4 h9] 10))))) := by kernel_rfl
theorem v93_5a (x1 x3 : Int) (x9 x105 : RW) (x106 x107 h0_1 h0_2 : Int) (h0_3 : RW) (h0_4 h0_5 : Int) (h1_0l h1_1l : Nat) (h4 h5 : RW) (h6_0 : Int) (h6_1 : List UInt8) (h6_2 h7_0 : Int) (h7_1 : Bool) (h7_2 : Int) (h7_3 : List UInt8) (h7_4 : Int) (h7_5 : RW) (r : TV) (Hs' : List AObj) : VQ lv93 93 4 r Hs' 5 ⟨[Q48 0 0 6, Q13 1 x1, Q13 3 x3, Q77 8 6, Q53 9 4 x9, Q48 12 7 6, Q118 14, Q118 15, Q53 105 4 x105, Q13 106 x106, Q13 107 x107], [Q19 0 6 (Q52 1 2 0 0 h0_1 h0_2 4 h0_3 h0_4 h0_5), Q61 1 2 4 6 0 h1_0l 5 1 0 h1_1l, Q55 2, Q55 3, Q20 4 6 h4, Q116 5 h5, Q69 6 4 h6_0 h6_1 h6_2, Q19 7 6 (Q122 h7_0 h7_1 h7_2 h7_3 h7_4 (Q8 4 h7_5))], 8⟩ =
  (br (decide ((x107 : Int) < x106)) (((FV.isSl 4 (Q5 4 x105) = true) ∧ ((0 ≤ x107) ∧ ((x107 < (length x105 : Int)) ∧ (((rE (getD x105 (toNat x107) [])) : List FV) = (getD x105 (toNat x107) []))))) ∧ (br (decide ((h7_0 : Int) > h0_2)) (br (((FV.asI (getD (getD x105 (toNat x107) []) 0 FV.nils)) : Int) == (1 : Int)) (br (decide (((FV.asI (getD (getD x105 (toNat x107) []) 2 FV.nils)) : Int) ≤ h7_0)) ((1 ≤ 1) ∧ ((z0k 1 56) ∧ ((FV.isSl 4 (Q5 4 h0_3) = true) ∧ (∃ z1 : Tm, ((Q57 121 [Q25 (IntKind.wrap .i64 ((IntKind.wrap .i64 ((IntKind.wrap .i64 (x3 + (length h0_3 : Int))) - (1 : Int))) - x107))] (aT z1)) ∧ ((1 ≤ 1) ∧ ((z0k 1 56) ∧ (Q41 93 4 r Hs' 5 [Q48 0 0 6, Q13 1 x1, Q13 3 x3, Q77 8 6, Q53 9 4 x9, Q48 12 7 6, Q117 14 8 4 0 1, Q117 15 9 4 0 1, Q53 105 4 x105, Q13 106 x106, Q13 107 (IntKind.wrap .i64 (x107 + 1))] [Q19 0 6 (Q52 1 2 0 0 h0_1 h0_2 4 h0_3 h0_4 h0_5), Q61 1 2 4 6 0 h1_0l 5 1 0 h1_1l, Q55 2, Q55 3, Q20 4 6 h4, Q116 5 h5, Q69 6 4 h6_0 h6_1 h6_2, Q19 7 6 (Q122 h7_0 h7_1 h7_2 h7_3 h7_4 (Q8 4 h7_5)), Q20 8 4 [(rE (getD x105 (toNat x107) []))], Q20 9 4 [(FT4 z1)]] 10)))))))) (Q41 93 4 r Hs' 5 [Q48 0 0 6, Q13 1 x1, Q13 3 x3, Q77 8 6, Q53 9 4 x9, Q48 12 7 6, Q118 14, Q118 15, Q53 105 4 x105, Q13 106 x106, Q13 107 (IntKind.wrap .i64 (x107 + 1))] [Q19 0 6 (Q52 1 2 0 0 h0_1 h0_2 4 h0_3 h0_4 h0_5), Q61 1 2 4 6 0 h1_0l 5 1 0 h1_1l, Q55 2, Q55 3, Q20 4 6 h4, Q116 5 h5, Q69 6 4 h6_0 h6_1 h6_2, Q19 7 6 (Q122 h7_0 h7_1 h7_2 h7_3 h7_4 (Q8 4 h7_5))] 8)) (Q41 93 4 r Hs' 5 [Q48 0 0 6, Q13 1 x1, Q13 3 x3, Q77 8 6, Q53 9 4 x9, Q48 12 7 6, Q118 14, Q118 15, Q53 105 4 x105, Q13 106 x106, Q13 107 (IntKind.wrap .i64 (x107 + 1))] [Q19 0 6 (Q52 1 2 0 0 h0_1 h0_2 4 h0_3 h0_4 h0_5), Q61 1 2 4 6 0 h1_0l 5 1 0 h1_1l, Q55 2, Q55 3, Q20 4 6 h4, Q116 5 h5, Q69 6 4 h6_0 h6_1 h6_2, Q19 7 6 (Q122 h7_0 h7_1 h7_2 h7_3 h7_4 (Q8 4 h7_5))] 8)) (Q41 93 4 r Hs' 5 [Q48 0 0 6, Q13 1 x1, Q13 3 x3, Q77 8 6, Q53 9 4 x9, Q48 12 7 6, Q118 14, Q118 15, Q53 105 4 x105, Q13 106 x106, Q13 107 (IntKind.wrap .i64 (x107 + 1))] [Q19 0 6 (Q52 1 2 0 0 h0_1 h0_2 4 h0_3 h0_4 h0_5), Q61 1 2 4 6 0 h1_0l 5 1 0 h1_1l, Q55 2, Q55 3, Q20 4 6 h4, Q116 5 h5, Q69 6 4 h6_0 h6_1 h6_2, Q19 7 6 (Q122 h7_0 h7_1 h7_2 h7_3 h7_4 (Q8 4 h7_5))] 8))) ((FV.isSl 4 (Q5 4 x9) = true) ∧ (∃ z2 : Tm × Sto, ((Q11 123 [Q102 2, Q25 x1, Q25 (z1f [h0_2, h7_0]), Q25 (length x9 : Int), .c Q28] (Q44 2 1 6 0 h1_0l 2 1 0 h1_1l h4 h5) (aT z2.1) (Q119 3 (length z2.2.V) 4 (length z2.2.T) (SR z2.2.V) (IR z2.2.T))) ∧ (∃ z3 : Tm, ((Q57 24 (Q115 (aT z2.1) Q28) (aT z3)) ∧ (RT (aT z3) (Q87 (Q72 6 1 2 0 0 h0_1 h0_2 4 h0_3 h0_4 h0_5) (Q86 4 (length z2.2.V) 5 (length z2.2.T)) .gone (Q33 (SR z2.2.V)) (Q30 (IR z2.2.T))) r Hs'))))))) := by kernel_rfl
theorem v93_5b (x1 x3 : Int) (x9 : RW) (x14l x15l : Nat) (x105 : RW) (x106 x107 h0_1 h0_2 : Int) (h0_3 : RW) (h0_4 h0_5 : Int) (h1_0l h1_1l : Nat) (h4 h5 : RW) (h6_0 : Int) (h6_1 : List UInt8) (h6_2 h7_0 : Int) (h7_1 : Bool) (h7_2 : Int) (h7_3 : List UInt8) (h7_4 : Int) (h7_5 h8 h9 : RW) (r : TV) (Hs' : List AObj) : VQ lv93 93 4 r Hs' 5 ⟨[Q48 0 0 6, Q13 1 x1, Q13 3 x3, Q77 8 6, Q53 9 4 x9, Q48 12 7 6, Q117 14 8 4 0 x14l, Q117 15 9 4 0 x15l, Q53 105 4 x105, Q13 106 x106, Q13 107 x107], [Q19 0 6 (Q52 1 2 0 0 h0_1 h0_2 4 h0_3 h0_4 h0_5), Q61 1 2 4 6 0 h1_0l 5 1 0 h1_1l, Q55 2, Q55 3, Q20 4 6 h4, Q116 5 h5, Q69 6 4 h6_0 h6_1 h6_2, Q19 7 6 (Q122 h7_0 h7_1 h7_2 h7_3 h7_4 (Q8 4 h7_5)), Q20 8 4 h8, Q20 9 4 h9], 10⟩ =
  (br (decide ((x107 : Int) < x106)) (((FV.isSl 4 (Q5 4 x105) = true) ∧ ((0 ≤ x107) ∧ ((x107 < (length x105 : Int)) ∧ (((rE (getD x105 (toNat x107) [])) : List FV) = (getD x105 (toNat x107) []))))) ∧ (br (decide ((h7_0 : Int) > h0_2)) (br (((FV.asI (getD (getD x105 (toNat x107) []) 0 FV.nils)) : Int) == (1 : Int)) (br (decide (((FV.asI (getD (getD x105 (toNat x107) []) 2 FV.nils)) : Int) ≤ h7_0)) ((1 ≤ 1) ∧ ((x14l ≤ (length h8) ∧ z0k (x14l + 1) 56) ∧ ((FV.isSl 4 (Q5 4 h0_3) = true) ∧ (∃ z1 : Tm, ((Q57 121 [Q25 (IntKind.wrap .i64 ((IntKind.wrap .i64 ((IntKind.wrap .i64 (x3 + (length h0_3 : Int))) - (1 : Int))) - x107))] (aT z1)) ∧ ((1 ≤ 1) ∧ ((x15l ≤ (length h9) ∧ z0k (x15l + 1) 56) ∧ (Q41 93 4 r Hs' 5 [Q48 0 0 6, Q13 1 x1, Q13 3 x3, Q77 8 6, Q53 9 4 x9, Q48 12 7 6, Q117 14 8 4 0 (x14l + 1), Q117 15 9 4 0 (x15l + 1), Q53 105 4 x105, Q13 106 x106, Q13 107 (IntKind.wrap .i64 (x107 + 1))] [Q19 0 6 (Q52 1 2 0 0 h0_1 h0_2 4 h0_3 h0_4 h0_5), Q61 1 2 4 6 0 h1_0l 5 1 0 h1_1l, Q55 2, Q55 3, Q20 4 6 h4, Q116 5 h5, Q69 6 4 h6_0 h6_1 h6_2, Q19 7 6 (Q122 h7_0 h7_1 h7_2 h7_3 h7_4 (Q8 4 h7_5)), Q20 8 4 ((take x14l h8) ++ [(rE (getD x105 (toNat x107) []))]), Q20 9 4 ((take x15l h9) ++ [(FT4 z1)])] 10)))))))) (Q41 93 4 r Hs' 5 [Q48 0 0 6, Q13 1 x1, Q13 3 x3, Q77 8 6, Q53 9 4 x9, Q48 12 7 6, Q117 14 8 4 0 x14l, Q117 15 9 4 0 x15l, Q53 105 4 x105, Q13 106 x106, Q13 107 (IntKind.wrap .i64 (x107 + 1))] [Q19 0 6 (Q52 1 2 0 0 h0_1 h0_2 4 h0_3 h0_4 h0_5), Q61 1 2 4 6 0 h1_0l 5 1 0 h1_1l, Q55 2, Q55 3, Q20 4 6 h4, Q116 5 h5, Q69 6 4 h6_0 h6_1 h6_2, Q19 7 6 (Q122 h7_0 h7_1 h7_2 h7_3 h7_4 (Q8 4 h7_5)), Q20 8 4 h8, Q20 9 4 h9] 10)) (Q41 93 4 r Hs' 5 [Q48 0 0 6, Q13 1 x1, Q13 3 x3, Q77 8 6, Q53 9 4 x9, Q48 12 7 6, Q117 14 8 4 0 x14l, Q117 15 9 4 0 x15l, Q53 105 4 x105, Q13 106 x106, Q13 107 (IntKind.wrap .i64 (x107 + 1))] [Q19 0 6 (Q52 1 2 0 0 h0_1 h0_2 4 h0_3 h0_4 h0_5), Q61 1 2 4 6 0 h1_0l 5 1 0 h1_1l, Q55 2, Q55 3, Q20 4 6 h4, Q116 5 h5, Q69 6 4 h6_0 h6_1 h6_2, Q19 7 6 (Q122 h7_0 h7_1 h7_2 h7_3 h7_4 (Q8 4 h7_5)), Q20 8 4 h8, Q20 9 4 h9] 10)) (Q41 93 4 r Hs' 5 [Q48 0 0 6, Q13 1 x1, Q13 3 x3, Q77 8 6, Q53 9 4 x9, Q48 12 7 6, Q117 14 8 4 0 x14l, Q117 15 9 4 0 x15l, Q53 105 4 x105, Q13 106 x106, Q13 107 (IntKind.wrap .i64 (x107 + 1))] [Q19 0 6 (Q52 1 2 0 0 h0_1 h0_2 4 h0_3 h0_4 h0_5), Q61 1 2 4 6 0 h1_0l 5 1 0 h1_1l, Q55 2, Q55 3, Q20 4 6 h4, Q116 5 h5, Q69 6 4 h6_0 h6_1 h6_2, Q19 7 6 (Q122 h7_0 h7_1 h7_2 h7_3 h7_4 (Q8 4 h7_5)), Q20 8 4 h8, Q20 9 4 h9] 10))) ((FV.isSl 4 (Q5 4 x9) = true) ∧ (((4 : Nat) = 4 ∧ (0 + x14l) ≤ (length h8)) ∧ (∃ z2 : Tm × Sto, ((Q11 123 [Q102 2, Q25 x1, Q25 (z1f [h0_2, h7_0]), Q25 (length x9 : Int), Q76 4 (take x14l (drop 0 h8))] (Q44 2 1 6 0 h1_0l 2 1 0 h1_1l h4 h5) (aT z2.1) (Q119 3 (length z2.2.V) 4 (length z2.2.T) (SR z2.2.V) (IR z2.2.T))) ∧ (((4 : Nat) = 4 ∧ (0 + x15l) ≤ (length h9)) ∧ (∃ z3 : Tm, ((Q57 24 [(aT z2.1), Q76 4 (take x15l (drop 0 h9))] (aT z3)) ∧ (RT (aT z3) (Q87 (Q72 6 1 2 0 0 h0_1 h0_2 4 h0_3 h0_4 h0_5) (Q86 4 (length z2.2.V) 5 (length z2.2.T)) .gone (Q33 (SR z2.2.V)) (Q30 (IR z2.2.T))) r Hs'))))))))) := by kernel_rfl
def lv94 : List (Nat × List Nat) := []
theorem v94 (t_0 : Int) (t_1 : List UInt8) (t_2 : Int) (t_3 : RW) (k o0_1 o0_2 : Int) (o0_3 : RW) (o0_4 o0_5 : Int) (o1_0l o1_1l : Nat) (o2 o3 : RW) (r : TV) (Hs' : List AObj) : VE lv94 94 4 r Hs' (Q103 6 (Q67 t_0 t_1 t_2 t_3) (Q25 k)) (Q88 (Q72 6 1 2 0 0 o0_1 o0_2 4 o0_3 o0_4 o0_5) 2 o1_0l 3 o1_1l o2 o3) =
  (br ((t_0 : Int) == (3 : Int)) (br (decide ((t_2 : Int) < k)) (Q42 (Q90 (Q17 t_0 t_1 t_2 4 t_3) true) (Q88 (Q72 6 1 2 0 0 o0_1 o0_2 4 o0_3 o0_4 o0_5) 2 o1_0l 3 o1_1l o2 o3) r Hs') (br ((t_0 : Int) == (3 : Int)) (∃ z1 : Int, ((Q11 83 (Q115 (Q76 4 o0_3) (.fn (.func 124) [] [(false, [(Q81 4)])])) [Q98 4 t_0 t_1 (IntKind.wrap .i64 (t_2 - k)) 4 t_3] (Q25 z1) [Q98 4 t_0 t_1 (IntKind.wrap .i64 (t_2 - k)) 4 t_3]) ∧ (br (decide ((z1 : Int) ≥ (0 : Int))) ((FV.isSl 4 (Q5 4 o0_3) = true) ∧ (∃ z2 : Tm, ((Q57 121 [Q25 (IntKind.wrap .i64 ((IntKind.wrap .i64 ((IntKind.wrap .i64 (k + (length o0_3 : Int))) - (1 : Int))) - z1))] (aT z2)) ∧ (Q42 (Q90 (cT z2) true) (Q88 (Q72 6 1 2 0 0 o0_1 o0_2 4 o0_3 o0_4 o0_5) 2 o1_0l 3 o1_1l o2 o3) r Hs')))) (br ((t_0 : Int) == (1 : Int)) (Q42 (Q90 (Q17 t_0 t_1 t_2 4 t_3) (decide ((t_2 : Int) ≤ o0_2))) (Q88 (Q72 6 1 2 0 0 o0_1 o0_2 4 o0_3 o0_4 o0_5) 2 o1_0l 3 o1_1l o2 o3) r Hs') (Q42 (Q90 (Q17 t_0 t_1 t_2 4 t_3) false) (Q88 (Q72 6 1 2 0 0 o0_1 o0_2 4 o0_3 o0_4 o0_5) 2 o1_0l 3 o1_1l o2 o3) r Hs'))))) (∃ z3 : Int, ((Q11 83 (Q115 (Q76 4 o0_3) (.fn (.func 124) [] [(false, [(Q81 4)])])) [Q98 4 t_0 t_1 t_2 4 t_3] (Q25 z3) [Q98 4 t_0 t_1 t_2 4 t_3]) ∧ (br (decide ((z3 : Int) ≥ (0 : Int))) ((FV.isSl 4 (Q5 4 o0_3) = true) ∧ (∃ z4 : Tm, ((Q57 121 [Q25 (IntKind.wrap .i64 ((IntKind.wrap .i64 ((IntKind.wrap .i64 (k + (length o0_3 : Int))) - (1 : Int))) - z3))] (aT z4)) ∧ (Q42 (Q90 (cT z4) true) (Q88 (Q72 6 1 2 0 0 o0_1 o0_2 4 o0_3 o0_4 o0_5) 2 o1_0l 3 o1_1l o2 o3) r Hs')))) (br ((t_0 : Int) == (1 : Int)) (Q42 (Q90 (Q17 t_0 t_1 t_2 4 t_3) (decide ((t_2 : Int) ≤ o0_2))) (Q88 (Q72 6 1 2 0 0 o0_1 o0_2 4 o0_3 o0_4 o0_5) 2 o1_0l 3 o1_1l o2 o3) r Hs') (Q42 (Q90 (Q17 t_0 t_1 t_2 4 t_3) false) (Q88 (Q72 6 1 2 0 0 o0_1 o0_2 4 o0_3 o0_4 o0_5) 2 o1_0l 3 o1_1l o2 o3) r Hs'))))))) (br ((t_0 : Int) == (3 : Int)) (∃ z5 : Int, ((Q11 83 (Q115 (Q76 4 o0_3) (.fn (.func 124) [] [(false, [(Q81 4)])])) [Q98 4 t_0 t_1 (IntKind.wrap .i64 (t_2 - k)) 4 t_3] (Q25 z5) [Q98 4 t_0 t_1 (IntKind.wrap .i64 (t_2 - k)) 4 t_3]) ∧ (br (decide ((z5 : Int) ≥ (0 : Int))) ((FV.isSl 4 (Q5 4 o0_3) = true) ∧ (∃ z6 : Tm, ((Q57 121 [Q25 (IntKind.wrap .i64 ((IntKind.wrap .i64 ((IntKind.wrap .i64 (k + (length o0_3 : Int))) - (1 : Int))) - z5))] (aT z6)) ∧ (Q42 (Q90 (cT z6) true) (Q88 (Q72 6 1 2 0 0 o0_1 o0_2 4 o0_3 o0_4 o0_5) 2 o1_0l 3 o1_1l o2 o3) r Hs')))) (br ((t_0 : Int) == (1 : Int)) (Q42 (Q90 (Q17 t_0 t_1 t_2 4 t_3) (decide ((t_2 : Int) ≤ o0_2))) (Q88 (Q72 6 1 2 0 0 o0_1 o0_2 4 o0_3 o0_4 o0_5) 2 o1_0l 3 o1_1l o2 o3) r Hs') (Q42 (Q90 (Q17 t_0 t_1 t_2 4 t_3) false) (Q88 (Q72 6 1 2 0 0 o0_1 o0_2 4 o0_3 o0_4 o0_5) 2 o1_0l 3 o1_1l o2 o3) r Hs'))))) (∃ z7 : Int, ((Q11 83 (Q115 (Q76 4 o0_3) (.fn (.func 124) [] [(false, [(Q81 4)])])) [Q98 4 t_0 t_1 t_2 4 t_3] (Q25 z7) [Q98 4 t_0 t_1 t_2 4 t_3]) ∧ (br (decide ((z7 : Int) ≥ (0 : Int))) ((FV.isSl 4 (Q5 4 o0_3) = true) ∧ (∃ z8 : Tm, ((Q57 121 [Q25 (IntKind.wrap .i64 ((IntKind.wrap .i64 ((IntKind.wrap .i64 (k + (length o0_3 : Int))) - (1 : Int))) - z7))] (aT z8)) ∧ (Q42 (Q90 (cT z8) true) (Q88 (Q72 6 1 2 0 0 o0_1 o0_2 4 o0_3 o0_4 o0_5) 2 o1_0l 3 o1_1l o2 o3) r Hs')))) (br ((t_0 : Int) == (1 : Int)) (Q42 (Q90 (Q17 t_0 t_1 t_2 4 t_3) (decide ((t_2 : Int) ≤ o0_2))) (Q88 (Q72 6 1 2 0 0 o0_1 o0_2 4 o0_3 o0_4 o0_5) 2 o1_0l 3 o1_1l o2 o3) r Hs') (Q42 (Q90 (Q17 t_0 t_1 t_2 4 t_3) false) (Q88 (Q72 6 1 2 0 0 o0_1 o0_2 4 o0_3 o0_4 o0_5) 2 o1_0l 3 o1_1l o2 o3) r Hs'))))))) := by kernel_rfl
def lv95 : List (Nat × List Nat) := []
theorem v95 (s : List UInt8) (r : TV) (Hs' : List AObj) : VE lv95 95 0 r Hs' [.c (Q6 s)] [] =
  (br (!((s : List UInt8) == [])) (Q58 (decide (((length s : Int) : Int) ≤ (32 : Int))) r Hs') (Q62 r Hs')) := by kernel_rfl
def lv96 : List (Nat × List Nat) := []
theorem v96 (c : Int) (r : TV) (Hs' : List AObj) : VE lv96 96 0 r Hs' [.c (Q0 (.int .u8 c))] [] =
  (br (decide (((97 : Int) : Int) ≤ c)) (Q58 (decide ((c : Int) ≤ (122 : Int))) r Hs') (Q62 r Hs')) := by kernel_rfl
def lv97 : List (Nat × List Nat) := [(1, [0, 1, 7, 8])]
theorem v97_F98 (s : List UInt8) (r : TV) (Hs' : List AObj) : VE lv97 97 0 r Hs' (Q115 (.c (Q6 s)) (.fn (.func 98) [] [])) [] =
  (Q41 97 0 r Hs' 1 (Q65 (Q4 0 (Q6 s)) (Q4 1 (.fn (.func 98) [] [])) (Q110 (length s : Int)) 8 0) [] 0) := by kernel_rfl
theorem zf2 (x0 : List UInt8) (x7 x8 : Int) (r : TV) (Hs' : List AObj) : VQ lv97 97 0 r Hs' 1 ⟨Q65 (Q4 0 (Q6 x0)) (Q4 1 (.fn (.func 98) [] [])) (Q110 x7) 8 x8, [], 0⟩ =
  (br (decide ((x8 : Int) < x7)) ((0 ≤ x8 ∧ x8 < (length x0 : Int)) ∧ (∃ b1 : Bool, ((Q60 98 [.c (Q0 (.int .u8 ((UInt8.toNat (getD x0 (toNat x8) 0) : Nat) : Int)))] b1) ∧ (br (!b1) (Q96 x8 [] r Hs') (Q41 97 0 r Hs' 1 (Q65 (Q4 0 (Q6 x0)) (Q4 1 (.fn (.func 98) [] [])) (Q110 x7) 8 (IntKind.wrap .i64 (x8 + 1))) [] 0))))) (Q96 (length x0 : Int) [] r Hs')) := by kernel_rfl
theorem v97_F99 (s : List UInt8) (r : TV) (Hs' : List AObj) : VE lv97 97 0 r Hs' (Q115 (.c (Q6 s)) (.fn (.func 99) [] [])) [] =
  (Q41 97 0 r Hs' 1 (Q65 (Q4 0 (Q6 s)) (Q4 1 (.fn (.func 99) [] [])) (Q110 (length s : Int)) 8 0) [] 0) := by kernel_rfl
theorem zea (x0 : List UInt8) (x7 x8 : Int) (r : TV) (Hs' : List AObj) : VQ lv97 97 0 r Hs' 1 ⟨Q65 (Q4 0 (Q6 x0)) (Q4 1 (.fn (.func 99) [] [])) (Q110 x7) 8 x8, [], 0⟩ =
  (br (decide ((x8 : Int) < x7)) ((0 ≤ x8 ∧ x8 < (length x0 : Int)) ∧ (∃ b1 : Bool, ((Q60 99 [.c (Q0 (.int .u8 ((UInt8.toNat (getD x0 (toNat x8) 0) : Nat) : Int)))] b1) ∧ (br (!b1) (Q96 x8 [] r Hs') (Q41 97 0 r Hs' 1 (Q65 (Q4 0 (Q6 x0)) (Q4 1 (.fn (.func 99) [] [])) (Q110 x7) 8 (IntKind.wrap .i64 (x8 + 1))) [] 0))))) (Q96 (length x0 : Int) [] r Hs')) := by kernel_rfl
def lv100 : List (Nat × List Nat) := []
theorem v100 (s substr : List UInt8) (r : TV) (Hs' : List AObj) : VE lv100 100 0 r Hs' (Q115 (.c (Q6 s)) (Q6 substr)) [] =
  (∃ n1 : Int, ((Q57 128 (Q115 (.c (Q6 s)) (Q6 substr)) (Q25 n1)) ∧ (Q58 (decide ((n1 : Int) ≥ (0 : Int))) r Hs'))) := by kernel_rfl
theorem v83_F66 (s : RW) (r : TV) (Hs' : List AObj) : VE lv83 83 0 r Hs' (Q115 (Q76 4 s) (.fn (.func 66) [] [])) [] =
  ((FV.isSl 4 (Q5 4 s) = true) ∧ (Q41 83 0 r Hs' 1 (Q65 (Q53 0 4 s) (Q4 1 (.fn (.func 66) [] [])) (Q110 (length s : Int)) 8 0) [] 0)) := by kernel_rfl
theorem zf6 (x0 : RW) (x7 x8 : Int) (r : TV) (Hs' : List AObj) : VQ lv83 83 0 r Hs' 1 ⟨Q65 (Q53 0 4 x0) (Q4 1 (.fn (.func 66) [] [])) (Q110 x7) 8 x8, [], 0⟩ =
  (br (decide ((x8 : Int) < x7)) (((FV.isSl 4 (Q5 4 x0) = true) ∧ ((0 ≤ x8) ∧ ((x8 < (length x0 : Int)) ∧ (((rE (getD x0 (toNat x8) [])) : List FV) = (getD x0 (toNat x8) []))))) ∧ (∃ b1 : Bool, ((Q60 66 [(aE (getD x0 (toNat x8) []))] b1) ∧ (br b1 (Q96 x8 [] r Hs') (Q41 83 0 r Hs' 1 (Q65 (Q53 0 4 x0) (Q4 1 (.fn (.func 66) [] [])) (Q110 x7) 8 (IntKind.wrap .i64 (x8 + 1))) [] 0))))) (Q96 (-1 : Int) [] r Hs')) := by kernel_rfl
def lv68 : List (Nat × List Nat) := [(1, [0, 2, 4, 6, 9, 36, 37])]
theorem v68 (t_0 : Int) (t_1 : List UInt8) (t_2 : Int) (t_3 : RW) (o0_0l o0_1l : Nat) (o1 o2 : RW) (o3_0 : Int) (r : TV) (Hs' : List AObj) : VE lv68 68 4 r Hs' (Q103 2 (Q67 t_0 t_1 t_2 t_3) (Q101 3 1)) [Q86 1 o0_0l 2 o0_1l, Q33 o1, Q30 o2, Q91 o3_0] =
  (br (decide ((o3_0 : Int) ≤ (0 : Int))) (Q42 (Q54 (Q45 0 [] 0) (Q32 80)) [Q86 1 o0_0l 2 o0_1l, Q33 o1, Q30 o2, Q91 o3_0] r Hs') (∃ z1 : Tm × Int × Int, ((Q39 101 (Q103 2 (Q67 t_0 t_1 t_2 t_3) (Q101 3 1)) [Q86 1 o0_0l 2 o0_1l, Q33 o1, Q30 o2, Q91 (IntKind.wrap .i64 (o3_0 - 1))] (Q54 (cT z1.1) (Q32 z1.2.1)) [Q86 1 o0_0l 2 o0_1l, Q33 o1, Q30 o2, Q91 z1.2.2]) ∧ (br ((z1.2.1 : Int) != (0 : Int)) (Q42 (Q54 (Q45 0 [] 0) (Q32 z1.2.1)) [Q86 1 o0_0l 2 o0_1l, Q33 o1, Q30 o2, Q91 z1.2.2] r Hs') ((∃ z2 : Bool, ((Q57 102 [Q76 4 (FTs z1.1.l)] (.c (Q0 (.sl z2 4 [])))) ∧ ((FV.isSl 4 (.sl z2 4 []) = true) ∧ (Q41 68 4 r Hs' 1 [Q48 0 0 2, Q48 2 3 1, Q77 4 4, Q77 6 5, Q68 9 (.sl z2 4 []), Q13 36 0, Q13 37 0] [Q61 0 2 1 6 0 o0_0l 2 1 0 o0_1l, Q20 1 6 o1, Q116 2 o2, Q95 3 1 z1.2.2, Q19 4 4 (cT z1.1), Q69 5 4 0 [] 0] 6)))) ∨ (∃ z3 : RW, ((Q56 102 [Q76 4 (FTs z1.1.l)] (.c (Q3 0 4 0 (length z3))) [.arz 4 z3]) ∧ (Q41 68 4 r Hs' 1 [Q48 0 0 2, Q48 2 3 1, Q77 4 4, Q77 6 5, Q117 9 6 4 0 (length z3), Q13 36 (length z3 : Int), Q13 37 0] [Q61 0 2 1 6 0 o0_0l 2 1 0 o0_1l, Q20 1 6 o1, Q116 2 o2, Q95 3 1 z1.2.2, Q19 4 4 (cT z1.1), Q69 5 4 0 [] 0, Q20 6 4 z3] 7)))))))) := by kernel_rfl
theorem v68_1a (x9n : Bool) (x9 : RW) (x36 x37 : Int) (h0_0l h0_1l : Nat) (h1 h2 : RW) (h3_0 h4_0 : Int) (h4_1 : List UInt8) (h4_2 : Int) (h4_3 : RW) (h5_0 : Int) (h5_1 : List UInt8) (h5_2 : Int) (r : TV) (Hs' : List AObj) : VQ lv68 68 4 r Hs' 1 ⟨[Q48 0 0 2, Q48 2 3 1, Q77 4 4, Q77 6 5, Q68 9 (.sl x9n 4 x9), Q13 36 x36, Q13 37 x37], [Q61 0 2 1 6 0 h0_0l 2 1 0 h0_1l, Q20 1 6 h1, Q116 2 h2, Q95 3 1 h3_0, Q51 4 4 h4_0 h4_1 h4_2 4 h4_3, Q69 5 4 h5_0 h5_1 h5_2], 6⟩ =
  (br (decide ((x37 : Int) < x36)) (br ((h4_0 : Int) == (6 : Int)) (br ((x37 : Int) == (0 : Int)) (Q41 68 4 r Hs' 1 [Q48 0 0 2, Q48 2 3 1, Q77 4 4, Q77 6 5, Q68 9 (.sl x9n 4 x9), Q13 36 x36, Q13 37 (IntKind.wrap .i64 (x37 + 1))] [Q61 0 2 1 6 0 h0_0l 2 1 0 h0_1l, Q20 1 6 h1, Q116 2 h2, Q95 3 1 h3_0, Q51 4 4 h4_0 h4_1 h4_2 4 h4_3, Q69 5 4 h5_0 h5_1 h5_2] 6) (((FV.isSl 4 (.sl x9n 4 x9) = true) ∧ ((0 ≤ x37) ∧ ((x37 < (length x9 : Int)) ∧ (((rE (getD x9 (toNat x37) [])) : List FV) = (getD x9 (toNat x37) []))))) ∧ (∃ z1 : Tm × Int × Int, ((Q39 68 (Q103 2 (aE (getD x9 (toNat x37) [])) (Q101 3 1)) [Q86 1 h0_0l 2 h0_1l, Q33 h1, Q30 h2, Q91 h3_0] (Q54 (cT z1.1) (Q32 z1.2.1)) [Q86 1 h0_0l 2 h0_1l, Q33 h1, Q30 h2, Q91 z1.2.2]) ∧ (((FV.isSl 4 (.sl x9n 4 x9) = true) ∧ ((0 ≤ x37) ∧ ((x37 < (length x9 : Int)) ∧ (((rE (getD x9 (toNat x37) [])) : List FV) = (getD x9 (toNat x37) []))))) ∧ False))))) (((FV.isSl 4 (.sl x9n 4 x9) = true) ∧ ((0 ≤ x37) ∧ ((x37 < (length x9 : Int)) ∧ (((rE (getD x9 (toNat x37) [])) : List FV) = (getD x9 (toNat x37) []))))) ∧ (∃ z2 : Tm × Int × Int, ((Q39 68 (Q103 2 (aE (getD x9 (toNat x37) [])) (Q101 3 1)) [Q86 1 h0_0l 2 h0_1l, Q33 h1, Q30 h2, Q91 h3_0] (Q54 (cT z2.1) (Q32 z2.2.1)) [Q86 1 h0_0l 2 h0_1l, Q33 h1, Q30 h2, Q91 z2.2.2]) ∧ (((FV.isSl 4 (.sl x9n 4 x9) = true) ∧ ((0 ≤ x37) ∧ ((x37 < (length x9 : Int)) ∧ (((rE (getD x9 (toNat x37) [])) : List FV) = (getD x9 (toNat x37) []))))) ∧ False))))) (Q42 (Q54 (Q15 h4_0 h4_1 h4_2 (Q0 (.sl x9n 4 x9))) (Q32 0)) [Q86 1 h0_0l 2 h0_1l, Q33 h1, Q30 h2, Q91 h3_0] r Hs')) := by kernel_rfl
theorem v68_1b (x9l : Nat) (x36 x37 : Int) (h0_0l h0_1l : Nat) (h1 h2 : RW) (h3_0 h4_0 : Int) (h4_1 : List UInt8) (h4_2 : Int) (h4_3 : RW) (h5_0 : Int) (h5_1 : List UInt8) (h5_2 : Int) (h6 : RW) (r : TV) (Hs' : List AObj) : VQ lv68 68 4 r Hs' 1 ⟨[Q48 0 0 2, Q48 2 3 1, Q77 4 4, Q77 6 5, Q117 9 6 4 0 x9l, Q13 36 x36, Q13 37 x37], [Q61 0 2 1 6 0 h0_0l 2 1 0 h0_1l, Q20 1 6 h1, Q116 2 h2, Q95 3 1 h3_0, Q51 4 4 h4_0 h4_1 h4_2 4 h4_3, Q69 5 4 h5_0 h5_1 h5_2, Q20 6 4 h6], 7⟩ =
  (br (decide ((x37 : Int) < x36)) (br ((h4_0 : Int) == (6 : Int)) (br ((x37 : Int) == (0 : Int)) (Q41 68 4 r Hs' 1 [Q48 0 0 2, Q48 2 3 1, Q77 4 4, Q77 6 5, Q117 9 6 4 0 x9l, Q13 36 x36, Q13 37 (IntKind.wrap .i64 (x37 + 1))] [Q61 0 2 1 6 0 h0_0l 2 1 0 h0_1l, Q20 1 6 h1, Q116 2 h2, Q95 3 1 h3_0, Q51 4 4 h4_0 h4_1 h4_2 4 h4_3, Q69 5 4 h5_0 h5_1 h5_2, Q20 6 4 h6] 7) ((0 ≤ x37 ∧ x37 < (x9l : Int)) ∧ ((((0 + (toNat x37)) < (length h6)) ∧ ((((rE (getD h6 (0 + (toNat x37)) [])) : List FV) = (take 4 (drop 0 (getD h6 (0 + (toNat x37)) [])))) ∧ ((4 : Nat) = 4))) ∧ (∃ z1 : Tm × Int × Int, ((Q39 68 (Q103 2 (aE (getD h6 (0 + (toNat x37)) [])) (Q101 3 1)) [Q86 1 h0_0l 2 h0_1l, Q33 h1, Q30 h2, Q91 h3_0] (Q54 (cT z1.1) (Q32 z1.2.1)) [Q86 1 h0_0l 2 h0_1l, Q33 h1, Q30 h2, Q91 z1.2.2]) ∧ ((0 ≤ x37 ∧ x37 < (x9l : Int)) ∧ (((0 + (toNat x37)) < (length h6) ∧ (length (getD h6 (0 + (toNat x37)) [])) = 4) ∧ (br ((z1.2.1 : Int) != (0 : Int)) (Q42 (Q54 (Q45 0 [] 0) (Q32 z1.2.1)) [Q86 1 h0_0l 2 h0_1l, Q33 h1, Q30 h2, Q91 z1.2.2] r Hs') (Q41 68 4 r Hs' 1 [Q48 0 0 2, Q48 2 3 1, Q77 4 4, Q77 6 5, Q117 9 6 4 0 x9l, Q13 36 x36, Q13 37 (IntKind.wrap .i64 (x37 + 1))] [Q61 0 2 1 6 0 h0_0l 2 1 0 h0_1l, Q20 1 6 h1, Q116 2 h2, Q95 3 1 z1.2.2, Q51 4 4 h4_0 h4_1 h4_2 4 h4_3, Q69 5 4 h5_0 h5_1 h5_2, Q20 6 4 (List.set h6 (0 + (toNat x37)) (FT4 z1.1))] 7))))))))) ((0 ≤ x37 ∧ x37 < (x9l : Int)) ∧ ((((0 + (toNat x37)) < (length h6)) ∧ ((((rE (getD h6 (0 + (toNat x37)) [])) : List FV) = (take 4 (drop 0 (getD h6 (0 + (toNat x37)) [])))) ∧ ((4 : Nat) = 4))) ∧ (∃ z2 : Tm × Int × Int, ((Q39 68 (Q103 2 (aE (getD h6 (0 + (toNat x37)) [])) (Q101 3 1)) [Q86 1 h0_0l 2 h0_1l, Q33 h1, Q30 h2, Q91 h3_0] (Q54 (cT z2.1) (Q32 z2.2.1)) [Q86 1 h0_0l 2 h0_1l, Q33 h1, Q30 h2, Q91 z2.2.2]) ∧ ((0 ≤ x37 ∧ x37 < (x9l : Int)) ∧ (((0 + (toNat x37)) < (length h6) ∧ (length (getD h6 (0 + (toNat x37)) [])) = 4) ∧ (br ((z2.2.1 : Int) != (0 : Int)) (Q42 (Q54 (Q45 0 [] 0) (Q32 z2.2.1)) [Q86 1 h0_0l 2 h0_1l, Q33 h1, Q30 h2, Q91 z2.2.2] r Hs') (Q41 68 4 r Hs' 1 [Q48 0 0 2, Q48 2 3 1, Q77 4 4, Q77 6 5, Q117 9 6 4 0 x9l, Q13 36 x36, Q13 37 (IntKind.wrap .i64 (x37 + 1))] [Q61 0 2 1 6 0 h0_0l 2 1 0 h0_1l, Q20 1 6 h1, Q116 2 h2, Q95 3 1 z2.2.2, Q51 4 4 h4_0 h4_1 h4_2 4 h4_3, Q69 5 4 h5_0 h5_1 h5_2, Q20 6 4 (List.set h6 (0 + (toNat x37)) (FT4 z2.1))] 7))))))))) ((((4 : Nat) = 4 ∧ (0 + x9l) ≤ (length h6)) ∧ True) ∧ (Q42 (Q54 (Q17 h4_0 h4_1 h4_2 4 (take x9l (drop 0 h6))) (Q32 0)) [Q86 1 h0_0l 2 h0_1l, Q33 h1, Q30 h2, Q91 h3_0] r Hs'))) := by kernel_rfl
def lv69 : List (Nat × List Nat) := []
theorem v69 (u_0 : Int) (u_1 : List UInt8) (u_2 : Int) (u_3 : RW) (k o0_0 : Int) (r : TV) (Hs' : List AObj) : VE lv69 69 1 r Hs' (Q59 (Q67 u_0 u_1 u_2 u_3) k (Q102 1)) [Q91 o0_0] =
  (br ((u_0 : Int) == (3 : Int)) (Q42 [] [Q91 (z0i [o0_0, (IntKind.wrap .i64 ((IntKind.wrap .i64 (u_2 - k)) + (1 : Int)))])] r Hs') (Q42 [] [Q91 o0_0] r Hs')) := by kernel_rfl
def lv103 : List (Nat × List Nat) := []
theorem v103 (n : Int) (r : TV) (Hs' : List AObj) : VE lv103 103 0 r Hs' (Q78 (.c Q28) n) [] =
  (br (decide ((n : Int) < (0 : Int))) False ((FV.isSl 4 .nils = true) ∧ (br (decide (((IntKind.wrap .i64 (n - 0)) : Int) > (0 : Int))) ((FV.isSl 4 .nils = true) ∧ (((0 ≤ (0 : Int)) ∧ (((0 : Int) ≤ (0 : Int)) ∧ ((0 : Int) ≤ ((0 : Nat) : Int)))) ∧ ((0 < (IntKind.wrap .i64 (n - 0)) ∧ z0k (toNat (IntKind.wrap .i64 (n - 0))) 56) ∧ ((FV.isSl 4 .nils = true) ∧ (((0 ≤ (0 : Int)) ∧ (((0 : Int) ≤ (0 : Int)) ∧ ((0 : Int) ≤ (((toNat (IntKind.wrap .i64 (n - 0))) : Nat) : Int)))) ∧ (RT (.c (Q3 0 4 0 0)) [.arz 4 []] r Hs')))))) (RT (.c Q28) [] r Hs')))) := by kernel_rfl
def lv104 : List (Nat × List Nat) := []
theorem v104 (body_0 : Int) (body_1 : List UInt8) (body_2 : Int) (body_3 : RW) (r : TV) (Hs' : List AObj) : VE lv104 104 0 r Hs' [Q67 body_0 body_1 body_2 body_3] [] =
  ((FV.isSl 4 (Q5 4 body_3) = true) ∧ (br ((body_0 : Int) != (6 : Int)) (Q42 (Q90 (Q45 0 [] 0) false) [] r Hs') (((FV.isSl 4 (Q5 4 body_3) = true) ∧ ((0 ≤ (IntKind.wrap .i64 ((length body_3 : Int) - (1 : Int)))) ∧ (((IntKind.wrap .i64 ((length body_3 : Int) - (1 : Int))) < (length body_3 : Int)) ∧ (((rE (getD body_3 (toNat (IntKind.wrap .i64 ((length body_3 : Int) - (1 : Int)))) [])) : List FV) = (getD body_3 (toNat (IntKind.wrap .i64 ((length body_3 : Int) - (1 : Int)))) []))))) ∧ (br (((FV.asI (getD (getD body_3 (toNat (IntKind.wrap .i64 ((length body_3 : Int) - (1 : Int)))) []) 0 FV.nils)) : Int) != (3 : Int)) (Q42 (Q90 (Q45 0 [] 0) false) [] r Hs') (((FV.isSl 4 (Q5 4 body_3) = true) ∧ ((0 ≤ (IntKind.wrap .i64 ((length body_3 : Int) - (1 : Int)))) ∧ (((IntKind.wrap .i64 ((length body_3 : Int) - (1 : Int))) < (length body_3 : Int)) ∧ (((rE (getD body_3 (toNat (IntKind.wrap .i64 ((length body_3 : Int) - (1 : Int)))) [])) : List FV) = (getD body_3 (toNat (IntKind.wrap .i64 ((length body_3 : Int) - (1 : Int)))) []))))) ∧ (br (((FV.asI (getD (getD body_3 (toNat (IntKind.wrap .i64 ((length body_3 : Int) - (1 : Int)))) []) 2 FV.nils)) : Int) != (0 : Int)) (Q42 (Q90 (Q45 0 [] 0) false) [] r Hs') (((FV.isSl 4 (Q5 4 body_3) = true) ∧ ((0 ≤ (0 : Int)) ∧ (((0 : Int) < (length body_3 : Int)) ∧ (((rE (getD body_3 0 [])) : List FV) = (getD body_3 0 []))))) ∧ ((FV.isSl 4 (Q5 4 body_3) = true) ∧ (((0 ≤ (1 : Int)) ∧ (((1 : Int) ≤ (IntKind.wrap .i64 ((length body_3 : Int) - (1 : Int)))) ∧ ((IntKind.wrap .i64 ((length body_3 : Int) - (1 : Int))) ≤ (length body_3 : Int)))) ∧ (∃ z1 : Tm, ((Q57 24 [(aE (getD body_3 0 [])), Q76 4 (drop 1 (take (toNat (IntKind.wrap .i64 ((length body_3 : Int) - (1 : Int)))) body_3))] (aT z1)) ∧ (∃ b2 : Bool, ((Q60 130 (Q78 (aT z1) 0) b2) ∧ (br b2 (Q42 (Q90 (Q45 0 [] 0) false) [] r Hs') (∃ z3 : Tm, ((Q57 131 (Q59 (aT z1) 0 (Q25 (-1 : Int))) (aT z3)) ∧ (Q42 (Q90 (cT z3) true) [] r Hs'))))))))))))))))) := by kernel_rfl
def lv84 : List (Nat × List Nat) := [(1, [0, 3])]
theorem v84 (s : List UInt8) (r : TV) (Hs' : List AObj) : VE lv84 84 0 r Hs' [.c (Q6 s)] [] =
  (br (decide (((length s : Int) : Int) < (1 : Int))) (Q62 r Hs') (br (decide (((length s : Int) : Int) > (32 : Int))) (Q62 r Hs') ((0 ≤ (0 : Int) ∧ (0 : Int) < (length s : Int)) ∧ (∃ b1 : Bool, ((Q60 114 [.c (Q0 (.int .u8 ((UInt8.toNat (getD s 0 0) : Nat) : Int)))] b1) ∧ (br (!b1) (Q62 r Hs') (Q41 84 0 r Hs' 1 [Q4 0 (Q6 s), Q13 3 0] [] 0))))))) := by kernel_rfl
theorem v84_1a (x0 : List UInt8) (x3 : Int) (r : TV) (Hs' : List AObj) : VQ lv84 84 0 r Hs' 1 ⟨[Q4 0 (Q6 x0), Q13 3 x3], [], 0⟩ =
  (br (decide ((x3 : Int) < (length x0 : Int))) ((0 ≤ x3 ∧ x3 < (length x0 : Int)) ∧ (∃ b1 : Bool, ((Q60 115 [.c (Q0 (.int .u8 ((UInt8.toNat (getD x0 (toNat x3) 0) : Nat) : Int)))] b1) ∧ (br (!b1) (Q62 r Hs') (Q41 84 0 r Hs' 1 [Q4 0 (Q6 x0), Q13 3 (IntKind.wrap .i64 (x3 + 1))] [] 0))))) (Q58 true r Hs')) := by kernel_rfl
def lv85 : List (Nat × List Nat) := [(1, [0, 3])]
theorem v85 (s : List UInt8) (r : TV) (Hs' : List AObj) : VE lv85 85 0 r Hs' [.c (Q6 s)] [] =
  (br ((s : List UInt8) == [44]) (Q58 true r Hs') (br ((s : List UInt8) == [59]) (Q58 true r Hs') (br ((s : List UInt8) == [33]) (Q58 true r Hs') (Q41 85 0 r Hs' 1 [Q4 0 (Q6 s), Q13 3 0] [] 0)))) := by kernel_rfl
theorem v85_1a (x0 : List UInt8) (x3 : Int) (r : TV) (Hs' : List AObj) : VQ lv85 85 0 r Hs' 1 ⟨[Q4 0 (Q6 x0), Q13 3 x3], [], 0⟩ =
  (br (decide ((x3 : Int) < (length x0 : Int))) ((0 ≤ x3 ∧ x3 < (length x0 : Int)) ∧ (∃ b1 : Bool, ((Q60 116 [.c (Q0 (.int .u8 ((UInt8.toNat (getD x0 (toNat x3) 0) : Nat) : Int)))] b1) ∧ (br (!b1) (Q62 r Hs') (Q41 85 0 r Hs' 1 [Q4 0 (Q6 x0), Q13 3 (IntKind.wrap .i64 (x3 + 1))] [] 0))))) (br (decide (((length x0 : Int) : Int) ≥ (1 : Int))) (Q58 (decide (((length x0 : Int) : Int) ≤ (32 : Int))) r Hs') (Q62 r Hs'))) := by kernel_rfl
def lv112 : List (Nat × List Nat) := []
theorem v112 (t_0 : Int) (t_1 : List UInt8) (t_2 : Int) (t_3 : RW) (r : TV) (Hs' : List AObj) : VE lv112 112 0 r Hs' [Q67 t_0 t_1 t_2 t_3] [] =
  (br ((t_0 : Int) == (5 : Int)) (Q58 true r Hs') (Q58 ((t_0 : Int) == (6 : Int)) r Hs')) := by kernel_rfl
def lv113 : List (Nat × List Nat) := []
theorem v113 (t_0 : Int) (t_1 : List UInt8) (t_2 : Int) (t_3 : RW) (k : Int) (r : TV) (Hs' : List AObj) : VE lv113 113 0 r Hs' (Q78 (Q67 t_0 t_1 t_2 t_3) k) [] =
  (br ((t_0 : Int) == (5 : Int)) (Q96 (IntKind.wrap .i64 (k + 1)) [] r Hs') (Q96 k [] r Hs')) := by kernel_rfl
def lv60 : List (Nat × List Nat) := []
theorem v60 (s : RW) (v : Int) (r : TV) (Hs' : List AObj) : VE lv60 60 0 r Hs' (Q78 (Q76 1 s) v) [] =
  (∃ n1 : Int, ((Q57 89 (Q78 (Q76 1 s) v) (Q25 n1)) ∧ (Q58 (decide ((n1 : Int) ≥ (0 : Int))) r Hs'))) := by kernel_rfl
theorem v59_i1 (u_0 : Int) (u_1 : List UInt8) (u_2 : Int) (u_3 : RW) (a1 : Int) (o0_0l : Nat) (o1 : RW) (r : TV) (Hs' : List AObj) : VE lv59 59 2 r Hs' (Q59 (Q67 u_0 u_1 u_2 u_3) a1 (Q102 1)) (Q109 1 1 1 0 o0_0l o1) =
  (br ((u_0 : Int) == (4 : Int)) (((1 : Nat) = 1 ∧ (0 + o0_0l) ≤ (length o1)) ∧ (∃ b1 : Bool, ((Q60 60 (Q78 (Q76 1 (take o0_0l (drop 0 o1))) u_2) b1) ∧ ((true = true) ∧ (br (!b1) ((1 ≤ 1) ∧ ((o0_0l ≤ (length o1) ∧ z0k (o0_0l + 1) 8) ∧ (Q42 [] (Q34 (Q94 1 2 1 0 (o0_0l + 1)) .gone ((take o0_0l o1) ++ [[(Q1 u_2)]])) r Hs'))) (Q42 [] (Q109 1 1 1 0 o0_0l o1) r Hs')))))) (Q42 [] (Q109 1 1 1 0 o0_0l o1) r Hs')) := by kernel_rfl
def lv52 : List (Nat × List Nat) := []
theorem v52 (v_0 : Int) (v_1 : List UInt8) (v_2 : Int) (v_3 : RW) (o0_0 : Int) (o0_1 : List UInt8) (o0_2 : Int) (o0_3 : RW) (r : TV) (Hs' : List AObj) : VE lv52 52 1 r Hs' [Q67 v_0 v_1 v_2 v_3, Q102 4] [Q98 4 o0_0 o0_1 o0_2 4 o0_3] =
  (∃ b1 : Bool, ((Q60 53 [Q67 v_0 v_1 v_2 v_3, Q67 o0_0 o0_1 o0_2 o0_3] b1) ∧ (Q36 b1 [Q98 4 o0_0 o0_1 o0_2 4 o0_3] r Hs'))) := by kernel_rfl
def lv61 : List (Nat × List Nat) := []
theorem v61 (u_0 : Int) (u_1 : List UInt8) (u_2 : Int) (u_3 : RW) (r : TV) (Hs' : List AObj) : VE lv61 61 0 r Hs' [Q67 u_0 u_1 u_2 u_3] [] =
  (∃ b1 : Bool, ((Q60 62 [Q67 u_0 u_1 u_2 u_3] b1) ∧ (Q58 (!b1) r Hs'))) := by kernel_rfl
theorem v67_F101 (t_0 : Int) (t_1 : List UInt8) (t_2 : Int) (t_3 : RW) (fuel : Int) (o0_0l o0_1l : Nat) (o1 o2 : RW) (r : TV) (Hs' : List AObj) : VE lv67 67 3 r Hs' (Q97 (Q67 t_0 t_1 t_2 t_3) fuel (.fn (.func 101) [(false, [(Q81 2)])] [])) (Q44 2 1 6 0 o0_0l 2 1 0 o0_1l o1 o2) =
  (∃ b1 : Bool, ((Q60 20 [Q67 t_0 t_1 t_2 t_3] b1) ∧ (br (!b1) (Q42 (Q80 (Q37 (Q45 0 [] 0)) 0 1) (Q44 2 1 6 0 o0_0l 2 1 0 o0_1l o1 o2) r Hs') (∃ z2 : Tm × Int × Int, ((Q39 101 (Q103 2 (Q67 t_0 t_1 t_2 t_3) (Q101 3 1)) [Q86 1 o0_0l 2 o0_1l, Q33 o1, Q30 o2, Q91 fuel] (Q54 (cT z2.1) (Q32 z2.2.1)) [Q86 1 o0_0l 2 o0_1l, Q33 o1, Q30 o2, Q91 z2.2.2]) ∧ (br ((z2.2.1 : Int) != (0 : Int)) (Q42 (Q80 (Q37 (Q45 0 [] 0)) 0 z2.2.1) (Q44 2 1 6 0 o0_0l 2 1 0 o0_1l o1 o2) r Hs') (Q42 (Q80 (Q37 (cT z2.1)) z2.2.2 0) (Q44 2 1 6 0 o0_0l 2 1 0 o0_1l o1 o2) r Hs'))))))) := by kernel_rfl
def lv102 : List (Nat × List Nat) := []
theorem v102  (r : TV) (Hs' : List AObj) : VE lv102 102 0 r Hs' [.c Q28] [] =
  (RT (.c Q28) [] r Hs') := by kernel_rfl
theorem v102_i1 (s : RW) (r : TV) (Hs' : List AObj) : VE lv102 102 0 r Hs' [.c (Q0 (.sl true 4 s))] [] =
  ((FV.isSl 4 (.sl true 4 s) = true) ∧ ((0 ≤ 0 ∧ z0k (0 + (length s)) 56) ∧ (RT (.c (Q3 0 4 0 (0 + (length s)))) [.arz 4 ([] ++ s)] r Hs'))) := by kernel_rfl
def lv121 : List (Nat × List Nat) := []
theorem v121 (n : Int) (r : TV) (Hs' : List AObj) : VE lv121 121 0 r Hs' [Q25 n] [] =
  (RT (.agg (Q45 3 [] n)) [] r Hs') := by kernel_rfl
def lv122 : List (Nat × List Nat) := []
theorem v122 (x : Int) (r : TV) (Hs' : List AObj) : VE lv122 122 0 r Hs' [Q25 x] [] =
  (RT (.agg (Q45 4 [] x)) [] r Hs') := by kernel_rfl
def lv123 : List (Nat × List Nat) := [(1000001, [1, 2])]
theorem v123 (x level lams : Int) (on : RW) (o0_0l o0_1l : Nat) (o1 o2 : RW) (r : TV) (Hs' : List AObj) : VE lv123 123 3 r Hs' [Q102 2, Q25 x, Q25 level, Q25 lams, Q76 4 on] (Q44 2 1 6 0 o0_0l 2 1 0 o0_1l o1 o2) =
  (∃ z1 : Int × Sto, ((Q11 35 (Q78 (Q102 2) level) (Q44 2 1 6 0 o0_0l 2 1 0 o0_1l o1 o2) (Q25 z1.1) (Q119 3 (length z1.2.V) 4 (length z1.2.T) (SR z1.2.V) (IR z1.2.T))) ∧ (∃ z2 : Tm, ((Q57 122 [Q25 z1.1] (aT z2)) ∧ (∃ z3 : Tm, ((Q57 24 [(aT z2), Q76 4 on] (aT z3)) ∧ (∃ z4 : Tm, ((Q57 45 [Q25 lams, (aT z3)] (aT z4)) ∧ (∃ z5 : Int × Sto, ((Q11 47 (Q59 (Q102 2) x (aT z4)) (Q44 2 1 6 0 (length z1.2.V) 2 1 0 (length z1.2.T) (SR z1.2.V) (IR z1.2.T)) (Q25 z5.1) (Q119 3 (length z5.2.V) 4 (length z5.2.T) (SR z5.2.V) (IR z5.2.T))) ∧ (RT (aT z2) (Q119 3 (length z5.2.V) 4 (length z5.2.T) (SR z5.2.V) (IR z5.2.T)) r Hs'))))))))))) := by kernel_rfl
theorem v83_F124 (s : RW) (o0_0 : Int) (o0_1 : List UInt8) (o0_2 : Int) (o0_3 : RW) (r : TV) (Hs' : List AObj) : VE lv83 83 1 r Hs' (Q115 (Q76 4 s) (.fn (.func 124) [] [(false, [(Q81 4)])])) [Q98 4 o0_0 o0_1 o0_2 4 o0_3] =
  ((FV.isSl 4 (Q5 4 s) = true) ∧ (Q41 83 1 r Hs' 1 (Q65 (Q53 0 4 s) (Q4 1 (.fn (.func 124) [] [(false, [(Q81 4)])])) (Q110 (length s : Int)) 8 0) [Q51 0 4 o0_0 o0_1 o0_2 4 o0_3] 1)) := by kernel_rfl
theorem zd7 (x0 : RW) (x7 x8 h0_0 : Int) (h0_1 : List UInt8) (h0_2 : Int) (h0_3 : RW) (r : TV) (Hs' : List AObj) : VQ lv83 83 1 r Hs' 1 ⟨Q65 (Q53 0 4 x0) (Q4 1 (.fn (.func 124) [] [(false, [(Q81 4)])])) (Q110 x7) 8 x8, [Q51 0 4 h0_0 h0_1 h0_2 4 h0_3], 1⟩ =
  (br (decide ((x8 : Int) < x7)) (((FV.isSl 4 (Q5 4 x0) = true) ∧ ((0 ≤ x8) ∧ ((x8 < (length x0 : Int)) ∧ (((rE (getD x0 (toNat x8) [])) : List FV) = (getD x0 (toNat x8) []))))) ∧ (∃ b1 : Bool, ((Q11 124 [(aE (getD x0 (toNat x8) [])), Q102 4] [Q98 4 h0_0 h0_1 h0_2 4 h0_3] (Q29 b1) [Q98 4 h0_0 h0_1 h0_2 4 h0_3]) ∧ (br b1 (Q96 x8 [Q98 4 h0_0 h0_1 h0_2 4 h0_3] r Hs') (Q41 83 1 r Hs' 1 (Q65 (Q53 0 4 x0) (Q4 1 (.fn (.func 124) [] [(false, [(Q81 4)])])) (Q110 x7) 8 (IntKind.wrap .i64 (x8 + 1))) [Q51 0 4 h0_0 h0_1 h0_2 4 h0_3] 1))))) (Q96 (-1 : Int) [Q98 4 h0_0 h0_1 h0_2 4 h0_3] r Hs')) := by kernel_rfl
def lv98 : List (Nat × List Nat) := []
theorem v98 (c : Int) (r : TV) (Hs' : List AObj) : VE lv98 98 0 r Hs' [.c (Q0 (.int .u8 c))] [] =
  (∃ b1 : Bool, ((Q60 96 [.c (Q0 (.int .u8 c))] b1) ∧ (br b1 (Q58 true r Hs') (∃ b2 : Bool, ((Q60 125 [.c (Q0 (.int .u8 c))] b2) ∧ (br b2 (Q58 true r Hs') (∃ b3 : Bool, ((Q60 126 [.c (Q0 (.int .u8 c))] b3) ∧ (br b3 (Q58 true r Hs') (Q58 ((c : Int) == (39 : Int)) r Hs')))))))))) := by kernel_rfl
def lv99 : List (Nat × List Nat) := []
theorem v99 (c : Int) (r : TV) (Hs' : List AObj) : VE lv99 99 0 r Hs' [.c (Q0 (.int .u8 c))] [] =
  (∃ n1 : Int, ((Q57 127 (Q115 (.c (Q6 [43, 45, 42, 47, 60, 62, 61, 38, 124, 94, 126, 64, 35, 36, 63, 58])) (Q0 (.int .u8 c))) (Q25 n1)) ∧ (Q58 (decide ((n1 : Int) ≥ (0 : Int))) r Hs'))) := by kernel_rfl
def lv128 : List (Nat × List Nat) := []
theorem v128 (s substr : List UInt8) (r : TV) (Hs' : List AObj) : VE lv128 128 0 r Hs' (Q115 (.c (Q6 s)) (Q6 substr)) [] =
  (∃ n1 : Int, ((Q57 145 (Q115 (.c (Q6 s)) (Q6 substr)) (Q25 n1)) ∧ (Q96 n1 [] r Hs'))) := by kernel_rfl
def lv66 : List (Nat × List Nat) := []
theorem v66 (u_0 : Int) (u_1 : List UInt8) (u_2 : Int) (u_3 : RW) (r : TV) (Hs' : List AObj) : VE lv66 66 0 r Hs' [Q67 u_0 u_1 u_2 u_3] [] =
  (∃ b1 : Bool, ((Q60 20 [Q67 u_0 u_1 u_2 u_3] b1) ∧ (Q58 (!b1) r Hs'))) := by kernel_rfl
def ztw : List (Nat × List Nat) := [(1, [0, 2, 4, 6])]
theorem v101 (t_0 : Int) (t_1 : List UInt8) (t_2 : Int) (t_3 : RW) (o0_0l o0_1l : Nat) (o1 o2 : RW) (o3_0 : Int) (r : TV) (Hs' : List AObj) : VE ztw 101 4 r Hs' (Q103 2 (Q67 t_0 t_1 t_2 t_3) (Q101 3 1)) [Q86 1 o0_0l 2 o0_1l, Q33 o1, Q30 o2, Q91 o3_0] =
  (Q41 101 4 r Hs' 1 [Q48 0 0 2, Q48 2 3 1, Q77 4 4, Q77 6 5] [Q61 0 2 1 6 0 o0_0l 2 1 0 o0_1l, Q20 1 6 o1, Q116 2 o2, Q95 3 1 o3_0, Q51 4 4 t_0 t_1 t_2 4 t_3, Q69 5 4 0 [] 0] 6) := by kernel_rfl
theorem zvb (h0_0l h0_1l : Nat) (h1 h2 : RW) (h3_0 h4_0 : Int) (h4_1 : List UInt8) (h4_2 : Int) (h4_3 : RW) (h5_0 : Int) (h5_1 : List UInt8) (h5_2 : Int) (r : TV) (Hs' : List AObj) : VQ ztw 101 4 r Hs' 1 ⟨[Q48 0 0 2, Q48 2 3 1, Q77 4 4, Q77 6 5], [Q61 0 2 1 6 0 h0_0l 2 1 0 h0_1l, Q20 1 6 h1, Q116 2 h2, Q95 3 1 h3_0, Q51 4 4 h4_0 h4_1 h4_2 4 h4_3, Q69 5 4 h5_0 h5_1 h5_2], 6⟩ =
  (∃ z1 : Tm × Bool × Int, ((Q39 129 [Q102 2, Q67 h4_0 h4_1 h4_2 h4_3] (Q44 2 1 6 0 h0_0l 2 1 0 h0_1l h1 h2) (Q73 (Q37 (cT z1.1)) (Q18 (Q89 z1.2.1)) z1.2.2) (Q44 2 1 6 0 h0_0l 2 1 0 h0_1l h1 h2)) ∧ (br (!z1.2.1) (Q42 (Q54 (Q17 h4_0 h4_1 h4_2 4 h4_3) (Q32 0)) [Q86 1 h0_0l 2 h0_1l, Q33 h1, Q30 h2, Q91 h3_0] r Hs') (br ((z1.2.2 : Int) != (0 : Int)) (Q42 (Q54 (Q45 0 [] 0) (Q32 80)) [Q86 1 h0_0l 2 h0_1l, Q33 h1, Q30 h2, Q91 h3_0] r Hs') (br (decide ((h3_0 : Int) ≤ (0 : Int))) (Q42 (Q54 (Q45 0 [] 0) (Q32 80)) [Q86 1 h0_0l 2 h0_1l, Q33 h1, Q30 h2, Q91 h3_0] r Hs') (Q41 101 4 r Hs' 1 [Q48 0 0 2, Q48 2 3 1, Q77 4 4, Q77 6 5] [Q61 0 2 1 6 0 h0_0l 2 1 0 h0_1l, Q20 1 6 h1, Q116 2 h2, Q95 3 1 (IntKind.wrap .i64 (h3_0 - 1)), Q19 4 4 (cT z1.1), Q69 5 4 h5_0 h5_1 h5_2] 6)))))) := by kernel_rfl
def lv130 : List (Nat × List Nat) := []
theorem v130 (t_0 : Int) (t_1 : List UInt8) (t_2 : Int) (t_3 : RW) (i : Int) (r : TV) (Hs' : List AObj) : VE lv130 130 0 r Hs' (Q78 (Q67 t_0 t_1 t_2 t_3) i) [] =
  (∃ n1 : Int, ((Q57 148 (Q78 (Q67 t_0 t_1 t_2 t_3) i) (Q25 n1)) ∧ (Q58 (decide ((n1 : Int) > (0 : Int))) r Hs'))) := by kernel_rfl
def lv131 : List (Nat × List Nat) := []
theorem v131 (t_0 : Int) (t_1 : List UInt8) (t_2 : Int) (t_3 : RW) (a1 a2 : Int) (r : TV) (Hs' : List AObj) : VE lv131 131 0 r Hs' (Q59 (Q67 t_0 t_1 t_2 t_3) a1 (Q25 a2)) [] =
  (∃ z1 : Tm, ((Q11 151 [.agg [(.fn (.func 149) [] [(false, [Q92]), (false, [(Q75 1 1)])])], Q67 t_0 t_1 t_2 t_3, Q25 0] (Q107 a1 (Q91 a2)) (aT z1) (Q107 a1 (Q91 a2))) ∧ (RT (aT z1) [] r Hs'))) := by kernel_rfl
def lv114 : List (Nat × List Nat) := []
theorem v114 (c : Int) (r : TV) (Hs' : List AObj) : VE lv114 114 0 r Hs' [.c (Q0 (.int .u8 c))] [] =
  (br (decide ((c : Int) ≥ (97 : Int))) (Q58 (decide ((c : Int) ≤ (122 : Int))) r Hs') (Q62 r Hs')) := by kernel_rfl
def lv115 : List (Nat × List Nat) := []
theorem v115 (c : Int) (r : TV) (Hs' : List AObj) : VE lv115 115 0 r Hs' [.c (Q0 (.int .u8 c))] [] =
  (∃ b1 : Bool, ((Q60 114 [.c (Q0 (.int .u8 c))] b1) ∧ (br b1 (Q58 true r Hs') (br (decide ((c : Int) ≥ (65 : Int))) (br (decide ((c : Int) ≤ (90 : Int))) (Q58 true r Hs') (∃ b2 : Bool, ((Q60 140 [.c (Q0 (.int .u8 c))] b2) ∧ (br b2 (Q58 true r Hs') (br ((c : Int) == (95 : Int)) (Q58 true r Hs') (Q58 ((c : Int) == (39 : Int)) r Hs')))))) (∃ b3 : Bool, ((Q60 140 [.c (Q0 (.int .u8 c))] b3) ∧ (br b3 (Q58 true r Hs') (br ((c : Int) == (95 : Int)) (Q58 true r Hs') (Q58 ((c : Int) == (39 : Int)) r Hs'))))))))) := by kernel_rfl
def ztq : List (Nat × List Nat) := [(1, [0, 3])]
theorem v116 (c : Int) (r : TV) (Hs' : List AObj) : VE ztq 116 0 r Hs' [.c (Q0 (.int .u8 c))] [] =
  (Q41 116 0 r Hs' 1 [Q68 0 (.int .u8 c), Q13 3 0] [] 0) := by kernel_rfl
theorem zty (x0 x3 : Int) (r : TV) (Hs' : List AObj) : VQ ztq 116 0 r Hs' 1 ⟨[Q68 0 (.int .u8 x0), Q13 3 x3], [], 0⟩ =
  (br (decide ((x3 : Int) < (16 : Int))) ((0 ≤ x3 ∧ x3 < ((16 : Nat) : Int)) ∧ (br ((((UInt8.toNat (getD [43, 45, 42, 47, 60, 62, 61, 38, 124, 94, 126, 64, 35, 36, 63, 58] (toNat x3) 0) : Nat) : Int) : Int) == x0) (Q58 true r Hs') (Q41 116 0 r Hs' 1 [Q68 0 (.int .u8 x0), Q13 3 (IntKind.wrap .i64 (x3 + 1))] [] 0))) (Q62 r Hs')) := by kernel_rfl
def lv89 : List (Nat × List Nat) := [(1, [0, 1, 7, 8])]
theorem v89 (s : RW) (v : Int) (r : TV) (Hs' : List AObj) : VE lv89 89 0 r Hs' (Q78 (Q76 1 s) v) [] =
  ((FV.isSl 1 (Q5 1 s) = true) ∧ (Q41 89 0 r Hs' 1 (Q65 (Q53 0 1 s) (Q13 1 v) (Q110 (length s : Int)) 8 0) [] 0)) := by kernel_rfl
theorem v89_1a (x0 : RW) (x1 x7 x8 : Int) (r : TV) (Hs' : List AObj) : VQ lv89 89 0 r Hs' 1 ⟨Q65 (Q53 0 1 x0) (Q13 1 x1) (Q110 x7) 8 x8, [], 0⟩ =
  (br (decide ((x8 : Int) < x7)) (((FV.isSl 1 (Q5 1 x0) = true) ∧ ((0 ≤ x8) ∧ ((x8 < (length x0 : Int)) ∧ (([(Q1 (FV.asI (getD (getD x0 (toNat x8) []) 0 FV.nils)))] : List FV) = (getD x0 (toNat x8) []))))) ∧ (br ((x1 : Int) == (FV.asI (getD (getD x0 (toNat x8) []) 0 FV.nils))) (Q96 x8 [] r Hs') (Q41 89 0 r Hs' 1 (Q65 (Q53 0 1 x0) (Q13 1 x1) (Q110 x7) 8 (IntKind.wrap .i64 (x8 + 1))) [] 0))) (Q96 (-1 : Int) [] r Hs')) := by kernel_rfl
def lv53 : List (Nat × List Nat) := []
theorem v53 (a_0 : Int) (a_1 : List UInt8) (a_2 : Int) (a_3 : RW) (b_0 : Int) (b_1 : List UInt8) (b_2 : Int) (b_3 : RW) (r : TV) (Hs' : List AObj) : VE lv53 53 0 r Hs' [Q67 a_0 a_1 a_2 a_3, Q67 b_0 b_1 b_2 b_3] [] =
  (br ((a_0 : Int) == b_0) (Q58 ((a_2 : Int) == b_2) r Hs') (Q62 r Hs')) := by kernel_rfl
def lv62 : List (Nat × List Nat) := []
theorem v62 (t_0 : Int) (t_1 : List UInt8) (t_2 : Int) (t_3 : RW) (r : TV) (Hs' : List AObj) : VE lv62 62 0 r Hs' [Q67 t_0 t_1 t_2 t_3] [] =
  (∃ b1 : Bool, ((Q60 20 [Q67 t_0 t_1 t_2 t_3] b1) ∧ (br b1 (br ((t_0 : Int) == (3 : Int)) (Q58 true r Hs') (Q58 ((t_0 : Int) == (1 : Int)) r Hs')) (Q62 r Hs')))) := by kernel_rfl
def lv124 : List (Nat × List Nat) := []
theorem v124 (u_0 : Int) (u_1 : List UInt8) (u_2 : Int) (u_3 : RW) (o0_0 : Int) (o0_1 : List UInt8) (o0_2 : Int) (o0_3 : RW) (r : TV) (Hs' : List AObj) : VE lv124 124 1 r Hs' [Q67 u_0 u_1 u_2 u_3, Q102 4] [Q98 4 o0_0 o0_1 o0_2 4 o0_3] =
  (∃ b1 : Bool, ((Q60 53 [Q67 u_0 u_1 u_2 u_3, Q67 o0_0 o0_1 o0_2 o0_3] b1) ∧ (Q36 b1 [Q98 4 o0_0 o0_1 o0_2 4 o0_3] r Hs'))) := by kernel_rfl
def lv125 : List (Nat × List Nat) := []
theorem v125 (c : Int) (r : TV) (Hs' : List AObj) : VE lv125 125 0 r Hs' [.c (Q0 (.int .u8 c))] [] =
  (br (decide (((65 : Int) : Int) ≤ c)) (br (decide ((c : Int) ≤ (90 : Int))) (Q58 true r Hs') (Q58 ((c : Int) == (95 : Int)) r Hs')) (Q58 ((c : Int) == (95 : Int)) r Hs')) := by kernel_rfl
def lv126 : List (Nat × List Nat) := []
theorem v126 (c : Int) (r : TV) (Hs' : List AObj) : VE lv126 126 0 r Hs' [.c (Q0 (.int .u8 c))] [] =
  (br (decide (((48 : Int) : Int) ≤ c)) (Q58 (decide ((c : Int) ≤ (57 : Int))) r Hs') (Q62 r Hs')) := by kernel_rfl
def lv145 : List (Nat × List Nat) := [(3, [0, 1, 5, 6, 7, 8, 9, 10])]
theorem v145 (s substr : List UInt8) (r : TV) (Hs' : List AObj) : VE lv145 145 0 r Hs' (Q115 (.c (Q6 s)) (Q6 substr)) [] =
  (br (((length substr : Int) : Int) == (0 : Int)) (Q96 0 [] r Hs') (br ((substr : List UInt8) == s) (Q96 0 [] r Hs') (br (((length substr : Int) : Int) == (1 : Int)) ((0 ≤ (0 : Int) ∧ (0 : Int) < (length substr : Int)) ∧ (∃ n1 : Int, ((Q57 144 (Q115 (.c (Q6 s)) (Q0 (.int .u8 ((UInt8.toNat (getD substr 0 0) : Nat) : Int)))) (Q25 n1)) ∧ (Q96 n1 [] r Hs')))) (br (decide (((length substr : Int) : Int) ≥ (length s : Int))) (Q96 (-1 : Int) [] r Hs') False)))) := by kernel_rfl
def lv129 : List (Nat × List Nat) := []
theorem v129 (t_0 : Int) (t_1 : List UInt8) (t_2 : Int) (t_3 : RW) (o0_0l o0_1l : Nat) (o1 o2 : RW) (r : TV) (Hs' : List AObj) : VE lv129 129 3 r Hs' [Q102 2, Q67 t_0 t_1 t_2 t_3] (Q44 2 1 6 0 o0_0l 2 1 0 o0_1l o1 o2) =
  (∃ z1 : Tm × Bool, ((Q39 146 [Q102 2, Q67 t_0 t_1 t_2 t_3] (Q44 2 1 6 0 o0_0l 2 1 0 o0_1l o1 o2) (Q90 (cT z1.1) z1.2) (Q44 2 1 6 0 o0_0l 2 1 0 o0_1l o1 o2)) ∧ (br z1.2 (Q42 (Q73 (Q37 (cT z1.1)) (Q18 (Q89 true)) 0) (Q44 2 1 6 0 o0_0l 2 1 0 o0_1l o1 o2) r Hs') (br ((t_0 : Int) != (6 : Int)) (Q42 (Q73 (Q37 (Q17 t_0 t_1 t_2 4 t_3)) (Q18 (Q89 false)) 0) (Q44 2 1 6 0 o0_0l 2 1 0 o0_1l o1 o2) r Hs') (((FV.isSl 4 (Q5 4 t_3) = true) ∧ ((0 ≤ (0 : Int)) ∧ (((0 : Int) < (length t_3 : Int)) ∧ (((rE (getD t_3 0 [])) : List FV) = (getD t_3 0 []))))) ∧ (∃ z2 : Tm × Bool, ((Q39 146 [Q102 2, (aE (getD t_3 0 []))] (Q44 2 1 6 0 o0_0l 2 1 0 o0_1l o1 o2) (Q90 (cT z2.1) z2.2) (Q44 2 1 6 0 o0_0l 2 1 0 o0_1l o1 o2)) ∧ (br z2.2 ((FV.isSl 4 (Q5 4 t_3) = true) ∧ (((0 ≤ (1 : Int)) ∧ (((1 : Int) ≤ (length t_3 : Int)) ∧ ((length t_3 : Int) ≤ (length t_3 : Int)))) ∧ (∃ z3 : Tm, ((Q57 24 [(aT z2.1), Q76 4 (drop 1 (take (toNat (length t_3 : Int)) t_3))] (aT z3)) ∧ (Q42 (Q73 (Q37 (cT z3)) (Q18 (Q89 true)) 0) (Q44 2 1 6 0 o0_0l 2 1 0 o0_1l o1 o2) r Hs'))))) (((FV.isSl 4 (Q5 4 t_3) = true) ∧ ((0 ≤ (0 : Int)) ∧ (((0 : Int) < (length t_3 : Int)) ∧ (((rE (getD t_3 0 [])) : List FV) = (getD t_3 0 []))))) ∧ (br (((FV.asI (getD (getD t_3 0 []) 0 FV.nils)) : Int) != (5 : Int)) (Q42 (Q73 (Q37 (Q17 t_0 t_1 t_2 4 t_3)) (Q18 (Q89 false)) 0) (Q44 2 1 6 0 o0_0l 2 1 0 o0_1l o1 o2) r Hs') (((FV.isSl 4 (Q5 4 t_3) = true) ∧ ((0 ≤ (0 : Int)) ∧ (((0 : Int) < (length t_3 : Int)) ∧ (((rE (getD t_3 0 [])) : List FV) = (getD t_3 0 []))))) ∧ (((FV.isSl 4 (getD (getD t_3 0 []) 3 FV.nils) = true) ∧ ((0 ≤ (0 : Int)) ∧ (((0 : Int) < (((length (FV.ses (getD (getD t_3 0 []) 3 FV.nils))) : Nat) : Int)) ∧ (((rE (getD (FV.ses (getD (getD t_3 0 []) 3 FV.nils)) 0 [])) : List FV) = (getD (FV.ses (getD (getD t_3 0 []) 3 FV.nils)) 0 []))))) ∧ (((FV.isSl 4 (Q5 4 t_3) = true) ∧ ((0 ≤ (1 : Int)) ∧ (((1 : Int) < (length t_3 : Int)) ∧ (((rE (getD t_3 1 [])) : List FV) = (getD t_3 1 []))))) ∧ (∃ z4 : Tm × Int, ((Q39 147 [(aE (getD (FV.ses (getD (getD t_3 0 []) 3 FV.nils)) 0 [])), (aE (getD t_3 1 []))] [] (Q54 (cT z4.1) (Q32 z4.2)) []) ∧ ((FV.isSl 4 (Q5 4 t_3) = true) ∧ (((0 ≤ (2 : Int)) ∧ (((2 : Int) ≤ (length t_3 : Int)) ∧ ((length t_3 : Int) ≤ (length t_3 : Int)))) ∧ (∃ z5 : Tm, ((Q57 24 [(aT z4.1), Q76 4 (drop 2 (take (toNat (length t_3 : Int)) t_3))] (aT z5)) ∧ (Q42 (Q73 (Q37 (cT z5)) (Q18 (Q89 true)) z4.2) (Q44 2 1 6 0 o0_0l 2 1 0 o0_1l o1 o2) r Hs')))))))))))))))))))) := by kernel_rfl
def lv148 : List (Nat × List Nat) := []
theorem v148 (t_0 : Int) (t_1 : List UInt8) (t_2 : Int) (t_3 : RW) (i : Int) (r : TV) (Hs' : List AObj) : VE lv148 148 0 r Hs' (Q78 (Q67 t_0 t_1 t_2 t_3) i) [] =
  (∃ b1 : Bool, ((Q60 20 [Q67 t_0 t_1 t_2 t_3] b1) ∧ (br (!b1) (Q96 0 [] r Hs') (∃ n2 : Int, ((Q57 166 (Q78 (Q67 t_0 t_1 t_2 t_3) i) (Q25 n2)) ∧ (Q96 n2 [] r Hs')))))) := by kernel_rfl
def z7b : List (Nat × List Nat) := [(1, [2, 3, 4, 6, 7, 8, 9, 30, 31, 32])]
theorem zsm (t_0 : Int) (t_1 : List UInt8) (t_2 : Int) (t_3 : RW) (k o0_0 o1_0 : Int) (r : TV) (Hs' : List AObj) : VE z7b 151 2 r Hs' [.agg [(.fn (.func 149) [] [(false, [Q92]), (false, [(Q75 1 1)])])], Q67 t_0 t_1 t_2 t_3, Q25 k] (Q107 o0_0 (Q91 o1_0)) =
  (br ((t_0 : Int) != (5 : Int)) (br ((t_0 : Int) != (6 : Int)) (∃ z1 : Tm, ((Q11 149 [Q67 t_0 t_1 t_2 t_3, Q25 k, Q102 1, Q101 1 1] (Q107 o0_0 (Q91 o1_0)) (aT z1) (Q107 o0_0 (Q91 o1_0))) ∧ (RT (aT z1) (Q107 o0_0 (Q91 o1_0)) r Hs'))) (∃ y2 : FV, (∃ n3 : Int, ((Q39 88 [Q67 t_0 t_1 t_2 t_3] [] [Q18 [Q0 y2], Q32 n3] []) ∧ ((FV.isSl 4 y2 = true) ∧ (Q41 151 2 r Hs' 1 [Q13 2 k, Q48 3 2 1, Q77 4 3, Q77 6 4, Q68 7 y2, Q13 8 n3, Q118 9, Q68 30 y2, Q13 31 (length (FV.ses y2) : Int), Q13 32 0] [Q95 0 1 o0_0, Q95 1 1 o1_0, Q19 2 1 [(.fn (.func 149) [] [(false, [Q92]), (false, [(Q75 1 1)])])], Q51 3 4 t_0 t_1 t_2 4 t_3, Q69 4 4 0 [] 0] 5)))))) (∃ y4 : FV, (∃ n5 : Int, ((Q39 88 [Q67 t_0 t_1 t_2 t_3] [] [Q18 [Q0 y4], Q32 n5] []) ∧ ((FV.isSl 4 y4 = true) ∧ (Q41 151 2 r Hs' 1 [Q13 2 k, Q48 3 2 1, Q77 4 3, Q77 6 4, Q68 7 y4, Q13 8 n5, Q118 9, Q68 30 y4, Q13 31 (length (FV.ses y4) : Int), Q13 32 0] [Q95 0 1 o0_0, Q95 1 1 o1_0, Q19 2 1 [(.fn (.func 149) [] [(false, [Q92]), (false, [(Q75 1 1)])])], Q51 3 4 t_0 t_1 t_2 4 t_3, Q69 4 4 0 [] 0] 5)))))) := by kernel_rfl
theorem zaa (x2 : Int) (x7 : FV) (x8 : Int) (x30 : FV) (x31 x32 h0_0 h1_0 h3_0 : Int) (h3_1 : List UInt8) (h3_2 : Int) (h3_3 : RW) (h4_0 : Int) (h4_1 : List UInt8) (h4_2 : Int) (r : TV) (Hs' : List AObj) : VQ z7b 151 2 r Hs' 1 ⟨[Q13 2 x2, Q48 3 2 1, Q77 4 3, Q77 6 4, Q68 7 x7, Q13 8 x8, Q118 9, Q68 30 x30, Q13 31 x31, Q13 32 x32], [Q95 0 1 h0_0, Q95 1 1 h1_0, Q19 2 1 [(.fn (.func 149) [] [(false, [Q92]), (false, [(Q75 1 1)])])], Q51 3 4 h3_0 h3_1 h3_2 4 h3_3, Q69 4 4 h4_0 h4_1 h4_2], 5⟩ =
  (br (decide ((x32 : Int) < x31)) (((FV.isSl 4 x30 = true) ∧ ((0 ≤ x32) ∧ ((x32 < (length (FV.ses x30) : Int)) ∧ (((rE (getD (FV.ses x30) (toNat x32) [])) : List FV) = (getD (FV.ses x30) (toNat x32) []))))) ∧ (∃ z1 : Tm, ((Q11 151 [.agg [(.fn (.func 149) [] [(false, [Q92]), (false, [(Q75 1 1)])])], (aE (getD (FV.ses x30) (toNat x32) [])), Q25 (IntKind.wrap .i64 (x2 + x8))] (Q107 h0_0 (Q91 h1_0)) (aT z1) (Q107 h0_0 (Q91 h1_0))) ∧ ((1 ≤ 1) ∧ ((z0k 1 56) ∧ (Q41 151 2 r Hs' 1 [Q13 2 x2, Q48 3 2 1, Q77 4 3, Q77 6 4, Q68 7 x7, Q13 8 x8, Q117 9 5 4 0 1, Q68 30 x30, Q13 31 x31, Q13 32 (IntKind.wrap .i64 (x32 + 1))] [Q95 0 1 h0_0, Q95 1 1 h1_0, Q19 2 1 [(.fn (.func 149) [] [(false, [Q92]), (false, [(Q75 1 1)])])], Q51 3 4 h3_0 h3_1 h3_2 4 h3_3, Q69 4 4 h4_0 h4_1 h4_2, Q20 5 4 [(FT4 z1)]] 6)))))) (br ((h3_0 : Int) == (6 : Int)) ((FV.isSl 4 .nils = true) ∧ (RT (.agg (Q45 h3_0 h3_1 h3_2)) (Q107 h0_0 (Q91 h1_0)) r Hs')) (RT (.agg (Q45 h3_0 h3_1 h3_2)) (Q107 h0_0 (Q91 h1_0)) r Hs'))) := by kernel_rfl
theorem zag (x2 : Int) (x7 : FV) (x8 : Int) (x9l : Nat) (x30 : FV) (x31 x32 h0_0 h1_0 h3_0 : Int) (h3_1 : List UInt8) (h3_2 : Int) (h3_3 : RW) (h4_0 : Int) (h4_1 : List UInt8) (h4_2 : Int) (h5 : RW) (r : TV) (Hs' : List AObj) : VQ z7b 151 2 r Hs' 1 ⟨[Q13 2 x2, Q48 3 2 1, Q77 4 3, Q77 6 4, Q68 7 x7, Q13 8 x8, Q117 9 5 4 0 x9l, Q68 30 x30, Q13 31 x31, Q13 32 x32], [Q95 0 1 h0_0, Q95 1 1 h1_0, Q19 2 1 [(.fn (.func 149) [] [(false, [Q92]), (false, [(Q75 1 1)])])], Q51 3 4 h3_0 h3_1 h3_2 4 h3_3, Q69 4 4 h4_0 h4_1 h4_2, Q20 5 4 h5], 6⟩ =
  (br (decide ((x32 : Int) < x31)) (((FV.isSl 4 x30 = true) ∧ ((0 ≤ x32) ∧ ((x32 < (length (FV.ses x30) : Int)) ∧ (((rE (getD (FV.ses x30) (toNat x32) [])) : List FV) = (getD (FV.ses x30) (toNat x32) []))))) ∧ (∃ z1 : Tm, ((Q11 151 [.agg [(.fn (.func 149) [] [(false, [Q92]), (false, [(Q75 1 1)])])], (aE (getD (FV.ses x30) (toNat x32) [])), Q25 (IntKind.wrap .i64 (x2 + x8))] (Q107 h0_0 (Q91 h1_0)) (aT z1) (Q107 h0_0 (Q91 h1_0))) ∧ ((1 ≤ 1) ∧ ((x9l ≤ (length h5) ∧ z0k (x9l + 1) 56) ∧ (Q41 151 2 r Hs' 1 [Q13 2 x2, Q48 3 2 1, Q77 4 3, Q77 6 4, Q68 7 x7, Q13 8 x8, Q117 9 5 4 0 (x9l + 1), Q68 30 x30, Q13 31 x31, Q13 32 (IntKind.wrap .i64 (x32 + 1))] [Q95 0 1 h0_0, Q95 1 1 h1_0, Q19 2 1 [(.fn (.func 149) [] [(false, [Q92]), (false, [(Q75 1 1)])])], Q51 3 4 h3_0 h3_1 h3_2 4 h3_3, Q69 4 4 h4_0 h4_1 h4_2, Q20 5 4 ((take x9l h5) ++ [(FT4 z1)])] 6)))))) (br ((h3_0 : Int) == (6 : Int)) (br (decide (((x9l : Int) : Int) > (1 : Int))) ((0 ≤ (0 : Int) ∧ (0 : Int) < (x9l : Int)) ∧ (((0 < (length h5)) ∧ ((([(Q1 (FV.asI (getD (getD h5 0 []) 0 FV.nils)))] : List FV) = (take 1 (drop 0 (getD h5 0 [])))) ∧ ((1 : Nat) = 1))) ∧ (br (((FV.asI (getD (getD h5 0 []) 0 FV.nils)) : Int) == (6 : Int)) (((FV.isSl 4 x7 = true) ∧ ((0 ≤ (0 : Int)) ∧ (((0 : Int) < (length (FV.ses x7) : Int)) ∧ (((rE (getD (FV.ses x7) 0 [])) : List FV) = (getD (FV.ses x7) 0 []))))) ∧ (br (((FV.asI (getD (getD (FV.ses x7) 0 []) 0 FV.nils)) : Int) != (6 : Int)) ((0 ≤ (0 : Int) ∧ (0 : Int) < (x9l : Int)) ∧ (((0 < (length h5)) ∧ ((((rE (getD h5 0 [])) : List FV) = (take 4 (drop 0 (getD h5 0 [])))) ∧ ((4 : Nat) = 4))) ∧ (((0 ≤ (1 : Int)) ∧ (((1 : Int) ≤ (x9l : Int)) ∧ ((x9l : Int) ≤ (x9l : Int)))) ∧ (((4 : Nat) = 4 ∧ (1 + ((toNat (x9l : Int)) - 1)) ≤ (length h5)) ∧ (∃ z2 : Tm, ((Q57 24 [(aE (getD h5 0 [])), Q76 4 (take ((toNat (x9l : Int)) - 1) (drop 1 h5))] (aT z2)) ∧ (RT (aT z2) (Q107 h0_0 (Q91 h1_0)) r Hs'))))))) (((4 : Nat) = 4 ∧ (0 + x9l) ≤ (length h5)) ∧ (RT (Q67 h3_0 h3_1 h3_2 (take x9l (drop 0 h5))) (Q107 h0_0 (Q91 h1_0)) r Hs')))) (((4 : Nat) = 4 ∧ (0 + x9l) ≤ (length h5)) ∧ (RT (Q67 h3_0 h3_1 h3_2 (take x9l (drop 0 h5))) (Q107 h0_0 (Q91 h1_0)) r Hs'))))) (((4 : Nat) = 4 ∧ (0 + x9l) ≤ (length h5)) ∧ (RT (Q67 h3_0 h3_1 h3_2 (take x9l (drop 0 h5))) (Q107 h0_0 (Q91 h1_0)) r Hs'))) (((4 : Nat) = 4 ∧ (0 + x9l) ≤ (length h5)) ∧ (RT (Q67 h3_0 h3_1 h3_2 (take x9l (drop 0 h5))) (Q107 h0_0 (Q91 h1_0)) r Hs')))) := by kernel_rfl
def lv140 : List (Nat × List Nat) := []
theorem v140 (c : Int) (r : TV) (Hs' : List AObj) : VE lv140 140 0 r Hs' [.c (Q0 (.int .u8 c))] [] =
  (br (decide ((c : Int) ≥ (48 : Int))) (Q58 (decide ((c : Int) ≤ (57 : Int))) r Hs') (Q62 r Hs')) := by kernel_rfl
def lv146 : List (Nat × List Nat) := []
theorem v146 (t_0 : Int) (t_1 : List UInt8) (t_2 : Int) (t_3 : RW) (o0_0l o0_1l : Nat) (o1 o2 : RW) (r : TV) (Hs' : List AObj) : VE lv146 146 3 r Hs' [Q102 2, Q67 t_0 t_1 t_2 t_3] (Q44 2 1 6 0 o0_0l 2 1 0 o0_1l o1 o2) =
  (∃ z1 : Int × Bool × Tm × Bool, ((Q39 19 (Q78 (Q102 2) t_2) (Q44 2 1 6 0 o0_0l 2 1 0 o0_1l o1 o2) (Q90 (Q122 z1.1 z1.2.1 z1.2.2.1.k z1.2.2.1.s z1.2.2.1.n (Q8 4 (FTs z1.2.2.1.l))) z1.2.2.2) (Q44 2 1 6 0 o0_0l 2 1 0 o0_1l o1 o2)) ∧ (br ((t_0 : Int) == (4 : Int)) (br z1.2.2.2 (Q42 (Q90 (cT z1.2.2.1) z1.2.1) (Q44 2 1 6 0 o0_0l 2 1 0 o0_1l o1 o2) r Hs') (Q42 (Q90 (cT z1.2.2.1) false) (Q44 2 1 6 0 o0_0l 2 1 0 o0_1l o1 o2) r Hs')) (Q42 (Q90 (cT z1.2.2.1) false) (Q44 2 1 6 0 o0_0l 2 1 0 o0_1l o1 o2) r Hs')))) := by kernel_rfl
def lv147 : List (Nat × List Nat) := []
theorem v147 (body_0 : Int) (body_1 : List UInt8) (body_2 : Int) (body_3 : RW) (arg_0 : Int) (arg_1 : List UInt8) (arg_2 : Int) (arg_3 : RW) (r : TV) (Hs' : List AObj) : VE lv147 147 0 r Hs' [Q67 body_0 body_1 body_2 body_3, Q67 arg_0 arg_1 arg_2 arg_3] [] =
  (∃ b1 : Bool, ((Q60 20 [Q67 body_0 body_1 body_2 body_3] b1) ∧ (br (!b1) (Q42 (Q54 (Q45 0 [] 0) (Q32 1)) [] r Hs') (∃ b2 : Bool, ((Q60 20 [Q67 arg_0 arg_1 arg_2 arg_3] b2) ∧ (br (!b2) (Q42 (Q54 (Q45 0 [] 0) (Q32 1)) [] r Hs') (∃ z3 : Tm × Int, ((Q39 165 [Q67 body_0 body_1 body_2 body_3, Q67 arg_0 arg_1 arg_2 arg_3] [] (Q54 (cT z3.1) (Q32 z3.2)) []) ∧ (Q42 (Q54 (cT z3.1) (Q32 z3.2)) [] r Hs'))))))))) := by kernel_rfl
def zs9 : List (Nat × List Nat) := [(3, [1, 5, 21, 22, 23])]
theorem v166 (t_0 : Int) (t_1 : List UInt8) (t_2 : Int) (t_3 : RW) (i : Int) (r : TV) (Hs' : List AObj) : VE zs9 166 0 r Hs' (Q78 (Q67 t_0 t_1 t_2 t_3) i) [] =
  (br ((t_0 : Int) == (3 : Int)) (br ((t_2 : Int) == i) (Q96 1 [] r Hs') ((FV.isSl 4 (Q5 4 t_3) = true) ∧ (Q41 166 0 r Hs' 3 [Q13 1 i, Q13 5 0, Q53 21 4 t_3, Q13 22 (length t_3 : Int), Q13 23 0] [] 0))) (br ((t_0 : Int) == (5 : Int)) ((FV.isSl 4 (Q5 4 t_3) = true) ∧ (Q41 166 0 r Hs' 3 [Q13 1 (IntKind.wrap .i64 (i + 1)), Q13 5 0, Q53 21 4 t_3, Q13 22 (length t_3 : Int), Q13 23 0] [] 0)) ((FV.isSl 4 (Q5 4 t_3) = true) ∧ (Q41 166 0 r Hs' 3 [Q13 1 i, Q13 5 0, Q53 21 4 t_3, Q13 22 (length t_3 : Int), Q13 23 0] [] 0)))) := by kernel_rfl
theorem zs2 (x1 x5 : Int) (x21 : RW) (x22 x23 : Int) (r : TV) (Hs' : List AObj) : VQ zs9 166 0 r Hs' 3 ⟨[Q13 1 x1, Q13 5 x5, Q53 21 4 x21, Q13 22 x22, Q13 23 x23], [], 0⟩ =
  (br (decide ((x23 : Int) < x22)) (((FV.isSl 4 (Q5 4 x21) = true) ∧ ((0 ≤ x23) ∧ ((x23 < (length x21 : Int)) ∧ (((rE (getD x21 (toNat x23) [])) : List FV) = (getD x21 (toNat x23) []))))) ∧ (∃ n1 : Int, ((Q57 166 (Q78 (aE (getD x21 (toNat x23) [])) x1) (Q25 n1)) ∧ (Q41 166 0 r Hs' 3 [Q13 1 x1, Q13 5 (IntKind.wrap .i64 (x5 + n1)), Q53 21 4 x21, Q13 22 x22, Q13 23 (IntKind.wrap .i64 (x23 + 1))] [] 0)))) (Q96 x5 [] r Hs')) := by kernel_rfl
def lv149 : List (Nat × List Nat) := []
theorem v149 (u_0 : Int) (u_1 : List UInt8) (u_2 : Int) (u_3 : RW) (k o0_0 o1_0 : Int) (r : TV) (Hs' : List AObj) : VE lv149 149 2 r Hs' [Q67 u_0 u_1 u_2 u_3, Q25 k, Q102 1, Q101 1 1] (Q107 o0_0 (Q91 o1_0)) =
  (br ((u_0 : Int) == (3 : Int)) (br (decide ((u_2 : Int) ≥ (IntKind.wrap .i64 (k + o0_0)))) (∃ z1 : Tm, ((Q57 150 (Q78 (Q67 u_0 u_1 u_2 u_3) o1_0) (aT z1)) ∧ (RT (aT z1) (Q107 o0_0 (Q91 o1_0)) r Hs'))) (RT (Q67 u_0 u_1 u_2 u_3) (Q107 o0_0 (Q91 o1_0)) r Hs')) (RT (Q67 u_0 u_1 u_2 u_3) (Q107 o0_0 (Q91 o1_0)) r Hs')) := by kernel_rfl
def lv165 : List (Nat × List Nat) := []
theorem v165 (body_0 : Int) (body_1 : List UInt8) (body_2 : Int) (body_3 : RW) (arg_0 : Int) (arg_1 : List UInt8) (arg_2 : Int) (arg_3 : RW) (r : TV) (Hs' : List AObj) : VE lv165 165 0 r Hs' [Q67 body_0 body_1 body_2 body_3, Q67 arg_0 arg_1 arg_2 arg_3] [] =
  (∃ n1 : Int, ((Q57 172 [Q67 body_0 body_1 body_2 body_3] (Q25 n1)) ∧ (∃ n2 : Int, ((Q57 166 (Q78 (Q67 body_0 body_1 body_2 body_3) 0) (Q25 n2)) ∧ (∃ n3 : Int, ((Q57 172 [Q67 arg_0 arg_1 arg_2 arg_3] (Q25 n3)) ∧ (br (decide (((IntKind.wrap .i64 (n1 + (IntKind.wrap .i64 (n2 * n3)))) : Int) > (4096 : Int))) (Q42 (Q54 (Q45 0 [] 0) (Q32 80)) [] r Hs') (∃ z4 : Tm, ((Q57 173 (Q59 (Q67 body_0 body_1 body_2 body_3) 0 (Q67 arg_0 arg_1 arg_2 arg_3)) (aT z4)) ∧ (Q42 (Q54 (cT z4) (Q32 0)) [] r Hs')))))))))) := by kernel_rfl
def lv150 : List (Nat × List Nat) := []
theorem v150 (t_0 : Int) (t_1 : List UInt8) (t_2 : Int) (t_3 : RW) (a1 : Int) (r : TV) (Hs' : List AObj) : VE lv150 150 0 r Hs' (Q78 (Q67 t_0 t_1 t_2 t_3) a1) [] =
  (RT (Q67 t_0 t_1 (IntKind.wrap .i64 (t_2 + a1)) t_3) [] r Hs') := by kernel_rfl
def zre : List (Nat × List Nat) := [(1, [3, 13, 14, 15])]
theorem v172 (t_0 : Int) (t_1 : List UInt8) (t_2 : Int) (t_3 : RW) (r : TV) (Hs' : List AObj) : VE zre 172 0 r Hs' [Q67 t_0 t_1 t_2 t_3] [] =
  (∃ y1 : FV, (∃ n2 : Int, ((Q39 88 [Q67 t_0 t_1 t_2 t_3] [] [Q18 [Q0 y1], Q32 n2] []) ∧ ((FV.isSl 4 y1 = true) ∧ (Q41 172 0 r Hs' 1 (Q65 (Q13 3 1) (Q68 13 y1) (Q13 14 (length (FV.ses y1) : Int)) 15 0) [] 0))))) := by kernel_rfl
theorem zuc (x3 : Int) (x13 : FV) (x14 x15 : Int) (r : TV) (Hs' : List AObj) : VQ zre 172 0 r Hs' 1 ⟨Q65 (Q13 3 x3) (Q68 13 x13) (Q13 14 x14) 15 x15, [], 0⟩ =
  (br (decide ((x15 : Int) < x14)) (((FV.isSl 4 x13 = true) ∧ ((0 ≤ x15) ∧ ((x15 < (length (FV.ses x13) : Int)) ∧ (((rE (getD (FV.ses x13) (toNat x15) [])) : List FV) = (getD (FV.ses x13) (toNat x15) []))))) ∧ (∃ n1 : Int, ((Q57 172 [(aE (getD (FV.ses x13) (toNat x15) []))] (Q25 n1)) ∧ (Q41 172 0 r Hs' 1 (Q65 (Q13 3 (IntKind.wrap .i64 (x3 + n1))) (Q68 13 x13) (Q13 14 x14) 15 (IntKind.wrap .i64 (x15 + 1))) [] 0)))) (Q96 x3 [] r Hs')) := by kernel_rfl
def lv173 : List (Nat × List Nat) := []
theorem v173 (t_0 : Int) (t_1 : List UInt8) (t_2 : Int) (t_3 : RW) (i s_0 : Int) (s_1 : List UInt8) (s_2 : Int) (s_3 : RW) (r : TV) (Hs' : List AObj) : VE lv173 173 0 r Hs' (Q59 (Q67 t_0 t_1 t_2 t_3) i (Q67 s_0 s_1 s_2 s_3)) [] =
  (∃ z1 : Tm, ((Q11 151 [.agg [(.fn (.func 176) [] [(false, [Q92]), (false, [(Q75 1 4)])])], Q67 t_0 t_1 t_2 t_3, Q25 0] (Q107 i (Q98 4 s_0 s_1 s_2 4 s_3)) (aT z1) (Q107 i (Q98 4 s_0 s_1 s_2 4 s_3))) ∧ (RT (aT z1) [] r Hs'))) := by kernel_rfl
theorem ztn (t_0 : Int) (t_1 : List UInt8) (t_2 : Int) (t_3 : RW) (k o0_0 o1_0 : Int) (o1_1 : List UInt8) (o1_2 : Int) (o1_3 : RW) (r : TV) (Hs' : List AObj) : VE z7b 151 2 r Hs' [.agg [(.fn (.func 176) [] [(false, [Q92]), (false, [(Q75 1 4)])])], Q67 t_0 t_1 t_2 t_3, Q25 k] (Q107 o0_0 (Q98 4 o1_0 o1_1 o1_2 4 o1_3)) =
  (br ((t_0 : Int) != (5 : Int)) (br ((t_0 : Int) != (6 : Int)) (∃ z1 : Tm, ((Q11 176 [Q67 t_0 t_1 t_2 t_3, Q25 k, Q102 1, Q101 1 4] (Q107 o0_0 (Q98 4 o1_0 o1_1 o1_2 4 o1_3)) (aT z1) (Q107 o0_0 (Q98 4 o1_0 o1_1 o1_2 4 o1_3))) ∧ (RT (aT z1) (Q107 o0_0 (Q98 4 o1_0 o1_1 o1_2 4 o1_3)) r Hs'))) (∃ y2 : FV, (∃ n3 : Int, ((Q39 88 [Q67 t_0 t_1 t_2 t_3] [] [Q18 [Q0 y2], Q32 n3] []) ∧ ((FV.isSl 4 y2 = true) ∧ (Q41 151 2 r Hs' 1 [Q13 2 k, Q48 3 2 1, Q77 4 3, Q77 6 4, Q68 7 y2, Q13 8 n3, Q118 9, Q68 30 y2, Q13 31 (length (FV.ses y2) : Int), Q13 32 0] [Q95 0 1 o0_0, Q51 1 4 o1_0 o1_1 o1_2 4 o1_3, Q19 2 1 [(.fn (.func 176) [] [(false, [Q92]), (false, [(Q75 1 4)])])], Q51 3 4 t_0 t_1 t_2 4 t_3, Q69 4 4 0 [] 0] 5)))))) (∃ y4 : FV, (∃ n5 : Int, ((Q39 88 [Q67 t_0 t_1 t_2 t_3] [] [Q18 [Q0 y4], Q32 n5] []) ∧ ((FV.isSl 4 y4 = true) ∧ (Q41 151 2 r Hs' 1 [Q13 2 k, Q48 3 2 1, Q77 4 3, Q77 6 4, Q68 7 y4, Q13 8 n5, Q118 9, Q68 30 y4, Q13 31 (length (FV.ses y4) : Int), Q13 32 0] [Q95 0 1 o0_0, Q51 1 4 o1_0 o1_1 o1_2 4 o1_3, Q19 2 1 [(.fn (.func 176) [] [(false, [Q92]), (false, [(Q75 1 4)])])], Q51 3 4 t_0 t_1 t_2 4 t_3, Q69 4 4 0 [] 0] 5)))))) := by kernel_rfl
theorem zae (x2 : Int) (x7 : FV) (x8 : Int) (x30 : FV) (x31 x32 h0_0 h1_0 : Int) (h1_1 : List UInt8) (h1_2 : Int) (h1_3 : RW) (h3_0 : Int) (h3_1 : List UInt8) (h3_2 : Int) (h3_3 : RW) (h4_0 : Int) (h4_1 : List UInt8) (h4_2 : Int) (r : TV) (Hs' : List AObj) : VQ z7b 151 2 r Hs' 1 ⟨[Q13 2 x2, Q48 3 2 1, Q77 4 3, Q77 6 4, Q68 7 x7, Q13 8 x8, Q118 9, Q68 30 x30, Q13 31 x31, Q13 32 x32], [Q95 0 1 h0_0, Q51 1 4 h1_0 h1_1 h1_2 4 h1_3, Q19 2 1 [(.fn (.func 176) [] [(false, [Q92]), (false, [(Q75 1 4)])])], Q51 3 4 h3_0 h3_1 h3_2 4 h3_3, Q69 4 4 h4_0 h4_1 h4_2], 5⟩ =
  (br (decide ((x32 : Int) < x31)) (((FV.isSl 4 x30 = true) ∧ ((0 ≤ x32) ∧ ((x32 < (length (FV.ses x30) : Int)) ∧ (((rE (getD (FV.ses x30) (toNat x32) [])) : List FV) = (getD (FV.ses x30) (toNat x32) []))))) ∧ (∃ z1 : Tm, ((Q11 151 [.agg [(.fn (.func 176) [] [(false, [Q92]), (false, [(Q75 1 4)])])], (aE (getD (FV.ses x30) (toNat x32) [])), Q25 (IntKind.wrap .i64 (x2 + x8))] (Q107 h0_0 (Q98 4 h1_0 h1_1 h1_2 4 h1_3)) (aT z1) (Q107 h0_0 (Q98 4 h1_0 h1_1 h1_2 4 h1_3))) ∧ ((1 ≤ 1) ∧ ((z0k 1 56) ∧ (Q41 151 2 r Hs' 1 [Q13 2 x2, Q48 3 2 1, Q77 4 3, Q77 6 4, Q68 7 x7, Q13 8 x8, Q117 9 5 4 0 1, Q68 30 x30, Q13 31 x31, Q13 32 (IntKind.wrap .i64 (x32 + 1))] [Q95 0 1 h0_0, Q51 1 4 h1_0 h1_1 h1_2 4 h1_3, Q19 2 1 [(.fn (.func 176) [] [(false, [Q92]), (false, [(Q75 1 4)])])], Q51 3 4 h3_0 h3_1 h3_2 4 h3_3, Q69 4 4 h4_0 h4_1 h4_2, Q20 5 4 [(FT4 z1)]] 6)))))) (br ((h3_0 : Int) == (6 : Int)) ((FV.isSl 4 .nils = true) ∧ (RT (.agg (Q45 h3_0 h3_1 h3_2)) (Q107 h0_0 (Q98 4 h1_0 h1_1 h1_2 4 h1_3)) r Hs')) (RT (.agg (Q45 h3_0 h3_1 h3_2)) (Q107 h0_0 (Q98 4 h1_0 h1_1 h1_2 4 h1_3)) r Hs'))) := by kernel_rfl
theorem zac (x2 : Int) (x7 : FV) (x8 : Int) (x9l : Nat) (x30 : FV) (x31 x32 h0_0 h1_0 : Int) (h1_1 : List UInt8) (h1_2 : Int) (h1_3 : RW) (h3_0 : Int) (h3_1 : List UInt8) (h3_2 : Int) (h3_3 : RW) (h4_0 : Int) (h4_1 : List UInt8) (h4_2 : Int) (h5 : RW) (r : TV) (Hs' : List AObj) : VQ z7b 151 2 r Hs' 1 ⟨[Q13 2 x2, Q48 3 2 1, Q77 4 3, Q77 6 4, Q68 7 x7, Q13 8 x8, Q117 9 5 4 0 x9l, Q68 30 x30, Q13 31 x31, Q13 32 x32], [Q95 0 1 h0_0, Q51 1 4 h1_0 h1_1 h1_2 4 h1_3, Q19 2 1 [(.fn (.func 176) [] [(false, [Q92]), (false, [(Q75 1 4)])])], Q51 3 4 h3_0 h3_1 h3_2 4 h3_3, Q69 4 4 h4_0 h4_1 h4_2, Q20 5 4 h5], 6⟩ =
  (br (decide ((x32 : Int) < x31)) (((FV.isSl 4 x30 = true) ∧ ((0 ≤ x32) ∧ ((x32 < (length (FV.ses x30) : Int)) ∧ (((rE (getD (FV.ses x30) (toNat x32) [])) : List FV) = (getD (FV.ses x30) (toNat x32) []))))) ∧ (∃ z1 : Tm, ((Q11 151 [.agg [(.fn (.func 176) [] [(false, [Q92]), (false, [(Q75 1 4)])])], (aE (getD (FV.ses x30) (toNat x32) [])), Q25 (IntKind.wrap .i64 (x2 + x8))] (Q107 h0_0 (Q98 4 h1_0 h1_1 h1_2 4 h1_3)) (aT z1) (Q107 h0_0 (Q98 4 h1_0 h1_1 h1_2 4 h1_3))) ∧ ((1 ≤ 1) ∧ ((x9l ≤ (length h5) ∧ z0k (x9l + 1) 56) ∧ (Q41 151 2 r Hs' 1 [Q13 2 x2, Q48 3 2 1, Q77 4 3, Q77 6 4, Q68 7 x7, Q13 8 x8, Q117 9 5 4 0 (x9l + 1), Q68 30 x30, Q13 31 x31, Q13 32 (IntKind.wrap .i64 (x32 + 1))] [Q95 0 1 h0_0, Q51 1 4 h1_0 h1_1 h1_2 4 h1_3, Q19 2 1 [(.fn (.func 176) [] [(false, [Q92]), (false, [(Q75 1 4)])])], Q51 3 4 h3_0 h3_1 h3_2 4 h3_3, Q69 4 4 h4_0 h4_1 h4_2, Q20 5 4 ((take x9l h5) ++ [(FT4 z1)])] 6)))))) (br ((h3_0 : Int) == (6 : Int)) (br (decide (((x9l : Int) : Int) > (1 : Int))) ((0 ≤ (0 : Int) ∧ (0 : Int) < (x9l : Int)) ∧ (((0 < (length h5)) ∧ ((([(Q1 (FV.asI (getD (getD h5 0 []) 0 FV.nils)))] : List FV) = (take 1 (drop 0 (getD h5 0 [])))) ∧ ((1 : Nat) = 1))) ∧ (br (((FV.asI (getD (getD h5 0 []) 0 FV.nils)) : Int) == (6 : Int)) (((FV.isSl 4 x7 = true) ∧ ((0 ≤ (0 : Int)) ∧ (((0 : Int) < (length (FV.ses x7) : Int)) ∧ (((rE (getD (FV.ses x7) 0 [])) : List FV) = (getD (FV.ses x7) 0 []))))) ∧ (br (((FV.asI (getD (getD (FV.ses x7) 0 []) 0 FV.nils)) : Int) != (6 : Int)) ((0 ≤ (0 : Int) ∧ (0 : Int) < (x9l : Int)) ∧ (((0 < (length h5)) ∧ ((((rE (getD h5 0 [])) : List FV) = (take 4 (drop 0 (getD h5 0 [])))) ∧ ((4 : Nat) = 4))) ∧ (((0 ≤ (1 : Int)) ∧ (((1 : Int) ≤ (x9l : Int)) ∧ ((x9l : Int) ≤ (x9l : Int)))) ∧ (((4 : Nat) = 4 ∧ (1 + ((toNat (x9l : Int)) - 1)) ≤ (length h5)) ∧ (∃ z2 : Tm, ((Q57 24 [(aE (getD h5 0 [])), Q76 4 (take ((toNat (x9l : Int)) - 1) (drop 1 h5))] (aT z2)) ∧ (RT (aT z2) (Q107 h0_0 (Q98 4 h1_0 h1_1 h1_2 4 h1_3)) r Hs'))))))) (((4 : Nat) = 4 ∧ (0 + x9l) ≤ (length h5)) ∧ (RT (Q67 h3_0 h3_1 h3_2 (take x9l (drop 0 h5))) (Q107 h0_0 (Q98 4 h1_0 h1_1 h1_2 4 h1_3)) r Hs')))) (((4 : Nat) = 4 ∧ (0 + x9l) ≤ (length h5)) ∧ (RT (Q67 h3_0 h3_1 h3_2 (take x9l (drop 0 h5))) (Q107 h0_0 (Q98 4 h1_0 h1_1 h1_2 4 h1_3)) r Hs'))))) (((4 : Nat) = 4 ∧ (0 + x9l) ≤ (length h5)) ∧ (RT (Q67 h3_0 h3_1 h3_2 (take x9l (drop 0 h5))) (Q107 h0_0 (Q98 4 h1_0 h1_1 h1_2 4 h1_3)) r Hs'))) (((4 : Nat) = 4 ∧ (0 + x9l) ≤ (length h5)) ∧ (RT (Q67 h3_0 h3_1 h3_2 (take x9l (drop 0 h5))) (Q107 h0_0 (Q98 4 h1_0 h1_1 h1_2 4 h1_3)) r Hs')))) := by kernel_rfl
def lv176 : List (Nat × List Nat) := []
theorem v176 (u_0 : Int) (u_1 : List UInt8) (u_2 : Int) (u_3 : RW) (k o0_0 o1_0 : Int) (o1_1 : List UInt8) (o1_2 : Int) (o1_3 : RW) (r : TV) (Hs' : List AObj) : VE lv176 176 2 r Hs' [Q67 u_0 u_1 u_2 u_3, Q25 k, Q102 1, Q101 1 4] (Q107 o0_0 (Q98 4 o1_0 o1_1 o1_2 4 o1_3)) =
  (br ((u_0 : Int) != (3 : Int)) (RT (Q67 u_0 u_1 u_2 u_3) (Q107 o0_0 (Q98 4 o1_0 o1_1 o1_2 4 o1_3)) r Hs') (br (decide ((u_2 : Int) < (IntKind.wrap .i64 (k + o0_0)))) (RT (Q67 u_0 u_1 u_2 u_3) (Q107 o0_0 (Q98 4 o1_0 o1_1 o1_2 4 o1_3)) r Hs') (br ((u_2 : Int) == (IntKind.wrap .i64 (k + o0_0))) (∃ z1 : Tm, ((Q57 131 (Q59 (Q67 o1_0 o1_1 o1_2 o1_3) 0 (Q25 k)) (aT z1)) ∧ (RT (aT z1) (Q107 o0_0 (Q98 4 o1_0 o1_1 o1_2 4 o1_3)) r Hs'))) (∃ z2 : Tm, ((Q57 150 (Q78 (Q67 u_0 u_1 u_2 u_3) (-1 : Int)) (aT z2)) ∧ (RT (aT z2) (Q107 o0_0 (Q98 4 o1_0 o1_1 o1_2 4 o1_3)) r Hs')))))) := by kernel_rfl
end Go.AM

set_option maxRecDepth 100000
open Go Go.Proofs

set_option maxRecDepth 100000
open Go Go.Proofs
