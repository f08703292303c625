/- A calculus of plain values for the model's code, what the code of each function asks (computed by the kernel), contracts of the functions, and plain laws (part 3). No conditions. -/
import Derived.Test.YtdpjhpfjmjhhkaaGreatPart2
import Derived.IntWalk
import Derived.RangeFuncIn
namespace Go.AM
def Code.lwp (P : Program) (c : Code) (Q : Exit → Act → World → Prop) (a : Act) (w : World) : Prop :=
 ∀ (b : Frame) (k : List Item) (cs : List Frame),
  ∃ e a' w', Q e a' w' ∧ Arrives P (lone (b.at a (.code c :: .inLoop c :: k)) cs w) b k cs e a' w'
theorem lwp_wp {P : Program} {c : Code} {Q : Exit → Act → World → Prop} {a : Act} {w : World} (h : Code.lwp P c Q a w) : (Code.loop c).wp P Q a w := fun b k cs => by
 obtain ⟨e, a', w', hq, harr⟩ := h b k cs
 exact ⟨e, a', w', hq, .of_steps (.one step_loop) harr⟩
theorem zlm {P : Program} {c : Code} {Q : Exit → Act → World → Prop} {a : Act} {w : World} (h : c.wp P (Exit.then (Code.lwp P c Q) Q) a w) : Code.lwp P c Q a w := fun b k cs => by
 obtain ⟨e, a₁, w₁, hq, harr⟩ := h b (.inLoop c :: k) cs
 cases e with
 | normal =>
  obtain ⟨e₂, a₂, w₂, hq₂, harr₂⟩ := hq b k cs
  exact ⟨e₂, a₂, w₂, hq₂, .of_steps (Steps.trans harr (.one step_inLoop)) harr₂⟩
 | exit id => exact ⟨_, a₁, w₁, hq, .pass (x := .inLoop c) rfl (fun _ _ => .inl (by simp)) harr⟩
 | goto l => exact ⟨_, a₁, w₁, hq, .pass (x := .inLoop c) rfl (fun _ _ => .inl (by simp)) harr⟩
 | ret => exact ⟨_, a₁, w₁, hq, .pass (x := .inLoop c) rfl (fun _ _ => .inl (by simp)) harr⟩
 | panic ch => exact ⟨_, a₁, w₁, hq, .pass (x := .inLoop c) rfl (fun _ _ => .inl (by simp)) harr⟩
 | outgrown => exact ⟨_, a₁, w₁, hq, .pass (x := .inLoop c) rfl (fun _ _ => .inl (by simp)) harr⟩
section
variable {P : Program} {n m : Nat} {c : Code} {Q : AExit → St → Prop} {s : St}
def Alwp (P : Program) (n m : Nat) (c : Code) (Q : AExit → St → Prop) (s : St) : Prop :=
 ∀ (w0 : World) (foot Y : Nat → Prop) (pin : Nat → Option (Option Nat)) (β : Nat → Option Nat) (a : Act) (w : World), (∀ o b, pin o = some b → o < m) → a.tmps.size = n → RelF P w0 foot Y pin (look s.env) (hook s.heap) β a w → (∀ k, Occ pin β k → k < s.nx) →
  Code.lwp P c (Lift P w0 foot Y pin n Q) a w
theorem Alwp.loop (h : Alwp P n m c Q s) : Awp P n m (.loop c) Q s := fun w0 foot Y pin β a w hm hn hR hb => lwp_wp (h w0 foot Y pin β a w hm hn hR hb)
theorem Alwp.unroll (h : Awp P n m c (za5 (Alwp P n m c Q) Q) s) : Alwp P n m c Q s := fun w0 foot Y pin β a w hm hn hR hb => by
 refine zlm (wp_mono (h w0 foot Y pin β a w hm hn hR hb) fun e a' w' hq => ?_)
 cases e with
 | normal => obtain ⟨s', β', h1, h2, h3, h4⟩ := hq; exact h1 w0 foot Y pin β' a' w' hm h2 h3 h4
 | exit i => exact hq
 | ret => exact hq
 | _ => exact hq.elim
theorem Alwp.weak {s' : St} (hs : Sle m s s') (h : Alwp P n m c Q s') : Alwp P n m c Q s := fun w0 foot Y pin _ a w hm hn hR _ =>
 let ⟨β', h1, h2⟩ := z8l hs hm hR
 h w0 foot Y pin β' a w hm hn h1 h2
theorem Awp.look {e1 e2 : Env} {h : AHeap} {nx : Nat} (he : look e1 = look e2) (hA : Awp P n m c Q ⟨e1, h, nx⟩) : Awp P n m c Q ⟨e2, h, nx⟩ := fun w0 foot Y pin β a w hm hn hR hb =>
 hA w0 foot Y pin β a w hm hn (by show RelF _ _ _ _ _ (Go.AM.look e1) _ _ _ _; rw [he]; exact hR) hb
def eqQ (Q : AExit → St → Prop) (e : AExit) (s : St) : Prop := ∃ e2, Go.AM.look e2 = Go.AM.look s.env ∧ Q e ⟨e2, s.heap, s.nx⟩
theorem Awp.uneq (h : Awp P n m c (eqQ Q) s) : Awp P n m c Q s := fun w0 foot Y pin β a w hm hn hR hb => by
 refine wp_mono (h w0 foot Y pin β a w hm hn hR hb) fun e a' w' hq => ?_
 have key : ∀ x, At P w0 foot Y pin n (eqQ Q x) a' w' → At P w0 foot Y pin n (Q x) a' w' := by
  rintro x ⟨s', β', ⟨e2, h1, h2⟩, h3, h4, h5⟩
  exact ⟨_, β', h2, h3, by show RelF _ _ _ _ _ (Go.AM.look e2) _ _ _ _; rw [h1]; exact h4, h5⟩
 cases e with
 | normal => exact key _ hq
 | exit i => exact key _ hq
 | ret => exact key _ hq
 | _ => exact hq.elim
end
def pts : Code → List Nat
 | .region i _ _ => [2 * i]
 | .seq a b => pts a ++ pts b
 | .cond _ a b => pts a ++ pts b
 | .block i c => (2 * i + 1) :: pts c
 | .loop c => pts c
 | _ => []
def isLoop : Code → Bool | .loop _ => true | .rangeFunc .. => true | _ => false
def headA (P : Program) (n m : Nat) : Code → (AExit → St → Prop) → St → Prop
 | .loop c, Q, s => Alwp P n m c Q s
 | .rangeFunc g ps a b, Q, s => Awp P n m (.rangeFunc g ps a b) Q s
 | _, _, _ => False
theorem headA.weak {P : Program} {n m : Nat} {c : Code} {Q : AExit → St → Prop} {s s' : St} (hs : Sle m s s') (h : headA P n m c Q s') : headA P n m c Q s := by
 cases c with
 | loop c => exact Alwp.weak hs h
 | rangeFunc g ps a b => exact Awp.weak hs h
 | _ => exact h.elim
theorem headA.awp {P : Program} {n m : Nat} {c : Code} {Q : AExit → St → Prop} {s : St} (h : headA P n m c Q s) : Awp P n m c Q s := by
 cases c with
 | loop c => exact Alwp.loop h
 | rangeFunc g ps a b => exact h
 | _ => exact h.elim
def rz (P : Program) (n m : Nat) : Code → Nat → (AExit → St → Prop) → St → Prop
 | .region i ops d, p, Q, s => p = 2 * i ∧ Awp P n m (.region i ops d) Q s
 | .seq a b, p, Q, s => if (pts a).contains p then rz P n m a p (za5 (Awp P n m b Q) Q) s else rz P n m b p Q s
 | .cond _ a b, p, Q, s => if (pts a).contains p then rz P n m a p Q s else rz P n m b p Q s
 | .block i c, p, Q, s => if p = 2 * i + 1 then headA P n m c (z0v i Q) s else rz P n m c p (z0v i Q) s
 | .loop c, p, Q, s => rz P n m c p (za5 (Alwp P n m c Q) Q) s
 | _, _, _, _ => False
theorem z77 {P : Program} {n m : Nat} : ∀ {c : Code} {p : Nat} {Q : AExit → St → Prop} {s s' : St}, Sle m s s' → rz P n m c p Q s' → rz P n m c p Q s
 | .region i ops d, p, Q, s, s', hs, h => ⟨h.1, h.2.weak hs⟩
 | .seq a b, p, Q, s, s', hs, h => by
  unfold rz at h ⊢
  split
  · rename_i hc; rw [if_pos hc] at h; exact z77 hs h
  · rename_i hc; rw [if_neg hc] at h; exact z77 hs h
 | .cond x a b, p, Q, s, s', hs, h => by
  unfold rz at h ⊢
  split
  · rename_i hc; rw [if_pos hc] at h; exact z77 hs h
  · rename_i hc; rw [if_neg hc] at h; exact z77 hs h
 | .block i c, p, Q, s, s', hs, h => by
  unfold rz at h ⊢
  split
  · rename_i hc; rw [if_pos hc] at h; exact headA.weak hs h
  · rename_i hc; rw [if_neg hc] at h; exact z77 hs h
 | .loop c, p, Q, s, s', hs, h => by unfold rz at h ⊢; exact z77 hs h
 | .skip, _, _, _, _, _, h => h.elim
 | .rangeFunc .., _, _, _, _, _, h => h.elim
 | .exit _, _, _, _, _, _, h => h.elim
 | .scope _, _, _, _, _, _, h => h.elim
 | .label _, _, _, _, _, _, h => h.elim
 | .goto _, _, _, _, _, _, h => h.elim
 | .ret, _, _, _, _, _, h => h.elim
 | .refuse _, _, _, _, _, _, h => h.elim
def RPt (P : Program) (f : FuncId) (m : Nat) (r : TV) (Hs' : List AObj) (p : Nat) (s : St) : Prop :=
 ∃ (fn : Func) (c : Code), P.funcs[f]? = some fn ∧ fn.body = some c ∧ rz P fn.ntmps m c p (Ret P fn.results.toList m r Hs') s
def invU (m : Nat) (rest : List Nat) (o : Nat) : Nat := match rest.contains o with | true => m + rest.idxOf o | false => o
def outU (m : Nat) (rest : List Nat) (o : Nat) : Nat := sub (List.range m ++ rest) 0 o
def okU (m : Nat) (U rest : List Nat) : Bool := z6t rest && rest.all fun o => Nat.ble m o || U.contains o
def z8e (m : Nat) (U rest : List Nat) (h : Nat → AObj) : List AObj := ((List.range m).map fun o => match U.contains o with | true => AObj.gone | false => (h o).ren (invU m rest)) ++ rest.map fun o => (h o).ren (invU m rest)
def lvU (lv : List (Nat × List Nat)) : List Nat := match z0m lv 1000001 with | some l => l | none => []
theorem z5o {m : Nat} {U rest : List Nat} {h : Nat → AObj} : (z8e m U rest h).length = m + rest.length := by simp [z8e]
theorem zdv {m : Nat} {rest : List Nat} {o : Nat} (h : o < m) : outU m rest o = o := by
 simp only [outU, sub, List.length_append, List.length_range, show o < m + rest.length by omega, if_true, List.getD]
 rw [List.getElem?_append_left (by simpa using h), List.getElem?_range h]; rfl
theorem zrd {m : Nat} {rest : List Nat} {j o : Nat} (h : rest[j]? = some o) : outU m rest (m + j) = o := by
 have hj := (List.getElem?_eq_some_iff.1 h).1
 simp only [outU, sub, List.length_append, List.length_range, show m + j < m + rest.length by omega, if_true, List.getD]
 rw [List.getElem?_append_right (by simp), List.length_range, Nat.add_sub_cancel_left, h]; rfl
theorem backU {m : Nat} {U rest : List Nat} : Back (keep m U ++ rest) (invU m rest) (outU m rest) (m + rest.length) := by
 intro o ho
 unfold invU
 split
 · rename_i hc
   simp only [List.contains_eq_mem, decide_eq_true_eq] at hc
   have h1 : rest.idxOf o < rest.length := List.idxOf_lt_length_iff.2 hc
   refine ⟨by omega, zrd ?_⟩
   rw [List.getElem?_eq_getElem h1, List.getElem_idxOf h1]
 · rename_i hc
   have hk : o ∈ keep m U := by
    simp only [List.contains_eq_mem, decide_eq_true_eq, List.mem_append] at ho
    exact ho.resolve_right fun h => by simp [h] at hc
   have hm : o < m := by
    have := (List.mem_filter.1 hk).1
    simpa using this
   exact ⟨by omega, zdv hm⟩
theorem zkx {m : Nat} {U : List Nat} {o : Nat} : o ∈ keep m U ↔ o < m ∧ U.contains o = false := by simp [keep]
theorem z60 {m : Nat} {U rest : List Nat} {h : Nat → AObj} {j : Nat} {x : AObj} (hx : (z8e m U rest h)[j]? = some x) (hl : isLive x) :
  j < m + rest.length ∧ x = (h (outU m rest j)).ren (invU m rest) ∧ ((j ∈ keep m U ∧ outU m rest j = j) ∨ (m ≤ j ∧ rest[j - m]? = some (outU m rest j))) := by
 have hlt := (List.getElem?_eq_some_iff.1 hx).1
 rw [z5o] at hlt
 refine ⟨hlt, ?_⟩
 by_cases hj : j < m
 · unfold z8e at hx
   rw [List.getElem?_append_left (by simpa using hj), List.getElem?_map, List.getElem?_range hj] at hx
   simp only [Option.map_some, Option.some.injEq] at hx
   rw [zdv hj]
   split at hx
   · subst hx; exact hl.elim
   · rename_i hu
     exact ⟨hx.symm, .inl ⟨zkx.2 ⟨hj, by simpa using hu⟩, rfl⟩⟩
 · unfold z8e at hx
   rw [List.getElem?_append_right (by simp; omega), List.length_map, List.length_range, List.getElem?_map] at hx
   obtain ⟨o, ho, rfl⟩ := Option.map_eq_some_iff.1 hx
   have := zrd (m := m) ho
   rw [show m + (j - m) = j by omega] at this
   rw [this]
   exact ⟨rfl, .inr ⟨by omega, ho⟩⟩
theorem zg3 {m : Nat} {U rest : List Nat} {h : Nat → AObj} (hok : okU m U rest = true) {j j' : Nat} {x x' : AObj} (hx : (z8e m U rest h)[j]? = some x) (hl : isLive x) (hx' : (z8e m U rest h)[j']? = some x') (hl' : isLive x')
  (e : outU m rest j = outU m rest j') : j = j' := by
 simp only [okU, Bool.and_eq_true, List.all_eq_true, Bool.or_eq_true] at hok
 have apart : ∀ o, o ∈ keep m U → o ∈ rest → False := fun o h1 h2 => by
  have h1 := zkx.1 h1
  rcases hok.2 o h2 with h3 | h3
  · have := Nat.le_of_ble_eq_true h3; omega
  · rw [h1.2] at h3; cases h3
 obtain ⟨_, _, g⟩ := z60 hx hl
 obtain ⟨_, _, g'⟩ := z60 hx' hl'
 rcases g with ⟨g1, g2⟩ | ⟨g1, g2⟩ <;> rcases g' with ⟨g1', g2'⟩ | ⟨g1', g2'⟩
 · rw [← g2, e, g2']
 · exact (apart _ g1 (by rw [← g2, e]; exact List.mem_of_getElem? g2')).elim
 · exact (apart _ g1' (by rw [← g2', ← e]; exact List.mem_of_getElem? g2)).elim
 · rw [e] at g2
   have := z8g (z2p hok.1) g2 g2'
   omega
theorem zgp {m : Nat} {U rest : List Nat} {h : Nat → AObj} {j : Nat} {x : AObj} (hx : (z8e m U rest h)[j]? = some x) (hl : isLive x) : outU m rest j ∈ keep m U ++ rest := by
 rcases (z60 hx hl).2.2 with ⟨g1, g2⟩ | ⟨_, g2⟩
 · rw [g2]; exact List.mem_append_left _ g1
 · exact List.mem_append_right _ (List.mem_of_getElem? g2)
def z7j (m : Nat) (lv : List (Nat × List Nat)) (G : Nat → St → Prop) (p : Nat) (s : St) : Prop :=
 match z0m lv p with
 | none => False
 | some live => match z89 m (lvU lv) (hook s.heap) (live.flatMap fun t => (look s.env t).ids) with
  | rest => match okU m (lvU lv) rest && (keep m (lvU lv) ++ rest).all (fun o => (hook s.heap o).inn (keep m (lvU lv) ++ rest)) && live.all (fun t => (look s.env t).inn (keep m (lvU lv) ++ rest)) with
   | true => G p ⟨live.map fun t => (t, (look s.env t).ren (invU m rest)), z1k 0 (z8e m (lvU lv) rest (hook s.heap)), m + rest.length⟩
   | false => False
theorem z2m : ∀ {l : List AObj} {k : Nat} {p : Nat × AObj}, p ∈ z1k k l → ∃ j, p.1 = k + j ∧ l[j]? = some p.2
 | [], _, _, hp => by cases hp
 | o :: l, k, p, hp => by
  rcases List.mem_cons.1 hp with rfl | hp
  · exact ⟨0, rfl, rfl⟩
  · obtain ⟨j, h1, h2⟩ := z2m hp
    exact ⟨j + 1, by omega, by simpa using h2⟩
theorem zcy (x : TV) : x.lend [] = x := by
 have := z1h [x]
 simpa using this
theorem zlt (x : AObj) : x.lend [] = x := by
 have hw : ∀ y : WV, y.lend [] = y := fun y => by
  have := zcy (.c y); simp only [TV.lend, TV.c.injEq] at this; exact this
 cases x with
 | arr n es => simp only [AObj.lend, show WV.lend [] = id from funext hw, List.map_id, List.map_id']
 | _ => rfl
theorem z8h {m : Nat} {lv : List (Nat × List Nat)} {G : Nat → St → Prop} {p : Nat} {s : St} (hg : z7j m lv G p s) : ∃ s', Sle m s s' ∧ G p s' := by
 unfold z7j at hg
 split at hg
 · exact hg.elim
 · rename_i live hlv
   generalize z89 _ _ _ _ = rest at hg
   generalize lvU lv = U at hg
   simp only at hg
   split at hg
   · rename_i hb
     simp only [Bool.and_eq_true] at hb
     obtain ⟨⟨h1, h2⟩, h3⟩ := hb
     refine ⟨_, ⟨outU m rest, [], (fun p hp => by cases hp), Nat.le_add_right _ _, fun o ho => zdv ho, fun q hq => ?_, fun q hq hl => ?_, fun q hq q' hq' hl hl' e => ?_⟩, hg⟩
     · obtain ⟨t, ht, rfl⟩ := List.mem_map.1 hq
       have := TV.renV (backU (m := m) (U := U) (rest := rest)) (List.all_eq_true.1 h3 t ht)
       rw [zcy]
       exact ⟨by rw [this.1]; exact .refl _, this.2⟩
     · obtain ⟨j, e1, e2⟩ := z2m hq
       obtain ⟨g1, g2, _⟩ := z60 e2 hl
       have := AObj.renV (backU (m := m) (U := U) (rest := rest)) (List.all_eq_true.1 h2 _ (zgp e2 hl))
       rw [Nat.zero_add] at e1
       rw [e1, g2]
       exact ⟨g1, by rw [zlt, this.1], this.2, (fun q hq => by cases hq)⟩
     · obtain ⟨j, e1, e2⟩ := z2m hq
       obtain ⟨j', e1', e2'⟩ := z2m hq'
       rw [Nat.zero_add] at e1 e1'
       rw [e1, e1'] at e ⊢
       exact zg3 h1 e2 hl e2' hl' e
   · exact hg.elim
def retV (P : Program) (own : Bool) (rl : List ResultVar) (m : Nat) (U : List Nat) (R : TV → List AObj → Prop) (s : St) : Prop :=
 match zgu P s rl with
 | none => False
 | some rs => match own with
  | false => asksA (hook s.heap) rs (match z89 m U (hook s.heap) ((rs.map fun x => (givT (hook s.heap) x).1).flatMap TV.ids) with
   | rest => match okU m U rest && (keep m U ++ rest).all (fun o => (hook s.heap o).inn (keep m U ++ rest)) && (rs.map fun x => (givT (hook s.heap) x).1).all (TV.inn (keep m U ++ rest)) && (rs.flatMap (za2 (hook s.heap))).all (fun p => !(keep m U ++ rest).contains p.1) with
    | true => match zi4 ((rs.map fun x => (givT (hook s.heap) x).1).map (TV.ren (invU m rest))) with
     | some r0 => R r0 (z8e m U rest (hook s.heap))
     | none => False
    | false => False)
  | true => match z89 m U (hook s.heap) (rs.flatMap TV.ids) with
   | rest => match okU m U rest && (keep m U ++ rest).all (fun o => (hook s.heap o).inn (keep m U ++ rest)) && rs.all (TV.inn (keep m U ++ rest)) with
    | true => match zi4 (rs.map (TV.ren (invU m rest))) with
     | some r0 => R r0 (z8e m U rest (hook s.heap))
     | none => False
    | false => False
theorem lend_inn {ids : List Nat} {E : Lent} (hd : ∀ p ∈ E, p.1 ∉ ids) {x : AObj} (hx : x.inn ids = true) : x.lend E = x := by
 have hw : ∀ y : WV, y.inn ids = true → y.lend E = y := fun y hy => by
  cases y with
  | fn f a b => rfl
  | a y => cases y with
   | osl o n off len =>
    simp only [WV.inn, AV.inn, List.contains_eq_mem, decide_eq_true_eq] at hy
    simp only [WV.lend, AV.lend]
    rw [z8y]
    intro p hp e
    exact hd p hp (e ▸ hy)
   | _ => rfl
 cases x with
 | arr n es =>
  simp only [AObj.inn, List.all_eq_true] at hx
  simp only [AObj.lend]
  congr 1
  conv => rhs; rw [← List.map_id es]
  refine List.map_congr_left fun e he => ?_
  conv => rhs; rw [id, ← List.map_id e]
  exact List.map_congr_left fun y hy => hw y (hx e he y hy)
 | _ => rfl
theorem zgt {α β : Type} {R : α → β → Prop} {g : α → β} : ∀ {l : List α}, (∀ x ∈ l, R x (g x)) → All2 R l (l.map g)
 | [], _ => trivial
 | x :: _, h => ⟨h x List.mem_cons_self, zgt fun y hy => h y (List.mem_cons_of_mem _ hy)⟩
theorem zeu {P : Program} {rl : List ResultVar} {m : Nat} {U : List Nat} {r r0 : TV} {s : St} {rs rs1 : List TV} {E : Lent} {rest : List Nat} (hrs : zgu P s rl = some rs) (hl : rs.map (TV.lend E) = rs1) (hE : E.ok (hook s.heap)) (h1 : okU m U rest = true)
  (h2 : ((keep m U ++ rest).all fun o => (hook s.heap o).inn (keep m U ++ rest)) = true) (h3 : rs1.all (TV.inn (keep m U ++ rest)) = true)
  (hdis : ∀ p ∈ E, p.1 ∉ keep m U ++ rest) (hr0 : zi4 (rs1.map (TV.ren (invU m rest))) = some r0) (hle : TV.Le r0 r) : znd P rl m r (z8e m U rest (hook s.heap)) s := by
 refine ⟨rs, _, outU m rest, E, r0, hrs, hr0, hle, hE, ?_, fun o ho => zdv ho, fun q hq hl => ?_, fun q hq q' hq' hl hl' e => ?_⟩
 · rw [← hl, List.map_map]
   refine zgt fun x hx => ?_
   have hx2 : (x.lend E).inn (keep m U ++ rest) = true := by
    rw [← hl] at h3
    exact List.all_eq_true.1 h3 _ (List.mem_map.2 ⟨x, hx, rfl⟩)
   have := TV.renV (backU (m := m) (U := U) (rest := rest)) hx2
   simp only [Function.comp, z5o]
   exact ⟨by rw [this.1]; exact .refl _, this.2⟩
 · obtain ⟨j, e1, e2⟩ := z2m hq
   obtain ⟨g1, g2, _⟩ := z60 e2 hl
   have hmem := zgp e2 hl
   have hinn := List.all_eq_true.1 h2 _ hmem
   have := AObj.renV (backU (m := m) (U := U) (rest := rest)) hinn
   rw [Nat.zero_add] at e1
   rw [e1, g2, z5o]
   exact ⟨g1, by rw [lend_inn hdis hinn, this.1], this.2, fun p hp e => hdis p hp (e ▸ hmem)⟩
 · obtain ⟨j, e1, e2⟩ := z2m hq
   obtain ⟨j', e1', e2'⟩ := z2m hq'
   rw [Nat.zero_add] at e1 e1'
   rw [e1, e1'] at e ⊢
   exact zg3 h1 e2 hl e2' hl' e
theorem zke {P : Program} {own : Bool} {rl : List ResultVar} {m : Nat} {U : List Nat} {r : TV} {Hs' : List AObj} {s : St} (h : retV P own rl m U (fun r0 Hs0 => TV.Le r0 r ∧ Hs0 = Hs') s) : znd P rl m r Hs' s := by
 unfold retV at h
 split at h
 · exact h.elim
 · rename_i rs hrs
   split at h
   · obtain ⟨hl, h⟩ := zbq (L := rs.flatMap (za2 (hook s.heap))) z7o (fun p hp => hp) h
     generalize z89 _ _ _ _ = rest at h
     simp only at h
     split at h
     · rename_i hb
       simp only [Bool.and_eq_true] at hb
       obtain ⟨⟨⟨h1, h2⟩, h3⟩, h5⟩ := hb
       have hdis : ∀ p ∈ rs.flatMap (za2 (hook s.heap)), p.1 ∉ keep m U ++ rest := fun p hp hm => by
        have := List.all_eq_true.1 h5 p hp
        simp only [Bool.not_eq_true', List.contains_eq_mem, decide_eq_false_iff_not] at this
        exact this hm
       split at h
       · rename_i r0 hr0
         obtain ⟨hle, rfl⟩ := h
         exact zeu hrs hl z7o.ok h1 h2 h3 hdis hr0 hle
       · exact h.elim
     · exact h.elim
   · generalize z89 _ _ _ _ = rest at h
     simp only at h
     split at h
     · rename_i hb
       simp only [Bool.and_eq_true] at hb
       obtain ⟨⟨h1, h2⟩, h3⟩ := hb
       split at h
       · rename_i r0 hr0
         obtain ⟨hle, rfl⟩ := h
         exact zeu (E := []) hrs (z1h rs) (fun p hp => by cases hp) h1 h2 h3 (fun p hp => by cases hp) hr0 hle
       · exact h.elim
     · exact h.elim
section
variable (P : Program) (sh : FuncId → List Sh) (n m : Nat) (lv : List (Nat × List Nat)) (G : Nat → St → Prop)
def regV (ops : Array Oper) (d : Bool) (K : AExit → St → Prop) (s : St) : Prop :=
 match dstB ops n with
 | true => lexV P sh ops s.nx ops.toList 0 s.env s.heap [] fun e h tr => match !d || ze3 ops tr with
  | true => K .normal ⟨e, h, s.nx + 32 * ops.size⟩
  | false => False
 | false => False
def zfs (K1 : St → Prop) (K : AExit → St → Prop) : AExit → St → Prop
 | .normal, s => K1 s
 | e, s => K e s
def condV (x : Operand) (s : St) (A B : St → Prop) : Prop :=
 match ev s.env x with
 | .c (.a (.fz (.bool b))) => match x with
  | .tmp t => br b (A ⟨(t, bV true) :: s.env, s.heap, s.nx⟩) (B ⟨(t, bV false) :: s.env, s.heap, s.nx⟩)
  | _ => br b (A s) (B s)
 | _ => False
def runV : Code → (AExit → St → Prop) → St → Prop
 | .skip, K, s => K .normal s
 | .ret, K, s => K .ret s
 | .exit i, K, s => K (.exit i) s
 | .seq a b, K, s => runV a (zfs (runV b K) K) s
 | .cond x a b, K, s => condV x s (runV a K) (runV b K)
 | .block i c, K, s => match isLoop c with
  | true => z7j m lv G (2 * i + 1) s
  | false => runV c (z0v i K) s
 | .region i ops d, K, s => match (z0m lv (2 * i)).isSome with
  | true => z7j m lv G (2 * i) s
  | false => regV P sh n ops d K s
 | _, _, _ => False
def z9y : Code → Nat → (AExit → St → Prop) → St → Prop
 | .region i ops d, p, K, s => match p == 2 * i with
  | true => regV P sh n ops d K s
  | false => False
 | .seq a b, p, K, s => match (pts a).contains p with
  | true => z9y a p (zfs (runV P sh n m lv G b K) K) s
  | false => z9y b p K s
 | .cond _ a b, p, K, s => match (pts a).contains p with
  | true => z9y a p K s
  | false => z9y b p K s
 | .block i c, p, K, s => match p == 2 * i + 1 with
  | true => match c with
   | .loop b => runV P sh n m lv G b (zfs (z7j m lv G (2 * i + 1)) (z0v i K)) s
   | _ => False
  | false => match c with
   | .loop b => z9y b p (zfs (z7j m lv G (2 * i + 1)) (z0v i K)) s
   | c => z9y c p (z0v i K) s
 | _, _, _, _ => False
end
section
variable {P : Program} {sh : FuncId → List Sh} {n m : Nat} {lv : List (Nat × List Nat)} {G : Nat → St → Prop}
theorem zak {P : Program} {ops : Array Oper} {nx : Nat} {K1 K2 : Env → AHeap → z36 → Prop} (hk : ∀ e h tr, K1 e h tr → K2 e h tr) : ∀ {l : List Oper} {i : Nat} {e : Env} {h : AHeap} {tr : z36}, lex P ops nx l i e h tr K1 → lex P ops nx l i e h tr K2 := by
 intro l
 induction l with
 | nil => exact fun h => hk _ _ _ h
 | cons o rest ih =>
  intro i e h tr hl
  unfold lex zf9 at hl ⊢
  split
  · rename_i hw; rw [hw] at hl; exact hl
  · rename_i w hw
    rw [hw] at hl
    simp only at hl
    split
    · rename_i hw1
      rw [if_pos hw1] at hl
      unfold zmg at hl ⊢
      cases hg : goCall o.op with
      | some c =>
       rw [hg] at hl
       simp only at hl ⊢
       cases hcl : calleeOf (ev e) c with
       | some fa => rw [hcl] at hl; simp only at hl ⊢; exact hl.imp fun r u rd hk => ih hk
       | none => rw [hcl] at hl; exact hl.elim
      | none =>
       rw [hg] at hl
       simp only at hl ⊢
       cases ha : aopS P o (nx + 32 * i) (ev e) (hook h) with
       | some r => rw [ha] at hl; simp only at hl ⊢; exact ih hl
       | none => rw [ha] at hl; exact hl.elim
    · rename_i hw1; rw [if_neg hw1] at hl; exact ih hl
theorem zk7 (hP : P.follows .mixedOrders = true) {i : Nat} {ops : Array Oper} {d : Bool} {K Q : AExit → St → Prop} {s : St} (hk : ∀ e s, K e s → Q e s) (h : regV P sh n ops d K s) : Awp P n m (.region i ops d) Q s := by
 unfold regV at h
 split at h
 · rename_i hd
   refine Awp.uneq (Awp.region hP hd ?_)
   have h1 := z3x rfl h
   refine zak ?_ h1
   rintro e1 h1 tr1 ⟨e2, he, hk2⟩
   split at hk2
   · rename_i hb
     refine ⟨fun hd2 => ?_, e2, he, hk _ _ hk2⟩
     subst hd2; simpa using hb
   · exact hk2.elim
 · exact h.elim
def GOK (P : Program) (n m : Nat) (G : Nat → St → Prop) (c : Code) (Q : AExit → St → Prop) : Prop := ∀ p s, p ∈ pts c → G p s → rz P n m c p Q s
theorem z3d {K1 Q1 : St → Prop} {K Q : AExit → St → Prop} (h1 : ∀ s, K1 s → Q1 s) (h : ∀ e s, K e s → Q e s) : ∀ e s, zfs K1 K e s → za5 Q1 Q e s := by
 intro e s hk
 cases e with
 | normal => exact h1 s hk
 | exit i => exact h _ s hk
 | ret => exact h _ s hk
theorem z1w {i : Nat} {K Q : AExit → St → Prop} (h : ∀ e s, K e s → Q e s) : ∀ e s, z0v i K e s → z0v i Q e s := by
 intro e s hk
 cases e with
 | normal => exact h _ s hk
 | exit j =>
  simp only [z0v] at hk ⊢
  split
  · rename_i hj; rw [if_pos hj] at hk; exact h _ s hk
  · rename_i hj; rw [if_neg hj] at hk; exact h _ s hk
 | ret => exact h _ s hk
theorem GOK.left {a b : Code} {Q : AExit → St → Prop} (h : GOK P n m G (.seq a b) Q) : GOK P n m G a (za5 (Awp P n m b Q) Q) := fun p s hp hg => by
 have := h p s (List.mem_append.2 (.inl hp)) hg
 unfold rz at this
 rwa [if_pos (by simpa using hp)] at this
theorem GOK.right {a b : Code} {Q : AExit → St → Prop} (hn : (pts (.seq a b)).Nodup) (h : GOK P n m G (.seq a b) Q) : GOK P n m G b Q := fun p s hp hg => by
 have := h p s (List.mem_append.2 (.inr hp)) hg
 unfold rz at this
 rwa [if_neg (by have := (List.nodup_append.1 hn).2.2; simp only [List.contains_eq_mem, decide_eq_true_eq]; exact fun h1 => this p h1 p hp rfl)] at this
theorem GOK.condL {x : Operand} {a b : Code} {Q : AExit → St → Prop} (h : GOK P n m G (.cond x a b) Q) : GOK P n m G a Q := fun p s hp hg => by
 have := h p s (List.mem_append.2 (.inl hp)) hg
 unfold rz at this
 rwa [if_pos (by simpa using hp)] at this
theorem GOK.condR {x : Operand} {a b : Code} {Q : AExit → St → Prop} (hn : (pts (.cond x a b)).Nodup) (h : GOK P n m G (.cond x a b) Q) : GOK P n m G b Q := fun p s hp hg => by
 have := h p s (List.mem_append.2 (.inr hp)) hg
 unfold rz at this
 rwa [if_neg (by have := (List.nodup_append.1 hn).2.2; simp only [List.contains_eq_mem, decide_eq_true_eq]; exact fun h1 => this p h1 p hp rfl)] at this
theorem GOK.block {i : Nat} {c : Code} {Q : AExit → St → Prop} (hn : (pts (.block i c)).Nodup) (h : GOK P n m G (.block i c) Q) : GOK P n m G c (z0v i Q) := fun p s hp hg => by
 have := h p s (List.mem_cons_of_mem _ hp) hg
 unfold rz at this
 rwa [if_neg (fun e => by subst e; exact (List.nodup_cons.1 hn).1 hp)] at this
theorem GOK.loop {c : Code} {Q : AExit → St → Prop} (h : GOK P n m G (.loop c) Q) : GOK P n m G c (za5 (Alwp P n m c Q) Q) := fun p s hp hg => by
 have := h p s hp hg
 unfold rz at this
 exact this
theorem GOK.head {i : Nat} {c : Code} {Q : AExit → St → Prop} (h : GOK P n m G (.block i c) Q) {s : St} (hg : z7j m lv G (2 * i + 1) s) : headA P n m c (z0v i Q) s := by
 obtain ⟨s', hs, hg⟩ := z8h hg
 have := h _ _ List.mem_cons_self hg
 unfold rz at this
 rw [if_pos rfl] at this
 exact headA.weak hs this
theorem z2x (hP : P.follows .mixedOrders = true) : ∀ {c : Code} {K Q : AExit → St → Prop} {s : St}, (pts c).Nodup → GOK P n m G c Q → (∀ e s, K e s → Q e s) → runV P sh n m lv G c K s → Awp P n m c Q s
 | .skip, K, Q, s, _, _, hk, h => Awp.skip (hk _ _ h)
 | .ret, K, Q, s, _, _, hk, h => Awp.ret (hk _ _ h)
 | .exit i, K, Q, s, _, _, hk, h => Awp.exit (hk _ _ h)
 | .seq a b, K, Q, s, hn, hG, hk, h => by
  have hn' := List.nodup_append.1 hn
  exact Awp.seq (z2x hP hn'.1 hG.left (z3d (fun s hs => z2x hP hn'.2.1 (hG.right hn) hk hs) hk) h)
 | .cond x a b, K, Q, s, hn, hG, hk, h => by
  have hn' := List.nodup_append.1 hn
  unfold runV condV at h
  split at h
  · rename_i t ht
    split at h
    · rename_i tt
      have hsame : ∀ y, t = y → look ((tt, bV y) :: s.env) = look s.env := fun y hy => zax (by simp only [ev] at ht; rw [ht, hy]; rfl)
      cases t with
      | true => exact Awp.cond ht (fun _ => Awp.look (hsame _ rfl) (z2x hP hn'.1 hG.condL hk h)) (fun e => by cases e)
      | false => exact Awp.cond ht (fun e => by cases e) (fun _ => Awp.look (hsame _ rfl) (z2x hP hn'.2.1 (hG.condR hn) hk h))
    · cases t with
      | true => exact Awp.cond ht (fun _ => z2x hP hn'.1 hG.condL hk h) (fun e => by cases e)
      | false => exact Awp.cond ht (fun e => by cases e) (fun _ => z2x hP hn'.2.1 (hG.condR hn) hk h)
  · exact h.elim
 | .block i c, K, Q, s, hn, hG, hk, h => by
  unfold runV at h
  split at h
  · rename_i hl
    exact Awp.block (hG.head h).awp
  · exact Awp.block (z2x hP (List.nodup_cons.1 hn).2 (hG.block hn) (z1w hk) h)
 | .region i ops d, K, Q, s, hn, hG, hk, h => by
  unfold runV at h
  split at h
  · obtain ⟨s', hs, hg⟩ := z8h h
    have := hG _ _ List.mem_cons_self hg
    exact this.2.weak hs
  · exact zk7 hP hk h
 | .loop _, _, _, _, _, _, _, h => h.elim
 | .rangeFunc .., _, _, _, _, _, _, h => h.elim
 | .scope _, _, _, _, _, _, _, h => h.elim
 | .label _, _, _, _, _, _, _, h => h.elim
 | .goto _, _, _, _, _, _, _, h => h.elim
 | .refuse _, _, _, _, _, _, _, h => h.elim
theorem z4d (hP : P.follows .mixedOrders = true) : ∀ {c : Code} {p : Nat} {K Q : AExit → St → Prop} {s : St}, (pts c).Nodup → GOK P n m G c Q → (∀ e s, K e s → Q e s) → z9y P sh n m lv G c p K s → rz P n m c p Q s
 | .region i ops d, p, K, Q, s, _, _, hk, h => by
  unfold z9y at h
  split at h
  · rename_i hp; exact ⟨by simpa using hp, zk7 hP hk h⟩
  · exact h.elim
 | .seq a b, p, K, Q, s, hn, hG, hk, h => by
  have hn' := List.nodup_append.1 hn
  unfold z9y at h
  unfold rz
  split at h
  · rename_i hp; rw [if_pos hp]; exact z4d hP hn'.1 hG.left (z3d (fun s hs => z2x hP hn'.2.1 (hG.right hn) hk hs) hk) h
  · rename_i hp; rw [if_neg (by simp only [hp]; decide)]; exact z4d hP hn'.2.1 (hG.right hn) hk h
 | .cond x a b, p, K, Q, s, hn, hG, hk, h => by
  have hn' := List.nodup_append.1 hn
  unfold z9y at h
  unfold rz
  split at h
  · rename_i hp; rw [if_pos hp]; exact z4d hP hn'.1 hG.condL hk h
  · rename_i hp; rw [if_neg (by simp only [hp]; decide)]; exact z4d hP hn'.2.1 (hG.condR hn) hk h
 | .block i c, p, K, Q, s, hn, hG, hk, h => by
  unfold z9y at h
  unfold rz
  split at h
  · rename_i hp
    rw [if_pos (by simpa using hp)]
    split at h
    · rename_i b
      have hn2 : (pts b).Nodup := (List.nodup_cons.1 hn).2
      exact (Alwp.unroll (z2x hP hn2 (GOK.loop (hG.block hn)) (z3d (fun s hs => hG.head hs) (z1w hk)) h) : Alwp _ _ _ _ _ _)
    · exact h.elim
  · rename_i hp
    rw [if_neg (by simpa using hp)]
    split at h
    · rename_i b
      have hn2 : (pts b).Nodup := (List.nodup_cons.1 hn).2
      unfold rz
      exact z4d hP hn2 (GOK.loop (hG.block hn)) (z3d (fun s hs => hG.head hs) (z1w hk)) h
    · exact z4d hP (List.nodup_cons.1 hn).2 (hG.block hn) (z1w hk) h
 | .skip, _, _, _, _, _, _, _, h => h.elim
 | .ret, _, _, _, _, _, _, _, h => h.elim
 | .exit _, _, _, _, _, _, _, _, h => h.elim
 | .loop _, _, _, _, _, _, _, _, h => h.elim
 | .rangeFunc .., _, _, _, _, _, _, _, h => h.elim
 | .scope _, _, _, _, _, _, _, _, h => h.elim
 | .label _, _, _, _, _, _, _, _, h => h.elim
 | .goto _, _, _, _, _, _, _, _, h => h.elim
 | .refuse _, _, _, _, _, _, _, _, h => h.elim
end
def endV (P : Program) (own : Bool) (rl : List ResultVar) (m : Nat) (U : List Nat) (R : TV → List AObj → Prop) : AExit → St → Prop
 | .exit _, _ => False
 | _, s => retV P own rl m U R s
def vcE (P : Program) (sh : FuncId → List Sh) (lv : List (Nat × List Nat)) (f : FuncId) (args : List TV) (Hs : List AObj) (R : TV → List AObj → Prop) (G : Nat → St → Prop) : Prop :=
 match P.funcs[f]? with
 | some fn => match fn.body with
  | some c => match z1z P f && Nat.ble args.length fn.ntmps && z6t (pts c) with
   | true => runV P sh fn.ntmps Hs.length lv G c (endV P (ownB (sh f)) fn.results.toList Hs.length (lvU lv) R) ⟨z8f 0 args, z1k 0 Hs, Hs.length⟩
   | false => False
  | none => False
 | none => False
def vcP (P : Program) (sh : FuncId → List Sh) (lv : List (Nat × List Nat)) (f : FuncId) (m : Nat) (R : TV → List AObj → Prop) (G : Nat → St → Prop) (p : Nat) (s : St) : Prop :=
 match P.funcs[f]? with
 | some fn => match fn.body with
  | some c => match z6t (pts c) with
   | true => z9y P sh fn.ntmps m lv G c p (endV P (ownB (sh f)) fn.results.toList m (lvU lv) R) s
   | false => False
  | none => False
 | none => False
section
variable {P : Program} {sh : FuncId → List Sh} {lv : List (Nat × List Nat)} {f : FuncId}
theorem zet {own : Bool} {rl : List ResultVar} {m : Nat} {U : List Nat} {r : TV} {Hs' : List AObj} : ∀ e s, endV P own rl m U (fun r0 Hs0 => TV.Le r0 r ∧ Hs0 = Hs') e s → Ret P rl m r Hs' e s := by
 intro e s h
 cases e with
 | normal => exact zke h
 | exit i => exact h
 | ret => exact zke h
theorem zil {fn : Func} {c : Code} {m : Nat} {r : TV} {Hs' : List AObj} (hf : P.funcs[f]? = some fn) (hb : fn.body = some c) : GOK P fn.ntmps m (RPt P f m r Hs') c (Ret P fn.results.toList m r Hs') := by
 rintro p s _ ⟨fn', c', h1, h2, h3⟩
 rw [hf] at h1; injection h1 with h1; subst h1
 rw [hb] at h2; injection h2 with h2; subst h2
 exact h3
theorem AC.vc (hP : P.follows .mixedOrders = true) (sh : FuncId → List Sh) (lv : List (Nat × List Nat)) {args : List TV} {Hs Hs' : List AObj} {r : TV} (hlen : Hs.length ≤ Hs'.length) (hlive : ∀ x ∈ Hs, isLive x) (hlive' : ∀ x ∈ Hs'.drop Hs.length, isLive x)
  (h : vcE P sh lv f args Hs (fun r0 Hs0 => TV.Le r0 r ∧ Hs0 = Hs') (RPt P f Hs.length r Hs')) : AC P f args Hs r Hs' := by
 unfold vcE at h
 split at h
 · rename_i fn hf
   split at h
   · rename_i c hc
     split at h
     · rename_i hb
       simp only [Bool.and_eq_true] at hb
       exact AC.intro hf hc rfl rfl hb.1.1 (Nat.le_of_ble_eq_true hb.1.2) hlen hlive hlive' (z2x hP (z2p hb.2) (zil hf hc) zet h)
     · exact h.elim
   · exact h.elim
 · exact h.elim
theorem RPt.vc (hP : P.follows .mixedOrders = true) (sh : FuncId → List Sh) (lv : List (Nat × List Nat)) {m : Nat} {Hs' : List AObj} {r : TV} {p : Nat} {s : St}
  (h : vcP P sh lv f m (fun r0 Hs0 => TV.Le r0 r ∧ Hs0 = Hs') (RPt P f m r Hs') p s) : RPt P f m r Hs' p s := by
 unfold vcP at h
 split at h
 · rename_i fn hf
   split at h
   · rename_i c hc
     split at h
     · rename_i hb
       exact ⟨fn, c, hf, hc, z4d hP (z2p hb) (zil hf hc) zet h⟩
     · exact h.elim
   · exact h.elim
 · exact h.elim
end
end Go.AM

namespace Go.AM
theorem AC.le {P : Program} {f : FuncId} {args args' : List TV} {Hs Hs' : List AObj} {r r' : TV} (h : AC P f args' Hs r Hs') (ha : All2 TV.Le args args') (hr : TV.Le r r') : AC P f args Hs r' Hs' := by
 refine ⟨h.1, h.2.1, fun w vals β Y h1 h2 hgl h3 h4 => ?_⟩
 refine (h.2.2 w vals β Y h1 h2 hgl h3 (zeo ha h4)).mono fun e w' ⟨v, β', h5, h6, h7, h8, h9⟩ => ?_
 exact ⟨v, β', h5, h6, h7, TRep.le hr h8, h9⟩
theorem AC.args {P : Program} {f : FuncId} {args args' : List TV} {Hs Hs' : List AObj} {r : TV} (h : AC P f args' Hs r Hs') (ha : All2 TV.Le args args') : AC P f args Hs r Hs' := h.le ha (.refl r)
inductive OLe : AObj → AObj → Prop
 | refl (a : AObj) : OLe a a
 | rows (n : Nat) (fs gs : List (List FV)) : gs.length ≤ fs.length → (∀ (i : Nat) (e e' : List FV), fs[i]? = some e → gs[i]? = some e' → e.length = e'.length) →
   (∀ (i j : Nat) (e e' : List FV) (f f' : FV), fs[i]? = some e → gs[i]? = some e' → e[j]? = some f → e'[j]? = some f' → FV.Le f f') → OLe (.arz n fs) (.arz n gs)
theorem OLe.live {a b : AObj} (h : OLe a b) : isLive a ↔ isLive b := by cases h <;> exact Iff.rfl
theorem OLe.bare {a b : AObj} (h : OLe a b) (hb : bareO a) : bareO b := by
 cases h with
 | refl => exact hb
 | rows n fs gs hl _ _ =>
  obtain ⟨m, hm⟩ := hb
  simp only [flat, AObj.arr.injEq, List.map_eq_nil_iff] at hm
  have : gs = [] := List.eq_nil_of_length_eq_zero (by rw [hm.2] at hl; simpa using hl)
  exact ⟨n, by rw [this]; rfl⟩
theorem OLe.rep {w : World} {X : Nat → Prop} {β : Nat → Option Nat} {a b : AObj} {k : Nat} (h : OLe a b) (hr : ORep w X β a k) : ORep w X β b k := by
 cases h with
 | refl => exact hr
 | rows n fs gs hl he hf =>
  obtain ⟨us, t, h1, h2, h3, h4⟩ := hr
  have back : ∀ {i : Nat} {e' : List FV}, gs[i]? = some e' → ∃ e, fs[i]? = some e ∧ e.length = e'.length := by
   intro i e' he'
   have hi : i < fs.length := by have := (List.getElem?_eq_some_iff.1 he').1; omega
   exact ⟨fs[i], List.getElem?_eq_getElem hi, he i _ _ (List.getElem?_eq_getElem hi) he'⟩
  have hlen : gs.length * n ≤ fs.length * n := Nat.mul_le_mul_right _ hl
  refine ⟨us, t, h1, by simp only [List.length_map] at h2 ⊢; omega, fun e' he' => ?_, fun i j e' c' he' hc' => ?_⟩
  · obtain ⟨g, hg, rfl⟩ := List.mem_map.1 he'
    obtain ⟨i, hi⟩ := List.getElem?_of_mem hg
    obtain ⟨e, h5, h6⟩ := back hi
    have := h3 (fzs e) (List.mem_map.2 ⟨e, List.mem_of_getElem? h5, rfl⟩)
    simp only [fzs, List.length_map] at this ⊢
    rw [← h6]; exact this
  · rw [List.getElem?_map] at he'
    obtain ⟨g, hg, rfl⟩ := Option.map_eq_some_iff.1 he'
    rw [fzs, List.getElem?_map] at hc'
    obtain ⟨f', hf', rfl⟩ := Option.map_eq_some_iff.1 hc'
    obtain ⟨e, h5, h6⟩ := back hg
    have hj : j < e.length := by rw [h6]; exact (List.getElem?_eq_some_iff.1 hf').1
    have hej := List.getElem?_eq_getElem hj
    obtain ⟨u, hu, hr⟩ := h4 i j (fzs e) (cell e[j]) (by rw [List.getElem?_map, h5]; rfl) (by rw [fzs, List.getElem?_map, hej]; rfl)
    exact ⟨u, hu, WRep.le (.a _ _ (.fz _ _ (hf i j e g _ _ h5 hg hej hf'))) hr⟩
theorem AC.obj {P : Program} {f : FuncId} {args : List TV} {Hs Hs' Hs'' : List AObj} {r : TV} (h : AC P f args Hs r Hs') (ho : All2 OLe Hs' Hs'') : AC P f args Hs r Hs'' := by
 have len : ∀ {a b : List AObj}, All2 OLe a b → a.length = b.length := by
  intro a
  induction a with
  | nil => intro b h; cases b; · rfl
           · exact h.elim
  | cons x a ih => intro b h; cases b; · exact h.elim
                   · simp [ih h.2]
 have get : ∀ {a b : List AObj} (i : Nat), All2 OLe a b → OLe (a.getD i .gone) (b.getD i .gone) := by
  intro a
  induction a with
  | nil => intro b i h; cases b; · exact .refl _
           · exact h.elim
  | cons x a ih =>
   intro b i h
   cases b with
   | nil => exact h.elim
   | cons y b => cases i with
    | zero => exact h.1
    | succ i => exact ih (b := b) i h.2
 have hl := len ho
 refine ⟨h.1, by rw [← hl]; exact h.2.1, fun w vals β Y h1 h2 hgl h3 h4 => ?_⟩
 refine (h.2.2 w vals β Y h1 h2 hgl h3 h4).mono fun e w' ⟨v, β', k1, k2, k3, k4, k5, k6, k7⟩ => ?_
 have hown : Own (fun o => Hs''.getD o .gone) β' = Own (fun o => Hs'.getD o .gone) β' := by
  funext b
  exact propext ⟨fun ⟨o, a, c⟩ => ⟨o, (get o ho).live.2 a, c⟩, fun ⟨o, a, c⟩ => ⟨o, (get o ho).live.1 a, c⟩⟩
 refine ⟨v, β', k1, k2, ⟨fun o b a c => ?_, fun o a => ?_, fun o o' b a a' => k3.inj o o' b ((get o ho).live.2 a) ((get o' ho).live.2 a'), k3.lt⟩, by rw [hown]; exact k4, by rw [← hl]; exact k5, k6, k7⟩
 · rw [hown]; exact (get o ho).rep (k3.rep o b ((get o ho).live.2 a) c)
 · exact (k3.has o ((get o ho).live.2 a)).imp id fun ⟨p, q⟩ => ⟨(get o ho).bare p, q⟩
abbrev ci (n : Int) : TV := .c (.a (.fz (.int .i64 n)))
abbrev cb (b : Bool) : TV := .c (.a (.fz (.bool b)))
abbrev cs (s : List UInt8) : TV := .c (.a (.fz (.str s)))
abbrev c8 (n : Int) : TV := .c (.a (.fz (.int .u8 n)))
def LeR : List FV → List FV → Prop
 | [], [] => True
 | x :: xs, y :: ys => FV.Le x y ∧ LeR xs ys
 | _, _ => False
theorem LeR.refl : ∀ l : List FV, LeR l l
 | [] => trivial
 | x :: l => ⟨.refl x, LeR.refl l⟩
theorem LeR.length : ∀ {a b : List FV}, LeR a b → a.length = b.length
 | [], [], _ => rfl
 | _ :: _, _ :: _, h => by simp [h.2.length]
 | [], _ :: _, h => h.elim
 | _ :: _, [], h => h.elim
theorem LeR.get : ∀ {a b : List FV}, LeR a b → ∀ (i : Nat) (x y : FV), a[i]? = some x → b[i]? = some y → FV.Le x y
 | [], [], _, i, x, y, hx, _ => by simp at hx
 | a :: as, b :: bs, h, i, x, y, hx, hy => by
  cases i with
  | zero => simp at hx hy; subst hx; subst hy; exact h.1
  | succ i => exact h.2.get i x y (by simpa using hx) (by simpa using hy)
theorem le_agg {a b : List FV} (h : LeR a b) : TV.Le (.agg (fzs a)) (.agg (fzs b)) := by
 refine .agg _ _ (by simp [fzs, h.length]) fun i x y hx hy => ?_
 rw [fzs, List.getElem?_map] at hx hy
 obtain ⟨x', hx', rfl⟩ := Option.map_eq_some_iff.1 hx
 obtain ⟨y', hy', rfl⟩ := Option.map_eq_some_iff.1 hy
 exact .a _ _ (.fz _ _ (h.get i x' y' hx' hy'))
theorem le_c {x y : FV} (h : FV.Le x y) : TV.Le (.c (.a (.fz x))) (.c (.a (.fz y))) := .c _ _ (.a _ _ (.fz _ _ h))
inductive Tm where
 | mk (k : Int) (s : List UInt8) (n : Int) (l : List Tm)
 deriving Inhabited
namespace Tm
def k : Tm → Int | .mk k _ _ _ => k
def s : Tm → List UInt8 | .mk _ s _ _ => s
def n : Tm → Int | .mk _ _ n _ => n
def l : Tm → List Tm | .mk _ _ _ l => l
end Tm
mutual
def FT : Tm → List FV
 | .mk k s n l => [.int .i64 k, .str s, .int .i64 n, .sl false 4 (FTs l)]
def FTs : List Tm → List (List FV)
 | [] => []
 | t :: l => FT t :: FTs l
end
mutual
def Tm.sz : Tm → Nat
 | .mk _ _ _ l => 1 + Tm.szs l
def Tm.szs : List Tm → Nat
 | [] => 0
 | t :: l => Tm.sz t + Tm.szs l
end
theorem z26 : ∀ l : List Tm, FTs l = l.map FT
 | [] => rfl
 | t :: l => by simp only [FTs, List.map_cons, z26 l]
theorem z00 (l : List Tm) : (FTs l).length = l.length := by rw [z26, List.length_map]
theorem z1t (a b : List Tm) : FTs (a ++ b) = FTs a ++ FTs b := by simp only [z26, List.map_append]
theorem z2s (t : Tm) : (FT t).length = 4 := by cases t; rfl
theorem z9u (t : Tm) : FT t = [.int .i64 t.k, .str t.s, .int .i64 t.n, .sl false 4 (FTs t.l)] := by cases t; rfl
theorem Tm.sz_pos (t : Tm) : 1 ≤ t.sz := by cases t; simp only [Tm.sz]; omega
theorem Tm.sz_eq (t : Tm) : t.sz = 1 + Tm.szs t.l := by cases t; rfl
mutual
def Tm.bk : Tm → Nat
 | .mk _ s _ l => 1 + s.length + Tm.bks l
def Tm.bks : List Tm → Nat
 | [] => 0
 | t :: l => Tm.bk t + Tm.bks l
end
mutual
theorem Tm.sz_bk : ∀ t : Tm, t.sz ≤ t.bk
 | .mk _ s _ l => by have := Tm.szs_bks l; simp only [Tm.sz, Tm.bk]; omega
theorem Tm.szs_bks : ∀ l : List Tm, Tm.szs l ≤ Tm.bks l
 | [] => Nat.le_refl _
 | t :: l => by have := Tm.sz_bk t; have := Tm.szs_bks l; simp only [Tm.szs, Tm.bks]; omega
end
theorem Tm.szs_mem : ∀ {l : List Tm} {t : Tm}, t ∈ l → t.sz ≤ Tm.szs l
 | x :: l, t, h => by
  rcases List.mem_cons.1 h with rfl | h
  · simp only [Tm.szs]; omega
  · have := Tm.szs_mem h; simp only [Tm.szs]; omega
theorem Tm.szs_append : ∀ (a b : List Tm), Tm.szs (a ++ b) = Tm.szs a + Tm.szs b
 | [], b => by simp [Tm.szs]
 | t :: a, b => by simp only [List.cons_append, Tm.szs, Tm.szs_append a b]; omega
theorem Tm.szs_length : ∀ l : List Tm, l.length ≤ Tm.szs l
 | [] => Nat.le_refl _
 | t :: l => by have := Tm.szs_length l; have := t.sz_pos; simp only [List.length_cons, Tm.szs]; omega
theorem Tm.ind {P : Tm → Prop} (h : ∀ t, (∀ u ∈ t.l, P u) → P t) : ∀ t, P t := by
 have key : ∀ n t, t.sz ≤ n → P t := by
  intro n
  induction n with
  | zero => intro t ht; have := t.sz_pos; omega
  | succ n ih =>
   intro t ht
   refine h t fun u hu => ih u ?_
   have := Tm.szs_mem hu
   rw [Tm.sz_eq] at ht
   omega
 exact fun t => key _ t (Nat.le_refl _)
theorem z82 (l : List Tm) : Int.toNat (l.length : Int) = l.length := by omega
theorem zdo (a : List Tm) (t : Tm) (b : List Tm) : List.getD (FTs (a ++ t :: b)) a.length [] = FT t := by
 rw [z26]
 simp [List.getD]
theorem w64 {x : Int} (h1 : -9223372036854775808 ≤ x) (h2 : x ≤ 9223372036854775807) : IntKind.wrap .i64 x = x := Go.IntWalk.i64_in _ ⟨h1, h2⟩
def B : Nat := 549755813888
theorem leFT {k n : Int} {s : List UInt8} {x : FV} {l : List Tm} (h : FV.Le x (.sl false 4 (FTs l))) : LeR [.int .i64 k, .str s, .int .i64 n, x] (FT (.mk k s n l)) := ⟨.refl _, .refl _, .refl _, h, trivial⟩
theorem leSl {b : Bool} {l : List Tm} : FV.Le (.sl b 4 (FTs l)) (.sl false 4 (FTs l)) := .nn _ _ _
theorem z0l : FV.Le .nils (.sl false 4 (FTs [])) := .nils 4
theorem zr2 {b : Bool} {rows : List (List FV)} {l : List Tm} (hl : rows.length = l.length) (h : ∀ (i : Nat) (r : List FV) (t : Tm), rows[i]? = some r → l[i]? = some t → LeR r (FT t)) : FV.Le (.sl b 4 rows) (.sl false 4 (FTs l)) := by
 refine .trans _ (.sl b 4 (FTs l)) _ (.rows b 4 rows _ (by rw [z00, hl]) (fun i e e' he he' => ?_) (fun i j e e' f f' he he' hf hf' => ?_)) leSl
 · rw [z26, List.getElem?_map] at he'
   obtain ⟨t, ht, rfl⟩ := Option.map_eq_some_iff.1 he'
   exact (h i e t he ht).length
 · rw [z26, List.getElem?_map] at he'
   obtain ⟨t, ht, rfl⟩ := Option.map_eq_some_iff.1 he'
   exact (h i e t he ht).get j f f' hf hf'
theorem midI (a : List Tm) (t : Tm) (b : List Tm) : List.getD (FTs (a ++ t :: b)) (Int.toNat (a.length : Int)) [] = FT t := by
 rw [show Int.toNat (a.length : Int) = a.length by omega, zdo]
theorem midI' (a a' : List Tm) (h : a.length = a'.length) (t : Tm) (b : List Tm) : List.getD (FTs (a' ++ t :: b)) (Int.toNat (a.length : Int)) [] = FT t := by rw [h, midI]
theorem nx {α : Type} (a : List α) (t : α) : (((a ++ [t]).length : Nat) : Int) = (a.length : Int) + 1 := by simp
theorem ap {α : Type} (a : List α) (t : α) (b : List α) : (a ++ [t]) ++ b = a ++ t :: b := by simp
theorem lenI (l : List Tm) : (((FTs l).length : Nat) : Int) = (l.length : Int) := by rw [z00]
theorem ltI {α : Type} (a : List α) (t : α) (b : List α) : (a.length : Int) < (((a ++ t :: b).length : Nat) : Int) := by simp; omega
theorem ltI' (a : List Tm) (t : Tm) (b : List Tm) : (a.length : Int) < (((FTs (a ++ t :: b)).length : Nat) : Int) := by rw [z00]; exact ltI a t b
theorem geI' (a : List Tm) : ¬ (a.length : Int) < (((FTs (a ++ [])).length : Nat) : Int) := by rw [z00]; simp
abbrev aT (t : Tm) : TV := .agg [.a (.fz (.int .i64 t.k)), .a (.fz (.str t.s)), .a (.fz (.int .i64 t.n)), .a (.fz (.sl false 4 (FTs t.l)))]
abbrev cT (t : Tm) : List WV := [.a (.fz (.int .i64 t.k)), .a (.fz (.str t.s)), .a (.fz (.int .i64 t.n)), .a (.fz (.sl false 4 (FTs t.l)))]
abbrev rE (r : List FV) : List FV := [.int .i64 (FV.asI (List.getD r 0 FV.nils)), .str (FV.asS (List.getD r 1 FV.nils)), .int .i64 (FV.asI (List.getD r 2 FV.nils)), List.getD r 3 FV.nils]
abbrev cE (r : List FV) : List WV := [.a (.fz (.int .i64 (FV.asI (List.getD r 0 FV.nils)))), .a (.fz (.str (FV.asS (List.getD r 1 FV.nils)))), .a (.fz (.int .i64 (FV.asI (List.getD r 2 FV.nils)))), .a (.fz (List.getD r 3 FV.nils))]
abbrev aE (r : List FV) : TV := .agg (cE r)
abbrev FT4 (t : Tm) : List FV := [.int .i64 t.k, .str t.s, .int .i64 t.n, .sl false 4 (FTs t.l)]
theorem zc6 (t : Tm) : aE (FT t) = aT t := by cases t; rfl
theorem cE_FT (t : Tm) : cE (FT t) = cT t := by cases t; rfl
theorem za6 (t : Tm) : rE (FT t) = FT t := by cases t; rfl
theorem z5h (t : Tm) : FT4 t = FT t := by cases t; rfl
theorem zlh (n : Nat) (l : List Tm) : List.drop n (FTs l) = FTs (List.drop n l) := by rw [z26, z26, List.map_drop]
theorem FTs_take (n : Nat) (l : List Tm) : List.take n (FTs l) = FTs (List.take n l) := by rw [z26, z26, List.map_take]
theorem FTs_set (n : Nat) (l : List Tm) (t : Tm) : List.set (FTs l) n (FT t) = FTs (List.set l n t) := by rw [z26, z26, List.map_set]
theorem z4v (a : List Tm) (t : Tm) (b : List Tm) : aE (List.getD (FTs (a ++ t :: b)) (Int.toNat (a.length : Int)) []) = aT t := by
 rw [show List.getD (FTs (a ++ t :: b)) (Int.toNat (a.length : Int)) [] = FT t from by rw [show Int.toNat (a.length : Int) = a.length by omega, zdo]]; exact zc6 t
theorem z5g (a : List Tm) (t : Tm) (b : List Tm) : rE (List.getD (FTs (a ++ t :: b)) (Int.toNat (a.length : Int)) []) = List.getD (FTs (a ++ t :: b)) (Int.toNat (a.length : Int)) [] := by
 rw [show List.getD (FTs (a ++ t :: b)) (Int.toNat (a.length : Int)) [] = FT t from by rw [show Int.toNat (a.length : Int) = a.length by omega, zdo]]; exact za6 t
structure Opd where
 nm : List UInt8
 pr : Int
 fx : Int
 deriving DecidableEq
def Opd.c (o : Opd) : List FV := [.str o.nm, .int .i64 o.pr, .int .i64 o.fx]
structure Inf where
 lv : Int
 bd : Bool
 v : Tm
def Inf.c (i : Inf) : List FV := [.int .i64 i.lv, .bool i.bd, .int .i64 i.v.k, .str i.v.s, .int .i64 i.v.n, .sl false 4 (FTs i.v.l)]
def SR (l : List Inf) : List (List FV) := l.map Inf.c
structure Sto where
 V : List Inf
 T : List Int
def IR (l : List Int) : List (List FV) := l.map fun n => [.int .i64 n]
abbrev aL (l : List Tm) : TV := .c (.a (.fz (.sl false 4 (FTs l))))
theorem leT {k n : Int} {s : List UInt8} {x : FV} {l : List Tm} (h : FV.Le x (.sl false 4 (FTs l))) : TV.Le (.agg [.a (.fz (.int .i64 k)), .a (.fz (.str s)), .a (.fz (.int .i64 n)), .a (.fz x)]) (aT (.mk k s n l)) := le_agg (leFT h)
theorem z06 {x y : Bool} (h : x = y) : TV.Le (cb x) (cb y) ∧ ([] : List AObj) = [] := ⟨by rw [h]; exact .refl _, rfl⟩
theorem z3o {x y : Int} (h : x = y) : TV.Le (ci x) (ci y) ∧ ([] : List AObj) = [] := ⟨by rw [h]; exact .refl _, rfl⟩
theorem zfz {x y : TV} (h : TV.Le x y) : TV.Le x y ∧ ([] : List AObj) = [] := ⟨h, rfl⟩
theorem AC.of_calls {P : Program} {f : FuncId} {args : List TV} {vals : List Value} {r : TV} {v : Value} (hen : z1z P f = true) (h : ∀ w, Calls P f vals.toArray w fun e w' => e = .returned v ∧ w' = w)
  (hv : ∀ (w : World) (X : Nat → Prop) (β : Nat → Option Nat) (us : List Value), LRep (TRep w X β) args us → us = vals) (hr : ∀ (w : World) (X : Nat → Prop) (β : Nat → Option Nat), TRep w X β r v) : AC P f args [] r [] := by
 refine ⟨hen, Nat.le_refl _, fun w us β Y h1 h2 _ h3 h4 => ?_⟩
 rw [hv _ _ _ _ h4]
 refine (h w).mono fun e w' ⟨he, hw⟩ => ?_
 subst hw
 exact ⟨v, β, he, Good.refl _ _, h3, hr _ _ _, h1, fun o ho => absurd ho (Nat.not_lt_zero _), fun o b _ hb => absurd (h1 o b hb) (Nat.not_lt_zero _)⟩
theorem AC.str_u8 {P : Program} {f : FuncId} {s : List UInt8} {c n : Int} (hen : z1z P f = true) (h : ∀ w, Calls P f #[.string ⟨s.toArray⟩, .int .u8 c] w fun e w' => e = .returned (.int .i64 n) ∧ w' = w) : AC P f [cs s, c8 c] [] (ci n) [] := by
 refine AC.of_calls (vals := [.string ⟨s.toArray⟩, .int .u8 c]) hen h (fun w X β us hu => ?_) (fun w X β => .a _ _ (.fz _ _ (.int _ _)))
 obtain ⟨u, us', rfl, h1, h2⟩ := hu.cons_inv
 obtain ⟨v, vs', rfl, h3, h4⟩ := h2.cons_inv
 rw [TRep.str_inv h1, TRep.int_inv h3, h4.nil_inv]
end Go.AM

namespace Go.AM
theorem zks {w : World} {X : Nat → Prop} {n : Nat} {es : List (List FV)} {v : Value} (h : FRep w X (.sl false n es) v) : (v = .slice none 0 0 ∧ es = []) ∨ FRep w X (.sl true n es) v := by
 cases h with
 | slnil => exact .inl ⟨rfl, rfl⟩
 | sl0 nn n a => exact .inr (.sl0 true n a)
 | sl nn n es b off cap len u h1 h2 h3 h4 h5 h6 h7 => exact .inr (.sl true n es b off cap len u h1 h2 h3 h4 h5 h6 h7)
theorem zpz {w : World} {X : Nat → Prop} {β : Nat → Option Nat} {x : FV} {vals : List Value} (h : LRep (TRep w X β) [.c (.a (.fz x))] vals) : ∃ v, vals = [v] ∧ FRep w X x v := by
 obtain ⟨v, us, rfl, h1, h2⟩ := h.cons_inv
 obtain rfl := h2.nil_inv
 refine ⟨v, rfl, ?_⟩
 have h1 : WRep w X β (.a (.fz x)) v := h1
 cases h1 with
 | a _ _ h1 => cases h1 with
  | fz _ _ h1 => exact h1
theorem zig {w : World} {X : Nat → Prop} {β : Nat → Option Nat} {x : FV} {v : Value} (h : FRep w X x v) : LRep (TRep w X β) [.c (.a (.fz x))] [v] := .cons (.a _ _ (.fz _ _ h)) .nil
theorem AC.clone0 {P : Program} {f : FuncId} {n : Nat} (h0 : AC P f [.c (.a (.fz .nils))] [] (.c (.a (.fz .nils))) []) (h1 : AC P f [.c (.a (.fz (.sl true n [])))] [] (.c (.a (.osl 0 n 0 0))) [.arz n []]) :
  AC P f [.c (.a (.fz (.sl false n [])))] [] (.c (.a (.fz (.sl false n [])))) [] := by
 refine ⟨h0.1, by simp, fun w vals β Y g1 g2 gl g3 g4 => ?_⟩
 obtain ⟨v, rfl, hv⟩ := zpz g4
 rcases zks hv with ⟨e, _⟩ | hv
 · subst e
   exact (h0.le (r' := .c (.a (.fz (.sl false n [])))) (z4s) (le_c (.nils n))).2.2 w [_] β Y g1 g2 gl g3 (zig .nils)
 · refine (h1.2.2 w [v] β Y g1 g2 gl g3 (zig hv)).mono fun e w' ⟨v', β', k1, k2, k3, k4, k5, k6, k7⟩ => ?_
   have none' : (fun b => Y b ∨ Own (fun o => ([] : List AObj).getD o .gone) (fun _ => none) b) = Y := by
    funext b
    refine propext ⟨fun h => h.elim id fun ⟨o, h, _⟩ => by simp [isLive] at h, .inl⟩
   refine ⟨v', fun _ => none, k1, k2, ⟨fun o b h => by simp [isLive] at h, fun o h => by simp [isLive] at h, fun o o' b h => by simp [isLive] at h, fun o b h => by cases h⟩, ?_, (fun o b h => by cases h), (fun o h => by simp at h), (fun o b _ h => by cases h)⟩
   rw [none']
   have k4 : WRep w' _ β' (.a (.osl 0 n 0 0)) v' := k4
   refine show WRep w' Y (fun _ => none) (.a (.fz (.sl false n []))) v' from ?_
   cases k4 with
   | a _ _ k4 => cases k4 with
    | oslN => exact .a _ _ (.fz _ _ (.slnil n))
    | osl o n off len b' q cap sz t p1 p2 p3 p4 p5 =>
     obtain ⟨kl, kY⟩ := k3.here (o := 0) (b := b') (by simp [isLive]) p1
     exact .a _ _ (.fz _ _ (.sl false n [] b' q cap 0 (fun _ _ => .bool false) rfl (Nat.zero_le _) kY kl (fun i e h => by simp at h) (fun i j e f h => by simp at h) (fun i j e f h => by simp at h)))
theorem AC.clone_le {P : Program} {f : FuncId} {n M : Nat} (h0 : AC P f [.c (.a (.fz .nils))] [] (.c (.a (.fz .nils))) []) (h1 : ∀ es : List (List FV), es.length ≤ M → AC P f [.c (.a (.fz (.sl true n es)))] [] (.c (.a (.osl 0 n 0 es.length))) [.arz n es]) :
  (∀ es : List (List FV), es ≠ [] → es.length ≤ M → AC P f [.c (.a (.fz (.sl false n es)))] [] (.c (.a (.osl 0 n 0 es.length))) [.arz n es]) ∧ AC P f [.c (.a (.fz (.sl false n [])))] [] (.c (.a (.fz (.sl false n [])))) [] := by
 refine ⟨fun es hne hl => ⟨h0.1, by simp, fun w vals β Y g1 g2 gl g3 g4 => ?_⟩, (AC.clone0 h0 (h1 [] (Nat.zero_le _)))⟩
 obtain ⟨v, rfl, hv⟩ := zpz g4
 rcases zks hv with ⟨_, e⟩ | hv
 · exact absurd e hne
 · exact (h1 es hl).2.2 w [v] β Y g1 g2 gl g3 (zig hv)
end Go.AM

namespace Go.AM
section
variable {β : Type}
def oN (n : Nat) (K : Nat → β) : β := match n with
 | 0 => K 0
 | k + 1 => K (k + 1)
def oI (n : Int) (K : Int → β) : β := match n with
 | .ofNat k => oN k fun k => K (.ofNat k)
 | .negSucc k => oN k fun k => K (.negSucc k)
def oL {α : Type} (f : α → (α → β) → β) : List α → (List α → β) → β
 | [], K => K []
 | x :: l, K => f x fun x => oL f l fun l => K (x :: l)
def o1 {α : Type} (x : α) (K : α → β) : β := K x
def oB (b : Bool) (K : Bool → β) : β := match b with
 | true => K true
 | false => K false
def oF (x : FV) (K : FV → β) : β := match x with
 | .int k n => oI n fun n => K (.int k n)
 | .bool b => oB b fun b => K (.bool b)
 | .str l => oL o1 l fun l => K (.str l)
 | .sl nn n es => oB nn fun nn => oN n fun n => oL (oL o1) es fun es => K (.sl nn n es)
 | .pt cs => oL o1 cs fun cs => K (.pt cs)
 | .z0 nn => oB nn fun nn => K (.z0 nn)
 | .nils => K .nils
 | .cst v => K (.cst v)
def oA (x : AV) (K : AV → β) : β := match x with
 | .fz x => oF x fun x => K (.fz x)
 | .ep o n i j => oN o fun o => oN n fun n => oN i fun i => oN j fun j => K (.ep o n i j)
 | .osl o n i j => oN o fun o => oN n fun n => oN i fun i => oN j fun j => K (.osl o n i j)
 | .mp o => oN o fun o => K (.mp o)
 | .any => K .any
def oP {α γ : Type} (f : α → (α → β) → β) (g : γ → (γ → β) → β) (p : α × γ) (K : α × γ → β) : β := match p with
 | (a, b) => f a fun a => g b fun b => K (a, b)
def oW (x : WV) (K : WV → β) : β := match x with
 | .a x => oA x fun x => K (.a x)
 | .fn f a b => oL (oP oB (oL oA)) a fun a => oL (oP oB (oL oA)) b fun b => K (.fn f a b)
def oT (x : TV) (K : TV → β) : β := match x with
 | .any => K .any
 | .c x => oW x fun x => K (.c x)
 | .agg cs => oL oW cs fun cs => K (.agg cs)
 | .tup vs => oL (oP oB (oL oW)) vs fun vs => K (.tup vs)
def oO (x : AObj) (K : AObj → β) : β := match x with
 | .gone => K .gone
 | .arr n es => oN n fun n => oL (oL oW) es fun es => K (.arr n es)
 | .arz n fs => oN n fun n => oL (oL oF) fs fun fs => K (.arz n fs)
 | .mapo es => oL (oP (oP oB (oL oF)) (oP oB (oL oW))) es fun es => K (.mapo es)
 | .mapz es => oL (oP (oP oB (oL oF)) (oP oB (oL oF))) es fun es => K (.mapz es)
def z7q {α : Type} (f : α → (α → β) → β) : Prop := ∀ x K, f x K = K x
theorem z2u : z7q (oN (β := β)) := fun x K => by cases x <;> rfl
theorem opens_I : z7q (oI (β := β)) := fun x K => by cases x <;> (simp only [oI]; rw [z2u])
theorem zik {α : Type} : z7q (o1 (α := α) (β := β)) := fun _ _ => rfl
theorem z4h : z7q (oB (β := β)) := fun x K => by cases x <;> rfl
theorem z0r {α : Type} {f : α → (α → β) → β} (h : z7q f) : z7q (oL f) := fun l => by
 induction l with
 | nil => exact fun _ => rfl
 | cons x l ih => intro K; simp only [oL]; rw [h, ih]
theorem z4k {α γ : Type} {f : α → (α → β) → β} {g : γ → (γ → β) → β} (hf : z7q f) (hg : z7q g) : z7q (oP f g) := fun p K => by
 obtain ⟨a, b⟩ := p
 simp only [oP]; rw [hf, hg]
theorem zbc : z7q (oF (β := β)) := fun x K => by
 cases x <;> simp only [oF]
 · rw [opens_I]
 · rw [z4h]
 · rw [z0r zik]
 · rw [z4h, z2u, z0r (z0r zik)]
 · rw [z4h]
 · rw [z0r zik]
theorem zj8 : z7q (oA (β := β)) := fun x K => by
 cases x <;> simp only [oA]
 · rw [zbc]
 · rw [z2u, z2u, z2u, z2u]
 · rw [z2u, z2u, z2u, z2u]
 · rw [z2u]
theorem zbd : z7q (oW (β := β)) := fun x K => by
 cases x <;> simp only [oW]
 · rw [zj8]
 · rw [z0r (z4k z4h (z0r zj8)), z0r (z4k z4h (z0r zj8))]
theorem zbo : z7q (oT (β := β)) := fun x K => by
 cases x <;> simp only [oT]
 · rw [zbd]
 · rw [z0r zbd]
 · rw [z0r (z4k z4h (z0r zbd))]
theorem zi7 : z7q (oO (β := β)) := fun x K => by
 cases x <;> simp only [oO]
 · rw [z2u, z0r (z0r zbd)]
 · rw [z2u, z0r (z0r zbc)]
 · rw [z0r (z4k (z4k z4h (z0r zbc)) (z4k z4h (z0r zbd)))]
 · rw [z0r (z4k (z4k z4h (z0r zbc)) (z4k z4h (z0r zbc)))]
end
abbrev RunF := FuncId → List TV → List AObj → Option (TV × List AObj)
def znw (P : Program) (run : RunF) : Prop := ∀ f args Hs r Hs', run f args Hs = some (r, Hs') → AC P f args Hs r Hs'
def zjw (run : RunF) (f : FuncId) (args : List TV) (h : Nat → AObj) (fr : Nat) : Option (TV × AHeap × List Nat) :=
 match zg0 h 400 (args.flatMap TV.ids) [] with
 | ids => match z6t ids && ids.all (fun o => zex (h o) && (h o).inn ids) && args.all (TV.inn ids) && ids.all (fun o => Nat.blt o fr) with
  | true => match run f (args.map (TV.ren (inv ids))) (ids.map fun o => (h o).ren (inv ids)) with
   | some (r, Hs') => match Nat.ble Hs'.length (ids.length + 32) with
    | true => some (r.ren (sub ids fr), z28 (sub ids fr) ids Hs' ++ z2e (sub ids fr) fr (Hs'.drop ids.length), ids)
    | false => none
   | none => none
  | false => none
theorem zh {P : Program} {run : RunF} (hr : znw P run) {f : FuncId} {args : List TV} {h : Nat → AObj} {fr : Nat} {r : TV} {u : AHeap} {rd : List Nat} (hc : zjw run f args h fr = some (r, u, rd)) :
  CallK P f args h fr fun r' u' rd' => r' = r ∧ u' = u ∧ rd' = rd := by
 unfold zjw at hc
 generalize zg0 h 400 (args.flatMap TV.ids) [] = ids at hc
 simp only at hc
 split at hc
 · rename_i hb
   simp only [Bool.and_eq_true] at hb
   obtain ⟨⟨⟨h1, h2⟩, h3⟩, h0⟩ := hb
   have h0 : ∀ i ∈ ids, i < fr := fun i hi => Nat.le_of_ble_eq_true (List.all_eq_true.1 h0 i hi)
   have ha := zbj (fr := fr) h3
   have ho := z65 (fr := fr) h2
   split at hc
   · rename_i r0 Hs' hrun
     split at hc
     · rename_i hlen
       simp only [Option.some.injEq, Prod.mk.injEq] at hc
       refine ⟨ids, [], _, _, _, _, hr _ _ _ _ _ hrun, ⟨z2p h1, h0⟩, Nat.le_of_ble_eq_true hlen, ho.1, ?_, ha.2, ho.2, .inl rfl, by simpa using hc⟩
       rw [z1h, ha.1]; exact z4s
     · cases hc
   · cases hc
 · cases hc
def callX (run : RunF) (mode : FuncId → Nat) (f : FuncId) (args : List TV) (h : Nat → AObj) (fr : Nat) : Option (TV × AHeap × List Nat) :=
 match Nat.ble (mode f) 1 with
 | true => zjw run f args h fr
 | false => match args.flatMap (za2 h) with
  | L => match zjw run f (args.map (TV.lend L)) (over (L.map fun p => (p.1, AObj.gone)) h) fr with
   | some (r, u, rd) => some (r, u ++ L.map (fun p => (p.1, AObj.gone)), rd ++ L.map Prod.fst)
   | none => none
theorem callX_ok {P : Program} {run : RunF} {mode : FuncId → Nat} (hr : znw P run) {f : FuncId} {args : List TV} {h : Nat → AObj} {fr : Nat} {r : TV} {u : AHeap} {rd : List Nat} (hc : callX run mode f args h fr = some (r, u, rd)) :
  CallE P f args h fr fun r' u' rd' => r' = r ∧ u' = u ∧ rd' = rd := by
 unfold callX at hc
 split at hc
 · refine ⟨[], (fun p hp => by cases hp), ?_⟩
   rw [z1h]
   have e : over (([] : Lent).map fun p => (p.1, AObj.gone)) h = h := by funext o; rfl
   rw [e]
   exact (zh hr hc).imp fun r u rd hk => by simpa using hk
 · refine ⟨args.flatMap (za2 h), z7o.ok, ?_⟩
   generalize args.flatMap (za2 h) = L at hc ⊢
   simp only at hc
   split at hc
   · rename_i r1 u1 rd1 hk
     simp only [Option.some.injEq, Prod.mk.injEq] at hc
     refine (zh hr hk).imp fun r u rd hk => ?_
     obtain ⟨rfl, rfl, rfl⟩ := hk
     exact hc
   · cases hc
section
variable (P : Program) (run : RunF) (mode : FuncId → Nat)
def stepX (fr : Nat) (o : Oper) (e : Env) (h : AHeap) (tr : z36) : Option (Env × AHeap × z36) :=
 match goCall o.op with
 | some c => match calleeOf (ev e) c with
  | some (f, args) => match callX run mode f args (hook h) fr with
   | some (r, u, rd) => oT r fun r => some (putE o.dst r e, u ++ h, (rd, u.map Prod.fst) :: tr)
   | none => none
  | none => none
 | none => match aopS P o fr (ev e) (hook h) with
  | some r => oT r.val fun v => some (putE o.dst v e, r.upd ++ h, (r.rd, r.upd.map Prod.fst) :: tr)
  | none => none
def lexX (ops : Array Oper) (nx : Nat) : List Oper → Nat → Env → AHeap → z36 → Option (Env × AHeap × z36)
 | [], _, e, h, tr => some (e, h, tr)
 | o :: rest, i, e, h, tr => match want ops o (look e) with
  | none => none
  | some w => match (match w with | true => stepX P run mode (nx + 32 * i) o e h tr | false => some (putE o.dst (.tup []) e, h, ([], []) :: tr)) with
   | some (e, h, tr) => lexX ops nx rest (i + 1) e h tr
   | none => none
variable {P run mode}
theorem zn3 (hr : znw P run) {ops : Array Oper} {nx : Nat} : ∀ {l : List Oper} {i : Nat} {e : Env} {h : AHeap} {tr : z36} {e1 : Env} {h1 : AHeap} {tr1 : z36},
  lexX P run mode ops nx l i e h tr = some (e1, h1, tr1) → lex P ops nx l i e h tr fun e h tr => e = e1 ∧ h = h1 ∧ tr = tr1
 | [], _, _, _, _, _, _, _, hl => by
  simp only [lexX, Option.some.injEq, Prod.mk.injEq] at hl
  exact hl
 | o :: rest, i, e, h, tr, e1, h1, tr1, hl => by
  unfold lexX at hl
  unfold lex zf9
  split at hl
  · cases hl
  · rename_i w hw
    rw [hw]
    simp only
    split at hl
    · rename_i e2 h2 tr2 he
      have ih := zn3 hr hl
      cases w with
      | false =>
       simp only [Option.some.injEq, Prod.mk.injEq] at he
       obtain ⟨rfl, rfl, rfl⟩ := he
       simpa using ih
      | true =>
       simp only at he
       rw [if_pos rfl]
       unfold stepX at he
       unfold zmg
       cases hg : goCall o.op with
       | some c =>
        rw [hg] at he
        simp only at he ⊢
        split at he
        · rename_i f args hcl
          rw [hcl]
          simp only
          split at he
          · rename_i r u rd hcall
            rw [zbo] at he
            simp only [Option.some.injEq, Prod.mk.injEq] at he
            obtain ⟨rfl, rfl, rfl⟩ := he
            refine (callX_ok hr hcall).imp fun r' u' rd' hk => ?_
            obtain ⟨rfl, rfl, rfl⟩ := hk
            exact ih
          · cases he
        · cases he
       | none =>
        rw [hg] at he
        simp only at he ⊢
        split at he
        · rename_i r ha
          rw [ha]
          rw [zbo] at he
          simp only [Option.some.injEq, Prod.mk.injEq] at he
          obtain ⟨rfl, rfl, rfl⟩ := he
          exact ih
        · cases he
    · cases hl
end
def tidyX (m : Nat) (U live : List Nat) (s : St) : Option St :=
 match z89 m U (hook s.heap) (live.flatMap fun t => (look s.env t).ids) with
 | rest => match okU m U rest && (keep m U ++ rest).all (fun o => (hook s.heap o).inn (keep m U ++ rest)) && live.all (fun t => (look s.env t).inn (keep m U ++ rest)) with
  | true => oL (oP oN oT) (live.map fun t => (t, (look s.env t).ren (invU m rest))) fun env => oL oO (z8e m U rest (hook s.heap)) fun obs => some ⟨env, z1k 0 obs, m + rest.length⟩
  | false => none
theorem tidyX_ok {m : Nat} {U live : List Nat} {s s' : St} (h : tidyX m U live s = some s') : Sle m s s' := by
 have hg : z7j m [(0, live), (1000001, U)] (fun _ s1 => s1 = s') 0 s := by
  unfold tidyX at h
  unfold z7j
  simp only [z0m, if_true, lvU, show ¬ ((0 : Nat) = 1000001) by decide, if_false]
  generalize z89 m U (hook s.heap) (live.flatMap fun t => (look s.env t).ids) = rest at h ⊢
  simp only at h ⊢
  split at h
  · rename_i hb
    try rw [hb]
    rw [z0r (z4k z2u zbo), z0r zi7, Option.some.injEq] at h
    exact h
  · cases h
 obtain ⟨s1, h1, h2⟩ := z8h hg
 rw [← h2]; exact h1
def goneX (m : Nat) (s : St) : List Nat := (List.range m).filter fun o => !zex (hook s.heap o)
section
variable (P : Program) (run : RunF) (mode : FuncId → Nat) (n m lf : Nat)
def regX (ops : Array Oper) (d : Bool) (s : St) : Option St :=
 match dstB ops n with
 | true => match lexX P run mode ops s.nx ops.toList 0 s.env s.heap [] with
  | some (e, h, tr) => match !d || ze3 ops tr with
   | true => some ⟨e, h, s.nx + 32 * ops.size⟩
   | false => none
  | none => none
 | false => none
def loopX (F : St → Option (AExit × St)) : Nat → St → Option (AExit × St)
 | 0, _ => none
 | k + 1, s => match tidyX m (goneX m s) (List.range n) s with
  | some s => match F s with
   | some (.normal, s) => loopX F k s
   | r => r
  | none => none
def z5i : Code → St → Option (AExit × St)
 | .skip, s => some (.normal, s)
 | .ret, s => some (.ret, s)
 | .exit i, s => some (.exit i, s)
 | .seq a b, s => match z5i a s with
  | some (.normal, s) => z5i b s
  | r => r
 | .cond x a b, s => match ev s.env x with
  | .c (.a (.fz (.bool t))) => match t with
   | true => z5i a s
   | false => z5i b s
  | _ => none
 | .block i c, s => match z5i c s with
  | some (.exit j, s) => match Nat.beq j i with
   | true => some (.normal, s)
   | false => some (.exit j, s)
  | r => r
 | .region _ ops d, s => match regX P run mode n ops d s with
  | some s => some (.normal, s)
  | none => none
 | .loop c, s => loopX n m (z5i c) lf s
 | _, _ => none
variable {P run mode n m lf}
theorem Awp.le {c : Code} {Q : AExit → St → Prop} {s s' : St} (hs : Sle m s s') (h : Awp P n m c Q s') : Awp P n m c Q s := Awp.weak hs h
theorem zjo {c : Code} {F : St → Option (AExit × St)} (hF : ∀ s e s', F s = some (e, s') → Awp P n m c (fun e1 s1 => e1 = e ∧ s1 = s') s) : ∀ {k : Nat} {s : St} {e : AExit} {s' : St},
  loopX n m F k s = some (e, s') → Alwp P n m c (fun e1 s1 => e1 = e ∧ s1 = s') s
 | 0, _, _, _, h => by cases h
 | k + 1, s, e, s', h => by
  unfold loopX at h
  split at h
  · rename_i s1 hs1
    refine Alwp.weak (tidyX_ok hs1) (Alwp.unroll ?_)
    split at h
    · rename_i s2 h2
      refine (hF _ _ _ h2).mono fun e1 s1 hk => ?_
      obtain ⟨rfl, rfl⟩ := hk
      exact zjo hF h
    · rename_i hne
      refine (hF _ _ _ h).mono fun e1 s1 hk => ?_
      obtain ⟨rfl, rfl⟩ := hk
      cases e1 with
      | normal => exact absurd h (hne _)
      | _ => exact ⟨rfl, rfl⟩
  · cases h
theorem z3w (hP : P.follows .mixedOrders = true) (hr : znw P run) : ∀ {c : Code} {s : St} {e : AExit} {s' : St}, z5i P run mode n m lf c s = some (e, s') → Awp P n m c (fun e1 s1 => e1 = e ∧ s1 = s') s
 | .skip, s, e, s', h => by
  simp only [z5i, Option.some.injEq, Prod.mk.injEq] at h; exact Awp.skip ⟨h.1, h.2⟩
 | .ret, s, e, s', h => by
  simp only [z5i, Option.some.injEq, Prod.mk.injEq] at h; exact Awp.ret ⟨h.1, h.2⟩
 | .exit i, s, e, s', h => by
  simp only [z5i, Option.some.injEq, Prod.mk.injEq] at h; exact Awp.exit ⟨h.1, h.2⟩
 | .seq a b, s, e, s', h => by
  unfold z5i at h
  refine Awp.seq ?_
  split at h
  · rename_i s1 h1
    refine (z3w hP hr h1).mono fun e1 s2 hk => ?_
    obtain ⟨rfl, rfl⟩ := hk
    exact z3w hP hr h
  · rename_i hne
    refine (z3w hP hr h).mono fun e1 s2 hk => ?_
    obtain ⟨rfl, rfl⟩ := hk
    cases e1 with
    | normal => exact absurd h (hne _)
    | _ => exact ⟨rfl, rfl⟩
 | .cond x a b, s, e, s', h => by
  unfold z5i at h
  split at h
  · rename_i t ht
    cases t with
    | true => exact Awp.cond ht (fun _ => z3w hP hr h) (fun e => by cases e)
    | false => exact Awp.cond ht (fun e => by cases e) (fun _ => z3w hP hr h)
  · cases h
 | .block i c, s, e, s', h => by
  unfold z5i at h
  refine Awp.block ?_
  split at h
  · rename_i j s1 h1
    refine (z3w hP hr h1).mono fun e1 s2 hk => ?_
    obtain ⟨rfl, rfl⟩ := hk
    simp only [z0v]
    split at h
    · rename_i hb
      rw [if_pos (Nat.eq_of_beq_eq_true hb)]
      simp only [Option.some.injEq, Prod.mk.injEq] at h; exact ⟨h.1, h.2⟩
    · rename_i hb
      rw [if_neg (Nat.ne_of_beq_eq_false hb)]
      simp only [Option.some.injEq, Prod.mk.injEq] at h; exact ⟨h.1, h.2⟩
  · rename_i hne
    refine (z3w hP hr h).mono fun e1 s2 hk => ?_
    obtain ⟨rfl, rfl⟩ := hk
    cases e1 with
    | exit j => exact absurd h (hne _ _)
    | _ => exact ⟨rfl, rfl⟩
 | .region i ops d, s, e, s', h => by
  unfold z5i at h
  split at h
  · rename_i s1 h1
    simp only [Option.some.injEq, Prod.mk.injEq] at h
    obtain ⟨rfl, rfl⟩ := h
    unfold regX at h1
    split at h1
    · rename_i hd
      refine Awp.region hP hd ?_
      split at h1
      · rename_i e2 h2 tr2 hl
        split at h1
        · rename_i hb
          rw [Option.some.injEq] at h1
          subst h1
          refine zak ?_ (zn3 hr hl)
          rintro e1 h1 tr1 ⟨rfl, rfl, rfl⟩
          refine ⟨fun hd2 => ?_, rfl, rfl⟩
          subst hd2; simpa using hb
        · cases h1
      · cases h1
    · cases h1
  · cases h
 | .loop c, s, e, s', h => by
  unfold z5i at h
  exact Alwp.loop (zjo (fun s e s' hs => z3w hP hr hs) h)
 | .rangeFunc .., _, _, _, h => by cases h
 | .scope _, _, _, _, h => by cases h
 | .label _, _, _, _, h => by cases h
 | .goto _, _, _, _, h => by cases h
 | .refuse _, _, _, _, h => by cases h
end
def lentR (fz : Bool) (h : Nat → AObj) (rs : List TV) : Lent := match fz with | true => rs.flatMap (za2 h) | false => []
theorem lentR_ok {fz : Bool} {h : Nat → AObj} {rs : List TV} : LentOK h (lentR fz h rs) := by
 cases fz with
 | true => exact z7o
 | false => exact fun p hp => nomatch hp
def retX (P : Program) (fz : Bool) (rl : List ResultVar) (m : Nat) (U : List Nat) (s : St) : Option (TV × List AObj) :=
 match zgu P s rl with
 | none => none
 | some rs => match lentR fz (hook s.heap) rs with
  | E => match U ++ (E.map Prod.fst).filter (fun o => Nat.blt o m) with
   | U => match z89 m U (hook s.heap) ((rs.map (TV.lend E)).flatMap TV.ids) with
    | rest => match okU m U rest && (keep m U ++ rest).all (fun o => (hook s.heap o).inn (keep m U ++ rest)) && (rs.map (TV.lend E)).all (TV.inn (keep m U ++ rest)) && E.all (fun p => !(keep m U ++ rest).contains p.1) with
     | true => match zi4 ((rs.map (TV.lend E)).map (TV.ren (invU m rest))) with
      | some r0 => oT r0 fun r0 => oL oO (z8e m U rest (hook s.heap)) fun Hs => some (r0, Hs)
      | none => none
     | false => none
theorem zq1 {P : Program} {fz : Bool} {rl : List ResultVar} {m : Nat} {U : List Nat} {s : St} {r : TV} {Hs' : List AObj} (h : retX P fz rl m U s = some (r, Hs')) : znd P rl m r Hs' s := by
 unfold retX at h
 split at h
 · cases h
 · rename_i rs hrs
   dsimp only at h
   split at h
   · rename_i hb
     simp only [Bool.and_eq_true] at hb
     obtain ⟨⟨⟨h1, h2⟩, h3⟩, h5⟩ := hb
     split at h
     · rename_i r0 hr0
       rw [zbo, z0r zi7] at h
       simp only [Option.some.injEq, Prod.mk.injEq] at h
       obtain ⟨rfl, rfl⟩ := h
       refine zeu (E := lentR fz (hook s.heap) rs) hrs rfl lentR_ok.ok h1 h2 h3 (fun p hp hm => ?_) hr0 (.refl _)
       have := List.all_eq_true.1 h5 p hp
       simp only [Bool.not_eq_true', List.contains_eq_mem, decide_eq_false_iff_not] at this
       exact this hm
     · cases h
   · cases h
def runX (P : Program) (mode : FuncId → Nat) (lf : Nat) : Nat → RunF
 | 0, _, _, _ => none
 | k + 1, f, args, Hs => match P.funcs[f]? with
  | some fn => match fn.body with
   | some c => match z1z P f && Nat.ble args.length fn.ntmps && Hs.all zex with
    | true => oL oT args fun args => oL oO Hs fun Hs => match z5i P (runX P mode lf k) mode fn.ntmps Hs.length lf c ⟨z8f 0 args, z1k 0 Hs, Hs.length⟩ with
     | some (.exit _, _) => none
     | some (_, s) => match retX P (Nat.ble 1 (mode f) && Nat.ble (mode f) 2) fn.results.toList Hs.length (goneX Hs.length s) s with
      | some (r, Hs') => match Nat.ble Hs.length Hs'.length && (Hs'.drop Hs.length).all zex with
       | true => some (r, Hs')
       | false => none
      | none => none
     | none => none
    | false => none
   | none => none
  | none => none
theorem zqh {P : Program} {mode : FuncId → Nat} {lf : Nat} (hP : P.follows .mixedOrders = true) : ∀ k, znw P (runX P mode lf k)
 | 0 => fun f args Hs r Hs' h => by cases h
 | k + 1 => fun f args Hs r Hs' h => by
  unfold runX at h
  split at h
  · rename_i fn hf
    split at h
    · rename_i c hc
      split at h
      · rename_i hb
        simp only [Bool.and_eq_true] at hb
        rw [z0r zbo, z0r zi7] at h
        have key : ∀ {e : AExit} {s : St}, z5i P (runX P mode lf k) mode fn.ntmps Hs.length lf c ⟨z8f 0 args, z1k 0 Hs, Hs.length⟩ = some (e, s) → (∀ i, e ≠ .exit i) →
          (match retX P (Nat.ble 1 (mode f) && Nat.ble (mode f) 2) fn.results.toList Hs.length (goneX Hs.length s) s with
          | some (r, Hs') => match Nat.ble Hs.length Hs'.length && (Hs'.drop Hs.length).all zex with
           | true => some (r, Hs')
           | false => none
          | none => none) = some (r, Hs') → AC P f args Hs r Hs' := by
         intro e s hs he h
         split at h
         · rename_i r1 Hs1 hret
           split at h
           · rename_i hb2
             simp only [Bool.and_eq_true] at hb2
             simp only [Option.some.injEq, Prod.mk.injEq] at h
             obtain ⟨rfl, rfl⟩ := h
             refine AC.intro hf hc rfl rfl hb.1.1 (Nat.le_of_ble_eq_true hb.1.2) (Nat.le_of_ble_eq_true hb2.1) (fun x hx => zbw (List.all_eq_true.1 hb.2 x hx)) (fun x hx => zbw (List.all_eq_true.1 hb2.2 x hx)) ?_
             refine (z3w hP (zqh hP k) hs).mono fun e1 s1 hk => ?_
             obtain ⟨rfl, rfl⟩ := hk
             cases e1 with
             | exit i => exact absurd rfl (he i)
             | normal => exact zq1 hret
             | ret => exact zq1 hret
           · cases h
         · cases h
        cases hs : z5i P (runX P mode lf k) mode fn.ntmps Hs.length lf c ⟨z8f 0 args, z1k 0 Hs, Hs.length⟩ with
        | none => rw [hs] at h; cases h
        | some q =>
         obtain ⟨e, s⟩ := q
         rw [hs] at h
         cases e with
         | exit i => cases h
         | normal => exact key hs (fun i hi => by cases hi) h
         | ret => exact key hs (fun i hi => by cases hi) h
      · cases h
    · cases h
  · cases h
theorem runX_AC {P : Program} (hP : P.follows .mixedOrders = true) (mode : FuncId → Nat) (lf k : Nat) {f : FuncId} {args : List TV} {Hs : List AObj} {r : TV} {Hs' : List AObj} (h : runX P mode lf k f args Hs = some (r, Hs')) : AC P f args Hs r Hs' := zqh hP k _ _ _ _ _ h
end Go.AM

namespace Go.AM
abbrev FR (r : Option Nat) : Fence := { Fence.wide with round := r }
def z6y (ops : Array Oper) : Bool := ops.all fun o => match o.op with | .defer _ => false | _ => true
theorem zhb {ops : Array Oper} (h : z6y ops = true) : ∀ (i : Nat) (o : Oper), ops[i]? = some o → ∀ c, o.op ≠ .defer c := fun i o ho c e => by
 have := Array.all_eq_true_iff_forall_mem.1 h o (Array.mem_of_getElem? ho)
 rw [e] at this; cases this
theorem zd1 {ops : Array Oper} (h : z6y ops = true) : ∀ o ∈ ops.toList, ∀ c, o.op ≠ .defer c := fun o ho => by
 obtain ⟨i, hi⟩ := List.getElem?_of_mem ho
 exact zhb h i o (by simpa using hi)
theorem calls_in {r : Option Nat} {n : Nat} {P : Program} {f : FuncId} {args : Array Value} {w : World} {R : Ending → World → Prop} (h : Calls P f args w R) : CallsIn (FR r) n P f args w R := by
 have := (callsIn_wide (n := n)).2 h
 exact this
theorem rows_in {r : Option Nat} {n : Nat} {P : Program} {row : String} {args : Array Value} {w : World} {R : Value → World → Prop} (h : Rows P row args w R) : RowsIn (FR r) n P row args w R :=
 fun c cs _ => let ⟨v, w', hr, s⟩ := h c cs; ⟨v, w', hr, stepsIn_wide.2 s⟩
theorem op_in {r : Option Nat} {n : Nat} {P : Program} {o : Oper} {a : Act} {w : World} {K : Act → World → Prop} {Q : Exit → Act → World → Prop} (hnd : ∀ c, o.op ≠ .defer c) (h : o.wp P a w K Q) : o.wpIn (FR r) n P a w K Q := by
 refine ⟨fun _ _ => trivial, ?_⟩
 rw [Oper.semAt_eq _ _ _ hnd]
 unfold Oper.wp at h
 generalize (execOp a.eval o).run P w = res at h ⊢
 cases res with
 | ok nx w' => cases nx with
  | value v => exact h
  | skip => exact h
  | defer d => exact h
  | enter f args => exact ⟨fun hd => by simp [FR, Fence.wide] at hd, calls_in h⟩
  | row row args => exact ⟨fun hd => by simp [FR, Fence.wide] at hd, rows_in h⟩
  | _ => exact h.elim
 | halt hl w' => cases hl with
  | panic v => exact h
  | _ => exact h.elim
theorem zi2 {r : Option Nat} {n : Nat} {P : Program} {ops : Array Oper} {Q : Exit → Act → World → Prop} (hq : ¬ LetsOut Q) : ∀ {l : List Oper} {a : Act} {w : World}, (∀ o ∈ l, ∀ c, o.op ≠ .defer c) → wpList P ops Q l a w → wpListIn (FR r) n P ops Q l a w
 | [], _, _, _, h => h
 | o :: rest, a, w, hd, h => by
  have ih : ∀ a w, wpList P ops Q rest a w → wpListIn (FR r) n P ops Q rest a w := fun a w h => zi2 hq (fun o ho => hd o (List.mem_cons_of_mem _ ho)) h
  unfold wpList at h
  unfold wpListIn
  split at h
  · rename_i hw
    rw [if_pos hw]
    rcases h with h | ⟨_, h⟩
    · exact op_in (hd o List.mem_cons_self) (Oper.wp_mono ih h)
    · exact absurd h hq
  · rename_i hw
    rw [if_neg hw]
    exact ⟨fun _ _ => trivial, ih _ _ h⟩
theorem zl0 {r : Option Nat} {n : Nat} {P : Program} {ops : Array Oper} {Q : Exit → Act → World → Prop} (hq : ¬ LetsOut Q) (hd : ∀ (i : Nat) (o : Oper), ops[i]? = some o → ∀ c, o.op ≠ .defer c) : ∀ {fuel : Nat} {listed : Array Bool} {a : Act} {w : World},
  wpAny P .any ops Q fuel listed a w → wpAnyIn (FR r) n P .any ops Q fuel listed a w
 | 0, _, _, _, h => h
 | fuel + 1, listed, a, w, h => by
  refine ⟨h.1, fun i hi => ?_⟩
  have h2 := h.2 i hi
  unfold wpOp at h2
  unfold wpOpIn
  cases ho : ops[i]? with
  | none => rw [ho] at h2; exact zl0 hq hd h2
  | some o =>
   rw [ho] at h2
   simp only at h2 ⊢
   split at h2
   · rename_i hw
     rw [if_pos hw]
     rcases h2 with h2 | ⟨_, h2⟩
     · exact op_in (hd i o ho) (Oper.wp_mono (fun a w h => zl0 hq hd h) h2)
     · exact absurd h2 hq
   · rename_i hw
     rw [if_neg hw]
     exact ⟨fun _ _ => trivial, zl0 hq hd h2⟩
section
variable {P : Program} {w0 : World} {foot : Nat → Prop} {Y : Nat → Prop} {pin : Nat → Option (Option Nat)}
theorem zdt {r : Option Nat} {n : Nat} {id : Nat} {ops : Array Oper} {dr : Bool} {s : St} {β : Nat → Option Nat} {a : Act} {w : World} {Q : Exit → Act → World → Prop} {R : St → Prop} (hm : P.follows .mixedOrders = true) (hnd : z6y ops = true) (hq : ¬ LetsOut Q) (hdst : dstB ops a.tmps.size = true)
  (hl : lex P ops s.nx ops.toList 0 s.env s.heap [] fun e h tr => (dr = true → ze3 ops tr = true) ∧ R ⟨e, h, s.nx + 32 * ops.size⟩)
  (hR : RelF P w0 foot Y pin (look s.env) (hook s.heap) β a w) (hb : ∀ k, Occ pin β k → k < s.nx)
  (hQ : ∀ s' a' w' β', R s' → a'.tmps.size = a.tmps.size → RelF P w0 foot Y pin (look s'.env) (hook s'.heap) β' a' w' → (∀ k, Occ pin β' k → k < s'.nx) → Q .normal a' w') : (Code.region id ops dr).wpIn (FR r) n P Q a w := by
 have hdst' : ∀ (j : Nat) (q : Oper) (d : Nat), ops[j]? = some q → q.dst = some d → d < a.tmps.size := by
  intro j q d hq hd
  have := Array.all_eq_true_iff_forall_mem.1 hdst q (Array.mem_of_getElem? hq)
  rw [hd] at this
  simpa using this
 obtain ⟨δs, e', h', tr', hch, he, hh, htr, hdraw, hRR⟩ := z7p _ _ _ _ _ hl
 rw [List.append_nil] at htr
 have hfin : ∀ a' w' β', a'.tmps.size = a.tmps.size → RelF P w0 foot Y pin (endE (look s.env) δs) (endH (hook s.heap) δs) β' a' w' → (∀ k, Occ pin β' k → k < s.nx + 32 * ops.size) → Q .normal a' w' := by
  intro a' w' β' h1 h2 h3
  refine hQ _ a' w' β' hRR h1 ?_ h3
  show RelF P w0 foot Y pin (look e') (hook h') β' a' w'
  rw [he, hh]; exact h2
 cases dr with
 | false =>
  refine wpIn_region_list (zi2 hq (zd1 hnd) (z7s hdst' ops.toList 0 _ _ δs β a w (fun o ho => ?_) hch rfl hR (by simpa using hb) (fun a' w' β' h1 _ h2 h3 => hfin a' w' β' h1 h2 (by simpa using h3))))
  obtain ⟨j, hj⟩ := List.getElem?_of_mem ho
  exact ⟨j, by simpa using hj⟩
 | true =>
  refine wpIn_region_any hm (zl0 hq (zhb hnd) ?_)
  have hR' : RelF P w0 foot Y pin (look s.env) (hook s.heap) β a { w with drawn := w.drawn + 1 } := by
   have g : Goes w { w with drawn := w.drawn + 1 } (XO Y (hook s.heap) β) (XO Y (hook s.heap) β) β β := ⟨Nat.le_refl _, fun b hb _ => ⟨rfl, hb⟩, fun _ _ => rfl, fun o b hb => ⟨hb, hR.objs.lt o b hb⟩⟩
   exact ⟨hR.good.drew, fun i => (hR.env i).goes g, ⟨fun o b h1 h2 => (hR.objs.rep o b h1 h2).goes g rfl, hR.objs.has, hR.objs.inj, hR.objs.lt⟩, hR.own, hR.defers, hR.ylt, hR.pins, hR.gl⟩
  have hfalse : ∀ i, (Array.replicate ops.size false).getD i false = false := by
   intro i
   by_cases hi : i < ops.size
   · simp [hi]
   · simp [hi]
  refine zdi (w0 := w0) (foot := foot) (Y := Y) hch htr (hdraw rfl) hdst' hfin ops.size _ β a _ (by simp) ?_ (fun j o e _ h2 => by rw [hfalse] at h2; cases h2) rfl (z6j hR' (fun t => ?_) (fun x => ?_)) (fun k hk => .inl (hb k hk))
  · have : ((List.range ops.size).filter fun i => !(Array.replicate ops.size false).getD i true) = List.range ops.size := by
     apply List.filter_eq_self.2
     intro i hi
     simp only [List.mem_range] at hi
     simp [hi]
    rw [this]; simp
  · have key : ∀ n, eD (look s.env) (fun j => δs.getD j ⟨none, .any, [], []⟩) (fun j => (Array.replicate ops.size false).getD j false) n = look s.env := by
     intro n; induction n with
     | zero => rfl
     | succ n ih => simp only [eD]; rw [if_neg (by rw [hfalse]; simp)]; exact ih
    rw [key]
  · have key : ∀ n, hD (hook s.heap) (fun j => δs.getD j ⟨none, .any, [], []⟩) (fun j => (Array.replicate ops.size false).getD j false) n = hook s.heap := by
     intro n; induction n with
     | zero => rfl
     | succ n ih => simp only [hD]; rw [if_neg (by rw [hfalse]; simp)]; exact ih
    rw [key]
end
theorem zdw {P : Program} {w0 : World} {foot : Nat → Prop} {Y : Nat → Prop} {pin : Nat → Option (Option Nat)} {r : Option Nat} {n : Nat} {id : Nat} {ops : Array Oper} {s : St} {β : Nat → Option Nat} {a : Act} {w : World} {Q : Exit → Act → World → Prop} {R : St → Prop} (hnd : z6y ops = true) (hq : ¬ LetsOut Q) (hdst : dstB ops a.tmps.size = true)
  (hl : lex P ops s.nx ops.toList 0 s.env s.heap [] fun e h _ => R ⟨e, h, s.nx + 32 * ops.size⟩)
  (hR : RelF P w0 foot Y pin (look s.env) (hook s.heap) β a w) (hb : ∀ k, Occ pin β k → k < s.nx)
  (hQ : ∀ s' a' w' β', R s' → a'.tmps.size = a.tmps.size → a'.defers = a.defers → RelF P w0 foot Y pin (look s'.env) (hook s'.heap) β' a' w' → (∀ k, Occ pin β' k → k < s'.nx) → Q .normal a' w') : (Code.region id ops false).wpIn (FR r) n P Q a w := by
 have hdst' : ∀ (j : Nat) (q : Oper) (d : Nat), ops[j]? = some q → q.dst = some d → d < a.tmps.size := by
  intro j q d hq hd
  have := Array.all_eq_true_iff_forall_mem.1 hdst q (Array.mem_of_getElem? hq)
  rw [hd] at this
  simpa using this
 obtain ⟨δs, e', h', tr', hch, he, hh, _, hRR⟩ := z7p _ _ _ _ _ hl
 refine wpIn_region_list (zi2 hq (zd1 hnd) (z7s hdst' ops.toList 0 _ _ δs β a w (fun o ho => ?_) hch rfl hR (by simpa using hb) (fun a' w' β' h1 hd h2 h3 => ?_)))
 · obtain ⟨j, hj⟩ := List.getElem?_of_mem ho
   exact ⟨j, by simpa using hj⟩
 · refine hQ _ a' w' β' hRR h1 hd ?_ (by simpa using h3)
   show RelF P w0 foot Y pin (look e') (hook h') β' a' w'
   rw [he, hh]; exact h2
section
variable {P : Program} {n m : Nat} {c : Code} {Q : AExit → St → Prop} {s : St}
def AwpR (P : Program) (n m : Nat) (c : Code) (Q : AExit → St → Prop) (s : St) : Prop :=
 ∀ (l : Nat) (w0 : World) (foot Y : Nat → Prop) (pin : Nat → Option (Option Nat)) (β : Nat → Option Nat) (a : Act) (w : World), (∀ o b, pin o = some b → o < m) → a.tmps.size = n → RelF P w0 foot Y pin (look s.env) (hook s.heap) β a w → (∀ k, Occ pin β k → k < s.nx) →
  c.wpIn (FR (some l)) 0 P (Lift P w0 foot Y pin n Q) a w
theorem AwpR.mono {Q' : AExit → St → Prop} (h : AwpR P n m c Q s) (hq : ∀ e s, Q e s → Q' e s) : AwpR P n m c Q' s :=
 fun l w0 foot Y pin β a w hm hn hR hb => wpIn_mono (h l w0 foot Y pin β a w hm hn hR hb) (Lift.mono hq)
theorem AwpR.skip (h : Q .normal s) : AwpR P n m .skip Q s := fun _ _ _ _ _ β _ _ _ hn hR hb => wpIn_skip ⟨s, β, h, hn, hR, hb⟩
theorem AwpR.ret (h : Q .ret s) : AwpR P n m .ret Q s := fun _ _ _ _ _ β _ _ _ hn hR hb => wpIn_ret ⟨s, β, h, hn, hR, hb⟩
theorem AwpR.exit {i : Nat} (h : Q (.exit i) s) : AwpR P n m (.exit i) Q s := fun _ _ _ _ _ β _ _ _ hn hR hb => wpIn_exit ⟨s, β, h, hn, hR, hb⟩
theorem AwpR.seq {c₁ c₂ : Code} (h : AwpR P n m c₁ (za5 (AwpR P n m c₂ Q) Q) s) : AwpR P n m (.seq c₁ c₂) Q s := fun l w0 foot Y pin β a w hm hn hR hb => by
 refine wpIn_seq (wpIn_mono (h l w0 foot Y pin β a w hm hn hR hb) fun e a' w' hq => ?_)
 cases e with
 | normal => obtain ⟨s', β', h1, h2, h3, h4⟩ := hq; exact h1 l w0 foot Y pin β' a' w' hm h2 h3 h4
 | exit i => exact hq
 | ret => exact hq
 | _ => exact hq.elim
theorem AwpR.cond {x : Operand} {c₁ c₂ : Code} {t : Bool} (hc : ev s.env x = .c (.a (.fz (.bool t)))) (ht : t = true → AwpR P n m c₁ Q s) (hf : t = false → AwpR P n m c₂ Q s) : AwpR P n m (.cond x c₁ c₂) Q s := fun l w0 foot Y pin β a w hm hn hR hb => by
 have hv := hR.eval x
 rw [← zh4, hc] at hv
 refine wpIn_cond (t := t) hv.bool_inv ?_
 cases t with
 | true => exact ht rfl l w0 foot Y pin β a w hm hn hR hb
 | false => exact hf rfl l w0 foot Y pin β a w hm hn hR hb
theorem AwpR.block {i : Nat} (h : AwpR P n m c (z0v i Q) s) : AwpR P n m (.block i c) Q s := fun l w0 foot Y pin β a w hm hn hR hb => by
 refine wpIn_block (wpIn_mono (h l w0 foot Y pin β a w hm hn hR hb) fun e a' w' hq => ?_)
 cases e with
 | normal => exact hq
 | exit j =>
  obtain ⟨s', β', h1, h2⟩ := hq
  simp only [z0v] at h1
  simp only [Exit.inBlock]
  split at h1
  · rename_i hj; rw [if_pos hj]; exact ⟨s', β', h1, h2⟩
  · rename_i hj; rw [if_neg hj]; exact ⟨s', β', h1, h2⟩
 | ret => exact hq
 | _ => exact hq.elim
theorem lift_out {w0 : World} {foot Y : Nat → Prop} {pin : Nat → Option (Option Nat)} : ¬ LetsOut (Lift P w0 foot Y pin n Q) := fun ⟨_, _, h⟩ => h
theorem AwpR.region {i : Nat} {ops : Array Oper} {d : Bool} (hP : P.follows .mixedOrders = true) (hd : dstB ops n = true) (hnd : z6y ops = true)
  (hl : lex P ops s.nx ops.toList 0 s.env s.heap [] fun e h tr => (d = true → ze3 ops tr = true) ∧ Q .normal ⟨e, h, s.nx + 32 * ops.size⟩) : AwpR P n m (.region i ops d) Q s := fun l w0 foot Y pin β a w _ hn hR hb => by
 subst hn
 exact zdt (R := Q .normal) hP hnd lift_out hd hl hR hb fun s' a' w' β' h1 h2 h3 h4 => ⟨s', β', h1, h2, h3, h4⟩
theorem AwpR.look {e1 e2 : Env} {h : AHeap} {nx : Nat} (he : look e1 = look e2) (hA : AwpR P n m c Q ⟨e1, h, nx⟩) : AwpR P n m c Q ⟨e2, h, nx⟩ := fun l w0 foot Y pin β a w hm hn hR hb =>
 hA l w0 foot Y pin β a w hm hn (by show RelF _ _ _ _ _ (Go.AM.look e1) _ _ _ _; rw [he]; exact hR) hb
theorem AwpR.uneq (h : AwpR P n m c (eqQ Q) s) : AwpR P n m c Q s := fun l w0 foot Y pin β a w hm hn hR hb => by
 refine wpIn_mono (h l w0 foot Y pin β a w hm hn hR hb) fun e a' w' hq => ?_
 have key : ∀ x, At P w0 foot Y pin n (eqQ Q x) a' w' → At P w0 foot Y pin n (Q x) a' w' := by
  rintro x ⟨s', β', ⟨e2, h1, h2⟩, h3, h4, h5⟩
  exact ⟨_, β', h2, h3, by show RelF _ _ _ _ _ (Go.AM.look e2) _ _ _ _; rw [h1]; exact h4, h5⟩
 cases e with
 | normal => exact key _ hq
 | exit i => exact key _ hq
 | ret => exact key _ hq
 | _ => exact hq.elim
end
def z6z : Code → Bool
 | .skip => true
 | .ret => true
 | .exit _ => true
 | .seq a b => z6z a && z6z b
 | .cond _ a b => z6z a && z6z b
 | .block _ c => !isLoop c && z6z c
 | .region _ ops _ => z6y ops
 | _ => false
section
variable {P : Program} {sh : FuncId → List Sh} {n m : Nat}
theorem regR_inv (hP : P.follows .mixedOrders = true) {i : Nat} {ops : Array Oper} {d : Bool} {K Q : AExit → St → Prop} {s : St} (hnd : z6y ops = true) (hk : ∀ e s, K e s → Q e s) (h : regV P sh n ops d K s) : AwpR P n m (.region i ops d) Q s := by
 unfold regV at h
 split at h
 · rename_i hd
   refine AwpR.uneq (AwpR.region hP hd hnd ?_)
   have h1 := z3x rfl h
   refine zak ?_ h1
   rintro e1 h1 tr1 ⟨e2, he, hk2⟩
   split at hk2
   · rename_i hb
     refine ⟨fun hd2 => ?_, e2, he, hk _ _ hk2⟩
     subst hd2; simpa using hb
   · exact hk2.elim
 · exact h.elim
theorem z4g (hP : P.follows .mixedOrders = true) {G : Nat → St → Prop} : ∀ {c : Code} {K Q : AExit → St → Prop} {s : St}, z6z c = true → (∀ e s, K e s → Q e s) → runV P sh n m [] G c K s → AwpR P n m c Q s
 | .skip, K, Q, s, _, hk, h => AwpR.skip (hk _ _ h)
 | .ret, K, Q, s, _, hk, h => AwpR.ret (hk _ _ h)
 | .exit i, K, Q, s, _, hk, h => AwpR.exit (hk _ _ h)
 | .seq a b, K, Q, s, hp, hk, h => by
  simp only [z6z, Bool.and_eq_true] at hp
  refine AwpR.seq (z4g hP hp.1 (fun e s hs => ?_) h)
  cases e with
  | normal => exact z4g hP hp.2 hk hs
  | exit i => exact hk _ s hs
  | ret => exact hk _ s hs
 | .cond x a b, K, Q, s, hp, hk, h => by
  simp only [z6z, Bool.and_eq_true] at hp
  unfold runV condV at h
  split at h
  · rename_i t ht
    split at h
    · rename_i tt
      have hsame : ∀ y, t = y → look ((tt, bV y) :: s.env) = look s.env := fun y hy => zax (by simp only [ev] at ht; rw [ht, hy]; rfl)
      cases t with
      | true => exact AwpR.cond ht (fun _ => AwpR.look (hsame _ rfl) (z4g hP hp.1 hk h)) (fun e => by cases e)
      | false => exact AwpR.cond ht (fun e => by cases e) (fun _ => AwpR.look (hsame _ rfl) (z4g hP hp.2 hk h))
    · cases t with
      | true => exact AwpR.cond ht (fun _ => z4g hP hp.1 hk h) (fun e => by cases e)
      | false => exact AwpR.cond ht (fun e => by cases e) (fun _ => z4g hP hp.2 hk h)
  · exact h.elim
 | .block i c, K, Q, s, hp, hk, h => by
  simp only [z6z, Bool.and_eq_true, Bool.not_eq_true'] at hp
  unfold runV at h
  rw [hp.1] at h
  exact AwpR.block (z4g hP hp.2 (z1w hk) h)
 | .region i ops d, K, Q, s, hp, hk, h => by
  unfold runV at h
  simp only [z0m, Option.isSome_none] at h
  exact regR_inv hP hp hk h
 | .loop _, _, _, _, hp, _, _ => by cases hp
 | .rangeFunc .., _, _, _, hp, _, _ => by cases hp
 | .scope _, _, _, _, hp, _, _ => by cases hp
 | .label _, _, _, _, hp, _, _ => by cases hp
 | .goto _, _, _, _, hp, _, _ => by cases hp
 | .refuse _, _, _, _, hp, _, _ => by cases hp
end
end Go.AM

namespace Go.AM
theorem AV.ren_id (x : AV) : x.ren (fun o => o) = x := by cases x <;> rfl
theorem z48 {α : Type} {f : α → α} (h : ∀ x, f x = x) (l : List α) : l.map f = l := by
 rw [show f = id from funext h, List.map_id]
theorem WV.ren_id (x : WV) : x.ren (fun o => o) = x := by
 cases x with
 | a x => simp only [WV.ren, AV.ren_id]
 | fn f a b =>
  simp only [WV.ren]
  rw [z48 (fun p : Bool × List AV => by rw [z48 AV.ren_id]) a, z48 (fun p : Bool × List AV => by rw [z48 AV.ren_id]) b]
theorem TV.ren_id (x : TV) : x.ren (fun o => o) = x := by
 cases x with
 | any => rfl
 | c x => simp only [TV.ren, WV.ren_id]
 | agg cs => simp only [TV.ren]; rw [z48 WV.ren_id]
 | tup vs => simp only [TV.ren]; rw [z48 (fun p : Bool × List WV => by rw [z48 WV.ren_id]) vs]
theorem AObj.ren_id (x : AObj) : x.ren (fun o => o) = x := by
 cases x with
 | arr n es => simp only [AObj.ren]; rw [z48 (fun e : List WV => by rw [z48 WV.ren_id]) es]
 | mapo es => simp only [AObj.ren]; rw [z48 (fun e : (Bool × List FV) × (Bool × List WV) => by rw [z48 WV.ren_id]) es]
 | _ => rfl
theorem TRep.cut {w : World} {X : Nat → Prop} {β : Nat → Option Nat} {m : Nat} {x : TV} {v : Value} (h : TRep w X β x v) (hlt : x.lt m = true) : TRep w X (cutβ (fun o => o) m β) x v := by
 refine TRep.unmap (σ := fun o => o) (m := m) (β2 := β) (X2 := X) (fun _ _ h => h) (fun o b ho hb => by simp only [cutβ, ho, if_true]; exact hb) hlt ?_
 rw [TV.ren_id]; exact h
section
variable {P : Program} {w0 : World} {foot : Nat → Prop} {Y : Nat → Prop} {pin : Nat → Option (Option Nat)} {e : Nat → TV} {h h' : Nat → AObj} {β β' : Nat → Option Nat} {a : Act} {W W' : World} {m0 : Nat}
theorem RelF.under (hR : RelF P w0 foot Y pin e h β a W) (hlt : ∀ i, (e i).lt m0 = true) (g : Good W (Own h β) W') (hO : Objs h' β' Y W') (hown : ∀ o b, isLive (h' o) → β' o = some b → Own h β b ∨ W.heap.size ≤ b)
  (hp : ∀ o, o < m0 → β' o = β o) (hpm : ∀ o b, pin o = some b → o < m0) : RelF P w0 foot Y pin e h' β' a W' := by
 have old : ∀ b, Own h β b → foot b ∨ w0.heap.size ≤ b := fun b ⟨o, h1, h2⟩ => hR.own o b h1 h2
 have gs : Goes W W' (XO Y h β) (XO Y h' β') (cutβ (fun o => o) m0 β) β' := by
  refine ⟨g.size, fun b hx hb => ⟨g.blk b hb fun ho => hx (.inr ho), fun hx' => ?_⟩, g.shp, fun o b hb => ?_⟩
  · rcases hx' with hy | ⟨o, h1, h2⟩
    · exact hx (.inl hy)
    · rcases hown o b h1 h2 with h3 | h3
      · exact hx (.inr h3)
      · omega
  · simp only [cutβ] at hb
    split at hb
    · rename_i ho
      exact ⟨by rw [hp o ho]; exact hb, hR.objs.lt o b hb⟩
    · cases hb
 refine ⟨hR.good.trans g fun b hb ho => ?_, fun i => ((hR.env i).cut (hlt i)).goes gs, hO, fun o b h1 h2 => ?_, hR.defers.good hR.objs g, hR.ylt, fun o x hx => ?_, hR.gl⟩
 · rcases old b ho with h1 | h1
   · exact h1
   · omega
 · rcases hown o b h1 h2 with h3 | h3
   · exact old b h3
   · exact .inr (Nat.le_trans hR.good.size h3)
 · rw [hp o (hpm o x hx)]; exact hR.pins o x hx
end
abbrev bk0 (S I : TypeId) : Array Oper := #[
 ⟨some 4, .load S (.tmp 1), S, "iter.go:28", #[], none⟩,
 ⟨some 5, .call ⟨.builtin .len, #[.tmp 4], #[S]⟩, I, "iter.go:28", #[⟨0, .data⟩], none⟩,
 ⟨some 6, .binOp .sub I (.tmp 5) (.const (.int .i64 1)) I, I, "iter.go:28", #[⟨1, .data⟩], none⟩,
 ⟨some 3, .assign (.tmp 6), I, "iter.go:28", #[⟨2, .data⟩, ⟨0, .phase⟩, ⟨1, .phase⟩, ⟨2, .phase⟩], none⟩]
abbrev bk1 (I B : TypeId) : Array Oper := #[
 ⟨some 7, .move (.tmp 3), I, "iter.go:28", #[], none⟩,
 ⟨some 8, .binOp .geq I (.tmp 7) (.const (.int .i64 0)) I, B, "iter.go:28", #[⟨0, .data⟩], none⟩]
abbrev bk3a (S E Y I : TypeId) : List Oper := [
 ⟨some 11, .move (.tmp 0), Y, "iter.go:29", #[], none⟩,
 ⟨some 12, .move (.tmp 3), I, "iter.go:29", #[], none⟩,
 ⟨some 13, .load S (.tmp 1), S, "iter.go:29", #[], none⟩,
 ⟨some 14, .move (.tmp 3), I, "iter.go:29", #[], none⟩,
 ⟨some 15, .indexAddr S (.tmp 13) (.tmp 14), 0, "iter.go:29", #[⟨2, .data⟩, ⟨3, .data⟩], none⟩,
 ⟨some 16, .load E (.tmp 15), E, "iter.go:29", #[⟨4, .data⟩], none⟩]
abbrev bk3b (E I B : TypeId) : List Oper := [
 ⟨some 17, .call ⟨.value (.tmp 11), #[.tmp 12, .tmp 16], #[I, E]⟩, B, "iter.go:29", #[⟨0, .data⟩, ⟨1, .data⟩, ⟨5, .data⟩], none⟩,
 ⟨some 18, .unOp .not B (.tmp 17), B, "iter.go:29", #[⟨6, .data⟩], none⟩]
abbrev bk2 (I : TypeId) : Array Oper := #[
 ⟨some 9, .move (.tmp 3), I, "iter.go:28", #[], none⟩,
 ⟨some 10, .binOp .sub I (.tmp 9) (.const (.int .i64 1)) I, I, "iter.go:28", #[⟨0, .data⟩], none⟩,
 ⟨some 3, .assign (.tmp 10), I, "iter.go:28", #[⟨1, .data⟩, ⟨0, .phase⟩, ⟨1, .phase⟩], none⟩]
abbrev bkRound (S E Y I B : TypeId) : Code :=
 .seq (.seq (.region 1 (bk1 I B) false) (.cond (.tmp 8) .skip (.exit 0)))
  (.seq (.block 1 (.seq (.region 3 (bk3a S E Y I ++ bk3b E I B).toArray false) (.cond (.tmp 18) .ret .skip))) (.region 2 (bk2 I) false))
def bkBody (S E Y I B : TypeId) : Code := .seq (.region 0 (bk0 S I) false) (.block 0 (.loop (bkRound S E Y I B)))
def IsBk (P : Program) (bk : FuncId) (S E : TypeId) : Prop := z1z P bk = true ∧ ∃ (fn : Func) (Y I B : TypeId), P.funcs[bk]? = some fn ∧ fn.body = some (bkBody S E Y I B) ∧ fn.ntmps = 19 ∧ fn.results = #[]
section
variable {P : Program} {n : Nat} {ops : Array Oper} {Q : Exit → Act → World → Prop} {l : List Oper} {a : Act} {w : World}
theorem z0y {d : Option Nat} {op : Op} {t : TypeId} {p : String} {af : Array Edge} {v : Value} (hnd : ∀ c, op ≠ .defer c) (h : (execOp a.eval ⟨d, op, t, p, af, none⟩).run P w = .ok (.value v) w) (k : wpListIn Fence.wide n P ops Q l (a.put d v) w) : wpListIn Fence.wide n P ops Q (⟨d, op, t, p, af, none⟩ :: l) a w := by
 unfold wpListIn
 rw [if_pos (by rfl)]
 refine ⟨fun _ _ => trivial, ?_⟩
 rw [Oper.semAt_eq _ _ _ hnd, h]
 exact k
theorem zac {d i : Nat} {v : Value} : (a.put (some d) v).tmps.getD i undef = if i = d ∧ d < a.tmps.size then v else a.tmps.getD i undef := by
 simp only [Act.put, Array.getD_eq_getD_getElem?, Array.getElem?_setIfInBounds]
 by_cases h : i = d
 · subst h
   by_cases h2 : i < a.tmps.size
   · simp [h2]
   · simp [h2]
 · simp [h, show ¬ d = i from fun e => h e.symm]
theorem size_put {d : Option Nat} {v : Value} : (a.put d v).tmps.size = a.tmps.size := by cases d <;> simp [Act.put]
theorem zlr {d : Option Nat} {v : Value} : (a.put d v).defers = a.defers := by cases d <;> rfl
theorem z0p {t : Nat} : a.eval (.tmp t) = a.tmps.getD t undef := rfl
theorem zr3 {I : TypeId} {r : Int} (x y : Operand) : (do eqGuard .sub I x y (.int .i64 r) (.int .i64 1); binOp .sub I (.int .i64 r) (.int .i64 1) : Sem Value).run P w = .ok (.int .i64 (IntKind.i64.wrap (r - 1))) w := by
 obtain ⟨z, h1, h2⟩ := zf2 (P := P) (w := w) (X := fun _ => False) (β := fun _ => none) (op := .sub) (t := I) (x := iV r) (y := iV 1) (u := .int .i64 r) (v := .int .i64 1) x y rfl (.int_mk _ _) (.int_mk _ _)
 rw [h1, TRep.int_inv h2]
theorem run_geq {I : TypeId} {r : Int} (x y : Operand) : (do eqGuard .geq I x y (.int .i64 r) (.int .i64 0); binOp .geq I (.int .i64 r) (.int .i64 0) : Sem Value).run P w = .ok (.bool (r ≥ 0)) w := by
 obtain ⟨z, h1, h2⟩ := zf2 (P := P) (w := w) (X := fun _ => False) (β := fun _ => none) (op := .geq) (t := I) (x := iV r) (y := iV 0) (u := .int .i64 r) (v := .int .i64 0) x y rfl (.int_mk _ _) (.int_mk _ _)
 rw [h1, TRep.bool_inv h2]
end
structure Itf (a : Act) (yv bp : Value) : Prop where
 size : a.tmps.size = 19
 defers : a.defers = []
 t0 : a.tmps.getD 0 undef = yv
 t1 : a.tmps.getD 1 undef = bp
theorem Itf.put {a : Act} {yv bp : Value} (h : Itf a yv bp) {d : Nat} (hd : 2 ≤ d) (v : Value) : Itf (a.put (some d) v) yv bp :=
 ⟨by rw [size_put]; exact h.size, by rw [zlr]; exact h.defers, by rw [zac, if_neg (by omega)]; exact h.t0, by rw [zac, if_neg (by omega)]; exact h.t1⟩
theorem zc1 {P : Program} {w : World} {s : Sem Value} {v : Value} (h : s.run P w = .ok v w) : (do pure (.value (← s)) : Sem Next).run P w = .ok (.value v) w := by
 simp only [Sem.run_bind, h, Result.andThen_ok, Sem.run_pure]
section
variable {P : Program} {a : Act} {w : World} {d : Option Nat} {t I S : TypeId} {p : String} {af : Array Edge} {u v x : Value} {i j : Nat}
theorem xload (h : (Instr.loadAt S (a.eval (.tmp i))).run P w = .ok v w) : (execOp a.eval ⟨d, .load S (.tmp i), t, p, af, none⟩).run P w = .ok (.value v) w := zc1 h
theorem xlen (h : (Builtin.len_ #[S] t #[a.eval (.tmp i)]).run P w = .ok v w) : (execOp a.eval ⟨d, .call ⟨.builtin .len, #[.tmp i], #[S]⟩, t, p, af, none⟩).run P w = .ok (.value v) w := by
 have e : (execOp a.eval ⟨d, .call ⟨.builtin .len, #[.tmp i], #[S]⟩, t, p, af, none⟩).run P w = (do pure (.value (← Builtin.len_ #[S] t #[a.eval (.tmp i)])) : Sem Next).run P w := by
  simp only [execOp, resolve, invoke, Sem.run_bind, Sem.run_pure, Result.andThen_ok, builtin, List.map_toArray, List.map_cons, List.map_nil]
 rw [e]; exact zc1 h
theorem zo4 : (execOp a.eval ⟨d, .move (.tmp i), t, p, af, none⟩).run P w = .ok (.value (a.eval (.tmp i))) w := rfl
theorem zo2 : (execOp a.eval ⟨d, .assign (.tmp i), t, p, af, none⟩).run P w = .ok (.value (a.eval (.tmp i))) w := rfl
theorem xbin {op : BinOp} {c : Value} (h : (do eqGuard op I (.tmp i) (.const c) (a.eval (.tmp i)) c; binOp op I (a.eval (.tmp i)) c : Sem Value).run P w = .ok v w) : (execOp a.eval ⟨d, .binOp op I (.tmp i) (.const c) I, t, p, af, none⟩).run P w = .ok (.value v) w := by
 refine Eq.trans ?_ (zc1 h)
 rfl
theorem xnot {b : Bool} (h : a.eval (.tmp i) = .bool b) : (execOp a.eval ⟨d, .unOp .not I (.tmp i), t, p, af, none⟩).run P w = .ok (.value (.bool (!b))) w := by
 have h1 : (Op.unary .not (a.eval (.tmp i))).run P w = .ok (.bool (!b)) w := by rw [h]; rfl
 exact zc1 h1
theorem xindex (h : (Instr.indexAt S (a.eval (.tmp i)) (a.eval (.tmp j))).run P w = .ok v w) : (execOp a.eval ⟨d, .indexAddr S (.tmp i) (.tmp j), t, p, af, none⟩).run P w = .ok (.value v) w := zc1 h
end
section
variable {P : Program} {n : Nat} {Q : Exit → Act → World → Prop} {a : Act} {w : World} {S E Yt I B : TypeId} {yv bp sv ev uv : Value}
theorem Itf.same {a : Act} (h : Itf a yv bp) {d : Nat} (hd : d < 19) (v : Value) : (a.put (some d) v).tmps.getD d undef = v := by rw [zac, if_pos ⟨rfl, by rw [h.size]; exact hd⟩]
theorem z0b {a : Act} {d i : Nat} (hd : i ≠ d) (v : Value) : (a.put (some d) v).tmps.getD i undef = a.tmps.getD i undef := by rw [zac, if_neg (fun h => hd h.1)]
theorem bk0_in {N : Nat} (hi : Itf a yv bp) (hl : (Instr.loadAt S bp).run P w = .ok sv w) (hn : (Builtin.len_ #[S] I #[sv]).run P w = .ok (.int .i64 N) w)
  (k : ∀ a', Itf a' yv bp → a'.tmps.getD 3 undef = .int .i64 (IntKind.i64.wrap ((N : Int) - 1)) → Q .normal a' w) : (Code.region 0 (bk0 S I) false).wpIn Fence.wide n P Q a w := by
 refine wpIn_region_list ?_
 refine z0y (v := sv) (by simp) (xload (by rw [z0p, hi.t1]; exact hl)) ?_
 have h1 := hi.put (d := 4) (by omega) sv
 have g4 := hi.same (d := 4) (by omega) sv
 generalize a.put (some 4) sv = a1 at h1 g4 ⊢
 refine z0y (v := .int .i64 N) (by simp) (xlen (by rw [z0p, g4]; exact hn)) ?_
 have h2 := h1.put (d := 5) (by omega) (.int .i64 N)
 have g5 := h1.same (d := 5) (by omega) (.int .i64 N)
 generalize a1.put (some 5) (.int .i64 N) = a2 at h2 g5 ⊢
 refine z0y (v := .int .i64 (IntKind.i64.wrap ((N : Int) - 1))) (by simp) (xbin (by rw [z0p, g5]; exact zr3 _ _)) ?_
 have h3 := h2.put (d := 6) (by omega) (.int .i64 (IntKind.i64.wrap ((N : Int) - 1)))
 have g6 := h2.same (d := 6) (by omega) (.int .i64 (IntKind.i64.wrap ((N : Int) - 1)))
 generalize a2.put (some 6) (.int .i64 (IntKind.i64.wrap ((N : Int) - 1))) = a3 at h3 g6 ⊢
 refine z0y (by simp) zo2 ?_
 rw [z0p, g6]
 exact k _ (h3.put (by omega) _) (h3.same (by omega) _)
theorem bk1_in {r : Int} (hi : Itf a yv bp) (h3 : a.tmps.getD 3 undef = .int .i64 r)
  (k : ∀ a', Itf a' yv bp → a'.tmps.getD 3 undef = .int .i64 r → a'.tmps.getD 8 undef = .bool (r ≥ 0) → Q .normal a' w) : (Code.region 1 (bk1 I B) false).wpIn Fence.wide n P Q a w := by
 refine wpIn_region_list ?_
 refine z0y (by simp) zo4 ?_
 rw [z0p, h3]
 have h1 := hi.put (d := 7) (by omega) (.int .i64 r)
 have g7 := hi.same (d := 7) (by omega) (.int .i64 r)
 have f3 : (a.put (some 7) (.int .i64 r)).tmps.getD 3 undef = .int .i64 r := (z0b (by omega) _).trans h3
 generalize a.put (some 7) (.int .i64 r) = a1 at h1 g7 f3 ⊢
 refine z0y (v := .bool (r ≥ 0)) (by simp) (xbin (by rw [z0p, g7]; exact run_geq _ _)) ?_
 exact k _ (h1.put (by omega) _) ((z0b (by omega) _).trans f3) (h1.same (by omega) _)
theorem bk2_in {r : Int} (hi : Itf a yv bp) (h3 : a.tmps.getD 3 undef = .int .i64 r)
  (k : ∀ a', Itf a' yv bp → a'.tmps.getD 3 undef = .int .i64 (IntKind.i64.wrap (r - 1)) → Q .normal a' w) : (Code.region 2 (bk2 I) false).wpIn Fence.wide n P Q a w := by
 refine wpIn_region_list ?_
 refine z0y (by simp) zo4 ?_
 rw [z0p, h3]
 have h1 := hi.put (d := 9) (by omega) (.int .i64 r)
 have g9 := hi.same (d := 9) (by omega) (.int .i64 r)
 generalize a.put (some 9) (.int .i64 r) = a1 at h1 g9 ⊢
 refine z0y (v := .int .i64 (IntKind.i64.wrap (r - 1))) (by simp) (xbin (by rw [z0p, g9]; exact zr3 _ _)) ?_
 have h2 := h1.put (d := 10) (by omega) (.int .i64 (IntKind.i64.wrap (r - 1)))
 have g10 := h1.same (d := 10) (by omega) (.int .i64 (IntKind.i64.wrap (r - 1)))
 generalize a1.put (some 10) (.int .i64 (IntKind.i64.wrap (r - 1))) = a2 at h2 g10 ⊢
 refine z0y (by simp) zo2 ?_
 rw [z0p, g10]
 exact k _ (h2.put (by omega) _) (h2.same (by omega) _)
theorem bk3_in {r : Int} {l : Nat} {lp : Loop} {R : World → Prop} (hyv : yv = .func (.yield l) #[] #[]) (hi : Itf a yv bp) (h3 : a.tmps.getD 3 undef = .int .i64 r)
  (hl : (Instr.loadAt S bp).run P w = .ok sv w) (hx : (Instr.indexAt S sv (.int .i64 r)).run P w = .ok ev w) (he : (Instr.loadAt E ev).run P w = .ok uv w) (hlp : w.heap[l]? = some (.loop lp)) (hps : lp.params.size = 2)
  (hr : RoundIn Fence.wide (n - 1) P l lp.fn ((lp.params.zip #[.int .i64 r, uv]).foldl (fun tmps (t, a) => tmps.setIfInBounds t a) lp.tmps) lp.assign lp.body w (fun e w' => e = .returned (.bool true) ∧ R w'))
  (k : ∀ a' w', Itf a' yv bp → a'.tmps.getD 3 undef = .int .i64 r → a'.tmps.getD 18 undef = .bool false → R w' → Q .normal a' w') : (Code.region 3 (bk3a S E Yt I ++ bk3b E I B).toArray false).wpIn Fence.wide n P Q a w := by
 refine wpIn_region_list ?_
 refine z0y (by simp) zo4 ?_
 rw [z0p, hi.t0]
 have h1 := hi.put (d := 11) (by omega) yv
 have g11 := hi.same (d := 11) (by omega) yv
 have f3 : (a.put (some 11) yv).tmps.getD 3 undef = .int .i64 r := (z0b (by omega) _).trans h3
 generalize a.put (some 11) yv = a1 at h1 g11 f3 ⊢
 refine z0y (by simp) zo4 ?_
 rw [z0p, f3]
 have h2 := h1.put (d := 12) (by omega) (.int .i64 r)
 have g12 := h1.same (d := 12) (by omega) (.int .i64 r)
 replace g11 := (z0b (a := a1) (d := 12) (i := 11) (by omega) (.int .i64 r)).trans g11
 replace f3 := (z0b (a := a1) (d := 12) (i := 3) (by omega) (.int .i64 r)).trans f3
 generalize a1.put (some 12) (.int .i64 r) = a2 at h2 g12 g11 f3 ⊢
 refine z0y (v := sv) (by simp) (xload (by rw [z0p, h2.t1]; exact hl)) ?_
 have h3 := h2.put (d := 13) (by omega) sv
 have g13 := h2.same (d := 13) (by omega) sv
 replace g11 := (z0b (a := a2) (d := 13) (i := 11) (by omega) sv).trans g11
 replace g12 := (z0b (a := a2) (d := 13) (i := 12) (by omega) sv).trans g12
 replace f3 := (z0b (a := a2) (d := 13) (i := 3) (by omega) sv).trans f3
 generalize a2.put (some 13) sv = a3 at h3 g13 g12 g11 f3 ⊢
 refine z0y (by simp) zo4 ?_
 rw [z0p, f3]
 have h4 := h3.put (d := 14) (by omega) (.int .i64 r)
 have g14 := h3.same (d := 14) (by omega) (.int .i64 r)
 replace g11 := (z0b (a := a3) (d := 14) (i := 11) (by omega) (.int .i64 r)).trans g11
 replace g12 := (z0b (a := a3) (d := 14) (i := 12) (by omega) (.int .i64 r)).trans g12
 replace g13 := (z0b (a := a3) (d := 14) (i := 13) (by omega) (.int .i64 r)).trans g13
 replace f3 := (z0b (a := a3) (d := 14) (i := 3) (by omega) (.int .i64 r)).trans f3
 generalize a3.put (some 14) (.int .i64 r) = a4 at h4 g14 g13 g12 g11 f3 ⊢
 refine z0y (v := ev) (by simp) (xindex (by rw [z0p, z0p, g13, g14]; exact hx)) ?_
 have h5 := h4.put (d := 15) (by omega) ev
 have g15 := h4.same (d := 15) (by omega) ev
 replace g11 := (z0b (a := a4) (d := 15) (i := 11) (by omega) ev).trans g11
 replace g12 := (z0b (a := a4) (d := 15) (i := 12) (by omega) ev).trans g12
 replace f3 := (z0b (a := a4) (d := 15) (i := 3) (by omega) ev).trans f3
 generalize a4.put (some 15) ev = a5 at h5 g15 g12 g11 f3 ⊢
 refine z0y (v := uv) (by simp) (xload (by rw [z0p, g15]; exact he)) ?_
 have h6 := h5.put (d := 16) (by omega) uv
 have g16 := h5.same (d := 16) (by omega) uv
 replace g11 := (z0b (a := a5) (d := 16) (i := 11) (by omega) uv).trans g11
 replace g12 := (z0b (a := a5) (d := 16) (i := 12) (by omega) uv).trans g12
 replace f3 := (z0b (a := a5) (d := 16) (i := 3) (by omega) uv).trans f3
 generalize a5.put (some 16) uv = a6 at h6 g16 g12 g11 f3 ⊢
 show wpListIn Fence.wide n P _ Q (bk3b E I B) a6 w
 unfold bk3b wpListIn
 rw [if_pos (by rfl)]
 refine ⟨fun _ _ => trivial, ?_⟩
 rw [Oper.semAt_eq _ _ _ (by simp)]
 have hrun : (execOp a6.eval ⟨some 17, .call ⟨.value (.tmp 11), #[.tmp 12, .tmp 16], #[I, E]⟩, B, "iter.go:29", #[⟨0, .data⟩, ⟨1, .data⟩, ⟨5, .data⟩], none⟩).run P w = .ok (.round l lp.fn ((lp.params.zip #[.int .i64 r, uv]).foldl (fun tmps (t, a) => tmps.setIfInBounds t a) lp.tmps) lp.assign lp.body) w := by
  have e1 : a6.eval (.tmp 11) = .func (.yield l) #[] #[] := by rw [z0p, g11, hyv]
  have hy := run_yield (P := P) (w := w) (l := l) (r := lp) (args := #[.int .i64 r, uv]) hlp (by simp [hps])
  simp only [execOp, resolve, Deferred.ofValue, e1, invoke, callFunc, Sem.run_bind, Sem.run_pure, Result.andThen_ok, List.map_toArray, List.map_cons, List.map_nil, z0p, g12, g16]
  rw [show (#[] : Array Value) ++ #[.int .i64 r, uv] = #[.int .i64 r, uv] from by simp]
  exact hy
 rw [hrun]
 refine ⟨fun h => (by simp [Fence.wide] at h), hr.mono ?_⟩
 rintro e w' ⟨rfl, hw⟩
 have h7 := h6.put (d := 17) (by omega) (.bool true)
 have g17 := h6.same (d := 17) (by omega) (.bool true)
 replace f3 := (z0b (a := a6) (d := 17) (i := 3) (by omega) (.bool true)).trans f3
 show wpListIn _ _ _ _ _ _ (a6.put (some 17) (.bool true)) w'
 generalize a6.put (some 17) (.bool true) = a7 at h7 g17 f3 ⊢
 refine z0y (v := .bool (!true)) (by simp) (xnot (by rw [z0p, g17])) ?_
 exact k _ _ (h7.put (by omega) _) ((z0b (by omega) _).trans f3) (h7.same (by omega) _) hw
end
theorem zqz {w0 w : World} {ds : List Deferred} {l : Nat} {r : Loop} {o : Obj} (m : Marks w0 w ds) (hl : w.heap[l]? = some (.loop r)) : Marks w0 (w.putObj l o) ds := by
 obtain ⟨Ds, h1, h2, h3⟩ := m
 refine ⟨Ds, h1, h2, fun D hD => ⟨(h3 D hD).1, ?_⟩⟩
 have h4 := (h3 D hD).2
 have hne : D ≠ l := fun e => by subst e; rw [hl] at h4; cases h4
 rw [World.putObj_heap_other hne]; exact h4
section
variable {P : Program} {w0 : World} {foot : Nat → Prop} {Y : Nat → Prop} {pin pin' : Nat → Option (Option Nat)} {e : Nat → TV} {h : Nat → AObj} {β : Nat → Option Nat} {a : Act} {w : World} {l : Nat} {r : Loop}
theorem RelF.turn (hR : RelF P w0 foot Y pin e h β a w) (hl : w.heap[l]? = some (.loop r)) (h0 : w0.heap.size ≤ l) (o : Obj) : RelF P w0 foot Y pin e h β a (w.putObj l o) :=
 RelF.calm (Calm.put (zb7 hl) h0) hR (zqz hR.defers hl)
theorem gl_put (hg : Gl P w foot) (hl : w.heap[l]? = some (.loop r)) (o : Obj) : Gl P (w.putObj l o) foot := fun k hk => by
 obtain ⟨h1, h2, h3⟩ := hg k hk
 refine ⟨?_, h2, by rw [World.putObj_size]; exact h3⟩
 unfold Lib.TabIs World.var? at *
 rw [hk] at h1 ⊢
 simp only [Option.bind_some] at h1 ⊢
 by_cases hkl : k = l
 · subst hkl; rw [hl] at h1; cases h1
 · rw [World.putObj_heap_other hkl]; exact h1
theorem RelF.rebase (hR : RelF P w0 foot Y pin e h β a w) (hd : a.defers = []) (hp : ∀ o x, pin' o = some x → β o = x) (hl : w.heap[l]? = some (.loop r)) (o : Obj) :
  RelF P (w.putObj l o) (Own h β) Y pin' e h β a (w.putObj l o) := by
 have c : Calm { w with heap := #[] } w (w.putObj l o) := Calm.put (zb7 hl) (Nat.zero_le _)
 exact ⟨⟨Nat.le_refl _, fun _ _ _ => rfl, fun _ _ => rfl, rfl, rfl, rfl⟩, fun i => TRep.calm c (hR.env i), Objs.calm c hR.objs, fun o b h1 h2 => .inl ⟨o, h1, h2⟩, hd ▸ Marks.nil _ _, fun b hb => by rw [World.putObj_size]; exact hR.y b hb, hp, gl_put hR.now hl o⟩
theorem RelF.notOwn (hR : RelF P w0 foot Y pin e h β a w) (hl : w.heap[l]? = some (.loop r)) : ¬ Own h β l := fun ho => by
 rcases hR.objs.own_heap ho with ⟨us, t, h5⟩ | ⟨ms, ck, h5⟩ <;> rw [hl] at h5 <;> cases h5
end
structure Out (P : Program) (w0 : World) (foot Y : Nat → Prop) (pin : Nat → Option (Option Nat)) (env : Env) (m0 : Nat) (a : Act) (β0 : Nat → Option Nat) (l : Nat) (lp : Loop) (Hx : AHeap) (nxx : Nat) (w : World) : Prop where
 ex : ∃ β, RelF P w0 foot Y pin (look env) (hook Hx) β a w ∧ (∀ k, Occ pin β k → k < nxx) ∧ ∀ o, o < m0 → β o = β0 o
 lp : w.heap[l]? = some (.loop lp)
theorem zoh {env : Env} {m0 : Nat} (h : ∀ p ∈ env, p.2.lt m0 = true) (i : Nat) : (look env i).lt m0 = true := by
 rcases zds (l := env) (i := i) with h1 | h1
 · rw [h1]; rfl
 · exact h _ h1
section
variable {P : Program} {w0 : World} {foot Y : Nat → Prop} {pin : Nat → Option (Option Nat)} {env : Env} {m0 n : Nat} {a : Act} {β0 : Nat → Option Nat} {l : Nat} {lp : Loop}
variable {α : Type} {H : α → AHeap} {nx : α → Nat} {Next : α → Prop}
theorem zoi {x : α} {w : World} {k : Nat} {p1 p2 ia : Nat} {opsa : Array Oper} {body : Code} {v : TV} {uv : Value}
  {β : Nat → Option Nat} (hR : RelF P w0 foot Y pin (look env) (hook (H x)) β a w) (hb : ∀ k, Occ pin β k → k < nx x) (hβ : ∀ o, o < m0 → β o = β0 o) (hlp : w.heap[l]? = some (.loop lp)) (hl0 : w0.heap.size ≤ l) (henv : ∀ p ∈ env, p.2.lt m0 = true) (hpm : ∀ o b, pin o = some b → o < m0) (hm0 : m0 ≤ nx x) (hmx : ∀ x, Next x → m0 ≤ nx x) (hn : a.tmps.size = n)
  (htm : lp.tmps = a.tmps) (hpa : lp.params = #[p1, p2]) (has : lp.assign = .region ia opsa false) (hbo : lp.body = body) (hst : lp.state = .ready) (hpe : lp.pending = none)
  (hnd : z6y opsa = true) (hdst : dstB opsa n = true) (hp1 : p1 < n) (hp2 : p2 < n)
  (hvr : TRep w (XO Y (hook (H x)) β) β v uv)
  (hround : lex P opsa (nx x) opsa.toList 0 ((p2, v) :: (p1, iV k) :: env) (H x) [] fun e h _ => AwpR P n m0 body (fun ex s' => ex = .normal ∧ ∃ x', Next x' ∧ Sle m0 s' ⟨[], H x', nx x'⟩) ⟨e, h, nx x + 32 * opsa.size⟩) :
  RoundIn Fence.wide 0 P l lp.fn ((lp.params.zip #[.int .i64 k, uv]).foldl (fun tmps (t, a) => tmps.setIfInBounds t a) lp.tmps) lp.assign lp.body w (fun e w' => e = .returned (.bool true) ∧ ∃ x', Next x' ∧ Out P w0 foot Y pin env m0 a β0 l lp (H x') (nx x') w') := by
 have hlw : l < w.heap.size := (Array.getElem?_eq_some_iff.1 hlp).1
 let pin' : Nat → Option (Option Nat) := fun o => if o < m0 then some (β o) else none
 have hpin' : ∀ o b, pin' o = some b → o < m0 := fun o b h => by
  simp only [pin'] at h; split at h
  · assumption
  · cases h
 have hpv : ∀ {β' : Nat → Option Nat}, (∀ o x, pin' o = some x → β' o = x) → ∀ o, o < m0 → β' o = β o := fun hp o ho => hp o (β o) (by simp only [pin', ho, if_true])
 refine roundIn_of_wpIn trivial ?_
 rw [has, hbo, hpa, htm]
 have etm : ((#[p1, p2] : Array Nat).zip #[.int .i64 k, uv]).foldl (fun tmps (t, a) => tmps.setIfInBounds t a) a.tmps = (a.tmps.setIfInBounds p1 (.int .i64 k)).setIfInBounds p2 uv := by simp
 rw [etm]
 have hsz : ((a.tmps.setIfInBounds p1 (.int .i64 k)).setIfInBounds p2 uv).size = n := by simp [hn]
 have hR1 : RelF P w (Own (hook (H x)) β) Y pin' (look ((p2, v) :: (p1, iV k) :: env)) (hook (H x)) β { tmps := (a.tmps.setIfInBounds p1 (.int .i64 k)).setIfInBounds p2 uv, defers := [] } w := by
  refine ⟨⟨Nat.le_refl _, fun _ _ _ => rfl, fun _ _ => rfl, rfl, rfl, rfl⟩, fun i => ?_, hR.objs, fun o b h1 h2 => .inl ⟨o, h1, h2⟩, Marks.nil _ _, hR.y, fun o x hx => ?_, hR.now⟩
  · simp only [look, Array.getD_eq_getD_getElem?, Array.getElem?_setIfInBounds, Array.size_setIfInBounds]
    by_cases h2 : p2 = i
    · subst h2; simp only [if_true, show p2 < a.tmps.size by omega]; exact hvr
    · simp only [h2, if_false]
      by_cases h1 : p1 = i
      · subst h1; simp only [if_true, show p1 < a.tmps.size by omega]; exact .int_mk _ _
      · simp only [h1, if_false]
        have := hR.env i
        rwa [Array.getD_eq_getD_getElem?] at this
  · simp only [pin'] at hx
    split at hx
    · exact Option.some.inj hx
    · cases hx
 refine zdw (r := some l) (w0 := w) (s := ⟨(p2, v) :: (p1, iV k) :: env, H x, nx x⟩) (R := fun s => AwpR P n m0 body (fun ex s' => ex = .normal ∧ ∃ x', Next x' ∧ Sle m0 s' ⟨[], H x', nx x'⟩) s)
  hnd (fun ⟨_, _, h⟩ => h) (by rw [hsz]; exact hdst) hround hR1 (fun o ho => ?_) fun s1 a1 w1 β1 hA hs1 hd1 hR1' hb1 => ?_
 · rcases ho with ho | ho
   · exact hb o (.inl ho)
   · cases hq : pin' o with
     | none => exact absurd hq ho
     | some b => have := hpin' o b hq; show o < nx x; omega
 · have hl1 : w1.heap[l]? = some (.loop lp) := (hR1'.good.blk l hlw (hR.notOwn hlp)).trans hlp
   refine ⟨_, run_beginRound hl1 hst, ?_⟩
   have hR2 := hR1'.rebase (pin' := pin') hd1 hR1'.pins hl1 (.loop { lp with state := .busy })
   refine wpIn_mono (hA l _ _ Y pin' β1 a1 _ hpin' (hs1.trans hsz) hR2 hb1) fun ex a2 w2 hq => ?_
   cases ex with
   | normal =>
    obtain ⟨s2, β2, ⟨_, x', hx', hsle⟩, h2, h3, h4⟩ := hq
    obtain ⟨β3, hR3, hb3⟩ := z8l hsle hpin' h3
    have hl1' : (w1.putObj l (.loop { lp with state := .busy })).heap[l]? = some (.loop { lp with state := .busy }) := World.putObj_heap_same (Array.getElem?_eq_some_iff.1 hl1).1
    have hl2 : w2.heap[l]? = some (.loop { lp with state := .busy }) := (hR3.good.blk l (Array.getElem?_eq_some_iff.1 hl1').1 (hR2.notOwn hl1')).trans hl1'
    refine ⟨_, _, run_endRound none hl2, rfl, x', hx', ⟨β3, ?_, fun o ho => ?_, fun o ho => ?_⟩, ?_⟩
    · have U1 := hR.under (fun i => zoh henv i) hR1'.good hR1'.objs hR1'.own (hpv hR1'.pins) hpm
      have U2 := U1.turn hl1 hl0 (.loop { lp with state := .busy })
      have U3 := U2.under (fun i => zoh henv i) hR3.good hR3.objs hR3.own (fun o ho => (hpv hR3.pins o ho).trans (hpv hR1'.pins o ho).symm) hpm
      exact U3.turn hl2 hl0 _
    · rcases ho with ho | ho
      · exact hb3 o (.inl ho)
      · cases hq : pin o with
        | none => exact absurd hq ho
        | some b => have := hpm o b hq; have := hmx x' hx'; omega
    · exact (hpv hR3.pins o ho).trans (hβ o ho)
    · rw [World.putObj_heap_same (Array.getElem?_eq_some_iff.1 hl2).1]
      cases lp
      simp only at hst hpe
      subst hst; subst hpe
      rfl
   | ret => obtain ⟨_, _, ⟨h, _⟩, _⟩ := hq; cases h
   | exit i => obtain ⟨_, _, ⟨h, _⟩, _⟩ := hq; cases h
   | goto t => exact hq.elim
   | panic c => exact hq.elim
   | outgrown => exact hq.elim
end
theorem len_run {P : Program} {w : World} {X : Nat → Prop} {β : Nat → Option Nat} {t e ty : TypeId} {d : TyD} {x : TV} {u : Value} {N : Nat} {rd : List Nat} (hd : tyOf P t = some d) (hk : d.kind = .slice e) (hx : TRep w X β x u) (hl : zdr x = some (N, rd)) : (Builtin.len_ #[t] ty #[u]).run P w = .ok (.int .i64 N) w := by
 have ht := z1s hd hk
 unfold zdr at hl
 split at hl
 · injection hl with hl; injection hl with h1 h2; subst h1; rw [hx.nils_inv]; simp [Builtin.len_, run_underlying ht, goInt]
 · injection hl with hl; injection hl with h1 h2; subst h1
   rename_i nn n es
   have h1 := hx.fz_inv
   cases h1 with
   | slnil => simp [Builtin.len_, run_underlying ht, goInt]
   | sl0 _ _ a => simp [Builtin.len_, run_underlying ht, goInt]
   | sl _ _ _ b off cap len f g1 => subst g1; simp [Builtin.len_, run_underlying ht, goInt]
 · injection hl with hl; injection hl with h1 h2; subst h1
   have h1 := hx.fz_inv
   cases h1 with
   | z0 _ a => simp [Builtin.len_, run_underlying ht, goInt]
   | z0n => simp [Builtin.len_, run_underlying ht, goInt]
 · injection hl with hl; injection hl with h1 h2; subst h1
   obtain ⟨b, q, cap, sz, tt, _, _, _, _, _, rfl⟩ | ⟨rfl, rfl⟩ := hx.osl_inv
   · simp [Builtin.len_, run_underlying ht, goInt]
   · simp [Builtin.len_, run_underlying ht, goInt]
 · cases hl
theorem i64_id {x : Int} (h1 : -9223372036854775808 ≤ x) (h2 : x ≤ 9223372036854775807) : IntKind.wrap .i64 x = x := Go.IntWalk.i64_in _ ⟨h1, h2⟩
section
variable {P : Program} {w0 : World} {foot Y : Nat → Prop} {pin : Nat → Option (Option Nat)} {e : Nat → TV} {h : AHeap} {β : Nat → Option Nat} {a : Act} {w : World}
theorem RelF.load {S : TypeId} {dS : TyD} {x : TV} {u : Value} {r : TV × List Nat} (hR : RelF P w0 foot Y pin e (hook h) β a w) (hS : tyOf P S = some dS) (hx : TRep w (XO Y (hook h) β) β x u) (hl : z59 dS (fun o => flat (hook h o)) x = some r) :
  ∃ v, (Instr.loadAt S u).run P w = .ok v w ∧ TRep w (XO Y (hook h) β) β r.1 v := by
 have hf : ∀ o, flat (flat (hook h o)) = flat (hook h o) := fun o => z49 _
 have hO := z81 (h' := fun o => flat (hook h o)) hf hR.objs
 rw [← zap (h' := fun o => flat (hook h o)) hf] at hx ⊢
 exact ze1 (P := P) hO hS hx hl
end
theorem itf0 (y b : Value) : Itf { tmps := #[y, b] ++ Array.replicate (19 - (#[y, b] : Array Value).size) undef, defers := [] } y b :=
 ⟨by simp, rfl, by simp [Array.getD_eq_getD_getElem?], by simp [Array.getD_eq_getD_getElem?]⟩
theorem awp_back {P : Program} {n m m0 : Nat} {env : Env} {α : Type} {H : α → AHeap} {nx : α → Nat} {Inv : α → Prop} {idx : α → Nat} {y v : α → TV} {bk : FuncId} {S E : TypeId} {dS dE : TyD} {g : Operand} {p1 p2 ia : Nat} {opsa : Array Oper} {body : Code} {Q : AExit → St → Prop} {N oc : Nat} {xs : TV} {x0 : α} {rdn : List Nat}
  (hbk : IsBk P bk S E) (hS : tyOf P S = some dS) (hk : dS.kind = .slice E) (hE : tyOf P E = some dE) (hm : m ≤ m0) (henv : ∀ p ∈ env, p.2.lt m0 = true)
  (hg : ev env g = .c (.fn (.func bk) [] [(false, [.ep oc 1 0 0])])) (hoc : oc < m0) (hnx : ∀ x, Inv x → m0 ≤ nx x)
  (hbox : ∀ x, Inv x → ∃ rd, z59 dS (fun o => flat (hook (H x) o)) (.c (.a (.ep oc 1 0 0))) = some (xs, rd)) (hlen : zdr xs = some (N, rdn)) (hN : N < 9223372036854775808)
  (hel : ∀ x k, Inv x → idx x = k + 1 → ∃ rd, z2b P dS xs (iV k) = some (y x) ∧ z59 dE (fun o => flat (hook (H x) o)) (y x) = some (v x, rd))
  (hnd : z6y opsa = true) (hdst : dstB opsa n = true) (hp1 : p1 < n) (hp2 : p2 < n)
  (hround : ∀ x k, Inv x → idx x = k + 1 → lex P opsa (nx x) opsa.toList 0 ((p2, v x) :: (p1, iV k) :: env) (H x) [] fun e h _ => AwpR P n m0 body (fun ex s' => ex = .normal ∧ ∃ x', (Inv x' ∧ idx x' = k) ∧ Sle m0 s' ⟨[], H x', nx x'⟩) ⟨e, h, nx x + 32 * opsa.size⟩)
  (hx0 : Inv x0) (hi0 : idx x0 = N) (hdone : ∀ x, Inv x → idx x = 0 → Q .normal ⟨env, H x, nx x⟩) :
  Awp P n m (.rangeFunc g #[p1, p2] (.region ia opsa false) body) Q ⟨env, H x0, nx x0⟩ := fun w0 foot Y pin β a w hpm hn hR hb => by
 obtain ⟨hent, fn, Yt, I, B, hfn, hbody, hnt, hres⟩ := hbk
 refine (wpIn_wide (n := 0)).1 (wpIn_rangeFunc fun fid _ => ?_)
 have hv := hR.eval g
 rw [← zh4, hg] at hv
 generalize hav : a.eval g = av at hv
 cases hv with
 | fn _ _ _ us vs hl1 hl2 =>
 have hus : us = [] := hl1.nil_inv
 subst hus
 obtain ⟨bp, vs', rfl, hp, hvs⟩ := hl2.cons_inv
 have hvs' : vs' = [] := hvs.nil_inv
 subst hvs'
 obtain ⟨qs, rfl, hq, h1⟩ := hp
 have h1 := h1 rfl
 obtain ⟨bp, qs', rfl, hbp, hqs⟩ := hq.cons_inv
 have hqs' : qs' = [] := hqs.nil_inv
 subst hqs'
 have hbpR : ARep w (XO Y (hook (H x0)) β) β (.ep oc 1 0 0) bp := hbp
 have hsize := hR.good.size
 let l := w.heap.size + 1
 let lp : Loop := { state := .ready, pending := none, fn := fid, tmps := a.tmps, params := #[p1, p2], assign := .region ia opsa false, body := body, defers := w.heap.size }
 let w1 := (w.alloc (.deferred (some []))).alloc (.loop lp)
 have hl1 : w1.heap[l]? = some (.loop lp) := by
  have := World.alloc_heap_new (w.alloc (.deferred (some []))) (.loop lp)
  rwa [World.size_alloc] at this
 have hD1 : w1.heap[w.heap.size]? = some (.deferred (some [])) := by
  show ((w.heap.push _).push _)[w.heap.size]? = _
  rw [Array.getElem?_push, if_neg (by simp), Array.getElem?_push, if_pos rfl]
 have c1 : Calm w0 w w1 := (Calm.alloc w0 w _ hsize).trans (Calm.alloc w0 _ _ (by rw [World.size_alloc]; omega))
 have old1 : ∀ b, b < w.heap.size → w1.heap[b]? = w.heap[b]? := fun b hb => by
  show ((w.heap.push _).push _)[b]? = _
  rw [Array.getElem?_push, if_neg (by simp; omega), Array.getElem?_push, if_neg (by omega)]
 obtain ⟨Ds, hds, hnds, hdd⟩ := hR.defers
 have hm1 : Marks w0 w1 a.defers := ⟨Ds, hds, hnds, fun D hD => ⟨(hdd D hD).1, by rw [old1 D (Array.getElem?_eq_some_iff.1 (hdd D hD).2).1]; exact (hdd D hD).2⟩⟩
 have hRc : RelF P w0 foot Y pin (look env) (hook (H x0)) β a w1 := RelF.calm c1 hR hm1
 have hR1 : RelF P w0 foot Y pin (look env) (hook (H x0)) β { a with defers := mark w.heap.size :: a.defers } w1 := by
  refine ⟨hRc.good, hRc.env, hRc.objs, hRc.own, ⟨w.heap.size :: Ds, by rw [hds]; rfl, List.nodup_cons.2 ⟨fun hD => ?_, hnds⟩, fun D hD => ?_⟩, hRc.ylt, hRc.pins, hRc.gl⟩
  · have := (Array.getElem?_eq_some_iff.1 (hdd _ hD).2).1; omega
  · rcases List.mem_cons.1 hD with rfl | hD
    · exact ⟨hsize, hD1⟩
    · exact ⟨(hdd D hD).1, by rw [old1 D (Array.getElem?_eq_some_iff.1 (hdd D hD).2).1]; exact (hdd D hD).2⟩
 have hO0 : Out P w0 foot Y pin env m0 { a with defers := mark w.heap.size :: a.defers } β l lp (H x0) (nx x0) w1 := ⟨⟨β, hR1, hb, fun _ _ => rfl⟩, hl1⟩
 have hl0 : w0.heap.size ≤ l := by omega
 have hav' : a.eval g = .func (.func bk) #[] #[bp] := hav
 have hres1 : (resolve a.eval (rangeCall g l) 0).run P w1 = .ok { target := .fn (.func bk) #[bp], args := #[.func (.yield l) #[] #[]] } w1 := by
  simp only [resolve, Deferred.ofValue, hav', Sem.run_pure, List.map_toArray, List.map_cons, List.map_nil, show a.eval (.const (.func (.yield l) #[] #[])) = .func (.yield l) #[] #[] from rfl]
  simp
 have hinv1 : (invoke (.fn (.func bk) #[bp]) #[.func (.yield l) #[] #[]]).run P w1 = .ok (.enter bk #[.func (.yield l) #[] #[], bp]) w1 := by
  unfold z1z at hent
  rw [hfn] at hent
  simp only [Bool.and_eq_true, Bool.not_eq_true', beq_eq_false_iff_ne] at hent
  have hb : fn.body.isNone = false := by rw [hbody]; rfl
  simp only [invoke, callFunc, Sem.run_bind, Sem.run_pure, Result.andThen_ok, run_program, hfn, beq_eq_false_iff_ne.2 hent.1, Bool.false_eq_true, if_false, hb]
  rfl
 refine ⟨l, [mark w.heap.size], w1, _, w1, bk, #[.func (.yield l) #[] #[], bp], w1, run_enterLoop_outer fid a.tmps #[p1, p2] _ body, hres1, fun _ _ => trivial, hinv1, fun h => absurd h (by decide), ?_⟩
 refine callsIn_of_wp hfn hbody trivial ?_
 have hi0' : Itf { tmps := #[.func (.yield l) #[] #[], bp] ++ Array.replicate (fn.ntmps - (#[.func (.yield l) #[] #[], bp] : Array Value).size) undef, defers := [] } (.func (.yield l) #[] #[]) bp := by
  rw [hnt]
  exact itf0 _ _
 generalize ({ tmps := #[.func (.yield l) #[] #[], bp] ++ Array.replicate (fn.ntmps - (#[.func (.yield l) #[] #[], bp] : Array Value).size) undef, defers := [] } : Act) = a0 at hi0' ⊢
 have hend : ∀ x W a2, Inv x → idx x = 0 → Itf a2 (.func (.yield l) #[] #[]) bp → Out P w0 foot Y pin env m0 { a with defers := mark w.heap.size :: a.defers } β l lp (H x) (nx x) W → bodyPost P fn (rangePost Fence.wide 0 P l (Lift P w0 foot Y pin n Q) { a with defers := [mark w.heap.size] ++ a.defers }) .normal a2 W := by
  intro x W a2 hx hix hi2 hO
  refine ⟨hi2.defers, .tuple #[], by simp [results, hres], ?_⟩
  obtain ⟨β2, hR2, hb2, _⟩ := hO.ex
  exact ⟨none, _, run_endLoop hO.lp (by simp [lp]), ⟨_, β2, hdone x hx hix, hn, hR2.turn hO.lp hl0 _, hb2⟩⟩
 have hread : ∀ x W, Inv x → Out P w0 foot Y pin env m0 { a with defers := mark w.heap.size :: a.defers } β l lp (H x) (nx x) W → ∃ β2 sv, RelF P w0 foot Y pin (look env) (hook (H x)) β2 { a with defers := mark w.heap.size :: a.defers } W ∧ (∀ k, Occ pin β2 k → k < nx x) ∧ (∀ o, o < m0 → β2 o = β o) ∧ (Instr.loadAt S bp).run P W = .ok sv W ∧ TRep W (XO Y (hook (H x)) β2) β2 xs sv := by
  intro x W hx hO
  obtain ⟨β2, hR2, hb2, hβ2⟩ := hO.ex
  obtain ⟨rd, hld⟩ := hbox x hx
  have hep : TRep W (XO Y (hook (H x)) β2) β2 (.c (.a (.ep oc 1 0 0))) bp := by
   refine .a _ _ ?_
   cases hbpR with
   | ep _ _ _ _ b hb => exact .ep _ _ _ _ b ((hβ2 oc hoc).trans hb)
  obtain ⟨sv, h1, h2⟩ := hR2.load hS hep hld
  exact ⟨β2, sv, hR2, hb2, hβ2, h1, h2⟩
 obtain ⟨β2, sv, hR2, _, _, hld, hxs⟩ := hread x0 w1 hx0 hO0
 refine wpIn_seq (bk0_in hi0' hld (len_run hS hk hxs hlen) fun a1 hi1 h31 => ?_)
 rw [i64_id (by omega) (by omega)] at h31
 refine wpIn_block (wpIn_loop (fun a2 W => ∃ x, Inv x ∧ idx x ≤ N ∧ Itf a2 (.func (.yield l) #[] #[]) bp ∧ a2.tmps.getD 3 undef = .int .i64 ((idx x : Int) - 1) ∧ Out P w0 foot Y pin env m0 { a with defers := mark w.heap.size :: a.defers } β l lp (H x) (nx x) W)
  (fun a2 _ => match a2.tmps.getD 3 undef with | .int _ r => (r + 1).toNat | _ => 0) ⟨x0, hx0, by omega, hi1, by rw [hi0]; exact h31, hO0⟩ ?_)
 rintro a2 W ⟨x, hx, hle, hi2, h32, hO⟩
 refine wpIn_seq (wpIn_seq (bk1_in hi2 h32 fun a3 hi3 h33 h8 => ?_))
 cases hix : idx x with
 | zero =>
  refine wpIn_cond_false (by rw [z0p, h8, hix]; rfl) (wpIn_exit ?_)
  simp only [Exit.then, Exit.inBlock, if_true]
  exact hend x W a3 hx hix hi3 hO
 | succ k =>
  rw [hix] at h33 h32 h8
  have ek : ((k + 1 : Nat) : Int) - 1 = (k : Int) := by omega
  rw [ek] at h33 h32 h8
  refine wpIn_cond_true (by rw [z0p, h8]; simp) (wpIn_skip ?_)
  obtain ⟨β3, sv, hR3, hb3, hβ3, hld, hxs⟩ := hread x W hx hO
  obtain ⟨rd, hixa, hlde⟩ := hel x k hx hix
  obtain ⟨ev, hev, hevr⟩ := z6w hS hixa hxs (.int_mk _ _)
  obtain ⟨uv, huv, huvr⟩ := hR3.load hE hevr hlde
  refine wpIn_seq (wpIn_block (wpIn_seq (bk3_in (lp := lp) (R := fun W' => ∃ x', (Inv x' ∧ idx x' = k) ∧ Out P w0 foot Y pin env m0 { a with defers := mark w.heap.size :: a.defers } β l lp (H x') (nx x') W') rfl hi3 h33 hld hev huv hO.lp rfl
   (zoi (v := v x) hR3 hb3 hβ3 hO.lp hl0 henv (fun o b hq => Nat.lt_of_lt_of_le (hpm o b hq) hm) (hnx x hx) (fun x' hx' => hnx x' hx'.1) hn rfl rfl rfl rfl rfl rfl hnd hdst hp1 hp2 huvr (hround x k hx hix)) fun a4 W' hi4 h34 h18 ⟨x', ⟨hx', hix'⟩, hO'⟩ => ?_)))
  · refine wpIn_cond_false (by rw [z0p, h18]) (wpIn_skip ?_)
    refine bk2_in hi4 h34 fun a5 hi5 h35 => ?_
    rw [i64_id (by omega) (by omega)] at h35
    refine ⟨⟨x', hx', by omega, hi5, by rw [hix']; exact h35, hO'⟩, ?_⟩
    simp only [h35, h32]
    omega
end Go.AM

namespace Go.AM
def ctxQ (P : Program) (n m : Nat) : Code → Nat → (AExit → St → Prop) → (AExit → St → Prop)
 | .seq a b, p, Q => if (pts a).contains p then ctxQ P n m a p (za5 (Awp P n m b Q) Q) else ctxQ P n m b p Q
 | .cond _ a b, p, Q => if (pts a).contains p then ctxQ P n m a p Q else ctxQ P n m b p Q
 | .block i c, p, Q => if p = 2 * i + 1 then Q else ctxQ P n m c p (z0v i Q)
 | .loop c, p, Q => ctxQ P n m c p (za5 (Alwp P n m c Q) Q)
 | _, _, Q => Q
def rngP : Code → Option (Operand × Nat × Nat × Nat × Array Oper × Code)
 | .rangeFunc g ps (.region i ops false) b => match ps.toList with
  | [p1, p2] => some (g, p1, p2, i, ops, b)
  | _ => none
 | _ => none
theorem rngP_inv {c : Code} {g : Operand} {p1 p2 ia : Nat} {ops : Array Oper} {b : Code} (h : rngP c = some (g, p1, p2, ia, ops, b)) : c = .rangeFunc g #[p1, p2] (.region ia ops false) b := by
 unfold rngP at h
 split at h
 · rename_i g' ps i ops' b'
   split at h
   · rename_i q1 q2 hps
     injection h with h
     simp only [Prod.mk.injEq] at h
     obtain ⟨rfl, rfl, rfl, rfl, rfl, rfl⟩ := h
     have : ps = #[q1, q2] := by apply Array.ext'; simpa using hps
     rw [this]
   · cases h
 · cases h
def z96 : Code → Nat → Option (Operand × Nat × Nat × Nat × Array Oper × Code)
 | .seq a b, p => if (pts a).contains p then z96 a p else z96 b p
 | .cond _ a b, p => if (pts a).contains p then z96 a p else z96 b p
 | .block i c, p => if p = 2 * i + 1 then rngP c else z96 c p
 | .loop c, p => z96 c p
 | _, _ => none
section
variable {P : Program} {n m : Nat}
theorem z51 {g : Operand} {p1 p2 ia : Nat} {ops : Array Oper} {y : Code} {s : St} : ∀ {c : Code} {p : Nat} {Q : AExit → St → Prop}, z96 c p = some (g, p1, p2, ia, ops, y) → (∀ i, Awp P n m (.rangeFunc g #[p1, p2] (.region ia ops false) y) (z0v i (ctxQ P n m c p Q)) s) → rz P n m c p Q s
 | .seq a b, p, Q, hr, h => by
  unfold z96 at hr
  unfold rz
  unfold ctxQ at h
  split
  · rename_i hc; rw [if_pos hc] at hr; simp only [hc, if_true] at h; exact z51 hr h
  · rename_i hc; rw [if_neg hc] at hr; simp only [hc] at h; exact z51 hr h
 | .cond _ a b, p, Q, hr, h => by
  unfold z96 at hr
  unfold rz
  unfold ctxQ at h
  split
  · rename_i hc; rw [if_pos hc] at hr; simp only [hc, if_true] at h; exact z51 hr h
  · rename_i hc; rw [if_neg hc] at hr; simp only [hc] at h; exact z51 hr h
 | .block i c, p, Q, hr, h => by
  unfold z96 at hr
  unfold rz
  unfold ctxQ at h
  split
  · rename_i hc
    rw [if_pos hc] at hr
    simp only [hc, if_true] at h
    rw [rngP_inv hr]
    exact h i
  · rename_i hc; rw [if_neg hc] at hr; simp only [hc, if_false] at h; exact z51 hr h
 | .loop c, p, Q, hr, h => by
  unfold z96 at hr
  unfold rz
  unfold ctxQ at h
  exact z51 hr h
 | .skip, _, _, hr, _ => by cases hr
 | .rangeFunc .., _, _, hr, _ => by cases hr
 | .exit _, _, _, hr, _ => by cases hr
 | .scope _, _, _, hr, _ => by cases hr
 | .label _, _, _, hr, _ => by cases hr
 | .goto _, _, _, hr, _ => by cases hr
 | .ret, _, _, hr, _ => by cases hr
 | .region .., _, _, hr, _ => by cases hr
 | .refuse _, _, _, hr, _ => by cases hr
end
def aftV (P : Program) (sh : FuncId → List Sh) (n m : Nat) (lv : List (Nat × List Nat)) (G : Nat → St → Prop) : Code → Nat → (AExit → St → Prop) → St → Prop
 | .seq a b, p, K, s => match (pts a).contains p with
  | true => aftV P sh n m lv G a p (zfs (runV P sh n m lv G b K) K) s
  | false => aftV P sh n m lv G b p K s
 | .cond _ a b, p, K, s => match (pts a).contains p with
  | true => aftV P sh n m lv G a p K s
  | false => aftV P sh n m lv G b p K s
 | .block i c, p, K, s => match p == 2 * i + 1 with
  | true => K .normal s
  | false => match c with
   | .loop b => aftV P sh n m lv G b p (zfs (z7j m lv G (2 * i + 1)) (z0v i K)) s
   | c => aftV P sh n m lv G c p (z0v i K) s
 | _, _, _, _ => False
section
variable {P : Program} {sh : FuncId → List Sh} {n m : Nat} {lv : List (Nat × List Nat)} {G : Nat → St → Prop}
theorem z50 (hP : P.follows .mixedOrders = true) : ∀ {c : Code} {p : Nat} {K Q : AExit → St → Prop} {s : St}, (pts c).Nodup → GOK P n m G c Q → (∀ e s, K e s → Q e s) → aftV P sh n m lv G c p K s → ctxQ P n m c p Q .normal s
 | .seq a b, p, K, Q, s, hn, hG, hk, h => by
  have hn' := List.nodup_append.1 hn
  unfold aftV at h
  unfold ctxQ
  split at h
  · rename_i hp; rw [if_pos hp]; exact z50 hP hn'.1 hG.left (z3d (fun s hs => z2x hP hn'.2.1 (hG.right hn) hk hs) hk) h
  · rename_i hp; rw [if_neg (by simp only [hp]; decide)]; exact z50 hP hn'.2.1 (hG.right hn) hk h
 | .cond x a b, p, K, Q, s, hn, hG, hk, h => by
  have hn' := List.nodup_append.1 hn
  unfold aftV at h
  unfold ctxQ
  split at h
  · rename_i hp; rw [if_pos hp]; exact z50 hP hn'.1 hG.condL hk h
  · rename_i hp; rw [if_neg (by simp only [hp]; decide)]; exact z50 hP hn'.2.1 (hG.condR hn) hk h
 | .block i c, p, K, Q, s, hn, hG, hk, h => by
  unfold aftV at h
  unfold ctxQ
  split at h
  · rename_i hp; rw [if_pos (by simpa using hp)]; exact hk _ _ h
  · rename_i hp
    rw [if_neg (by simpa using hp)]
    split at h
    · rename_i b
      have hn2 : (pts b).Nodup := (List.nodup_cons.1 hn).2
      unfold ctxQ
      exact z50 hP hn2 (GOK.loop (hG.block hn)) (z3d (fun s hs => hG.head hs) (z1w hk)) h
    · exact z50 hP (List.nodup_cons.1 hn).2 (hG.block hn) (z1w hk) h
 | .skip, _, _, _, _, _, _, _, h => h.elim
 | .exit _, _, _, _, _, _, _, _, h => h.elim
 | .ret, _, _, _, _, _, _, _, h => h.elim
 | .loop _, _, _, _, _, _, _, _, h => h.elim
 | .region .., _, _, _, _, _, _, _, h => h.elim
 | .rangeFunc .., _, _, _, _, _, _, _, h => h.elim
 | .scope _, _, _, _, _, _, _, _, h => h.elim
 | .label _, _, _, _, _, _, _, _, h => h.elim
 | .goto _, _, _, _, _, _, _, _, h => h.elim
 | .refuse _, _, _, _, _, _, _, _, h => h.elim
end
def vcA (P : Program) (sh : FuncId → List Sh) (lv : List (Nat × List Nat)) (f : FuncId) (m : Nat) (R : TV → List AObj → Prop) (G : Nat → St → Prop) (p : Nat) (s : St) : Prop :=
 match P.funcs[f]? with
 | some fn => match fn.body with
  | some c => match z6t (pts c) with
   | true => aftV P sh fn.ntmps m lv G c p (endV P (ownB (sh f)) fn.results.toList m (lvU lv) R) s
   | false => False
  | none => False
 | none => False
def endR (m0 : Nat) (U : List Nat) (R : AHeap → Nat → Prop) : AExit → St → Prop
 | .normal, s => z7j m0 [(0, []), (1000001, U)] (fun _ s' => R s'.heap s'.nx) 0 s
 | _, _ => False
def vcR (P : Program) (sh : FuncId → List Sh) (f : FuncId) (m0 : Nat) (U : List Nat) (p : Nat) (env : Env) (k : Int) (v : TV) (h : AHeap) (nx : Nat) (R : AHeap → Nat → Prop) : Prop :=
 match P.funcs[f]? with
 | some fn => match fn.body with
  | some c => match z96 c p with
   | some (_, p1, p2, _, ops, body) => regV P sh fn.ntmps ops false (zfs (runV P sh fn.ntmps m0 [] (fun _ _ => False) body (endR m0 U R)) fun _ _ => False) ⟨(p2, v) :: (p1, iV k) :: env, h, nx⟩
   | none => False
  | none => False
 | none => False
def prepV (m0 : Nat) (U live : List Nat) (K : St → Prop) (s : St) : Prop := z7j m0 [(0, live), (1000001, U)] (fun _ s' => K s') 0 s
def rngB (P : Program) (f : FuncId) (p : Nat) : Option Operand :=
 match P.funcs[f]? with
 | some fn => match fn.body with
  | some c => match z96 c p with
   | some (g, p1, p2, _, ops, body) => match z6t (pts c) && z6y ops && z6z body && Nat.blt p1 fn.ntmps && Nat.blt p2 fn.ntmps && dstB ops fn.ntmps with
    | true => some g
    | false => none
   | none => none
  | none => none
 | none => none
theorem Sle.less {m m0 : Nat} {s s' : St} (h : Sle m0 s s') (hm : m ≤ m0) : Sle m s s' := by
 obtain ⟨σ, E, h1, h2, h3, h4⟩ := h
 exact ⟨σ, E, h1, Nat.le_trans hm h2, fun o ho => h3 o (Nat.lt_of_lt_of_le ho hm), h4⟩
theorem Sle.noEnv {m : Nat} {s s' : St} (h : Sle m s s') : Sle m s ⟨[], s'.heap, s'.nx⟩ := by
 obtain ⟨σ, E, h1, h2, h3, h4, h5⟩ := h
 exact ⟨σ, E, h1, h2, h3, (fun p hp => by cases hp), h5⟩
theorem zfv {m : Nat} {lv : List (Nat × List Nat)} {G : Nat → St → Prop} {p : Nat} {s : St} (h : z7j m lv G p s) : ∃ s', Sle m s s' ∧ G p s' := z8h h
theorem RPt.back {P : Program} {sh : FuncId → List Sh} {lv : List (Nat × List Nat)} {f : FuncId} {m m0 p oc N : Nat} {r : TV} {Hs' : List AObj} {U live rdn : List Nat} {env : Env} {s0 : St} {α : Type} {H : α → AHeap} {nx : α → Nat} {Inv : α → Prop} {idx : α → Nat} {y v : α → TV} {x0 : α} {bk : FuncId} {S E : TypeId} {dS dE : TyD} {g : Operand} {xs : TV}
  (hP : P.follows .mixedOrders = true) (hrg : rngB P f p = some g) (hbk : IsBk P bk S E) (hS : tyOf P S = some dS) (hk : dS.kind = .slice E) (hE : tyOf P E = some dE)
  (hs : prepV m0 U live (fun s' => s' = ⟨env, H x0, nx x0⟩) s0) (hm : Nat.ble m m0 = true) (henv : env.all (fun p => p.2.lt m0) = true)
  (hg : ev env g = .c (.fn (.func bk) [] [(false, [.ep oc 1 0 0])])) (hoc : Nat.blt oc m0 = true) (hnx : ∀ x, Inv x → m0 ≤ nx x)
  (hbox : ∀ x, Inv x → ∃ rd, z59 dS (fun o => flat (hook (H x) o)) (.c (.a (.ep oc 1 0 0))) = some (xs, rd)) (hlen : zdr xs = some (N, rdn)) (hN : N < 9223372036854775808)
  (hel : ∀ x k, Inv x → idx x = k + 1 → ∃ rd, z2b P dS xs (iV k) = some (y x) ∧ z59 dE (fun o => flat (hook (H x) o)) (y x) = some (v x, rd))
  (hround : ∀ x k, Inv x → idx x = k + 1 → vcR P sh f m0 U p env k (v x) (H x) (nx x) fun h n => ∃ x', (Inv x' ∧ idx x' = k) ∧ h = H x' ∧ n = nx x')
  (hx0 : Inv x0) (hi0 : idx x0 = N) (hdone : ∀ x, Inv x → idx x = 0 → vcA P sh lv f m (fun r0 Hs0 => TV.Le r0 r ∧ Hs0 = Hs') (RPt P f m r Hs') p ⟨env, H x, nx x⟩) :
  RPt P f m r Hs' p s0 := by
 have hm' : m ≤ m0 := Nat.le_of_ble_eq_true hm
 obtain ⟨s', hsle, rfl⟩ := zfv hs
 unfold rngB at hrg
 unfold vcR at hround
 split at hrg
 · rename_i fn hf
   simp only [hf] at hround
   split at hrg
   · rename_i c hb
     simp only [hb] at hround
     split at hrg
     · rename_i g' p1 p2 ia ops body hat
       simp only [hat] at hround
       split at hrg
       · rename_i hall
         injection hrg with hrg
         subst hrg
         simp only [Bool.and_eq_true] at hall
         obtain ⟨⟨⟨⟨⟨h1, h2⟩, h3⟩, h4⟩, h5⟩, h6⟩ := hall
         refine ⟨fn, c, hf, hb, z77 (hsle.less hm') (z51 hat fun i => ?_)⟩
         refine awp_back (m0 := m0) (Inv := Inv) (idx := idx) (y := y) (v := v) hbk hS hk hE hm' (fun p hp => List.all_eq_true.1 henv p hp) hg (by simpa using hoc) hnx hbox hlen hN hel h2 h6 (by simpa using h4) (by simpa using h5) (fun x k hx hix => ?_) hx0 hi0 (fun x hx hix => ?_)
         · have hr := hround x k hx hix
           unfold regV at hr
           split at hr
           · rename_i hd
             refine zak ?_ (z3x rfl hr)
             rintro e h _ ⟨e2, he, hk2⟩
             simp only [Bool.not_false, Bool.true_or] at hk2
             refine AwpR.look he (AwpR.mono (z4g hP h3 (fun _ _ h => h) hk2) fun ex s hs => ?_)
             cases ex with
             | normal =>
              have hs : z7j m0 [(0, []), (1000001, U)] (fun _ s' => ∃ x', (Inv x' ∧ idx x' = k) ∧ s'.heap = H x' ∧ s'.nx = nx x') 0 s := hs
              obtain ⟨s2, hs2, x', hx', e1, e2⟩ := zfv hs
              exact ⟨rfl, x', hx', e1 ▸ e2 ▸ hs2.noEnv⟩
             | exit i => exact hs.elim
             | ret => exact hs.elim
           · exact hr.elim
         · have ha := hdone x hx hix
           unfold vcA at ha
           simp only [hf, hb, h1] at ha
           exact z50 hP (z2p h1) (zil hf hb) (fun e s h => zet e s h) ha
       · cases hrg
     · cases hrg
   · cases hrg
 · cases hrg
def zkz (P : Program) (S E : TypeId) (n : Nat) : Bool :=
 match tyOf P S, tyOf P E with
 | some dS, some dE => (match dS.kind with | .slice e => Nat.beq e E | _ => false) && !dS.agg && dE.agg && Nat.beq dE.size n
 | _, _ => false
theorem RPt.backF {P : Program} {sh : FuncId → List Sh} {lv : List (Nat × List Nat)} {f : FuncId} {m m0 p oc n : Nat} {r : TV} {Hs' : List AObj} {U live : List Nat} {env : Env} {s0 : St} {α : Type} {H : α → AHeap} {nx : α → Nat} {Inv : α → Prop} {idx : α → Nat} {x0 : α} {bk : FuncId} {S E : TypeId} {g : Operand} {es : List (List FV)}
  (hP : P.follows .mixedOrders = true) (hrg : rngB P f p = some g) (hbk : IsBk P bk S E) (hT : zkz P S E n = true)
  (hs : prepV m0 U live (fun s' => s' = ⟨env, H x0, nx x0⟩) s0) (hm : Nat.ble m m0 = true) (henv : env.all (fun p => p.2.lt m0) = true)
  (hg : ev env g = .c (.fn (.func bk) [] [(false, [.ep oc 1 0 0])])) (hoc : Nat.blt oc m0 = true) (hnx : ∀ x, Inv x → m0 ≤ nx x)
  (hbox : ∀ x, Inv x → hook (H x) oc = .arr 1 [[.a (.fz (.sl false n es))]]) (hrow : ∀ e ∈ es, e.length = n) (hN : es.length < 9223372036854775808)
  (hidx : ∀ x, Inv x → idx x ≤ es.length)
  (hround : ∀ x k, Inv x → idx x = k + 1 → k < es.length → vcR P sh f m0 U p env k (.agg (fzs (es.getD k []))) (H x) (nx x) fun h n => ∃ x', (Inv x' ∧ idx x' = k) ∧ h = H x' ∧ n = nx x')
  (hx0 : Inv x0) (hi0 : idx x0 = es.length) (hdone : ∀ x, Inv x → idx x = 0 → vcA P sh lv f m (fun r0 Hs0 => TV.Le r0 r ∧ Hs0 = Hs') (RPt P f m r Hs') p ⟨env, H x, nx x⟩) :
  RPt P f m r Hs' p s0 := by
 unfold zkz at hT
 split at hT
 · rename_i dS dE hS hE
   split at hT
   · rename_i e hk
     simp only [Bool.and_eq_true, Bool.not_eq_true'] at hT
     obtain ⟨⟨⟨h1, h2⟩, h3⟩, h4⟩ := hT
     have h1 := Nat.eq_of_beq_eq_true h1
     have h4 := Nat.eq_of_beq_eq_true h4
     subst h1
     have red : ∀ (d : TyD) (l : List WV), d.agg = true → d.size = l.length → zcb d l = some (.agg l) := fun d l ha hl => by
      unfold zcb; rw [ha, if_pos rfl, if_pos (by omega), hl, List.take_length]
     refine RPt.back (y := fun x => .c (.a (.fz (.pt (es.getD (idx x - 1) []))))) (v := fun x => .agg (fzs (es.getD (idx x - 1) []))) (xs := .c (.a (.fz (.sl false n es)))) (N := es.length) (rdn := []) hP hrg hbk hS hk hE hs hm henv hg hoc hnx (fun x hx => ?_) rfl hN (fun x k hx hix => ?_) (fun x k hx hix => ?_) hx0 hi0 hdone
     · refine ⟨[oc], ?_⟩
       unfold z59
       simp only [hbox x hx]
       show (if 1 = 1 then _ else none) = _
       rw [if_pos rfl]
       show (match zcb dS [.a (.fz (.sl false n es))] with | some v => some (v, [oc]) | none => none) = _
       unfold zcb
       rw [h2]
       rfl
     · have hle := hidx x hx
       have hlt : k < es.length := by omega
       have hr := hrow (es.getD k []) (by simp [List.getD, hlt])
       refine ⟨[], ?_, ?_⟩
       · unfold z2b iV
         simp only [hk, hE, zci]
         rw [if_pos ⟨h4, by omega, by omega⟩, Int.toNat_natCast, hix, Nat.add_sub_cancel]
       · unfold z59
         simp only [hix, Nat.add_sub_cancel]
         rw [red dE _ h3 (by rw [h4]; unfold fzs; rw [List.length_map, hr])]
     · have hle := hidx x hx
       have := hround x k hx hix (by omega)
       simp only [hix, Nat.add_sub_cancel]
       exact this
   · cases hT
 · cases hT
end Go.AM
