/- Soundness of a region's operations, in the order of the text and in any order. No conditions. -/
import Derived.Test.YtclicclinfnmlaaAmFz
namespace Go.AM

theorem ev_evF (e : Env) (x : Operand) : ev e x = evF (look e) x := by cases x <;> rfl

/-- What an operation did: the slot, the value, the objects that turned, those that were read. -/
structure Dl where
  dst : Option Nat
  val : TV
  upd : AHeap
  rd : List Nat

/-- The operation o, met with the values e and the objects h, may do δ. -/
inductive OpStep (P : Program) (ops : Array Oper) (o : Oper) (fr : Nat) (e : Nat → TV) (h : Nat → AObj) : Dl → Prop
  | skip : want ops o e = some false → OpStep P ops o fr e h ⟨o.dst, .tup [], [], []⟩
  | plain (r : AR) : want ops o e = some true → goCall o.op = none → aopF P o fr (evF e) h = some r → OpStep P ops o fr e h ⟨o.dst, r.val, r.upd, r.rd⟩
  | call (c : Call) (f : FuncId) (args : List TV) (r : TV) (upd : AHeap) (rd : List Nat) : want ops o e = some true → goCall o.op = some c → calleeOf (evF e) c = some (f, args) →
      CallE P f args h fr (fun r' u' d' => r' = r ∧ u' = upd ∧ d' = rd) → OpStep P ops o fr e h ⟨o.dst, r, upd, rd⟩

def putF (d : Option Nat) (v : TV) (e : Nat → TV) : Nat → TV := match d with | some i => AM.upd e i v | none => e
theorem look_putE (d : Option Nat) (v : TV) (e : Env) : look (putE d v e) = putF d v (look e) := by
  funext k
  cases d with
  | none => rfl
  | some i =>
    simp only [putE, look, putF, AM.upd]
    by_cases h : i = k
    · simp [h]
    · simp [h, show k ≠ i from fun e => h e.symm]

/-- The values e and the objects h are what the frame and the world hold. -/
structure RelF (w0 : World) (foot : Nat → Prop) (Y : Nat → Prop) (pin : Nat → Option Nat) (e : Nat → TV) (h : Nat → AObj) (β : Nat → Option Nat) (a : Act) (w : World) : Prop where
  good : Good w0 foot w
  env : ∀ i, TRep w (XO Y h β) β (e i) (a.tmps.getD i undef)
  objs : Objs h β Y w
  own : ∀ o b, isLive (h o) → β o = some b → foot b ∨ w0.heap.size ≤ b
  defers : a.defers = []
  ylt : ∀ b, Y b → b < w0.heap.size
  pins : ∀ o b, pin o = some b → β o = some b

section
variable {P : Program} {w0 : World} {foot : Nat → Prop} {Y : Nat → Prop} {pin : Nat → Option Nat} {e : Nat → TV} {h : Nat → AObj} {β : Nat → Option Nat} {a : Act} {w : World}

theorem RelF.eval (hR : RelF w0 foot Y pin e h β a w) (x : Operand) : TRep w (XO Y h β) β (evF e x) (a.eval x) := by
  cases x with
  | tmp t => exact hR.env t
  | const v => exact tvOf_rep _ _ _ v
  | global g => trivial
  | func f => exact .fn (.func f) [] [] [] [] .nil .nil
theorem RelF.y (hR : RelF w0 foot Y pin e h β a w) : ∀ b, Y b → b < w.heap.size := fun b hb => Nat.lt_of_lt_of_le (hR.ylt b hb) hR.good.size

/-- An operation that moves on. -/
theorem RelF.step (hR : RelF w0 foot Y pin e h β a w) {h' : Nat → AObj} {β' : Nat → Option Nat} {w' : World} {fr : Nat → Prop} (hf : ∀ o, fr o → β o = none) (m : Moves h h' β β' Y w w' fr) {d : Option Nat} {v : TV} {u : Value} (hv : TRep w' (XO Y h' β') β' v u)
    (hd : ∀ i, d = some i → i < a.tmps.size) : RelF w0 foot Y pin (putF d v e) h' β' (a.put d u) w' := by
  have hg := m.goes hR.objs hf
  have hown : ∀ b, b < w0.heap.size → Own h β b → foot b := by
    rintro b hb ⟨o, h1, h2⟩
    rcases hR.own o b h1 h2 with h3 | h3
    · exact h3
    · omega
  refine ⟨hR.good.trans m.good hown, fun i => ?_, m.objs, fun o b ho hb => ?_, ?_, hR.ylt, fun o b hb => m.bmono o b (hR.pins o b hb)⟩
  · cases d with
    | none => exact (hR.env i).goes hg
    | some k =>
      simp only [putF, AM.upd, Act.put]
      by_cases hk : i = k
      · subst hk
        simp only [if_true]
        have := hd i rfl
        simpa [Array.getElem?_setIfInBounds, this] using hv
      · simp only [hk, if_false]
        have : (a.tmps.setIfInBounds k u).getD i undef = a.tmps.getD i undef := by
          simp [Array.getElem?_setIfInBounds_ne (show k ≠ i from fun e => hk e.symm)]
        rw [this]
        exact (hR.env i).goes hg
  · rcases m.bnew o b hb with h1 | ⟨hfo, h1 | h1⟩
    · rcases m.lmono o ho with h2 | h2
      · exact hR.own o b h2 h1
      · rw [hf o h2] at h1; cases h1
    · exact .inr (Nat.le_trans hR.good.size h1)
    · obtain ⟨o', h2, h3⟩ := h1
      exact hR.own o' b h2 h3
  · cases d <;> exact hR.defers

theorem wanted_of_want {ops : Array Oper} {o : Oper} {b : Bool} (hR : RelF w0 foot Y pin e h β a w) (hdst : ∀ (j : Nat) (q : Oper) (d : Nat), ops[j]? = some q → q.dst = some d → d < a.tmps.size) (hw : want ops o e = some b) : Region.wanted o (yielded ops a.tmps) = b := by
  unfold want at hw
  unfold Region.wanted
  split at hw
  · rename_i hg; simp only [hg]; simpa using hw
  · rename_i j b' hg
    simp only [hg]
    split at hw
    · rename_i x hx
      injection hw with hw
      obtain ⟨d, hd, hx'⟩ := Option.map_eq_some_iff.1 hx
      obtain ⟨q, hq, hqd⟩ := Option.bind_eq_some_iff.1 hd
      have hlt := hdst j q d hq hqd
      have hv := hR.env d
      rw [hx'] at hv
      have hv := hv.bool_inv
      have hy : yielded ops a.tmps j = some x := by
        unfold yielded
        rw [hd]
        simp only [Option.bind_some]
        have : a.tmps[d]? = some (.bool x) := by
          rw [Array.getElem?_eq_getElem hlt]
          simp [Array.getD, hlt] at hv
          rw [hv]
        rw [this]
      rw [hy, ← hw]
      cases x <;> cases b' <;> rfl
    · rename_i hx
      injection hw with hw
      obtain ⟨d, hd, hx'⟩ := Option.map_eq_some_iff.1 hx
      obtain ⟨q, hq, hqd⟩ := Option.bind_eq_some_iff.1 hd
      have hlt := hdst j q d hq hqd
      have hv := hR.env d
      rw [hx'] at hv
      obtain ⟨us, hv, hl⟩ := hv
      have : us = [] := List.eq_nil_of_length_eq_zero (by simpa using hl.1.symm)
      subst this
      have hy : yielded ops a.tmps j = none := by
        unfold yielded
        rw [hd]
        simp only [Option.bind_some]
        have : a.tmps[d]? = some (.tuple #[]) := by
          rw [Array.getElem?_eq_getElem hlt]
          simp [Array.getD, hlt] at hv
          rw [hv]
        rw [this]
      rw [hy, ← hw]
      cases b' <;> rfl
    · cases hw

/-- AN OPERATION IN THE MODEL. -/
theorem opstep_sound {ops : Array Oper} {o : Oper} {fr : Nat} {δ : Dl} (hR : RelF w0 foot Y pin e h β a w) (hfr : ∀ j, j < 32 → β (fr + j) = none) (hdst : ∀ (j : Nat) (q : Oper) (d : Nat), ops[j]? = some q → q.dst = some d → d < a.tmps.size) (hod : ∀ d, o.dst = some d → d < a.tmps.size)
    (hs : OpStep P ops o fr e h δ) {K : Act → World → Prop} {Q : Exit → Act → World → Prop}
    (hK : ∀ a' w' β', a'.tmps.size = a.tmps.size → RelF w0 foot Y pin (putF δ.dst δ.val e) (over δ.upd h) β' a' w' → (∀ k, β' k ≠ none → β k ≠ none ∨ (fr ≤ k ∧ k < fr + 32)) → K a' w') :
    if Region.wanted o (yielded ops a.tmps) then o.wp P a w K Q else K (a.put o.dst undef) w := by
  have hsz : ∀ u, (a.put o.dst u).tmps.size = a.tmps.size := by intro u; unfold Act.put; cases o.dst <;> simp
  have hbd : ∀ {β' : Nat → Option Nat} {h' : Nat → AObj} {w' : World} {f : Nat → Prop}, Moves h h' β β' Y w w' f → (∀ k, f k → fr ≤ k ∧ k < fr + 32) → ∀ k, β' k ≠ none → β k ≠ none ∨ (fr ≤ k ∧ k < fr + 32) := by
    intro β' h' w' f m hf k hk
    cases hb : β' k with
    | none => exact absurd hb hk
    | some b =>
      rcases m.bnew k b hb with h1 | ⟨h1, _⟩
      · exact .inl (by rw [h1]; simp)
      · exact .inr (hf k h1)
  cases hs with
  | skip hw =>
    rw [wanted_of_want hR hdst hw, if_neg (by simp)]
    have m := Moves.refl hR.objs (fun _ => rfl)
    exact hK _ _ _ (hsz _) (hR.step (fun _ h => h.elim) m (d := o.dst) (v := .tup []) ⟨[], rfl, .nil⟩ hod) (hbd m (fun _ h => h.elim))
  | plain r hw hg ha =>
    rw [wanted_of_want hR hdst hw, if_pos rfl]
    obtain ⟨n, v, w', β', hrun, hn, hm, hv⟩ := aopF_does hR.objs hR.y (hfr 0 (by omega)) hR.eval ha
    have hfr0 : ∀ k, k = fr → β k = none := fun k hk => by rw [hk]; exact hfr 0 (by omega)
    have hfin := hK _ _ _ (hsz v) (hR.step hfr0 hm hv hod) (hbd hm (fun k hk => ⟨by omega, by omega⟩))
    unfold Oper.wp
    rw [hrun]
    rcases hn with rfl | ⟨rfl, rfl⟩
    · exact hfin
    · exact hfin
  | call c f args r upd rd hw hg hc hK' =>
    rw [wanted_of_want hR hdst hw, if_pos rfl]
    -- the call's own run
    obtain ⟨dd, op, t, p, af, g⟩ := o
    simp only [goCall] at hg
    split at hg
    · rename_i x as ts
      injection hg with hg
      subst hg
      simp only [calleeOf] at hc
      split at hc
      · rename_i fid first cap hx
        injection hc with hc
        injection hc with hc1 hc2
        subst hc1
        have hrx := hR.eval x
        rw [hx] at hrx
        cases hfx : a.eval x with
        | func fn fs cs =>
          rw [hfx] at hrx
          cases hrx with
          | fn _ _ _ us vs hl1 hl2 =>
            have atomT : ∀ (l : List (Bool × List AV)) (zs : List Value), LRep (PRep (ARep w (XO Y h β) β)) l zs → LRep (TRep w (XO Y h β) β) (l.map (fun p => match p with | (true, cs) => TV.agg (cs.map WV.a) | (false, [x]) => TV.c (.a x) | _ => TV.any)) zs := by
              intro l zs hl
              refine hl.map fun p u _ hp => ?_
              obtain ⟨qs, rfl, hq, h1⟩ := hp
              obtain ⟨b, cs⟩ := p
              cases b with
              | true => exact ⟨qs, rfl, hq.map fun c u _ h => .a _ _ h⟩
              | false =>
                have := h1 rfl
                match cs, this with
                | [y], _ =>
                  obtain ⟨u, us', rfl, hu, _⟩ := hq.cons_inv
                  exact .a _ _ (by simpa [shut] using hu)
            have hargs : LRep (TRep w (XO Y h β) β) args (us ++ as.toList.map a.eval ++ vs) := by
              rw [← hc2]
              exact ((atomT _ _ hl1).append (lrep_map hR.eval as.toList)).append (atomT _ _ hl2)
            obtain ⟨hent, r', upd', rd', ⟨e1, e2, e3⟩, hcall⟩ := callE_does hR.objs hR.y hfr hargs hK'
            subst e1; subst e2; subst e3
            have hrun : (execOp a.eval ⟨dd, .call ⟨.value x, as, ts⟩, t, p, af, g⟩).run P w = .ok (.enter fid (us ++ as.toList.map a.eval ++ vs).toArray) w := by
              unfold enterable at hent
              split at hent
              · rename_i fn hfn
                simp only [Bool.and_eq_true, Bool.not_eq_true', beq_eq_false_iff_ne] at hent
                have hb : fn.body.isNone = false := by cases hb : fn.body <;> simp_all
                have harr : us.toArray ++ Array.map a.eval as ++ vs.toArray = (us ++ as.toList.map a.eval ++ vs).toArray := by apply Array.ext'; simp
                simp only [execOp, resolve, Deferred.ofValue, hfx, invoke, callFunc, Sem.run_bind, Sem.run_pure, Result.andThen_ok, run_program, hfn, beq_eq_false_iff_ne.2 hent.1, Bool.false_eq_true, if_false, hb, harr]
              · cases hent
            unfold Oper.wp
            rw [hrun]
            simp only [Oper.upon]
            refine hcall.mono fun en w' ⟨v, β', he, hm, hv⟩ => ?_
            subst he
            exact hK _ _ _ (hsz v) (hR.step (fun k hk => by have := hfr (k - fr) (by omega); rwa [show fr + (k - fr) = k by omega] at this) hm hv hod) (hbd hm (fun k hk => hk))
        | _ => rw [hfx] at hrx; cases hrx
      · cases hc
    · cases hg
end
end Go.AM
