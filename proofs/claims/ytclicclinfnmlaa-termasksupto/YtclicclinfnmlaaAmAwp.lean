/- What a piece of code comes to: weaker states, and a rule for each kind of code. No conditions. -/
import Derived.Test.YtclicclinfnmlaaAmSound9
import Derived.Deep.LoopGhost
namespace Go.AM

/-! ### Weaker states -/
section
variable {w : World} {h h' : Nat → AObj} {β : Nat → Option Nat} {Y : Nat → Prop} {σ : Nat → Nat} {E : Lent} {n' : Nat}

def cutβ (σ : Nat → Nat) (n' : Nat) (β : Nat → Option Nat) (o : Nat) : Option Nat := if o < n' then β (σ o) else none

theorem lendO_rep (hO : Objs h β Y w) {L : Lent} (hL : L.ok h) {Z : Nat → Prop} (hZ : ∀ b, ¬ XO Y h β b → ¬ Z b) (hLZ : ∀ p ∈ L, ∀ b, β p.1 = some b → ¬ Z b)
    {x : AObj} {b : Nat} (hx : ORep w (XO Y h β) β x b) : ORep w Z β (x.lend L) b := by
  have g : Goes w w (XO Y h β) Z β β := ⟨Nat.le_refl _, fun b hb _ => ⟨rfl, hZ b hb⟩, fun _ _ => rfl, fun o b hb => ⟨hb, hO.lt o b hb⟩⟩
  cases x with
  | gone => trivial
  | arz n fs => exact hx.goes g rfl
  | mapo es => exact hx.goes g rfl
  | arr n es =>
    obtain ⟨us, t, h1, h2, h3, h4⟩ := hx
    refine ⟨us, t, h1, by simpa using h2, fun e he => ?_, fun i j e c he hc => ?_⟩
    · obtain ⟨e', he', rfl⟩ := List.mem_map.1 he
      simp [h3 e' he']
    · rw [List.getElem?_map] at he
      obtain ⟨e', he', rfl⟩ := Option.map_eq_some_iff.1 he
      rw [List.getElem?_map] at hc
      obtain ⟨c', hc', rfl⟩ := Option.map_eq_some_iff.1 hc
      obtain ⟨u, hu, hr⟩ := h4 i j e' c' he' hc'
      exact ⟨u, hu, lendT_rep hO hL hZ hLZ (x := .c c') hr⟩

theorem live_lend {x : AObj} {L : Lent} : isLive (x.lend L) ↔ isLive x := by cases x <;> exact Iff.rfl
theorem live_ren {x : AObj} : isLive (x.ren σ) ↔ isLive x := by cases x <;> exact Iff.rfl

structure Weak (h h' : Nat → AObj) (σ : Nat → Nat) (E : Lent) (n' : Nat) : Prop where
  ok : E.ok h
  obj : ∀ o, isLive (h' o) → o < n' ∧ flat ((h (σ o)).lend E) = flat ((h' o).ren σ) ∧ (h' o).lt n' = true ∧ ∀ q ∈ E, q.1 ≠ σ o
  inj : ∀ o o', isLive (h' o) → isLive (h' o') → σ o = σ o' → o = o'

theorem Weak.live (k : Weak h h' σ E n') {o : Nat} (ho : isLive (h' o)) : isLive (h (σ o)) := by
  have := (k.obj o ho).2.1
  rw [← live_lend (L := E), ← flat_live, this, flat_live, live_ren]; exact ho
theorem Weak.own (k : Weak h h' σ E n') {b : Nat} (hb : Own h' (cutβ σ n' β) b) : Own h β b := by
  obtain ⟨o, h1, h2⟩ := hb
  simp only [cutβ] at h2
  split at h2
  · exact ⟨σ o, k.live h1, h2⟩
  · cases h2
theorem Weak.xo (k : Weak h h' σ E n') {b : Nat} (hb : ¬ XO Y h β b) : ¬ XO Y h' (cutβ σ n' β) b := fun hx => by
  rcases hx with h1 | h1
  · exact hb (.inl h1)
  · exact hb (.inr (k.own h1))
theorem Weak.given (k : Weak h h' σ E n') (hO : Objs h β Y w) : ∀ p ∈ E, ∀ b, β p.1 = some b → ¬ XO Y h' (cutβ σ n' β) b := by
  intro p hp b hb hx
  have hl : isLive (h p.1) := by rw [← flat_live, k.ok p hp]; trivial
  rcases hx with h1 | ⟨o, h1, h2⟩
  · obtain ⟨b', h2, _, h3⟩ := hO.has p.1 hl
    rw [hb] at h2; injection h2 with h2; subst h2; exact h3 h1
  · simp only [cutβ] at h2
    split at h2
    · exact (k.obj o h1).2.2.2 p hp (hO.inj _ _ b hl (k.live h1) hb h2)
    · cases h2
theorem Weak.rep (k : Weak h h' σ E n') (hO : Objs h β Y w) {x y : TV} {v : Value} (hx : TRep w (XO Y h β) β x v) (hle : TV.Le (x.lend E) (y.ren σ)) (hlt : y.lt n' = true) : TRep w (XO Y h' (cutβ σ n' β)) (cutβ σ n' β) y v := by
  have h1 := TRep.le hle (lendT_rep hO k.ok (fun b hb => k.xo hb) (k.given hO) hx)
  exact TRep.unmap (m := n') (fun _ _ h => h) (fun o b ho hb => by simp only [cutβ, ho, if_true]; exact hb) hlt h1
theorem Weak.objs (k : Weak h h' σ E n') (hO : Objs h β Y w) : Objs h' (cutβ σ n' β) Y w := by
  have hcut : ∀ o b, cutβ σ n' β o = some b → β (σ o) = some b := fun o b hb => by
    simp only [cutβ] at hb
    split at hb
    · exact hb
    · cases hb
  refine ⟨fun o b h1 h2 => ?_, fun o h1 => ?_, fun o o' b h1 h2 h3 h4 => k.inj o o' h1 h2 (hO.inj _ _ b (k.live h1) (k.live h2) (hcut _ _ h3) (hcut _ _ h4)), fun o b hb => hO.lt _ b (hcut o b hb)⟩
  · obtain ⟨g1, g2, g3, _⟩ := k.obj o h1
    have hr := lendO_rep hO k.ok (fun b hb => k.xo hb) (k.given hO) (hO.rep (σ o) b (k.live h1) (hcut o b h2))
    have hr2 := (orep_flat g2).1 hr
    exact ORep.unmap (m := n') (fun _ _ h => h) (fun o b ho hb => by simp only [cutβ, ho, if_true]; exact hb) g3 hr2
  · obtain ⟨b, h2, h3, h4⟩ := hO.has (σ o) (k.live h1)
    exact ⟨b, by simp only [cutβ, (k.obj o h1).1, if_true]; exact h2, h3, h4⟩
end

/-- The state s' holds wherever s holds (the first m objects keep their numbers). -/
def Sle (m : Nat) (s s' : St) : Prop := ∃ (σ : Nat → Nat) (E : Lent), Lent.ok E (hook s.heap) ∧ m ≤ s'.nx ∧ (∀ o, o < m → σ o = o) ∧
  (∀ p ∈ s'.env, TV.Le ((look s.env p.1).lend E) (p.2.ren σ) ∧ p.2.lt s'.nx = true) ∧
  (∀ p ∈ s'.heap, p.1 < s'.nx ∧ flat ((hook s.heap (σ p.1)).lend E) = flat (p.2.ren σ) ∧ p.2.lt s'.nx = true ∧ ∀ q ∈ E, q.1 ≠ σ p.1) ∧
  (∀ p ∈ s'.heap, ∀ q ∈ s'.heap, σ p.1 = σ q.1 → p.1 = q.1)

theorem hook_mem : ∀ {l : AHeap} {o : Nat}, isLive (hook l o) → (o, hook l o) ∈ l
  | [], _, h => h.elim
  | (j, v) :: l, o, h => by
    simp only [hook] at h ⊢
    split at h
    · rename_i e; rw [if_pos e, ← e]; exact List.mem_cons_self
    · rename_i e; rw [if_neg e]; exact List.mem_cons_of_mem _ (hook_mem h)
theorem look_mem : ∀ {l : Env} {i : Nat}, look l i = .any ∨ (i, look l i) ∈ l
  | [], _ => .inl rfl
  | (j, v) :: l, i => by
    simp only [look]
    split
    · rename_i e; rw [← e]; exact .inr List.mem_cons_self
    · rcases look_mem (l := l) (i := i) with h | h
      · exact .inl h
      · exact .inr (List.mem_cons_of_mem _ h)

section
variable {P : Program} {w0 : World} {foot : Nat → Prop} {Y : Nat → Prop} {pin : Nat → Option Nat} {n m : Nat}

theorem weak_of {u : AHeap} {h : Nat → AObj} {σ : Nat → Nat} {E : Lent} {n' : Nat} (hE : E.ok h) (ho : ∀ p ∈ u, p.1 < n' ∧ flat ((h (σ p.1)).lend E) = flat (p.2.ren σ) ∧ p.2.lt n' = true ∧ ∀ q ∈ E, q.1 ≠ σ p.1)
    (hi : ∀ p ∈ u, ∀ q ∈ u, σ p.1 = σ q.1 → p.1 = q.1) : Weak h (hook u) σ E n' :=
  ⟨hE, fun o hl => ho _ (hook_mem hl), fun o o' h1 h2 e => hi _ (hook_mem h1) _ (hook_mem h2) e⟩

theorem relF_sle {s s' : St} (hs : Sle m s s') (hm : ∀ o b, pin o = some b → o < m) {β : Nat → Option Nat} {a : Act} {w : World} (hR : RelF w0 foot Y pin (look s.env) (hook s.heap) β a w) :
    ∃ β', RelF w0 foot Y pin (look s'.env) (hook s'.heap) β' a w ∧ ∀ k, β' k ≠ none → k < s'.nx := by
  obtain ⟨σ, E, hE, hmn, hσ, he, hh, hi⟩ := hs
  have k := weak_of hE hh hi
  refine ⟨cutβ σ s'.nx β, ⟨hR.good, fun i => ?_, k.objs hR.objs, fun o b h1 h2 => ?_, hR.defers, hR.ylt, fun o b hb => ?_⟩, fun o ho => ?_⟩
  · rcases look_mem (l := s'.env) (i := i) with h1 | h1
    · rw [h1]; trivial
    · exact k.rep hR.objs (hR.env i) (he _ h1).1 (he _ h1).2
  · simp only [cutβ] at h2
    split at h2
    · exact hR.own _ b (k.live h1) h2
    · cases h2
  · have h1 := hm o b hb
    simp only [cutβ, show o < s'.nx by omega, if_true, hσ o h1]
    exact hR.pins o b hb
  · simp only [cutβ] at ho
    split at ho
    · assumption
    · exact absurd rfl ho

/-! ### Code -/
inductive AExit where
  | normal
  | exit (id : Nat)
  | ret
  deriving DecidableEq

def At (w0 : World) (foot Y : Nat → Prop) (pin : Nat → Option Nat) (n : Nat) (Q : St → Prop) (a : Act) (w : World) : Prop :=
  ∃ s β, Q s ∧ a.tmps.size = n ∧ RelF w0 foot Y pin (look s.env) (hook s.heap) β a w ∧ ∀ k, β k ≠ none → k < s.nx

def Lift (w0 : World) (foot Y : Nat → Prop) (pin : Nat → Option Nat) (n : Nat) (Q : AExit → St → Prop) : Exit → Act → World → Prop
  | .normal => At w0 foot Y pin n (Q .normal)
  | .exit i => At w0 foot Y pin n (Q (.exit i))
  | .ret => At w0 foot Y pin n (Q .ret)
  | _ => fun _ _ => False

/-- From the state s the code comes to Q. -/
def Awp (P : Program) (n m : Nat) (c : Code) (Q : AExit → St → Prop) (s : St) : Prop :=
  ∀ (w0 : World) (foot Y : Nat → Prop) (pin β : Nat → Option Nat) (a : Act) (w : World), (∀ o b, pin o = some b → o < m) → a.tmps.size = n → RelF w0 foot Y pin (look s.env) (hook s.heap) β a w → (∀ k, β k ≠ none → k < s.nx) →
    c.wp P (Lift w0 foot Y pin n Q) a w

variable {c : Code} {Q : AExit → St → Prop} {s : St}

theorem Lift.mono {Q' : AExit → St → Prop} (hq : ∀ e s, Q e s → Q' e s) (e : Exit) (a : Act) (w : World) (h : Lift w0 foot Y pin n Q e a w) : Lift w0 foot Y pin n Q' e a w := by
  cases e with
  | normal => obtain ⟨s, β, h1, h2⟩ := h; exact ⟨s, β, hq _ _ h1, h2⟩
  | exit i => obtain ⟨s, β, h1, h2⟩ := h; exact ⟨s, β, hq _ _ h1, h2⟩
  | ret => obtain ⟨s, β, h1, h2⟩ := h; exact ⟨s, β, hq _ _ h1, h2⟩
  | _ => exact h.elim

theorem Awp.mono {Q' : AExit → St → Prop} (h : Awp P n m c Q s) (hq : ∀ e s, Q e s → Q' e s) : Awp P n m c Q' s :=
  fun w0 foot Y pin β a w hm hn hR hb => wp_mono (h w0 foot Y pin β a w hm hn hR hb) (Lift.mono hq)

/-- From a weaker state. -/
theorem Awp.weak {s' : St} (hs : Sle m s s') (h : Awp P n m c Q s') : Awp P n m c Q s := fun w0 foot Y pin β a w hm hn hR _ =>
  let ⟨β', h1, h2⟩ := relF_sle hs hm hR
  h w0 foot Y pin β' a w hm hn h1 h2

theorem Awp.skip (h : Q .normal s) : Awp P n m .skip Q s := fun w0 foot Y pin β a w _ hn hR hb => wp_skip ⟨s, β, h, hn, hR, hb⟩
theorem Awp.ret (h : Q .ret s) : Awp P n m .ret Q s := fun w0 foot Y pin β a w _ hn hR hb => wp_ret ⟨s, β, h, hn, hR, hb⟩
theorem Awp.exit {i : Nat} (h : Q (.exit i) s) : Awp P n m (.exit i) Q s := fun w0 foot Y pin β a w _ hn hR hb => wp_exit ⟨s, β, h, hn, hR, hb⟩

def thenQ (K : St → Prop) (Q : AExit → St → Prop) : AExit → St → Prop
  | .normal, s => K s
  | e, s => Q e s
def inBlockQ (i : Nat) (Q : AExit → St → Prop) : AExit → St → Prop
  | .exit j, s => if j = i then Q .normal s else Q (.exit j) s
  | e, s => Q e s

theorem Awp.seq {c₁ c₂ : Code} (h : Awp P n m c₁ (thenQ (Awp P n m c₂ Q) Q) s) : Awp P n m (.seq c₁ c₂) Q s := fun w0 foot Y pin β a w hm hn hR hb => by
  refine wp_seq (wp_mono (h w0 foot Y pin β a w hm hn hR hb) fun e a' w' hq => ?_)
  cases e with
  | normal => obtain ⟨s', β', h1, h2, h3, h4⟩ := hq; exact h1 w0 foot Y pin β' a' w' hm h2 h3 h4
  | exit i => exact hq
  | ret => exact hq
  | _ => exact hq.elim

/-- Where what comes behind is shown once, for all states of a shape. -/
theorem Awp.cut {c₁ c₂ : Code} {α : Type} (S : α → St) (I : α → Prop) (h : Awp P n m c₁ (thenQ (fun s => ∃ x, I x ∧ Sle m s (S x)) Q) s) (hk : ∀ x, I x → Awp P n m c₂ Q (S x)) : Awp P n m (.seq c₁ c₂) Q s :=
  Awp.seq (h.mono fun e s hq => by
    cases e with
    | normal => obtain ⟨x, h1, h2⟩ := hq; exact Awp.weak h2 (hk x h1)
    | _ => exact hq)

theorem Awp.cond {x : Operand} {c₁ c₂ : Code} {t : Bool} (hc : ev s.env x = .c (.a (.fz (.bool t)))) (ht : t = true → Awp P n m c₁ Q s) (hf : t = false → Awp P n m c₂ Q s) : Awp P n m (.cond x c₁ c₂) Q s := fun w0 foot Y pin β a w hm hn hR hb => by
  have hv := hR.eval x
  rw [← ev_evF, hc] at hv
  refine wp_cond (t := t) hv.bool_inv ?_
  cases t with
  | true => exact ht rfl w0 foot Y pin β a w hm hn hR hb
  | false => exact hf rfl w0 foot Y pin β a w hm hn hR hb

theorem Awp.block {i : Nat} (h : Awp P n m c (inBlockQ i Q) s) : Awp P n m (.block i c) Q s := fun w0 foot Y pin β a w hm hn hR hb => by
  refine wp_block (wp_mono (h w0 foot Y pin β a w hm hn hR hb) fun e a' w' hq => ?_)
  cases e with
  | normal => exact hq
  | exit j =>
    obtain ⟨s', β', h1, h2⟩ := hq
    simp only [inBlockQ] at h1
    simp only [Exit.inBlock]
    split at h1
    · rename_i hj; rw [if_pos hj]; exact ⟨s', β', h1, h2⟩
    · rename_i hj; rw [if_neg hj]; exact ⟨s', β', h1, h2⟩
  | ret => exact hq
  | _ => exact hq.elim

theorem Awp.loop {α : Type} (S : α → St) (I : α → Prop) (μ : α → Nat) (x : α) (hx : I x) (hs : Sle m s (S x))
    (h : ∀ x, I x → Awp P n m c (thenQ (fun s' => ∃ y, I y ∧ μ y < μ x ∧ Sle m s' (S y)) Q) (S x)) : Awp P n m (.loop c) Q s := fun w0 foot Y pin β a w hm hn hR hb => by
  refine wp_loop_ghost (fun k a w => ∃ x, I x ∧ μ x = k ∧ At w0 foot Y pin n (fun s => s = S x) a w) (μ x) ?_ ?_
  · obtain ⟨β', h1, h2⟩ := relF_sle hs hm hR
    exact ⟨x, hx, rfl, S x, β', rfl, hn, h1, h2⟩
  · rintro k a w ⟨x, hx, rfl, s', β', rfl, h2, h3, h4⟩
    refine wp_mono (h x hx w0 foot Y pin β' a w hm h2 h3 h4) fun e a' w' hq => ?_
    cases e with
    | normal =>
      obtain ⟨s', β', ⟨y, h1, h2, h3⟩, h4, h5, h6⟩ := hq
      obtain ⟨β'', h7, h8⟩ := relF_sle h3 hm h5
      exact ⟨μ y, h2, y, h1, rfl, S y, β'', rfl, h4, h7, h8⟩
    | exit i => exact hq
    | ret => exact hq
    | _ => exact hq.elim

theorem Awp.region {i : Nat} {ops : Array Oper} {d : Bool} (hP : P.follows .mixedOrders = true) (hd : dstB ops n = true)
    (hl : lex P ops s.nx ops.toList 0 s.env s.heap [] fun e h tr => (d = true → drawB ops tr = true) ∧ Q .normal ⟨e, h, s.nx + 32 * ops.size⟩) : Awp P n m (.region i ops d) Q s := fun w0 foot Y pin β a w _ hn hR hb => by
  subst hn
  exact region_sound (R := Q .normal) hP hd hl hR hb fun s' a' w' β' h1 h2 h3 h4 => ⟨s', β', h1, h2, h3, h4⟩
end
end Go.AM
