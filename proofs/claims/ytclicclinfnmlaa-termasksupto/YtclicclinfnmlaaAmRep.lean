/-
  What abstract values mean in a world: FRep (frozen cells), ARep, WRep, TRep (cells and operands), ORep (an object's block); what a call keeps of the world (Good); what a function's contract says (AC). Definitions, and that the meanings stay when the world goes on. No conditions.
-/
import Derived.Test.YtclicclinfnmlaaAmDefs
namespace Go.AM

/-- A frozen cell, as the world w holds it, outside of the blocks X. -/
inductive FRep (w : World) (X : Nat → Prop) : FV → Value → Prop
  | int (k : IntKind) (n : Int) : FRep w X (.int k n) (.int k n)
  | bool (b : Bool) : FRep w X (.bool b) (.bool b)
  | str (l : List UInt8) : FRep w X (.str l) (.string ⟨l.toArray⟩)
  | cst (v : Value) : v.oneCell' = true → FRep w X (.cst v) v
  | nils : FRep w X .nils (.slice none 0 0)
  | slnil (n : Nat) : FRep w X (.sl false n []) (.slice none 0 0)
  | sl0 (nn : Bool) (n : Nat) (a : Addr) : FRep w X (.sl nn n []) (.slice (some a) 0 0)
  | z0 (nn : Bool) (a : Addr) : FRep w X (.z0 nn) (.slice (some a) 0 0)
  | z0n : FRep w X (.z0 false) (.slice none 0 0)
  | sl (nn : Bool) (n : Nat) (es : List (List FV)) (b off cap len : Nat) (u : Nat → Nat → Value) :
      len = es.length → es.length ≤ cap → ¬ X b → b < w.heap.size → (∀ (i : Nat) (e : List FV), es[i]? = some e → e.length = n) →
      (∀ (i j : Nat) (e : List FV) (f : FV), es[i]? = some e → e[j]? = some f → w.cell? ⟨b, off + i * n + j, none⟩ = some (u i j)) →
      (∀ (i j : Nat) (e : List FV) (f : FV), es[i]? = some e → e[j]? = some f → FRep w X f (u i j)) →
      FRep w X (.sl nn n es) (.slice (some ⟨b, off, none⟩) len cap)
  | pt (cs : List FV) (b off : Nat) (u : Nat → Value) : ¬ X b → b < w.heap.size →
      (∀ (j : Nat) (f : FV), cs[j]? = some f → w.cell? ⟨b, off + j, none⟩ = some (u j)) → (∀ (j : Nat) (f : FV), cs[j]? = some f → FRep w X f (u j)) →
      FRep w X (.pt cs) (.pointer (some ⟨b, off, none⟩))

/-- A cell; β: the blocks of the objects. -/
inductive ARep (w : World) (X : Nat → Prop) (β : Nat → Option Nat) : AV → Value → Prop
  | fz (x : FV) (v : Value) : FRep w X x v → ARep w X β (.fz x) v
  | ep (o n i j b : Nat) : β o = some b → ARep w X β (.ep o n i j) (.pointer (some ⟨b, i * n + j, none⟩))
  | osl (o n off len b q cap sz : Nat) (t : TypeId) : β o = some b → w.shape? b = some (t, sz) → len ≤ cap → (off + cap) * n ≤ sz → (q = off * n ∨ cap = 0) →
      ARep w X β (.osl o n off len) (.slice (some ⟨b, q, none⟩) len cap)
  | mp (o b : Nat) : β o = some b → ARep w X β (.mp o) (.map (some b))
  | any (v : Value) : v.oneCell' = true → ARep w X β .any v

def shut (ag : Bool) (us : List Value) : Value := if ag then .agg us.toArray else us.getD 0 undef

/-- A row of cells. -/
def LRep {α : Type} (R : α → Value → Prop) (cs : List α) (us : List Value) : Prop := cs.length = us.length ∧ ∀ (j : Nat) (c : α) (u : Value), cs[j]? = some c → us[j]? = some u → R c u

/-- A struct or a cell. -/
def PRep {α : Type} (R : α → Value → Prop) (p : Bool × List α) (v : Value) : Prop := ∃ us, v = shut p.1 us ∧ LRep R p.2 us ∧ (p.1 = false → p.2.length = 1)

inductive WRep (w : World) (X : Nat → Prop) (β : Nat → Option Nat) : WV → Value → Prop
  | a (x : AV) (v : Value) : ARep w X β x v → WRep w X β (.a x) v
  | fn (f : Fn) (first captured : List (Bool × List AV)) (us vs : List Value) : LRep (PRep (ARep w X β)) first us → LRep (PRep (ARep w X β)) captured vs →
      WRep w X β (.fn f first captured) (.func f us.toArray vs.toArray)

def TRep (w : World) (X : Nat → Prop) (β : Nat → Option Nat) : TV → Value → Prop
  | .any, _ => True
  | .c x, v => WRep w X β x v
  | .agg cs, v => ∃ us, v = .agg us.toArray ∧ LRep (WRep w X β) cs us
  | .tup vs, v => ∃ us, v = .tuple us.toArray ∧ LRep (PRep (WRep w X β)) vs us

/-- An object's block. -/
def ORep (w : World) (X : Nat → Prop) (β : Nat → Option Nat) (o : AObj) (b : Nat) : Prop :=
  match flat o with
  | .gone => True
  | .arz _ _ => True
  | .arr n es => ∃ (us : List Value) (t : TypeId), w.heap[b]? = some (.cells us.toArray t (0, 0)) ∧ es.length * n ≤ us.length ∧ (∀ e ∈ es, e.length = n) ∧
      ∀ (i j : Nat) (e : List WV) (c : WV), es[i]? = some e → e[j]? = some c → ∃ u, us[i * n + j]? = some u ∧ WRep w X β c u
  | .mapo es => ∃ (ms : List MapEntry) (clock : Nat), w.heap[b]? = some (.map ms.toArray clock) ∧ ms.length = es.length ∧
      (∀ (i : Nat) (e : (Bool × List FV) × (Bool × List WV)) (m : MapEntry), es[i]? = some e → ms[i]? = some m → PRep (FRep w X) e.1 m.key ∧ PRep (WRep w X β) e.2 m.val) ∧
      clock = ms.length ∧ (∀ (i : Nat) (m : MapEntry), ms[i]? = some m → m.born = i)

/-- What a call keeps of the world in which it began, but for the blocks 'foot'. -/
structure Good (w0 : World) (foot : Nat → Prop) (w : World) : Prop where
  size : w0.heap.size ≤ w.heap.size
  blk : ∀ b, b < w0.heap.size → ¬ foot b → w.heap[b]? = w0.heap[b]?
  shp : ∀ b, b < w0.heap.size → w.shape? b = w0.shape? b
  os : w.os = w0.os
  tape : w.tape = w0.tape
  output : w.output = w0.output

def isLive : AObj → Prop
  | .gone => False
  | _ => True

/-- The blocks of objects that live. -/
def Own (h : Nat → AObj) (β : Nat → Option Nat) (b : Nat) : Prop := ∃ o, isLive (h o) ∧ β o = some b

/-- The objects h lie in the blocks β, apart; frozen cells stay out of them, and out of Y. -/
structure Objs (h : Nat → AObj) (β : Nat → Option Nat) (Y : Nat → Prop) (w : World) : Prop where
  rep : ∀ o b, isLive (h o) → β o = some b → ORep w (fun b => Y b ∨ Own h β b) β (h o) b
  has : ∀ o, isLive (h o) → ∃ b, β o = some b ∧ b < w.heap.size ∧ ¬ Y b
  inj : ∀ o o' b, isLive (h o) → isLive (h o') → β o = some b → β o' = some b → o = o'
  lt : ∀ o b, β o = some b → b < w.heap.size

/-- Function f can be entered. -/
def enterable (P : Program) (f : FuncId) : Bool :=
  match P.funcs[f]? with
  | some fn => !(fn.name == "runtime.NumGoroutine") && fn.body.isSome
  | none => false

/-- THE CONTRACT: called with what args are, and with the objects Hs (numbers 0, 1, ..), function f returns r, and leaves the objects Hs' (the first ones are those of before; behind them new ones); nothing else that was there has turned. -/
def AC (P : Program) (f : FuncId) (args : List TV) (Hs : List AObj) (r : TV) (Hs' : List AObj) : Prop :=
  enterable P f = true ∧ Hs.length ≤ Hs'.length ∧
  ∀ (w : World) (vals : List Value) (β : Nat → Option Nat) (Y : Nat → Prop),
    (∀ o b, β o = some b → o < Hs.length) → (∀ b, Y b → b < w.heap.size) →
    Objs (fun o => Hs.getD o .gone) β Y w →
    LRep (TRep w (fun b => Y b ∨ Own (fun o => Hs.getD o .gone) β b) β) args vals →
    Calls P f vals.toArray w fun e w' => ∃ v β', e = .returned v ∧
      Good w (Own (fun o => Hs.getD o .gone) β) w' ∧
      Objs (fun o => Hs'.getD o .gone) β' Y w' ∧
      TRep w' (fun b => Y b ∨ Own (fun o => Hs'.getD o .gone) β' b) β' r v ∧
      (∀ o b, β' o = some b → o < Hs'.length) ∧
      (∀ o, o < Hs.length → β' o = β o) ∧
      (∀ o b, Hs.length ≤ o → β' o = some b → w.heap.size ≤ b ∨ Own (fun o => Hs.getD o .gone) β b)

/-! ### What stays -/
theorem cell_of_heap {w w' : World} {b off : Nat} (h : w'.heap[b]? = w.heap[b]?) : w'.cell? ⟨b, off, none⟩ = w.cell? ⟨b, off, none⟩ := by
  simp [World.cell?, h]

theorem FRep.mono {w w' : World} {X X' : Nat → Prop} {f : FV} {v : Value} (h : FRep w X f v) (hs : w.heap.size ≤ w'.heap.size)
    (hb : ∀ b, ¬ X b → b < w.heap.size → w'.heap[b]? = w.heap[b]? ∧ ¬ X' b) : FRep w' X' f v := by
  induction h with
  | int k n => exact .int k n
  | bool b => exact .bool b
  | str l => exact .str l
  | cst v h => exact .cst v h
  | nils => exact .nils
  | slnil n => exact .slnil n
  | sl0 nn n a => exact .sl0 nn n a
  | z0 nn a => exact .z0 nn a
  | z0n => exact .z0n
  | sl nn n es b off cap len u h1 h2 h3 h4 h5 h6 h7 ih =>
    exact .sl nn n es b off cap len u h1 h2 (hb b h3 h4).2 (by omega) h5 (fun i j e f he hf => (cell_of_heap (hb b h3 h4).1).trans (h6 i j e f he hf)) ih
  | pt cs b off u h3 h4 h6 h7 ih =>
    exact .pt cs b off u (hb b h3 h4).2 (by omega) (fun j f hf => (cell_of_heap (hb b h3 h4).1).trans (h6 j f hf)) ih

theorem ARep.mono {w w' : World} {X X' : Nat → Prop} {β β' : Nat → Option Nat} {f : AV} {v : Value} (h : ARep w X β f v) (hs : w.heap.size ≤ w'.heap.size)
    (hb : ∀ b, ¬ X b → b < w.heap.size → w'.heap[b]? = w.heap[b]? ∧ ¬ X' b) (hsh : ∀ b, b < w.heap.size → w'.shape? b = w.shape? b)
    (hβ : ∀ o b, β o = some b → β' o = some b ∧ b < w.heap.size) : ARep w' X' β' f v := by
  cases h with
  | fz x v h => exact .fz x v (h.mono hs hb)
  | ep o n i j b h => exact .ep o n i j b (hβ _ _ h).1
  | osl o n off len b q cap sz t h1 h2 h3 h4 h5 => exact .osl o n off len b q cap sz t (hβ _ _ h1).1 ((hsh _ (hβ _ _ h1).2).trans h2) h3 h4 h5
  | mp o b h => exact .mp o b (hβ _ _ h).1
  | any v h => exact .any v h

theorem LRep.imp {α : Type} {R R' : α → Value → Prop} {cs : List α} {us : List Value} (h : LRep R cs us) (hr : ∀ c u, c ∈ cs → R c u → R' c u) : LRep R' cs us :=
  ⟨h.1, fun j c u hc hu => hr c u (List.mem_of_getElem? hc) (h.2 j c u hc hu)⟩
theorem PRep.imp {α : Type} {R R' : α → Value → Prop} {p : Bool × List α} {v : Value} (h : PRep R p v) (hr : ∀ c u, c ∈ p.2 → R c u → R' c u) : PRep R' p v :=
  let ⟨us, h1, h2, h3⟩ := h; ⟨us, h1, h2.imp hr, h3⟩

/-- A world that goes on. -/
structure Goes (w w' : World) (X X' : Nat → Prop) (β β' : Nat → Option Nat) : Prop where
  size : w.heap.size ≤ w'.heap.size
  blk : ∀ b, ¬ X b → b < w.heap.size → w'.heap[b]? = w.heap[b]? ∧ ¬ X' b
  shp : ∀ b, b < w.heap.size → w'.shape? b = w.shape? b
  bet : ∀ o b, β o = some b → β' o = some b ∧ b < w.heap.size

theorem FRep.goes {w w' : World} {X X' : Nat → Prop} {β β' : Nat → Option Nat} {f : FV} {v : Value} (h : FRep w X f v) (g : Goes w w' X X' β β') : FRep w' X' f v := h.mono g.size g.blk
theorem ARep.goes {w w' : World} {X X' : Nat → Prop} {β β' : Nat → Option Nat} {f : AV} {v : Value} (h : ARep w X β f v) (g : Goes w w' X X' β β') : ARep w' X' β' f v := h.mono g.size g.blk g.shp g.bet
theorem WRep.goes {w w' : World} {X X' : Nat → Prop} {β β' : Nat → Option Nat} {f : WV} {v : Value} (h : WRep w X β f v) (g : Goes w w' X X' β β') : WRep w' X' β' f v := by
  cases h with
  | a x v h => exact .a x v (h.goes g)
  | fn f first captured us vs h1 h2 => exact .fn f first captured us vs (h1.imp fun _ _ _ h => h.imp fun _ _ _ h => h.goes g) (h2.imp fun _ _ _ h => h.imp fun _ _ _ h => h.goes g)
theorem TRep.goes {w w' : World} {X X' : Nat → Prop} {β β' : Nat → Option Nat} {f : TV} {v : Value} (h : TRep w X β f v) (g : Goes w w' X X' β β') : TRep w' X' β' f v := by
  cases f with
  | any => trivial
  | c x => exact WRep.goes h g
  | agg cs => obtain ⟨us, h1, h2⟩ := h; exact ⟨us, h1, h2.imp fun _ _ _ h => h.goes g⟩
  | tup vs => obtain ⟨us, h1, h2⟩ := h; exact ⟨us, h1, h2.imp fun _ _ _ h => h.imp fun _ _ _ h => h.goes g⟩

/-- An object whose own block is as it was. -/
theorem ORep.goes {w w' : World} {X X' : Nat → Prop} {β β' : Nat → Option Nat} {o : AObj} {b : Nat} (h : ORep w X β o b) (g : Goes w w' X X' β β') (hb : w'.heap[b]? = w.heap[b]?) : ORep w' X' β' o b := by
  have key : ∀ n es, ORep w X β (.arr n es) b → ORep w' X' β' (.arr n es) b := by
    intro n es h
    obtain ⟨us, t, h1, h2, h3, h4⟩ := h
    exact ⟨us, t, hb.trans h1, h2, h3, fun i j e c he hc => let ⟨u, hu, hr⟩ := h4 i j e c he hc; ⟨u, hu, hr.goes g⟩⟩
  cases o with
  | gone => trivial
  | arz n fs => exact key _ _ h
  | arr n es =>
    obtain ⟨us, t, h1, h2, h3, h4⟩ := h
    exact ⟨us, t, hb.trans h1, h2, h3, fun i j e c he hc => let ⟨u, hu, hr⟩ := h4 i j e c he hc; ⟨u, hu, hr.goes g⟩⟩
  | mapo es =>
    obtain ⟨ms, ck, h1, h2, h3, h4, h5⟩ := h
    exact ⟨ms, ck, hb.trans h1, h2, fun i e m he hm => let ⟨x, y⟩ := h3 i e m he hm; ⟨x.imp fun _ _ _ h => h.goes g, y.imp fun _ _ _ h => h.goes g⟩, h4, h5⟩

theorem Good.refl (w : World) (foot : Nat → Prop) : Good w foot w := ⟨Nat.le_refl _, fun _ _ _ => rfl, fun _ _ => rfl, rfl, rfl, rfl⟩
theorem Good.trans {a b c : World} {f g : Nat → Prop} (h : Good a f b) (k : Good b g c) (hg : ∀ x, x < a.heap.size → g x → f x) : Good a f c :=
  ⟨Nat.le_trans h.size k.size, fun x hx hf => (k.blk x (Nat.lt_of_lt_of_le hx h.size) (fun hgx => hf (hg x hx hgx))).trans (h.blk x hx hf),
    fun x hx => (k.shp x (Nat.lt_of_lt_of_le hx h.size)).trans (h.shp x hx), k.os.trans h.os, k.tape.trans h.tape, k.output.trans h.output⟩
theorem Good.drew {a b : World} {f : Nat → Prop} (h : Good a f b) : Good a f { b with drawn := b.drawn + 1 } := ⟨h.size, h.blk, h.shp, h.os, h.tape, h.output⟩

/-- Objects that are made or changed: 'fr': the numbers of new ones. -/
structure Moves (h h' : Nat → AObj) (β β' : Nat → Option Nat) (Y : Nat → Prop) (w w' : World) (fr : Nat → Prop) : Prop where
  good : Good w (Own h β) w'
  objs : Objs h' β' Y w'
  bmono : ∀ o b, β o = some b → β' o = some b
  bnew : ∀ o b, β' o = some b → β o = some b ∨ (fr o ∧ (w.heap.size ≤ b ∨ Own h β b))
  lmono : ∀ o, isLive (h' o) → isLive (h o) ∨ fr o

theorem Moves.goes {h h' : Nat → AObj} {β β' : Nat → Option Nat} {Y : Nat → Prop} {w w' : World} {fr : Nat → Prop} (m : Moves h h' β β' Y w w' fr) (hO : Objs h β Y w) (hfr : ∀ o, fr o → β o = none) :
    Goes w w' (fun b => Y b ∨ Own h β b) (fun b => Y b ∨ Own h' β' b) β β' := by
  refine ⟨m.good.size, fun b hx hb => ⟨m.good.blk b hb (fun h => hx (.inr h)), fun hx' => ?_⟩, m.good.shp, fun o b hb => ⟨m.bmono o b hb, hO.lt o b hb⟩⟩
  rcases hx' with hy | ⟨o, hl, ho⟩
  · exact hx (.inl hy)
  · rcases m.bnew o b ho with hb' | ⟨hf, hb' | hb'⟩
    · rcases m.lmono o hl with hl' | hf
      · exact hx (.inr ⟨o, hl', hb'⟩)
      · rw [hfr o hf] at hb'; cases hb'
    · omega
    · exact hx (.inr hb')

theorem Moves.refl {h h' : Nat → AObj} {β : Nat → Option Nat} {Y : Nat → Prop} {w : World} (hO : Objs h β Y w) (he : ∀ o, h' o = h o) : Moves h h' β β Y w w (fun _ => False) := by
  have : h' = h := funext he
  subst this
  exact ⟨Good.refl _ _, hO, fun _ _ h => h, fun _ _ h => .inl h, fun _ h => .inl h⟩

theorem LRep.map {α γ : Type} {R : α → Value → Prop} {R' : γ → Value → Prop} {g : α → γ} {cs : List α} {us : List Value} (h : LRep R cs us) (hr : ∀ c u, c ∈ cs → R c u → R' (g c) u) : LRep R' (cs.map g) us := by
  refine ⟨by simp [h.1], fun j c u hc hu => ?_⟩
  rw [List.getElem?_map] at hc
  obtain ⟨c', hc', rfl⟩ := Option.map_eq_some_iff.1 hc
  exact hr c' u (List.mem_of_getElem? hc') (h.2 j c' u hc' hu)
theorem LRep.unmap {α γ : Type} {R : α → Value → Prop} {R' : γ → Value → Prop} {g : α → γ} {cs : List α} {us : List Value} (h : LRep R' (cs.map g) us) (hr : ∀ c u, c ∈ cs → R' (g c) u → R c u) : LRep R cs us := by
  refine ⟨by have := h.1; simpa using this, fun j c u hc hu => ?_⟩
  exact hr c u (List.mem_of_getElem? hc) (h.2 j (g c) u (by rw [List.getElem?_map, hc]; rfl) hu)
theorem PRep.map {α γ : Type} {R : α → Value → Prop} {R' : γ → Value → Prop} {g : α → γ} {p : Bool × List α} {v : Value} (h : PRep R p v) (hr : ∀ c u, c ∈ p.2 → R c u → R' (g c) u) : PRep R' (p.1, p.2.map g) v :=
  let ⟨us, h1, h2, h3⟩ := h; ⟨us, h1, h2.map hr, fun h => by simpa using h3 h⟩
theorem PRep.unmap {α γ : Type} {R : α → Value → Prop} {R' : γ → Value → Prop} {g : α → γ} {p : Bool × List α} {v : Value} (h : PRep R' (p.1, p.2.map g) v) (hr : ∀ c u, c ∈ p.2 → R' (g c) u → R c u) : PRep R p v :=
  let ⟨us, h1, h2, h3⟩ := h; ⟨us, h1, h2.unmap hr, fun h => by simpa using h3 h⟩

end Go.AM
