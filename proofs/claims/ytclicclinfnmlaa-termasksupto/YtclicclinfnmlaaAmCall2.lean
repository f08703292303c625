/- Soundness of a call by its contract: the callee's objects, and back. No conditions. -/
import Derived.Test.YtclicclinfnmlaaAmCall
namespace Go.AM
section
variable {P : Program} {h : Nat → AObj} {β : Nat → Option Nat} {Y : Nat → Prop} {w : World}

theorem find2_mem {α : Type} {l : List (Nat × α)} {i : Nat} {x : α} (h : find2 l i = some x) : (i, x) ∈ l := by
  induction l with
  | nil => simp [find2] at h
  | cons p l ih =>
    obtain ⟨j, y⟩ := p
    simp only [find2] at h
    split at h
    · rename_i e; injection h with h; subst e; subst h; simp
    · exact List.mem_cons_of_mem _ (ih h)

theorem fz_of_w {X : Nat → Prop} {f : FV} {u : Value} (h : WRep w X β (cell f) u) : FRep w X f u := by
  cases h with | a _ _ h => cases h with | fz _ _ h => exact h

/-- A slice of an object whose cells are frozen reads as frozen where nobody minds its block. -/
theorem give_sl (hO : Objs h β Y w) {Z : Nat → Prop} (hZ : ∀ b, ¬ XO Y h β b → ¬ Z b) {o n off len m : Nat} {fs : List (List FV)} (hm : flat (h o) = .arr m (fs.map fzs)) (hn : n = m) (hfit : off + len ≤ fs.length) (hoZ : ∀ b, β o = some b → ¬ Z b)
    {v : Value} (hx : ARep w (XO Y h β) β (.osl o n off len) v) : FRep w Z (.sl true n ((fs.drop off).take len)) v := by
  have hF : ∀ x v, FRep w (XO Y h β) x v → FRep w Z x v := fun x v hr => hr.mono (Nat.le_refl _) (fun b hb _ => ⟨rfl, hZ b hb⟩)
  cases hx with
  | osl _ _ _ _ b q cap sz t h1 h2 h3 h4 h5 =>
    have hlive : isLive (h o) := by rw [← flat_live, hm]; trivial
    obtain ⟨us, tt, g1, g2, g3, g4⟩ := obj_cells hO hm h1
    have hlen : len = ((fs.drop off).take len).length := by simp; omega
    have hget : ∀ i e, ((fs.drop off).take len)[i]? = some e → fs[off + i]? = some e ∧ i < len := by
      intro i e he
      rw [List.getElem?_take, List.getElem?_drop] at he
      split at he
      · rename_i hi; exact ⟨he, hi⟩
      · cases he
    have hcells : ∀ i e, ((fs.drop off).take len)[i]? = some e → ∀ j f, e[j]? = some f → ∃ u, us[(off + i) * n + j]? = some u ∧ FRep w Z f u := by
      intro i e he j f hf
      obtain ⟨u, hu, hr⟩ := g4 (off + i) j (fzs e) (cell f) (by rw [List.getElem?_map, (hget i e he).1]; rfl) (by rw [fzs, List.getElem?_map, hf]; rfl)
      rw [hn]
      exact ⟨u, hu, hF _ _ (fz_of_w hr)⟩
    refine .sl true n _ b q cap len (fun i j => us.getD ((off + i) * n + j) undef) hlen (by omega) (hoZ b h1) (hO.lt o b h1) (fun i e he => ?_) (fun i j e f he hf => ?_) (fun i j e f he hf => ?_)
    · have := g3 (fzs e) (List.mem_of_getElem? (by rw [List.getElem?_map, (hget i e he).1]; rfl : (fs.map fzs)[off + i]? = some (fzs e)))
      rw [hn]; simpa [fzs] using this
    · obtain ⟨u, hu, _⟩ := hcells i e he j f hf
      have hi := (hget i e he).2
      rw [h5.resolve_right (by omega)]
      simp only [World.cell?, g1, List.getElem?_toArray, Option.isSome_none, Bool.false_eq_true, if_false, List.getD]
      rw [show off * n + i * n + j = (off + i) * n + j by rw [Nat.add_mul], hu]
      rfl
    · obtain ⟨u, hu, hr⟩ := hcells i e he j f hf
      simp only [List.getD, hu, Option.getD_some]
      exact hr

/-- What is lent reads as frozen. -/
theorem lendA_rep (hO : Objs h β Y w) {L : Lent} (hL : L.ok h) {Z : Nat → Prop} (hZ : ∀ b, ¬ XO Y h β b → ¬ Z b) (hLZ : ∀ p ∈ L, ∀ b, β p.1 = some b → ¬ Z b)
    {x : AV} {v : Value} (hx : ARep w (XO Y h β) β x v) : ARep w Z β (x.lend L) v := by
  have hF : ∀ x v, FRep w (XO Y h β) x v → FRep w Z x v := fun x v hr => hr.mono (Nat.le_refl _) (fun b hb _ => ⟨rfl, hZ b hb⟩)
  cases hx with
  | fz x v hr => exact .fz x v (hF x v hr)
  | ep o n i j b hb => exact .ep o n i j b hb
  | mp o b hb => exact .mp o b hb
  | any v hv => exact .any v hv
  | osl o n off len b q cap sz t h1 h2 h3 h4 h5 =>
    simp only [AV.lend]
    split
    · rename_i p hfs
      split
      · rename_i hc
        have hmem := find2_mem hfs
        exact .fz _ _ (give_sl hO hZ (hL _ hmem) hc.1 hc.2 (hLZ _ hmem) (.osl o n off len b q cap sz t h1 h2 h3 h4 h5))
      · exact .osl o n off len b q cap sz t h1 h2 h3 h4 h5
    · exact .osl o n off len b q cap sz t h1 h2 h3 h4 h5

theorem lendT_rep (hO : Objs h β Y w) {L : Lent} (hL : L.ok h) {Z : Nat → Prop} (hZ : ∀ b, ¬ XO Y h β b → ¬ Z b) (hLZ : ∀ p ∈ L, ∀ b, β p.1 = some b → ¬ Z b)
    {x : TV} {v : Value} (hx : TRep w (XO Y h β) β x v) : TRep w Z β (x.lend L) v := by
  have hF : ∀ x v, FRep w (XO Y h β) x v → FRep w Z x v := fun x v hr => hr.mono (Nat.le_refl _) (fun b hb _ => ⟨rfl, hZ b hb⟩)
  have hA : ∀ x v, ARep w (XO Y h β) β x v → ARep w Z β x v := fun x v hr => hr.mono (Nat.le_refl _) (fun b hb _ => ⟨rfl, hZ b hb⟩) (fun _ _ => rfl) (fun o b hb => ⟨hb, hO.lt o b hb⟩)
  have hW : ∀ x v, WRep w (XO Y h β) β x v → WRep w Z β (x.lend L) v := by
    intro x v hr
    cases hr with
    | a x v hr => exact .a _ v (lendA_rep hO hL hZ hLZ hr)
    | fn f first cap us vs h1 h2 => exact .fn f first cap us vs (h1.imp fun _ _ _ h => h.imp fun c u _ h => hA c u h) (h2.imp fun _ _ _ h => h.imp fun c u _ h => hA c u h)
  have hW' : ∀ x v, WRep w (XO Y h β) β x v → WRep w Z β x v := by
    intro x v hr
    cases hr with
    | a x v hr => exact .a _ v (hA _ _ hr)
    | fn f first cap us vs h1 h2 => exact .fn f first cap us vs (h1.imp fun _ _ _ h => h.imp fun c u _ h => hA c u h) (h2.imp fun _ _ _ h => h.imp fun c u _ h => hA c u h)
  cases x with
  | any => trivial
  | c x => exact hW x v hx
  | agg cs => obtain ⟨us, h1, h2⟩ := hx; exact ⟨us, h1, h2.map fun c u _ h => hW c u h⟩
  | tup vs => obtain ⟨us, h1, h2⟩ := hx; exact ⟨us, h1, h2.imp fun c u _ h => h.imp fun d z _ h => hW' d z h⟩

theorem all2_rep {Z : Nat → Prop} {β' : Nat → Option Nat} : ∀ {xs ys : List TV} {us : List Value}, All2 TV.Le xs ys → LRep (TRep w Z β') xs us → LRep (TRep w Z β') ys us
  | [], [], us, _, h => h
  | x :: xs, y :: ys, us, h1, h2 => by
    obtain ⟨u, us', rfl, hu, hr⟩ := h2.cons_inv
    exact .cons (TRep.le h1.1 hu) (all2_rep h1.2 hr)
  | [], _ :: _, _, h, _ => h.elim
  | _ :: _, [], _, h, _ => h.elim

/-! Numbers of the objects behind a call. -/
theorem find2_old {σ : Nat → Nat} : ∀ {ids : List Nat} {Hs : List AObj} {o : Nat} {x : AObj}, ids.Nodup → find2 (oldObjs σ ids Hs) o = some x → ∃ (k : Nat) (y : AObj), ids[k]? = some o ∧ Hs[k]? = some y ∧ x = y.ren σ
  | [], Hs, o, x, _, h => by simp [oldObjs, find2] at h
  | i :: ids, [], o, x, _, h => by simp [oldObjs, find2] at h
  | i :: ids, y :: Hs, o, x, hn, h => by
    simp only [oldObjs, find2] at h
    split at h
    · rename_i e
      injection h with h
      exact ⟨0, y, by simp [e], rfl, h.symm⟩
    · obtain ⟨k, z, h1, h2, h3⟩ := find2_old (List.nodup_cons.1 hn).2 h
      exact ⟨k + 1, z, h1, h2, h3⟩
theorem find2_old_none {σ : Nat → Nat} : ∀ {ids : List Nat} {Hs : List AObj} {o : Nat}, ids.length ≤ Hs.length → find2 (oldObjs σ ids Hs) o = none → o ∉ ids
  | [], Hs, o, _, _ => by simp
  | i :: ids, [], o, hl, _ => by simp at hl
  | i :: ids, y :: Hs, o, hl, h => by
    simp only [oldObjs, find2] at h
    split at h
    · cases h
    · rename_i e
      intro hm
      rcases List.mem_cons.1 hm with h1 | h1
      · exact e h1.symm
      · exact find2_old_none (by simpa using hl) h h1
theorem find2_new {σ : Nat → Nat} : ∀ {Hs : List AObj} {fr o : Nat} {x : AObj}, find2 (newObjs σ fr Hs) o = some x → ∃ (j : Nat) (y : AObj), o = fr + j ∧ Hs[j]? = some y ∧ x = y.ren σ
  | [], fr, o, x, h => by simp [newObjs, find2] at h
  | y :: Hs, fr, o, x, h => by
    simp only [newObjs, find2] at h
    split at h
    · rename_i e; injection h with h; exact ⟨0, y, by omega, rfl, h.symm⟩
    · obtain ⟨j, z, h1, h2, h3⟩ := find2_new h
      exact ⟨j + 1, z, by omega, h2, h3⟩
theorem find2_new_none {σ : Nat → Nat} : ∀ {Hs : List AObj} {fr o j : Nat}, find2 (newObjs σ fr Hs) o = none → o = fr + j → Hs.length ≤ j
  | [], fr, o, j, _, _ => by simp
  | y :: Hs, fr, o, j, h, e => by
    simp only [newObjs, find2] at h
    split at h
    · cases h
    · cases j with
      | zero => omega
      | succ j => have := find2_new_none (j := j) h (by omega); simp; omega
theorem find2_append {α : Type} (a b : List (Nat × α)) (o : Nat) : find2 (a ++ b) o = match find2 a o with | some x => some x | none => find2 b o := by
  induction a with
  | nil => rfl
  | cons p a ih =>
    obtain ⟨j, x⟩ := p
    simp only [List.cons_append, find2]
    split
    · rfl
    · exact ih

theorem scalar_frep {X1 X2 : Nat → Prop} {w' : World} {x : FV} {v : Value} (hs : x.scalar = true) (h : FRep w X1 x v) : FRep w' X2 x v := by
  cases h with
  | int k n => exact .int k n
  | bool b => exact .bool b
  | str l => exact .str l
  | cst v h => exact .cst v h
  | nils => exact .nils
  | slnil n => simp [FV.scalar] at hs
  | sl0 => simp [FV.scalar] at hs
  | z0 nn a => exact .z0 nn a
  | z0n => exact .z0n
  | sl => simp [FV.scalar] at hs
  | pt => simp [FV.scalar] at hs

theorem scalar_trep {X1 X2 : Nat → Prop} {β1 β2 : Nat → Option Nat} {σ : Nat → Nat} {x : TV} {v : Value} (hs : x.scalar = true) (hβ : ∀ o, β1 o = none) (h : TRep w X1 β1 x v) : TRep w X2 β2 (x.ren σ) v := by
  have hW : ∀ c u, WV.scalar c = true → WRep w X1 β1 c u → WRep w X2 β2 (c.ren σ) u := by
    intro c u hc hr
    cases hr with
    | a x v hr =>
      simp only [WV.scalar] at hc
      cases hr with
      | fz x v hr => exact .a _ _ (.fz _ _ (scalar_frep hc hr))
      | ep o n i j b hb => rw [hβ] at hb; cases hb
      | osl o n off len b q cap sz t hb => rw [hβ] at hb; cases hb
      | mp o b hb => rw [hβ] at hb; cases hb
      | any v hv => exact .a _ _ (.any _ hv)
    | fn => simp [WV.scalar] at hc
  cases x with
  | any => trivial
  | c x => exact hW x v hs h
  | agg cs =>
    simp only [TV.scalar, List.all_eq_true] at hs
    obtain ⟨us, h1, h2⟩ := h; exact ⟨us, h1, h2.map fun c u hc h => hW c u (hs c hc) h⟩
  | tup vs =>
    simp only [TV.scalar, List.all_eq_true] at hs
    obtain ⟨us, h1, h2⟩ := h; exact ⟨us, h1, h2.map fun c u hc h => h.map fun d z hd h => hW d z (hs c hc d hd) h⟩

theorem nodup_get : ∀ {l : List Nat} {i j x : Nat}, l.Nodup → l[i]? = some x → l[j]? = some x → i = j
  | [], i, j, x, _, h, _ => by simp at h
  | y :: l, 0, 0, x, _, _, _ => rfl
  | y :: l, 0, j + 1, x, hn, h1, h2 => by
    simp at h1 h2; subst h1
    exact absurd (List.mem_of_getElem? h2) (List.nodup_cons.1 hn).1
  | y :: l, i + 1, 0, x, hn, h1, h2 => by
    simp at h1 h2; subst h2
    exact absurd (List.mem_of_getElem? h1) (List.nodup_cons.1 hn).1
  | y :: l, i + 1, j + 1, x, hn, h1, h2 => by
    simp at h1 h2
    rw [nodup_get (List.nodup_cons.1 hn).2 h1 h2]

/-- A CALL, by its contract. -/
theorem call_does (hO : Objs h β Y w) (hY : ∀ b, Y b → b < w.heap.size) {fr : Nat} (hfr : ∀ j, j < 32 → β (fr + j) = none) {f : FuncId} {args : List TV} {vals : List Value} {K : TV → AHeap → List Nat → Prop}
    (hl : LRep (TRep w (XO Y h β) β) args vals) (hK : CallK P f args h fr K) :
    enterable P f = true ∧ ∃ r upd rd, K r upd rd ∧ Calls P f vals.toArray w fun e w' => ∃ v β', e = .returned v ∧ Moves h (over upd h) β β' Y w w' (fun o => fr ≤ o ∧ o < fr + 32) ∧ TRep w' (XO Y (over upd h) β') β' r v := by
  obtain ⟨ids, L, args', Hs, r, Hs', ⟨hent, hlen, hac⟩, hnd, hroom, ⟨hHs, hHlt⟩, hargs, halt, hlive, hLcase, hKK⟩ := hK
  refine ⟨hent, r.ren (sub ids fr), oldObjs (sub ids fr) ids Hs' ++ newObjs (sub ids fr) fr (Hs'.drop ids.length), ids ++ L.map Prod.fst, hKK, ?_⟩
  clear hKK
  have hml : Hs.length = ids.length := by have := congrArg List.length hHs; simpa using this
  -- the callee's numbers
  let βc : Nat → Option Nat := fun o => if o < ids.length then β (ids.getD o 0) else none
  let hc : Nat → AObj := fun o => Hs.getD o .gone
  let Yc : Nat → Prop := fun b => XO Y h β b ∧ ¬ Own hc βc b ∧ ¬ ∃ p ∈ L, β p.1 = some b
  have hlt_nd : ∀ i ∈ ids, ∀ j, i ≠ fr + j ∨ 32 ≤ j := by
    intro i hi j
    by_cases hj : j < 32
    · refine .inl fun e => ?_
      obtain ⟨b, hb, _⟩ := hO.has i (hlive i hi)
      rw [e, hfr j hj] at hb; cases hb
    · exact .inr (by omega)
  have hget : ∀ k, k < ids.length → ids[k]? = some (ids.getD k 0) := fun k hk => by simp [List.getD, List.getElem?_eq_getElem hk]
  have hmemget : ∀ k, k < ids.length → ids.getD k 0 ∈ ids := fun k hk => List.mem_of_getElem? (hget k hk)
  have hHs_get : ∀ k, k < ids.length → (hc k).ren (sub ids fr) = h (ids.getD k 0) ∧ (hc k).lt ids.length = true := by
    intro k hk
    have e1 := congrArg (fun l => l[k]?) hHs
    simp only [List.getElem?_map] at e1
    have hk' : k < Hs.length := by omega
    rw [List.getElem?_eq_getElem hk', hget k hk] at e1
    simp only [Option.map_some, Option.some.injEq] at e1
    have e2 : hc k = Hs[k] := by simp [hc, List.getD, List.getElem?_eq_getElem hk']
    refine ⟨by rw [e2]; exact e1, ?_⟩
    rw [e2]
    exact List.all_eq_true.1 hHlt _ (List.getElem_mem hk')
  have hc_live : ∀ o, isLive (hc o) → o < ids.length := by
    intro o ho
    by_cases hk : o < Hs.length
    · omega
    · have : hc o = .gone := by simp [hc, List.getD, List.getElem?_eq_none (Nat.le_of_not_lt hk)]
      rw [this] at ho; exact ho.elim
  have ren_live : ∀ (x : AObj) (σ : Nat → Nat), isLive (x.ren σ) ↔ isLive x := by
    intro x σ; cases x <;> simp [AObj.ren, isLive]
  have hβc : ∀ o b, βc o = some b → o < ids.length ∧ β (ids.getD o 0) = some b := by
    intro o b hb
    simp only [βc] at hb
    split at hb
    · rename_i ho; exact ⟨ho, hb⟩
    · cases hb
  have hownc : ∀ b, Own hc βc b → Own h β b := by
    rintro b ⟨o, ho1, ho2⟩
    obtain ⟨k1, k2⟩ := hβc o b ho2
    exact ⟨_, hlive _ (hmemget o k1), k2⟩
  have hX : ∀ b, ¬ XO Y h β b → ¬ XO Yc hc βc b := by
    intro b hb hb'
    rcases hb' with hb' | hb'
    · exact hb hb'.1
    · exact hb (.inr (hownc b hb'))
  have hLc : ∀ p ∈ L, ∀ b, β p.1 = some b → ¬ XO Yc hc βc b := by
    intro p hp b hb hb'
    rcases hb' with hb' | ⟨o, ho1, ho2⟩
    · exact hb'.2.2 ⟨p, hp, hb⟩
    · obtain ⟨k1, k2⟩ := hβc o b ho2
      rcases hLcase with hnil | ⟨hok, hni, _⟩
      · rw [hnil] at hp; cases hp
      · have hlp : isLive (h p.1) := by rw [← flat_live, hok p hp]; trivial
        have := hO.inj p.1 _ b hlp (hlive _ (hmemget o k1)) hb k2
        exact hni p hp (this ▸ hmemget o k1)
  have hYin : ∀ b, Y b → Yc b := by
    intro b hb
    refine ⟨.inl hb, fun hown => ?_, fun ⟨p, hp, hpb⟩ => ?_⟩
    · obtain ⟨o, ho1, ho2⟩ := hownc b hown
      obtain ⟨b', h1, h2, h3⟩ := hO.has o ho1
      rw [ho2] at h1; injection h1 with h1; subst h1; exact h3 hb
    · rcases hLcase with hnil | ⟨hok, hni, _⟩
      · rw [hnil] at hp; cases hp
      · obtain ⟨b', h1, h2, h3⟩ := hO.has p.1 (by rw [← flat_live, hok p hp]; trivial)
        rw [hpb] at h1; injection h1 with h1; subst h1; exact h3 hb
  have hYc_lt : ∀ b, Yc b → b < w.heap.size := by
    intro b hb
    rcases hb.1 with h1 | ⟨o, _, h2⟩
    · exact hY b h1
    · exact hO.lt o b h2
  have hF : ∀ x v, FRep w (XO Y h β) x v → FRep w (XO Yc hc βc) x v := fun x v hr => hr.mono (Nat.le_refl _) (fun b hb _ => ⟨rfl, hX b hb⟩)
  have hsub : ∀ o, o < ids.length → sub ids fr o = ids.getD o 0 := fun o ho => by simp [sub, ho]
  have hβun : ∀ o b, o < ids.length → β (sub ids fr o) = some b → βc o = some b := by
    intro o b ho hb
    rw [hsub o ho] at hb
    simp only [βc, ho, if_true, hb]
  have hOc : Objs hc βc Yc w := by
    refine ⟨fun o b ho hb => ?_, fun o ho => ?_, fun o o' b ho ho' hb hb' => ?_, fun o b hb => hO.lt _ b (hβc o b hb).2⟩
    · have hk := hc_live o ho
      obtain ⟨e1, e2⟩ := hHs_get o hk
      have hrep := hO.rep (ids.getD o 0) b (hlive _ (hmemget o hk)) (hβc o b hb).2
      rw [← e1] at hrep
      exact ORep.unmap (σ := sub ids fr) hF hβun e2 hrep
    · have hk := hc_live o ho
      obtain ⟨b, h1, h2, h3⟩ := hO.has _ (hlive _ (hmemget o hk))
      refine ⟨b, by simp only [βc, hk, if_true, h1], h2, fun hy => ?_⟩
      exact hy.2.1 ⟨o, ho, by simp only [βc, hk, if_true, h1]⟩
    · have h1 := hβc o b hb
      have h2 := hβc o' b hb'
      have h3 := hO.inj _ _ b (hlive _ (hmemget o h1.1)) (hlive _ (hmemget o' h2.1)) h1.2 h2.2
      have g1 := hget o h1.1
      have g2 := hget o' h2.1
      rw [h3] at g1
      exact nodup_get hnd g1 g2
  have hlc : LRep (TRep w (XO Yc hc βc) βc) args' vals := by
    have h1 : LRep (TRep w (XO Yc hc βc) β) (args.map (TV.lend L)) vals := by
      rcases hLcase with hnil | ⟨hok, _⟩
      · subst hnil
        exact hl.map fun c u _ hr => lendT_rep hO (fun p hp => by cases hp) hX (fun p hp => by cases hp) hr
      · exact hl.map fun c u _ hr => lendT_rep hO hok hX hLc hr
    have h2 := all2_rep hargs h1
    refine h2.unmap fun c u hcm hr => ?_
    exact TRep.unmap (σ := sub ids fr) (fun _ _ h => h) hβun (List.all_eq_true.1 halt c hcm) hr
  have hcall := hac w vals βc Yc (fun o b hb => by have := (hβc o b hb).1; omega) hYc_lt hOc hlc
  refine hcall.mono fun e w' hpost => ?_
  obtain ⟨v, βc', he, hgood, hO', hres, hdom, hsame, hnew⟩ := hpost
  -- back
  let hc' : Nat → AObj := fun o => Hs'.getD o .gone
  let upds := oldObjs (sub ids fr) ids Hs' ++ newObjs (sub ids fr) fr (Hs'.drop ids.length)
  let β' : Nat → Option Nat := fun o => if fr ≤ o ∧ o < fr + 32 then βc' (ids.length + (o - fr)) else β o
  refine ⟨v, β', he, ?_⟩
  have hβ'old : ∀ k, k < ids.length → β' (ids.getD k 0) = βc' k := by
    intro k hk
    have h1 : ¬ (fr ≤ ids.getD k 0 ∧ ids.getD k 0 < fr + 32) := by
      rintro ⟨g1, g2⟩
      rcases hlt_nd _ (hmemget k hk) (ids.getD k 0 - fr) with h | h <;> omega
    simp only [β', h1, if_false]
    rw [hsame k (by omega)]
    simp only [βc, hk, if_true]
  have hβ'new : ∀ j, j < 32 → β' (fr + j) = βc' (ids.length + j) := by
    intro j hj
    simp only [β', show fr ≤ fr + j ∧ fr + j < fr + 32 from ⟨by omega, by omega⟩, and_self, if_true, show fr + j - fr = j by omega]
  have hβmap : ∀ o b, βc' o = some b → β' (sub ids fr o) = some b := by
    intro o b hb
    have ho := hdom o b hb
    by_cases hk : o < ids.length
    · rw [hsub o hk, hβ'old o hk, hb]
    · have : sub ids fr o = fr + (o - ids.length) := by simp [sub, hk]
      rw [this, hβ'new _ (by omega), show ids.length + (o - ids.length) = o by omega, hb]
  -- what stands at a number
  have hval : ∀ o, (∃ k, k < ids.length ∧ o = ids.getD k 0 ∧ over upds h o = (hc' k).ren (sub ids fr)) ∨ (∃ j, o = fr + j ∧ ids.length + j < Hs'.length ∧ over upds h o = (hc' (ids.length + j)).ren (sub ids fr)) ∨
      (o ∉ ids ∧ (∀ j, o = fr + j → Hs'.length ≤ ids.length + j) ∧ over upds h o = h o) := by
    intro o
    simp only [over, upds, find2_append]
    cases h1 : find2 (oldObjs (sub ids fr) ids Hs') o with
    | some x =>
      obtain ⟨k, y, g1, g2, g3⟩ := find2_old hnd h1
      have hk := (List.getElem?_eq_some_iff.1 g1).1
      refine .inl ⟨k, hk, ?_, ?_⟩
      · have := hget k hk; rw [g1] at this; simpa using this
      · simp only [g3]
        have : hc' k = y := by simp [hc', List.getD, g2]
        rw [this]
    | none =>
      have hno := find2_old_none (by omega : ids.length ≤ Hs'.length) h1
      simp only
      cases h2 : find2 (newObjs (sub ids fr) fr (Hs'.drop ids.length)) o with
      | some x =>
        obtain ⟨j, y, g1, g2, g3⟩ := find2_new h2
        rw [List.getElem?_drop] at g2
        refine .inr (.inl ⟨j, g1, (List.getElem?_eq_some_iff.1 g2).1, ?_⟩)
        simp only [g3]
        have : hc' (ids.length + j) = y := by simp [hc', List.getD, g2]
        rw [this]
      | none =>
        refine .inr (.inr ⟨hno, fun j ej => ?_, rfl⟩)
        have := find2_new_none h2 ej
        rw [List.length_drop] at this; omega
  have hclive' : ∀ k, isLive (hc' k) → k < Hs'.length := by
    intro k hk
    by_cases h1 : k < Hs'.length
    · exact h1
    · have : hc' k = .gone := by simp [hc', List.getD, List.getElem?_eq_none (Nat.le_of_not_lt h1)]
      rw [this] at hk; exact hk.elim
  -- a live number is the callee's, or it was there
  have hwho : ∀ o, isLive (over upds h o) → (∃ k, isLive (hc' k) ∧ o = sub ids fr k ∧ over upds h o = (hc' k).ren (sub ids fr) ∧ k < Hs'.length ∧ β' o = βc' k) ∨ (o ∉ ids ∧ isLive (h o) ∧ over upds h o = h o ∧ β' o = β o) := by
    intro o ho
    rcases hval o with ⟨k, hk, e1, e2⟩ | ⟨j, e1, hj, e2⟩ | ⟨hni, hnj, e2⟩
    · rw [e2, ren_live] at ho
      exact .inl ⟨k, ho, by rw [hsub k hk]; exact e1, e2, hclive' k ho, by rw [e1, hβ'old k hk]⟩
    · rw [e2, ren_live] at ho
      refine .inl ⟨ids.length + j, ho, ?_, e2, hj, ?_⟩
      · have : ¬ (ids.length + j < ids.length) := by omega
        simp [sub, this, e1]
      · rw [e1, hβ'new j (by omega)]
    · rw [e2] at ho
      refine .inr ⟨hni, ho, e2, ?_⟩
      have h1 : ¬ (fr ≤ o ∧ o < fr + 32) := by
        rintro ⟨g1, g2⟩
        obtain ⟨b, hb, _⟩ := hO.has o ho
        have := hfr (o - fr) (by omega)
        rw [show fr + (o - fr) = o by omega, hb] at this; cases this
      simp only [β', h1, if_false]
  have hsubinj : ∀ a b, a < Hs'.length → b < Hs'.length → βc' a ≠ none → sub ids fr a = sub ids fr b → a = b := by
    intro a b ha hb _ hab
    by_cases h1 : a < ids.length
    · by_cases h2 : b < ids.length
      · rw [hsub a h1, hsub b h2] at hab
        have g1 := hget a h1; have g2 := hget b h2
        rw [hab] at g1
        exact nodup_get hnd g1 g2
      · rw [hsub a h1] at hab
        have : sub ids fr b = fr + (b - ids.length) := by simp [sub, h2]
        rw [this] at hab
        rcases hlt_nd _ (hmemget a h1) (b - ids.length) with h | h
        · exact absurd hab h
        · omega
    · have ea : sub ids fr a = fr + (a - ids.length) := by simp [sub, h1]
      by_cases h2 : b < ids.length
      · rw [hsub b h2, ea] at hab
        rcases hlt_nd _ (hmemget b h2) (a - ids.length) with h | h
        · exact absurd hab.symm h
        · omega
      · have eb : sub ids fr b = fr + (b - ids.length) := by simp [sub, h2]
        rw [ea, eb] at hab; omega
  have hback : ∀ b, b < w.heap.size → Own (over upds h) β' b → XO Y h β b := by
    rintro b hb ⟨o, ho1, ho2⟩
    rcases hwho o ho1 with ⟨k, g1, g2, g3, g4, g5⟩ | ⟨g1, g2, g3, g4⟩
    · rw [g5] at ho2
      by_cases hk : k < ids.length
      · rw [hsame k (by omega)] at ho2
        obtain ⟨_, k2⟩ := hβc k b ho2
        exact .inr ⟨_, hlive _ (hmemget k hk), k2⟩
      · rcases hnew k b (by omega) ho2 with h1 | h1
        · omega
        · exact .inr (hownc b h1)
    · rw [g4] at ho2; exact .inr ⟨o, g2, ho2⟩
  have hbmono : ∀ o b, β o = some b → β' o = some b := by
    intro o b hb
    have h1 : ¬ (fr ≤ o ∧ o < fr + 32) := by
      rintro ⟨g1, g2⟩
      have := hfr (o - fr) (by omega)
      rw [show fr + (o - fr) = o by omega, hb] at this; cases this
    simp only [β', h1, if_false, hb]
  have hblk : ∀ b, ¬ XO Y h β b → b < w.heap.size → w'.heap[b]? = w.heap[b]? := fun b hx hb => hgood.blk b hb (fun ho => hx (.inr (hownc b ho)))
  have hgo : Goes w w' (XO Y h β) (XO Y (over upds h) β') β β' := by
    refine ⟨hgood.size, fun b hx hb => ⟨hblk b hx hb, fun hx' => ?_⟩, hgood.shp, fun o b hb => ⟨hbmono o b hb, hO.lt o b hb⟩⟩
    rcases hx' with hy | hown
    · exact hx (.inl hy)
    · exact hx (hback b hb hown)
  -- frozen cells of the callee's are frozen here, too
  have hFback : L = [] → ∀ x v, FRep w' (XO Yc hc' βc') x v → FRep w' (XO Y (over upds h) β') x v := by
    intro hnil x v hr
    refine hr.mono (Nat.le_refl _) (fun b hb _ => ⟨rfl, fun hx' => hb ?_⟩)
    rcases hx' with hy | ⟨o, ho1, ho2⟩
    · exact .inl (hYin b hy)
    · rcases hwho o ho1 with ⟨k, g1, g2, g3, g4, g5⟩ | ⟨g1, g2, g3, g4⟩
      · rw [g5] at ho2; exact .inr ⟨k, g1, ho2⟩
      · rw [g4] at ho2
        refine .inl ⟨.inr ⟨o, g2, ho2⟩, ?_, ?_⟩
        · rintro ⟨k, k1, k2⟩
          obtain ⟨m1, m2⟩ := hβc k b k2
          have := hO.inj o _ b g2 (hlive _ (hmemget k m1)) ho2 m2
          exact g1 (this ▸ hmemget k m1)
        · rintro ⟨p, hp, _⟩; rw [hnil] at hp; cases hp
  have hnoHs : L ≠ [] → Hs' = [] := fun hne => (hLcase.resolve_left hne).2.2.2
  refine ⟨⟨⟨hgood.size, fun b hb hno => hgood.blk b hb (fun ho => hno (hownc b ho)), hgood.shp, hgood.os, hgood.tape, hgood.output⟩, ?_, hbmono, fun o b hb => ?_, fun o ho => ?_⟩, ?_⟩
  · refine ⟨fun o b ho hb => ?_, fun o ho => ?_, fun o o' b ho ho' hb hb' => ?_, fun o b hb => ?_⟩
    · rcases hwho o ho with ⟨k, g1, g2, g3, g4, g5⟩ | ⟨g1, g2, g3, g4⟩
      · have hnil : L = [] := by
          rcases hLcase with h | h
          · exact h
          · rw [h.2.2.2] at g4; simp at g4
        rw [g5] at hb
        show ORep w' (XO Y (over upds h) β') β' (over upds h o) b
        rw [g3]
        exact ORep.map (hFback hnil) hβmap (hO'.rep k b g1 hb)
      · rw [g4] at hb
        show ORep w' (XO Y (over upds h) β') β' (over upds h o) b
        rw [g3]
        refine (hO.rep o b g2 hb).goes hgo (hgood.blk b (hO.lt o b hb) ?_)
        rintro ⟨k, k1, k2⟩
        obtain ⟨m1, m2⟩ := hβc k b k2
        have := hO.inj o _ b g2 (hlive _ (hmemget k m1)) hb m2
        exact g1 (this ▸ hmemget k m1)
    · rcases hwho o ho with ⟨k, g1, g2, g3, g4, g5⟩ | ⟨g1, g2, g3, g4⟩
      · obtain ⟨b, h1, h2, h3⟩ := hO'.has k g1
        exact ⟨b, by rw [g5]; exact h1, h2, fun hy => h3 (hYin b hy)⟩
      · obtain ⟨b, h1, h2, h3⟩ := hO.has o g2
        exact ⟨b, by rw [g4]; exact h1, Nat.lt_of_lt_of_le h2 hgood.size, h3⟩
    · rcases hwho o ho with ⟨k, g1, g2, g3, g4, g5⟩ | ⟨g1, g2, g3, g4⟩
      · rcases hwho o' ho' with ⟨k', g1', g2', g3', g4', g5'⟩ | ⟨g1', g2', g3', g4'⟩
        · rw [g5] at hb; rw [g5'] at hb'
          rw [g2, g2', hO'.inj k k' b g1 g1' hb hb']
        · exfalso
          rw [g5] at hb; rw [g4'] at hb'
          have hnil : L = [] := by
            rcases hLcase with h | h
            · exact h
            · rw [h.2.2.2] at g4; simp at g4
          obtain ⟨b2, h1, _, h3⟩ := hO'.has k g1
          rw [hb] at h1; injection h1 with h1; subst h1
          apply h3
          refine ⟨.inr ⟨o', g2', hb'⟩, ?_, ?_⟩
          · rintro ⟨k2, k1', k2'⟩
            obtain ⟨m1, m2⟩ := hβc k2 b k2'
            have := hO.inj o' _ b g2' (hlive _ (hmemget k2 m1)) hb' m2
            exact g1' (this ▸ hmemget k2 m1)
          · rintro ⟨p, hp, _⟩; rw [hnil] at hp; cases hp
      · rcases hwho o' ho' with ⟨k', g1', g2', g3', g4', g5'⟩ | ⟨g1', g2', g3', g4'⟩
        · exfalso
          rw [g5'] at hb'; rw [g4] at hb
          have hnil : L = [] := by
            rcases hLcase with h | h
            · exact h
            · rw [h.2.2.2] at g4'; simp at g4'
          obtain ⟨b2, h1, _, h3⟩ := hO'.has k' g1'
          rw [hb'] at h1; injection h1 with h1; subst h1
          apply h3
          refine ⟨.inr ⟨o, g2, hb⟩, ?_, ?_⟩
          · rintro ⟨k2, k1', k2'⟩
            obtain ⟨m1, m2⟩ := hβc k2 b k2'
            have := hO.inj o _ b g2 (hlive _ (hmemget k2 m1)) hb m2
            exact g1 (this ▸ hmemget k2 m1)
          · rintro ⟨p, hp, _⟩; rw [hnil] at hp; cases hp
        · rw [g4] at hb; rw [g4'] at hb'
          exact hO.inj o o' b g2 g2' hb hb'
    · simp only [β'] at hb
      split at hb
      · exact hO'.lt _ b hb
      · exact Nat.lt_of_lt_of_le (hO.lt o b hb) hgood.size
  · simp only [β'] at hb
    split at hb
    · rename_i hin
      rcases hnew _ b (by omega) hb with h1 | h1
      · exact .inr ⟨hin, .inl h1⟩
      · exact .inr ⟨hin, .inr (hownc b h1)⟩
    · exact .inl hb
  · rcases hwho o ho with ⟨k, g1, g2, g3, g4, g5⟩ | ⟨g1, g2, g3, g4⟩
    · by_cases hk : k < ids.length
      · rw [g2, hsub k hk]; exact .inl (hlive _ (hmemget k hk))
      · have : sub ids fr k = fr + (k - ids.length) := by simp [sub, hk]
        rw [g2, this]
        exact .inr ⟨by omega, by omega⟩
    · exact .inl g2
  · rcases hLcase with hnil | ⟨_, _, hsc, hHs'⟩
    · exact TRep.map (hFback hnil) hβmap hres
    · refine scalar_trep hsc (fun o => ?_) hres
      cases hb : βc' o with
      | none => rfl
      | some b => have := hdom o b hb; rw [hHs'] at this; simp at this
end
end Go.AM
