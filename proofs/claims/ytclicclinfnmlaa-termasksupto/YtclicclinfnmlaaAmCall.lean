/- Soundness of a call by its contract. No conditions. -/
import Derived.Test.YtclicclinfnmlaaAmSound8
namespace Go.AM

/-! ### Values under other numbers -/
section
variable {w : World} {X1 X2 : Nat → Prop} {β1 β2 : Nat → Option Nat} {σ : Nat → Nat}

theorem ARep.map (hF : ∀ x v, FRep w X1 x v → FRep w X2 x v) (hβ : ∀ o b, β1 o = some b → β2 (σ o) = some b) {x : AV} {v : Value} (h : ARep w X1 β1 x v) : ARep w X2 β2 (x.ren σ) v := by
  cases h with
  | fz x v h => exact .fz x v (hF x v h)
  | ep o n i j b h => exact .ep _ n i j b (hβ _ _ h)
  | osl o n off len b q cap sz t h1 h2 h3 h4 h5 => exact .osl _ n off len b q cap sz t (hβ _ _ h1) h2 h3 h4 h5
  | mp o b h => exact .mp _ b (hβ _ _ h)
  | any v h => exact .any v h
theorem WRep.map (hF : ∀ x v, FRep w X1 x v → FRep w X2 x v) (hβ : ∀ o b, β1 o = some b → β2 (σ o) = some b) {x : WV} {v : Value} (h : WRep w X1 β1 x v) : WRep w X2 β2 (x.ren σ) v := by
  cases h with
  | a x v h => exact .a _ v (h.map hF hβ)
  | fn f first cap us vs h1 h2 => exact .fn f _ _ us vs (h1.map fun c u _ h => h.map fun c u _ h => h.map hF hβ) (h2.map fun c u _ h => h.map fun c u _ h => h.map hF hβ)
theorem TRep.map (hF : ∀ x v, FRep w X1 x v → FRep w X2 x v) (hβ : ∀ o b, β1 o = some b → β2 (σ o) = some b) {x : TV} {v : Value} (h : TRep w X1 β1 x v) : TRep w X2 β2 (x.ren σ) v := by
  cases x with
  | any => trivial
  | c x => exact WRep.map hF hβ h
  | agg cs => obtain ⟨us, h1, h2⟩ := h; exact ⟨us, h1, h2.map fun c u _ h => h.map hF hβ⟩
  | tup vs => obtain ⟨us, h1, h2⟩ := h; exact ⟨us, h1, h2.map fun c u _ h => h.map fun c u _ h => h.map hF hβ⟩
theorem ORep.map (hF : ∀ x v, FRep w X1 x v → FRep w X2 x v) (hβ : ∀ o b, β1 o = some b → β2 (σ o) = some b) {x : AObj} {b : Nat} (h : ORep w X1 β1 x b) : ORep w X2 β2 (x.ren σ) b := by
  cases x with
  | gone => trivial
  | arz n fs =>
    obtain ⟨us, t, h1, h2, h3, h4⟩ := h
    refine ⟨us, t, h1, h2, h3, fun i j e c he hc => ?_⟩
    obtain ⟨u, hu, hr⟩ := h4 i j e c he hc
    rw [List.getElem?_map] at he
    obtain ⟨e', he', rfl⟩ := Option.map_eq_some_iff.1 he
    rw [fzs, List.getElem?_map] at hc
    obtain ⟨c', hc', rfl⟩ := Option.map_eq_some_iff.1 hc
    exact ⟨u, hu, hr.map (σ := σ) hF hβ⟩
  | arr n es =>
    obtain ⟨us, t, h1, h2, h3, h4⟩ := h
    refine ⟨us, t, h1, by simpa using h2, fun e he => ?_, fun i j e c he hc => ?_⟩
    · obtain ⟨e', he', rfl⟩ := List.mem_map.1 he
      simp [h3 e' he']
    · rw [List.getElem?_map] at he
      obtain ⟨e', he', rfl⟩ := Option.map_eq_some_iff.1 he
      rw [List.getElem?_map] at hc
      obtain ⟨c', hc', rfl⟩ := Option.map_eq_some_iff.1 hc
      obtain ⟨u, hu, hr⟩ := h4 i j e' c' he' hc'
      exact ⟨u, hu, hr.map hF hβ⟩
  | mapo es =>
    obtain ⟨ms, ck, h1, h2, h3, h4, h5⟩ := h
    refine ⟨ms, ck, h1, by simpa using h2, fun i e m he hm => ?_, h4, h5⟩
    rw [List.getElem?_map] at he
    obtain ⟨e', he', rfl⟩ := Option.map_eq_some_iff.1 he
    obtain ⟨x, y⟩ := h3 i e' m he' hm
    exact ⟨x.imp fun _ _ _ h => hF _ _ h, y.map fun c u _ h => h.map hF hβ⟩

theorem ARep.unmap {m : Nat} (hF : ∀ x v, FRep w X2 x v → FRep w X1 x v) (hβ : ∀ o b, o < m → β2 (σ o) = some b → β1 o = some b) {x : AV} {v : Value} (hlt : x.lt m = true) (h : ARep w X2 β2 (x.ren σ) v) : ARep w X1 β1 x v := by
  cases x with
  | fz x => cases h with | fz _ _ h => exact .fz x v (hF x v h)
  | ep o n i j => cases h with | ep _ _ _ _ b h => exact .ep o n i j b (hβ _ _ (by simpa [AV.lt] using hlt) h)
  | osl o n off len => cases h with | osl _ _ _ _ b q cap sz t h1 h2 h3 h4 h5 => exact .osl o n off len b q cap sz t (hβ _ _ (by simpa [AV.lt] using hlt) h1) h2 h3 h4 h5
  | mp o => cases h with | mp _ b h => exact .mp o b (hβ _ _ (by simpa [AV.lt] using hlt) h)
  | any => cases h with | any _ h => exact .any v h
theorem WRep.unmap {m : Nat} (hF : ∀ x v, FRep w X2 x v → FRep w X1 x v) (hβ : ∀ o b, o < m → β2 (σ o) = some b → β1 o = some b) {x : WV} {v : Value} (hlt : x.lt m = true) (h : WRep w X2 β2 (x.ren σ) v) : WRep w X1 β1 x v := by
  cases x with
  | a x => cases h with | a _ _ h => exact .a x v (ARep.unmap hF hβ hlt h)
  | fn f first cap =>
    simp only [WV.lt, Bool.and_eq_true, List.all_eq_true] at hlt
    cases h with
    | fn _ _ _ us vs h1 h2 => exact .fn f first cap us vs (h1.unmap fun c u hc h => h.unmap fun d z hd h => ARep.unmap hF hβ (hlt.1 c hc d hd) h) (h2.unmap fun c u hc h => h.unmap fun d z hd h => ARep.unmap hF hβ (hlt.2 c hc d hd) h)
theorem TRep.unmap {m : Nat} (hF : ∀ x v, FRep w X2 x v → FRep w X1 x v) (hβ : ∀ o b, o < m → β2 (σ o) = some b → β1 o = some b) {x : TV} {v : Value} (hlt : x.lt m = true) (h : TRep w X2 β2 (x.ren σ) v) : TRep w X1 β1 x v := by
  cases x with
  | any => trivial
  | c x => exact WRep.unmap hF hβ hlt h
  | agg cs =>
    simp only [TV.lt, List.all_eq_true] at hlt
    obtain ⟨us, h1, h2⟩ := h; exact ⟨us, h1, h2.unmap fun c u hc h => WRep.unmap hF hβ (hlt c hc) h⟩
  | tup vs =>
    simp only [TV.lt, List.all_eq_true] at hlt
    obtain ⟨us, h1, h2⟩ := h; exact ⟨us, h1, h2.unmap fun c u hc h => h.unmap fun d z hd h => WRep.unmap hF hβ (hlt c hc d hd) h⟩
theorem ORep.unmap {m : Nat} (hF : ∀ x v, FRep w X2 x v → FRep w X1 x v) (hβ : ∀ o b, o < m → β2 (σ o) = some b → β1 o = some b) {x : AObj} {b : Nat} (hlt : x.lt m = true) (h : ORep w X2 β2 (x.ren σ) b) : ORep w X1 β1 x b := by
  cases x with
  | gone => trivial
  | arz n fs =>
    obtain ⟨us, t, h1, h2, h3, h4⟩ := h
    refine ⟨us, t, h1, h2, h3, fun i j e c he hc => ?_⟩
    obtain ⟨u, hu, hr⟩ := h4 i j e c he hc
    rw [List.getElem?_map] at he
    obtain ⟨e', he', rfl⟩ := Option.map_eq_some_iff.1 he
    rw [fzs, List.getElem?_map] at hc
    obtain ⟨c', hc', rfl⟩ := Option.map_eq_some_iff.1 hc
    exact ⟨u, hu, WRep.unmap (σ := σ) (m := m) (x := cell c') hF hβ rfl hr⟩
  | arr n es =>
    simp only [AObj.lt, List.all_eq_true] at hlt
    obtain ⟨us, t, h1, h2, h3, h4⟩ := h
    refine ⟨us, t, h1, by simpa using h2, fun e he => ?_, fun i j e c he hc => ?_⟩
    · have := h3 _ (List.mem_map.2 ⟨e, he, rfl⟩)
      simpa using this
    · obtain ⟨u, hu, hr⟩ := h4 i j _ _ (by rw [List.getElem?_map, he]; rfl) (by rw [List.getElem?_map, hc]; rfl)
      exact ⟨u, hu, WRep.unmap hF hβ (hlt e (List.mem_of_getElem? he) c (List.mem_of_getElem? hc)) hr⟩
  | mapo es =>
    simp only [AObj.lt, List.all_eq_true] at hlt
    obtain ⟨ms, ck, h1, h2, h3, h4, h5⟩ := h
    refine ⟨ms, ck, h1, by simpa using h2, fun i e m he hm => ?_, h4, h5⟩
    obtain ⟨x, y⟩ := h3 i _ m (by rw [List.getElem?_map, he]; rfl) hm
    exact ⟨x.imp fun _ _ _ h => hF _ _ h, y.unmap fun c u hc h => WRep.unmap hF hβ (hlt e (List.mem_of_getElem? he) c hc) h⟩

/-! ### What says less -/
theorem FRep.le {X : Nat → Prop} {x y : FV} (h : FV.Le x y) : ∀ {v : Value}, FRep w X x v → FRep w X y v := by
  induction h with
  | refl x => exact fun h => h
  | nils n => exact fun h => by cases h; exact .slnil n
  | nn b n es =>
    intro v h
    cases h with
    | slnil => exact .slnil n
    | sl0 _ _ a => exact .sl0 _ n a
    | sl _ _ _ b off cap len u h1 h2 h3 h4 h5 h6 h7 => exact .sl false n es b off cap len u h1 h2 h3 h4 h5 h6 h7
  | z0 nn n =>
    intro v h
    cases h with
    | z0 _ a => exact .sl0 nn n a
    | z0n => exact .slnil n
  | rows b n es es' hl he hf ih =>
    intro v h
    have back : ∀ {i : Nat} {e' : List FV}, es'[i]? = some e' → ∃ e, es[i]? = some e ∧ e.length = e'.length := by
      intro i e' he'
      have hi : i < es.length := by have := (List.getElem?_eq_some_iff.1 he').1; omega
      exact ⟨es[i], List.getElem?_eq_getElem hi, he i _ _ (List.getElem?_eq_getElem hi) he'⟩
    cases h with
    | slnil =>
      have : es' = [] := List.eq_nil_of_length_eq_zero (by simpa using hl.symm)
      subst this
      exact .slnil n
    | sl0 _ _ a =>
      have : es' = [] := List.eq_nil_of_length_eq_zero (by simpa using hl.symm)
      subst this
      exact .sl0 _ n a
    | sl _ _ _ b off cap len u h1 h2 h3 h4 h5 h6 h7 =>
      refine .sl _ n es' b off cap len u (by omega) (by omega) h3 h4 (fun i e' he' => ?_) (fun i j e' f' he' hf' => ?_) (fun i j e' f' he' hf' => ?_)
      · obtain ⟨e, he1, he2⟩ := back he'
        rw [← he2]; exact h5 i e he1
      · obtain ⟨e, he1, he2⟩ := back he'
        have hj : j < e.length := by rw [he2]; exact (List.getElem?_eq_some_iff.1 hf').1
        exact h6 i j e _ he1 (List.getElem?_eq_getElem hj)
      · obtain ⟨e, he1, he2⟩ := back he'
        have hj : j < e.length := by rw [he2]; exact (List.getElem?_eq_some_iff.1 hf').1
        exact ih i j e e' _ f' he1 he' (List.getElem?_eq_getElem hj) hf' (h7 i j e _ he1 (List.getElem?_eq_getElem hj))
  | trans x y z _ _ ih1 ih2 => exact fun h => ih2 (ih1 h)

theorem ARep.le {X : Nat → Prop} {β : Nat → Option Nat} {x y : AV} (h : AV.Le x y) {v : Value} (hr : ARep w X β x v) : ARep w X β y v := by
  cases h with
  | refl => exact hr
  | fz x y h => cases hr with | fz _ _ hr => exact .fz y v (hr.le h)
  | any => exact .any v (WRep.oneCell (.a _ _ hr))
theorem WRep.le {X : Nat → Prop} {β : Nat → Option Nat} {x y : WV} (h : WV.Le x y) {v : Value} (hr : WRep w X β x v) : WRep w X β y v := by
  cases h with
  | refl => exact hr
  | a x y h => cases hr with | a _ _ hr => exact .a y v (hr.le h)
theorem TRep.le {X : Nat → Prop} {β : Nat → Option Nat} {x y : TV} (h : TV.Le x y) {v : Value} (hr : TRep w X β x v) : TRep w X β y v := by
  cases h with
  | refl => exact hr
  | any => trivial
  | c x y h => exact WRep.le h hr
  | agg xs ys hl h =>
    obtain ⟨us, h1, h2⟩ := hr
    refine ⟨us, h1, by rw [← hl]; exact h2.1, fun j c u hc hu => ?_⟩
    have hj : j < xs.length := by rw [hl]; exact (List.getElem?_eq_some_iff.1 hc).1
    exact WRep.le (h j _ c (List.getElem?_eq_getElem hj) hc) (h2.2 j _ u (List.getElem?_eq_getElem hj) hu)
end
end Go.AM
