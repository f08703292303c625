/- Soundness: operations that make, read and write objects. No conditions. -/
import Derived.Test.YtclicclinfnmlaaAmSound4
import Derived.Laws.OwnMore
namespace Go.AM

theorem not_live_of_none {h : Nat → AObj} {β : Nat → Option Nat} {Y : Nat → Prop} {w : World} (hO : Objs h β Y w) {o : Nat} (hn : β o = none) : ¬ isLive (h o) := fun hl => by
  obtain ⟨b, hb, _⟩ := hO.has o hl
  rw [hn] at hb; cases hb

def upd {α : Type} (f : Nat → α) (i : Nat) (x : α) (j : Nat) : α := if j = i then x else f j

section
variable {P : Program} {h : Nat → AObj} {β : Nat → Option Nat} {Y : Nat → Prop} {w : World}

abbrev XO (Y : Nat → Prop) (h : Nat → AObj) (β : Nat → Option Nat) : Nat → Prop := fun b => Y b ∨ Own h β b

theorem shape_push (w : World) (o : Obj) (b : Nat) (hb : b < w.heap.size) : World.shape? { w with heap := w.heap.push o } b = w.shape? b := by
  simp [World.shape?, Array.getElem?_push, show b ≠ w.heap.size by omega]

/-- A new block. -/
theorem moves_new (hO : Objs h β Y w) (hY : ∀ b, Y b → b < w.heap.size) {fr : Nat} (hfr : β fr = none) (n : Nat) (es : List (List WV)) (us : List Value) (t : TypeId) (dr : Nat)
    (h1 : es.length * n ≤ us.length) (h2 : ∀ e ∈ es, e.length = n)
    (h3 : ∀ (i j : Nat) (e : List WV) (c : WV), es[i]? = some e → e[j]? = some c → ∃ u, us[i * n + j]? = some u ∧ WRep w (XO Y h β) β c u) :
    Moves h (upd h fr (.arr n es)) β (upd β fr (some w.heap.size)) Y w { w with heap := w.heap.push (.cells us.toArray t (0, 0)), drawn := w.drawn + dr } (fun o => o = fr) := by
  have hnl := not_live_of_none hO hfr
  have hβ : ∀ o b, β o = some b → upd β fr (some w.heap.size) o = some b := by
    intro o b hb
    unfold upd
    split
    · rename_i e; subst e; rw [hfr] at hb; cases hb
    · exact hb
  have hβ' : ∀ o b, upd β fr (some w.heap.size) o = some b → (β o = some b ∧ o ≠ fr) ∨ (o = fr ∧ b = w.heap.size) := by
    intro o b hb
    unfold upd at hb
    split at hb
    · rename_i e; exact .inr ⟨e, by simpa using hb.symm⟩
    · rename_i e; exact .inl ⟨hb, e⟩
  have hlive : ∀ o, isLive (upd h fr (.arr n es) o) → isLive (h o) ∨ o = fr := by
    intro o hl
    unfold upd at hl
    split at hl
    · rename_i e; exact .inr e
    · exact .inl hl
  have hg : Goes w { w with heap := w.heap.push (.cells us.toArray t (0, 0)), drawn := w.drawn + dr } (XO Y h β) (XO Y (upd h fr (.arr n es)) (upd β fr (some w.heap.size))) β (upd β fr (some w.heap.size)) := by
    refine ⟨by simp, fun b hx hb => ⟨by simp [Array.getElem?_push, show b ≠ w.heap.size by omega], fun hx' => ?_⟩, fun b hb => by simp [World.shape?, Array.getElem?_push, show b ≠ w.heap.size by omega], fun o b hb => ⟨hβ o b hb, hO.lt o b hb⟩⟩
    rcases hx' with hy | ⟨o, hl, ho⟩
    · exact hx (.inl hy)
    · rcases hβ' o b ho with ⟨ho, hne⟩ | ⟨_, e⟩
      · exact hx (.inr ⟨o, (hlive o hl).resolve_right hne, ho⟩)
      · omega
  refine ⟨⟨by simp, fun b hb _ => by simp [Array.getElem?_push, show b ≠ w.heap.size by omega], fun b hb => by simp [World.shape?, Array.getElem?_push, show b ≠ w.heap.size by omega], rfl, rfl, rfl⟩, ?_, hβ, ?_, hlive⟩
  · refine ⟨fun o b hl hb => ?_, fun o hl => ?_, fun o o' b hl hl' hb hb' => ?_, fun o b hb => ?_⟩
    · rcases hβ' o b hb with ⟨ho, hne⟩ | ⟨e, eb⟩
      · have hlo := (hlive o hl).resolve_right hne
        rw [show upd h fr (.arr n es) o = h o by simp [upd, hne]]
        exact (hO.rep o b hlo ho).goes hg (by simp [Array.getElem?_push, show b ≠ w.heap.size by have := hO.lt o b ho; omega])
      · subst e; subst eb
        rw [show upd h o (.arr n es) o = .arr n es by simp [upd]]
        refine ⟨us, t, by simp, h1, h2, fun i j e c he hc => ?_⟩
        obtain ⟨u, hu, hr⟩ := h3 i j e c he hc
        exact ⟨u, hu, hr.goes hg⟩
    · rcases hlive o hl with hlo | e
      · obtain ⟨b, hb, hlt, hny⟩ := hO.has o hlo
        exact ⟨b, hβ o b hb, by simp; omega, hny⟩
      · subst e
        exact ⟨w.heap.size, by simp [upd], by simp, fun hy => by have := hY _ hy; omega⟩
    · rcases hβ' o b hb with ⟨ho, hne⟩ | ⟨e, eb⟩
      · rcases hβ' o' b hb' with ⟨ho', hne'⟩ | ⟨e', eb'⟩
        · exact hO.inj o o' b ((hlive o hl).resolve_right hne) ((hlive o' hl').resolve_right hne') ho ho'
        · have := hO.lt o b ho; omega
      · rcases hβ' o' b hb' with ⟨ho', hne'⟩ | ⟨e', eb'⟩
        · have := hO.lt o' b ho'; omega
        · rw [e, e']
    · rcases hβ' o b hb with ⟨ho, _⟩ | ⟨_, eb⟩
      · have := hO.lt o b ho; simp; omega
      · simp; omega
  · intro o b hb
    rcases hβ' o b hb with ⟨ho, _⟩ | ⟨e, eb⟩
    · exact .inl ho
    · exact .inr ⟨e, .inl (by omega)⟩

/-- One block's cells change; the object that lies there becomes another one. -/
theorem moves_set (hO : Objs h β Y w) {o b : Nat} (hl : isLive (h o)) (hb : β o = some b) (us : List Value) (old : List Value) (t : TypeId) (hold : w.heap[b]? = some (.cells old.toArray t (0, 0))) (hlen : us.length = old.length) (n : Nat) (es : List (List WV))
    (h1 : es.length * n ≤ us.length) (h2 : ∀ e ∈ es, e.length = n)
    (h3 : ∀ (i j : Nat) (e : List WV) (c : WV), es[i]? = some e → e[j]? = some c → ∃ u, us[i * n + j]? = some u ∧ WRep w (XO Y h β) β c u) :
    Moves h (upd h o (.arr n es)) β β Y w (w.setRow b us.toArray) (fun _ => False) := by
  have hheap : ∀ k, k ≠ b → (w.setRow b us.toArray).heap[k]? = w.heap[k]? := fun k hk => setRow_other w b k _ hk
  have hsame : (w.setRow b us.toArray).heap[b]? = some (.cells us.toArray t (0, 0)) := setRow_heap w b old.toArray _ t _ hold
  have hown : Own h β b := ⟨o, hl, hb⟩
  have hlive : ∀ o', isLive (upd h o (.arr n es) o') → isLive (h o') := by
    intro o' hl'
    unfold upd at hl'
    split at hl'
    · rename_i e; subst e; exact hl
    · exact hl'
  have hlive' : ∀ o', isLive (h o') → isLive (upd h o (.arr n es) o') := by
    intro o' hl'
    unfold upd
    split
    · trivial
    · exact hl'
  have hsize : (w.setRow b us.toArray).heap.size = w.heap.size := by simp
  have hshape : ∀ k, (w.setRow b us.toArray).shape? k = w.shape? k := by
    intro k
    by_cases hk : k = b
    · subst hk
      simp [World.shape?, hsame, hold, hlen]
    · simp [World.shape?, hheap k hk]
  have hg : Goes w (w.setRow b us.toArray) (XO Y h β) (XO Y (upd h o (.arr n es)) β) β β := by
    refine ⟨by omega, fun k hx hk => ⟨hheap k (fun e => hx (.inr (e ▸ hown))), fun hx' => ?_⟩, fun k _ => hshape k, fun o b hb => ⟨hb, hO.lt o b hb⟩⟩
    rcases hx' with hy | ⟨o', hl', ho'⟩
    · exact hx (.inl hy)
    · exact hx (.inr ⟨o', hlive o' hl', ho'⟩)
  refine ⟨⟨by omega, fun k hk hno => hheap k (fun e => hno (e ▸ hown)), fun k _ => hshape k, rfl, rfl, rfl⟩, ?_, fun _ _ h => h, fun _ _ h => .inl h, fun o' hl' => .inl (hlive o' hl')⟩
  refine ⟨fun o' b' hl' hb' => ?_, fun o' hl' => ?_, fun o1 o2 b' hl1 hl2 hb1 hb2 => hO.inj o1 o2 b' (hlive o1 hl1) (hlive o2 hl2) hb1 hb2, fun o' b' hb' => by rw [hsize]; exact hO.lt o' b' hb'⟩
  · by_cases he : o' = o
    · subst he
      have : b' = b := by rw [hb] at hb'; simpa using hb'.symm
      subst this
      rw [show upd h o' (.arr n es) o' = .arr n es by simp [upd]]
      refine ⟨us, t, hsame, h1, h2, fun i j e c he hc => ?_⟩
      obtain ⟨u, hu, hr⟩ := h3 i j e c he hc
      exact ⟨u, hu, hr.goes hg⟩
    · rw [show upd h o (.arr n es) o' = h o' by simp [upd, he]]
      have hlo := hlive o' hl'
      have hne : b' ≠ b := fun e => he (hO.inj o' o b' hlo hl hb' (e ▸ hb))
      exact (hO.rep o' b' hlo hb').goes hg (hheap b' hne)
  · obtain ⟨b', hb', hlt, hny⟩ := hO.has o' (hlive o' hl')
    exact ⟨b', hb', by rw [hsize]; exact hlt, hny⟩

/-- An object goes on under another number. -/
theorem moves_rename (hO : Objs h β Y w) {o fr b : Nat} (hl : isLive (h o)) (hb : β o = some b) (hfr : β fr = none) :
    Moves h (upd (upd h o .gone) fr (h o)) β (upd β fr (some b)) Y w w (fun k => k = fr) := by
  have hne : o ≠ fr := fun e => by rw [e, hfr] at hb; cases hb
  have hnl := not_live_of_none hO hfr
  have hβ : ∀ o' b', β o' = some b' → upd β fr (some b) o' = some b' := by
    intro o' b' hb'
    unfold upd
    split
    · rename_i e; subst e; rw [hfr] at hb'; cases hb'
    · exact hb'
  have hβ' : ∀ o' b', upd β fr (some b) o' = some b' → (β o' = some b' ∧ o' ≠ fr) ∨ (o' = fr ∧ b' = b) := by
    intro o' b' hb'
    unfold upd at hb'
    split at hb'
    · rename_i e; exact .inr ⟨e, by simpa using hb'.symm⟩
    · rename_i e; exact .inl ⟨hb', e⟩
  have hval : ∀ k, isLive (upd (upd h o .gone) fr (h o) k) → (k = fr ∨ (k ≠ fr ∧ k ≠ o ∧ isLive (h k) ∧ upd (upd h o .gone) fr (h o) k = h k)) := by
    intro k hk
    by_cases e1 : k = fr
    · exact .inl e1
    · by_cases e2 : k = o
      · exfalso; subst e2; simp [upd, e1, isLive] at hk
      · exact .inr ⟨e1, e2, by simpa [upd, e1, e2] using hk, by simp [upd, e1, e2]⟩
  have hg : Goes w w (XO Y h β) (XO Y (upd (upd h o .gone) fr (h o)) (upd β fr (some b))) β (upd β fr (some b)) := by
    refine ⟨Nat.le_refl _, fun k hx hk => ⟨rfl, fun hx' => ?_⟩, fun _ _ => rfl, fun o b hb => ⟨hβ o b hb, hO.lt o b hb⟩⟩
    rcases hx' with hy | ⟨o', hl', ho'⟩
    · exact hx (.inl hy)
    · rcases hβ' o' k ho' with ⟨ho', hne'⟩ | ⟨e1, e2⟩
      · rcases hval o' hl' with e | ⟨_, _, hlo, _⟩
        · exact absurd e hne'
        · exact hx (.inr ⟨o', hlo, ho'⟩)
      · subst e2; exact hx (.inr ⟨o, hl, hb⟩)
  refine ⟨Good.refl _ _, ?_, hβ, ?_, ?_⟩
  · refine ⟨fun o' b' hl' hb' => ?_, fun o' hl' => ?_, fun o1 o2 b' hl1 hl2 hb1 hb2 => ?_, fun o' b' hb' => ?_⟩
    · rcases hβ' o' b' hb' with ⟨ho', hne'⟩ | ⟨e1, e2⟩
      · rcases hval o' hl' with e | ⟨_, _, hlo, hv⟩
        · exact absurd e hne'
        · rw [hv]; exact (hO.rep o' b' hlo ho').goes hg rfl
      · subst e1; subst e2
        rw [show upd (upd h o .gone) o' (h o) o' = h o by simp [upd]]
        exact (hO.rep o b' hl hb).goes hg rfl
    · rcases hval o' hl' with e | ⟨_, _, hlo, _⟩
      · subst e
        obtain ⟨b', hb', hlt, hny⟩ := hO.has o hl
        rw [hb] at hb'
        injection hb' with hb'
        subst hb'
        exact ⟨b, by simp [upd], hlt, hny⟩
      · obtain ⟨b', hb', hlt, hny⟩ := hO.has o' hlo
        exact ⟨b', hβ o' b' hb', hlt, hny⟩
    · rcases hβ' o1 b' hb1 with ⟨h1, n1⟩ | ⟨e1, f1⟩
      · rcases hβ' o2 b' hb2 with ⟨h2, n2⟩ | ⟨e2, f2⟩
        · exact hO.inj o1 o2 b' ((hval o1 hl1).resolve_left n1).2.2.1 ((hval o2 hl2).resolve_left n2).2.2.1 h1 h2
        · subst f2
          have v1 := (hval o1 hl1).resolve_left n1
          exact absurd (hO.inj o1 o b' v1.2.2.1 hl h1 hb) v1.2.1
      · rcases hβ' o2 b' hb2 with ⟨h2, n2⟩ | ⟨e2, f2⟩
        · subst f1
          have v2 := (hval o2 hl2).resolve_left n2
          exact absurd (hO.inj o2 o b' v2.2.2.1 hl h2 hb) v2.2.1
        · rw [e1, e2]
    · rcases hβ' o' b' hb' with ⟨ho', _⟩ | ⟨_, e2⟩
      · exact hO.lt o' b' ho'
      · subst e2; exact hO.lt o b' hb
  · intro o' b' hb'
    rcases hβ' o' b' hb' with ⟨ho', _⟩ | ⟨e1, e2⟩
    · exact .inl ho'
    · subst e2; exact .inr ⟨e1, .inr ⟨o, hl, hb⟩⟩
  · intro k hk
    rcases hval k hk with e | ⟨_, _, hlo, _⟩
    · exact .inr e
    · exact .inl hlo

/-- An object is given up. -/
theorem moves_drop (hO : Objs h β Y w) (o : Nat) : Moves h (upd h o .gone) β β Y w w (fun _ => False) := by
  have hlive : ∀ k, isLive (upd h o .gone k) → isLive (h k) ∧ k ≠ o := by
    intro k hk
    unfold upd at hk
    split at hk
    · exact hk.elim
    · rename_i e; exact ⟨hk, e⟩
  have hg : Goes w w (XO Y h β) (XO Y (upd h o .gone) β) β β := by
    refine ⟨Nat.le_refl _, fun k hx hk => ⟨rfl, fun hx' => ?_⟩, fun _ _ => rfl, fun o b hb => ⟨hb, hO.lt o b hb⟩⟩
    rcases hx' with hy | ⟨o', hl', ho'⟩
    · exact hx (.inl hy)
    · exact hx (.inr ⟨o', (hlive o' hl').1, ho'⟩)
  refine ⟨Good.refl _ _, ⟨fun o' b' hl' hb' => ?_, fun o' hl' => hO.has o' (hlive o' hl').1, fun o1 o2 b' hl1 hl2 hb1 hb2 => hO.inj o1 o2 b' (hlive o1 hl1).1 (hlive o2 hl2).1 hb1 hb2, hO.lt⟩, fun _ _ h => h, fun _ _ h => .inl h, fun k hk => .inl (hlive k hk).1⟩
  rw [show upd h o .gone o' = h o' by simp [upd, (hlive o' hl').2]]
  exact (hO.rep o' b' (hlive o' hl').1 hb').goes hg rfl
end
end Go.AM
