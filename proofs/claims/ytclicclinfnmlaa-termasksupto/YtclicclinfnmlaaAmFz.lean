/- Soundness of the operations where arrays of frozen cells are kept as such, and of giving slices away. No conditions. -/
import Derived.Test.YtclicclinfnmlaaAmCall2
namespace Go.AM
section
variable {P : Program} {h : Nat → AObj} {β : Nat → Option Nat} {Y : Nat → Prop} {w : World}

theorem flat_flat (x : AObj) : flat (flat x) = flat x := by cases x <;> rfl
theorem orep_flat {X : Nat → Prop} {x y : AObj} {b : Nat} (hxy : flat x = flat y) : ORep w X β x b ↔ ORep w X β y b := by unfold ORep; rw [hxy]
theorem live_flat {x y : AObj} (hxy : flat x = flat y) : isLive x ↔ isLive y := by rw [← flat_live x, hxy, flat_live]
theorem own_flat {h' : Nat → AObj} (hf : ∀ o, flat (h' o) = flat (h o)) : Own h' β = Own h β := by
  funext b
  apply propext
  constructor
  · rintro ⟨o, h1, h2⟩; exact ⟨o, (live_flat (hf o)).1 h1, h2⟩
  · rintro ⟨o, h1, h2⟩; exact ⟨o, (live_flat (hf o)).2 h1, h2⟩
theorem xo_flat {h' : Nat → AObj} (hf : ∀ o, flat (h' o) = flat (h o)) : XO Y h' β = XO Y h β := by unfold XO; rw [own_flat hf]
theorem objs_flat {h' : Nat → AObj} (hf : ∀ o, flat (h' o) = flat (h o)) (hO : Objs h β Y w) : Objs h' β Y w := by
  refine ⟨fun o b hl hb => ?_, fun o hl => hO.has o ((live_flat (hf o)).1 hl), fun o o' b hl hl' => hO.inj o o' b ((live_flat (hf o)).1 hl) ((live_flat (hf o')).1 hl'), hO.lt⟩
  have := hO.rep o b ((live_flat (hf o)).1 hl) hb
  rw [own_flat hf]
  exact (orep_flat (hf o)).2 this
theorem moves_flat {h1 h1' h' : Nat → AObj} {β' : Nat → Option Nat} {w' : World} {fr : Nat → Prop} (hf1 : ∀ o, flat (h1 o) = flat (h o)) (hf : ∀ o, flat (h1' o) = flat (h' o)) (m : Moves h1 h1' β β' Y w w' fr) : Moves h h' β β' Y w w' fr := by
  refine ⟨?_, objs_flat (fun o => (hf o).symm) m.objs, m.bmono, ?_, fun o hl => (m.lmono o ((live_flat (hf o)).2 hl)).imp (fun x => (live_flat (hf1 o)).1 x) id⟩
  · have := m.good; rw [own_flat hf1] at this; exact this
  · intro o b hb
    have := m.bnew o b hb
    rwa [own_flat hf1] at this

/-- Two outcomes that are the same but for how arrays of frozen cells are told. -/
theorem does_flat {fr : Nat} {r r0 : AR} {s : Sem Next} (hv : r.val = r0.val) (hu : ∀ o, flat (over r.upd h o) = flat (over r0.upd (fun o => flat (h o)) o)) (hd : Does P (fun o => flat (h o)) β Y w fr r0 s) : Does P h β Y w fr r s := by
  obtain ⟨n, v, w', β', h1, h2, h3, h4⟩ := hd
  refine ⟨n, v, w', β', h1, h2, moves_flat (fun o => flat_flat _) (fun o => (hu o).symm) h3, ?_⟩
  rw [hv, xo_flat hu]
  exact h4

theorem unfz_spec : ∀ {cs : List WV} {fs : List FV}, unfz cs = some fs → cs = fzs fs
  | [], fs, h => by simp only [unfz, Option.some.injEq] at h; subst h; rfl
  | .a (.fz x) :: r, fs, h => by
    simp only [unfz] at h
    obtain ⟨l, hl, rfl⟩ := Option.map_eq_some_iff.1 h
    rw [unfz_spec hl]; rfl
  | .a (.ep _ _ _ _) :: r, fs, h => by simp [unfz] at h
  | .a (.osl _ _ _ _) :: r, fs, h => by simp [unfz] at h
  | .a (.mp _) :: r, fs, h => by simp [unfz] at h
  | .a .any :: r, fs, h => by simp [unfz] at h
  | .fn _ _ _ :: r, fs, h => by simp [unfz] at h
theorem unfzs_spec : ∀ {es : List (List WV)} {fs : List (List FV)}, unfzs es = some fs → es = fs.map fzs
  | [], fs, h => by simp only [unfzs, Option.some.injEq] at h; subst h; rfl
  | e :: r, fs, h => by
    simp only [unfzs] at h
    split at h
    · rename_i x l hx hl
      injection h with h; subst h
      rw [unfz_spec hx, unfzs_spec hl]; rfl
    · cases h

theorem over_flat (u : AHeap) (o : Nat) : flat (over u (fun o => flat (h o)) o) = flat (over u h o) := by
  unfold over; split
  · rfl
  · exact flat_flat _

theorem over_cons_flat {k : Nat} {x y : AObj} {u u' : AHeap} (hxy : flat x = flat y) (o : Nat) (hu : flat (over u h o) = flat (over u' (fun o => flat (h o)) o)) : flat (over ((k, x) :: u) h o) = flat (over ((k, y) :: u') (fun o => flat (h o)) o) := by
  simp only [over, find2] at hu ⊢
  by_cases hk : k = o
  · simp only [hk, if_true]; exact hxy
  · simp only [hk, if_false]; exact hu

theorem storeF_flat {d : TyD} {x y : TV} {r : AR} (hs : storeF d h x y = some r) : ∃ r0, storeP d (fun o => flat (h o)) x y = some r0 ∧ r.val = r0.val ∧ ∀ o, flat (over r.upd h o) = flat (over r0.upd (fun o => flat (h o)) o) := by
  unfold storeF at hs
  split at hs
  · rename_i cs o n i j hcs
    split at hs
    · rename_i m fs ho
      split at hs
      · rename_i fcs hfcs
        split at hs
        · rename_i hc
          obtain ⟨hm, hsz⟩ := hc
          subst hm
          split at hs
          · rename_i e he
            split at hs <;> simp only [Option.some.injEq, reduceCtorEq] at hs
            rename_i hfit
            subst hs
            have hcz := unfz_spec hfcs
            subst hcz
            have hl : (fzs fcs).length = fcs.length := by simp [fzs]
            have hl2 : (fzs e).length = e.length := by simp [fzs]
            refine ⟨⟨.any, [(o, .arr m ((fs.map fzs).set i (splice (fzs e) j (fzs fcs))))], [o]⟩, ?_, rfl, fun k => over_cons_flat ?_ k (over_flat [] k).symm⟩
            · unfold storeP
              simp only [hcs, ho, flat, hl, hsz, and_self, if_true, List.getElem?_map, he, Option.map_some, hl2]
              rw [hsz] at hfit
              rw [if_pos hfit]
            · simp only [flat, List.map_set]
              congr 1
              simp [spliceF, splice, fzs]
          · cases hs
        · cases hs
      · cases hs
    · rename_i hno
      have hflat : flat (h o) = h o := by
        cases hh : h o with
        | arz m fs => exact absurd hh (hno m fs)
        | _ => rfl
      have hcong : storeP d (fun o => flat (h o)) (.c (.a (.ep o n i j))) y = storeP d h (.c (.a (.ep o n i j))) y := by
        unfold storeP
        rw [hcs]
        dsimp only
        rw [hflat]
      refine ⟨r, ?_, rfl, fun k => (over_flat r.upd k).symm⟩
      rw [hcong]; exact hs
  · cases hs

theorem elemsF_flat {n : Nat} {x : TV} {new : List (List FV)} {rd : List Nat} (he : elemsF n h x = some (new, rd)) : elemsOf n (fun o => flat (h o)) x = some (new.map fzs, rd) := by
  unfold elemsF at he
  split at he
  · simp only [Option.some.injEq, Prod.mk.injEq] at he
    obtain ⟨rfl, rfl⟩ := he; rfl
  · split at he
    · rename_i hm
      simp only [Option.some.injEq, Prod.mk.injEq] at he
      obtain ⟨rfl, rfl⟩ := he
      simp [elemsOf, hm]
    · cases he
  · simp only [Option.some.injEq, Prod.mk.injEq] at he
    obtain ⟨rfl, rfl⟩ := he; rfl
  · split at he
    · rename_i m' es ho
      split at he
      · rename_i hc
        simp only [Option.some.injEq, Prod.mk.injEq] at he
        obtain ⟨rfl, rfl⟩ := he
        simp [elemsOf, ho, flat, hc, List.map_take, List.map_drop]
      · cases he
    · cases he
  · cases he

theorem appendF_flat {d : TyD} {fr : Nat} {s x : TV} {r : AR} (ha : appendF d fr h s x = some r) : ∃ r0, appendA d fr (fun o => flat (h o)) s x = some r0 ∧ r.val = r0.val ∧ ∀ o, flat (over r.upd h o) = flat (over r0.upd (fun o => flat (h o)) o) := by
  unfold appendF at ha
  split at ha
  · rename_i new rd hel
    have hel' := elemsF_flat hel
    split at ha
    · split at ha
      · rename_i hn
        injection ha with ha; subst ha; subst hn
        refine ⟨⟨.c (.a (.fz .nils)), [], rd⟩, by unfold appendA; rw [hel']; simp, rfl, fun o => (over_flat [] o).symm⟩
      · rename_i hn
        split at ha
        · rename_i hroom
          injection ha with ha; subst ha
          refine ⟨⟨.c (.a (.osl fr d.size 0 new.length)), [(fr, .arr d.size (new.map fzs))], rd⟩, ?_, rfl, fun o => over_cons_flat (by rfl) o (over_flat [] o).symm⟩
          unfold appendA
          rw [hel']
          simp only [List.map_eq_nil_iff, hn, if_false, List.length_map, hroom, if_true]
        · cases ha
    · split at ha
      · rename_i hn
        injection ha with ha; subst ha; subst hn
        refine ⟨⟨_, [], rd⟩, by unfold appendA; rw [hel']; simp, rfl, fun o => (over_flat [] o).symm⟩
      · rename_i hn
        split at ha
        · rename_i hroom
          injection ha with ha; subst ha
          refine ⟨⟨.c (.a (.osl fr d.size 0 new.length)), [(fr, .arr d.size (new.map fzs))], rd⟩, ?_, rfl, fun o => over_cons_flat (by rfl) o (over_flat [] o).symm⟩
          unfold appendA
          rw [hel']
          simp only [List.map_eq_nil_iff, hn, if_false, List.length_map, hroom, if_true]
        · cases ha
    · rename_i o n off len
      split at ha
      · rename_i m fs ho
        split at ha
        · rename_i hc
          injection ha with ha; subst ha
          refine ⟨⟨.c (.a (.osl fr d.size 0 (len + new.length))), [(o, .gone), (fr, .arr d.size ((fs.map fzs).take len ++ new.map fzs))], o :: rd⟩, ?_, rfl, fun k => over_cons_flat (by rfl) k (over_cons_flat ?_ k (over_flat [] k).symm)⟩
          · unfold appendA
            rw [hel']
            simp only [ho, flat, List.length_map]
            rw [if_pos hc]
          · simp [flat, List.map_take]
        · cases ha
      · exact ⟨r, ha, rfl, fun k => (over_flat r.upd k).symm⟩
    · cases ha
  · exact ⟨r, ha, rfl, fun k => (over_flat r.upd k).symm⟩

/-! Giving away -/
theorem moves_gone (hO : Objs h β Y w) : ∀ (G : AHeap), (∀ p ∈ G, p.2 = .gone) → Moves h (over G h) β β Y w w (fun _ => False)
  | [], _ => Moves.refl hO (fun _ => rfl)
  | (o, x) :: G, hG => by
    have hx : x = .gone := hG (o, x) (by simp)
    subst hx
    have m1 := moves_gone hO G (fun p hp => hG p (List.mem_cons_of_mem _ hp))
    have m2 := moves_drop m1.objs o
    have m := m1.trans m2 (fun _ h => h.elim) hO (f := fun _ => False) (fun _ h => h.elim) (fun _ h => h.elim)
    have : over ((o, .gone) :: G) h = upd (over G h) o .gone := by
      funext k
      simp only [over, find2, upd]
      by_cases e : o = k
      · subst e; simp
      · simp [e, show ¬ k = o from fun h => e h.symm]
    rw [this]; exact m

theorem gone_find : ∀ {G : AHeap} {o : Nat}, (∀ p ∈ G, p.2 = .gone) → (o, AObj.gone) ∈ G → over G h o = .gone := by
  intro G o hG hm
  simp only [over]
  cases hf : find2 G o with
  | some x => exact hG _ (find2_mem hf)
  | none =>
    exfalso
    induction G with
    | nil => cases hm
    | cons p G ih =>
      obtain ⟨k, y⟩ := p
      simp only [find2] at hf
      split at hf
      · cases hf
      · rename_i e
        rcases List.mem_cons.1 hm with h1 | h1
        · injection h1 with h1 h2; exact e h1.symm
        · exact ih (fun p hp => hG p (List.mem_cons_of_mem _ hp)) h1 hf

theorem giveW_gone (x : WV) : ∀ p ∈ (giveW h x).2, p.2 = AObj.gone := by
  intro p hp
  unfold giveW at hp
  split at hp
  · split at hp
    · split at hp
      · simp only [List.mem_singleton] at hp; rw [hp]
      · cases hp
    · cases hp
  · cases hp
theorem giveWs_gone : ∀ (l : List WV), ∀ p ∈ (giveWs h l).2, p.2 = AObj.gone
  | [], p, hp => by cases hp
  | x :: r, p, hp => by
    simp only [giveWs, List.mem_append] at hp
    rcases hp with hp | hp
    · exact giveW_gone x p hp
    · exact giveWs_gone r p hp
theorem giveT_gone (x : TV) : ∀ p ∈ (giveT h x).2, p.2 = AObj.gone := by
  intro p hp
  cases x with
  | c x => exact giveW_gone x p hp
  | agg cs => exact giveWs_gone cs p hp
  | any => cases hp
  | tup _ => cases hp
theorem giveP_gone : ∀ (l : List (Nat × TV)), ∀ p ∈ (giveP h l).2, p.2 = AObj.gone
  | [], p, hp => by cases hp
  | (i, x) :: r, p, hp => by
    simp only [giveP, List.mem_append] at hp
    rcases hp with hp | hp
    · exact giveT_gone x p hp
    · exact giveP_gone r p hp

/-- Behind a gift, what was given reads as frozen. -/
theorem giveT_rep (hO : Objs h β Y w) {G : AHeap} (hG : ∀ p ∈ G, p.2 = AObj.gone) {x : TV} (hsub : ∀ p ∈ (giveT h x).2, p ∈ G) {v : Value} (hx : TRep w (XO Y h β) β x v) : TRep w (XO Y (over G h) β) β (giveT h x).1 v := by
  have m := moves_gone hO G hG
  have hgoes := m.goes hO (fun _ h => h.elim)
  have hZ : ∀ b, ¬ XO Y h β b → ¬ XO Y (over G h) β b := by
    intro b hb hb'
    rcases hb' with hb' | ⟨o, h1, h2⟩
    · exact hb (.inl hb')
    · rcases m.lmono o h1 with h3 | h3
      · exact hb (.inr ⟨o, h3, h2⟩)
      · exact h3
  have hW : ∀ c u, (∀ p ∈ (giveW h c).2, p ∈ G) → WRep w (XO Y h β) β c u → WRep w (XO Y (over G h) β) β (giveW h c).1 u := by
    intro c u hs hr
    unfold giveW at hs ⊢
    split
    · rename_i o n off len
      split
      · rename_i m' fs ho
        simp only [ho] at hs
        by_cases hc : n = m' ∧ off + len ≤ fs.length
        · rw [if_pos hc] at hs ⊢
          cases hr with
          | a _ _ hr =>
            refine .a _ _ (.fz _ _ (give_sl hO hZ (by rw [ho]; rfl) hc.1 hc.2 (fun b hb hb' => ?_) hr))
            rcases hb' with hy | ⟨o', h1, h2⟩
            · obtain ⟨b2, g1, g2, g3⟩ := hO.has o (by rw [ho]; trivial)
              rw [hb] at g1; injection g1 with g1; subst g1; exact g3 hy
            · have hl := (m.lmono o' h1).resolve_right id
              have : o' = o := hO.inj o' o b hl (by rw [ho]; trivial) h2 hb
              subst this
              rw [gone_find hG (hs (o', .gone) (by simp))] at h1
              exact h1
        · rw [if_neg hc]; exact hr.goes hgoes
      · exact hr.goes hgoes
    · exact hr.goes hgoes
  have hWs : ∀ (l : List WV) (us : List Value), (∀ p ∈ (giveWs h l).2, p ∈ G) → LRep (WRep w (XO Y h β) β) l us → LRep (WRep w (XO Y (over G h) β) β) (giveWs h l).1 us := by
    intro l
    induction l with
    | nil => intro us _ hl; rw [hl.nil_inv]; exact .nil
    | cons c l ih =>
      intro us hs hl
      obtain ⟨u, us', rfl, h1, h2⟩ := hl.cons_inv
      exact .cons (hW c u (fun p hp => hs p (by simp [giveWs, hp])) h1) (ih us' (fun p hp => hs p (by simp [giveWs, hp])) h2)
  cases x with
  | any => trivial
  | c x => exact hW x v hsub hx
  | agg cs => obtain ⟨us, h1, h2⟩ := hx; exact ⟨us, h1, hWs cs us hsub h2⟩
  | tup vs => exact TRep.goes (f := .tup vs) hx hgoes

theorem giveP_rep (hO : Objs h β Y w) {G : AHeap} (hG : ∀ p ∈ G, p.2 = AObj.gone) : ∀ (l : List (Nat × TV)) (vals : List (Nat × Value)), (∀ p ∈ (giveP h l).2, p ∈ G) →
    (∀ (j : Nat) (p : Nat × TV) (v : Nat × Value), l[j]? = some p → vals[j]? = some v → p.1 = v.1 ∧ TRep w (XO Y h β) β p.2 v.2) →
    (giveP h l).1.length = l.length ∧ ∀ (j : Nat) (p : Nat × TV) (v : Nat × Value), (giveP h l).1[j]? = some p → vals[j]? = some v → p.1 = v.1 ∧ TRep w (XO Y (over G h) β) β p.2 v.2
  | [], vals, _, _ => ⟨rfl, fun j p v hp _ => by simp [giveP] at hp⟩
  | (i, x) :: l, vals, hs, hr => by
    obtain ⟨h1, h2⟩ := giveP_rep hO hG l (vals.drop 1) (fun p hp => hs p (by simp [giveP, hp])) (fun j p v hp hv => hr (j + 1) p v (by simpa using hp) (by rw [List.getElem?_drop] at hv; rw [Nat.add_comm]; exact hv))
    refine ⟨by simp [giveP, h1], fun j p v hp hv => ?_⟩
    cases j with
    | zero =>
      simp only [giveP, List.getElem?_cons_zero, Option.some.injEq] at hp
      subst hp
      obtain ⟨g1, g2⟩ := hr 0 _ v rfl hv
      exact ⟨g1, giveT_rep hO hG (fun p hp => hs p (by simp [giveP, hp])) g2⟩
    | succ j =>
      simp only [giveP, List.getElem?_cons_succ] at hp
      exact h2 j p v hp (by rw [List.getElem?_drop, Nat.add_comm]; exact hv)

/-- One after the other. -/
theorem does_after {fr : Nat} {G : AHeap} {r : AR} {s : Sem Next} {rd : List Nat} (hO : Objs h β Y w) (hG : ∀ p ∈ G, p.2 = AObj.gone) (hd : Does P (over G h) β Y w fr r s) (u : AHeap) (hu : ∀ o, flat (over u h o) = flat (over r.upd (over G h) o)) : Does P h β Y w fr ⟨r.val, u, rd⟩ s := by
  obtain ⟨n, v, w', β', h1, h2, h3, h4⟩ := hd
  have m := (moves_gone hO G hG).trans h3 (fun _ h => h.elim) hO (f := fun k => k = fr) (fun _ h => h.elim) (fun _ h => h)
  refine ⟨n, v, w', β', h1, h2, moves_flat (fun _ => rfl) (fun o => (hu o).symm) m, ?_⟩
  rw [xo_flat hu]
  exact h4

theorem freezeNew_upd (r : AR) : ∀ o, flat (over (freezeNew r).upd h o) = flat (over r.upd h o) := by
  intro o
  unfold freezeNew
  split
  · rename_i k n es hu
    split
    · rename_i fs hfs
      rw [hu, unfzs_spec hfs]
      simp only [over, find2]
      by_cases hk : k = o
      · simp only [hk, if_true]; rfl
      · simp only [hk, if_false]
    · rfl
  · rfl
theorem freezeNew_val (r : AR) : (freezeNew r).val = r.val := by
  unfold freezeNew
  split
  · split <;> rfl
  · rfl

theorem over_append (a b : AHeap) (o : Nat) : over (a ++ b) h o = over a (over b h) o := by
  simp only [over, find2_append]
  cases find2 a o <;> rfl

/-- EVERY OPERATION THAT CALLS NO Go FUNCTION, arrays of frozen cells kept as such. -/
theorem aopF_does (hO : Objs h β Y w) (hY : ∀ b, Y b → b < w.heap.size) {fr : Nat} (hfr : β fr = none) {o : Oper} {ρ : Operand → TV} {ev : Operand → Value} {r : AR} (hρ : ∀ x, TRep w (XO Y h β) β (ρ x) (ev x)) (ha : aopF P o fr ρ h = some r) :
    Does P h β Y w fr r (execOp ev o) := by
  have hOf : Objs (fun o => flat (h o)) β Y w := objs_flat (fun o => flat_flat _) hO
  have hXf : XO Y (fun o => flat (h o)) β = XO Y h β := xo_flat (fun o => flat_flat _)
  have hρf : ∀ x, TRep w (XO Y (fun o => flat (h o)) β) β (ρ x) (ev x) := fun x => by rw [hXf]; exact hρ x
  have gen : ∀ {r : AR}, aop P o fr ρ (fun o => flat (h o)) = some r → Does P h β Y w fr r (execOp ev o) := fun {r} ha =>
    does_flat rfl (fun k => (over_flat r.upd k).symm) (aop_does hOf hY hfr hρf ha)
  obtain ⟨d, op, t, p, af, g⟩ := o
  unfold aopF at ha
  dsimp only at ha
  split at ha
  · rename_i st x y
    obtain ⟨dd, hd, hs⟩ := withTy_some ha
    obtain ⟨r0, h1, h2, h3⟩ := storeF_flat hs
    have := aop_does (P := P) (o := ⟨d, .store st x y, t, p, af, g⟩) hOf hY hfr hρf (r := r0) (by simp only [aop, withTy, hd]; exact h1)
    exact does_flat h2 h3 this
  · rename_i b args ts
    unfold builtinF at ha
    split at ha
    · rename_i t1 t2 s x hts hargs
      split at ha
      · rename_i htt
        obtain ⟨dd, e, de, hd, hk, hde, hap⟩ := withElem_some ha
        unfold appendPF at hap
        split at hap
        · rename_i hc
          obtain ⟨r0, h1, h2, h3⟩ := appendF_flat hap
          have h0 : aop P ⟨d, .call ⟨.builtin .append, args, ts⟩, t, p, af, g⟩ fr ρ (fun o => flat (h o)) = some r0 := by
            simp only [aop, hargs, hts, builtinA]
            rw [if_pos htt]
            unfold withElem
            rw [hd]
            dsimp only
            rw [hk]
            dsimp only
            rw [hde]
            dsimp only
            unfold appendP
            rw [if_pos hc]
            exact h1
          exact does_flat h2 h3 (aop_does hOf hY hfr hρf h0)
        · cases hap
      · rename_i htt
        obtain ⟨dd, e, de, hd, hk, hde, hap⟩ := withElem_some ha
        obtain ⟨r0, hr0, rfl⟩ := Option.map_eq_some_iff.1 hap
        have h0 : aop P ⟨d, .call ⟨.builtin .append, args, ts⟩, t, p, af, g⟩ fr ρ (fun o => flat (h o)) = some r0 := by
          simp only [aop, hargs, hts, builtinA]
          rw [if_neg htt]
          unfold withElem
          rw [hd]
          dsimp only
          rw [hk]
          dsimp only
          rw [hde]
          exact hr0
        have e1 : (freezeNew r0).val = r0.val := freezeNew_val r0
        refine does_flat (r0 := r0) e1 (fun k => ?_) (aop_does hOf hY hfr hρf h0)
        rw [freezeNew_upd]
        exact (over_flat r0.upd k).symm
    · exact gen ha
  · rename_i st len parts
    obtain ⟨r1, hr1, rfl⟩ := Option.map_eq_some_iff.1 ha
    obtain ⟨dd, e, de, hd, hk, hde, hb⟩ := withElem_some hr1
    have hGg := giveP_gone (h := h) (parts.toList.map fun p => (p.1, ρ p.2))
    have hparts := giveP_rep hO hGg (parts.toList.map fun p => (p.1, ρ p.2)) ((parts.map fun (i, x) => (i, ev x)).toList) (fun _ h => h) (parts_rep (w := w) (β := β) hρ parts)
    have m := moves_gone hO _ hGg
    have hd' := buildSlice_does' m.objs hY hfr (parts := (giveP h (parts.toList.map fun p => (p.1, ρ p.2))).1) (vals := parts.map fun (i, x) => (i, ev x)) (by rw [hparts.1]; simp) hparts.2 hd hk hde hb
    refine does_after (r := ⟨(freezeNew r1).val, r1.upd, r1.rd⟩) hO hGg ?_ _ (fun o => ?_)
    · rw [freezeNew_val]; exact hd'
    · rw [over_append]
      exact freezeNew_upd r1 o
  · rename_i bt parts
    obtain ⟨v, hv, rfl⟩ := Option.map_eq_some_iff.1 ha
    obtain ⟨dd, hd, hb⟩ := withTy_some hv
    have hGg := giveP_gone (h := h) (parts.toList.map fun p => (p.1, ρ p.2))
    have hparts := giveP_rep hO hGg (parts.toList.map fun p => (p.1, ρ p.2)) ((parts.map fun (i, x) => (i, ev x)).toList) (fun _ h => h) (parts_rep (w := w) (β := β) hρ parts)
    have m := moves_gone hO _ hGg
    refine does_after (r := ⟨v, [], []⟩) hO hGg (does_value m.objs ?_) _ (fun o => by simp [over_nil])
    exact build_run' hd (by rw [hparts.1]; simp) hparts.2 hb
  · exact gen ha

/-- A CALL, to which slices of the call's own may be given for good. -/
theorem callE_does (hO : Objs h β Y w) (hY : ∀ b, Y b → b < w.heap.size) {fr : Nat} (hfr : ∀ j, j < 32 → β (fr + j) = none) {f : FuncId} {args : List TV} {vals : List Value} {K : TV → AHeap → List Nat → Prop}
    (hl : LRep (TRep w (XO Y h β) β) args vals) (hK : CallE P f args h fr K) :
    enterable P f = true ∧ ∃ r upd rd, K r upd rd ∧ Calls P f vals.toArray w fun e w' => ∃ v β', e = .returned v ∧ Moves h (over upd h) β β' Y w w' (fun o => fr ≤ o ∧ o < fr + 32) ∧ TRep w' (XO Y (over upd h) β') β' r v := by
  obtain ⟨E, hE, hC⟩ := hK
  have hG : ∀ p ∈ E.map (fun p => (p.1, AObj.gone)), p.2 = AObj.gone := by
    intro p hp
    obtain ⟨q, _, rfl⟩ := List.mem_map.1 hp
    rfl
  have m := moves_gone hO _ hG
  have hZ : ∀ b, ¬ XO Y h β b → ¬ XO Y (over (E.map fun p => (p.1, AObj.gone)) h) β b := by
    intro b hb hb'
    rcases hb' with hb' | ⟨o, h1, h2⟩
    · exact hb (.inl hb')
    · rcases m.lmono o h1 with h3 | h3
      · exact hb (.inr ⟨o, h3, h2⟩)
      · exact h3
  have hLZ : ∀ p ∈ E, ∀ b, β p.1 = some b → ¬ XO Y (over (E.map fun p => (p.1, AObj.gone)) h) β b := by
    intro p hp b hb hb'
    have hlp : isLive (h p.1) := by rw [← flat_live, hE p hp]; trivial
    rcases hb' with hy | ⟨o', h1, h2⟩
    · obtain ⟨b2, g1, g2, g3⟩ := hO.has p.1 hlp
      rw [hb] at g1; injection g1 with g1; subst g1; exact g3 hy
    · have hl := (m.lmono o' h1).resolve_right id
      have : o' = p.1 := hO.inj o' p.1 b hl hlp h2 hb
      subst this
      rw [gone_find hG (List.mem_map.2 ⟨p, hp, rfl⟩)] at h1
      exact h1
  have hl' : LRep (TRep w (XO Y (over (E.map fun p => (p.1, AObj.gone)) h) β) β) (args.map (TV.lend E)) vals := hl.map fun c u _ hr => lendT_rep hO hE hZ hLZ hr
  obtain ⟨hent, r, u, rd, hk, hcall⟩ := call_does m.objs hY hfr hl' hC
  refine ⟨hent, r, _, _, hk, hcall.mono fun e w' ⟨v, β', h1, h2, h3⟩ => ⟨v, β', h1, ?_, ?_⟩⟩
  · have m2 := m.trans h2 (fun _ h => h.elim) hO (f := fun o => fr ≤ o ∧ o < fr + 32) (fun _ h => h.elim) (fun _ h => h)
    have : over (u ++ E.map fun p => (p.1, AObj.gone)) h = over u (over (E.map fun p => (p.1, AObj.gone)) h) := funext fun o => over_append _ _ o
    rw [this]; exact m2
  · have : over (u ++ E.map fun p => (p.1, AObj.gone)) h = over u (over (E.map fun p => (p.1, AObj.gone)) h) := funext fun o => over_append _ _ o
    rw [this]; exact h3
end
end Go.AM
