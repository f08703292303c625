/- Soundness of a region whose order Go leaves open: one walk in the order of the text serves every order. No conditions. -/
import Derived.Test.YtclicclinfnmlaaAmRegion
namespace Go.AM

/-! ### What an operation's outcome hangs on -/
theorem evF_congr {e e' : Nat → TV} {x : Operand} (h : ∀ t, x = .tmp t → e' t = e t) : evF e' x = evF e x := by
  cases x with
  | tmp t => exact h t rfl
  | _ => rfl

theorem aop_congr {P : Program} {o : Oper} {fr : Nat} {ρ ρ' : Operand → TV} {h : Nat → AObj} (hp : ∀ x ∈ o.op.operands, ρ' x = ρ x) : aop P o fr ρ' h = aop P o fr ρ h := by
  obtain ⟨dst, op, type, pos, after, guard⟩ := o
  have pairs : ∀ ps : Array (Nat × Operand), (∀ x ∈ (ps.toList.map (·.2)), ρ' x = ρ x) → (ps.toList.map fun p => (p.1, ρ' p.2)) = (ps.toList.map fun p => (p.1, ρ p.2)) := fun ps hp =>
    List.map_congr_left fun p hm => by rw [hp p.2 (List.mem_map.2 ⟨p, hm, rfl⟩)]
  have optmap : ∀ o : Option Operand, (∀ x ∈ o.toArray, ρ' x = ρ x) → o.map ρ' = o.map ρ := fun o ho => by cases o <;> simp_all
  dsimp only at hp
  cases op
  case build t ps => simp only [aop]; rw [pairs ps fun x hx => hp x (by simpa [Op.operands] using hx)]
  case buildSlice t n ps => simp only [aop]; rw [pairs ps fun x hx => hp x (by simpa [Op.operands] using hx)]
  case makeFunc fn first captured =>
    simp only [aop]
    rw [List.map_congr_left (l := first.toList) fun x hx => hp x (by simp [Op.operands]; exact .inl (by simpa using hx)), List.map_congr_left (l := captured.toList) fun x hx => hp x (by simp [Op.operands]; exact .inr (by simpa using hx))]
  case slice t x lo hi mx =>
    simp only [aop]
    rw [hp x (by simp [Op.operands]), optmap lo (fun y hy => hp y (by simp [Op.operands] at hy ⊢; simp [hy])), optmap hi (fun y hy => hp y (by simp [Op.operands] at hy ⊢; simp [hy])), optmap mx (fun y hy => hp y (by simp [Op.operands] at hy ⊢; simp [hy]))]
  case call c =>
    obtain ⟨callee, args, ts⟩ := c
    cases callee with
    | builtin b =>
      simp only [aop]
      rw [List.map_congr_left (l := args.toList) fun x hx => hp x (by simp [Op.operands, Call.operands]; simpa using hx)]
    | value x => rfl
    | invoke x m => rfl
  all_goals simp only [aop, Op.operands] at hp ⊢
  all_goals first
    | rfl
    | (simp only [List.mem_toArray, List.mem_cons, List.not_mem_nil, or_false, forall_eq_or_imp, forall_eq] at hp; simp only [hp])

theorem loadP_congr {d : TyD} {h h' : Nat → AObj} {x : TV} {r : TV × List Nat} (hl : loadP d h x = some r) (hh : ∀ k ∈ r.2, h' k = h k) : loadP d h' x = some r := by
  unfold loadP at hl ⊢
  split at hl
  · split at hl
    · rename_i m es ho
      split at hl
      · split at hl
        · split at hl <;> simp only [Option.some.injEq, reduceCtorEq] at hl
          subst hl
          simp_all
        · cases hl
      · cases hl
    · cases hl
  · exact hl
  · cases hl

theorem storeP_congr {d : TyD} {h h' : Nat → AObj} {x y : TV} {r : AR} (hl : storeP d h x y = some r) (hh : ∀ k ∈ r.rd, h' k = h k) : storeP d h' x y = some r := by
  unfold storeP at hl ⊢
  split at hl
  · split at hl
    · split at hl
      · split at hl
        · split at hl <;> simp only [Option.some.injEq, reduceCtorEq] at hl
          subst hl
          simp_all
        · cases hl
      · cases hl
    · cases hl
  · cases hl

theorem elemsOf_congr {n : Nat} {h h' : Nat → AObj} {x : TV} {r : List (List WV) × List Nat} (hl : elemsOf n h x = some r) (hh : ∀ k ∈ r.2, h' k = h k) : elemsOf n h' x = some r := by
  unfold elemsOf at hl ⊢
  split at hl
  · exact hl
  · exact hl
  · exact hl
  · split at hl
    · split at hl <;> simp only [Option.some.injEq, reduceCtorEq] at hl
      subst hl
      simp_all
    · cases hl
  · cases hl

theorem appendP_congr {d : TyD} {fr : Nat} {h h' : Nat → AObj} {s x : TV} {r : AR} (hl : appendP d fr h s x = some r) (hh : ∀ k ∈ r.rd, h' k = h k) : appendP d fr h' s x = some r := by
  unfold appendP at hl ⊢
  split at hl
  · rename_i hc
    rw [if_pos hc]
    unfold appendA at hl ⊢
    cases hel : elemsOf d.size h x with
    | none => rw [hel] at hl; cases hl
    | some q =>
      obtain ⟨new, rd⟩ := q
      rw [hel] at hl
      simp only at hl
      split at hl
      · have : ∀ k ∈ rd, h' k = h k := by
          split at hl
          · injection hl with hl; subst hl; exact hh
          · split at hl
            · injection hl with hl; subst hl; exact hh
            · cases hl
        rw [elemsOf_congr hel this]
        exact hl
      · have : ∀ k ∈ rd, h' k = h k := by
          split at hl
          · injection hl with hl; subst hl; exact hh
          · split at hl
            · injection hl with hl; subst hl; exact hh
            · cases hl
        rw [elemsOf_congr hel this]
        exact hl
      · rename_i o n off len
        split at hl
        · rename_i m es ho
          split at hl
          · rename_i hc2
            injection hl with hl; subst hl
            rw [elemsOf_congr hel (fun k hk => hh k (List.mem_cons_of_mem _ hk))]
            have h1 : h' o = .arr m es := by rw [hh o (by simp)]; exact ho
            simp only [h1]
            rw [if_pos hc2]
          · cases hl
        · cases hl
      · cases hl
  · cases hl

theorem lenP_congr {d : TyD} {h h' : Nat → AObj} {x : TV} {r : Nat × List Nat} (hq : lenP d h x = some r) (hh : ∀ k ∈ r.2, h' k = h k) : lenP d h' x = some r := by
  unfold lenP at hq ⊢
  split at hq
  · exact hq
  · exact hq
  · unfold lenMap at hq ⊢
    split at hq
    · split at hq
      · injection hq with hq; subst hq; simp_all
      · cases hq
    · cases hq
  · exact hq
  · cases hq

theorem aop_heap {P : Program} {o : Oper} {fr : Nat} {ρ : Operand → TV} {h h' : Nat → AObj} {r : AR} (ha : aop P o fr ρ h = some r) (hh : ∀ k ∈ r.rd, h' k = h k) : aop P o fr ρ h' = some r := by
  obtain ⟨d, op, t, p, af, g⟩ := o
  cases op
  case load lt x =>
    simp only [aop] at ha ⊢
    obtain ⟨dd, hd, hl⟩ := withTy_some ha
    obtain ⟨q, hq, rfl⟩ := Option.map_eq_some_iff.1 hl
    simp only [withTy, hd, loadP_congr hq hh, Option.map_some]
  case store st x y =>
    simp only [aop] at ha ⊢
    obtain ⟨dd, hd, hl⟩ := withTy_some ha
    simp only [withTy, hd, storeP_congr hl hh]
  case call c =>
    obtain ⟨callee, args, ts⟩ := c
    cases callee with
    | builtin b =>
      simp only [aop] at ha ⊢
      unfold builtinA at ha ⊢
      split at ha
      · obtain ⟨dd, hd, hl⟩ := withTy_some ha
        obtain ⟨q, hq, rfl⟩ := Option.map_eq_some_iff.1 hl
        simp only [withTy, hd, lenP_congr hq hh, Option.map_some]
      · split at ha
        · rename_i htt
          obtain ⟨dd, e, de, hd, hk, hde, hl⟩ := withElem_some ha
          rw [if_pos htt]
          unfold withElem
          rw [hd]
          simp only
          rw [hk]
          simp only
          rw [hde]
          exact appendP_congr hl hh
        · rename_i htt; rw [if_neg htt]; exact ha
      · exact ha
      · exact ha
      · exact ha
      · cases ha
    | value x => exact ha
    | invoke x m => exact ha
  all_goals exact ha

theorem storeF_congr {d : TyD} {h h' : Nat → AObj} {x y : TV} {r : AR} (hl : storeF d h x y = some r) (hh : ∀ k ∈ r.rd, h' k = h k) : storeF d h' x y = some r := by
  unfold storeF at hl ⊢
  split at hl
  · rename_i cs o n i j hcs
    split at hl
    · rename_i m fs ho
      split at hl
      · split at hl
        · split at hl
          · split at hl <;> simp only [Option.some.injEq, reduceCtorEq] at hl
            subst hl
            simp_all
          · cases hl
        · cases hl
      · cases hl
    · rename_i hno
      have hrd : r.rd = [o] := by
        unfold storeP at hl
        rw [hcs] at hl
        dsimp only at hl
        split at hl
        · split at hl
          · split at hl
            · split at hl <;> simp only [Option.some.injEq, reduceCtorEq] at hl
              subst hl; rfl
            · cases hl
          · cases hl
        · cases hl
      have ho : h' o = h o := hh o (by rw [hrd]; simp)
      rw [ho]
      split
      · rename_i m fs he; exact absurd he (hno m fs)
      · exact storeP_congr hl hh
  · cases hl

theorem elemsF_congr {n : Nat} {h h' : Nat → AObj} {x : TV} (hh : ∀ o m off len, x = .c (.a (.osl o m off len)) → h' o = h o) : elemsF n h' x = elemsF n h x := by
  unfold elemsF
  split
  · rfl
  · rfl
  · rfl
  · rename_i o m off len
    rw [hh o m off len rfl]
  · rfl

theorem elemsF_rd {n : Nat} {h : Nat → AObj} {o m off len : Nat} {new : List (List FV)} {rd : List Nat} (he : elemsF n h (.c (.a (.osl o m off len))) = some (new, rd)) : o ∈ rd := by
  unfold elemsF at he
  simp only at he
  split at he
  · split at he
    · simp only [Option.some.injEq, Prod.mk.injEq] at he
      rw [← he.2]; simp
    · cases he
  · cases he
theorem elemsOf_rd {n : Nat} {h : Nat → AObj} {o m off len : Nat} {new : List (List WV)} {rd : List Nat} (he : elemsOf n h (.c (.a (.osl o m off len))) = some (new, rd)) : o ∈ rd := by
  unfold elemsOf at he
  simp only at he
  split at he
  · split at he
    · simp only [Option.some.injEq, Prod.mk.injEq] at he
      rw [← he.2]; simp
    · cases he
  · cases he

/-- What an append reads. -/
theorem appendA_rd {d : TyD} {fr : Nat} {h : Nat → AObj} {s x : TV} {r : AR} (ha : appendA d fr h s x = some r) : ∃ new rd, elemsOf d.size h x = some (new, rd) ∧ (∀ k ∈ rd, k ∈ r.rd) := by
  unfold appendA at ha
  split at ha
  · cases ha
  · rename_i new rd hel
    refine ⟨new, rd, hel, ?_⟩
    split at ha
    · split at ha
      · injection ha with ha; subst ha; exact fun k hk => hk
      · split at ha
        · injection ha with ha; subst ha; exact fun k hk => hk
        · cases ha
    · split at ha
      · injection ha with ha; subst ha; exact fun k hk => hk
      · split at ha
        · injection ha with ha; subst ha; exact fun k hk => hk
        · cases ha
    · split at ha
      · split at ha
        · injection ha with ha; subst ha; exact fun k hk => List.mem_cons_of_mem _ hk
        · cases ha
      · cases ha
    · cases ha
theorem appendA_congr {d : TyD} {fr : Nat} {h h' : Nat → AObj} {s x : TV} {r : AR} (hl : appendA d fr h s x = some r) (hh : ∀ k ∈ r.rd, h' k = h k) : appendA d fr h' s x = some r := by
  obtain ⟨new, rd, hel, hsub⟩ := appendA_rd hl
  unfold appendA at hl ⊢
  rw [hel] at hl
  rw [elemsOf_congr hel (fun k hk => hh k (hsub k hk))]
  dsimp only at hl ⊢
  split at hl
  · exact hl
  · exact hl
  · rename_i o n off len
    split at hl
    · rename_i m es ho
      split at hl
      · rename_i hc2
        injection hl with hl; subst hl
        have h1 : h' o = .arr m es := by rw [hh o (by simp)]; exact ho
        simp only [h1]
        rw [if_pos hc2]
      · cases hl
    · cases hl
  · cases hl

theorem appendF_congr {d : TyD} {fr : Nat} {h h' : Nat → AObj} {s x : TV} {r : AR} (hl : appendF d fr h s x = some r) (hh : ∀ k ∈ r.rd, h' k = h k) : appendF d fr h' s x = some r := by
  have hflat : ∀ k ∈ r.rd, flat (h' k) = flat (h k) := fun k hk => by rw [hh k hk]
  -- the second argument's object is read
  have hx : ∀ o m off len, x = .c (.a (.osl o m off len)) → h' o = h o := by
    intro o m off len e
    subst e
    unfold appendF at hl
    split at hl
    · rename_i new rd hel
      have hm := elemsF_rd hel
      split at hl
      · split at hl
        · injection hl with hl; subst hl; exact hh o hm
        · split at hl
          · injection hl with hl; subst hl; exact hh o hm
          · cases hl
      · split at hl
        · injection hl with hl; subst hl; exact hh o hm
        · split at hl
          · injection hl with hl; subst hl; exact hh o hm
          · cases hl
      · split at hl
        · split at hl
          · injection hl with hl; subst hl; exact hh o (List.mem_cons_of_mem _ hm)
          · cases hl
        · obtain ⟨new2, rd2, h1, h2⟩ := appendA_rd hl
          exact hh o (h2 o (elemsOf_rd h1))
      · cases hl
    · obtain ⟨new2, rd2, h1, h2⟩ := appendA_rd hl
      exact hh o (h2 o (elemsOf_rd h1))
  unfold appendF at hl ⊢
  rw [elemsF_congr hx]
  split at hl
  · rename_i new rd hel
    split at hl
    · exact hl
    · exact hl
    · rename_i o n off len
      split at hl
      · rename_i m fs ho
        split at hl
        · rename_i hc
          injection hl with hl; subst hl
          have h1 : h' o = .arz m fs := by rw [hh o (by simp)]; exact ho
          simp only [h1]
          rw [if_pos hc]
        · cases hl
      · rename_i hno
        have ho : h' o = h o := by
          have : o ∈ r.rd := by
            unfold appendA at hl
            split at hl
            · cases hl
            · dsimp only at hl
              split at hl
              · split at hl
                · injection hl with hl; subst hl; simp
                · cases hl
              · cases hl
          exact hh o this
        rw [ho]
        split
        · rename_i m fs he; exact absurd he (hno m fs)
        · exact appendA_congr hl hflat
    · cases hl
  · rename_i hel
    exact appendA_congr hl hflat

theorem giveW_congr {h h' : Nat → AObj} {x : WV} (hh : ∀ k ∈ oslW x, h' k = h k) : giveW h' x = giveW h x := by
  unfold giveW
  split
  · rename_i o n off len
    rw [hh o (by simp [oslW])]
  · rfl
theorem giveWs_congr {h h' : Nat → AObj} : ∀ {l : List WV}, (∀ k ∈ l.flatMap oslW, h' k = h k) → giveWs h' l = giveWs h l
  | [], _ => rfl
  | x :: l, hh => by
    simp only [giveWs]
    rw [giveW_congr (fun k hk => hh k (by simp [hk])), giveWs_congr (fun k hk => hh k (by rw [List.flatMap_cons]; exact List.mem_append_right _ hk))]
theorem giveT_congr {h h' : Nat → AObj} {x : TV} (hh : ∀ k ∈ oslT x, h' k = h k) : giveT h' x = giveT h x := by
  cases x with
  | c x => simp only [giveT]; rw [giveW_congr hh]
  | agg cs => simp only [giveT]; rw [giveWs_congr hh]
  | _ => rfl
theorem giveP_congr {h h' : Nat → AObj} : ∀ {l : List (Nat × TV)}, (∀ k ∈ oslP l, h' k = h k) → giveP h' l = giveP h l
  | [], _ => rfl
  | (i, x) :: l, hh => by
    simp only [giveP]
    rw [giveT_congr (fun k hk => hh k (by simp only [oslP, List.flatMap_cons]; exact List.mem_append_left _ hk)), giveP_congr (fun k hk => hh k (by simp only [oslP, List.flatMap_cons]; exact List.mem_append_right _ hk))]

theorem aopF_congr {P : Program} {o : Oper} {fr : Nat} {ρ ρ' : Operand → TV} {h : Nat → AObj} (hp : ∀ x ∈ o.op.operands, ρ' x = ρ x) : aopF P o fr ρ' h = aopF P o fr ρ h := by
  have hg := aop_congr (P := P) (o := o) (fr := fr) (h := fun o => flat (h o)) hp
  obtain ⟨dst, op, type, pos, after, guard⟩ := o
  have pairs : ∀ ps : Array (Nat × Operand), (∀ x ∈ (ps.toList.map (·.2)), ρ' x = ρ x) → (ps.toList.map fun p => (p.1, ρ' p.2)) = (ps.toList.map fun p => (p.1, ρ p.2)) := fun ps hp =>
    List.map_congr_left fun p hm => by rw [hp p.2 (List.mem_map.2 ⟨p, hm, rfl⟩)]
  dsimp only at hp
  cases op
  case build t ps => simp only [aopF]; rw [pairs ps fun x hx => hp x (by simpa [Op.operands] using hx)]
  case buildSlice t n ps => simp only [aopF]; rw [pairs ps fun x hx => hp x (by simpa [Op.operands] using hx)]
  case store t x y =>
    simp only [aopF]
    rw [hp x (by simp [Op.operands]), hp y (by simp [Op.operands])]
  case call c =>
    obtain ⟨callee, args, ts⟩ := c
    cases callee with
    | builtin b =>
      simp only [aopF]
      rw [List.map_congr_left (l := args.toList) fun x hx => hp x (by simp [Op.operands, Call.operands]; simpa using hx)]
    | value x => exact hg
    | invoke x m => exact hg
  all_goals exact hg

theorem aopF_heap {P : Program} {o : Oper} {fr : Nat} {ρ : Operand → TV} {h h' : Nat → AObj} {r : AR} (ha : aopF P o fr ρ h = some r) (hh : ∀ k ∈ r.rd, h' k = h k) : aopF P o fr ρ h' = some r := by
  have hflat : ∀ k ∈ r.rd, flat (h' k) = flat (h k) := fun k hk => by rw [hh k hk]
  cases hop : o.op
  case store st x y =>
    simp only [aopF, hop] at ha ⊢
    obtain ⟨dd, hd, hl⟩ := withTy_some ha
    simp only [withTy, hd, storeF_congr hl hh]
  case build bt parts =>
    simp only [aopF, hop] at ha ⊢
    obtain ⟨v, hv, rfl⟩ := Option.map_eq_some_iff.1 ha
    rw [giveP_congr hh, hv]; rfl
  case buildSlice st len parts =>
    simp only [aopF, hop] at ha ⊢
    obtain ⟨v, hv, rfl⟩ := Option.map_eq_some_iff.1 ha
    rw [giveP_congr hh, hv]; rfl
  case call c =>
    obtain ⟨callee, args, ts⟩ := c
    cases callee with
    | builtin bb =>
      simp only [aopF, hop] at ha ⊢
      by_cases hb : ∃ t1 t2 s1 x1, bb = .append ∧ ts.toList = [t1, t2] ∧ args.toList.map ρ = [s1, x1]
      · obtain ⟨t1, t2, s1, x1, rfl, e2, e3⟩ := hb
        rw [e2, e3] at ha ⊢
        simp only [builtinF] at ha ⊢
        split at ha
        · rename_i htt
          obtain ⟨dd, e, de, hd, hk, hde, hl⟩ := withElem_some ha
          rw [if_pos htt]
          unfold withElem
          rw [hd]
          simp only
          rw [hk]
          simp only
          rw [hde]
          dsimp only
          unfold appendPF at hl ⊢
          split at hl
          · rename_i hc
            rw [if_pos hc]
            exact appendF_congr hl hh
          · cases hl
        · rename_i htt; rw [if_neg htt]; exact ha
      · have hne : ∀ h, builtinF P bb ts.toList fr h (args.toList.map ρ) = builtinA P bb ts.toList fr (fun o => flat (h o)) (args.toList.map ρ) := by
          intro h
          unfold builtinF
          split
          · rename_i e1 e2; exact absurd ⟨_, _, _, _, rfl, e1, e2⟩ hb
          · rfl
        rw [hne] at ha ⊢
        have e : ∀ hq, aop P o fr ρ hq = builtinA P bb ts.toList fr hq (args.toList.map ρ) := fun hq => by simp only [aop, hop]
        rw [← e] at ha ⊢
        exact aop_heap (h' := fun o => flat (h' o)) ha hflat
    | value x =>
      have e : ∀ hq, aopF P o fr ρ hq = aop P o fr ρ (fun k => flat (hq k)) := fun hq => by simp only [aopF, hop]
      rw [e] at ha ⊢; exact aop_heap ha hflat
    | invoke x m =>
      have e : ∀ hq, aopF P o fr ρ hq = aop P o fr ρ (fun k => flat (hq k)) := fun hq => by simp only [aopF, hop]
      rw [e] at ha ⊢; exact aop_heap ha hflat
  all_goals
    have e : ∀ hq, aopF P o fr ρ hq = aop P o fr ρ (fun k => flat (hq k)) := fun hq => by simp only [aopF, hop]
    rw [e] at ha ⊢; exact aop_heap ha hflat

theorem callK_heap {P : Program} {f : FuncId} {args : List TV} {h h' : Nat → AObj} {fr : Nat} {r : TV} {u : AHeap} {rd : List Nat} (hc : CallK P f args h fr (fun r' u' d' => r' = r ∧ u' = u ∧ d' = rd)) (hh : ∀ k ∈ rd, h' k = h k) :
    CallK P f args h' fr (fun r' u' d' => r' = r ∧ u' = u ∧ d' = rd) := by
  obtain ⟨ids, L, args', Hs, r0, Hs', h1, h2, h3, ⟨h4, h5⟩, h6, h7, h8, h9, k1, k2, k3⟩ := hc
  subst k3
  have hi : ∀ i ∈ ids, h' i = h i := fun i hi => hh i (by simp [hi])
  refine ⟨ids, L, args', Hs, r0, Hs', h1, h2, h3, ⟨?_, h5⟩, h6, h7, fun i hm => by rw [hi i hm]; exact h8 i hm, ?_, k1, k2, rfl⟩
  · rw [h4]; exact List.map_congr_left fun i hm => (hi i hm).symm
  · rcases h9 with h9 | ⟨g1, g2, g3, g4⟩
    · exact .inl h9
    · exact .inr ⟨fun p hp => by rw [hh p.1 (by simp; exact .inr ⟨_, _, hp⟩)]; exact g1 p hp, g2, g3, g4⟩

theorem callE_heap {P : Program} {f : FuncId} {args : List TV} {h h' : Nat → AObj} {fr : Nat} {r : TV} {u : AHeap} {rd : List Nat} (hc : CallE P f args h fr (fun r' u' d' => r' = r ∧ u' = u ∧ d' = rd)) (hh : ∀ k ∈ rd, h' k = h k) :
    CallE P f args h' fr (fun r' u' d' => r' = r ∧ u' = u ∧ d' = rd) := by
  obtain ⟨E, hE, ids, L, args', Hs, r0, Hs', h1, h2, h3, h4, h6, h7, h8, h9, k1, k2, k3⟩ := hc
  have hEE : E.ok h' := fun p hp => by rw [hh p.1 (by rw [← k3]; simp; exact .inr (.inr ⟨_, _, hp⟩))]; exact hE p hp
  have hover : ∀ k ∈ ids ++ L.map Prod.fst, over (E.map fun p => (p.1, AObj.gone)) h' k = over (E.map fun p => (p.1, AObj.gone)) h k := by
    intro k hk
    unfold over
    split
    · rfl
    · exact hh k (by rw [← k3]; exact List.mem_append_left _ hk)
  obtain ⟨ids', L', args'', Hs2, r2, Hs2', g1, g2, g3, g4, g5, g6, g7, g8, j1, j2, j3⟩ := callK_heap (r := r0.ren (sub ids fr)) (u := oldObjs (sub ids fr) ids Hs' ++ newObjs (sub ids fr) fr (Hs'.drop ids.length)) (rd := ids ++ L.map Prod.fst) ⟨ids, L, args', Hs, r0, Hs', h1, h2, h3, h4, h6, h7, h8, h9, rfl, rfl, rfl⟩ hover
  exact ⟨E, hEE, ids', L', args'', Hs2, r2, Hs2', g1, g2, g3, g4, g5, g6, g7, g8, by rw [j1]; exact k1, by rw [j2]; exact k2, by rw [j3]; exact k3⟩

theorem want_congr {ops : Array Oper} {o : Oper} {e e' : Nat → TV} (h : ∀ t ∈ o.looksAt ops, e' t = e t) : want ops o e' = want ops o e := by
  unfold want
  cases hg : o.guard with
  | none => rfl
  | some g =>
    obtain ⟨j, b⟩ := g
    simp only
    cases hd : (ops[j]?).bind (·.dst) with
    | none => rfl
    | some d =>
      have : e' d = e d := h d (by simp [Oper.looksAt, hg, hd])
      simp only [Option.map_some, this]

theorem opstep_congr {P : Program} {ops : Array Oper} {o : Oper} {fr : Nat} {e e' : Nat → TV} {h h' : Nat → AObj} {δ : Dl} (hs : OpStep P ops o fr e h δ) (he : ∀ t ∈ o.looksAt ops, e' t = e t) (hh : ∀ k ∈ δ.rd, h' k = h k) : OpStep P ops o fr e' h' δ := by
  have hop : ∀ x ∈ o.op.operands, evF e' x = evF e x := fun x hx => evF_congr fun t ht => he t (by
    subst ht
    exact List.mem_append_left _ (List.mem_filterMap.2 ⟨.tmp t, by simpa using hx, rfl⟩))
  cases hs with
  | skip hw => exact .skip (by rw [want_congr he]; exact hw)
  | plain r hw hg ha => exact .plain r (by rw [want_congr he]; exact hw) hg (aopF_heap (by rw [aopF_congr hop]; exact ha) hh)
  | call c f args r upd rd hw hg hc hk =>
    refine .call c f args r upd rd (by rw [want_congr he]; exact hw) hg ?_ (callE_heap hk hh)
    rw [← hc]
    have hops : o.op.operands = c.operands := by
      unfold goCall at hg
      split at hg
      · rename_i heq; injection hg with hg; subst hg; rw [heq]; rfl
      · cases hg
    rw [hops] at hop
    unfold calleeOf
    cases hcal : c.callee with
    | value x =>
      simp only
      rw [hop x (by simp [Call.operands, hcal]), List.map_congr_left (l := c.args.toList) fun y hy => hop y (by simp [Call.operands, hcal]; exact .inr (by simpa using hy))]
    | _ => rfl

/-! ### A walk in the order of the text, and its parts -/
inductive Chain (P : Program) (ops : Array Oper) (nx : Nat) : List Oper → Nat → (Nat → TV) → (Nat → AObj) → List Dl → Prop
  | nil (i : Nat) (e : Nat → TV) (h : Nat → AObj) : Chain P ops nx [] i e h []
  | cons (o : Oper) (l : List Oper) (i : Nat) (e : Nat → TV) (h : Nat → AObj) (δ : Dl) (δs : List Dl) : OpStep P ops o (nx + 32 * i) e h δ → δ.dst = o.dst → Chain P ops nx l (i + 1) (putF δ.dst δ.val e) (over δ.upd h) δs → Chain P ops nx (o :: l) i e h (δ :: δs)

def endE (e : Nat → TV) : List Dl → (Nat → TV)
  | [] => e
  | δ :: δs => endE (putF δ.dst δ.val e) δs
def endH (h : Nat → AObj) : List Dl → (Nat → AObj)
  | [] => h
  | δ :: δs => endH (over δ.upd h) δs

theorem hook_over (u H : AHeap) : hook (u ++ H) = over u (hook H) := funext fun o => hook_append u H o

theorem lex_chain {P : Program} {ops : Array Oper} {nx : Nat} {K : Env → AHeap → Track → Prop} : ∀ (l : List Oper) (i : Nat) (e : Env) (h : AHeap) (tr : Track), lex P ops nx l i e h tr K →
    ∃ δs e' h' tr', Chain P ops nx l i (look e) (hook h) δs ∧ look e' = endE (look e) δs ∧ hook h' = endH (hook h) δs ∧ tr' = (δs.map fun δ => (δ.rd, δ.upd.map Prod.fst)).reverse ++ tr ∧ K e' h' tr'
  | [], i, e, h, tr, hl => ⟨[], e, h, tr, .nil _ _ _, rfl, rfl, rfl, hl⟩
  | o :: l, i, e, h, tr, hl => by
    have fin : ∀ (δ : Dl) (e1 : Env) (h1 : AHeap), OpStep P ops o (nx + 32 * i) (look e) (hook h) δ → δ.dst = o.dst → look e1 = putF δ.dst δ.val (look e) → hook h1 = over δ.upd (hook h) →
        lex P ops nx l (i + 1) e1 h1 ((δ.rd, δ.upd.map Prod.fst) :: tr) K →
        ∃ δs e' h' tr', Chain P ops nx (o :: l) i (look e) (hook h) δs ∧ look e' = endE (look e) δs ∧ hook h' = endH (hook h) δs ∧ tr' = (δs.map fun δ => (δ.rd, δ.upd.map Prod.fst)).reverse ++ tr ∧ K e' h' tr' := by
      intro δ e1 h1 hs hd he hh hl
      obtain ⟨δs, e', h', tr', c1, c2, c3, c4, c5⟩ := lex_chain l (i + 1) e1 h1 _ hl
      rw [he, hh] at c1
      rw [he] at c2
      rw [hh] at c3
      exact ⟨δ :: δs, e', h', tr', .cons o l i _ _ δ δs hs hd c1, c2, c3, by rw [c4]; simp, c5⟩
    rw [lex] at hl
    unfold guardK at hl
    split at hl
    · exact hl.elim
    · rename_i w hw
      split at hl
      · rename_i hwt
        subst hwt
        unfold stepK at hl
        split at hl
        · rename_i c hc
          split at hl
          · rename_i f args hcal
            have hcal' : calleeOf (evF (look e)) c = some (f, args) := by
              have : evF (look e) = ev e := funext fun x => (ev_evF e x).symm
              rw [this]; exact hcal
            obtain ⟨E, hE, ids, L, args', Hs, r, Hs', g1, g2, g3, g4, g5, g6, g7, g8, hk⟩ := hl
            exact fin ⟨o.dst, r.ren (sub ids (nx + 32 * i)), (oldObjs (sub ids (nx + 32 * i)) ids Hs' ++ newObjs (sub ids (nx + 32 * i)) (nx + 32 * i) (Hs'.drop ids.length)) ++ E.map (fun p => (p.1, AObj.gone)), (ids ++ L.map Prod.fst) ++ E.map Prod.fst⟩ _ _
              (.call c f args _ _ _ hw hc hcal' ⟨E, hE, ids, L, args', Hs, r, Hs', g1, g2, g3, g4, g5, g6, g7, g8, rfl, rfl, rfl⟩) rfl (look_putE _ _ _) (hook_over _ _) hk
          · exact hl.elim
        · rename_i hc
          split at hl
          · rename_i r hr
            have hr' : aopF P o (nx + 32 * i) (evF (look e)) (hook h) = some r := by
              have : evF (look e) = ev e := funext fun x => (ev_evF e x).symm
              rw [this]; exact hr
            exact fin ⟨o.dst, r.val, r.upd, r.rd⟩ _ _ (.plain r hw hc hr') rfl (look_putE _ _ _) (hook_over _ _) hl
          · exact hl.elim
      · rename_i hwt
        have hwf : w = false := by simpa using hwt
        subst hwf
        exact fin ⟨o.dst, .tup [], [], []⟩ _ _ (.skip hw) rfl (look_putE _ _ _) (by rfl) hl

section
variable {P : Program} {ops : Array Oper} {w0 : World} {foot : Nat → Prop} {Y : Nat → Prop} {pin : Nat → Option Nat}

/-- In the order of the text. -/
theorem seq_sound {nx sz : Nat} (hdst : ∀ (j : Nat) (q : Oper) (d : Nat), ops[j]? = some q → q.dst = some d → d < sz) {Q : Exit → Act → World → Prop} : ∀ (l : List Oper) (i : Nat) (e : Nat → TV) (h : Nat → AObj) (δs : List Dl) (β : Nat → Option Nat) (a : Act) (w : World),
    (∀ o ∈ l, ∃ j : Nat, ops[j]? = some o) → Chain P ops nx l i e h δs → a.tmps.size = sz → RelF w0 foot Y pin e h β a w → (∀ k, β k ≠ none → k < nx + 32 * i) →
    (∀ a' w' β', a'.tmps.size = sz → RelF w0 foot Y pin (endE e δs) (endH h δs) β' a' w' → (∀ k, β' k ≠ none → k < nx + 32 * (i + l.length)) → Q .normal a' w') → wpList P ops Q l a w
  | [], i, e, h, δs, β, a, w, _, hc, hsz, hR, hb, hQ => by
    cases hc
    exact hQ a w β hsz hR (by simpa using hb)
  | o :: l, i, e, h, δs, β, a, w, hmem, hc, hsz, hR, hb, hQ => by
    cases hc with
    | cons _ _ _ _ _ δ δs hs hd hc =>
      obtain ⟨j, hj⟩ := hmem o (by simp)
      refine wpList_step fun K hK => ?_
      have hfr : ∀ j, j < 32 → β (nx + 32 * i + j) = none := by
        intro j _
        cases hbj : β (nx + 32 * i + j) with
        | none => rfl
        | some b => have := hb (nx + 32 * i + j) (by rw [hbj]; simp); omega
      refine opstep_sound hR hfr (by rw [hsz]; exact hdst) (fun d hd => by rw [hsz]; exact hdst j o d hj hd) hs (fun a' w' β' ha' hR' hb' => ?_)
      refine hK a' w' (seq_sound hdst l (i + 1) _ _ δs β' a' w' (fun o ho => hmem o (List.mem_cons_of_mem _ ho)) hc (by rw [ha', hsz]) hR' (fun k hk => ?_) (fun a'' w'' β'' h1 h2 h3 => hQ a'' w'' β'' h1 h2 (fun k hk => ?_)))
      · rcases hb' k hk with h1 | h1
        · have := hb k h1; omega
        · omega
      · have := h3 k hk; simp only [List.length_cons]; omega
end
end Go.AM
