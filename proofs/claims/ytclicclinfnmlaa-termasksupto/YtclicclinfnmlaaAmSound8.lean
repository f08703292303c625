/- Soundness: 'aop' for every operation. No conditions. -/
import Derived.Test.YtclicclinfnmlaaAmSound7
import Derived.Lib.AppendZeros
namespace Go.AM
section
variable {P : Program} {h : Nat → AObj} {β : Nat → Option Nat} {Y : Nat → Prop} {w : World}

theorem repl_cells (X : Nat → Prop) {zf : List WV} {zs : List Value} (hz : LRep (WRep w X β) zf zs) (hne : zs ≠ []) : ∀ (len : Nat), LRep (WRep w X β) (List.replicate len zf).flatten ((List.range (len * zs.length)).map fun i => zs.getD (i % zs.length) undef)
  | 0 => by simpa using LRep.nil
  | len + 1 => by
    have ih := repl_cells X hz hne len
    have hp : 0 < zs.length := by cases zs <;> simp_all
    rw [List.replicate_succ, List.flatten_cons]
    have h1 : (List.range ((len + 1) * zs.length)).map (fun i => zs.getD (i % zs.length) undef) = zs ++ (List.range (len * zs.length)).map (fun i => zs.getD (i % zs.length) undef) := by
      rw [Nat.add_mul, Nat.one_mul, Nat.add_comm, List.range_add, List.map_append, List.map_map]
      congr 1
      · apply List.ext_getElem?
        intro j
        rw [List.getElem?_map]
        by_cases hj : j < zs.length
        · rw [List.getElem?_range hj]
          simp only [Option.map_some, Nat.mod_eq_of_lt hj, List.getD, List.getElem?_eq_getElem hj, Option.getD_some]
        · rw [List.getElem?_eq_none (by simpa using hj), List.getElem?_eq_none (by omega)]; rfl
      · apply List.map_congr_left
        intro j _
        simp only [Function.comp, Nat.add_mod_left]
    rw [h1]
    exact hz.append ih

theorem chunks_spec {n : Nat} : ∀ (k : Nat) {cs : List WV}, cs.length = k * n → (∀ e ∈ chunks n k cs, e.length = n) ∧ (chunks n k cs).length = k ∧ (chunks n k cs).flatten = cs
  | 0, cs, h => by
    have : cs = [] := List.eq_nil_of_length_eq_zero (by simpa using h)
    subst this; simp [chunks]
  | k + 1, cs, h => by
    have hk : (cs.drop n).length = k * n := by rw [List.length_drop, h, Nat.add_mul]; omega
    obtain ⟨h1, h2, h3⟩ := chunks_spec k hk
    refine ⟨fun e he => ?_, by simp [chunks, h2], by simp [chunks, h3]⟩
    simp only [chunks, List.mem_cons] at he
    rcases he with rfl | he
    · rw [List.length_take, h, Nat.add_mul]; omega
    · exact h1 e he

theorem parts_rep {ρ : Operand → TV} {ev : Operand → Value} {X : Nat → Prop} (hρ : ∀ x, TRep w X β (ρ x) (ev x)) (parts : Array (Nat × Operand)) :
    ∀ (j : Nat) (p : Nat × TV) (v : Nat × Value), (parts.toList.map fun p => (p.1, ρ p.2))[j]? = some p → ((parts.map fun (i, x) => (i, ev x)).toList)[j]? = some v → p.1 = v.1 ∧ TRep w X β p.2 v.2 := by
  intro j p v hp hv
  simp only [Array.toList_map, List.getElem?_map] at hp hv
  obtain ⟨q, hq, rfl⟩ := Option.map_eq_some_iff.1 hp
  rw [hq] at hv
  simp only [Option.map_some, Option.some.injEq] at hv
  subst hv
  exact ⟨rfl, hρ _⟩

theorem mapM_places : ∀ (l : List Field), (∀ f ∈ l, ∃ i, P.info? f.type = some i) → (l.mapM (fun f => do pure (f.offset, ← sizeOf f.type) : Field → Sem (Nat × Nat))).run P w = .ok (l.map fun f => (f.offset, P.cellsOf f.type)) w
  | [], _ => by simp
  | f :: l, h => by
    obtain ⟨i, hi⟩ := h f (by simp)
    have ih := mapM_places l (fun f hf => h f (by simp [hf]))
    have hc : P.cellsOf f.type = i.size := by simp [Program.cellsOf, hi]
    have hs : (sizeOf f.type).run P w = .ok i.size w := by simp [sizeOf, typeInfo, hi]
    simp only [List.mapM_cons, Sem.run_bind, hs, Result.andThen_ok, Sem.run_pure, ih, List.map_cons, hc]

theorem mapM_fields (fs : Array Field) (h : ∀ f ∈ fs.toList, ∃ i, P.info? f.type = some i) : (fs.mapM (fun f => do pure (f.offset, ← sizeOf f.type) : Field → Sem (Nat × Nat))).run P w = .ok (fs.toList.map fun f => (f.offset, P.cellsOf f.type)).toArray w := by
  have := mapM_places (P := P) (w := w) fs.toList h
  rw [Array.mapM_eq_mapM_toList]
  simp only [Sem.run_map, this, Result.andThen_ok]

theorem build_run' {t : TypeId} {d : TyD} {parts : List (Nat × TV)} {vals : Array (Nat × Value)} {X : Nat → Prop} {r : TV} (hd : tyOf P t = some d) (hpl : parts.length = vals.toList.length)
    (hp : ∀ (j : Nat) (p : Nat × TV) (v : Nat × Value), parts[j]? = some p → vals.toList[j]? = some v → p.1 = v.1 ∧ TRep w X β p.2 v.2)
    (hb : buildA P d parts = some r) : ∃ z, (Instr.build t vals).run P w = .ok z w ∧ TRep w X β r z := by
  unfold buildA at hb
  split at hb
  · rename_i z fs hz hk
    obtain ⟨cs, hcs, rfl⟩ := Option.map_eq_some_iff.1 hb
    obtain ⟨zv, hzr, rfl, h1, _⟩ := zero_spec (w := w) hd hz
    obtain ⟨fl, hfl, rfl, hfs⟩ := struct_spec hd hk
    have hl := fzs_rep (w := w) (β := β) X zv.cells.toList h1
    obtain ⟨vs, hv1, hv2⟩ := fillA_run (place' := fun i => ((fl.toList.map fun f => (f.offset, P.cellsOf f.type)).toArray)[i]?) (fun i => by simp [List.getElem?_map]; cases fl[i]? <;> rfl) _ _ _ _ _ hcs hl hpl hp
    refine ⟨.agg vs.toArray, ?_, vs, rfl, hv2⟩
    have hm := mapM_fields (P := P) (w := w) fl hfs
    simp only [Array.toArray_toList] at hv1
    simp only [Instr.build, Sem.run_bind, hzr, Result.andThen_ok, run_underlying hfl, hm, hv1, Sem.run_pure]
  · rename_i z n e hz hk
    have ht := arr_spec hd hk
    split at hb
    · rename_i de hde
      obtain ⟨cs, hcs, rfl⟩ := Option.map_eq_some_iff.1 hb
      obtain ⟨zv, hzr, rfl, h1, _⟩ := zero_spec (w := w) hd hz
      have hl := fzs_rep (w := w) (β := β) X zv.cells.toList h1
      obtain ⟨vs, hv1, hv2⟩ := fillA_run (place' := fun i => some (i * de.size, de.size)) (fun i => rfl) _ _ _ _ _ hcs hl hpl hp
      refine ⟨.agg vs.toArray, ?_, vs, rfl, hv2⟩
      simp only [Array.toArray_toList] at hv1
      simp only [Instr.build, Sem.run_bind, hzr, Result.andThen_ok, run_underlying ht, run_sizeOf hde, hv1, Sem.run_pure]
    · cases hb
  · cases hb

theorem build_run {t : TypeId} {d : TyD} {parts : Array (Nat × Operand)} {ρ : Operand → TV} {ev : Operand → Value} {X : Nat → Prop} {r : TV} (hρ : ∀ x, TRep w X β (ρ x) (ev x)) (hd : tyOf P t = some d)
    (hb : buildA P d (parts.toList.map fun p => (p.1, ρ p.2)) = some r) : ∃ z, (Instr.build t (parts.map fun (i, x) => (i, ev x))).run P w = .ok z w ∧ TRep w X β r z :=
  build_run' hd (by simp) (parts_rep (w := w) (β := β) hρ parts) hb

theorem buildSlice_does' (hO : Objs h β Y w) (hY : ∀ b, Y b → b < w.heap.size) {fr : Nat} (hfr : β fr = none) {t e : TypeId} {d de : TyD} {len : Nat} {parts : List (Nat × TV)} {vals : Array (Nat × Value)} {r : AR}
    (hpl : parts.length = vals.toList.length) (hp : ∀ (j : Nat) (p : Nat × TV) (v : Nat × Value), parts[j]? = some p → vals.toList[j]? = some v → p.1 = v.1 ∧ TRep w (XO Y h β) β p.2 v.2)
    (hd : tyOf P t = some d) (hk : d.kind = .slice e) (hde : tyOf P e = some de) (hb : buildSliceP de fr len parts = some r) :
    Does P h β Y w fr r (do pure (.value (← Instr.buildSlice t len vals))) := by
  have ht := slice_spec hd hk
  unfold buildSliceP at hb
  split at hb
  · rename_i z hz
    split at hb
    · rename_i hc
      obtain ⟨hz1, hs0, hfit⟩ := hc
      split at hb
      · rename_i cs hcs
        injection hb with hb; subst hb
        obtain ⟨zv, hzr, rfl, h1, _⟩ := zero_spec (w := w) hde hz
        have hzl : zv.cells.toList.length = de.size := by simpa using hz1
        have hl := fzs_rep (w := w) (β := β) (XO Y h β) zv.cells.toList h1
        have hrep := repl_cells (XO Y h β) hl (by intro e; rw [e] at hzl; simp at hzl; omega) len
        rw [hzl] at hrep
        obtain ⟨vs, hv1, hv2⟩ := fillA_run (place' := fun i => some (i * de.size, de.size)) (fun i => rfl) _ _ _ _ _ hcs hrep hpl hp
        have hfl : ∀ (place : Nat → Option (Nat × Nat)) (ps : List (Nat × TV)) (c r : List WV), fillA place c ps = some r → r.length = c.length := by
          intro place ps
          induction ps with
          | nil => intro c r h; simp only [fillA, Option.some.injEq] at h; rw [h]
          | cons p ps ih =>
            intro c r h
            obtain ⟨i, v⟩ := p
            simp only [fillA] at h
            split at h
            · split at h
              · rename_i hc
                rw [ih _ _ h]; unfold splice; simp; omega
              · cases h
            · cases h
        have hcl : cs.length = len * de.size := by
          rw [hfl _ _ _ _ hcs, hrep.1]; simp
        obtain ⟨k1, k2, k3⟩ := chunks_spec len hcl
        have hvl : vs.length = len * de.size := by rw [← hv2.1, hcl]
        refine does_new hO hY hfr de.size (chunks de.size len cs) vs e 0 (.slice (some ⟨w.heap.size, 0, none⟩) len len) _ ?_ (by rw [k2, hvl]; exact Nat.le_refl _) k1 (elems_of_flat k1 (by rw [k3]; exact hv2)) ?_
        · have hbig : ¬ (len * de.size > 2 ^ 24) := by omega
          have hcells : (Array.range (len * de.size)).map (fun i => zv.cells[i % zv.cells.size]!) = (List.map (fun i => zv.cells.toList.getD (i % de.size) undef) (List.range (len * de.size))).toArray := by
            apply Array.ext'
            simp only [Array.toList_map, Array.toList_range]
            apply List.map_congr_left
            intro i _
            have hzs : zv.cells.size = de.size := by simpa using hzl
            have hlt : i % de.size < zv.cells.size := by rw [hzs]; exact Nat.mod_lt _ hs0
            rw [hzs, getElem!_pos zv.cells _ hlt]
            simp [List.getD, hlt]
          by_cases hz00 : len * de.size = 0
          · have hr0 : (Array.range 0).map (fun i => (#[] : Array Value)[i % (#[] : Array Value).size]!) = (List.map (fun i => zv.cells.toList.getD (i % de.size) undef) (List.range 0)).toArray := by
              apply Array.ext'
              simp
            simp only [hz00] at hv1
            simp only [Instr.buildSlice, Sem.run_bind, run_underlying ht, Result.andThen_ok, run_sizeOf hde, hz00, show ¬ (0 > 2 ^ 24) by omega, if_true, if_false, Sem.run_pure, hr0, hv1, newRow, run_newObj, Nat.add_zero]
          · simp only [Instr.buildSlice, Sem.run_bind, run_underlying ht, Result.andThen_ok, run_sizeOf hde, hbig, hz00, if_false, Sem.run_pure, hzr, hcells, hv1, newRow, run_newObj, Nat.add_zero]
        · intro w' β' hb hsh
          exact .a _ _ (.osl fr de.size 0 len w.heap.size 0 len _ e hb hsh (Nat.le_refl _) (by rw [hvl]; simp) (.inl (by simp)))
      · cases hb
    · cases hb
  · cases hb

theorem buildSlice_does (hO : Objs h β Y w) (hY : ∀ b, Y b → b < w.heap.size) {fr : Nat} (hfr : β fr = none) {t e : TypeId} {d de : TyD} {len : Nat} {parts : Array (Nat × Operand)} {ρ : Operand → TV} {ev : Operand → Value} {r : AR}
    (hρ : ∀ x, TRep w (XO Y h β) β (ρ x) (ev x)) (hd : tyOf P t = some d) (hk : d.kind = .slice e) (hde : tyOf P e = some de) (hb : buildSliceP de fr len (parts.toList.map fun p => (p.1, ρ p.2)) = some r) :
    Does P h β Y w fr r (do pure (.value (← Instr.buildSlice t len (parts.map fun (i, x) => (i, ev x))))) :=
  buildSlice_does' hO hY hfr (by simp) (parts_rep (w := w) (β := β) hρ parts) hd hk hde hb

theorem appendZ_does (hO : Objs h β Y w) (hY : ∀ b, Y b → b < w.heap.size) {fr : Nat} (hfr : β fr = none) {t t' ty : TypeId} {e : TypeId} {d : TyD} {de : TyD} {s x : TV} {u v : Value} {r : AR} (hd : tyOf P t = some d) (hk : d.kind = .slice e) (hde : tyOf P e = some de)
    (hs : TRep w (XO Y h β) β s u) (hx : TRep w (XO Y h β) β x v) (ha : appendZ P t' de fr s x = some r) :
    Does P h β Y w fr r (do pure (.value (← Builtin.append_ #[t, t'] ty #[u, v]))) := by
  have ht := slice_spec hd hk
  unfold appendZ at ha
  split at ha
  · rename_i kn k n htn
    split at ha
    · rename_i hc
      obtain ⟨hn0, hs0, hroom, hb0, hz⟩ := hc
      injection ha with ha; subst ha
      rw [hs.nils_inv, TRep.int_inv hx]
      obtain ⟨z, hz1, hz2⟩ := Option.map_eq_some_iff.1 hz
      obtain ⟨zv, _, hz3, _, i, hi, hiz⟩ := zero_spec (w := w) hde hz1
      obtain ⟨i', _, hi', _, _, hsz, hby, _, _⟩ := tyOf_spec hde
      rw [hi] at hi'; injection hi' with hi'; subst hi'
      have hroom : n.toNat * i.bytes ≤ 140737488355328 := by rw [← hby]; exact hroom
      have hle : n.toNat ≤ n.toNat * i.bytes := Nat.le_mul_of_pos_right _ (by rw [← hby]; exact hb0)
      have hr := Lib.run_append_nil_zeros (P := P) w t t' ty e i zv k kn ht htn hi hiz n.toNat (by omega) (by rw [← hsz]; exact hs0) (by omega) (by omega)
      rw [show ((n.toNat : Nat) : Int) = n by omega] at hr
      have hge := grownCap_ge w n.toNat 0 e
      have hzs : zv.cells.size = i.size := by rw [← hsz, ← hz2, hz3]; simp
      refine does_new hO hY hfr de.size [] (Builtin.zeroCells zv.cells n.toNat ++ Builtin.zeroCells zv.cells (grownCap w n.toNat 0 e - n.toNat)).toList e 1 (.slice (some ⟨w.heap.size, 0, none⟩) n.toNat (grownCap w n.toNat 0 e)) _ (hr.trans ?_) (by simp) (fun e he => by cases he) (fun i j e c he _ => by simp at he) ?_
      · simp only [World.alloc, World.drew, Array.toArray_toList]
      · intro w' β' hb hsh
        refine .a _ _ (.osl fr de.size 0 n.toNat w.heap.size 0 _ _ e hb hsh hge ?_ (.inl (by simp)))
        rw [Array.length_toList, Array.size_append, size_zeroCells, size_zeroCells, hzs, ← Nat.add_mul, hsz]
        exact Nat.mul_le_mul_right _ (by omega)
    · cases ha
  · cases ha

theorem builtin_does (hO : Objs h β Y w) (hY : ∀ b, Y b → b < w.heap.size) {fr : Nat} (hfr : β fr = none) {b : Builtin} {ts : Array TypeId} {ty : TypeId} {cs : Array Bool} {args : List TV} {vals : Array Value} {r : AR}
    (hl : LRep (TRep w (XO Y h β) β) args vals.toList) (ha : builtinA P b ts.toList fr h args = some r) : Does P h β Y w fr r (builtin b ts ty cs vals) := by
  unfold builtinA at ha
  split at ha
  · rename_i t x ht
    obtain ⟨u, us', hu, hx, hr⟩ := hl.cons_inv
    rw [hr.nil_inv] at hu
    have hv : vals = #[u] := by apply Array.ext'; simpa using hu
    have hts : ts = #[t] := by apply Array.ext'; simpa using ht
    subst hv; subst hts
    obtain ⟨d, hd, hlen⟩ := withTy_some ha
    obtain ⟨p, hp, rfl⟩ := Option.map_eq_some_iff.1 hlen
    exact len_does (ty := ty) hO hd hx hp
  · rename_i t t' s x ht
    split at ha
    · rename_i htt
      subst htt
      obtain ⟨d, e, de, hd, hk, hde, hap⟩ := withElem_some ha
      obtain ⟨u, us', hu, hs, hr⟩ := hl.cons_inv
      obtain ⟨v, vs', hv, hx, hr'⟩ := hr.cons_inv
      rw [hv, hr'.nil_inv] at hu
      have hvv : vals = #[u, v] := by apply Array.ext'; simpa using hu
      have hts : ts = #[t, t] := by apply Array.ext'; simpa using ht
      subst hvv; subst hts
      exact append_does (ty := ty) hO hY hfr hd hk hde hs hx hap
    · obtain ⟨d, e, de, hd, hk, hde, hap⟩ := withElem_some ha
      obtain ⟨u, us', hu, hs, hr⟩ := hl.cons_inv
      obtain ⟨v, vs', hv, hx, hr'⟩ := hr.cons_inv
      rw [hv, hr'.nil_inv] at hu
      have hvv : vals = #[u, v] := by apply Array.ext'; simpa using hu
      have hts : ts = #[t, t'] := by apply Array.ext'; simpa using ht
      subst hvv; subst hts
      exact appendZ_does (ty := ty) hO hY hfr hd hk hde hs hx hap
  · rename_i t x ht
    refine does_valR hO ha (fun y hy => ?_)
    obtain ⟨u, us', hu, hx, hr⟩ := hl.cons_inv
    rw [hr.nil_inv] at hu
    have hv : vals = #[u] := by apply Array.ext'; simpa using hu
    have hts : ts = #[t] := by apply Array.ext'; simpa using ht
    subst hv; subst hts
    obtain ⟨d, hd, hc⟩ := withTy_some hy
    unfold capP at hc
    split at hc
    · rename_i hk
      have hts := slice_spec hd hk
      injection hc with hc; subst hc
      rw [hx.nils_inv]
      exact ⟨goInt 0, by simp [Builtin.cap_, run_underlying hts, goInt], .int_mk _ _⟩
    · rename_i nn hk
      have hts := slice_spec hd hk
      injection hc with hc; subst hc
      have h1 := hx.fz_inv
      cases h1 with
      | z0 _ a => exact ⟨goInt 0, by simp [Builtin.cap_, run_underlying hts, goInt], .int_mk _ _⟩
      | z0n => exact ⟨goInt 0, by simp [Builtin.cap_, run_underlying hts, goInt], .int_mk _ _⟩
    · cases hc
  · refine does_valR hO ha (fun x hx => ?_)
    have := minA_run (P := P) (m := false) ts ty hx hl
    simpa using this
  · refine does_valR hO ha (fun x hx => ?_)
    have := minA_run (P := P) (m := true) ts ty hx hl
    simpa using this
  · cases ha

theorem bnd_map {ρ : Operand → TV} {ev : Operand → Value} {X : Nat → Prop} (hρ : ∀ x, TRep w X β (ρ x) (ev x)) (o : Option Operand) : bnd (o.map ρ) (o.map ev) w X β := by
  cases o with
  | none => trivial
  | some x => exact hρ x

theorem lrep_map {ρ : Operand → TV} {ev : Operand → Value} {X : Nat → Prop} (hρ : ∀ x, TRep w X β (ρ x) (ev x)) : ∀ (l : List Operand), LRep (TRep w X β) (l.map ρ) (l.map ev)
  | [] => .nil
  | x :: l => .cons (hρ x) (lrep_map hρ l)

theorem convert_src {src : TypeId} {x r : TV} {u : Value} {dst : TypeId} {d : TyD} {X : Nat → Prop} (hs : ∃ e, P.underlying src = some e) (hd : tyOf P dst = some d) (h : convertA d x = some r) (hx : TRep w X β x u) :
    ∃ z, (convert src dst u).run P w = .ok z w ∧ TRep w X β r z := by
  obtain ⟨e, he⟩ := hs
  exact convertA_run src ⟨e, he, fun _ _ _ => trivial⟩ hd h hx

/-- EVERY OPERATION THAT CALLS NO Go FUNCTION. -/
theorem aop_does (hO : Objs h β Y w) (hY : ∀ b, Y b → b < w.heap.size) {fr : Nat} (hfr : β fr = none) {o : Oper} {ρ : Operand → TV} {ev : Operand → Value} {r : AR} (hρ : ∀ x, TRep w (XO Y h β) β (ρ x) (ev x)) (ha : aop P o fr ρ h = some r) :
    Does P h β Y w fr r (execOp ev o) := by
  have bindv : ∀ {s : Sem Value}, (do pure (.value (← s)) : Sem Next) = (do let v ← s; pure (.value v)) := rfl
  obtain ⟨d, op, t, p, af, g⟩ := o
  unfold aop at ha
  dsimp only at ha
  split at ha
  · injection ha with ha; subst ha
    rename_i x
    exact ⟨.value (ev x), ev x, w, β, rfl, .inl rfl, (Moves.refl hO (fun _ => rfl)).weaken (fun _ h => h.elim), hρ x⟩
  · injection ha with ha; subst ha
    rename_i x
    exact ⟨.value (ev x), ev x, w, β, rfl, .inl rfl, (Moves.refl hO (fun _ => rfl)).weaken (fun _ h => h.elim), hρ x⟩
  · rename_i c x y
    obtain ⟨v, hv, rfl⟩ := Option.map_eq_some_iff.1 ha
    obtain ⟨b, hb, hr⟩ := pickV_run hv (hρ c) (hρ x) (hρ y)
    refine ⟨.value (if b then ev x else ev y), _, w, β, ?_, .inl rfl, (Moves.refl hO (fun _ => rfl)).weaken (fun _ h => h.elim), hr⟩
    simp only [execOp, hb, asBool, pure_bind]
    cases b <;> rfl
  · rename_i e
    obtain ⟨dd, hd, hz⟩ := withTy_some ha
    obtain ⟨z, hz', rfl⟩ := Option.map_eq_some_iff.1 hz
    exact alloc_does hO hY hfr hd hz'
  · rename_i e x
    obtain ⟨cs, hcs, rfl⟩ := Option.map_eq_some_iff.1 ha
    exact box_does hO hY hfr (hρ x) hcs
  · rename_i bt parts
    exact does_valR hO ha (fun x hx => by obtain ⟨dd, hd, hb⟩ := withTy_some hx; exact build_run hρ hd hb)
  · rename_i st len parts
    obtain ⟨dd, e, de, hd, hk, hde, hb⟩ := withElem_some ha
    exact buildSlice_does hO hY hfr hρ hd hk hde hb
  · rename_i lt x
    obtain ⟨dd, hd, hl⟩ := withTy_some ha
    obtain ⟨q, hq, rfl⟩ := Option.map_eq_some_iff.1 hl
    exact load_does hO hd (hρ x) hq
  · rename_i st x y
    obtain ⟨dd, hd, hs⟩ := withTy_some ha
    exact store_does hO hd (hρ x) (hρ y) hs
  · rename_i x
    obtain ⟨v, hv, rfl⟩ := Option.map_eq_some_iff.1 ha
    obtain ⟨h1, h2⟩ := nilCheckA_run (P := P) (o := ⟨d, .nilCheck x, t, p, af, g⟩) ev x rfl rfl hv (hρ x)
    exact ⟨.value (ev x), ev x, w, β, h1, .inl rfl, (Moves.refl hO (fun _ => rfl)).weaken (fun _ h => h.elim), h2⟩
  · rename_i op xt x y yt
    exact does_valR hO ha (fun v hv => binA_run x y hv (hρ x) (hρ y))
  · rename_i op xt x
    exact does_valR hO ha (fun v hv => unA_run hv (hρ x))
  · rename_i src dst x
    exact does_valR hO ha (fun v hv => by
      split at hv
      · rename_i hs
        obtain ⟨dd, hd, hc⟩ := withTy_some hv
        exact convert_src (Option.isSome_iff_exists.1 hs) hd hc (hρ x)
      · cases hv)
  · rename_i st x lo hi mx
    exact does_valR hO ha (fun v hv => by
      obtain ⟨dd, hd, hc⟩ := withTy_some hv
      exact sliceOpA_run hd hc (hρ x) (bnd_map hρ lo) (bnd_map hρ hi) (bnd_map hρ mx))
  · rename_i s x f
    exact does_valR hO ha (fun v hv => by obtain ⟨dd, hd, hc⟩ := withTy_some hv; exact fieldAddrA_run hd hc (hρ x))
  · rename_i s x f
    exact does_valR hO ha (fun v hv => by obtain ⟨dd, hd, hc⟩ := withTy_some hv; exact fieldA_run hd hc (hρ x))
  · rename_i s x ix
    exact does_valR hO ha (fun v hv => by obtain ⟨dd, hd, hc⟩ := withTy_some hv; exact indexAddrA_run hd hc (hρ x) (hρ ix))
  · rename_i s x ix
    exact does_valR hO ha (fun v hv => by obtain ⟨dd, hd, hc⟩ := withTy_some hv; exact indexA_run hd hc (hρ x) (hρ ix))
  · rename_i fn first captured
    exact does_valR hO ha (fun v hv => ⟨.func fn (first.map ev) (captured.map ev), rfl, by
      have := makeFuncA_run (w := w) (β := β) (X := XO Y h β) hv (lrep_map hρ first.toList) (lrep_map hρ captured.toList)
      have e : ∀ a : Array Operand, (a.toList.map ev).toArray = a.map ev := fun a => by apply Array.ext'; simp
      rwa [e, e] at this⟩)
  · rename_i x i
    exact does_valR hO ha (fun v hv => extractA_run hv (hρ x))
  · rename_i b args ts
    refine builtin_does (vals := args.map ev) hO hY hfr (by simpa using lrep_map hρ args.toList) ha
  · cases ha
end
end Go.AM
