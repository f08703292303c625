/- Soundness of every operation that calls no Go function. No conditions. -/
import Derived.Test.YtclicclinfnmlaaAmSound5
namespace Go.AM

theorem hook_append (u H : AHeap) (o : Nat) : hook (u ++ H) o = over u (hook H) o := by
  induction u with
  | nil => rfl
  | cons p u ih =>
    obtain ⟨j, x⟩ := p
    simp only [List.cons_append, hook, over, find2]
    split
    · rfl
    · exact ih
theorem over_nil (h : Nat → AObj) : over [] h = h := rfl
theorem over_one (o : Nat) (x : AObj) (h : Nat → AObj) : over [(o, x)] h = upd h o x := by
  funext k
  simp only [over, find2, upd]
  by_cases e : o = k
  · simp [e]
  · simp [e, show k ≠ o from fun h => e h.symm]

theorem Moves.weaken {h h' : Nat → AObj} {β β' : Nat → Option Nat} {Y : Nat → Prop} {w w' : World} {fr fr' : Nat → Prop} (m : Moves h h' β β' Y w w' fr) (hf : ∀ o, fr o → fr' o) : Moves h h' β β' Y w w' fr' :=
  ⟨m.good, m.objs, m.bmono, fun o b hb => (m.bnew o b hb).imp id fun ⟨x, y⟩ => ⟨hf o x, y⟩, fun o hl => (m.lmono o hl).imp id (hf o)⟩

section
variable {P : Program} {h : Nat → AObj} {β : Nat → Option Nat} {Y : Nat → Prop} {w : World}

/-- What an operation's run comes to. -/
def Does (P : Program) (h : Nat → AObj) (β : Nat → Option Nat) (Y : Nat → Prop) (w : World) (fr : Nat) (r : AR) (s : Sem Next) : Prop :=
  ∃ n v w' β', s.run P w = .ok n w' ∧ (n = .value v ∨ (n = .skip ∧ v = undef)) ∧ Moves h (over r.upd h) β β' Y w w' (fun k => k = fr) ∧ TRep w' (XO Y (over r.upd h) β') β' r.val v

theorem does_value (hO : Objs h β Y w) {fr : Nat} {r : TV} {s : Sem Value} {rd : List Nat} (hr : ∃ u, s.run P w = .ok u w ∧ TRep w (XO Y h β) β r u) :
    Does P h β Y w fr ⟨r, [], rd⟩ (do pure (.value (← s))) := by
  obtain ⟨u, h1, h2⟩ := hr
  exact ⟨.value u, u, w, β, by simp [h1], .inl rfl, (Moves.refl hO (fun _ => rfl)).weaken (fun _ h => h.elim), h2⟩

theorem does_valR (hO : Objs h β Y w) {fr : Nat} {v : Option TV} {r : AR} {s : Sem Value} (h0 : valR v = some r) (hr : ∀ x, v = some x → ∃ u, s.run P w = .ok u w ∧ TRep w (XO Y h β) β x u) :
    Does P h β Y w fr r (do pure (.value (← s))) := by
  obtain ⟨x, hx, rfl⟩ := Option.map_eq_some_iff.1 h0
  exact does_value hO (hr x hx)

theorem withTy_some {α : Type} {t : TypeId} {f : TyD → Option α} {r : α} (h0 : withTy P t f = some r) : ∃ d, tyOf P t = some d ∧ f d = some r := by
  unfold withTy at h0
  split at h0
  · rename_i d hd; exact ⟨d, hd, h0⟩
  · cases h0
theorem withElem_some {α : Type} {t : TypeId} {f : TyD → Option α} {r : α} (h0 : withElem P t f = some r) : ∃ d e de, tyOf P t = some d ∧ d.kind = .slice e ∧ tyOf P e = some de ∧ f de = some r := by
  unfold withElem at h0
  split at h0
  · rename_i d hd
    split at h0
    · rename_i e hk
      split at h0
      · rename_i de hde; exact ⟨d, e, de, hd, hk, hde, h0⟩
      · cases h0
    · cases h0
  · cases h0

theorem zero_spec {t : TypeId} {d : TyD} {z : List FV} (hd : tyOf P t = some d) (hz : d.zero = some z) : ∃ v, (zeroValue t).run P w = .ok v w ∧ z = v.cells.toList.map fvOf ∧ (∀ u ∈ v.cells.toList, u.oneCell' = true) ∧ (∃ i, P.info? t = some i ∧ i.zero = some v) := by
  obtain ⟨i, u, hi, hu, _, _, _, hzz, _⟩ := tyOf_spec hd
  rw [hz] at hzz
  cases hiz : i.zero with
  | none => rw [hiz] at hzz; cases hzz
  | some v =>
    rw [hiz] at hzz
    simp only at hzz
    split at hzz
    · rename_i hall
      injection hzz with hzz
      refine ⟨v, by simp [zeroValue, typeInfo, hi, hiz], hzz, fun u hu => ?_, i, hi, hiz⟩
      simp only [Array.all_eq_true_iff_forall_mem] at hall
      exact hall u (by simpa using hu)
    · cases hzz

theorem fzs_rep (X : Nat → Prop) (us : List Value) (h1 : ∀ u ∈ us, u.oneCell' = true) : LRep (WRep w X β) (fzs (us.map fvOf)) us := by
  refine ⟨by simp [fzs], fun j c u hc hu => ?_⟩
  simp only [fzs, List.getElem?_map, hu, Option.map_some, Option.some.injEq] at hc
  subst hc
  exact .a _ _ (.fz _ _ (fvOf_rep w X u (h1 u (List.mem_of_getElem? hu))))

theorem box_rep {X : Nat → Prop} {cs : List WV} {us : List Value} (hl : LRep (WRep w X β) cs us) : [cs].length * cs.length ≤ us.length ∧ (∀ e ∈ [cs], e.length = cs.length) ∧
    ∀ (i j : Nat) (e : List WV) (c : WV), [cs][i]? = some e → e[j]? = some c → ∃ u, us[i * cs.length + j]? = some u ∧ WRep w X β c u := by
  refine ⟨by simp [hl.1], by simp, fun i j e c he hc => ?_⟩
  cases i with
  | zero =>
    simp at he; subst he
    simpa using hl.get hc
  | succ i => simp at he

theorem does_new (hO : Objs h β Y w) (hY : ∀ b, Y b → b < w.heap.size) {fr : Nat} (hfr : β fr = none) (n : Nat) (es : List (List WV)) (us : List Value) (t : TypeId) (dr : Nat) (v : Value) (x : TV) {s : Sem Value} {rd : List Nat}
    (hs : s.run P w = .ok v { w with heap := w.heap.push (.cells us.toArray t (0, 0)), drawn := w.drawn + dr })
    (h1 : es.length * n ≤ us.length) (h2 : ∀ e ∈ es, e.length = n)
    (h3 : ∀ (i j : Nat) (e : List WV) (c : WV), es[i]? = some e → e[j]? = some c → ∃ u, us[i * n + j]? = some u ∧ WRep w (XO Y h β) β c u)
    (hx : ∀ w' β', β' fr = some w.heap.size → w'.shape? w.heap.size = some (t, us.length) → TRep w' (XO Y (upd h fr (.arr n es)) β') β' x v) :
    Does P h β Y w fr ⟨x, [(fr, .arr n es)], rd⟩ (do pure (.value (← s))) := by
  have hm := moves_new hO hY hfr n es us t dr h1 h2 h3
  refine ⟨.value v, v, { w with heap := w.heap.push (.cells us.toArray t (0, 0)), drawn := w.drawn + dr }, upd β fr (some w.heap.size), ?_, .inl rfl, ?_, ?_⟩
  · simp only [Sem.run_bind, hs, Result.andThen_ok, Sem.run_pure]
  · rw [over_one]; exact hm
  · rw [over_one]
    exact hx _ _ (by simp [upd]) (by simp [World.shape?])

theorem alloc_does (hO : Objs h β Y w) (hY : ∀ b, Y b → b < w.heap.size) {fr : Nat} (hfr : β fr = none) {t : TypeId} {d : TyD} {z : List FV} (hd : tyOf P t = some d) (hz : d.zero = some z) :
    Does P h β Y w fr ⟨.c (.a (.ep fr z.length 0 0)), [(fr, .arr z.length [fzs z])], []⟩ (do pure (.value (← Instr.alloc t true (.tuple #[])))) := by
  obtain ⟨v, hv, rfl, h1, _⟩ := zero_spec (w := w) hd hz
  have hl := fzs_rep (w := w) (β := β) (XO Y h β) v.cells.toList h1
  obtain ⟨b1, b2, b3⟩ := box_rep hl
  have hlen : (fzs (v.cells.toList.map fvOf)).length = (v.cells.toList.map fvOf).length := by simp [fzs]
  rw [hlen] at b1 b2 b3
  refine does_new hO hY hfr _ _ v.cells.toList t 0 (.pointer (some ⟨w.heap.size, 0, none⟩)) _ ?_ b1 b2 b3 ?_
  · simp only [Instr.alloc, Sem.run_bind, hv, Result.andThen_ok, newVar, newRow, run_newObj, Sem.run_pure, Array.toArray_toList, Nat.add_zero]
  · intro w' β' hb _
    have := ARep.ep (w := w') (X := XO Y (upd h fr (.arr (v.cells.toList.map fvOf).length [fzs (v.cells.toList.map fvOf)])) β') (β := β') fr (v.cells.toList.map fvOf).length 0 0 _ hb
    simp only [Nat.zero_mul, Nat.add_zero] at this
    exact .a _ _ this

theorem box_does (hO : Objs h β Y w) (hY : ∀ b, Y b → b < w.heap.size) {fr : Nat} (hfr : β fr = none) {t : TypeId} {x : TV} {u : Value} {cs : List WV} (hx : TRep w (XO Y h β) β x u) (hc : cellsT x = some cs) :
    Does P h β Y w fr ⟨.c (.a (.ep fr cs.length 0 0)), [(fr, .arr cs.length [cs])], []⟩ (do pure (.value (← Instr.box t u))) := by
  obtain ⟨b1, b2, b3⟩ := box_rep (cellsT_rep hx hc)
  refine does_new hO hY hfr _ _ u.cells.toList t 0 (.pointer (some ⟨w.heap.size, 0, none⟩)) _ ?_ b1 b2 b3 ?_
  · simp [Instr.box, newVar, newRow]
  · intro w' β' hb _
    have := ARep.ep (w := w') (X := XO Y (upd h fr (.arr cs.length [cs])) β') (β := β') fr cs.length 0 0 _ hb
    simp only [Nat.zero_mul, Nat.add_zero] at this
    exact .a _ _ this

theorem flat_live (x : AObj) : isLive (flat x) ↔ isLive x := by cases x <;> simp [flat, isLive]
theorem obj_cells (hO : Objs h β Y w) {o b n : Nat} {es : List (List WV)} (ho : flat (h o) = .arr n es) (hb : β o = some b) : ∃ (us : List Value) (t : TypeId), w.heap[b]? = some (.cells us.toArray t (0, 0)) ∧ es.length * n ≤ us.length ∧ (∀ e ∈ es, e.length = n) ∧
    ∀ (i j : Nat) (e : List WV) (c : WV), es[i]? = some e → e[j]? = some c → ∃ u, us[i * n + j]? = some u ∧ WRep w (XO Y h β) β c u := by
  have hl : isLive (h o) := by rw [← flat_live, ho]; trivial
  have := hO.rep o b hl hb
  unfold ORep at this
  rw [ho] at this
  exact this

theorem row_fits {es : List (List WV)} {n i L : Nat} {e : List WV} (h1 : es.length * n ≤ L) (he : es[i]? = some e) (hn : e.length = n) : i * n + n ≤ L := by
  have hi := (List.getElem?_eq_some_iff.1 he).1
  have : (i + 1) * n ≤ es.length * n := Nat.mul_le_mul_right _ hi
  rw [Nat.add_mul] at this
  omega

/-- An element's cells. -/
theorem elem_rep {X : Nat → Prop} {es : List (List WV)} {n i : Nat} {us : List Value} {e : List WV} (h1 : es.length * n ≤ us.length) (h2 : ∀ e ∈ es, e.length = n)
    (h3 : ∀ (i j : Nat) (e : List WV) (c : WV), es[i]? = some e → e[j]? = some c → ∃ u, us[i * n + j]? = some u ∧ WRep w X β c u) (he : es[i]? = some e) : LRep (WRep w X β) e ((us.drop (i * n)).take n) := by
  have hn := h2 e (List.mem_of_getElem? he)
  have hf := row_fits h1 he hn
  refine ⟨by simp; omega, fun j c u hc hu => ?_⟩
  obtain ⟨u', hu', hr⟩ := h3 i j e c he hc
  rw [List.getElem?_take, List.getElem?_drop] at hu
  split at hu
  · rw [hu'] at hu; injection hu with hu; subst hu; exact hr
  · cases hu

theorem load_run (hO : Objs h β Y w) {t : TypeId} {d : TyD} {x : TV} {u : Value} {r : TV × List Nat} (hd : tyOf P t = some d) (hx : TRep w (XO Y h β) β x u) (hl : loadP d h x = some r) :
    ∃ v, (Instr.loadAt t u).run P w = .ok v w ∧ TRep w (XO Y h β) β r.1 v := by
  unfold loadP at hl
  split at hl
  · rename_i o n i j
    split at hl
    · rename_i m es ho
      split at hl
      · rename_i hm
        subst hm
        split at hl
        · rename_i e he
          split at hl <;> simp only [Option.some.injEq, reduceCtorEq] at hl
          rename_i v hv
          subst hl
          obtain ⟨b, hb, rfl⟩ := hx.ep_inv
          obtain ⟨us, tt, g1, g2, g3, g4⟩ := obj_cells hO (by rw [ho]; rfl) hb
          have hel := elem_rep g2 g3 g4 he
          refine loadA_run hd _ (hel.drop j) (fun k u hu => ?_) hv
          rw [List.getElem?_drop, List.getElem?_take, List.getElem?_drop] at hu
          split at hu
          · simp only [World.cell?, g1, List.getElem?_toArray, Option.isSome_none, Bool.false_eq_true, if_false]
            rw [Nat.add_assoc]; exact hu
          · cases hu
        · cases hl
      · cases hl
    · cases hl
  · rename_i cs
    split at hl <;> simp only [Option.some.injEq, reduceCtorEq] at hl
    rename_i v hv
    subst hl
    have h1 := hx.fz_inv
    cases h1 with
    | pt _ b off f h3 h4 h5 h6 =>
      refine loadA_run hd ((List.range cs.length).map f) ?_ (fun j u hu => ?_) hv
      · refine ⟨by simp [fzs], fun j c u hc hu => ?_⟩
        simp only [fzs, List.getElem?_map] at hc hu
        obtain ⟨g, hg, rfl⟩ := Option.map_eq_some_iff.1 hc
        obtain ⟨k, hk, rfl⟩ := Option.map_eq_some_iff.1 hu
        have hkj : k = j := by
          rw [List.getElem?_range (by have := (List.getElem?_eq_some_iff.1 hg).1; omega)] at hk
          simpa using hk.symm
        subst hkj
        exact .a _ _ (.fz _ _ (h6 k g hg))
      · simp only [List.getElem?_map] at hu
        obtain ⟨k, hk, rfl⟩ := Option.map_eq_some_iff.1 hu
        have hj : j < cs.length := by
          have := (List.getElem?_eq_some_iff.1 hk).1
          simpa using this
        have hkj : k = j := by
          rw [List.getElem?_range hj] at hk
          simpa using hk.symm
        subst hkj
        exact h5 k _ (List.getElem?_eq_getElem hj)
  · cases hl

theorem load_does (hO : Objs h β Y w) {fr : Nat} {t : TypeId} {d : TyD} {x : TV} {u : Value} {r : TV × List Nat} (hd : tyOf P t = some d) (hx : TRep w (XO Y h β) β x u) (hl : loadP d h x = some r) :
    Does P h β Y w fr ⟨r.1, [], r.2⟩ (do pure (.value (← Instr.loadAt t u))) := does_value hO (load_run hO hd hx hl)

theorem LRep.cell {X : Nat → Prop} {cs : List WV} {us : List Value} (h : LRep (WRep w X β) cs us) : ∀ u ∈ us, u.oneCell' = true := by
  intro u hu
  obtain ⟨j, hj⟩ := List.getElem?_of_mem hu
  have hlt : j < cs.length := by have := (List.getElem?_eq_some_iff.1 hj).1; have := h.1; omega
  exact (h.2 j _ u (List.getElem?_eq_getElem hlt) hj).oneCell

theorem splice_get {us cs : List Value} {a j : Nat} (h : a + cs.length ≤ us.length) : (us.take a ++ cs ++ us.drop (a + cs.length))[j]? = if j < a then us[j]? else if j < a + cs.length then cs[j - a]? else us[j]? := by
  simp only [List.getElem?_append, List.length_append, List.length_take, List.getElem?_take, List.getElem?_drop, show min a us.length = a by omega]
  by_cases h1 : j < a
  · simp [h1, show j < a + cs.length by omega]
  · by_cases h2 : j < a + cs.length
    · simp [h1, h2]
    · simp [h1, h2, show a + cs.length + (j - (a + cs.length)) = j by omega]

theorem spliceW_get {e cs : List WV} {a j : Nat} (h : a + cs.length ≤ e.length) : (splice e a cs)[j]? = if j < a then e[j]? else if j < a + cs.length then cs[j - a]? else e[j]? := by
  unfold splice
  simp only [List.getElem?_append, List.length_append, List.length_take, List.getElem?_take, List.getElem?_drop, show min a e.length = a by omega]
  by_cases h1 : j < a
  · simp [h1, show j < a + cs.length by omega]
  · by_cases h2 : j < a + cs.length
    · simp [h1, h2]
    · simp [h1, h2, show a + cs.length + (j - (a + cs.length)) = j by omega]

theorem store_does (hO : Objs h β Y w) {fr : Nat} {t : TypeId} {d : TyD} {x y : TV} {u v : Value} {r : AR} (hd : tyOf P t = some d) (hx : TRep w (XO Y h β) β x u) (hy : TRep w (XO Y h β) β y v) (hs : storeP d h x y = some r) :
    Does P h β Y w fr r (do (Instr.storeAt t u v); pure .skip) := by
  unfold storeP at hs
  split at hs
  · rename_i cs o n i j hcs
    split at hs
    · rename_i m es ho
      split at hs
      · rename_i hm
        obtain ⟨hm, hsz⟩ := hm
        subst hm
        split at hs
        · rename_i e he
          split at hs <;> simp only [Option.some.injEq, reduceCtorEq] at hs
          rename_i hfit
          subst hs
          obtain ⟨b, hb, rfl⟩ := hx.ep_inv
          obtain ⟨us, tt, g1, g2, g3, g4⟩ := obj_cells hO (by rw [ho]; rfl) hb
          have hcl := cellsT_rep hy hcs
          have hen := g3 e (List.mem_of_getElem? he)
          have hrow := row_fits g2 he hen
          have hlen : v.cells.toList.length = cs.length := hcl.1.symm
          have hfit2 : i * m + j + v.cells.toList.length ≤ us.length := by omega
          have hrun := run_storeCells_at P b (i * m + j) tt v.cells.toList 0 us.toArray w g1 (by simpa using hfit2) hcl.cell
          simp only [Nat.add_zero] at hrun
          have hsize : v.cells.size = d.size := by rw [← hsz, ← hlen]; simp
          have hmv := moves_set hO (by rw [ho]; trivial : isLive (h o)) hb (us.take (i * m + j) ++ v.cells.toList ++ us.drop (i * m + j + v.cells.toList.length)) us tt g1 (by simp; omega) m (es.set i (splice e j cs))
            (by simp only [List.length_set, List.length_append, List.length_take, List.length_drop]; omega)
            (fun e' he' => by
              rcases List.mem_or_eq_of_mem_set he' with h1 | h1
              · exact g3 e' h1
              · subst h1; unfold splice; simp; omega)
            (fun i' j' e' c he' hc => by
              rw [splice_get (by omega)]
              rw [List.getElem?_set] at he'
              split at he'
              · rename_i hii
                subst hii
                split at he'
                · injection he' with he'
                  subst he'
                  rw [spliceW_get (by omega)] at hc
                  by_cases k1 : j' < j
                  · rw [if_pos k1] at hc
                    rw [if_pos (by omega)]
                    exact g4 i j' e c he hc
                  · rw [if_neg k1] at hc
                    rw [if_neg (by omega)]
                    by_cases k2 : j' < j + cs.length
                    · rw [if_pos k2] at hc
                      rw [if_pos (by omega), show i * m + j' - (i * m + j) = j' - j by omega]
                      obtain ⟨z, hz, hr⟩ := hcl.get hc
                      exact ⟨z, hz, hr⟩
                    · rw [if_neg k2] at hc
                      rw [if_neg (by omega)]
                      exact g4 i j' e c he hc
                · cases he'
              · rename_i hii
                have hen' := g3 e' (List.mem_of_getElem? he')
                have hj' : j' < m := by rw [← hen']; exact (List.getElem?_eq_some_iff.1 hc).1
                obtain ⟨z, hz, hr⟩ := g4 i' j' e' c he' hc
                refine ⟨z, ?_, hr⟩
                rcases Nat.lt_or_gt_of_ne hii with hlt | hgt
                · have : (i + 1) * m ≤ i' * m := Nat.mul_le_mul_right _ hlt
                  rw [Nat.add_mul] at this
                  rw [if_neg (by omega), if_neg (by omega)]; exact hz
                · have : (i' + 1) * m ≤ i * m := Nat.mul_le_mul_right _ hgt
                  rw [Nat.add_mul] at this
                  rw [if_pos (by omega)]; exact hz)
          refine ⟨.skip, undef, w.setRow b (us.take (i * m + j) ++ v.cells.toList ++ us.drop (i * m + j + v.cells.toList.length)).toArray, β, ?_, .inr ⟨rfl, rfl⟩, ?_, trivial⟩
          · have hsv : (storeVar t ⟨b, i * m + j, none⟩ v).run P w = .ok () (w.setRow b (us.take (i * m + j) ++ v.cells.toList ++ us.drop (i * m + j + v.cells.toList.length)).toArray) := by
              simp only [storeVar, Sem.run_bind, run_sizeOf hd, Result.andThen_ok, hsize, ne_eq, not_true_eq_false, if_false, Sem.run_pure]
              exact hrun
            simp only [Sem.run_bind, Instr.storeAt, Instr.sureAddr, Sem.run_pure, Result.andThen_ok, hsv]
          · rw [over_one]
            exact hmv.weaken (fun _ h => h.elim)
        · cases hs
      · cases hs
    · cases hs
  · cases hs

theorem len_does (hO : Objs h β Y w) {fr : Nat} {t ty : TypeId} {d : TyD} {x : TV} {u : Value} {r : Nat × List Nat} (hd : tyOf P t = some d) (hx : TRep w (XO Y h β) β x u) (hl : lenP d h x = some r) :
    Does P h β Y w fr ⟨iV r.1, [], r.2⟩ (do pure (.value (← Builtin.len_ #[t] ty #[u]))) := by
  refine does_value hO ?_
  have fin : ∀ n : Nat, (Builtin.len_ #[t] ty #[u]).run P w = .ok (goInt n) w → r.1 = n → ∃ z, (Builtin.len_ #[t] ty #[u]).run P w = .ok z w ∧ TRep w (XO Y h β) β (iV r.1) z := fun n h1 h2 => ⟨_, h1, by rw [h2]; exact .int_mk _ _⟩
  unfold lenP at hl
  split at hl
  · rename_i e hk
    have ht := slice_spec hd hk
    unfold lenSl at hl
    split at hl
    · injection hl with hl; subst hl; rw [hx.nils_inv] at fin ⊢; exact fin 0 (by simp [Builtin.len_, run_underlying ht, goInt]) rfl
    · injection hl with hl; subst hl
      rename_i nn n es
      have h1 := hx.fz_inv
      cases h1 with
      | slnil => exact fin 0 (by simp [Builtin.len_, run_underlying ht, goInt]) rfl
      | sl0 _ _ a => exact fin 0 (by simp [Builtin.len_, run_underlying ht, goInt]) rfl
      | sl _ _ _ b off cap len f g1 => subst g1; exact fin es.length (by simp [Builtin.len_, run_underlying ht, goInt]) rfl
    · injection hl with hl; subst hl
      have h1 := hx.fz_inv
      cases h1 with
      | z0 _ a => exact fin 0 (by simp [Builtin.len_, run_underlying ht, goInt]) rfl
      | z0n => exact fin 0 (by simp [Builtin.len_, run_underlying ht, goInt]) rfl
    · injection hl with hl; subst hl
      rename_i o n off len
      obtain ⟨b, q, cap, sz, tt, _, _, _, _, _, rfl⟩ := hx.osl_inv
      exact fin len (by simp [Builtin.len_, run_underlying ht, goInt]) rfl
    · cases hl
  · rename_i hk
    have ht := str_spec hd hk
    unfold lenStr at hl
    split at hl
    · injection hl with hl; subst hl; rw [hx.str_inv] at fin ⊢
      rename_i l
      have hsz : (⟨l.toArray⟩ : ByteArray).size = l.length := by simp [ByteArray.size]
      exact fin l.length (by simp [Builtin.len_, run_underlying ht, goInt, hsz]) rfl
    · cases hl
  · rename_i kt et hk
    obtain ⟨u', hu', hk'⟩ := kind_spec hd
    rw [hk'] at hk
    have ht := kindOf_map hk
    subst ht
    unfold lenMap at hl
    split at hl
    · rename_i o
      split at hl
      · rename_i es ho
        injection hl with hl; subst hl
        obtain ⟨b, hb, rfl⟩ := hx.mp_inv
        have hrep := hO.rep o b (by rw [ho]; trivial) hb
        rw [ho] at hrep
        unfold ORep flat at hrep
        obtain ⟨ms, ck, g1, g2, _⟩ := hrep
        refine fin es.length ?_ rfl
        simp only [Builtin.len_, Sem.run_bind, run_underlying hu', Result.andThen_ok, List.getElem?_toArray, List.getElem?_cons_zero, getObj, Sem.run, g1, Sem.run_pure, List.size_toArray, g2]
      · cases hl
    · cases hl
  · rename_i n e hk
    have ht := arr_spec hd hk
    simp only [Option.some.injEq] at hl
    subst hl
    exact fin n (by simp [Builtin.len_, run_underlying ht, goInt]) rfl
  · cases hl

theorem numsA_rep {X : Nat → Prop} : ∀ {l : List TV} {us : List Value} {k : IntKind} {ns : List Int}, numsA l = some (k, ns) → LRep (TRep w X β) l us → us = ns.map (Value.int k) ∧ ns ≠ []
  | [], us, k, ns, h, _ => by simp [numsA] at h
  | [.c (.a (.fz (.int k' n)))], us, k, ns, h, hl => by
    simp only [numsA, Option.some.injEq, Prod.mk.injEq] at h
    obtain ⟨rfl, rfl⟩ := h
    obtain ⟨u, us', rfl, hu, hr⟩ := hl.cons_inv
    rw [hr.nil_inv, TRep.int_inv hu]
    simp
  | .c (.a (.fz (.int k' n))) :: y :: r, us, k, ns, h, hl => by
    simp only [numsA] at h
    obtain ⟨⟨k2, l2⟩, h1, h2⟩ := Option.bind_eq_some_iff.1 h
    simp only at h2
    split at h2
    · rename_i e
      injection h2 with h2
      injection h2 with e1 e2
      subst e1; subst e2; subst e
      obtain ⟨u, us', rfl, hu, hr⟩ := hl.cons_inv
      obtain ⟨g1, g2⟩ := numsA_rep h1 hr
      rw [g1, TRep.int_inv hu]
      simp
    · cases h2
  | .any :: r, us, k, ns, h, _ => by simp [numsA] at h
  | .agg _ :: r, us, k, ns, h, _ => by simp [numsA] at h
  | .tup _ :: r, us, k, ns, h, _ => by simp [numsA] at h
  | .c (.fn _ _ _) :: r, us, k, ns, h, _ => by simp [numsA] at h
  | .c (.a (.ep _ _ _ _)) :: r, us, k, ns, h, _ => by simp [numsA] at h
  | .c (.a (.osl _ _ _ _)) :: r, us, k, ns, h, _ => by simp [numsA] at h
  | .c (.a (.mp _)) :: r, us, k, ns, h, _ => by simp [numsA] at h
  | .c (.a .any) :: r, us, k, ns, h, _ => by simp [numsA] at h
  | .c (.a (.fz (.bool _))) :: r, us, k, ns, h, _ => by simp [numsA] at h
  | .c (.a (.fz (.str _))) :: r, us, k, ns, h, _ => by simp [numsA] at h
  | .c (.a (.fz (.cst _))) :: r, us, k, ns, h, _ => by simp [numsA] at h
  | .c (.a (.fz .nils)) :: r, us, k, ns, h, _ => by simp [numsA] at h
  | .c (.a (.fz (.sl _ _ _))) :: r, us, k, ns, h, _ => by simp [numsA] at h
  | .c (.a (.fz (.pt _))) :: r, us, k, ns, h, _ => by simp [numsA] at h

theorem fold_max2 (k : IntKind) : ∀ (l : List Int) (x : Int), ((l.map (Value.int k)).foldlM Builtin.max2 (.int k x)).run P w = .ok (.int k (l.foldl max x)) w
  | [], x => by simp
  | y :: l, x => by
    simp only [List.map_cons, List.foldlM_cons, Builtin.max2, Sem.run_bind, Sem.run_pure, Result.andThen_ok, List.foldl_cons]
    rw [show (if y > x then y else x) = max x y by simp only [Int.max_def]; split <;> split <;> omega]
    exact fold_max2 k l _
theorem fold_min2 (k : IntKind) : ∀ (l : List Int) (x : Int), ((l.map (Value.int k)).foldlM Builtin.min2 (.int k x)).run P w = .ok (.int k (l.foldl min x)) w
  | [], x => by simp
  | y :: l, x => by
    simp only [List.map_cons, List.foldlM_cons, Builtin.min2, Sem.run_bind, Sem.run_pure, Result.andThen_ok, List.foldl_cons]
    rw [show (if y < x then y else x) = min x y by simp only [Int.min_def]; split <;> split <;> omega]
    exact fold_min2 k l _

theorem minA_run {X : Nat → Prop} {m : Bool} {l : List TV} {us : List Value} {r : TV} (ts : Array TypeId) (ty : TypeId) (h : minA m l = some r) (hl : LRep (TRep w X β) l us) :
    ∃ z, (if m then Builtin.max_ ts ty us.toArray else Builtin.min_ ts ty us.toArray).run P w = .ok z w ∧ TRep w X β r z := by
  unfold minA at h
  split at h
  · rename_i p hp
    obtain ⟨k, ns⟩ := p
    injection h with h
    subst h
    obtain ⟨rfl, hne⟩ := numsA_rep hp hl
    cases ns with
    | nil => exact absurd rfl hne
    | cons n ns =>
      refine ⟨.int k (if m = true then foldMax (n :: ns) else foldMin (n :: ns)), ?_, .int_mk _ _⟩
      cases m
      · simpa [Builtin.min_, foldMin] using fold_min2 (P := P) (w := w) k ns n
      · simpa [Builtin.max_, foldMax] using fold_max2 (P := P) (w := w) k ns n
  · cases h
end
end Go.AM
