/- Soundness: append; slices that are written out. No conditions. -/
import Derived.Test.YtclicclinfnmlaaAmSound6
namespace Go.AM

theorem Moves.trans {h h1 h2 : Nat → AObj} {β β1 β2 : Nat → Option Nat} {Y : Nat → Prop} {w w1 w2 : World} {f1 f2 f : Nat → Prop} (m1 : Moves h h1 β β1 Y w w1 f1) (m2 : Moves h1 h2 β1 β2 Y w1 w2 f2)
    (hf : ∀ o, f1 o → β o = none) (hO : Objs h β Y w) (g1 : ∀ o, f1 o → f o) (g2 : ∀ o, f2 o → f o) : Moves h h2 β β2 Y w w2 f := by
  have own : ∀ b, b < w.heap.size → Own h1 β1 b → Own h β b := by
    rintro b hb ⟨o, hl, ho⟩
    rcases m1.bnew o b ho with h' | ⟨hfo, h' | h'⟩
    · rcases m1.lmono o hl with hl' | hfo
      · exact ⟨o, hl', h'⟩
      · rw [hf o hfo] at h'; cases h'
    · omega
    · exact h'
  have hs := m1.good.size
  refine ⟨m1.good.trans m2.good own, m2.objs, fun o b hb => m2.bmono o b (m1.bmono o b hb), fun o b hb => ?_, fun o hl => ?_⟩
  · rcases m2.bnew o b hb with h' | ⟨hfo, h' | h'⟩
    · exact (m1.bnew o b h').imp id fun ⟨x, y⟩ => ⟨g1 o x, y⟩
    · exact .inr ⟨g2 o hfo, .inl (by omega)⟩
    · by_cases hb' : b < w.heap.size
      · exact .inr ⟨g2 o hfo, .inr (own b hb' h')⟩
      · exact .inr ⟨g2 o hfo, .inl (by omega)⟩
  · rcases m2.lmono o hl with h' | h'
    · exact (m1.lmono o h').imp id (g1 o)
    · exact .inr (g2 o h')

section
variable {P : Program} {h : Nat → AObj} {β : Nat → Option Nat} {Y : Nat → Prop} {w : World}

theorem flatten_get {n : Nat} : ∀ {es : List (List WV)} (_ : ∀ e ∈ es, e.length = n) (i j : Nat), j < n → es.flatten[i * n + j]? = (es[i]?).bind (·[j]?)
  | [], _, i, j, _ => by simp
  | e :: es, hn, i, j, hj => by
    have he := hn e (by simp)
    cases i with
    | zero => simp [List.getElem?_append, he, hj]
    | succ i =>
      have ih := flatten_get (es := es) (fun e h => hn e (by simp [h])) i j hj
      simp only [List.flatten_cons, List.getElem?_cons_succ]
      rw [← ih, List.getElem?_append, he, if_neg (by rw [Nat.add_mul]; omega)]
      congr 1
      rw [Nat.add_mul]; omega

theorem flatten_len {n : Nat} : ∀ {es : List (List WV)} (_ : ∀ e ∈ es, e.length = n), es.flatten.length = es.length * n
  | [], _ => by simp
  | e :: es, hn => by
    have := flatten_len (es := es) (fun e h => hn e (by simp [h]))
    simp [this, hn e (by simp), Nat.add_mul, Nat.add_comm]

theorem elems_of_flat {X : Nat → Prop} {n : Nat} {es : List (List WV)} {us : List Value} (hn : ∀ e ∈ es, e.length = n) (hl : LRep (WRep w X β) es.flatten us) :
    ∀ (i j : Nat) (e : List WV) (c : WV), es[i]? = some e → e[j]? = some c → ∃ u, us[i * n + j]? = some u ∧ WRep w X β c u := by
  intro i j e c he hc
  have hj : j < n := by rw [← hn e (List.mem_of_getElem? he)]; exact (List.getElem?_eq_some_iff.1 hc).1
  exact hl.get (by rw [flatten_get hn i j hj, he]; exact hc)

theorem flat_of_elems {X : Nat → Prop} {n : Nat} {es : List (List WV)} {us : List Value} (hn : ∀ e ∈ es, e.length = n) (hlen : us.length = es.length * n)
    (h3 : ∀ (i j : Nat) (e : List WV) (c : WV), es[i]? = some e → e[j]? = some c → ∃ u, us[i * n + j]? = some u ∧ WRep w X β c u) : LRep (WRep w X β) es.flatten us := by
  refine ⟨by rw [flatten_len hn, hlen], fun k c u hc hu => ?_⟩
  have hk : k < es.length * n := by rw [← hlen]; exact (List.getElem?_eq_some_iff.1 hu).1
  have hn0 : 0 < n := by rcases Nat.eq_zero_or_pos n with h0 | h0; · subst h0; simp at hk
                         · exact h0
  have hkk : k / n * n + k % n = k := by rw [Nat.mul_comm]; exact Nat.div_add_mod k n
  rw [← hkk] at hc hu
  rw [flatten_get hn _ _ (Nat.mod_lt _ hn0)] at hc
  obtain ⟨e, he, hc⟩ := Option.bind_eq_some_iff.1 hc
  obtain ⟨u', hu', hr⟩ := h3 _ _ e c he hc
  rw [hu] at hu'; injection hu' with hu'; subst hu'; exact hr

/-- What an append's second argument holds. -/
theorem elemsOf_rep (hO : Objs h β Y w) {n : Nat} {x : TV} {v : Value} {new : List (List WV)} {rd : List Nat} (he : elemsOf n h x = some (new, rd)) (hx : TRep w (XO Y h β) β x v) (hn0 : 0 < n) :
    (∀ e ∈ new, e.length = n) ∧ ∃ (news : List Value), LRep (WRep w (XO Y h β) β) new.flatten news ∧ ((v = .slice none 0 0 ∧ new = []) ∨
      ∃ a cap, v = .slice (some a) new.length cap ∧ ∀ j u, news[j]? = some u → w.cell? (a.add j) = some u) := by
  unfold elemsOf at he
  split at he
  · simp only [Option.some.injEq, Prod.mk.injEq] at he
    obtain ⟨rfl, rfl⟩ := he
    exact ⟨by simp, [], .nil, .inl ⟨hx.nils_inv, rfl⟩⟩
  · rename_i nn m es
    split at he
    · rename_i hm
      subst hm
      simp only [Option.some.injEq, Prod.mk.injEq] at he
      obtain ⟨rfl, rfl⟩ := he
      have h1 := hx.fz_inv
      cases h1 with
      | slnil => exact ⟨by simp, [], .nil, .inl ⟨rfl, rfl⟩⟩
      | sl0 _ _ a => exact ⟨by simp, [], .nil, .inr ⟨a, 0, rfl, fun j u h => by simp at h⟩⟩
      | sl _ _ _ b off cap len f g1 g2 g3 g4 g5 g6 g7 =>
        subst g1
        have hn : ∀ e ∈ es.map fzs, e.length = m := by
          intro e he
          obtain ⟨e', he', rfl⟩ := List.mem_map.1 he
          obtain ⟨i, hi⟩ := List.getElem?_of_mem he'
          simp [fzs, g5 i e' hi]
        refine ⟨hn, (List.range (es.length * m)).map (fun k => f (k / m) (k % m)), ?_, .inr ⟨⟨b, off, none⟩, cap, by simp, ?_⟩⟩
        · refine flat_of_elems hn (by simp) (fun i j e c he hc => ?_)
          rw [List.getElem?_map] at he
          obtain ⟨e', he', rfl⟩ := Option.map_eq_some_iff.1 he
          rw [fzs, List.getElem?_map] at hc
          obtain ⟨c', hc', rfl⟩ := Option.map_eq_some_iff.1 hc
          have hi := (List.getElem?_eq_some_iff.1 he').1
          have hj : j < m := by rw [← g5 i e' he']; exact (List.getElem?_eq_some_iff.1 hc').1
          have hlt : i * m + j < es.length * m := by
            have : (i + 1) * m ≤ es.length * m := Nat.mul_le_mul_right _ hi
            rw [Nat.add_mul] at this; omega
          refine ⟨f i j, ?_, .a _ _ (.fz _ _ (g7 i j e' c' he' hc'))⟩
          rw [List.getElem?_map, List.getElem?_range hlt]
          simp only [Option.map_some, Option.some.injEq]
          rw [Nat.mul_comm i m, Nat.mul_add_div hn0, Nat.div_eq_of_lt hj, Nat.mul_add_mod, Nat.mod_eq_of_lt hj, Nat.add_zero]
        · intro k u hu
          rw [List.getElem?_map] at hu
          obtain ⟨k', hk', rfl⟩ := Option.map_eq_some_iff.1 hu
          have hk : k < es.length * m := by simpa using (List.getElem?_eq_some_iff.1 hk').1
          rw [List.getElem?_range hk] at hk'
          injection hk' with hk'
          subst hk'
          have hi : k / m < es.length := by rw [Nat.div_lt_iff_lt_mul hn0]; exact hk
          have hej := g5 _ _ (List.getElem?_eq_getElem hi)
          have hj : k % m < es[k / m].length := by rw [hej]; exact Nat.mod_lt _ hn0
          have := g6 _ _ _ _ (List.getElem?_eq_getElem hi) (List.getElem?_eq_getElem hj)
          rw [Addr.add_lit]
          rw [show off + k = off + k / m * m + k % m by have := Nat.div_add_mod k m; rw [Nat.mul_comm] at this; omega]
          exact this
    · cases he
  · simp only [Option.some.injEq, Prod.mk.injEq] at he
    obtain ⟨rfl, rfl⟩ := he
    have h1 := hx.fz_inv
    cases h1 with
    | z0 _ a => exact ⟨by simp, [], .nil, .inr ⟨a, 0, rfl, fun j u h => by simp at h⟩⟩
    | z0n => exact ⟨by simp, [], .nil, .inl ⟨rfl, rfl⟩⟩
  · rename_i o m off len
    split at he
    · rename_i m' es ho
      split at he
      · rename_i hc
        obtain ⟨rfl, rfl, hfit⟩ := hc
        simp only [Option.some.injEq, Prod.mk.injEq] at he
        obtain ⟨rfl, rfl⟩ := he
        obtain ⟨b, q, cap, sz, tt, hb, hsh, hlc, hcap, hq, rfl⟩ := hx.osl_inv
        obtain ⟨us, t, g1, g2, g3, g4⟩ := obj_cells hO (by rw [ho]; rfl) hb
        have hn : ∀ e ∈ (es.drop off).take len, e.length = m' := fun e he => g3 e (List.mem_of_mem_drop (List.mem_of_mem_take he))
        have hlen : ((es.drop off).take len).length = len := by simp; omega
        have hmul : (off + len) * m' ≤ es.length * m' := Nat.mul_le_mul_right _ hfit
        refine ⟨hn, (us.drop (off * m')).take (len * m'), ?_, .inr ⟨⟨b, q, none⟩, cap, by rw [hlen], ?_⟩⟩
        · refine flat_of_elems hn (by rw [hlen]; simp; rw [Nat.add_mul] at hmul; omega) (fun i j e c he hc => ?_)
          rw [List.getElem?_take, List.getElem?_drop] at he
          split at he
          · rename_i hi
            obtain ⟨u, hu, hr⟩ := g4 _ j e c he hc
            refine ⟨u, ?_, hr⟩
            have hj : j < m' := by rw [← g3 e (List.mem_of_getElem? he)]; exact (List.getElem?_eq_some_iff.1 hc).1
            have hlt : i * m' + j < len * m' := by
              have : (i + 1) * m' ≤ len * m' := Nat.mul_le_mul_right _ hi
              rw [Nat.add_mul] at this; omega
            rw [List.getElem?_take, if_pos hlt, List.getElem?_drop, show off * m' + (i * m' + j) = (off + i) * m' + j by rw [Nat.add_mul]; omega]
            exact hu
          · cases he
        · intro k u hu
          rw [List.getElem?_take, List.getElem?_drop] at hu
          split at hu
          · rename_i hk
            have hl0 : 0 < len := by rcases Nat.eq_zero_or_pos len with h0 | h0; · subst h0; simp at hk
                                     · exact h0
            rw [hq.resolve_right (by omega), Addr.add_lit]
            simp only [World.cell?, g1, List.getElem?_toArray, Option.isSome_none, Bool.false_eq_true, if_false]
            exact hu
          · cases hu
      · cases he
    · cases he
  · cases he

/-- Nothing is appended. -/
theorem append_none (t ty e : TypeId) (i : TypeInfo) (ht : P.underlying t = some (.slice e)) (hi : P.info? e = some i) (base : Option Addr) (len cap : Nat) (hlc : len ≤ cap) (v : Value) (hv : v = .slice none 0 0 ∨ ∃ a c, v = .slice (some a) 0 c) :
    (Builtin.append_ #[t, t] ty #[.slice base len cap, v]).run P w = .ok (.slice base len cap) w := by
  have hf : (Builtin.firstCells i.size 0 v).run P w = .ok #[] w := by
    rcases hv with rfl | ⟨a, c, rfl⟩
    · simp [Builtin.firstCells]
    · simp [Builtin.firstCells, loadCells, loadCellsFrom]
  have hl : (Builtin.lenOf v).run P w = .ok 0 w := by
    rcases hv with rfl | ⟨a, c, rfl⟩ <;> simp [Builtin.lenOf]
  cases base <;> simp [Builtin.append_, run_underlying ht, sizeOf, typeInfo, hi, hl, hlc, hf, storeCells]

theorem append_does (hO : Objs h β Y w) (hY : ∀ b, Y b → b < w.heap.size) {fr : Nat} (hfr : β fr = none) {t ty : TypeId} {e : TypeId} {d : TyD} {de : TyD} {s x : TV} {u v : Value} {r : AR} (hd : tyOf P t = some d) (hk : d.kind = .slice e) (hde : tyOf P e = some de)
    (hs : TRep w (XO Y h β) β s u) (hx : TRep w (XO Y h β) β x v) (ha : appendP de fr h s x = some r) :
    Does P h β Y w fr r (do pure (.value (← Builtin.append_ #[t, t] ty #[u, v]))) := by
  have ht := slice_spec hd hk
  unfold appendP at ha
  split at ha
  · rename_i hc
    obtain ⟨hs0, hb0, hb1, hz⟩ := hc
    obtain ⟨z, hz1, hz2⟩ := Option.map_eq_some_iff.1 hz
    obtain ⟨zv, _, hz3, _, i, hi, hiz⟩ := zero_spec (w := w) hde hz1
    obtain ⟨i', _, hi', _, _, hsz, hby, _, _⟩ := tyOf_spec hde
    rw [hi] at hi'; injection hi' with hi'; subst hi'
    have hzs : zv.cells.size = i.size := by rw [← hsz, ← hz2, hz3]; simp
    unfold appendA at ha
    split at ha
    · cases ha
    · rename_i new rd hel
      obtain ⟨hn, news, hfl, hcase⟩ := elemsOf_rep hO hel hx hs0
      have hnl : news.length = new.length * i.size := by rw [← hfl.1, flatten_len hn, hsz]
      have zlen : ∀ k, (Builtin.zeroCells zv.cells k).toList.length = k * i.size := fun k => by rw [Array.length_toList, size_zeroCells, hzs]
      split at ha
      · -- onto nil
        rw [hs.nils_inv]
        split at ha
        · rename_i hnew
          injection ha with ha; subst ha
          have hv : v = .slice none 0 0 ∨ ∃ a c, v = .slice (some a) 0 c := by
            rcases hcase with ⟨h1, _⟩ | ⟨a, c, h1, _⟩
            · exact .inl h1
            · subst hnew; exact .inr ⟨a, c, h1⟩
          exact does_value hO ⟨_, append_none t ty e i ht hi none 0 0 (Nat.le_refl _) v hv, .fz_mk .nils⟩
        · rename_i hnew
          split at ha
          · rename_i hroom
            injection ha with ha; subst ha
            have hm0 : 0 < new.length := by cases new <;> simp_all
            obtain ⟨a, c, rfl, hcell⟩ := hcase.resolve_left (fun h => hnew h.2)
            have hroom : new.length * i.bytes ≤ 140737488355328 := by rw [← hby]; exact hroom
            have hle : new.length ≤ new.length * i.bytes := Nat.le_mul_of_pos_right _ (by rw [← hby]; exact hb0)
            have hr := run_append_nil (P := P) w t ty e i zv ht hi hiz a new.length c news hnl hcell hm0 (by omega) (by omega)
            have hge := grownCap_ge w new.length 0 e
            refine does_new hO hY hfr de.size new (news ++ (Builtin.zeroCells zv.cells (grownCap w new.length 0 e - new.length)).toList) e 1 (.slice (some ⟨w.heap.size, 0, none⟩) new.length (grownCap w new.length 0 e)) _ (hr.trans ?_) ?_ hn ?_ ?_
            · congr 1
              simp only [World.alloc, World.drew]
              congr 3
              apply Array.ext'
              simp
            · rw [List.length_append, hnl, hsz]; omega
            · rw [hsz]
              intro i' j e' c' he' hc'
              rw [hsz] at hn
              obtain ⟨u', hu', hr'⟩ := elems_of_flat hn hfl i' j e' c' he' hc'
              exact ⟨u', by rw [List.getElem?_append, if_pos (List.getElem?_eq_some_iff.1 hu').1]; exact hu', hr'⟩
            · intro w' β' hb hsh
              refine .a _ _ (.osl fr de.size 0 new.length w.heap.size 0 _ _ e hb hsh hge ?_ (.inl (by simp)))
              rw [List.length_append, hnl, zlen, ← Nat.add_mul, hsz]
              exact Nat.mul_le_mul_right _ (by omega)
          · cases ha
      · -- onto a slice without a place
        have hs' := hs.fz_inv
        have hu : (u = .slice none 0 0) ∨ ∃ a0, u = .slice (some a0) 0 0 := by
          cases hs' with
          | z0 _ a0 => exact .inr ⟨a0, rfl⟩
          | z0n => exact .inl rfl
        split at ha
        · rename_i hnew
          injection ha with ha; subst ha
          have hv : v = .slice none 0 0 ∨ ∃ a c, v = .slice (some a) 0 c := by
            rcases hcase with ⟨h1, _⟩ | ⟨a, c, h1, _⟩
            · exact .inl h1
            · subst hnew; exact .inr ⟨a, c, h1⟩
          rcases hu with rfl | ⟨a0, rfl⟩
          · exact does_value hO ⟨_, append_none t ty e i ht hi none 0 0 (Nat.le_refl _) v hv, hs⟩
          · exact does_value hO ⟨_, append_none t ty e i ht hi (some a0) 0 0 (Nat.le_refl _) v hv, hs⟩
        · rename_i hnew
          split at ha
          · rename_i hroom
            injection ha with ha; subst ha
            have hm0 : 0 < new.length := by cases new <;> simp_all
            obtain ⟨a, c, rfl, hcell⟩ := hcase.resolve_left (fun h => hnew h.2)
            have hroom : new.length * i.bytes ≤ 140737488355328 := by rw [← hby]; exact hroom
            have hle : new.length ≤ new.length * i.bytes := Nat.le_mul_of_pos_right _ (by rw [← hby]; exact hb0)
            have hr : (Builtin.append_ #[t, t] ty #[u, .slice (some a) new.length c]).run P w = .ok (.slice (some ⟨w.heap.size, 0, none⟩) new.length (grownCap w new.length 0 e)) (w.drew.alloc (.cells (news.toArray ++ Builtin.zeroCells zv.cells (grownCap w new.length 0 e - new.length)) e)) := by
              rcases hu with rfl | ⟨a0, rfl⟩
              · exact run_append_nil (P := P) w t ty e i zv ht hi hiz a new.length c news hnl hcell hm0 (by omega) (by omega)
              · have := run_append_grow (P := P) w t ty e i zv ht hi hiz a0 0 0 [] (by simp) (fun j u h => by simp at h) a new.length c news hnl hcell (by omega) (by omega) (growslice_fits (by omega) (by simpa using hroom))
                simpa using this
            have hge := grownCap_ge w new.length 0 e
            refine does_new hO hY hfr de.size new (news ++ (Builtin.zeroCells zv.cells (grownCap w new.length 0 e - new.length)).toList) e 1 (.slice (some ⟨w.heap.size, 0, none⟩) new.length (grownCap w new.length 0 e)) _ (hr.trans ?_) ?_ hn ?_ ?_
            · congr 1
              simp only [World.alloc, World.drew]
              congr 3
              apply Array.ext'
              simp
            · rw [List.length_append, hnl, hsz]; omega
            · rw [hsz]
              intro i' j e' c' he' hc'
              rw [hsz] at hn
              obtain ⟨u', hu', hr'⟩ := elems_of_flat hn hfl i' j e' c' he' hc'
              exact ⟨u', by rw [List.getElem?_append, if_pos (List.getElem?_eq_some_iff.1 hu').1]; exact hu', hr'⟩
            · intro w' β' hb hsh
              refine .a _ _ (.osl fr de.size 0 new.length w.heap.size 0 _ _ e hb hsh hge ?_ (.inl (by simp)))
              rw [List.length_append, hnl, zlen, ← Nat.add_mul, hsz]
              exact Nat.mul_le_mul_right _ (by omega)
          · cases ha
      · -- onto a slice of the call's own
        rename_i o n off len
        split at ha
        · rename_i m es ho
          split at ha
          · rename_i hc
            obtain ⟨rfl, rfl, rfl, hle, hroom, hnr⟩ := hc
            injection ha with ha; subst ha
            obtain ⟨b, q, cap, sz, tt, hb, hsh, hlc, hcap, hq, rfl⟩ := hs.osl_inv
            obtain ⟨us, te, g1, g2, g3, g4⟩ := obj_cells hO (by rw [ho]; rfl) hb
            have hlive : isLive (h o) := by rw [ho]; trivial
            have hne : o ≠ fr := fun e => by rw [e, hfr] at hb; cases hb
            have hszu : sz = us.length := by
              simp only [World.shape?, g1, Option.some.injEq, Prod.mk.injEq] at hsh
              have := hsh.2; simp at this; exact this.symm
            have hover : ∀ X : AObj, over [(o, .gone), (fr, X)] h = upd (upd h o .gone) fr X := by
              intro X; funext k
              simp only [over, find2, upd]
              by_cases e1 : o = k
              · subst e1; simp [hne]
              · by_cases e2 : fr = k
                · subst e2; simp [e1]
                · simp [e1, e2, show k ≠ fr from fun h => e2 h.symm, show k ≠ o from fun h => e1 h.symm]
            have hnes : ∀ e' ∈ es.take len ++ new, e'.length = de.size := by
              intro e' he'
              rcases List.mem_append.1 he' with h1 | h1
              · exact g3 e' (List.mem_of_mem_take h1)
              · exact hn e' h1
            have hlenes : (es.take len ++ new).length = len + new.length := by simp; omega
            have hroom : (len + new.length) * i.bytes ≤ 140737488355328 := by rw [← hby]; exact hroom
            have hler : len + new.length ≤ (len + new.length) * i.bytes := Nat.le_mul_of_pos_right _ (by rw [← hby]; exact hb0)
            have hlm : len * de.size ≤ es.length * de.size := Nat.mul_le_mul_right _ hle
            have holds : ∀ X : Nat → Prop, True := fun _ => trivial
            have hflold : LRep (WRep w (XO Y h β) β) (es.take len).flatten (us.take (len * de.size)) := by
              refine flat_of_elems (fun e' he' => g3 e' (List.mem_of_mem_take he')) (by rw [List.length_take, List.length_take, Nat.min_eq_left hle, Nat.min_eq_left (by omega)]) (fun i' j e' c' he' hc' => ?_)
              rw [List.getElem?_take] at he'
              split at he'
              · rename_i hi'
                obtain ⟨u', hu', hr'⟩ := g4 i' j e' c' he' hc'
                have hj : j < de.size := by rw [← g3 e' (List.mem_of_getElem? he')]; exact (List.getElem?_eq_some_iff.1 hc').1
                have hlt : i' * de.size + j < len * de.size := by
                  have : (i' + 1) * de.size ≤ len * de.size := Nat.mul_le_mul_right _ hi'
                  rw [Nat.add_mul] at this; omega
                exact ⟨u', by rw [List.getElem?_take, if_pos hlt]; exact hu', hr'⟩
              · cases he'
            have hflall : LRep (WRep w (XO Y h β) β) (es.take len ++ new).flatten (us.take (len * de.size) ++ news) := by
              rw [List.flatten_append]; exact hflold.append hfl
            by_cases hfitc : len + new.length ≤ cap
            · -- there is room
              by_cases hm0 : new.length = 0
              · have hnew : new = [] := List.eq_nil_of_length_eq_zero hm0
                have hv : v = .slice none 0 0 ∨ ∃ a c, v = .slice (some a) 0 c := by
                  rcases hcase with ⟨h1, _⟩ | ⟨a, c, h1, _⟩
                  · exact .inl h1
                  · rw [hm0] at h1; exact .inr ⟨a, c, h1⟩
                subst hnew
                have hm1 := moves_set hO hlive hb us us te g1 rfl de.size (es.take len) (by rw [List.length_take, Nat.min_eq_left hle]; omega) (fun e' he' => g3 e' (List.mem_of_mem_take he')) (fun i' j e' c' he' hc' => by
                  rw [List.getElem?_take] at he'
                  split at he'
                  · exact g4 i' j e' c' he' hc'
                  · cases he')
                have hself : w.setRow b us.toArray = w := setRow_self w b us.toArray te (0, 0) g1
                rw [hself] at hm1
                have hm2 := moves_rename hm1.objs (o := o) (fr := fr) (b := b) (by simp [upd, isLive]) hb hfr
                have hm := hm1.trans hm2 (fun _ h => h.elim) hO (f := fun k => k = fr) (fun _ h => h.elim) (fun _ h => h)
                have heq : upd (upd (upd h o (.arr de.size (es.take len))) o .gone) fr (upd h o (.arr de.size (es.take len)) o) = upd (upd h o .gone) fr (.arr de.size (es.take len ++ [])) := by
                  funext k; simp only [upd, List.append_nil]; by_cases e1 : k = fr <;> by_cases e2 : k = o <;> simp [e1, e2]
                rw [heq] at hm
                refine ⟨.value (.slice (some ⟨b, q, none⟩) len cap), .slice (some ⟨b, q, none⟩) len cap, w, upd β fr (some b), ?_, .inl rfl, ?_, ?_⟩
                · simp only [Sem.run_bind, append_none t ty e i ht hi (some ⟨b, q, none⟩) len cap hlc v hv, Result.andThen_ok, Sem.run_pure]
                · rw [hover]; exact hm
                · rw [hover]
                  exact .a _ _ (.osl fr de.size 0 len b q cap sz tt (by simp [upd]) hsh hlc hcap hq)
              · obtain ⟨a, c, rfl, hcell⟩ := hcase.resolve_left (fun h => hm0 (by rw [h.2]; rfl))
                have hq0 : q = 0 := by have := hq.resolve_right (by omega); simpa using this
                subst hq0
                have hte : (⟨us.toArray, te⟩ : Array Value × TypeId) = (us.toArray, te) := rfl
                have hcap' : cap * de.size ≤ us.length := by rw [← hszu]; simpa using hcap
                have hfit : len * i.size + news.length ≤ us.toArray.size := by
                  rw [hnl, ← Nat.add_mul, ← hsz]
                  exact Nat.le_trans (Nat.mul_le_mul_right _ hfitc) (by simpa using hcap')
                have hrun : (Builtin.append_ #[t, t] ty #[.slice (some ⟨b, 0, none⟩) len cap, .slice (some a) new.length c]).run P w =
                    .ok (.slice (some ⟨b, 0, none⟩) (len + new.length) cap) (w.setRow b (us.take (len * i.size) ++ news ++ us.drop (len * i.size + news.length)).toArray) := by
                  have hf := run_firstCells_some (P := P) w i.size new.length a new.length c news hnl hcell
                  have hst := run_storeCells_at P b (len * i.size) te news 0 us.toArray w g1 (by simpa using hfit) hfl.cell
                  simp only [Nat.add_zero] at hst
                  simp [Builtin.append_, run_underlying ht, sizeOf, typeInfo, hi, Builtin.lenOf, hfitc, hf, Addr.add_lit, hst]
                have hlen2 : (us.take (len * i.size) ++ news ++ us.drop (len * i.size + news.length)).length = us.length := by
                  simp only [List.length_append, List.length_take, List.length_drop]
                  simp at hfit; omega
                have hpre : ∀ k, k < len * i.size + news.length → (us.take (len * i.size) ++ news ++ us.drop (len * i.size + news.length))[k]? = (us.take (len * i.size) ++ news)[k]? := by
                  intro k hk
                  rw [List.getElem?_append, if_pos (by rw [List.length_append, List.length_take, Nat.min_eq_left (by simp at hfit; omega)]; exact hk)]
                have hm1 := moves_set hO hlive hb (us.take (len * i.size) ++ news ++ us.drop (len * i.size + news.length)) us te g1 hlen2 de.size (es.take len ++ new)
                  (by rw [hlenes, hlen2, Nat.add_mul]; rw [hsz]; simp at hfit; rw [hnl] at hfit; exact hfit) hnes (fun i' j e' c' he' hc' => by
                    obtain ⟨u', hu', hr'⟩ := elems_of_flat hnes hflall i' j e' c' he' hc'
                    rw [hsz] at hu' ⊢
                    have hk := (List.getElem?_eq_some_iff.1 hu').1
                    refine ⟨u', ?_, hr'⟩
                    rw [hpre _ (by simp only [List.length_append, List.length_take] at hk; omega)]
                    exact hu')
                have hm2 := moves_rename hm1.objs (o := o) (fr := fr) (b := b) (by simp [upd, isLive]) hb hfr
                have hm := hm1.trans hm2 (fun _ h => h.elim) hO (f := fun k => k = fr) (fun _ h => h.elim) (fun _ h => h)
                have heq : upd (upd (upd h o (.arr de.size (es.take len ++ new))) o .gone) fr (upd h o (.arr de.size (es.take len ++ new)) o) = upd (upd h o .gone) fr (.arr de.size (es.take len ++ new)) := by
                  funext k; simp only [upd]; by_cases e1 : k = fr <;> by_cases e2 : k = o <;> simp [e1, e2]
                rw [heq] at hm
                refine ⟨.value (.slice (some ⟨b, 0, none⟩) (len + new.length) cap), .slice (some ⟨b, 0, none⟩) (len + new.length) cap, w.setRow b (us.take (len * i.size) ++ news ++ us.drop (len * i.size + news.length)).toArray, upd β fr (some b), ?_, .inl rfl, ?_, ?_⟩
                · simp only [Sem.run_bind, hrun, Result.andThen_ok, Sem.run_pure]
                · rw [hover]; exact hm
                · rw [hover]
                  refine .a _ _ (.osl fr de.size 0 (len + new.length) b 0 cap sz tt (by simp [upd]) ?_ hfitc hcap (.inl (by simp)))
                  rw [hm1.good.shp b (hO.lt o b hb)]; exact hsh
            · -- it grows
              have hm0 : new.length ≠ 0 := by omega
              obtain ⟨a, c, rfl, hcell⟩ := hcase.resolve_left (fun h => hm0 (by rw [h.2]; rfl))
              have hcl : ∀ j u', (us.take (len * de.size))[j]? = some u' → w.cell? ((⟨b, q, none⟩ : Addr).add j) = some u' := by
                intro j u' hu'
                rw [List.getElem?_take] at hu'
                split at hu'
                · rename_i hj
                  have hl0 : 0 < len := by rcases Nat.eq_zero_or_pos len with h0 | h0; · subst h0; simp at hj
                                           · exact h0
                  have hq0 : q = 0 := by have := hq.resolve_right (by omega); simpa using this
                  subst hq0
                  rw [Addr.add_lit]
                  simp only [World.cell?, g1, List.getElem?_toArray, Option.isSome_none, Bool.false_eq_true, if_false, Nat.zero_add]
                  exact hu'
                · cases hu'
              have hr := run_append_grow (P := P) w t ty e i zv ht hi hiz ⟨b, q, none⟩ len cap (us.take (len * de.size)) (by rw [← hsz]; simp; omega) hcl a new.length c news hnl hcell (by omega) (by omega) (growslice_fits (by omega) hroom)
              have hge := grownCap_ge w (len + new.length) cap e
              have hm1 := moves_new hO hY hfr de.size (es.take len ++ new) (us.take (len * de.size) ++ news ++ (Builtin.zeroCells zv.cells (grownCap w (len + new.length) cap e - (len + new.length))).toList) e 1
                (by rw [hlenes, List.length_append, List.length_append, hnl, Nat.add_mul, hsz]; simp; rw [← hsz]; omega) hnes (fun i' j e' c' he' hc' => by
                  obtain ⟨u', hu', hr'⟩ := elems_of_flat hnes hflall i' j e' c' he' hc'
                  exact ⟨u', by rw [List.getElem?_append, if_pos (List.getElem?_eq_some_iff.1 hu').1]; exact hu', hr'⟩)
              have hm2 := moves_drop hm1.objs o
              have hm := hm1.trans hm2 (fun k hk => by rw [hk]; exact hfr) hO (f := fun k => k = fr) (fun _ h => h) (fun _ h => h.elim)
              have heq : upd (upd h fr (.arr de.size (es.take len ++ new))) o .gone = upd (upd h o .gone) fr (.arr de.size (es.take len ++ new)) := by
                funext k
                simp only [upd]
                by_cases e1 : k = fr
                · subst e1; simp [show ¬ k = o from fun e => hne e.symm]
                · by_cases e2 : k = o
                  · subst e2; simp [e1]
                  · simp [e1, e2]
              rw [heq] at hm
              refine ⟨.value (.slice (some ⟨w.heap.size, 0, none⟩) (len + new.length) (grownCap w (len + new.length) cap e)), .slice (some ⟨w.heap.size, 0, none⟩) (len + new.length) (grownCap w (len + new.length) cap e),
                { w with heap := w.heap.push (.cells (us.take (len * de.size) ++ news ++ (Builtin.zeroCells zv.cells (grownCap w (len + new.length) cap e - (len + new.length))).toList).toArray e (0, 0)), drawn := w.drawn + 1 }, upd β fr (some w.heap.size), ?_, .inl rfl, ?_, ?_⟩
              · simp only [Sem.run_bind, hr, Result.andThen_ok, Sem.run_pure, World.alloc, World.drew]
                congr 4
                apply Array.ext'
                simp
              · rw [hover]; exact hm
              · rw [hover]
                refine .a _ _ (.osl fr de.size 0 (len + new.length) w.heap.size 0 _ (us.take (len * de.size) ++ news ++ (Builtin.zeroCells zv.cells (grownCap w (len + new.length) cap e - (len + new.length))).toList).length e (by simp [upd]) ?_ hge ?_ (.inl (by simp)))
                · simp [World.shape?]
                · simp only [List.length_append, List.length_take, hnl, zlen]
                  rw [Nat.min_eq_left (by omega), hsz, ← Nat.add_mul, ← Nat.add_mul]
                  exact Nat.mul_le_mul_right _ (by omega)
          · cases ha
        · cases ha
      · cases ha
  · cases ha
end
end Go.AM
