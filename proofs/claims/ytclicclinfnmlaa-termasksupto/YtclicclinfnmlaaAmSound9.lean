/- Soundness of regions, and of code. No conditions. -/
import Derived.Test.YtclicclinfnmlaaAmDraw
namespace Go.AM

section
variable {P : Program} {w0 : World} {foot : Nat → Prop} {Y : Nat → Prop} {pin : Nat → Option Nat}

theorem relF_congr {e e' : Nat → TV} {h h' : Nat → AObj} {β : Nat → Option Nat} {a : Act} {w : World} (hR : RelF w0 foot Y pin e h β a w) (he : ∀ t, e' t = e t) (hh : ∀ o, h' o = h o) : RelF w0 foot Y pin e' h' β a w := by
  have : e' = e := funext he
  have : h' = h := funext hh
  subst_vars
  exact hR

/-- In whatever order. -/
theorem draw_sound {ops : Array Oper} {nx sz : Nat} {e0 : Nat → TV} {h0 : Nat → AObj} {δs : List Dl} {tr : Track} (hch : Chain P ops nx ops.toList 0 e0 h0 δs) (htr : tr = (δs.map fun δ => (δ.rd, δ.upd.map Prod.fst)).reverse) (hB : drawB ops tr = true)
    (hdst : ∀ (j : Nat) (q : Oper) (d : Nat), ops[j]? = some q → q.dst = some d → d < sz) {Q : Exit → Act → World → Prop}
    (hQ : ∀ a' w' β', a'.tmps.size = sz → RelF w0 foot Y pin (endE e0 δs) (endH h0 δs) β' a' w' → (∀ k, β' k ≠ none → k < nx + 32 * ops.size) → Q .normal a' w') :
    ∀ (fuel : Nat) (listed : Array Bool) (β : Nat → Option Nat) (a : Act) (w : World), listed.size = ops.size → ((List.range ops.size).filter fun i => !listed.getD i true).length = fuel →
      (∀ (j : Nat) (o : Oper) (e : Edge), ops[j]? = some o → listed.getD j false = true → e ∈ o.after → Region.binds .any e = true → listed.getD e.on false = true) →
      a.tmps.size = sz → RelF w0 foot Y pin (eD e0 (fun j => δs.getD j ⟨none, .any, [], []⟩) (fun j => listed.getD j false) ops.size) (hD h0 (fun j => δs.getD j ⟨none, .any, [], []⟩) (fun j => listed.getD j false) ops.size) β a w →
      (∀ k, β k ≠ none → k < nx ∨ ∃ i, i < ops.size ∧ listed.getD i false = true ∧ nx + 32 * i ≤ k ∧ k < nx + 32 * (i + 1)) → wpAny P .any ops Q fuel listed a w := by
  obtain ⟨hedge, hpair⟩ := drawB_spec hB
  obtain ⟨hlen, hget⟩ := chain_get hch
  simp only [Array.length_toList, Array.getElem?_toList, Nat.zero_add] at hlen hget
  let dflt : Dl := ⟨none, .any, [], []⟩
  let δ : Nat → Dl := fun j => δs.getD j dflt
  have hδ : ∀ j o, ops[j]? = some o → ∃ d, δs[j]? = some d ∧ δ j = d ∧ d.dst = o.dst ∧ tr.reverse[j]? = some (d.rd, d.upd.map Prod.fst) := by
    intro j o ho
    obtain ⟨d, h1, h2, _⟩ := hget j o ho
    refine ⟨d, h1, by simp [δ, List.getD, h1], h2, ?_⟩
    rw [htr, List.reverse_reverse, List.getElem?_map, h1]; rfl
  intro fuel
  induction fuel with
  | zero =>
    intro listed β a w hsz hcount hclosed hasz hR hb
    have hall : ∀ i, i < ops.size → listed.getD i true = true := by
      intro i hi
      have := List.eq_nil_of_length_eq_zero hcount
      have h2 := List.filter_eq_nil_iff.1 this i (by simpa using hi)
      simpa using h2
    have hfull : ∀ i, i < ops.size → listed.getD i false = true := by
      intro i hi
      have := hall i hi
      simp only [Array.getD_eq_getD_getElem?, Array.getElem?_eq_getElem (show i < listed.size by omega), Option.getD_some] at this ⊢
      exact this
    refine ⟨?_, hQ a w β hasz (relF_congr hR (fun t => ?_) (fun o => ?_)) (fun k hk => ?_)⟩
    · unfold Region.ready
      rw [List.filter_eq_nil_iff]
      intro i hi
      simp only [List.mem_range] at hi
      simp [hall i hi]
    · have := endE_eD e0 δs dflt (fun j => listed.getD j false) ops.size (by omega) (fun j hj => hfull j hj)
      rw [List.take_of_length_le (by omega)] at this
      rw [this]
    · have := endH_hD h0 δs dflt (fun j => listed.getD j false) ops.size (by omega) (fun j hj => hfull j hj)
      rw [List.take_of_length_le (by omega)] at this
      rw [this]
    · rcases hb k hk with h1 | ⟨i, h1, _, _, h4⟩ <;> omega
  | succ fuel ih =>
    intro listed β a w hsz hcount hclosed hasz hR hb
    refine ⟨fun hready => ?_, fun i hi => ?_⟩
    · -- somebody is ready
      exfalso
      have hex : ∃ i, i < ops.size ∧ listed.getD i true = false := by
        have hne : ((List.range ops.size).filter fun i => !listed.getD i true) ≠ [] := by intro e; rw [e] at hcount; simp at hcount
        obtain ⟨i, hi⟩ := List.exists_mem_of_ne_nil _ hne
        rw [List.mem_filter] at hi
        exact ⟨i, by simpa using hi.1, by simpa using hi.2⟩
      have hmin : ∀ n, (∃ i, i < n ∧ i < ops.size ∧ listed.getD i true = false) → ∃ i, i < ops.size ∧ listed.getD i true = false ∧ ∀ j, j < i → listed.getD j true = true := by
        intro n
        induction n with
        | zero => rintro ⟨i, hi, _⟩; omega
        | succ n ih2 =>
          rintro ⟨i, hi, hi2, hi3⟩
          by_cases hlow : ∃ i, i < n ∧ i < ops.size ∧ listed.getD i true = false
          · exact ih2 hlow
          · have hin : i = n := by
              by_cases e : i < n
              · exact absurd ⟨i, e, hi2, hi3⟩ hlow
              · omega
            subst hin
            refine ⟨i, hi2, hi3, fun j hj => ?_⟩
            cases hj2 : listed.getD j true with
            | true => rfl
            | false => exact absurd ⟨j, hj, by omega, hj2⟩ hlow
      obtain ⟨i0, h1, h2⟩ := hex
      obtain ⟨i, hi1, hi2, hi3⟩ := hmin ops.size ⟨i0, h1, h1, h2⟩
      have hmem : i ∈ Region.ready .any ops listed := by
        rw [mem_ready]
        refine ⟨hi2, ops[i], Array.getElem?_eq_getElem hi1, fun e he hbe => ?_⟩
        have hlt := hedge i ops[i] e (Array.getElem?_eq_getElem hi1) he hbe
        have := hi3 e.on hlt
        have hls : e.on < listed.size := by omega
        simp only [Array.getD_eq_getD_getElem?, Array.getElem?_eq_getElem hls, Option.getD_some] at this ⊢
        exact this
      rw [hready] at hmem; cases hmem
    · obtain ⟨hiun, o, ho, hafter⟩ := mem_ready.1 hi
      have hilt : i < ops.size := (Array.getElem?_eq_some_iff.1 ho).1
      have hiun' : listed.getD i false = false := by
        simp only [Array.getD_eq_getD_getElem?, Array.getElem?_eq_getElem (show i < listed.size by omega), Option.getD_some] at hiun ⊢
        exact hiun
      obtain ⟨d, hd1, hd2, hd3, hd4⟩ := hδ i o ho
      -- who is in conflict with i is ordered
      have hanc_i : ∀ j, Anc ops j i → listed.getD j false = true := fun j hj => anc_closed (D := fun j => listed.getD j false) hclosed hj (fun o' e h1 h2 h3 => by
        rw [ho] at h1; injection h1 with h1; subst h1; exact hafter e h2 h3)
      have hanc_j : ∀ j, listed.getD j false = true → ¬ Anc ops i j := fun j hj hanc => by
        have := anc_closed (D := fun j => listed.getD j false) hclosed hanc (fun o' e h1 h2 h3 => hclosed j o' e h1 hj h2 h3)
        rw [hiun'] at this; cases this
      have hord : ∀ j, j < ops.size → j ≠ i → (listed.getD j false = upTo i j) ∨ (∃ oj dj, ops[j]? = some oj ∧ δ j = dj ∧ dj.dst = oj.dst ∧
          ((j < i ∧ oj.apart ops o = true ∧ (∀ x ∈ dj.upd.map Prod.fst, x ∉ d.rd ∧ x ∉ d.upd.map Prod.fst) ∧ (∀ x ∈ d.upd.map Prod.fst, x ∉ dj.rd)) ∨
           (i < j ∧ o.apart ops oj = true ∧ (∀ x ∈ d.upd.map Prod.fst, x ∉ dj.rd ∧ x ∉ dj.upd.map Prod.fst) ∧ (∀ x ∈ dj.upd.map Prod.fst, x ∉ d.rd)))) := by
        intro j hj hne
        have hoj : ops[j]? = some ops[j] := Array.getElem?_eq_getElem hj
        obtain ⟨dj, g1, g2, g3, g4⟩ := hδ j _ hoj
        rcases Nat.lt_or_gt_of_ne hne with hlt | hgt
        · cases hbit : ((Region.before ops).getD i 0).testBit j with
          | true =>
            have := hanc_i j (before_anc hedge i j hbit)
            exact .inl (by rw [this]; simp [upTo, hlt])
          | false =>
            have := hpair j i _ o _ _ hlt hoj ho g4 hd4 hbit
            exact .inr ⟨_, dj, hoj, g2, g3, .inl ⟨hlt, this.1, this.2.1, this.2.2⟩⟩
        · cases hbit : ((Region.before ops).getD j 0).testBit i with
          | true =>
            have hanc := before_anc hedge j i hbit
            have : listed.getD j false = false := by
              cases hl : listed.getD j false with
              | false => rfl
              | true => exact absurd hanc (hanc_j j hl)
            exact .inl (by rw [this]; simp [upTo]; omega)
          | false =>
            have := hpair i j o _ _ _ hgt ho hoj hd4 g4 hbit
            exact .inr ⟨_, dj, hoj, g2, g3, .inr ⟨hgt, this.1, this.2.1, this.2.2⟩⟩
      -- the operation meets what it meets in the order of the text
      have hstep : OpStep P ops o (nx + 32 * i) (eD e0 δ (fun j => listed.getD j false) ops.size) (hD h0 δ (fun j => listed.getD j false) ops.size) d := by
        obtain ⟨d', h1, _, h3⟩ := hget i o ho
        rw [hd1] at h1; injection h1 with h1; subst h1
        have e1 := endE_eD e0 δs dflt (upTo i) i (by omega) (fun j hj => by simp [upTo, hj])
        have e2 := endH_hD h0 δs dflt (upTo i) i (by omega) (fun j hj => by simp [upTo, hj])
        rw [e1, e2, ← eD_upTo e0 _ i ops.size (by omega), ← hD_upTo h0 _ i ops.size (by omega)] at h3
        refine opstep_congr h3 (fun t ht => ?_) (fun x hx => ?_)
        · refine eD_congr ops.size (fun j hj hdj => ?_)
          by_cases hji : j = i
          · subst hji; rw [hiun']; simp [upTo]
          · rcases hord j hj hji with h4 | ⟨oj, dj, g1, g2, g3, h5⟩
            · exact h4
            · exfalso
              have hdj' : oj.dst = some t := by
                have : δ j = dj := g2
                rw [← g3, ← this]; exact hdj
              rcases h5 with ⟨_, hap, _⟩ | ⟨_, hap, _⟩
              · exact (Oper.apart_spec hap).1 t hdj' ht
              · exact (Oper.apart_spec hap).2.2 t hdj' ht
        · refine hD_congr ops.size (fun j hj hdj => ?_)
          by_cases hji : j = i
          · subst hji; rw [hiun']; simp [upTo]
          · rcases hord j hj hji with h4 | ⟨oj, dj, g1, g2, g3, h5⟩
            · exact h4
            · exfalso
              have hxu : x ∈ dj.upd.map Prod.fst := by
                have : δ j = dj := g2
                rw [← this]; exact find2_fst hdj
              rcases h5 with ⟨_, _, h6, _⟩ | ⟨_, _, _, h6⟩
              · exact (h6 x hxu).1 hx
              · exact h6 x hxu hx
      have hfr : ∀ j, j < 32 → β (nx + 32 * i + j) = none := by
        intro j hj
        cases hbj : β (nx + 32 * i + j) with
        | none => rfl
        | some b =>
          rcases hb _ (by rw [hbj]; simp : β (nx + 32 * i + j) ≠ none) with h1 | ⟨i', h1, h2, h3, h4⟩
          · omega
          · have : i' = i := by omega
            subst this
            rw [hiun'] at h2; cases h2
      unfold wpOp
      rw [ho]
      simp only
      have hset : ∀ j, (listed.setIfInBounds i true).getD j false = add (fun j => listed.getD j false) i j := by
        intro j
        simp only [add]
        by_cases hji : j = i
        · subst hji; simp [Array.getElem?_setIfInBounds, show j < listed.size by omega]
        · rw [if_neg hji]; exact getD_set_ne false (fun e => hji e.symm)
      have hgo := opstep_sound (o := o) (fr := nx + 32 * i) hR hfr (by rw [hasz]; exact hdst) (fun dd hdd => by rw [hasz]; exact hdst i o dd ho hdd) hstep
        (K := wpAny P .any ops Q fuel (listed.setIfInBounds i true)) (Q := Q) (fun a' w' β' ha' hR' hb' => by
          refine ih (listed.setIfInBounds i true) β' a' w' (by simpa using hsz) ?_ ?_ (by rw [ha', hasz]) (relF_congr hR' (fun t => ?_) (fun x => ?_)) (fun k hk => ?_)
          · -- one less
            have hperm : ((List.range ops.size).filter fun k => !(listed.setIfInBounds i true).getD k true) = ((List.range ops.size).filter fun k => !listed.getD k true).filter (fun k => k != i) := by
              rw [List.filter_filter]
              apply List.filter_congr
              intro k _
              by_cases hki : k = i
              · subst hki; simp [Array.getElem?_setIfInBounds, show k < listed.size by omega]
              · rw [getD_set_ne true (fun e => hki e.symm)]; simp [hki]
            rw [hperm]
            have hnd : ((List.range ops.size).filter fun k => !listed.getD k true).Nodup := List.Pairwise.filter _ List.nodup_range
            have hmem : i ∈ (List.range ops.size).filter fun k => !listed.getD k true := by
              rw [List.mem_filter]; exact ⟨by simpa using hilt, by rw [hiun]; rfl⟩
            have hc : (((List.range ops.size).filter fun k => !listed.getD k true).filter (fun k => k != i)).length + 1 = ((List.range ops.size).filter fun k => !listed.getD k true).length := by
              have : ((List.range ops.size).filter fun k => !listed.getD k true).filter (fun k => k != i) = ((List.range ops.size).filter fun k => !listed.getD k true).erase i := by
                rw [List.Nodup.erase_eq_filter hnd]
              rw [this, List.length_erase_of_mem hmem]
              have := List.length_pos_of_mem hmem
              omega
            omega
          · intro j oj e h1 h2 h3 h4
            rw [hset] at h2 ⊢
            simp only [add] at h2 ⊢
            split
            · rfl
            · split at h2
              · rename_i hji
                subst hji
                rw [ho] at h1; injection h1 with h1; subst h1
                exact hafter e h3 h4
              · exact hclosed j oj e h1 h2 h3 h4
          · show eD e0 δ _ ops.size t = _
            have he : (fun j => (listed.setIfInBounds i true).getD j false) = add (fun j => listed.getD j false) i := funext hset
            rw [he, eD_add (by exact hiun') ops.size hilt (fun j h1 h2 h3 h4 => ?_)]
            · rw [show δ i = d from hd2]
            · intro h5
              rcases hord j h2 (by omega) with h6 | ⟨oj, dj, g1, g2, g3, h7⟩
              · rw [h6] at h3; simp [upTo] at h3; omega
              · have hdi : o.dst = some t := by rw [← hd3, ← hd2]; exact h4
                have hdj : oj.dst = some t := by rw [← g3, ← g2]; exact h5
                rcases h7 with ⟨h8, _⟩ | ⟨_, hap, _⟩
                · omega
                · exact (Oper.apart_spec hap).2.1 t hdi hdj
          · show hD h0 δ _ ops.size x = _
            have he : (fun j => (listed.setIfInBounds i true).getD j false) = add (fun j => listed.getD j false) i := funext hset
            rw [he, hD_add (by exact hiun') ops.size hilt (fun j h1 h2 h3 h4 => ?_)]
            · rw [show δ i = d from hd2]
            · rcases hord j h2 (by omega) with h6 | ⟨oj, dj, g1, g2, g3, h7⟩
              · rw [h6] at h3; simp [upTo] at h3; omega
              · have hdi : x ∈ d.upd.map Prod.fst := by rw [← hd2]; exact find2_fst h4
                rcases h7 with ⟨h8, _⟩ | ⟨_, _, h9, _⟩
                · omega
                · have := (h9 x hdi).2
                  rw [← g2] at this
                  cases hf : find2 (δ j).upd x with
                  | none => rfl
                  | some y => exact absurd (find2_fst (by rw [hf]; simp)) this
          · rcases hb' k hk with h1 | h1
            · rcases hb k h1 with h2 | ⟨i', h2, h3, h4, h5⟩
              · exact .inl h2
              · refine .inr ⟨i', h2, ?_, h4, h5⟩
                rw [hset]; simp only [add]; split
                · rfl
                · exact h3
            · refine .inr ⟨i, hilt, ?_, by omega, by omega⟩
              rw [hset]; simp [add])
      split at hgo
      · rename_i hw; rw [if_pos hw]; exact .inl hgo
      · rename_i hw; rw [if_neg hw]; exact hgo

/-- A REGION. -/
theorem region_sound {id : Nat} {ops : Array Oper} {dr : Bool} {s : St} {β : Nat → Option Nat} {a : Act} {w : World} {Q : Exit → Act → World → Prop} {R : St → Prop} (hm : P.follows .mixedOrders = true) (hdst : dstB ops a.tmps.size = true)
    (hl : lex P ops s.nx ops.toList 0 s.env s.heap [] fun e h tr => (dr = true → drawB ops tr = true) ∧ R ⟨e, h, s.nx + 32 * ops.size⟩)
    (hR : RelF w0 foot Y pin (look s.env) (hook s.heap) β a w) (hb : ∀ k, β k ≠ none → k < s.nx)
    (hQ : ∀ s' a' w' β', R s' → a'.tmps.size = a.tmps.size → RelF w0 foot Y pin (look s'.env) (hook s'.heap) β' a' w' → (∀ k, β' k ≠ none → k < s'.nx) → Q .normal a' w') : (Code.region id ops dr).wp P Q a w := by
  have hdst' : ∀ (j : Nat) (q : Oper) (d : Nat), ops[j]? = some q → q.dst = some d → d < a.tmps.size := by
    intro j q d hq hd
    have := Array.all_eq_true_iff_forall_mem.1 hdst q (Array.mem_of_getElem? hq)
    rw [hd] at this
    simpa using this
  obtain ⟨δs, e', h', tr', hch, he, hh, htr, hdraw, hRR⟩ := lex_chain _ _ _ _ _ hl
  rw [List.append_nil] at htr
  have hfin : ∀ a' w' β', a'.tmps.size = a.tmps.size → RelF w0 foot Y pin (endE (look s.env) δs) (endH (hook s.heap) δs) β' a' w' → (∀ k, β' k ≠ none → k < s.nx + 32 * ops.size) → Q .normal a' w' := by
    intro a' w' β' h1 h2 h3
    refine hQ _ a' w' β' hRR h1 ?_ h3
    show RelF w0 foot Y pin (look e') (hook h') β' a' w'
    rw [he, hh]; exact h2
  cases dr with
  | false =>
    refine wp_region_list (seq_sound hdst' ops.toList 0 _ _ δs β a w (fun o ho => ?_) hch rfl hR (by simpa using hb) (fun a' w' β' h1 h2 h3 => hfin a' w' β' h1 h2 (by simpa using h3)))
    obtain ⟨j, hj⟩ := List.getElem?_of_mem ho
    exact ⟨j, by simpa using hj⟩
  | true =>
    refine wp_region_any hm ?_
    have hR' : RelF w0 foot Y pin (look s.env) (hook s.heap) β a { w with drawn := w.drawn + 1 } := by
      have g : Goes w { w with drawn := w.drawn + 1 } (XO Y (hook s.heap) β) (XO Y (hook s.heap) β) β β := ⟨Nat.le_refl _, fun b hb _ => ⟨rfl, hb⟩, fun _ _ => rfl, fun o b hb => ⟨hb, hR.objs.lt o b hb⟩⟩
      exact ⟨hR.good.drew, fun i => (hR.env i).goes g, ⟨fun o b h1 h2 => (hR.objs.rep o b h1 h2).goes g rfl, hR.objs.has, hR.objs.inj, hR.objs.lt⟩, hR.own, hR.defers, hR.ylt, hR.pins⟩
    have hfalse : ∀ i, (Array.replicate ops.size false).getD i false = false := by
      intro i
      by_cases hi : i < ops.size
      · simp [hi]
      · simp [hi]
    refine draw_sound (w0 := w0) (foot := foot) (Y := Y) hch htr (hdraw rfl) hdst' hfin ops.size _ β a _ (by simp) ?_ (fun j o e _ h2 => by rw [hfalse] at h2; cases h2) rfl (relF_congr hR' (fun t => ?_) (fun x => ?_)) (fun k hk => .inl (hb k hk))
    · have : ((List.range ops.size).filter fun i => !(Array.replicate ops.size false).getD i true) = List.range ops.size := by
        apply List.filter_eq_self.2
        intro i hi
        simp only [List.mem_range] at hi
        simp [hi]
      rw [this]; simp
    · have key : ∀ n, eD (look s.env) (fun j => δs.getD j ⟨none, .any, [], []⟩) (fun j => (Array.replicate ops.size false).getD j false) n = look s.env := by
        intro n; induction n with
        | zero => rfl
        | succ n ih => simp only [eD]; rw [if_neg (by rw [hfalse]; simp)]; exact ih
      rw [key]
    · have key : ∀ n, hD (hook s.heap) (fun j => δs.getD j ⟨none, .any, [], []⟩) (fun j => (Array.replicate ops.size false).getD j false) n = hook s.heap := by
        intro n; induction n with
        | zero => rfl
        | succ n ih => simp only [hD]; rw [if_neg (by rw [hfalse]; simp)]; exact ih
      rw [key]
end
end Go.AM
