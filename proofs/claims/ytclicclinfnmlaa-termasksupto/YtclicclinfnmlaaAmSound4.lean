/- Soundness: slices of slices; structs that are built; lengths. No conditions. -/
import Derived.Test.YtclicclinfnmlaaAmSound3
namespace Go.AM
section
variable {P : Program} {w : World} {X : Nat → Prop} {β : Nat → Option Nat}

theorem extract_take_drop (l : List UInt8) (a b : Nat) : (⟨l.toArray⟩ : ByteArray).extract a b = ⟨((l.take b).drop a).toArray⟩ := by
  apply ByteArray.ext
  apply Array.ext'
  simp [ByteArray.data_extract, List.extract_eq_take_drop, List.drop_take]

theorem bnds3_run {lo hi mx : Option TV} {l h m : Option Value} {len cap : Nat} {p : Nat × Nat} (isSlice : Bool) (hb : bnds3 lo hi mx len = some p) (hlc : len ≤ cap)
    (hl : bnd lo l w X β) (hh : bnd hi h w X β) (hm : bnd mx m w X β) : ∃ m', (Instr.sliceBounds isSlice len cap l h m).run P w = .ok (p.1, p.2, m') w ∧ p.2 ≤ m' ∧ m' ≤ cap ∧ p.1 ≤ p.2 ∧ p.2 ≤ len := by
  unfold bnds3 at hb
  split at hb
  · rename_i c b hc hbb
    split at hb
    · rename_i hcond
      obtain ⟨a, ha, rfl⟩ := Option.map_eq_some_iff.1 hb
      exact slice_bounds isSlice hc hbb ha hcond.1 hlc hm hh hl hcond.2
    · cases hb
  · cases hb

theorem bnds3_zero {lo hi mx : Option TV} {l h m : Option Value} {len cap : Nat} {p : Nat × Nat} (isSlice : Bool) (hz : zeroMax mx = true) (hb : bnds3 lo hi mx len = some p) (hlc : len ≤ cap)
    (hl : bnd lo l w X β) (hh : bnd hi h w X β) (hm : bnd mx m w X β) : (Instr.sliceBounds isSlice len cap l h m).run P w = .ok (0, 0, 0) w := by
  have hm0 : boundA mx len len = some 0 := by
    unfold zeroMax at hz
    split at hz
    · simp only [beq_iff_eq] at hz
      subst hz
      simp [boundA]
    · cases hz
  have hms : mx.isSome = true := by
    unfold zeroMax at hz
    split at hz
    · rfl
    · cases hz
  unfold bnds3 at hb
  rw [hm0] at hb
  split at hb
  · rename_i c b hcc hbb
    simp only [Option.some.injEq] at hcc
    subst hcc
    split at hb
    · rename_i hcond
      obtain ⟨a, ha, rfl⟩ := Option.map_eq_some_iff.1 hb
      have hb0 : b = 0 := by omega
      subst hb0
      have ha0 : a = 0 := by
        rcases boundA_run (P := P) ha hl with ⟨_, h1⟩ | ⟨_, _, _, _, _, h1, _⟩ <;> omega
      subst ha0
      exact slice_bounds0 isSlice hm0 hbb ha hlc hm hh hl hms (hcond.2 hms)
    · cases hb
  · cases hb

theorem sliceOpA_run {x r : TV} {u : Value} {t : TypeId} {d : TyD} {lo hi mx : Option TV} {l h m : Option Value} (hd : tyOf P t = some d) (hs : sliceOpA P d x lo hi mx = some r) (hx : TRep w X β x u)
    (hl : bnd lo l w X β) (hh : bnd hi h w X β) (hm : bnd mx m w X β) : ∃ z, (Instr.sliceAt t u l h m).run P w = .ok z w ∧ TRep w X β r z := by
  unfold sliceOpA at hs
  split at hs
  · rename_i e hk
    have ht := slice_spec hd hk
    split at hs
    · rename_i de hde
      unfold sliceSl at hs
      split at hs
      · obtain ⟨p, hp, rfl⟩ := Option.map_eq_some_iff.1 hs
        obtain ⟨m', hr, h1, h2, h3, h4⟩ := bnds3_run (P := P) (w := w) (cap := 0) true hp (Nat.le_refl _) hl hh hm
        rw [hx.nils_inv]
        have e2 : p.2 = 0 := by omega
        have e1 : p.1 = 0 := by omega
        have e3 : m' = 0 := by omega
        rw [e1, e2, e3] at hr
        refine ⟨.slice none 0 0, ?_, .fz_mk .nils⟩
        simp [Instr.sliceAt, Instr.slice, run_underlying ht, hr, run_sizeOf hde]
      · rename_i nn n es
        split at hs
        · rename_i hn
          obtain ⟨p, hp, rfl⟩ := Option.map_eq_some_iff.1 hs
          have h2 := hx.fz_inv
          cases h2 with
          | sl0 _ _ a =>
            obtain ⟨m', hr, h1, h2, h3, h4⟩ := bnds3_run (P := P) (w := w) (cap := 0) true hp (Nat.le_refl _) hl hh hm
            have e2 : p.2 = 0 := by simp at h4; omega
            have e1 : p.1 = 0 := by omega
            have e3 : m' = 0 := by omega
            rw [e1, e2, e3] at hr
            simp only [List.length_nil] at hr
            refine ⟨.slice (some a) 0 0, ?_, ?_⟩
            · simp [Instr.sliceAt, Instr.slice, run_underlying ht, hr, run_sizeOf hde]
            · split
              · exact .fz_mk (.z0 _ _)
              · exact .fz_mk (by simpa using FRep.sl0 _ n a)
          | slnil n =>
            obtain ⟨m', hr, h1, h2, h3, h4⟩ := bnds3_run (P := P) (w := w) (cap := 0) true hp (Nat.le_refl _) hl hh hm
            have e2 : p.2 = 0 := by simp at h4; omega
            have e1 : p.1 = 0 := by omega
            have e3 : m' = 0 := by omega
            rw [e1, e2, e3] at hr
            simp only [List.length_nil] at hr
            refine ⟨.slice none 0 0, ?_, ?_⟩
            · simp [Instr.sliceAt, Instr.slice, run_underlying ht, hr, run_sizeOf hde]
            · split
              · exact .fz_mk .z0n
              · exact .fz_mk (by simpa using FRep.slnil n)
          | sl nn n es b off cap len u g1 g2 g3 g4 g5 g6 g7 =>
            subst g1
            by_cases hzm : zeroMax mx = true
            · have hr := bnds3_zero (P := P) (w := w) true hzm hp g2 hl hh hm
              rw [if_pos hzm]
              exact ⟨.slice (some ⟨b, off, none⟩) 0 0, by simp [Instr.sliceAt, Instr.slice, run_underlying ht, hr, run_sizeOf hde], .fz_mk (.z0 _ _)⟩
            rw [if_neg hzm]
            obtain ⟨m', hr, h1, h2, h3, h4⟩ := bnds3_run (P := P) (w := w) true hp g2 hl hh hm
            have hlen : p.2 - p.1 = ((es.take p.2).drop p.1).length := by simp; omega
            have hget : ∀ i : Nat, ∀ e, ((es.take p.2).drop p.1)[i]? = some e → es[p.1 + i]? = some e := by
              intro i e he
              rw [List.getElem?_drop, List.getElem?_take] at he
              split at he
              · exact he
              · cases he
            refine ⟨.slice (some (if m' = p.1 then ⟨b, off, none⟩ else ⟨b, off + p.1 * de.size, none⟩)) (p.2 - p.1) (m' - p.1), ?_, ?_⟩
            · simp [Instr.sliceAt, Instr.slice, run_underlying ht, hr, run_sizeOf hde, Addr.add_lit]
              split <;> rfl
            · by_cases hz : m' = p.1
              · simp only [hz, if_true]
                have hnil : (es.take p.2).drop p.1 = [] := List.eq_nil_of_length_eq_zero (by omega)
                refine .fz_mk (.sl nn n _ b off _ _ (fun _ _ => undef) hlen (by omega) g3 g4 ?_ ?_ ?_)
                · intro i e he; rw [hnil] at he; simp at he
                · intro i j e f he; rw [hnil] at he; simp at he
                · intro i j e f he; rw [hnil] at he; simp at he
              · simp only [hz, if_false]
                refine .fz_mk (.sl nn n _ b _ _ _ (fun i j => u (p.1 + i) j) hlen (by omega) g3 g4 ?_ ?_ ?_)
                · intro i e he; exact g5 _ _ (hget i e he)
                · intro i j e f he hf
                  have := g6 _ _ _ _ (hget i e he) hf
                  rw [← hn, show off + p.1 * n + i * n + j = off + (p.1 + i) * n + j by rw [Nat.add_mul]; omega]
                  exact this
                · intro i j e f he hf; exact g7 _ _ _ _ (hget i e he) hf
        · cases hs
      · obtain ⟨p, hp, rfl⟩ := Option.map_eq_some_iff.1 hs
        have h2 := hx.fz_inv
        obtain ⟨m', hr, h1, h2', h3, h4⟩ := bnds3_run (P := P) (w := w) (cap := 0) true hp (Nat.le_refl _) hl hh hm
        have e2 : p.2 = 0 := by omega
        have e1 : p.1 = 0 := by omega
        have e3 : m' = 0 := by omega
        rw [e1, e2, e3] at hr
        cases h2 with
        | z0 _ a => exact ⟨.slice (some a) 0 0, by simp [Instr.sliceAt, Instr.slice, run_underlying ht, hr, run_sizeOf hde], .fz_mk (.z0 _ _)⟩
        | z0n => exact ⟨.slice none 0 0, by simp [Instr.sliceAt, Instr.slice, run_underlying ht, hr, run_sizeOf hde], .fz_mk .z0n⟩
      · rename_i o n off len
        split at hs
        · rename_i hn
          obtain ⟨p, hp, rfl⟩ := Option.map_eq_some_iff.1 hs
          obtain ⟨b, q, cap, sz, tt, hb, hsh, hlc, hcap, hq, rfl⟩ := hx.osl_inv
          obtain ⟨m', hr, h1, h2, h3, h4⟩ := bnds3_run (P := P) (w := w) true hp hlc hl hh hm
          refine ⟨.slice (some (if m' = p.1 then ⟨b, q, none⟩ else ⟨b, q + p.1 * de.size, none⟩)) (p.2 - p.1) (m' - p.1), ?_, ?_⟩
          · simp [Instr.sliceAt, Instr.slice, run_underlying ht, hr, run_sizeOf hde, Addr.add_lit]
            split <;> rfl
          · have hle : (off + p.1 + (m' - p.1)) * n ≤ sz := Nat.le_trans (Nat.mul_le_mul_right _ (by omega)) hcap
            by_cases hz : m' = p.1
            · simp only [hz, if_true]
              exact .a _ _ (.osl _ _ _ _ b q _ sz tt hb hsh (by omega) (by rw [hz] at hle; exact hle) (.inr (by omega)))
            · simp only [hz, if_false]
              refine .a _ _ (.osl _ _ _ _ b _ _ sz tt hb hsh (by omega) hle (.inl ?_))
              rw [← hn, hq.resolve_right (by omega), Nat.add_mul]
        · cases hs
      · cases hs
    · cases hs
  · rename_i hk
    have ht := str_spec hd hk
    unfold sliceStr at hs
    split at hs
    · obtain ⟨p, hp, rfl⟩ := Option.map_eq_some_iff.1 hs
      rename_i s
      cases m with
      | some v => exact hm.elim
      | none =>
        obtain ⟨m', hr, h1, h2, h3, h4⟩ := bnds3_run (P := P) (w := w) (cap := s.length) false hp (Nat.le_refl _) hl hh hm
        rw [hx.str_inv]
        refine ⟨_, ?_, .str_mk _⟩
        have hsz : (⟨s.toArray⟩ : ByteArray).size = s.length := by simp [ByteArray.size]
        simp [Instr.sliceAt, Instr.slice, run_underlying ht, hsz, hr, extract_take_drop]
    · cases hs
  · cases hs

/-! ### Structs that are built -/
theorem foldl_set (vs : List Value) : ∀ (k off : Nat) (cs : List Value), off + k + vs.length ≤ cs.length →
    (vs.zipIdx k).foldl (fun (cs : Array Value) (x : Value × Nat) => cs.setIfInBounds (off + x.2) x.1) cs.toArray = (cs.take (off + k) ++ vs ++ cs.drop (off + k + vs.length)).toArray := by
  induction vs with
  | nil => intro k off cs h; simp
  | cons v vs ih =>
    intro k off cs h
    simp only [List.zipIdx_cons, List.foldl_cons, List.setIfInBounds_toArray]
    rw [ih (k + 1) off (cs.set (off + k) v) (by simp at h ⊢; omega)]
    congr 1
    apply List.ext_getElem?
    intro j
    simp only [List.length_cons, List.getElem?_append, List.length_append, List.length_take, List.length_set, List.getElem?_take, List.getElem?_drop, List.getElem?_set, List.length_cons]
    simp at h
    by_cases h1 : j < off + k
    · simp only [show j < min (off + (k + 1)) cs.length + vs.length by omega, show j < min (off + (k + 1)) cs.length by omega, show j < off + (k + 1) by omega, show ¬ (off + k = j) by omega,
        show j < min (off + k) cs.length + (vs.length + 1) by omega, show j < min (off + k) cs.length by omega, h1, if_true, if_false]
    · by_cases h2 : j = off + k
      · subst h2
        simp only [show off + k < min (off + (k + 1)) cs.length + vs.length by omega, show off + k < min (off + (k + 1)) cs.length by omega, show off + k < off + (k + 1) by omega, show off + k < cs.length by omega,
          show off + k < min (off + k) cs.length + (vs.length + 1) by omega, show ¬ (off + k < min (off + k) cs.length) by omega, if_true, if_false, show off + k - min (off + k) cs.length = 0 by omega, List.getElem?_cons_zero]
      · by_cases h3 : j < off + k + 1 + vs.length
        · simp only [show j < min (off + (k + 1)) cs.length + vs.length by omega, show ¬ (j < min (off + (k + 1)) cs.length) by omega,
            show j < min (off + k) cs.length + (vs.length + 1) by omega, show ¬ (j < min (off + k) cs.length) by omega, if_true, if_false]
          rw [show j - min (off + k) cs.length = (j - min (off + (k + 1)) cs.length) + 1 by omega, List.getElem?_cons_succ]
        · simp only [show ¬ (j < min (off + (k + 1)) cs.length + vs.length) by omega, show ¬ (j < min (off + k) cs.length + (vs.length + 1)) by omega, if_false]
          rw [show off + (k + 1) + vs.length + (j - (min (off + (k + 1)) cs.length + vs.length)) = j by omega, show off + k + (vs.length + 1) + (j - (min (off + k) cs.length + (vs.length + 1))) = j by omega]
          simp only [show ¬ (off + k = j) by omega, if_false]

theorem LRep.splice {cs ds : List WV} {us vs : List Value} {j : Nat} (h : LRep (WRep w X β) cs us) (k : LRep (WRep w X β) ds vs) : LRep (WRep w X β) (splice cs j ds) (us.take j ++ vs ++ us.drop (j + vs.length)) := by
  unfold AM.splice
  rw [k.1]
  exact ((h.take j).append k).append (h.drop _)

theorem fillA_run {place place' : Nat → Option (Nat × Nat)} (hp : ∀ i, place' i = place i) : ∀ (parts : List (Nat × TV)) (vals : List (Nat × Value)) (cs r : List WV) (us : List Value), fillA place cs parts = some r → LRep (WRep w X β) cs us →
    parts.length = vals.length → (∀ (j : Nat) (p : Nat × TV) (v : Nat × Value), parts[j]? = some p → vals[j]? = some v → p.1 = v.1 ∧ TRep w X β p.2 v.2) → ∃ vs, Instr.fill place' us.toArray vals = some vs.toArray ∧ LRep (WRep w X β) r vs
  | [], vals, cs, r, us, h, hl, hlen, _ => by
    simp only [fillA, Option.some.injEq] at h
    subst h
    cases vals with
    | nil => exact ⟨us, rfl, hl⟩
    | cons _ _ => simp at hlen
  | (i, v) :: rest, vals, cs, r, us, h, hl, hlen, hr => by
    cases vals with
    | nil => simp at hlen
    | cons x vals =>
      obtain ⟨i', u⟩ := x
      obtain ⟨hi, hv⟩ := hr 0 _ _ rfl rfl
      simp only at hi hv
      subst hi
      simp only [fillA] at h
      split at h
      · rename_i off size ds hpl hds
        split at h
        · rename_i hc
          have hcl := cellsT_rep hv hds
          have hsz : u.cells.size = ds.length := by have := hcl.1; simpa using this.symm
          have hfit : ¬ (off + u.cells.size > us.length) := by rw [hsz, ← hl.1]; omega
          obtain ⟨vs, h1, h2⟩ := fillA_run hp rest vals _ r _ h (hl.splice hcl) (by simpa using hlen) (fun j p v hp hv => hr (j + 1) p v (by simpa using hp) (by simpa using hv))
          refine ⟨vs, ?_, h2⟩
          have hf := foldl_set u.cells.toList 0 off us (by simp; omega)
          simp only [Instr.fill, hp, hpl]
          rw [if_neg (by simp only [hsz, hc.1, List.size_toArray, ne_eq, not_true_eq_false, decide_false, Bool.false_or, decide_eq_true_eq]; rw [← hc.1, ← hsz]; exact hfit)]
          rw [← h1]
          congr 1
          rw [← Array.foldl_toList]
          simp only [Array.toList_zipIdx]
          simpa using hf
        · cases h
      · cases h
end
end Go.AM
