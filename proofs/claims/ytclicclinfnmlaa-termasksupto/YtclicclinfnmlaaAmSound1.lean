/- Soundness of single operations, those that only look: what the model's operation gives is what the abstract one says. No conditions. -/
import Derived.Test.YtclicclinfnmlaaAmCode
namespace Go.AM

theorem tyOf_spec {P : Program} {t : TypeId} {d : TyD} (h : tyOf P t = some d) : ∃ i u, P.info? t = some i ∧ P.underlying t = some u ∧
    d.agg = (match u with | .struct _ | .array _ _ => true | _ => false) ∧ d.size = i.size ∧ d.bytes = i.bytes ∧
    d.zero = (match i.zero with | some z => if z.cells.all Value.oneCell' then some (z.cells.toList.map fvOf) else none | none => none) ∧ d.kind = kindOf P u := by
  unfold tyOf at h
  split at h
  · rename_i i u hi hu
    simp only [Option.some.injEq] at h
    subst h
    exact ⟨i, u, hi, hu, rfl, rfl, rfl, rfl, rfl⟩
  · cases h

theorem size_of_tyOf {P : Program} {t : TypeId} {d : TyD} (h : tyOf P t = some d) : P.cellsOf t = d.size := by
  obtain ⟨i, u, hi, hu, _, hs, _⟩ := tyOf_spec h
  simp [Program.cellsOf, hi, hs]

theorem run_sizeOf {P : Program} {t : TypeId} {d : TyD} (h : tyOf P t = some d) (w : World) : (sizeOf t).run P w = .ok d.size w := by
  obtain ⟨i, u, hi, hu, _, hs, _⟩ := tyOf_spec h
  simp [sizeOf, typeInfo, hi, hs]
theorem run_isAgg {P : Program} {t : TypeId} {d : TyD} (h : tyOf P t = some d) (w : World) : (isAgg t).run P w = .ok d.agg w := by
  obtain ⟨i, u, hi, hu, ha, _⟩ := tyOf_spec h
  rw [ha]
  cases u <;> simp [isAgg, run_underlying hu]

theorem fvOf_rep (w : World) (X : Nat → Prop) (v : Value) (h : v.oneCell' = true) : FRep w X (fvOf v) v := by
  unfold fvOf
  split
  · exact .int _ _
  · exact .bool _
  · exact .str _
  · exact .nils
  · exact .cst _ h

theorem tvOf_rep (w : World) (X : Nat → Prop) (β : Nat → Option Nat) (v : Value) : TRep w X β (tvOf v) v := by
  unfold tvOf
  split
  · rename_i cs
    split
    · rename_i hc
      refine ⟨cs.toList, by simp, by simp, fun j c u hc' hu => ?_⟩
      simp only [List.getElem?_map, hu, Option.map_some, Option.some.injEq] at hc'
      subst hc'
      refine .a _ _ (.fz _ _ (fvOf_rep w X u ?_))
      have := List.mem_of_getElem? hu
      simp only [Array.all_eq_true_iff_forall_mem] at hc
      exact hc u (by simpa using this)
    · trivial
  · trivial
  · exact .a _ _ (.fz _ _ (.int _ _))
  · exact .a _ _ (.fz _ _ (.bool _))
  · exact .a _ _ (.fz _ _ (.str _))
  · exact .a _ _ (.fz _ _ .nils)
  · rename_i v h1 h2 h3 h4 h5 h6
    refine .a _ _ (.fz _ _ (.cst _ ?_))
    cases v <;> simp_all [Value.oneCell']

/-! Values by what they are. -/
section
variable {w : World} {X : Nat → Prop} {β : Nat → Option Nat}

theorem TRep.int_inv {k : IntKind} {n : Int} {v : Value} (h : TRep w X β (.c (.a (.fz (.int k n)))) v) : v = .int k n := by
  cases h with | a _ _ h => cases h with | fz _ _ h => cases h; rfl
theorem TRep.bool_inv {b : Bool} {v : Value} (h : TRep w X β (.c (.a (.fz (.bool b)))) v) : v = .bool b := by
  cases h with | a _ _ h => cases h with | fz _ _ h => cases h; rfl
theorem TRep.str_inv {l : List UInt8} {v : Value} (h : TRep w X β (.c (.a (.fz (.str l)))) v) : v = .string ⟨l.toArray⟩ := by
  cases h with | a _ _ h => cases h with | fz _ _ h => cases h; rfl
theorem TRep.nils_inv {v : Value} (h : TRep w X β (.c (.a (.fz .nils))) v) : v = .slice none 0 0 := by
  cases h with | a _ _ h => cases h with | fz _ _ h => cases h; rfl
theorem TRep.ep_inv {o n i j : Nat} {v : Value} (h : TRep w X β (.c (.a (.ep o n i j))) v) : ∃ b, β o = some b ∧ v = .pointer (some ⟨b, i * n + j, none⟩) := by
  cases h with | a _ _ h => cases h with | ep _ _ _ _ b h => exact ⟨b, h, rfl⟩
theorem TRep.osl_inv {o n off len : Nat} {v : Value} (h : TRep w X β (.c (.a (.osl o n off len))) v) :
    ∃ b q cap sz t, β o = some b ∧ w.shape? b = some (t, sz) ∧ len ≤ cap ∧ (off + cap) * n ≤ sz ∧ (q = off * n ∨ cap = 0) ∧ v = .slice (some ⟨b, q, none⟩) len cap := by
  cases h with | a _ _ h => cases h with | osl _ _ _ _ b q cap sz t h1 h2 h3 h4 h5 => exact ⟨b, q, cap, sz, t, h1, h2, h3, h4, h5, rfl⟩
theorem TRep.mp_inv {o : Nat} {v : Value} (h : TRep w X β (.c (.a (.mp o))) v) : ∃ b, β o = some b ∧ v = .map (some b) := by
  cases h with | a _ _ h => cases h with | mp _ b h => exact ⟨b, h, rfl⟩
theorem TRep.fz_inv {x : FV} {v : Value} (h : TRep w X β (.c (.a (.fz x))) v) : FRep w X x v := by
  cases h with | a _ _ h => cases h with | fz _ _ h => exact h
theorem TRep.fz_mk {x : FV} {v : Value} (h : FRep w X x v) : TRep w X β (.c (.a (.fz x))) v := .a _ _ (.fz _ _ h)
theorem TRep.int_mk (k : IntKind) (n : Int) : TRep w X β (.c (.a (.fz (.int k n)))) (.int k n) := .a _ _ (.fz _ _ (.int _ _))
theorem TRep.bool_mk (b : Bool) : TRep w X β (.c (.a (.fz (.bool b)))) (.bool b) := .a _ _ (.fz _ _ (.bool _))
theorem TRep.str_mk (l : List UInt8) : TRep w X β (.c (.a (.fz (.str l)))) (.string ⟨l.toArray⟩) := .a _ _ (.fz _ _ (.str _))

theorem FRep.oneCell {x : FV} {v : Value} (h : FRep w X x v) : v.oneCell' = true := by
  cases h <;> first | rfl | assumption
theorem WRep.oneCell {x : WV} {v : Value} (h : WRep w X β x v) : v.oneCell' = true := by
  cases h with
  | a x v h => cases h <;> first | rfl | assumption | (rename_i h; exact h.oneCell)
  | fn => rfl

theorem LRep.take {α : Type} {R : α → Value → Prop} {cs : List α} {us : List Value} (h : LRep R cs us) (n : Nat) : LRep R (cs.take n) (us.take n) := by
  refine ⟨by simp [h.1], fun j c u hc hu => ?_⟩
  rw [List.getElem?_take] at hc hu
  split at hc
  · simp_all only [↓reduceIte]; exact h.2 j c u hc hu
  · cases hc
theorem LRep.drop {α : Type} {R : α → Value → Prop} {cs : List α} {us : List Value} (h : LRep R cs us) (n : Nat) : LRep R (cs.drop n) (us.drop n) := by
  refine ⟨by simp [h.1], fun j c u hc hu => ?_⟩
  rw [List.getElem?_drop] at hc hu
  exact h.2 _ c u hc hu
theorem LRep.append {α : Type} {R : α → Value → Prop} {cs ds : List α} {us vs : List Value} (h : LRep R cs us) (k : LRep R ds vs) : LRep R (cs ++ ds) (us ++ vs) := by
  refine ⟨by simp [h.1, k.1], fun j c u hc hu => ?_⟩
  rw [List.getElem?_append] at hc hu
  have := h.1
  split at hc
  · rw [if_pos (by omega)] at hu; exact h.2 _ c u hc hu
  · rw [if_neg (by omega)] at hu; rw [this] at hc; exact k.2 _ c u hc hu
theorem LRep.nil {α : Type} {R : α → Value → Prop} : LRep R [] [] := ⟨rfl, fun j c u hc _ => by simp at hc⟩
theorem LRep.cons {α : Type} {R : α → Value → Prop} {c : α} {u : Value} {cs : List α} {us : List Value} (h : R c u) (k : LRep R cs us) : LRep R (c :: cs) (u :: us) :=
  ⟨by simp [k.1], fun j c' u' hc hu => by
    cases j with
    | zero => simp at hc hu; subst hc; subst hu; exact h
    | succ j => simp at hc hu; exact k.2 j c' u' hc hu⟩
theorem LRep.cons_inv {α : Type} {R : α → Value → Prop} {c : α} {cs : List α} {us : List Value} (h : LRep R (c :: cs) us) : ∃ u us', us = u :: us' ∧ R c u ∧ LRep R cs us' := by
  cases us with
  | nil => have := h.1; simp at this
  | cons u us' => exact ⟨u, us', rfl, h.2 0 c u rfl rfl, by have := h.1; simpa using this, fun j c' u' hc hu => h.2 (j + 1) c' u' (by simpa using hc) (by simpa using hu)⟩
theorem LRep.nil_inv {α : Type} {R : α → Value → Prop} {us : List Value} (h : LRep R [] us) : us = [] := by
  have := h.1; cases us <;> simp_all
theorem LRep.get {α : Type} {R : α → Value → Prop} {cs : List α} {us : List Value} (h : LRep R cs us) {j : Nat} {c : α} (hc : cs[j]? = some c) : ∃ u, us[j]? = some u ∧ R c u := by
  have hj : j < us.length := by
    have := (List.getElem?_eq_some_iff.1 hc).1
    have := h.1
    omega
  exact ⟨us[j], List.getElem?_eq_getElem hj, h.2 j c _ hc (List.getElem?_eq_getElem hj)⟩

theorem cellsT_rep {x : TV} {v : Value} {cs : List WV} (h : TRep w X β x v) (hc : cellsT x = some cs) : LRep (WRep w X β) cs v.cells.toList := by
  cases x with
  | any => simp [cellsT] at hc
  | tup vs => simp [cellsT] at hc
  | c x =>
    simp only [cellsT, Option.some.injEq] at hc
    subst hc
    have h1 := WRep.oneCell h
    cases v <;> first | (simp [Value.oneCell'] at h1; done) | exact .cons h .nil
  | agg cs' =>
    simp only [cellsT, Option.some.injEq] at hc
    subst hc
    obtain ⟨us, rfl, hl⟩ := h
    simpa [Value.cells] using hl
end

/-! ### Loading -/
theorem loadA_run {P : Program} {t : TypeId} {d : TyD} (hd : tyOf P t = some d) {w : World} {X : Nat → Prop} {β : Nat → Option Nat} {b off : Nat} {cs : List WV} {v : TV} (us : List Value) (hl : LRep (WRep w X β) cs us)
    (hc : ∀ j u, us[j]? = some u → w.cell? ⟨b, off + j, none⟩ = some u) (h : loadA d cs = some v) :
    ∃ u, (Instr.loadAt t (.pointer (some ⟨b, off, none⟩))).run P w = .ok u w ∧ TRep w X β v u := by
  unfold loadA at h
  split at h
  · rename_i ha
    split at h
    · rename_i hsz
      simp only [Option.some.injEq] at h
      subst h
      have hlen : (us.take d.size).length = d.size := by rw [List.length_take, ← hl.1]; omega
      have hr := run_loadCells_list (P := P) w ⟨b, off, none⟩ (us.take d.size) (fun j u hu => by
        rw [Addr.add_lit]
        rw [List.getElem?_take] at hu
        split at hu
        · exact hc j u hu
        · cases hu)
      rw [hlen] at hr
      refine ⟨.agg (us.take d.size).toArray, ?_, us.take d.size, rfl, hl.take _⟩
      simp [Instr.loadAt, Instr.sureAddr, loadVar, run_isAgg hd, ha, run_sizeOf hd, hr]
    · cases h
  · rename_i ha
    split at h
    · rename_i x cs'
      simp only [Option.some.injEq] at h
      subst h
      obtain ⟨u, us', rfl, hx, _⟩ := hl.cons_inv
      have h0 := hc 0 u rfl
      refine ⟨u, ?_, hx⟩
      rw [Nat.add_zero] at h0
      simp [Instr.loadAt, Instr.sureAddr, loadVar, run_isAgg hd, ha, h0]
    · cases h

end Go.AM
