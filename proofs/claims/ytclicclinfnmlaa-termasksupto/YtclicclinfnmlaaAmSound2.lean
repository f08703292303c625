/- Soundness of operations that touch no object: arithmetic, comparisons, addresses, parts of structs, slices of slices. No conditions. -/
import Derived.Test.YtclicclinfnmlaaAmSound1
import Derived.Laws.StructEq
import Derived.Laws.Strings
namespace Go.AM
section
variable {P : Program} {w : World} {X : Nat → Prop} {β : Nat → Option Nat}

theorem run_eqGuard_plain (op : BinOp) (t : TypeId) (x y : Operand) (a b : Value) (ha : ∀ cs, a ≠ .agg cs) (hn : a ≠ .nilIface) : (eqGuard op t x y a b).run P w = .ok () w := by
  cases a <;> first
    | (exact absurd rfl (ha _))
    | (exact absurd rfl hn)
    | (simp only [eqGuard]; split <;> rfl)

theorem intBin_run {op : BinOp} {k : IntKind} {a b : Int} {v : FV} (t : TypeId) (h : intBin op k a b = some v) : ∃ u, (binOp op t (.int k a) (.int k b)).run P w = .ok u w ∧ FRep w X v u := by
  cases op <;> simp only [intBin, Option.some.injEq, reduceCtorEq] at h
  case quo =>
    split at h
    · cases h
    · rename_i hb
      simp only [Option.some.injEq] at h
      subst h
      exact ⟨_, by simp [binOp, Op.intDiv, hb], .int _ _⟩
  case rem =>
    split at h
    · cases h
    · rename_i hb
      simp only [Option.some.injEq] at h
      subst h
      exact ⟨_, by simp [binOp, Op.intDiv, hb], .int _ _⟩
  all_goals
    subst h
    first
    | exact ⟨_, by simp [binOp, Op.intArith], .int _ _⟩
    | exact ⟨_, by simp [binOp, Op.intCmp], .bool _⟩

theorem strBin_run {op : BinOp} {a b : List UInt8} {v : FV} (t : TypeId) (h : strBin op a b = some v) : ∃ u, (binOp op t (.string ⟨a.toArray⟩) (.string ⟨b.toArray⟩)).run P w = .ok u w ∧ FRep w X v u := by
  cases op <;> simp only [strBin, Option.some.injEq, reduceCtorEq] at h
  case add =>
    split at h
    · rename_i hl
      simp only [Option.some.injEq] at h
      subst h
      refine ⟨.string ⟨(a ++ b).toArray⟩, ?_, .str _⟩
      have h1 : (⟨a.toArray⟩ : ByteArray).size = a.length := by simp [ByteArray.size]
      have h2 : (⟨b.toArray⟩ : ByteArray).size = b.length := by simp [ByteArray.size]
      have h3 : (⟨a.toArray⟩ : ByteArray) ++ ⟨b.toArray⟩ = ⟨(a ++ b).toArray⟩ := by
        apply ByteArray.ext
        simp
      have h4 : ¬ ((((⟨a.toArray⟩ : ByteArray).size + (⟨b.toArray⟩ : ByteArray).size : Nat) : Int) > IntKind.i64.max) := by
        rw [h1, h2]; simp only [IntKind.max, IntKind.signed, IntKind.bits]; simp; omega
      simp only [binOp, Op.stringOp, h4, if_false, h3, Sem.run_pure]
    · cases h
  all_goals
    subst h
    exact ⟨_, by simp [binOp, Op.stringOp, ByteArray.toList_eq], .bool _⟩

theorem ekOf_one {t : TypeId} {k : EK} (h : ekOf P t = some k) : (∃ d, P.underlying t = some d ∧ (match d with | .struct _ | .array _ _ => False | _ => True)) := by
  unfold ekOf at h
  split at h <;> simp_all

theorem run_part_one {t : TypeId} {k : EK} (h : ekOf P t = some k) (cs : Array Value) (off : Nat) (v : Value) (hv : cs[off]? = some v) : (part t cs off).run P w = .ok v w := by
  obtain ⟨d, hd, hm⟩ := ekOf_one h
  have hi : (isAgg t).run P w = .ok false w := by
    cases d <;> first | exact hm.elim | simp [isAgg, run_underlying hd]
  simp [part, hi, hv]

theorem sameCells_inv {k : EK} {l : List EK} {xs ys : List WV} {r : Bool} (h : sameCells (k :: l) xs ys = some r) :
    ∃ x y xs' ys' b b', xs = x :: xs' ∧ ys = y :: ys' ∧ sameCells l xs' ys' = some b' ∧ r = (b && b') ∧
      ((k = .int ∧ ∃ i n m, x = .a (.fz (.int i n)) ∧ y = .a (.fz (.int i m)) ∧ b = (n == m)) ∨ (k = .bool ∧ ∃ n m, x = .a (.fz (.bool n)) ∧ y = .a (.fz (.bool m)) ∧ b = (n == m)) ∨
       (k = .str ∧ ∃ n m, x = .a (.fz (.str n)) ∧ y = .a (.fz (.str m)) ∧ b = (n == m))) := by
  unfold sameCells at h
  split at h
  · rename_i h1; cases h1
  · rename_i h1
    injection h1 with h1 h2
    subst h2
    split at h
    · rename_i he
      subst he
      obtain ⟨b', hb, rfl⟩ := Option.map_eq_some_iff.1 h
      exact ⟨_, _, _, _, _, b', rfl, rfl, hb, rfl, .inl ⟨h1, _, _, _, rfl, rfl, rfl⟩⟩
    · cases h
  · rename_i h1
    injection h1 with h1 h2
    subst h2
    obtain ⟨b', hb, rfl⟩ := Option.map_eq_some_iff.1 h
    exact ⟨_, _, _, _, _, b', rfl, rfl, hb, rfl, .inr (.inl ⟨h1, _, _, rfl, rfl, rfl⟩)⟩
  · rename_i h1
    injection h1 with h1 h2
    subst h2
    obtain ⟨b', hb, rfl⟩ := Option.map_eq_some_iff.1 h
    exact ⟨_, _, _, _, _, b', rfl, rfl, hb, rfl, .inr (.inr ⟨h1, _, _, rfl, rfl, rfl⟩)⟩
  · cases h

theorem sameCells_run : ∀ (fs : List Field) (i : Nat) (ks : List EK) (xs ys : List WV) (us vs : List Value) (as bs : Array Value) (r : Bool), eksOf P i fs = some ks → sameCells ks xs ys = some r →
    LRep (WRep w X β) xs us → LRep (WRep w X β) ys vs → (∀ j, us[j]? = as[i + j]?) → (∀ j, vs[j]? = bs[i + j]?) → (Op.eqFields 9999 as bs fs).run P w = .ok r w
  | [], i, ks, xs, ys, us, vs, as, bs, r, hk, h, hx, hy, hus, hvs => by
    simp only [eksOf, Option.some.injEq] at hk
    subst hk
    cases xs <;> cases ys <;> simp only [sameCells, Option.some.injEq, reduceCtorEq] at h
    subst h
    rfl
  | f :: fs, i, ks, xs, ys, us, vs, as, bs, r, hk, h, hx, hy, hus, hvs => by
    simp only [eksOf] at hk
    split at hk
    · rename_i k l hf hl
      split at hk
      · rename_i hc
        simp only [Option.some.injEq] at hk
        subst hk
        obtain ⟨ho, hn⟩ := hc
        have key : ∀ (x y : WV) (xs' ys' : List WV) (u v : Value) (b b' : Bool), xs = x :: xs' → ys = y :: ys' → sameCells l xs' ys' = some b' → us.head? = some u → vs.head? = some v →
            (Op.equalIn 9999 f.type u v).run P w = .ok b w → (Op.eqFields 9999 as bs (f :: fs)).run P w = .ok (b && b') w := by
          intro x y xs' ys' u v b b' e1 e2 hsc hu hv he
          subst e1; subst e2
          obtain ⟨u', us', rfl, _, hx'⟩ := hx.cons_inv
          obtain ⟨v', vs', rfl, _, hy'⟩ := hy.cons_inv
          simp only [List.head?_cons, Option.some.injEq] at hu hv
          subst hu; subst hv
          have p1 := run_part_one (w := w) hf as f.offset u' (by have := hus 0; simp at this; rw [ho]; exact this.symm)
          have p2 := run_part_one (w := w) hf bs f.offset v' (by have := hvs 0; simp at this; rw [ho]; exact this.symm)
          have ih := sameCells_run fs (i + 1) l xs' ys' us' vs' as bs b' hl hsc hx' hy' (fun j => by have := hus (j + 1); simpa [Nat.add_assoc, Nat.add_comm 1 j] using this)
            (fun j => by have := hvs (j + 1); simpa [Nat.add_assoc, Nat.add_comm 1 j] using this)
          simp only [Op.eqFields, hn, ne_eq, not_false_eq_true, if_true, Sem.run_bind, p1, p2, he, Result.andThen_ok, Sem.run_ite]
          cases b
          · simp
          · simpa using ih
        have fin : ∀ (x y : WV) (xs' ys' : List WV) (b b' : Bool), xs = x :: xs' → ys = y :: ys' → sameCells l xs' ys' = some b' → r = (b && b') →
            (∀ u v, WRep w X β x u → WRep w X β y v → (Op.equalIn 9999 f.type u v).run P w = .ok b w) → (Op.eqFields 9999 as bs (f :: fs)).run P w = .ok r w := by
          intro x y xs' ys' b b' e1 e2 hsc hr he
          have hx2 := hx; have hy2 := hy
          rw [e1] at hx2; rw [e2] at hy2
          obtain ⟨u, us', eu, hu, _⟩ := hx2.cons_inv
          obtain ⟨v, vs', ev', hv, _⟩ := hy2.cons_inv
          rw [hr]
          exact key x y xs' ys' u v b b' e1 e2 hsc (by rw [eu]; rfl) (by rw [ev']; rfl) (he u v hu hv)
        obtain ⟨x, y, xs', ys', b, b', e1, e2, hsc, hr, hcase⟩ := sameCells_inv h
        refine fin x y xs' ys' b b' e1 e2 hsc hr ?_
        intro u v hu hv
        unfold ekOf at hf
        rcases hcase with ⟨rfl, kk, n, m, rfl, rfl, rfl⟩ | ⟨rfl, n, m, rfl, rfl, rfl⟩ | ⟨rfl, n, m, rfl, rfl, rfl⟩
        · split at hf <;> simp only [Option.some.injEq, reduceCtorEq] at hf
          rename_i hd
          rw [TRep.int_inv (β := β) (X := X) (w := w) hu, TRep.int_inv (β := β) (X := X) (w := w) hv]
          exact run_equalIn_int w 9998 _ _ _ _ _ hd
        · split at hf <;> simp only [Option.some.injEq, reduceCtorEq] at hf
          rename_i hd
          rw [TRep.bool_inv (β := β) (X := X) (w := w) hu, TRep.bool_inv (β := β) (X := X) (w := w) hv]
          exact run_equalIn_bool' w 9998 _ _ _ hd
        · split at hf <;> simp only [Option.some.injEq, reduceCtorEq] at hf
          rename_i hd
          rw [TRep.str_inv (β := β) (X := X) (w := w) hu, TRep.str_inv (β := β) (X := X) (w := w) hv]
          have := run_equalIn_string (P := P) w 9998 f.type ⟨n.toArray⟩ ⟨m.toArray⟩ hd
          simpa [ByteArray.toList_eq] using this
      · cases hk
    · cases hk

theorem kindOf_bool {P : Program} {u : TypeDesc} (h : kindOf P u = .bool) : u = .bool := by cases u <;> simp_all [kindOf] <;> split at h <;> simp_all
theorem kindOf_slice {P : Program} {u : TypeDesc} {e : TypeId} (h : kindOf P u = .slice e) : u = .slice e := by cases u <;> simp_all [kindOf] <;> split at h <;> simp_all
theorem kindOf_ptr {P : Program} {u : TypeDesc} {e : TypeId} (h : kindOf P u = .ptr e) : u = .pointer e := by cases u <;> simp_all [kindOf] <;> split at h <;> simp_all
theorem kindOf_int {P : Program} {u : TypeDesc} {k : IntKind} (h : kindOf P u = .int k) : u = .int k := by cases u <;> simp_all [kindOf] <;> split at h <;> simp_all
theorem kindOf_str {P : Program} {u : TypeDesc} (h : kindOf P u = .str) : u = .string := by cases u <;> simp_all [kindOf] <;> split at h <;> simp_all
theorem kindOf_arr {P : Program} {u : TypeDesc} {n : Nat} {e : TypeId} (h : kindOf P u = .arr n e) : u = .array n e := by cases u <;> simp_all [kindOf] <;> split at h <;> simp_all
theorem kindOf_struct {P : Program} {u : TypeDesc} {l : List (Nat × Nat × TypeId)} (h : kindOf P u = .struct l) :
    ∃ fs, u = .struct fs ∧ (l = fs.toList.map fun f => (f.offset, P.cellsOf f.type, f.type)) ∧ ∀ f ∈ fs.toList, ∃ i, P.info? f.type = some i := by
  cases u with
  | struct fs =>
    simp only [kindOf] at h
    split at h
    · rename_i hc
      injection h with h
      refine ⟨fs, rfl, h.symm, fun f hf => ?_⟩
      have := List.all_eq_true.1 hc f hf
      exact Option.isSome_iff_exists.1 this
    · cases h
  | _ => simp [kindOf] at h
theorem kindOf_map {P : Program} {u : TypeDesc} {k e : TypeId} (h : kindOf P u = .map k e) : u = .map k e := by cases u <;> simp_all [kindOf] <;> split at h <;> simp_all

/-- A kind, and the type that it is of. -/
theorem kind_spec {t : TypeId} {d : TyD} (h : tyOf P t = some d) : ∃ u, P.underlying t = some u ∧ d.kind = kindOf P u := by
  obtain ⟨_, u, _, hu, _, _, _, _, hk⟩ := tyOf_spec h
  exact ⟨u, hu, hk⟩

theorem nilSl_run {t e : TypeId} {x y : WV} {u v : Value} {r : Bool} (ht : P.underlying t = some (.slice e)) (h : nilSl x y = some r) (hx : WRep w X β x u) (hy : WRep w X β y v) (d : Nat) : (Op.equalIn (d + 1) t u v).run P w = .ok r w := by
  unfold nilSl at h
  split at h <;> simp only [Option.some.injEq, reduceCtorEq] at h <;> subst h
  · rw [TRep.nils_inv (X := X) (β := β) hx, TRep.nils_inv (X := X) (β := β) hy]
    simp [Op.equalIn, run_underlying ht]
  · rw [TRep.nils_inv (X := X) (β := β) hy]
    have h1 := TRep.fz_inv (X := X) (β := β) hx
    cases h1 <;> simp [Op.equalIn, run_underlying ht]
  · rw [TRep.nils_inv (X := X) (β := β) hy]
    have h1 := TRep.fz_inv (X := X) (β := β) hx
    cases h1
    simp [Op.equalIn, run_underlying ht]
  · rw [TRep.nils_inv (X := X) (β := β) hy]
    obtain ⟨_, _, _, _, _, _, _, _, _, _, rfl⟩ := TRep.osl_inv (X := X) (β := β) hx
    simp [Op.equalIn, run_underlying ht]

theorem nilPtr_run {t e : TypeId} {x y : WV} {u v : Value} {r : Bool} (ht : P.underlying t = some (.pointer e)) (h : nilPtr x y = some r) (hx : WRep w X β x u) (hy : WRep w X β y v) (d : Nat) : (Op.equalIn (d + 1) t u v).run P w = .ok r w := by
  have hc : ∀ {v : Value}, WRep w X β (.a (.fz (.cst (.pointer none)))) v → v = .pointer none := fun h => by have h1 := TRep.fz_inv (X := X) (β := β) h; cases h1; rfl
  unfold nilPtr at h
  split at h <;> simp only [Option.some.injEq, reduceCtorEq] at h <;> subst h
  · rw [hc hy]
    obtain ⟨_, _, rfl⟩ := TRep.ep_inv (X := X) (β := β) hx
    simp [Op.equalIn, run_underlying ht]
  · rw [hc hy]
    have h1 := TRep.fz_inv (X := X) (β := β) hx
    cases h1
    simp [Op.equalIn, run_underlying ht]
  · rw [hc hy, hc hx]
    simp [Op.equalIn, run_underlying ht]

theorem eqC_run {t : TypeId} {x y : WV} {u v : Value} {r : Bool} (h : eqC P t x y = some r) (hx : WRep w X β x u) (hy : WRep w X β y v) : (Op.equal t u v).run P w = .ok r w := by
  unfold eqC at h
  split at h
  · rename_i d hd
    obtain ⟨du, hu, hk⟩ := kind_spec hd
    split at h
    · rename_i hb
      rw [hk] at hb
      have := kindOf_bool hb
      subst this
      split at h <;> simp only [Option.some.injEq, reduceCtorEq] at h
      subst h
      rw [TRep.bool_inv (X := X) (β := β) hx, TRep.bool_inv (X := X) (β := β) hy]
      exact run_equalIn_bool' w 9999 _ _ _ hu
    · rename_i e hb
      rw [hk] at hb
      exact nilSl_run (kindOf_slice hb ▸ hu) h hx hy 9999
    · rename_i e hb
      rw [hk] at hb
      exact nilPtr_run (kindOf_ptr hb ▸ hu) h hx hy 9999
    · cases h
  · cases h

theorem binOp_eql_equal (t : TypeId) (u v : Value) (r : Bool) (h1 : ∀ k n, u ≠ .int k n) (h2 : ∀ s, u ≠ .string s) (h3 : ∀ k n, u ≠ .float k n) (h4 : ∀ k n m, u ≠ .complex k n m) (h : (Op.equal t u v).run P w = .ok r w) :
    (binOp .eql t u v).run P w = .ok (.bool r) w ∧ (binOp .neq t u v).run P w = .ok (.bool (!r)) w := by
  cases u <;> first
    | exact absurd rfl (h1 _ _)
    | exact absurd rfl (h2 _)
    | exact absurd rfl (h3 _ _)
    | exact absurd rfl (h4 _ _ _)
    | (constructor <;> simp [binOp, h])

theorem eqA_run {op : BinOp} {t : TypeId} {x y r : TV} {u v : Value} (xo yo : Operand) (h : eqOp op (eqA P t x y) = some r) (hx : TRep w X β x u) (hy : TRep w X β y v) :
    ∃ z, ((do eqGuard op t xo yo u v; binOp op t u v : Sem Value)).run P w = .ok z w ∧ TRep w X β r z := by
  have fin : ∀ b, eqOp op (some b) = some r → (eqGuard op t xo yo u v).run P w = .ok () w → (Op.equal t u v).run P w = .ok b w → (∀ k n, u ≠ .int k n) → (∀ s, u ≠ .string s) → (∀ k n, u ≠ .float k n) → (∀ k n m, u ≠ .complex k n m) →
      ∃ z, ((do eqGuard op t xo yo u v; binOp op t u v : Sem Value)).run P w = .ok z w ∧ TRep w X β r z := by
    intro b hb hg he h1 h2 h3 h4
    obtain ⟨e1, e2⟩ := binOp_eql_equal t u v b h1 h2 h3 h4 he
    unfold eqOp at hb
    split at hb <;> simp only [Option.map_some, Option.some.injEq, reduceCtorEq] at hb <;> subst hb
    · exact ⟨_, by simp only [Sem.run_bind, hg, Result.andThen_ok, e1], .bool_mk _⟩
    · exact ⟨_, by simp only [Sem.run_bind, hg, Result.andThen_ok, e2], .bool_mk _⟩
  cases hq : eqA P t x y with
  | none => rw [hq] at h; unfold eqOp at h; split at h <;> simp at h
  | some b =>
    rw [hq] at h
    unfold eqA at hq
    split at hq
    · rename_i xs ys
      split at hq
      · rename_i ks hks
        obtain ⟨us, rfl, hl⟩ := hx
        obtain ⟨vs, rfl, hr⟩ := hy
        unfold eqKinds at hks
        split at hks
        · rename_i fs hfs
          split at hks
          · rename_i hc
            have hf : P.fieldsOf t = fs := by simp [Program.fieldsOf, hfs]
            have hrun := sameCells_run fs.toList 0 ks xs ys us vs us.toArray vs.toArray b hks hq hl hr (by simp) (by simp)
            refine fin b h (run_eqGuard_agg w op t xo yo _ _ hc.2) ?_ (by simp) (by simp) (by simp) (by simp)
            have := run_equalIn_agg (P := P) w 9999 t us.toArray vs.toArray (by rw [hf]; exact hfs) hc.1
            rw [hf] at this
            exact this.trans hrun
          · cases hks
        · cases hks
      · cases hq
    · rename_i x y
      have h1 := WRep.oneCell hx
      have hkind : (∀ cs, u ≠ .agg cs) ∧ u ≠ .nilIface ∧ (∀ k n, u ≠ .int k n) ∧ (∀ s, u ≠ .string s) ∧ (∀ k n, u ≠ .float k n) ∧ (∀ k n m, u ≠ .complex k n m) := by
        unfold eqC at hq
        split at hq
        · split at hq
          · split at hq
            · rw [TRep.bool_inv (X := X) (β := β) hx]; simp
            · cases hq
          · unfold nilSl at hq
            split at hq
            · rw [TRep.nils_inv (X := X) (β := β) hx]; simp
            · have h1 := TRep.fz_inv (X := X) (β := β) hx; cases h1 <;> simp
            · have h1 := TRep.fz_inv (X := X) (β := β) hx; cases h1; simp
            · obtain ⟨_, _, _, _, _, _, _, _, _, _, rfl⟩ := TRep.osl_inv (X := X) (β := β) hx; simp
            · cases hq
          · unfold nilPtr at hq
            split at hq
            · obtain ⟨_, _, rfl⟩ := TRep.ep_inv (X := X) (β := β) hx; simp
            · have h1 := TRep.fz_inv (X := X) (β := β) hx; cases h1; simp
            · have h1 := TRep.fz_inv (X := X) (β := β) hx; cases h1; simp
            · cases hq
          · cases hq
        · cases hq
      exact fin b h (run_eqGuard_plain op t xo yo u v hkind.1 hkind.2.1) (eqC_run hq hx hy) hkind.2.2.1 hkind.2.2.2.1 hkind.2.2.2.2.1 hkind.2.2.2.2.2
    · cases hq

theorem binA_run {op : BinOp} {t : TypeId} {x y r : TV} {u v : Value} (xo yo : Operand) (h : binA P t op x y = some r) (hx : TRep w X β x u) (hy : TRep w X β y v) :
    ∃ z, ((do eqGuard op t xo yo u v; binOp op t u v : Sem Value)).run P w = .ok z w ∧ TRep w X β r z := by
  unfold binA at h
  split at h
  · split at h
    · rename_i hk
      subst hk
      obtain ⟨f, hf, rfl⟩ := Option.map_eq_some_iff.1 h
      rw [TRep.int_inv hx, TRep.int_inv hy]
      obtain ⟨z, hz, hr⟩ := intBin_run (P := P) (w := w) (X := X) t hf
      exact ⟨z, by rw [Sem.run_bind, run_eqGuard_plain op t xo yo _ _ (by simp) (by simp)]; exact hz, .fz_mk hr⟩
    · cases h
  · obtain ⟨f, hf, rfl⟩ := Option.map_eq_some_iff.1 h
    rw [TRep.str_inv hx, TRep.str_inv hy]
    obtain ⟨z, hz, hr⟩ := strBin_run (P := P) (w := w) (X := X) t hf
    exact ⟨z, by rw [Sem.run_bind, run_eqGuard_plain op t xo yo _ _ (by simp) (by simp)]; exact hz, .fz_mk hr⟩
  · exact eqA_run xo yo h hx hy

theorem unA_run {op : UnOp} {x r : TV} {u : Value} (h : unA op x = some r) (hx : TRep w X β x u) : ∃ z, (Op.unary op u).run P w = .ok z w ∧ TRep w X β r z := by
  unfold unA at h
  split at h
  · rw [TRep.int_inv hx]
    split at h <;> simp only [Option.some.injEq, reduceCtorEq] at h
    subst h
    exact ⟨_, rfl, .int_mk _ _⟩
  · rw [TRep.bool_inv hx]
    split at h <;> simp only [Option.some.injEq, reduceCtorEq] at h
    subst h
    exact ⟨_, by simp [Op.unary], .bool_mk _⟩
  · cases h

end
end Go.AM
