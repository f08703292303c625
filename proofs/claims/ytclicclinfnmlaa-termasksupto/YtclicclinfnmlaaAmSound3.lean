/- Soundness of operations that touch no object: addresses, parts of structs, slices of slices, strings. No conditions. -/
import Derived.Test.YtclicclinfnmlaaAmSound2
namespace Go.AM
section
variable {P : Program} {w : World} {X : Nat → Prop} {β : Nat → Option Nat}

theorem nilCheckA_run {x r : TV} {u : Value} {o : Oper} (ev : Operand → Value) (xo : Operand) (ho : o.op = .nilCheck xo) (hu : ev xo = u) (h : nilCheckA x = some r) (hx : TRep w X β x u) : (execOp ev o).run P w = .ok (.value u) w ∧ TRep w X β r u := by
  unfold nilCheckA at h
  split at h <;> simp only [Option.some.injEq, reduceCtorEq] at h <;> subst h
  · obtain ⟨b, hb, rfl⟩ := hx.ep_inv
    exact ⟨by simp [execOp, ho, hu], hx⟩
  · have h1 := hx.fz_inv
    cases h1
    rename_i h1 h2 h3 h4
    exact ⟨by simp [execOp, ho, hu], hx⟩
  · cases id hx with
    | fn f first cap us vs h1 h2 => exact ⟨by simp [execOp, ho, hu], hx⟩

theorem pickV_run {c x y r : TV} {cu xu yu : Value} (h : pickV c x y = some r) (hc : TRep w X β c cu) (hx : TRep w X β x xu) (hy : TRep w X β y yu) :
    ∃ b, cu = .bool b ∧ TRep w X β r (if b then xu else yu) := by
  unfold pickV at h
  split at h <;> simp only [Option.some.injEq, reduceCtorEq] at h
  subst h
  rename_i t
  refine ⟨t, hc.bool_inv, ?_⟩
  unfold pickT
  split
  · rw [hx.bool_inv, hy.bool_inv]
    cases t <;> exact .bool_mk _
  · cases t
    · exact hy
    · exact hx

theorem extractA_run {x r : TV} {u : Value} {i : Nat} (h : extractA x i = some r) (hx : TRep w X β x u) : ∃ z, (Instr.extract u i).run P w = .ok z w ∧ TRep w X β r z := by
  unfold extractA at h
  split at h
  · rename_i vs
    obtain ⟨us, rfl, hl⟩ := hx
    split at h <;> simp only [Option.some.injEq, reduceCtorEq] at h <;> subst h
    · rename_i cs hv
      obtain ⟨z, hz, us', rfl, hl', _⟩ := hl.get hv
      exact ⟨.agg us'.toArray, by simp [Instr.extract, hz, shut], us', rfl, hl'⟩
    · rename_i c hv
      obtain ⟨z, hz, us', rfl, hl', _⟩ := hl.get hv
      obtain ⟨u, us'', rfl, hc, _⟩ := hl'.cons_inv
      exact ⟨u, by simp [Instr.extract, hz, shut], hc⟩
  · cases h

theorem convertA_run {x r : TV} {u : Value} {dst : TypeId} {d : TyD} (src : TypeId) (hs : ∃ e, P.underlying src = some e ∧ (∀ k n, u = .int k n → True)) (hd : tyOf P dst = some d) (h : convertA d x = some r) (hx : TRep w X β x u) :
    ∃ z, (convert src dst u).run P w = .ok z w ∧ TRep w X β r z := by
  obtain ⟨su, hsu, _⟩ := hs
  obtain ⟨du, hdu, hk⟩ := kind_spec hd
  unfold convertA at h
  split at h
  · rename_i k hkk
    rw [hk] at hkk
    have := kindOf_int hkk
    subst this
    split at h <;> simp only [Option.some.injEq, reduceCtorEq] at h
    subst h
    rw [hx.int_inv]
    refine ⟨_, ?_, .int_mk _ _⟩
    simp [convert, run_underlying hsu, run_underlying hdu, Conv.intToInt]
  · rename_i hkk
    rw [hk] at hkk
    have := kindOf_str hkk
    subst this
    split at h <;> simp only [Option.some.injEq, reduceCtorEq] at h
    subst h
    rw [hx.str_inv]
    refine ⟨_, ?_, .str_mk _⟩
    simp [convert, run_underlying hsu, run_underlying hdu]
  · cases h

theorem struct_spec {t : TypeId} {d : TyD} {l : List (Nat × Nat × TypeId)} (h : tyOf P t = some d) (hk : d.kind = .struct l) :
    ∃ fs, P.underlying t = some (.struct fs) ∧ (l = fs.toList.map fun f => (f.offset, P.cellsOf f.type, f.type)) ∧ ∀ f ∈ fs.toList, ∃ i, P.info? f.type = some i := by
  obtain ⟨u, hu, hk'⟩ := kind_spec h
  rw [hk'] at hk
  obtain ⟨fs, rfl, hl, hf⟩ := kindOf_struct hk
  exact ⟨fs, hu, hl, hf⟩

theorem fieldPlace_run {f : Field} {b off : Nat} (h : P.cellsOf f.type ≠ 0) : (fieldPlace ⟨b, off, none⟩ f).run P w = .ok ⟨b, off + f.offset, none⟩ w := by
  have hs : ∃ i, P.info? f.type = some i ∧ i.size ≠ 0 := by
    unfold Program.cellsOf at h
    cases hi : P.info? f.type with
    | none => simp [hi] at h
    | some i => exact ⟨i, rfl, by simpa [hi] using h⟩
  obtain ⟨i, hi, hne⟩ := hs
  simp [fieldPlace, sizeOf, typeInfo, hi, hne, Addr.add_lit]

theorem fieldAddrA_run {x r : TV} {u : Value} {s : TypeId} {d : TyD} {f : Nat} (hd : tyOf P s = some d) (h : fieldAddrA d x f = some r) (hx : TRep w X β x u) :
    ∃ z, (Instr.fieldAt s u f).run P w = .ok z w ∧ TRep w X β r z := by
  unfold fieldAddrA at h
  split at h
  · rename_i l hk
    obtain ⟨fs, hfs, rfl, _⟩ := struct_spec hd hk
    split at h
    · rename_i fd hfd
      rw [List.getElem?_map] at hfd
      obtain ⟨fl, hfl, rfl⟩ := Option.map_eq_some_iff.1 hfd
      have hfa : fs[f]? = some fl := by simpa using hfl
      split at h
      · cases h
      · rename_i hne
        have hne : P.cellsOf fl.type ≠ 0 := hne
        have hfp : ∀ b off, (fieldPlace ⟨b, off, none⟩ fl).run P w = .ok ⟨b, off + fl.offset, none⟩ w := fun _ _ => fieldPlace_run hne
        split at h <;> simp only [Option.some.injEq, reduceCtorEq] at h <;> subst h
        · obtain ⟨b, hb, rfl⟩ := hx.ep_inv
          refine ⟨_, by simp [Instr.fieldAt, run_underlying hfs, hfa, Instr.sureAddr, hfp]; rfl, ?_⟩
          rw [Nat.add_assoc]
          exact .a _ _ (.ep _ _ _ _ b hb)
        · have h1 := hx.fz_inv
          cases h1 with
          | pt cs b off u h2 h3 h4 h5 =>
            refine ⟨_, by simp [Instr.fieldAt, run_underlying hfs, hfa, Instr.sureAddr, hfp]; rfl, ?_⟩
            refine .fz_mk (.pt _ b (off + fl.offset) (fun j => u (fl.offset + j)) h2 h3 (fun j x hx => ?_) (fun j x hx => ?_))
            · rw [List.getElem?_drop] at hx
              rw [Nat.add_assoc]
              exact h4 _ _ hx
            · rw [List.getElem?_drop] at hx
              exact h5 _ _ hx
    · cases h
  · cases h

theorem partA_run {t : TypeId} {d : TyD} {cs : List WV} {us : List Value} {off : Nat} {r : TV} (hd : tyOf P t = some d) (h : partA d.agg d.size cs off = some r) (hl : LRep (WRep w X β) cs us) :
    ∃ z, (part t us.toArray off).run P w = .ok z w ∧ TRep w X β r z := by
  unfold partA at h
  split at h
  · rename_i ha
    split at h <;> simp only [Option.some.injEq, reduceCtorEq] at h
    subst h
    refine ⟨.agg (us.toArray.extract off (off + d.size)), by simp [part, run_isAgg hd, ha, run_sizeOf hd], (us.drop off).take d.size, ?_, (hl.drop off).take _⟩
    congr 1
    apply Array.ext'
    simp [List.extract_eq_take_drop]
  · rename_i ha
    obtain ⟨c, hc, rfl⟩ := Option.map_eq_some_iff.1 h
    obtain ⟨u, hu, hr⟩ := hl.get hc
    exact ⟨u, by simp [part, run_isAgg hd, ha, hu], hr⟩

theorem fieldA_run {x r : TV} {u : Value} {s : TypeId} {d : TyD} {f : Nat} (hd : tyOf P s = some d) (h : fieldA P d x f = some r) (hx : TRep w X β x u) :
    ∃ z, (Instr.field s u f).run P w = .ok z w ∧ TRep w X β r z := by
  unfold fieldA at h
  split at h
  · rename_i l hk
    obtain ⟨fs, hfs, rfl, _⟩ := struct_spec hd hk
    split at h
    · rename_i fd hfd
      rw [List.getElem?_map] at hfd
      obtain ⟨fl, hfl, rfl⟩ := Option.map_eq_some_iff.1 hfd
      have hfa : fs[f]? = some fl := by simpa using hfl
      split at h
      · rename_i df cs hdf
        obtain ⟨us, rfl, hl⟩ := hx
        obtain ⟨z, hz, hr⟩ := partA_run hdf h hl
        exact ⟨z, by simp [Instr.field, run_underlying hfs, hfa, asAgg, hz], hr⟩
      · cases h
    · cases h
  · cases h

theorem slice_spec {t e : TypeId} {d : TyD} (h : tyOf P t = some d) (hk : d.kind = .slice e) : P.underlying t = some (.slice e) := by
  obtain ⟨u, hu, hk'⟩ := kind_spec h
  rw [hk'] at hk
  exact kindOf_slice hk ▸ hu
theorem arr_spec {t e : TypeId} {n : Nat} {d : TyD} (h : tyOf P t = some d) (hk : d.kind = .arr n e) : P.underlying t = some (.array n e) := by
  obtain ⟨u, hu, hk'⟩ := kind_spec h
  rw [hk'] at hk
  exact kindOf_arr hk ▸ hu
theorem str_spec {t : TypeId} {d : TyD} (h : tyOf P t = some d) (hk : d.kind = .str) : P.underlying t = some .string := by
  obtain ⟨u, hu, hk'⟩ := kind_spec h
  rw [hk'] at hk
  exact kindOf_str hk ▸ hu

theorem toNat_lt {i : Int} {n : Nat} (h0 : 0 ≤ i) (h : i < n) : i.toNat < n := by omega

theorem indexAddrA_run {x ix r : TV} {u iu : Value} {t : TypeId} {d : TyD} (hd : tyOf P t = some d) (h : indexAddrA P d x ix = some r) (hx : TRep w X β x u) (hi : TRep w X β ix iu) :
    ∃ z, (Instr.indexAt t u iu).run P w = .ok z w ∧ TRep w X β r z := by
  unfold indexAddrA at h
  split at h
  · rename_i k i
    rw [hi.int_inv]
    split at h
    · rename_i e hk
      have ht := slice_spec hd hk
      split at h
      · rename_i de hde
        unfold elemSl at h
        split at h
        · split at h <;> simp only [Option.some.injEq, reduceCtorEq] at h
          rename_i o n off len hc
          obtain ⟨hsz, h0, h1⟩ := hc
          subst h
          obtain ⟨b, q, cap, sz, tt, hb, hs, hlc, hcap, hq, rfl⟩ := hx.osl_inv
          subst hsz
          have hq : q = off * de.size := hq.resolve_right (by omega)
          subst hq
          refine ⟨.pointer (some ⟨b, (off + i.toNat) * de.size + 0, none⟩), ?_, .a _ _ (.ep _ _ _ _ b hb)⟩
          simp [Instr.indexAt, asIntOf, run_underlying ht, h0, h1, run_sizeOf hde, Addr.add_lit, Nat.add_mul]
        · rename_i nn n es
          split at h <;> simp only [Option.some.injEq, reduceCtorEq] at h
          rename_i hc
          obtain ⟨hsz, h0, h1⟩ := hc
          subst h
          have h2 := hx.fz_inv
          cases h2 with
          | slnil n => simp at h1; omega
          | sl0 => simp at h1; omega
          | sl nn n es b off cap len u g1 g2 g3 g4 g5 g6 g7 =>
            have hlt := toNat_lt h0 h1
            have hg : es[i.toNat]? = some (es.getD i.toNat []) := by simp [List.getD, List.getElem?_eq_getElem hlt]
            refine ⟨.pointer (some ⟨b, off + i.toNat * de.size, none⟩), ?_, ?_⟩
            · rw [g1]
              simp [Instr.indexAt, asIntOf, run_underlying ht, h0, h1, run_sizeOf hde, Addr.add_lit]
            · rw [hsz]
              exact .fz_mk (.pt _ b _ (u i.toNat) g3 g4 (fun j f hf => g6 _ _ _ _ hg hf) (fun j f hf => g7 _ _ _ _ hg hf))
        · cases h
      · cases h
    · rename_i m e hk
      have ht := arr_spec hd hk
      split at h
      · rename_i de hde
        unfold elemArr at h
        split at h
        · split at h <;> simp only [Option.some.injEq, reduceCtorEq] at h
          rename_i hc
          obtain ⟨h0, h1⟩ := hc
          subst h
          obtain ⟨b, hb, rfl⟩ := hx.ep_inv
          refine ⟨_, by simp [Instr.indexAt, asIntOf, run_underlying ht, h0, h1, run_sizeOf hde, Addr.add_lit, Instr.sureAddr]; rfl, ?_⟩
          rw [Nat.add_assoc]
          exact .a _ _ (.ep _ _ _ _ b hb)
        · cases h
      · cases h
    · cases h
  · cases h

theorem indexA_run {x ix r : TV} {u iu : Value} {t : TypeId} {d : TyD} (hd : tyOf P t = some d) (h : indexA P d x ix = some r) (hx : TRep w X β x u) (hi : TRep w X β ix iu) :
    ∃ z, (Instr.index t u iu).run P w = .ok z w ∧ TRep w X β r z := by
  unfold indexA at h
  split at h
  · rename_i k i
    rw [hi.int_inv]
    split at h
    · rename_i hk
      have ht := str_spec hd hk
      split at h
      · split at h <;> simp only [Option.some.injEq, reduceCtorEq] at h
        rename_i l hc
        obtain ⟨h0, h1⟩ := hc
        subst h
        rw [hx.str_inv]
        have hlt := toNat_lt h0 h1
        have hg : (⟨l.toArray⟩ : ByteArray)[i.toNat]? = some (l.getD i.toNat 0) := by
          have hs : i.toNat < (⟨l.toArray⟩ : ByteArray).size := by simpa [ByteArray.size] using hlt
          rw [getElem?_pos (⟨l.toArray⟩ : ByteArray) i.toNat hs]
          simp only [ByteArray.getElem_eq_getElem_data, List.getElem_toArray, List.getD, List.getElem?_eq_getElem hlt, Option.getD_some]
        refine ⟨.int .u8 (l.getD i.toNat 0).toNat, ?_, .int_mk _ _⟩
        simp only [Instr.index, asIntOf, Sem.run_bind, Sem.run_pure, Result.andThen_ok, run_underlying ht, h0, ↓reduceIte, hg]
      · cases h
    · rename_i m e hk
      have ht := arr_spec hd hk
      split at h
      · rename_i de cs hde
        split at h
        · rename_i hc
          obtain ⟨h0, h1⟩ := hc
          obtain ⟨us, rfl, hl⟩ := hx
          obtain ⟨z, hz, hr⟩ := partA_run hde h hl
          exact ⟨z, by simp [Instr.index, asIntOf, run_underlying ht, h0, h1, run_sizeOf hde, hz], hr⟩
        · cases h
      · cases h
    · cases h
  · cases h

theorem atoms_rep : ∀ {cs : List WV} {xs : List AV} {us : List Value}, atoms cs = some xs → LRep (WRep w X β) cs us → LRep (ARep w X β) xs us
  | [], xs, us, h, hl => by
    simp only [atoms, Option.some.injEq] at h
    subst h
    rw [hl.nil_inv]
    exact .nil
  | .a x :: r, xs, us, h, hl => by
    simp only [atoms] at h
    obtain ⟨l, hl', rfl⟩ := Option.map_eq_some_iff.1 h
    obtain ⟨u, us', rfl, hu, hus⟩ := hl.cons_inv
    cases hu with
    | a _ _ hu => exact .cons hu (atoms_rep hl' hus)
  | .fn _ _ _ :: r, xs, us, h, hl => by simp [atoms] at h

theorem atomsL_rep : ∀ {cs : List TV} {xs : List (Bool × List AV)} {us : List Value}, atomsL cs = some xs → LRep (TRep w X β) cs us → LRep (PRep (ARep w X β)) xs us
  | [], xs, us, h, hl => by
    simp only [atomsL, Option.some.injEq] at h
    subst h
    rw [hl.nil_inv]
    exact .nil
  | .c (.a x) :: r, xs, us, h, hl => by
    simp only [atomsL] at h
    obtain ⟨l, hl', rfl⟩ := Option.map_eq_some_iff.1 h
    obtain ⟨u, us', rfl, hu, hus⟩ := hl.cons_inv
    cases hu with
    | a _ _ hu => exact .cons ⟨[u], rfl, .cons hu .nil, fun _ => rfl⟩ (atomsL_rep hl' hus)
  | .agg cs :: r, xs, us, h, hl => by
    simp only [atomsL] at h
    obtain ⟨ys, hys, h⟩ := Option.bind_eq_some_iff.1 h
    obtain ⟨l, hl', rfl⟩ := Option.map_eq_some_iff.1 h
    obtain ⟨u, us', rfl, hu, hus⟩ := hl.cons_inv
    obtain ⟨vs, rfl, hvs⟩ := hu
    exact .cons ⟨vs, rfl, atoms_rep hys hvs, fun h => by simp at h⟩ (atomsL_rep hl' hus)
  | .c (.fn _ _ _) :: r, xs, us, h, hl => by simp [atomsL] at h
  | .any :: r, xs, us, h, hl => by simp [atomsL] at h
  | .tup _ :: r, xs, us, h, hl => by simp [atomsL] at h

theorem makeFuncA_run {fn : Fn} {first captured : List TV} {us vs : List Value} {r : TV} (h : makeFuncA fn first captured = some r) (h1 : LRep (TRep w X β) first us) (h2 : LRep (TRep w X β) captured vs) :
    TRep w X β r (.func fn us.toArray vs.toArray) := by
  unfold makeFuncA at h
  split at h <;> simp only [Option.some.injEq, reduceCtorEq] at h
  rename_i a b
  subst h
  exact .fn _ _ _ _ _ (atomsL_rep a h1) (atomsL_rep b h2)

/-! ### Slices of slices -/
def bnd (x : Option TV) (v : Option Value) (w : World) (X : Nat → Prop) (β : Nat → Option Nat) : Prop :=
  match x, v with
  | none, none => True
  | some x, some v => TRep w X β x v
  | _, _ => False

theorem boundA_run {x : Option TV} {v : Option Value} {dflt most n : Nat} (h : boundA x dflt most = some n) (hb : bnd x v w X β) :
    (v = none ∧ n = dflt) ∨ (∃ k i, v = some (.int k i) ∧ 0 ≤ i ∧ i.toNat = n ∧ n ≤ most ∧ ∀ code most', most ≤ most' → (Instr.sliceBound (.int k i) most' code).run P w = .ok n w) := by
  unfold boundA at h
  split at h
  · simp only [Option.some.injEq] at h
    cases v with
    | none => exact .inl ⟨rfl, h.symm⟩
    | some v => exact hb.elim
  · rename_i k i
    split at h <;> simp only [Option.some.injEq, reduceCtorEq] at h
    rename_i hc
    cases v with
    | none => exact hb.elim
    | some v =>
      have := TRep.int_inv hb
      subst this
      refine .inr ⟨_, _, rfl, hc.1, h, by omega, fun code most' hm => ?_⟩
      have : i ≤ most' := by omega
      simp [Instr.sliceBound, asIntOf, hc.1, this, h]
  · cases h

theorem slice_bounds {lo hi mx : Option TV} {l h m : Option Value} {len cap a b c : Nat} (isSlice : Bool) (hc : boundA mx len len = some c) (hb : boundA hi len len = some b) (ha : boundA lo 0 b = some a) (hbc : b ≤ c) (hlc : len ≤ cap)
    (hm : bnd mx m w X β) (hh : bnd hi h w X β) (hl : bnd lo l w X β) (hhm : mx.isSome = true → hi.isSome = true) :
    ∃ m', (Instr.sliceBounds isSlice len cap l h m).run P w = .ok (a, b, m') w ∧ b ≤ m' ∧ m' ≤ cap ∧ a ≤ b ∧ b ≤ len := by
  have hbl : b ≤ len := by
    rcases boundA_run (P := P) hb hh with ⟨_, h1⟩ | ⟨_, _, _, _, _, h1, _⟩ <;> omega
  have hab : a ≤ b := by
    rcases boundA_run (P := P) ha hl with ⟨_, h1⟩ | ⟨_, _, _, _, _, h1, _⟩ <;> omega
  rcases boundA_run (P := P) hc hm with ⟨rfl, rfl⟩ | ⟨km, im, rfl, _, _, hcl, hmr⟩
  · refine ⟨cap, ?_, by omega, Nat.le_refl _, hab, hbl⟩
    rcases boundA_run (P := P) hb hh with ⟨rfl, rfl⟩ | ⟨kh, ih, rfl, _, _, _, hhr⟩
    · rcases boundA_run (P := P) ha hl with ⟨rfl, rfl⟩ | ⟨kl, il, rfl, _, _, _, hlr⟩
      · simp [Instr.sliceBounds]
      · simp [Instr.sliceBounds, hlr _ _ (Nat.le_refl _)]
    · rcases boundA_run (P := P) ha hl with ⟨rfl, rfl⟩ | ⟨kl, il, rfl, _, _, _, hlr⟩
      · simp [Instr.sliceBounds, hhr _ _ hlc]
      · simp [Instr.sliceBounds, hlr _ _ (Nat.le_refl _), hhr _ _ hlc]
  · refine ⟨c, ?_, hbc, by omega, hab, hbl⟩
    rcases boundA_run (P := P) hb hh with ⟨rfl, rfl⟩ | ⟨kh, ih, rfl, _, _, _, hhr⟩
    · cases mx with
      | none => exact hm.elim
      | some x => cases hi with
        | none => simp at hhm
        | some y => exact hh.elim
    · have hbr : ∀ code, (Instr.sliceBound (.int kh ih) c code).run P w = .ok b w := by
        intro code
        have h2 : 0 ≤ ih ∧ ih.toNat = b := by constructor <;> assumption
        have h1 : ih ≤ c := by omega
        simp [Instr.sliceBound, asIntOf, h2.1, h1, h2.2]
      rcases boundA_run (P := P) ha hl with ⟨rfl, rfl⟩ | ⟨kl, il, rfl, _, _, _, hlr⟩
      · simp [Instr.sliceBounds, hmr _ _ hlc, hbr]
      · simp [Instr.sliceBounds, hmr _ _ hlc, hbr, hlr _ _ (Nat.le_refl _)]

/-- The third bound is nought. -/
theorem slice_bounds0 {lo hi mx : Option TV} {l h m : Option Value} {len cap : Nat} (isSlice : Bool) (hc : boundA mx len len = some 0) (hb : boundA hi len len = some 0) (ha : boundA lo 0 0 = some 0) (hlc : len ≤ cap)
    (hm : bnd mx m w X β) (hh : bnd hi h w X β) (hl : bnd lo l w X β) (hms : mx.isSome = true) (hhm : hi.isSome = true) :
    (Instr.sliceBounds isSlice len cap l h m).run P w = .ok (0, 0, 0) w := by
  rcases boundA_run (P := P) hc hm with ⟨rfl, _⟩ | ⟨km, im, rfl, _, _, hcl, hmr⟩
  · cases mx with
    | none => simp at hms
    | some x => exact hm.elim
  · rcases boundA_run (P := P) hb hh with ⟨rfl, rfl⟩ | ⟨kh, ih, rfl, _, _, _, hhr⟩
    · cases hi with
      | none => simp at hhm
      | some y => exact hh.elim
    · have hbr : ∀ code, (Instr.sliceBound (.int kh ih) 0 code).run P w = .ok 0 w := by
        intro code
        have h2 : 0 ≤ ih ∧ ih.toNat = 0 := by constructor <;> assumption
        have h1 : ih ≤ 0 := by omega
        simp [Instr.sliceBound, asIntOf, h2.1, h1, h2.2]
      rcases boundA_run (P := P) ha hl with ⟨rfl, _⟩ | ⟨kl, il, rfl, _, _, _, hlr⟩
      · simp [Instr.sliceBounds, hmr _ _ hlc, hbr]
      · simp [Instr.sliceBounds, hmr _ _ hlc, hbr, hlr _ _ (Nat.le_refl _)]
end
end Go.AM
