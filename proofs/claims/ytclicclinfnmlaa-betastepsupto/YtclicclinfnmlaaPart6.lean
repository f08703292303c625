/- A calculus of plain values for the model's code, what the code of each function asks (computed by the kernel), contracts of the functions, and plain laws (part 6). No conditions. -/
import Derived.Test.YtclicclinfnmlaaPart2
import Derived.ProofKit
import Derived.OpenShut
import Derived.JoinedCond
import Derived.WalkKit
import Derived.Test.YtclicclinfnmlaaRows
import Derived.Test.YtclicclinfnmlaaPart5
namespace Go.AM
open Go.ChangeShapes Go.WideShapes Go.ChangeAt Go.RowKit

section
variable {H : Type} {enc : TypeId × Value → H} {P : Program} {w : World}

/-- Nothing is shut out. -/
abbrev none1 : Nat → Prop := fun _ => False
/-- Whatever reads (with so much fuel) at type t is some F a, of size at most that of what was read. -/
def RdN (enc : TypeId × Value → H) (P : Program) (w : World) (b : DataW H → Nat) (fuel : Nat) (t : TypeId) {α : Type} (F : α → List FV) (sz : α → Nat) : Prop :=
  ∀ cs x, DataW.trod enc P w 0 (fun _ => true) true fuel t cs = some x → ∃ a, LRep (FRep w none1) (F a) cs ∧ sz a ≤ b x.1

theorem rd_int {b : DataW H → Nat} {t : TypeId} {k : IntKind} (ht : P.underlying t = some (.int k)) (hb : ∀ d, 1 ≤ b d) (fuel : Nat) : RdN enc P w b fuel t (fun n : Int => [.int k n]) (fun _ => 1) := by
  intro cs x h
  obtain ⟨n, rfl, rfl, _⟩ := DataW.trod_int ht h
  exact ⟨n, .cons (.int k n) .nil, hb _⟩
/-- A number within its kind. -/
def Num (k : IntKind) := { n : Int // (Lit.int k n).wf = true }
theorem rd_num {b : DataW H → Nat} {t : TypeId} {k : IntKind} (ht : P.underlying t = some (.int k)) (hb : ∀ d, 1 ≤ b d) (fuel : Nat) : RdN enc P w b fuel t (fun n : Num k => [.int k n.1]) (fun _ => 1) := by
  intro cs x h
  obtain ⟨n, rfl, rfl, hw⟩ := DataW.trod_int ht h
  exact ⟨⟨n, hw⟩, .cons (.int k n) .nil, hb _⟩
theorem rd_bool {b : DataW H → Nat} {t : TypeId} (ht : P.underlying t = some .bool) (hb : ∀ d, 1 ≤ b d) (fuel : Nat) : RdN enc P w b fuel t (fun n : Bool => [.bool n]) (fun _ => 1) := by
  intro cs x h
  obtain ⟨n, rfl, rfl⟩ := DataW.trod_bool ht h
  exact ⟨n, .cons (.bool n) .nil, hb _⟩
theorem rd_str {b : DataW H → Nat} {t : TypeId} (ht : P.underlying t = some .string) (hb : ∀ l : List UInt8, l.length + 1 ≤ b (.lit (.string l))) (fuel : Nat) : RdN enc P w b fuel t (fun l : List UInt8 => [.str l]) (fun l => l.length + 1) := by
  intro cs x h
  obtain ⟨s, rfl, rfl, _⟩ := DataW.trod_string ht h
  refine ⟨s.data.toList, .cons ?_ .nil, hb _⟩
  have : (⟨s.data.toList.toArray⟩ : ByteArray) = s := by simp
  have h2 := FRep.str (w := w) (X := none1) s.data.toList
  rw [this] at h2
  exact h2

def sumBy {α : Type} (sz : α → Nat) : List α → Nat
  | [] => 0
  | a :: l => sz a + sumBy sz l
theorem sumBy_mem {α : Type} {sz : α → Nat} : ∀ {l : List α} {a : α}, a ∈ l → sz a ≤ sumBy sz l
  | x :: l, a, h => by
    rcases List.mem_cons.1 h with rfl | h
    · simp [sumBy]
    · have := sumBy_mem (sz := sz) h; simp only [sumBy]; omega
theorem sumBy_length {α : Type} {sz : α → Nat} (h : ∀ a, 1 ≤ sz a) : ∀ l : List α, l.length ≤ sumBy sz l
  | [] => Nat.le_refl _
  | a :: l => by have := sumBy_length h l; have := h a; simp only [sumBy, List.length_cons]; omega

theorem choose_list {α β : Type} {R : α → β → Prop} : ∀ {l : List β}, (∀ (i : Nat) (y : β), l[i]? = some y → ∃ x, R x y) → ∃ xs : List α, xs.length = l.length ∧ ∀ (i : Nat) (x : α) (y : β), xs[i]? = some x → l[i]? = some y → R x y
  | [], _ => ⟨[], rfl, fun i x y h => by simp at h⟩
  | y :: l, h => by
    obtain ⟨x, hx⟩ := h 0 y rfl
    obtain ⟨xs, h1, h2⟩ := choose_list (l := l) fun i y' hy => h (i + 1) y' (by simpa using hy)
    refine ⟨x :: xs, by simp [h1], fun i x' y' hx' hy' => ?_⟩
    cases i with
    | zero => simp at hx' hy'; subst hx'; subst hy'; exact hx
    | succ i => exact h2 i x' y' (by simpa using hx') (by simpa using hy')

theorem sum_le {α : Type} {sz : α → Nat} {b : DataW H → Nat} {bs : List (DataW H) → Nat} (hbs : ∀ d l, bs (d :: l) = b d + bs l) : ∀ {xs : List α} {es : List (DataW H × List MemPlace)}, xs.length = es.length → (∀ (i : Nat) (x : α) (y : DataW H × List MemPlace), xs[i]? = some x → es[i]? = some y → sz x ≤ b y.1) → sumBy sz xs ≤ bs (es.map (·.1))
  | [], _, _, _ => by simp [sumBy]
  | x :: xs, [], h, _ => by simp at h
  | x :: xs, e :: es, h, hr => by
    have h1 := hr 0 x e rfl rfl
    have h2 := sum_le (sz := sz) hbs (xs := xs) (es := es) (by simpa using h) fun i x y hx hy => hr (i + 1) x y (by simpa using hx) (by simpa using hy)
    simp only [sumBy, List.map_cons, hbs]
    omega

theorem cells_get {a : Addr} {n : Nat} {cs : List Value} (h : w.cells? 0 a n = some cs) : cs.length = n ∧ ∀ j u, cs[j]? = some u → w.cell? (a.add j) = some u := by
  unfold World.cells? at h
  rw [if_pos (Nat.zero_le _)] at h
  refine ⟨by have := mapM_some_length h; simpa using this, fun j u hu => ?_⟩
  have hj : j < n := by
    have h1 := (List.getElem?_eq_some_iff.1 hu).1
    have := mapM_some_length h; simp at this; omega
  have := mapM_some_get h j j (by simp [hj])
  rw [this, hu]

theorem cell_lt {b off : Nat} {u : Value} (h : w.cell? ⟨b, off, none⟩ = some u) : b < w.heap.size := by
  apply Decidable.byContradiction
  intro hn
  have : w.heap[b]? = none := by simp; omega
  simp [World.cell?, this] at h

theorem cell_spot {a : Addr} {u : Value} (h : w.cell? a = some u) : a.spot = none := by
  unfold World.cell? at h
  split at h
  · split at h
    · cases h
    · rename_i hs; simpa using hs
  · cases h
theorem cell_blk {a : Addr} {u : Value} (h : w.cell? a = some u) : a.block < w.heap.size := by
  apply Decidable.byContradiction
  intro hn
  have : w.heap[a.block]? = none := by simp; omega
  simp [World.cell?, this] at h

theorem add_zero (a : Addr) : a.add 0 = a := rfl
theorem add_none (b o k : Nat) : (Addr.mk b o none).add k = ⟨b, o + k, none⟩ := by
  unfold Addr.add
  split
  · rename_i h; rw [h]; rfl
  · rfl
/-- Slices. -/
theorem rd_slice {b : DataW H → Nat} {bs : List (DataW H) → Nat} (hbs : ∀ d l, bs (d :: l) = b d + bs l) (hb0 : ∀ d, 1 ≤ b d) (hb : ∀ es sp, bs es + 1 ≤ b (.slice es sp)) {t e : TypeId} (ht : P.underlying t = some (.slice e)) {n : Nat} (hn : P.cellsOf e = n) (hn0 : 0 < n)
    {α : Type} {F : α → List FV} {sz : α → Nat} (hF : ∀ a, (F a).length = n) {fuel : Nat} (ih : ∀ k, k < fuel → RdN enc P w b k e F sz) : RdN enc P w b fuel t (fun l : List α => [.sl false n (l.map F)]) (fun l => sumBy sz l + 1) := by
  intro cs x h
  rcases DataW.trod_slice ht h with ⟨rfl, rfl⟩ | ⟨a, len, cap, elems, rest, k, rfl, rfl, rfl, _, hlc, _, hlen, hel, hrest, _⟩
  · exact ⟨[], .cons (.slnil n) .nil, by simpa [sumBy] using hb0 _⟩
  · rw [hn] at hel
    have key : ∀ (i : Nat) (y : DataW H × List MemPlace), elems[i]? = some y → ∃ x : α, (∃ cs, w.cells? 0 (a.add (i * n)) n = some cs ∧ LRep (FRep w none1) (F x) cs) ∧ sz x ≤ b y.1 := by
      intro i y hy
      have hi : i < len := by rw [← hlen]; exact (List.getElem?_eq_some_iff.1 hy).1
      have h1 := hel i hi
      rw [hy] at h1
      obtain ⟨cs, h2, h3⟩ := Option.bind_eq_some_iff.1 h1
      obtain ⟨x, h4, h5⟩ := ih k (Nat.lt_succ_self _) cs y h3
      exact ⟨x, ⟨cs, h2, h4⟩, h5⟩
    -- the element at i, with its place
    have key2 : ∃ xs : List α, xs.length = elems.length ∧ ∀ (i : Nat) (x : α), xs[i]? = some x → (∃ cs, w.cells? 0 (a.add (i * n)) n = some cs ∧ LRep (FRep w none1) (F x) cs) ∧ ∀ y, elems[i]? = some y → sz x ≤ b y.1 := by
      have : ∀ (l : List (DataW H × List MemPlace)) (o : Nat), (∀ i, l[i]? = elems[o + i]?) → ∃ xs : List α, xs.length = l.length ∧ ∀ (i : Nat) (x : α), xs[i]? = some x → (∃ cs, w.cells? 0 (a.add ((o + i) * n)) n = some cs ∧ LRep (FRep w none1) (F x) cs) ∧ ∀ y, l[i]? = some y → sz x ≤ b y.1 := by
        intro l
        induction l with
        | nil => exact fun o _ => ⟨[], rfl, fun i x h => by simp at h⟩
        | cons y l ih =>
          intro o ho
          obtain ⟨x, hx1, hx2⟩ := key o y (by have := ho 0; simpa using this.symm)
          obtain ⟨xs, h1, h2⟩ := ih (o + 1) (fun i => by have := ho (i + 1); rw [show o + 1 + i = o + (i + 1) by omega]; simpa using this)
          refine ⟨x :: xs, by simp [h1], fun i x' hx' => ?_⟩
          cases i with
          | zero => simp at hx'; subst hx'; exact ⟨by simpa using hx1, fun y' hy' => by simp at hy'; subst hy'; exact hx2⟩
          | succ i =>
            have := h2 i x' (by simpa using hx')
            rw [show o + 1 + i = o + (i + 1) by omega] at this
            exact ⟨this.1, fun y' hy' => this.2 y' (by simpa using hy')⟩
      obtain ⟨xs, h1, h2⟩ := this elems 0 (fun i => by simp)
      exact ⟨xs, h1, fun i x hx => by simpa using h2 i x hx⟩
    obtain ⟨xs, hxl, hx⟩ := key2
    have hsum := sum_le (sz := sz) (b := b) hbs hxl (fun i x y h1 h2 => (hx i x h1).2 y h2)
    have hb' := hb (elems.map (·.1)) (rest.map (·.1))
    refine ⟨xs, ?_, show sumBy sz xs + 1 ≤ b (.slice (elems.map (·.1)) (rest.map (·.1))) by omega⟩
    by_cases hc0 : cap = 0
    · have h0 : len = 0 := by omega
      subst hc0; subst h0
      have : xs = [] := List.length_eq_zero_iff.1 (by omega)
      subst this
      exact .cons (.sl0 false n a) .nil
    · have hone : ∃ cs, w.cells? 0 a n = some cs := by
        by_cases h0 : len = 0
        · have hr := (hrest rfl).2 0 (by omega)
          have hr' : rest[0]? ≠ none := by
            rw [List.getElem?_eq_getElem (by rw [(hrest rfl).1]; omega)]; simp
          rw [hn] at hr
          rw [h0, show (0 + 0) * n = 0 by simp, add_zero] at hr
          cases hcl : w.cells? 0 a n with
          | none => rw [hcl] at hr; exact absurd hr.symm hr'
          | some cs => exact ⟨cs, rfl⟩
        · have : 0 < xs.length := by omega
          obtain ⟨⟨cs, h1, _⟩, _⟩ := hx 0 xs[0] (by simp [this])
          rw [show 0 * n = 0 by simp, add_zero] at h1
          exact ⟨cs, h1⟩
      obtain ⟨cs0, hq⟩ := hone
      obtain ⟨hl0, hq'⟩ := cells_get hq
      have hq0 := hq' 0 (cs0[0]'(by omega)) (by simp)
      rw [add_zero] at hq0
      have hsp : a.spot = none := cell_spot hq0
      have hbl : a.block < w.heap.size := cell_blk hq0
      obtain ⟨blk, off, sp⟩ := a
      have hsp : sp = none := hsp
      subst hsp
      refine .cons (.sl false n (xs.map F) blk off cap len (fun i j => (w.cell? ⟨blk, off + i * n + j, none⟩).getD (.bool false)) (by rw [List.length_map]; omega) (by rw [List.length_map]; omega) (fun h => h) hbl (fun i e he => ?_) (fun i j e f he hf => ?_) (fun i j e f he hf => ?_)) .nil
      · rw [List.getElem?_map] at he
        obtain ⟨x, _, rfl⟩ := Option.map_eq_some_iff.1 he
        exact hF x
      all_goals
        rw [List.getElem?_map] at he
        obtain ⟨x, hxi, rfl⟩ := Option.map_eq_some_iff.1 he
        obtain ⟨⟨cs, h1, h2⟩, _⟩ := hx i x hxi
        obtain ⟨h3, h4⟩ := cells_get h1
        have hj : j < cs.length := by rw [← h2.1]; exact (List.getElem?_eq_some_iff.1 hf).1
        have h5 := h4 j cs[j] (by simp)
        rw [add_none, add_none] at h5
      · rw [h5]; rfl
      · rw [h5]
        exact h2.2 j f cs[j] hf (by simp)

/-- Terms. -/
theorem FT_sum : ∀ l : List Tm, Tm.bks l = sumBy Tm.bk l
  | [] => rfl
  | t :: l => by rw [Tm.bks, sumBy, FT_sum l]
/-- How a term lies. -/
structure TmTy (P : Program) (T : TypeId) (f0 f1 f2 f3 : Field) : Prop where
  str : P.underlying T = some (.struct #[f0, f1, f2, f3])
  u0 : P.underlying f0.type = some (.int .i64)
  u1 : P.underlying f1.type = some .string
  u2 : P.underlying f2.type = some (.int .i64)
  u3 : P.underlying f3.type = some (.slice T)
  o0 : f0.offset = 0
  o1 : f1.offset = 1
  o2 : f2.offset = 2
  o3 : f3.offset = 3
  c0 : P.cellsOf f0.type = 1
  c1 : P.cellsOf f1.type = 1
  c2 : P.cellsOf f2.type = 1
  c3 : P.cellsOf f3.type = 1
  cT : P.cellsOf T = 4
/-- How much a reading holds. -/
structure Bulk (b : DataW H → Nat) (bs : List (DataW H) → Nat) : Prop where
  nil : bs [] = 0
  cons : ∀ d l, bs (d :: l) = b d + bs l
  one : ∀ d, 1 ≤ b d
  slice : ∀ es sp, bs es + 1 ≤ b (.slice es sp)
  str : ∀ l : List UInt8, l.length + 1 ≤ b (.lit (.string l))
  agg : ∀ l, bs l + 1 ≤ b (.agg l)
theorem LRep.one {α : Type} {R : α → Value → Prop} {c : α} {u : Value} (h : LRep R [c] [u]) : R c u := h.2 0 c u rfl rfl
theorem rd_term {b : DataW H → Nat} {bs : List (DataW H) → Nat} (hb : Bulk b bs) {T : TypeId} {f0 f1 f2 f3 : Field} (hT : TmTy P T f0 f1 f2 f3) : ∀ fuel, RdN enc P w b fuel T FT Tm.bk := by
  intro fuel
  induction fuel using Nat.strongRecOn with
  | _ fuel ih =>
    intro cs x h
    obtain ⟨xs, n, rfl, rfl, hl, hxl, hf⟩ := DataW.trod_struct hT.str h
    rw [hT.cT] at hl
    match cs, hl with
    | [v0, v1, v2, v3], _ =>
    match xs, hxl with
    | [x0, x1, x2, x3], _ =>
    have g0 := hf 0 f0 rfl
    have g1 := hf 1 f1 rfl
    have g2 := hf 2 f2 rfl
    have g3 := hf 3 f3 rfl
    rw [hT.o0, hT.c0] at g0
    rw [hT.o1, hT.c1] at g1
    rw [hT.o2, hT.c2] at g2
    rw [hT.o3, hT.c3] at g3
    obtain ⟨k, r0, _⟩ := rd_int (b := b) hT.u0 hb.one n _ _ g0
    obtain ⟨s, r1, z1⟩ := rd_str (b := b) hT.u1 hb.str n _ _ g1
    have z1 : s.length + 1 ≤ b x1.1 := z1
    obtain ⟨m, r2, _⟩ := rd_int (b := b) hT.u2 hb.one n _ _ g2
    obtain ⟨l, r3, z3⟩ := rd_slice (F := FT) (sz := Tm.bk) hb.cons hb.one hb.slice hT.u3 hT.cT (by omega) FT_length (fun k hk => ih k (by omega)) _ _ g3
    have z3 : sumBy Tm.bk l + 1 ≤ b x3.1 := z3
    refine ⟨.mk k s m l, ?_, ?_⟩
    · rw [FT, FTs_map]
      exact .cons (LRep.one r0) (.cons (LRep.one r1) (.cons (LRep.one r2) (.cons (LRep.one r3) .nil)))
    · have := hb.one x0.1
      simp only [Tm.bk, FT_sum]
      show _ ≤ b (.agg [x0.1, x1.1, x2.1, x3.1])
      have h9 := hb.agg [x0.1, x1.1, x2.1, x3.1]
      simp only [hb.cons, hb.nil] at h9
      omega

/-! ### Arguments -/
theorem none_own {Y : Nat → Prop} (hY : ∀ b, ¬ Y b) {Hs : List AObj} : (fun b => Y b ∨ Own (fun o => Hs.getD o .gone) (fun _ => none) b) = none1 := by
  funext b
  refine propext ⟨fun h => ?_, fun h => h.elim⟩
  rcases h with h | ⟨o, _, h⟩
  · exact (hY b h).elim
  · cases h
abbrev β0 : Nat → Option Nat := fun _ => none
theorem open_term {b : DataW H → Nat} {bs : List (DataW H) → Nat} (hb : Bulk b bs) {T : TypeId} {f0 f1 f2 f3 : Field} (hT : TmTy P T f0 f1 f2 f3) {r : Reach} {base : Nat} {v : Value} {d : DataW H} {ps : List MemPlace}
    (hv : Value.okWide P w r base T v) (hd : DataW.Trod enc P w 0 (fun _ => true) true T v d ps) : ∃ t : Tm, TRep w none1 β0 (aT t) v ∧ t.bk ≤ b d := by
  obtain ⟨cs, rfl, _⟩ := okWide_struct hT.str hv
  obtain ⟨fuel, hf⟩ := hd
  obtain ⟨t, h1, h2⟩ := rd_term hb hT fuel _ _ hf
  refine ⟨t, ⟨cs.toList, by simp, ?_⟩, h2⟩
  rw [FT_eta] at h1
  have h1 : LRep (FRep w none1) [.int .i64 t.k, .str t.s, .int .i64 t.n, .sl false 4 (FTs t.l)] cs.toList := h1
  exact h1.map (g := fun x => WV.a (.fz x)) fun c u _ h => .a _ _ (.fz _ _ h)
theorem open_terms {b : DataW H → Nat} {bs : List (DataW H) → Nat} (hb : Bulk b bs) {T S : TypeId} {f0 f1 f2 f3 : Field} (hT : TmTy P T f0 f1 f2 f3) (hS : P.underlying S = some (.slice T)) {r : Reach} {base : Nat} {v : Value} {d : DataW H} {ps : List MemPlace}
    (hv : Value.okWide P w r base S v) (hd : DataW.Trod enc P w 0 (fun _ => true) true S v d ps) : ∃ l : List Tm, TRep w none1 β0 (aL l) v ∧ Tm.bks l + 1 ≤ b d := by
  obtain ⟨a, len, cap, rfl⟩ := okWide_slice hS hv
  obtain ⟨fuel, hf⟩ := hd
  obtain ⟨l, h1, h2⟩ := rd_slice (F := FT) (sz := Tm.bk) hb.cons hb.one hb.slice hS hT.cT (by omega) FT_length (fun k _ => rd_term hb hT k) _ _ hf
  have h2 : sumBy Tm.bk l + 1 ≤ b d := h2
  rw [← FT_sum] at h2
  have h1 : LRep (FRep w none1) [.sl false 4 (l.map FT)] [_] := h1
  rw [← FTs_map] at h1
  exact ⟨l, .a _ _ (.fz _ _ h1.one), h2⟩
theorem open_num {t : TypeId} {k : IntKind} (ht : P.underlying t = some (.int k)) {r : Reach} {base : Nat} {v : Value} {d : DataW H} {ps : List MemPlace}
    (hv : Value.okWide P w r base t v) (hd : DataW.Trod enc P w 0 (fun _ => true) true t v d ps) : ∃ n : Int, TRep w none1 β0 (.c (.a (.fz (.int k n)))) v ∧ (Lit.int k n).wf = true := by
  obtain ⟨n, rfl, _, _, hw⟩ := open_int ht hv hd
  exact ⟨n, .a _ _ (.fz _ _ (.int k n)), hw⟩
theorem open_str {t : TypeId} (ht : P.underlying t = some .string) {b : DataW H → Nat} {bs : List (DataW H) → Nat} (hb : Bulk b bs) {r : Reach} {base : Nat} {v : Value} {d : DataW H} {ps : List MemPlace}
    (hv : Value.okWide P w r base t v) (hd : DataW.Trod enc P w 0 (fun _ => true) true t v d ps) : ∃ s : List UInt8, TRep w none1 β0 (cs s) v ∧ s.length + 1 ≤ b d := by
  obtain ⟨s, rfl⟩ := okWide_string ht hv
  obtain ⟨fuel, hf⟩ := hd
  obtain ⟨l, h1, h2⟩ := rd_str (b := b) ht hb.str fuel _ _ hf
  exact ⟨l, .a _ _ (.fz _ _ h1.one), h2⟩

/-! ### The end -/
theorem kept_good {w' : World} {foot : Nat → Prop} (g : Good w foot w') (hf : ∀ b, ¬ foot b) (may : MemPlace → Prop) : w.keptBut w' may := by
  refine ⟨g.os, g.output, fun i hi => ?_⟩
  rw [g.blk i hi (hf i)]
  exact (World.keptBut_refl w may).2.2 i hi
theorem same_good {w' : World} {foot : Nat → Prop} (g : Good w foot w') (hf : ∀ b, ¬ foot b) {p : MemPlace} (hp : p.block < w.heap.size) : w.sameAt w' p := by
  cases p with
  | cell b o => exact World.cell?_of_block (a := ⟨b, o, none⟩) (g.blk b hp (hf b))
  | map b => exact g.blk b hp (hf b)
theorem trodAll_stays (hl : laidOutB P = true) {w' : World} {sp : Nat → Bool} : ∀ {ts : List TypeId} {vs : List Value} {ds : List (DataW H)} {p : List MemPlace}, DataW.TrodAll enc P w 0 (fun _ => true) true ts vs ds p →
    (∀ t ∈ ts, P.readableRec t = true ∧ t < P.types.size) → (∀ x ∈ p, w.sameAt w' x) → (∀ x ∈ p, sp x.block = true) → DataW.TrodAll enc P w' 0 sp true ts vs ds p
  | [], _, _, _, h, _, _, _ => by
    obtain ⟨rfl, rfl, rfl⟩ := trodAll_nil h
    exact trodAll_mk0
  | t :: ts, _, _, _, h, ht, hs, hsp => by
    obtain ⟨v, vs', d, ds', p, q, rfl, rfl, rfl, ⟨n, h1⟩, h2⟩ := trodAll_cons h
    have hr := (ht t List.mem_cons_self).1
    exact ⟨p, q, ⟨n, DataW.trod_stays (kids_book hl hr) (book_sized hr) (fun h => by cases h) ⟨(ht t List.mem_cons_self).2, book_self t⟩ h1 (fun x hx => hs x (List.mem_append_left _ hx)) (fun x hx => hsp x (List.mem_append_left _ hx))⟩,
      trodAll_stays hl h2 (fun u hu => ht u (List.mem_cons_of_mem _ hu)) (fun x hx => hs x (List.mem_append_right _ hx)) (fun x hx => hsp x (List.mem_append_right _ hx)), rfl⟩
/-- A law's end: it returns true, and what was read reads as before. -/
theorem post_good (hl : laidOutB P = true) {f : Func} {s : ChangeSpec} {apart fresh handsOn again : Bool} {w' : World} {args : Array Value} {ds gs : List (DataW H)} {before : List MemPlace} {foot : Nat → Prop} {tb : TypeId}
    (hW : DataW.Whole enc P f.params.toList s.vars apart w args.toList ds gs before) (hv : s.vars = []) (hs : ∀ ds' : List (DataW H), ds'.length = ds.length → s.fn H ds' = { results := [.lit (.bool true)], args := ds' })
    (ht : ∀ t ∈ f.params.toList, P.readableRec t = true ∧ t < P.types.size) (hr : f.resultTypes = #[tb]) (hb : P.underlying tb = some .bool) (g : Good w foot w') (hf : ∀ b, ¬ foot b) :
    s.post enc P f apart fresh handsOn again w args (.bool true) w' := by
  have hlt := hW.lt
  obtain ⟨p, q, h1, h2, he, hz, hn⟩ := hW
  rw [hv] at h2
  obtain ⟨rfl, rfl⟩ := trodVars_none h2
  rw [List.append_nil] at he
  subst he
  have hold : ∀ x ∈ before, (fun b => decide (b < w.heap.size)) x.block = true := fun x hx => by simpa using hlt x hx
  have hfn := hs (ds ++ []) (by simp)
  have hargs : ∀ sp : Nat → Bool, (∀ x ∈ before, sp x.block = true) → DataW.TrodAll enc P w' 0 sp true f.params.toList args.toList (s.fn H (ds ++ [])).args before := fun sp hsp => by
    rw [hfn, List.append_nil]
    exact trodAll_stays hl h1 ht (fun x hx => same_good g hf (hlt x hx)) hsp
  have hres : ∀ (b : Nat) (sp : Nat → Bool) (hd : Bool), DataW.TrodAll enc P w' b sp hd f.resultTypes.toList ((Value.bool true).resultList f.resultTypes.size) (s.fn H (ds ++ [])).results [] := fun b sp hd => by
    rw [hfn, hr]
    exact trodAll_mk1 ⟨1, by simp [DataW.trod, Value.cells, hb]⟩
  have hvars : ∀ sp : Nat → Bool, DataW.TrodVars enc P w' sp s.vars (s.fn H (ds ++ [])).vars [] := fun sp => by
    rw [hfn, hv]
    rfl
  refine ⟨ds, [], before, [], before, [], ⟨before, [], h1, by rw [hv]; rfl, by simp, hz, hn⟩, hres _ _ _, hargs _ hold, hvars _, World.keptBut_mono (fun x hx => ⟨hx, ?_⟩) (kept_good g hf (· ∈ before)), fun _ => ?_⟩
  · simpa using hx
  · refine ⟨ok_one hr rfl (okWide_bool_mk hb _), _, _, ([] ++ before) ++ [], ⟨[] ++ before, [], trodAll_append (hargs _ (fun _ _ => rfl)) (hres _ _ _), hvars _, rfl, ?_, ?_⟩, ?_⟩
    · intro b off hp
      have hp : MemPlace.cell b off ∈ before := by simpa using hp
      have hb := hlt _ hp
      have : w'.frozen? ⟨b, off, none⟩ = w.frozen? ⟨b, off, none⟩ := by
        unfold World.frozen?
        rw [g.blk b hb (hf b)]
      rw [this]
      exact hz b off hp
    · intro ha
      simpa using hn ha
    · intro x hx _
      simpa using hx
/-- A contract that a law's function answers: true. -/
theorem law_true {f : FuncId} {args : List TV} (h : AC P f args [] (cb true) []) {vals : List Value} (hv : LRep (TRep w none1 β0) args vals) :
    Calls P f vals.toArray w fun e w' => e = .returned (.bool true) ∧ ∃ foot, (∀ b, ¬ foot b) ∧ Good w foot w' := by
  have hX : (fun b => (fun _ : Nat => False) b ∨ Own (fun o => ([] : List AObj).getD o .gone) β0 b) = none1 := none_own (fun _ h => h)
  refine (h.2.2 w vals β0 (fun _ => False) (fun o b h => by cases h) (fun b h => h.elim) ⟨fun o b h _ => by simp [isLive] at h, fun o h => by simp [isLive] at h, fun o o' b h => by simp [isLive] at h, fun o b h => by cases h⟩ (by rw [hX]; exact hv)).mono fun e w' ⟨v, β', h1, h2, h3, h4, _⟩ => ?_
  subst h1
  cases h4 with
  | a _ _ h4 =>
    cases h4 with
    | fz _ _ h4 =>
      cases h4
      exact ⟨rfl, _, fun b ⟨o, h5, _⟩ => by simp [isLive] at h5, h2⟩
end
end Go.AM

set_option maxRecDepth 100000
open Go Go.Proofs
namespace Go.Proofs.Ytclicclinfnmlaa.base
open Go.ChangeShapes Go.WideShapes Go.ChangeAt Go.RowKit Go.AM

theorem one_le {H : Type} (d : DataW H) : 1 ≤ Rows.uptoBulk d := by
  cases d with
  | lit l => cases l <;> simp [Rows.uptoBulk]
  | _ => simp [Rows.uptoBulk]
theorem bulk {H : Type} : Bulk (H := H) Rows.uptoBulk Rows.uptoBulkAll :=
  ⟨rfl, fun _ _ => rfl, one_le, fun es sp => by simp only [Rows.uptoBulk]; omega, fun l => by simp [Rows.uptoBulk], fun l => by simp [Rows.uptoBulk]⟩
theorem own : ownKnob Try.prog.godebug = none := by kernel_rfl
theorem laidOut : laidOutB Try.prog = true := by kernel_rfl
theorem tmTy : ∃ f0 f1 f2 f3 : Field, TmTy Try.prog 25 f0 f1 f2 f3 :=
  ⟨_, _, _, _, Try.underlying25, Try.underlying22, Try.underlying9, Try.underlying3, Try.underlying23, rfl, rfl, rfl, rfl, by kernel_rfl, by kernel_rfl, by kernel_rfl, by kernel_rfl, by kernel_rfl⟩
theorem rec25 : Try.prog.readableRec 25 = true := by kernel_rfl
theorem rec23 : Try.prog.readableRec 23 = true := by kernel_rfl
theorem rec3 : Try.prog.readableRec 3 = true := by kernel_rfl
theorem types_lt : 25 < Try.prog.types.size := of_decide_eq_true (by kernel_rfl)
theorem upto {H : Type} {l : List (DataW H)} (hk : Rows.uptoSmall H l = true) : Rows.uptoBulkAll l ≤ 1048576 := of_decide_eq_true hk
end Go.Proofs.Ytclicclinfnmlaa.base
