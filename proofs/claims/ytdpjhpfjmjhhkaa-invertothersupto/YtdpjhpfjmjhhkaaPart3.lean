/- A calculus of plain values for the model's code, what the code of each function asks (computed by the kernel), contracts of the functions, and plain laws (part 3). No conditions. -/
import Derived.Test.YtdpjhpfjmjhhkaaPart2
import Derived.LoopN
import Derived.IntWalk
namespace Go.AM

/-! ### What a frozen cell holds -/
def FV.asI : FV → Int | .int _ n => n | _ => 0
def FV.asB : FV → Bool | .bool b => b | _ => false
def FV.asS : FV → List UInt8 | .str l => l | _ => []
def FV.ses : FV → List (List FV) | .sl _ _ es => es | _ => []
def FV.isSl (n : Nat) : FV → Bool | .nils => true | .sl _ m _ => m == n | .z0 _ => true | _ => false
def FV.cut (x : FV) (lo hi : Nat) : FV := match x with | .sl b n es => .sl b n ((es.take hi).drop lo) | y => y
def FV.cut0 (x : FV) : FV := match x with | .sl b _ _ => .z0 b | y => y

/-- A row's cells, each of the kind that the zero value z has there. -/
def shp : List FV → Nat → List FV → List FV
  | [], _, _ => []
  | .int k _ :: z, j, r => .int k (r.getD j .nils).asI :: shp z (j + 1) r
  | .bool _ :: z, j, r => .bool (r.getD j .nils).asB :: shp z (j + 1) r
  | .str _ :: z, j, r => .str (r.getD j .nils).asS :: shp z (j + 1) r
  | _ :: z, j, r => r.getD j .nils :: shp z (j + 1) r
theorem shp_length : ∀ (z : List FV) (j : Nat) (r : List FV), (shp z j r).length = z.length
  | [], _, _ => rfl
  | x :: z, j, r => by cases x <;> simp only [shp, List.length_cons, shp_length z]

/-- Two ways. -/
def br (b : Bool) (t f : Prop) : Prop := match b with | true => t | false => f
theorem br_of {b : Bool} {t f : Prop} (h1 : b = true → t) (h2 : b = false → f) : br b t f := by
  cases b
  · exact h2 rfl
  · exact h1 rfl
theorem br_true {t f : Prop} : br true t f = t := rfl
theorem br_false {t f : Prop} : br false t f = f := rfl

def oK' (r : Option AR) (K : AR → Prop) : Prop := match r with | some r => K r | none => False
theorem oK'_inv {r : Option AR} {K : AR → Prop} (h : oK' r K) : ∃ x, r = some x ∧ K x := by
  cases r with
  | none => exact h.elim
  | some x => exact ⟨x, rfl, h⟩

def tyP (P : Program) (t : TypeId) (f : TyD → Prop) : Prop := match tyOf P t with | some d => f d | none => False
theorem tyP_inv {P : Program} {t : TypeId} {f : TyD → Prop} (h : tyP P t f) : ∃ d, tyOf P t = some d ∧ f d := by
  unfold tyP at h
  split at h
  · rename_i d hd; exact ⟨d, hd, h⟩
  · exact h.elim

/-! ### Slices that are given up -/
def fitsW (h : Nat → AObj) : WV → Prop
  | .a (.osl o n off len) => match h o with | .arz m fs => n = m ∧ off + len ≤ fs.length | _ => True
  | _ => True
def givW (h : Nat → AObj) : WV → WV × AHeap
  | .a (.osl o n off len) => match h o with
    | .arz _ fs => (.a (.fz (.sl false n ((fs.drop off).take len))), [(o, .gone)])
    | _ => (.a (.osl o n off len), [])
  | x => (x, [])
theorem givW_eq {h : Nat → AObj} {x : WV} (hx : fitsW h x) : giveW h x = givW h x := by
  cases x with
  | fn f a b => rfl
  | a x =>
    cases x with
    | osl o n off len =>
      simp only [giveW, givW, fitsW] at hx ⊢
      cases he : h o with
      | arz m fs => rw [he] at hx; simp only at hx ⊢; rw [if_pos hx]
      | _ => rfl
    | _ => rfl
def givWs (h : Nat → AObj) : List WV → List WV × AHeap
  | [] => ([], [])
  | x :: r => ((givW h x).1 :: (givWs h r).1, (givW h x).2 ++ (givWs h r).2)
def fitsWs (h : Nat → AObj) : List WV → Prop
  | [] => True
  | .a (.osl o n off len) :: r => fitsW h (.a (.osl o n off len)) ∧ fitsWs h r
  | _ :: r => fitsWs h r
theorem fitsWs_cons {h : Nat → AObj} {x : WV} {r : List WV} (hx : fitsWs h (x :: r)) : fitsW h x ∧ fitsWs h r := by
  cases x with
  | fn f a b => exact ⟨trivial, hx⟩
  | a x =>
    cases x with
    | osl o n off len => exact hx
    | _ => exact ⟨trivial, hx⟩
theorem givWs_eq {h : Nat → AObj} : ∀ {l : List WV}, fitsWs h l → giveWs h l = givWs h l
  | [], _ => rfl
  | x :: r, hx => by
    have := fitsWs_cons hx
    simp only [giveWs, givWs, givW_eq this.1, givWs_eq this.2]
def givT (h : Nat → AObj) : TV → TV × AHeap
  | .c x => (.c (givW h x).1, (givW h x).2)
  | .agg cs => (.agg (givWs h cs).1, (givWs h cs).2)
  | x => (x, [])
def fitsT (h : Nat → AObj) : TV → Prop
  | .c (.a (.osl o n off len)) => fitsW h (.a (.osl o n off len))
  | .agg cs => fitsWs h cs
  | _ => True
theorem fitsT_c {h : Nat → AObj} {x : WV} (hx : fitsT h (.c x)) : fitsW h x := by
  cases x with
  | fn f a b => trivial
  | a x => cases x with
    | osl o n off len => exact hx
    | _ => trivial
theorem givT_eq {h : Nat → AObj} {x : TV} (hx : fitsT h x) : giveT h x = givT h x := by
  cases x with
  | c x => simp only [giveT, givT, givW_eq (fitsT_c hx)]
  | agg cs => simp only [giveT, givT, givWs_eq (h := h) (l := cs) hx]
  | _ => rfl
def givP (h : Nat → AObj) : List (Nat × TV) → List (Nat × TV) × AHeap
  | [] => ([], [])
  | (i, x) :: r => ((i, (givT h x).1) :: (givP h r).1, (givT h x).2 ++ (givP h r).2)
/-- The asks of what is given up, ahead of what goes on. -/
def asksT (h : Nat → AObj) (x : TV) (K : Prop) : Prop :=
  match x with
  | .c (.a (.osl o n off len)) => fitsW h (.a (.osl o n off len)) ∧ K
  | .agg cs => match cs.any (fun c => match c with | .a (.osl _ _ _ _) => true | _ => false) with
    | true => fitsWs h cs ∧ K
    | false => K
  | _ => K
theorem fitsWs_none {h : Nat → AObj} : ∀ {cs : List WV}, cs.any (fun c => match c with | .a (.osl _ _ _ _) => true | _ => false) = false → fitsWs h cs
  | [], _ => trivial
  | x :: r, hx => by
    simp only [List.any_cons, Bool.or_eq_false_iff] at hx
    have := fitsWs_none (h := h) hx.2
    cases x with
    | fn f a b => exact this
    | a x => cases x with
      | osl o n off len => cases hx.1
      | _ => exact this
theorem asksT_inv {h : Nat → AObj} {x : TV} {K : Prop} (hx : asksT h x K) : fitsT h x ∧ K := by
  unfold asksT at hx
  split at hx
  · exact hx
  · rename_i cs
    split at hx
    · exact hx
    · rename_i hn; exact ⟨fitsWs_none hn, hx⟩
  · rename_i h1 h2
    refine ⟨?_, hx⟩
    unfold fitsT
    split
    · rename_i o n off len; exact (h1 o n off len rfl).elim
    · rename_i cs; exact (h2 cs rfl).elim
    · trivial
def asksP (h : Nat → AObj) : List (Nat × TV) → Prop → Prop
  | [], K => K
  | (_, x) :: r, K => asksT h x (asksP h r K)
theorem asksP_inv {h : Nat → AObj} : ∀ {l : List (Nat × TV)} {K : Prop}, asksP h l K → giveP h l = givP h l ∧ K
  | [], _, hx => ⟨rfl, hx⟩
  | (i, x) :: r, K, hx => by
    obtain ⟨h1, h2⟩ := asksT_inv hx
    obtain ⟨h3, h4⟩ := asksP_inv h2
    exact ⟨by simp only [giveP, givP, givT_eq h1, h3], h4⟩

/-! ### Operations -/
section
variable {P : Program}

/-- The place of an element. -/
def elemV (de : TyD) (x : TV) (i : Int) (K : TV → Prop) : Prop :=
  match x with
  | .c (.a (.osl o n off len)) => match de.size == n with
    | true => (0 ≤ i ∧ i < len) ∧ K (.c (.a (.ep o n (off + i.toNat) 0)))
    | false => False
  | .c (.a (.fz y)) => match de.zero with
    | some z => (y.isSl de.size = true ∧ 0 ≤ i ∧ i < y.ses.length ∧ shp z 0 (y.ses.getD i.toNat []) = y.ses.getD i.toNat []) ∧ K (.c (.a (.fz (.pt (shp z 0 (y.ses.getD i.toNat []))))))
    | none => False
  | _ => False
theorem elemV_inv {de : TyD} {x : TV} {i : Int} {K : TV → Prop} (h : elemV de x i K) : ∃ v, elemSl de x i = some v ∧ K v := by
  unfold elemV at h
  split at h
  · rename_i o n off len
    split at h
    · rename_i hs
      simp only [beq_iff_eq] at hs
      exact ⟨_, by simp only [elemSl, hs, h.1, and_self, if_true], h.2⟩
    · exact h.elim
  · rename_i y
    split at h
    · rename_i z hz
      obtain ⟨⟨h1, h2, h3, h4⟩, h5⟩ := h
      rw [h4] at h5
      cases y with
      | sl nn n es =>
        simp only [FV.isSl, beq_iff_eq] at h1
        simp only [FV.ses] at h3 h5
        exact ⟨_, by simp only [elemSl, h1, h2, h3, and_self, if_true], h5⟩
      | nils => simp [FV.ses] at h3; omega
      | z0 => simp [FV.ses] at h3; omega
      | _ => cases h1
    · exact h.elim
  · exact h.elim

def indexAddrV (P : Program) (d : TyD) (x ix : TV) (K : TV → Prop) : Prop :=
  match ix with
  | .c (.a (.fz (.int _ i))) => match d.kind with
    | .slice e => tyP P e fun de => elemV de x i K
    | .arr m e => tyP P e fun de => match x with
      | .c (.a (.ep o n k j)) => (0 ≤ i ∧ i < m) ∧ K (.c (.a (.ep o n k (j + i.toNat * de.size))))
      | _ => False
    | _ => False
  | _ => False
theorem indexAddrV_inv {d : TyD} {x ix : TV} {K : TV → Prop} (h : indexAddrV P d x ix K) : ∃ v, indexAddrA P d x ix = some v ∧ K v := by
  unfold indexAddrV at h
  split at h
  · split at h
    · rename_i he
      obtain ⟨de, hd, hnew⟩ := tyP_inv h
      clear h; have h := hnew; clear hnew
      obtain ⟨v, hv, hk⟩ := elemV_inv h
      exact ⟨v, by simp only [indexAddrA, he, hd, hv], hk⟩
    · rename_i he
      obtain ⟨de, hd, hnew⟩ := tyP_inv h
      clear h; have h := hnew; clear hnew
      split at h
      · exact ⟨_, by simp only [indexAddrA, he, hd, elemArr, h.1, and_self, if_true], h.2⟩
      · exact h.elim
    · exact h.elim
  · exact h.elim

def indexV (P : Program) (d : TyD) (x ix : TV) (K : TV → Prop) : Prop :=
  match ix with
  | .c (.a (.fz (.int _ i))) => match d.kind with
    | .str => match x with
      | .c (.a (.fz (.str l))) => (0 ≤ i ∧ i < l.length) ∧ K (.c (.a (.fz (.int .u8 (l.getD i.toNat 0).toNat))))
      | _ => False
    | _ => match indexA P d x ix with | some v => K v | none => False
  | _ => False
theorem indexV_inv {d : TyD} {x ix : TV} {K : TV → Prop} (h : indexV P d x ix K) : ∃ v, indexA P d x ix = some v ∧ K v := by
  unfold indexV at h
  split at h
  · split at h
    · rename_i he
      split at h
      · exact ⟨_, by simp only [indexA, he, h.1, and_self, if_true], h.2⟩
      · exact h.elim
    · split at h
      · rename_i v hv; exact ⟨v, hv, h⟩
      · exact h.elim
  · exact h.elim

/-- Bounds. -/
def bndV (x : Option TV) (dflt : Int) (K : Int → Prop) : Prop :=
  match x with
  | none => K dflt
  | some (.c (.a (.fz (.int _ i)))) => K i
  | _ => False
theorem bndV_inv {x : Option TV} {dflt most : Nat} {K : Int → Prop} (h : bndV x dflt K) : ∃ i : Int, K i ∧ (0 ≤ i → i ≤ most → boundA x dflt most = some i.toNat) := by
  unfold bndV at h
  split at h
  · exact ⟨dflt, h, fun _ _ => by simp [boundA]⟩
  · rename_i i; exact ⟨i, h, fun h1 h2 => by simp only [boundA, h1, h2, and_self, if_true]⟩
  · exact h.elim

def bnds3V (lo hi mx : Option TV) (len : Nat) (K : Nat → Nat → Prop) : Prop :=
  match mx with
  | none => bndV hi len fun b => bndV lo ((0 : Nat) : Int) fun a => (0 ≤ a ∧ a ≤ b ∧ b ≤ len) ∧ K a.toNat b.toNat
  | some m => match hi with
    | none => False
    | some _ => bndV (some m) len fun c => bndV hi len fun b => bndV lo ((0 : Nat) : Int) fun a => (0 ≤ a ∧ a ≤ b ∧ b ≤ c ∧ c ≤ len) ∧ K a.toNat b.toNat
theorem bnds3V_inv {lo hi mx : Option TV} {len : Nat} {K : Nat → Nat → Prop} (h : bnds3V lo hi mx len K) : ∃ a b, bnds3 lo hi mx len = some (a, b) ∧ K a b := by
  unfold bnds3V at h
  split at h
  · obtain ⟨b, h, hb⟩ := bndV_inv (most := len) h
    obtain ⟨a, h, ha⟩ := bndV_inv (most := b.toNat) h
    obtain ⟨⟨h1, h2, h3⟩, hk⟩ := h
    refine ⟨_, _, ?_, hk⟩
    have e1 : boundA none len len = some len := rfl
    simp only [bnds3, e1, hb (by omega) h3, show b.toNat ≤ len by omega, Option.isSome_none, Bool.false_eq_true, false_implies, and_self, if_true, ha h1 (by omega), Option.map_some]
  · split at h
    · exact h.elim
    · rename_i m hi
      obtain ⟨c, h, hc⟩ := bndV_inv (most := len) h
      obtain ⟨b, h, hb⟩ := bndV_inv (most := len) h
      obtain ⟨a, h, ha⟩ := bndV_inv (most := b.toNat) h
      obtain ⟨⟨h1, h2, h3, h4⟩, hk⟩ := h
      refine ⟨_, _, ?_, hk⟩
      simp only [bnds3, hc (by omega) h4, hb (by omega) (by omega), show b.toNat ≤ c.toNat by omega, Option.isSome_some, implies_true, and_self, if_true, ha h1 (by omega), Option.map_some]

def sliceV (P : Program) (d : TyD) (x : TV) (lo hi mx : Option TV) (K : TV → Prop) : Prop :=
  match d.kind with
  | .slice e => tyP P e fun de => match x with
    | .c (.a (.osl o n off len)) => match n == de.size with
      | true => bnds3V lo hi mx len fun a b => K (.c (.a (.osl o n (off + a) (b - a))))
      | false => False
    | .c (.a (.fz y)) => y.isSl de.size = true ∧ bnds3V lo hi mx y.ses.length fun a b => br (zeroMax mx) (K (.c (.a (.fz y.cut0)))) (K (.c (.a (.fz (y.cut a b)))))
    | _ => False
  | .str => match x, mx with
    | .c (.a (.fz (.str l))), none => bnds3V lo hi none l.length fun a b => K (.c (.a (.fz (.str ((l.take b).drop a)))))
    | _, _ => False
  | _ => False
theorem sliceV_inv {d : TyD} {x : TV} {lo hi mx : Option TV} {K : TV → Prop} (h : sliceV P d x lo hi mx K) : ∃ v, sliceOpA P d x lo hi mx = some v ∧ K v := by
  unfold sliceV at h
  split at h
  · rename_i e he
    obtain ⟨de, hd, hnew⟩ := tyP_inv h
    clear h; have h := hnew; clear hnew
    split at h
    · split at h
      · rename_i hn
        obtain ⟨a, b, h1, h2⟩ := bnds3V_inv h
        simp only [beq_iff_eq] at hn
        subst hn
        exact ⟨_, by simp only [sliceOpA, he, hd, sliceSl, if_true, h1, Option.map_some], h2⟩
      · exact h.elim
    · rename_i y
      obtain ⟨h0, h⟩ := h
      obtain ⟨a, b, h1, h2⟩ := bnds3V_inv h
      cases y with
      | sl nn n es =>
        simp only [FV.isSl, beq_iff_eq] at h0
        simp only [FV.ses] at h1
        refine ⟨_, by simp only [sliceOpA, he, hd, sliceSl, h0, if_true, h1, Option.map_some]; rfl, ?_⟩
        simp only [FV.cut, FV.cut0, h0] at h2 ⊢
        cases hz : zeroMax mx with
        | true => rw [hz, br_true] at h2; simpa using h2
        | false => rw [hz, br_false] at h2; simpa using h2
      | nils =>
        simp only [FV.ses, List.length_nil] at h1
        refine ⟨_, by simp only [sliceOpA, he, hd, sliceSl, h1, Option.map_some]; rfl, ?_⟩
        cases hz : zeroMax mx <;> rw [hz] at h2 <;> exact h2
      | z0 nn =>
        simp only [FV.ses, List.length_nil] at h1
        refine ⟨_, by simp only [sliceOpA, he, hd, sliceSl, h1, Option.map_some]; rfl, ?_⟩
        cases hz : zeroMax mx <;> rw [hz] at h2 <;> exact h2
      | _ => cases h0
    · exact h.elim
  · rename_i he
    split at h
    · obtain ⟨a, b, h1, h2⟩ := bnds3V_inv h
      exact ⟨_, by simp only [sliceOpA, he, sliceStr, h1, Option.map_some], h2⟩
    · exact h.elim
  · exact h.elim

/-- Loads out of arrays of frozen cells. -/
def loadV (d : TyD) (h : Nat → AObj) (x : TV) (K : AR → Prop) : Prop :=
  match x with
  | .c (.a (.ep o n i j)) => match h o with
    | .arz m fs => match m == n, d.zero with
      | true, some z => match z with
        | [] => False
        | z0 :: zs => (i < fs.length ∧ shp (z0 :: zs) j (fs.getD i []) = ((fs.getD i []).drop j).take (z0 :: zs).length ∧ d.size = (z0 :: zs).length) ∧
          K ⟨if d.agg then .agg (fzs (shp (z0 :: zs) j (fs.getD i []))) else .c (cell ((shp (z0 :: zs) j (fs.getD i [])).getD 0 .nils)), [], [o]⟩
      | _, _ => False
    | _ => oK' ((loadP d (fun o => flat (h o)) x).map fun r => ⟨r.1, [], r.2⟩) K
  | _ => oK' ((loadP d (fun o => flat (h o)) x).map fun r => ⟨r.1, [], r.2⟩) K
theorem loadV_inv {d : TyD} {h : Nat → AObj} {x : TV} {K : AR → Prop} (hl : loadV d h x K) : ∃ r, (loadP d (fun o => flat (h o)) x).map (fun r => (⟨r.1, [], r.2⟩ : AR)) = some r ∧ K r := by
  unfold loadV at hl
  split at hl
  · rename_i o n i j
    split at hl
    · rename_i m fs ho
      split at hl
      · rename_i z hm hz
        simp only [beq_iff_eq] at hm
        split at hl
        · exact hl.elim
        · rename_i z0 zs
          obtain ⟨⟨h1, h2, h3⟩, hk⟩ := hl
          have hget : fs[i]? = some (fs.getD i []) := by simp [List.getD, List.getElem?_eq_getElem h1]
          generalize fs.getD i [] = row at *
          generalize hzz : z0 :: zs = z' at *
          have hlen : (row.drop j).length ≥ z'.length := by
            have := congrArg List.length h2
            rw [shp_length, List.length_take, Nat.min_def] at this
            split at this <;> omega
          have hzl : 0 < z'.length := by rw [← hzz]; simp
          refine ⟨_, ?_, hk⟩
          simp only [loadP, ho, flat, hm, if_true, List.getElem?_map, hget, Option.map_some]
          by_cases ha : d.agg = true
          · have e1 : (fzs row).drop j = fzs (row.drop j) := by simp [fzs]
            simp only [loadA, ha, if_true, e1, show d.size ≤ (fzs (row.drop j)).length by simp [fzs]; simp at hlen; omega, Option.map_some]
            rw [h2, h3]; simp [fzs]
          · have e1 : (fzs row).drop j = fzs (row.drop j) := by simp [fzs]
            simp only [loadA, ha, Bool.false_eq_true, if_false, e1]
            match hrd : row.drop j, hlen with
            | [], hlen => exact absurd hzl (by simp only [List.length_nil] at hlen; omega)
            | y :: ys, _ =>
              simp only [fzs, List.map_cons, Option.map_some]
              rw [h2, hrd]
              match z', hzl with
              | _ :: _, _ => simp
      · exact hl.elim
    · exact oK'_inv hl
  · exact oK'_inv hl

/-- Stores into arrays of frozen cells. -/
def storeV (d : TyD) (h : Nat → AObj) (x y : TV) (K : AR → Prop) : Prop :=
  match x with
  | .c (.a (.ep o n i j)) => match h o with
    | .arz m fs => match cellsT y with
      | some cs => match unfz cs with
        | some fcs => match m == n && fcs.length == d.size && j == 0 && fcs.length == n with
          | true => (i < fs.length ∧ (fs.getD i []).length = n) ∧ K ⟨.any, [(o, .arz n (fs.set i fcs))], [o]⟩
          | false => oK' (storeF d h x y) K
        | none => False
      | none => False
    | _ => oK' (storeF d h x y) K
  | _ => oK' (storeF d h x y) K
theorem storeV_inv {d : TyD} {h : Nat → AObj} {x y : TV} {K : AR → Prop} (hl : storeV d h x y K) : ∃ r, storeF d h x y = some r ∧ K r := by
  unfold storeV at hl
  split at hl
  · rename_i o n i j
    split at hl
    · rename_i m fs ho
      split at hl
      · rename_i cs hc
        split at hl
        · rename_i fcs hu
          split at hl
          · rename_i hb
            simp only [Bool.and_eq_true, beq_iff_eq] at hb
            obtain ⟨⟨⟨hm, hd⟩, hj⟩, hn⟩ := hb
            obtain ⟨⟨h1, h2⟩, hk⟩ := hl
            have hget : fs[i]? = some (fs.getD i []) := by simp [List.getD, List.getElem?_eq_getElem h1]
            refine ⟨_, ?_, hk⟩
            have hsp : spliceF (fs.getD i []) j fcs = fcs := by
              subst hj
              simp only [spliceF, List.take_zero, List.nil_append, Nat.zero_add]
              rw [List.drop_eq_nil_of_le (by omega), List.append_nil]
            simp only [storeF, hc, ho, hu, hm, hd, and_self, if_true, hget]
            rw [if_pos (by omega), hsp]
          · exact oK'_inv hl
        · exact hl.elim
      · exact hl.elim
    · exact oK'_inv hl
  · exact oK'_inv hl

/-! Builtins. -/
/-- A slice's elements. -/
def elemsV (n : Nat) (h : Nat → AObj) (x : TV) (K : List (List FV) → List Nat → Prop) : Prop :=
  match x with
  | .c (.a (.fz y)) => y.isSl n = true ∧ K y.ses []
  | .c (.a (.osl o m off len)) => match h o with
    | .arz m' es => match m == n && m' == n with
      | true => off + len ≤ es.length ∧ K ((es.drop off).take len) [o]
      | false => False
    | _ => False
  | _ => False
theorem elemsV_inv {n : Nat} {h : Nat → AObj} {x : TV} {K : List (List FV) → List Nat → Prop} (hl : elemsV n h x K) : ∃ es rd, elemsF n h x = some (es, rd) ∧ K es rd := by
  unfold elemsV at hl
  split at hl
  · rename_i y
    obtain ⟨h1, hk⟩ := hl
    cases y with
    | sl nn m es => simp only [FV.isSl, beq_iff_eq] at h1; exact ⟨_, _, by simp only [elemsF, h1, if_true]; rfl, hk⟩
    | nils => exact ⟨_, _, rfl, hk⟩
    | z0 => exact ⟨_, _, rfl, hk⟩
    | _ => cases h1
  · split at hl
    · rename_i ho
      split at hl
      · rename_i hb
        simp only [Bool.and_eq_true, beq_iff_eq] at hb
        exact ⟨_, _, by simp only [elemsF, ho, hb.1, hb.2, hl.1, and_self, if_true], hl.2⟩
      · exact hl.elim
    · exact hl.elim
  · exact hl.elim

def appendV (d : TyD) (fr : Nat) (h : Nat → AObj) (s x : TV) (K : AR → Prop) : Prop :=
  elemsV d.size h x fun new rd => match s with
    | .c (.a (.fz .nils)) => br new.isEmpty (K ⟨s, [], rd⟩) (roomB new.length d.bytes ∧ K ⟨.c (.a (.osl fr d.size 0 new.length)), [(fr, .arz d.size new)], rd⟩)
    | .c (.a (.fz (.z0 _))) => br new.isEmpty (K ⟨s, [], rd⟩) (roomB new.length d.bytes ∧ K ⟨.c (.a (.osl fr d.size 0 new.length)), [(fr, .arz d.size new)], rd⟩)
    | .c (.a (.osl o n off len)) => match h o with
      | .arz m fs => match n == d.size && m == d.size && off == 0 && !(fr :: rd).contains o with
        | true => (len ≤ fs.length ∧ roomB (len + new.length) d.bytes) ∧
          K ⟨.c (.a (.osl fr d.size 0 (len + new.length))), [(o, .gone), (fr, .arz d.size (fs.take len ++ new))], o :: rd⟩
        | false => False
      | _ => False
    | _ => False
theorem appendV_inv {d : TyD} {fr : Nat} {h : Nat → AObj} {s x : TV} {K : AR → Prop} (hl : appendV d fr h s x K) : ∃ r, appendF d fr h s x = some r ∧ K r := by
  unfold appendV at hl
  obtain ⟨new, rd, he, hl⟩ := elemsV_inv hl
  split at hl
  · by_cases hn : new = []
    · subst hn; exact ⟨_, by simp only [appendF, he, if_true], hl⟩
    · have : new.isEmpty = false := by cases new <;> simp_all
      rw [this, br_false] at hl
      exact ⟨_, by simp only [appendF, he, hn, if_false, hl.1, if_true], hl.2⟩
  · by_cases hn : new = []
    · subst hn; exact ⟨_, by simp only [appendF, he, if_true], hl⟩
    · have : new.isEmpty = false := by cases new <;> simp_all
      rw [this, br_false] at hl
      exact ⟨_, by simp only [appendF, he, hn, if_false, hl.1, if_true], hl.2⟩
  · split at hl
    · rename_i ho
      split at hl
      · rename_i hb
        simp only [Bool.and_eq_true, beq_iff_eq, Bool.not_eq_true'] at hb
        obtain ⟨⟨⟨h1, h2⟩, h3⟩, h4⟩ := hb
        obtain ⟨⟨h5, h6⟩, hk⟩ := hl
        exact ⟨_, by simp only [appendF, he, ho, h1, h2, h3, h4, h5, h6, Bool.not_false, and_self, if_true], hk⟩
      · exact hl.elim
    · exact hl.elim
  · exact hl.elim

def appendZV (P : Program) (t' : TypeId) (de : TyD) (fr : Nat) (s x : TV) (K : AR → Prop) : Prop :=
  match P.underlying t', s, x with
  | some (.int _), .c (.a (.fz .nils)), .c (.a (.fz (.int _ n))) => match decide (0 < de.size ∧ 0 < de.bytes) && (de.zero.map List.length == some de.size) with
    | true => (0 < n ∧ roomB n.toNat de.bytes) ∧ K ⟨.c (.a (.osl fr de.size 0 n.toNat)), [(fr, .arz de.size [])], []⟩
    | false => False
  | _, _, _ => False
theorem appendZV_inv {t' : TypeId} {de : TyD} {fr : Nat} {s x : TV} {K : AR → Prop} (hl : appendZV P t' de fr s x K) : ∃ r, (appendZ P t' de fr s x).map freezeNew = some r ∧ K r := by
  unfold appendZV at hl
  split at hl
  · rename_i ht
    split at hl
    · rename_i hb
      simp only [Bool.and_eq_true, decide_eq_true_eq, beq_iff_eq] at hb
      refine ⟨_, ?_, hl.2⟩
      unfold appendZ
      simp only [ht]
      rw [if_pos ⟨hl.1.1, hb.1.1, hl.1.2, hb.1.2, hb.2⟩]
      rfl
    · exact hl.elim
  · exact hl.elim

def builtinV (P : Program) (b : Builtin) (ts : List TypeId) (fr : Nat) (h : Nat → AObj) (args : List TV) (K : AR → Prop) : Prop :=
  match b, ts, args with
  | .len, [t], [x] => tyP P t fun d => match d.kind, x with
    | .slice e, .c (.a (.fz y)) => tyP P e fun de => y.isSl de.size = true ∧ K ⟨iV y.ses.length, [], []⟩
    | _, _ => oK' (builtinF P .len [t] fr h [x]) K
  | .append, [t, t'], [s, x] => match t == t' with
    | true => tyP P t fun d => match d.kind with
      | .slice e => tyP P e fun de => match decide (0 < de.size ∧ 0 < de.bytes ∧ de.bytes ≤ 4096) && (de.zero.map List.length == some de.size) with
        | true => appendV de fr h s x K
        | false => False
      | _ => False
    | false => tyP P t fun d => match d.kind with
      | .slice e => tyP P e fun de => appendZV P t' de fr s x K
      | _ => False
  | b, ts, args => oK' (builtinF P b ts fr h args) K
theorem builtinV_inv {b : Builtin} {ts : List TypeId} {fr : Nat} {h : Nat → AObj} {args : List TV} {K : AR → Prop} (hl : builtinV P b ts fr h args K) : ∃ r, builtinF P b ts fr h args = some r ∧ K r := by
  unfold builtinV at hl
  split at hl
  · rename_i t x
    obtain ⟨d, hd, hnew⟩ := tyP_inv hl
    clear hl; have hl := hnew; clear hnew
    split at hl
    · rename_i e y he
      obtain ⟨de, hde, hnew⟩ := tyP_inv hl
      clear hl; have hl := hnew; clear hnew
      obtain ⟨h1, hk⟩ := hl
      cases y with
      | sl nn m es => exact ⟨_, by simp only [builtinF, builtinA, withTy, hd, lenP, he, lenSl, Option.map_some]; rfl, hk⟩
      | nils => exact ⟨_, by simp only [builtinF, builtinA, withTy, hd, lenP, he, lenSl, Option.map_some]; rfl, hk⟩
      | z0 => exact ⟨_, by simp only [builtinF, builtinA, withTy, hd, lenP, he, lenSl, Option.map_some]; rfl, hk⟩
      | _ => cases h1
    · exact oK'_inv hl
  · rename_i t t' s x
    split at hl
    · rename_i ht
      simp only [beq_iff_eq] at ht
      subst ht
      obtain ⟨d, hd, hnew⟩ := tyP_inv hl
      clear hl; have hl := hnew; clear hnew
      split at hl
      · rename_i e he
        obtain ⟨de, hde, hnew⟩ := tyP_inv hl
        clear hl; have hl := hnew; clear hnew
        split at hl
        · rename_i hb
          simp only [Bool.and_eq_true, decide_eq_true_eq, beq_iff_eq] at hb
          obtain ⟨r, h1, h2⟩ := appendV_inv hl
          exact ⟨r, by simp only [builtinF, if_true, withElem, hd, he, hde, appendPF, hb.1, hb.2, and_self, h1], h2⟩
        · exact hl.elim
      · exact hl.elim
    · rename_i ht
      obtain ⟨d, hd, hnew⟩ := tyP_inv hl
      clear hl; have hl := hnew; clear hnew
      split at hl
      · rename_i e he
        obtain ⟨de, hde, hnew⟩ := tyP_inv hl
        clear hl; have hl := hnew; clear hnew
        obtain ⟨r, h1, h2⟩ := appendZV_inv hl
        have ht' : ¬ t = t' := by simpa using ht
        exact ⟨r, by simp only [builtinF, ht', if_false, withElem, hd, he, hde, h1], h2⟩
      · exact hl.elim
  · exact oK'_inv hl

/-- Numbers: a divisor is not nought. -/
def binV (P : Program) (t : TypeId) (op : BinOp) (x y : TV) (K : TV → Prop) : Prop :=
  match op, x, y with
  | .quo, .c (.a (.fz (.int k a))), .c (.a (.fz (.int k' b))) => (k = k' ∧ b ≠ 0) ∧ K (.c (.a (.fz (.int k (k.wrap (a.tdiv b))))))
  | .rem, .c (.a (.fz (.int k a))), .c (.a (.fz (.int k' b))) => (k = k' ∧ b ≠ 0) ∧ K (.c (.a (.fz (.int k (a.tmod b)))))
  | .add, .c (.a (.fz (.str a))), .c (.a (.fz (.str b))) => (a.length + b.length ≤ 1000000000000) ∧ K (.c (.a (.fz (.str (a ++ b)))))
  | op, x, y => match binA P t op x y with | some v => K v | none => False
theorem binV_inv {t : TypeId} {op : BinOp} {x y : TV} {K : TV → Prop} (hl : binV P t op x y K) : ∃ v, binA P t op x y = some v ∧ K v := by
  unfold binV at hl
  split at hl
  · obtain ⟨⟨rfl, h2⟩, hk⟩ := hl; exact ⟨_, by simp only [binA, if_true, intBin, h2, if_false, Option.map_some], hk⟩
  · obtain ⟨⟨rfl, h2⟩, hk⟩ := hl; exact ⟨_, by simp only [binA, if_true, intBin, h2, if_false, Option.map_some], hk⟩
  · obtain ⟨h2, hk⟩ := hl; exact ⟨_, by simp only [binA, strBin, h2, if_true, Option.map_some], hk⟩
  · split at hl
    · rename_i v hv; exact ⟨v, hv, hl⟩
    · exact hl.elim

/-! ### Maps, slices that are made -/
def exC : List FV → (List FV → Prop) → Prop
  | [], K => K []
  | .int k _ :: z, K => ∃ n : Int, exC z fun l => K (.int k n :: l)
  | .bool _ :: z, K => ∃ b : Bool, exC z fun l => K (.bool b :: l)
  | .str _ :: z, K => ∃ s : List UInt8, exC z fun l => K (.str s :: l)
  | _ :: z, K => ∃ x : FV, exC z fun l => K (x :: l)
theorem exC_inv : ∀ {z : List FV} {K : List FV → Prop}, exC z K → ∃ l, K l ∧ l.length = z.length ∧ ((z.all fun f => match f with | .int _ _ => true | .bool _ => true | .str _ => true | _ => false) = true → (l.all FV.scalar) = true)
  | [], K, h => ⟨[], h, rfl, fun _ => rfl⟩
  | f :: z, K, h => by
    cases f <;> (obtain ⟨a, h⟩ := h; obtain ⟨l, hk, hlen, hs⟩ := exC_inv h; refine ⟨_, hk, by simp [hlen], fun hz => ?_⟩; simp only [List.all_cons, Bool.and_eq_true, Bool.true_and, Bool.false_eq_true, false_and] at hz ⊢) <;>
      first | (exact hz.elim) | (exact ⟨rfl, hs hz⟩)
/-- A key's place, found one by one. -/
def findV (m : Bool × List EK) (key : List FV) : List MapE → Nat → (Option Nat → Prop) → Prop
  | [], _, K => K none
  | e :: es, i, K => match e.1.1 == m.1 with
    | true => match sameCells m.2 (fzs key) (fzs e.1.2) with
      | some b => br b (K (some i)) (findV m key es (i + 1) K)
      | none => False
    | false => False
theorem findV_inv {m : Bool × List EK} {key : List FV} : ∀ {es : List MapE} {i : Nat} {K : Option Nat → Prop}, findV m key es i K → ∃ r, findA m key es i = some r ∧ K r
  | [], i, K, h => ⟨none, rfl, h⟩
  | e :: es, i, K, h => by
    unfold findV at h
    split at h
    · rename_i hag
      split at h
      · rename_i b hb
        simp only [findA]
        rw [if_pos (by simpa using hag), hb]
        cases b with
        | true => exact ⟨some i, rfl, h⟩
        | false => exact findV_inv (show findV m key es (i + 1) K from h)
      · exact h.elim
    · exact h.elim
def few {α : Type} (l : List α) : Bool := Nat.ble l.length 12
def lookupV (m : (Bool × List EK) × (Bool × List WV)) (h : Nat → AObj) (x key : TV) (ok : Bool) (K : AR → Prop) : Prop :=
  match keyA m key with
  | some k => match mapzOf h x with
    | some oe => match unfz m.2.2 with
      | some z => (exC z fun l => findZ m k oe.2 = some (some l) ∧ oK' ((lookV ok (m.2.1, fzs l) true).map fun v => ⟨v, [], [oe.1]⟩) K) ∨ (findZ m k oe.2 = some none ∧ oK' ((lookV ok m.2 false).map fun v => ⟨v, [], [oe.1]⟩) K)
      | none => False
    | none => match mapOf (fun o => flat (h o)) x with
      | some oe => match few oe.2 with
        | true => findV m.1 k oe.2 0 fun r => oK' ((lookE m oe.2 r ok).map fun v => ⟨v, [], [oe.1]⟩) K
        | false => False
      | none => False
  | none => False
theorem lookupV_inv {m : (Bool × List EK) × (Bool × List WV)} {h : Nat → AObj} {x key : TV} {ok : Bool} {K : AR → Prop} (hl : lookupV m h x key ok K) : ∃ r, lookupF m h x key ok = some r ∧ K r := by
  unfold lookupV at hl
  split at hl
  · rename_i k hk
    split at hl
    · rename_i oe hoe
      split at hl
      · rcases hl with hl | ⟨hf, hl⟩
        · obtain ⟨l, ⟨hf, hl⟩, _⟩ := exC_inv hl
          obtain ⟨r, hr, hK⟩ := oK'_inv hl
          exact ⟨r, by simp only [lookupF, hoe, hk, hf, hr], hK⟩
        · obtain ⟨r, hr, hK⟩ := oK'_inv hl
          exact ⟨r, by simp only [lookupF, hoe, hk, hf, hr], hK⟩
      · exact hl.elim
    · rename_i hn
      split at hl
      · rename_i oe hoe
        split at hl
        · obtain ⟨q, hq, hl⟩ := findV_inv hl
          obtain ⟨r, hr, hK⟩ := oK'_inv hl
          exact ⟨r, by simp only [lookupF, hn, lookupA, hk, hoe, hq, hr], hK⟩
        · exact hl.elim
      · exact hl.elim
  · exact hl.elim
def mapEntryV (m : (Bool × List EK) × (Bool × List WV)) (h : Nat → AObj) (x key : TV) (K : AR → Prop) : Prop :=
  match keyA m key with
  | some k => match mapOf (fun o => flat (h o)) x with
    | some oe => match few oe.2 with
      | true => findV m.1 k oe.2 0 fun r => oK' (entE m oe.1 k oe.2 r) K
      | false => False
    | none => False
  | none => False
theorem mapEntryV_inv {m : (Bool × List EK) × (Bool × List WV)} {h : Nat → AObj} {x key : TV} {K : AR → Prop} (hl : mapEntryV m h x key K) : ∃ r, mapEntryA m (fun o => flat (h o)) x key = some r ∧ K r := by
  unfold mapEntryV at hl
  split at hl
  · rename_i k hk
    split at hl
    · rename_i oe hoe
      split at hl
      · obtain ⟨q, hq, hl⟩ := findV_inv hl
        obtain ⟨r, hr, hK⟩ := oK'_inv hl
        exact ⟨r, by simp only [mapEntryA, hk, hoe, hq, hr], hK⟩
      · exact hl.elim
    · exact hl.elim
  · exact hl.elim
def mapUpdateV (m : (Bool × List EK) × (Bool × List WV)) (h : Nat → AObj) (x key v : TV) (K : AR → Prop) : Prop :=
  match keyA m key, rowOf v with
  | some k, some r => match mapzOf h x with
    | some oe => match unfz r.2 with
      | some fr => ∃ es' : List MapZ, updZ m k (r.1, fr) oe.2 = some es' ∧ K ⟨.any, [(oe.1, .mapz es')], [oe.1]⟩
      | none => False
    | none => match mapOf (fun o => flat (h o)) x with
      | some oe => match few oe.2 with
        | true => findV m.1 k oe.2 0 fun q => K ⟨.any, [(oe.1, .mapo (updE m k r oe.2 q))], [oe.1]⟩
        | false => False
      | none => False
  | _, _ => False
theorem mapUpdateV_inv {m : (Bool × List EK) × (Bool × List WV)} {h : Nat → AObj} {x key v : TV} {K : AR → Prop} (hl : mapUpdateV m h x key v K) : ∃ r, mapUpdateF m h x key v = some r ∧ K r := by
  unfold mapUpdateV at hl
  split at hl
  · rename_i k rw_ hk hrw
    split at hl
    · rename_i oe hoe
      split at hl
      · rename_i fr hfr
        obtain ⟨es', hes, hK⟩ := hl
        exact ⟨_, by simp only [mapUpdateF, hoe, hk, hrw, hfr, hes, Option.map_some], hK⟩
      · exact hl.elim
    · rename_i hn
      split at hl
      · rename_i oe hoe
        split at hl
        · obtain ⟨q, hq, hK⟩ := findV_inv hl
          exact ⟨_, by simp only [mapUpdateF, hn, mapUpdateA, hk, hrw, hoe, hq], hK⟩
        · exact hl.elim
      · exact hl.elim
  · exact hl.elim
def mapP (P : Program) (t : TypeId) (f : (Bool × List EK) × (Bool × List WV) → Prop) : Prop := match mapTy P t with | some m => f m | none => False
theorem mapP_inv {P : Program} {t : TypeId} {f : (Bool × List EK) × (Bool × List WV) → Prop} (h : mapP P t f) : ∃ m, mapTy P t = some m ∧ f m := by
  unfold mapP at h
  split at h
  · rename_i m hm; exact ⟨m, hm, h⟩
  · exact h.elim
def elemP (P : Program) (t : TypeId) (f : TyD → Prop) : Prop := tyP P t fun d => match d.kind with
  | .slice e => tyP P e f
  | _ => False
theorem elemP_inv {P : Program} {t : TypeId} {f : TyD → Prop} (h : elemP P t f) : ∃ de, f de ∧ ∀ {α : Type} (g : TyD → Option α), withElem P t g = g de := by
  obtain ⟨d, hd, h⟩ := tyP_inv h
  split at h
  · rename_i e hk
    obtain ⟨de, hde, h⟩ := tyP_inv h
    refine ⟨de, h, fun g => ?_⟩
    unfold withElem
    rw [hd]; dsimp only; rw [hk]; dsimp only; rw [hde]
  · exact h.elim
def makeSliceV (de : TyD) (fr : Nat) (x y : TV) (K : AR → Prop) : Prop :=
  match x, y, de.zero with
  | .c (.a (.fz (.int _ n))), .c (.a (.fz (.int _ m))), some z => (n = m ∧ 0 ≤ n ∧ z.length = de.size ∧ 0 < de.size ∧ 0 < de.bytes ∧ roomB n.toNat de.bytes) ∧ K ⟨.c (.a (.osl fr de.size 0 n.toNat)), [(fr, .arz de.size (List.replicate n.toNat z))], []⟩
  | _, _, _ => False
theorem makeSliceV_inv {de : TyD} {fr : Nat} {x y : TV} {K : AR → Prop} (h : makeSliceV de fr x y K) : ∃ q, makeSliceP de fr x y = some q ∧ K ⟨.c (.a (.osl fr de.size 0 q.1)), [(fr, .arz de.size (List.replicate q.1 q.2))], []⟩ := by
  unfold makeSliceV at h
  split at h
  · rename_i k1 n k2 m z hz
    exact ⟨(n.toNat, z), by simp only [makeSliceP, hz, if_pos h.1], h.2⟩
  · exact h.elim

/-- What an operation comes to. -/
def opV (P : Program) (o : Oper) (fr : Nat) (ρ : Operand → TV) (h : Nat → AObj) (K : AR → Prop) : Prop :=
  match o.op with
  | .indexAddr t x ix => tyP P t fun d => indexAddrV P d (ρ x) (ρ ix) fun v => K ⟨v, [], []⟩
  | .index t x ix => tyP P t fun d => indexV P d (ρ x) (ρ ix) fun v => K ⟨v, [], []⟩
  | .slice t x lo hi mx => tyP P t fun d => sliceV P d (ρ x) (lo.map ρ) (hi.map ρ) (mx.map ρ) fun v => K ⟨v, [], []⟩
  | .load t x => tyP P t fun d => loadV d h (ρ x) K
  | .store t x y => tyP P t fun d => storeV d h (ρ x) (ρ y) K
  | .call ⟨.builtin b, args, ts⟩ => builtinV P b ts.toList fr h (args.toList.map ρ) K
  | .binOp op t x y _ => binV P t op (ρ x) (ρ y) fun v => K ⟨v, [], []⟩
  | .build t parts => asksP h (parts.toList.map fun p => (p.1, ρ p.2)) (tyP P t fun d =>
      match buildA P d (givP h (parts.toList.map fun p => (p.1, ρ p.2))).1 with
      | some v => K ⟨v, (givP h (parts.toList.map fun p => (p.1, ρ p.2))).2, oslP (parts.toList.map fun p => (p.1, ρ p.2))⟩
      | none => False)
  | .buildSlice t len parts => asksP h (parts.toList.map fun p => (p.1, ρ p.2))
      (oK' ((withElem P t fun de => buildSliceP de fr len (givP h (parts.toList.map fun p => (p.1, ρ p.2))).1).map fun r =>
        ⟨(freezeNew r).val, (freezeNew r).upd ++ (givP h (parts.toList.map fun p => (p.1, ρ p.2))).2, oslP (parts.toList.map fun p => (p.1, ρ p.2))⟩) K)
  | .lookup t x ix ok => mapP P t fun m => lookupV m h (ρ x) (ρ ix) ok K
  | .mapEntry t x k => mapP P t fun m => mapEntryV m h (ρ x) (ρ k) K
  | .mapUpdate t x k v => mapP P t fun m => mapUpdateV m h (ρ x) (ρ k) (ρ v) K
  | .makeSlice t l c => elemP P t fun de => makeSliceV de fr (ρ l) (ρ c) K
  | _ => oK' (aopF P o fr ρ h) K

theorem opV_inv {o : Oper} {fr : Nat} {ρ : Operand → TV} {h : Nat → AObj} {K : AR → Prop} (hl : opV P o fr ρ h K) : ∃ r, aopF P o fr ρ h = some r ∧ K r := by
  unfold opV at hl
  split at hl
  · rename_i t x ix ho
    obtain ⟨d, hd, hnew⟩ := tyP_inv hl
    clear hl; have hl := hnew; clear hnew
    obtain ⟨v, hv, hk⟩ := indexAddrV_inv hl
    exact ⟨_, by simp only [aopF, ho, aop, withTy, hd, hv, valR, Option.map_some], hk⟩
  · rename_i t x ix ho
    obtain ⟨d, hd, hnew⟩ := tyP_inv hl
    clear hl; have hl := hnew; clear hnew
    obtain ⟨v, hv, hk⟩ := indexV_inv hl
    exact ⟨_, by simp only [aopF, ho, aop, withTy, hd, hv, valR, Option.map_some], hk⟩
  · rename_i t x lo hi mx ho
    obtain ⟨d, hd, hnew⟩ := tyP_inv hl
    clear hl; have hl := hnew; clear hnew
    obtain ⟨v, hv, hk⟩ := sliceV_inv hl
    exact ⟨_, by simp only [aopF, ho, aop, withTy, hd, hv, valR, Option.map_some], hk⟩
  · rename_i t x ho
    obtain ⟨d, hd, hnew⟩ := tyP_inv hl
    clear hl; have hl := hnew; clear hnew
    obtain ⟨r, hr, hk⟩ := loadV_inv hl
    exact ⟨r, by simp only [aopF, ho, aop, withTy, hd, hr], hk⟩
  · rename_i t x y ho
    obtain ⟨d, hd, hnew⟩ := tyP_inv hl
    clear hl; have hl := hnew; clear hnew
    obtain ⟨r, hr, hk⟩ := storeV_inv hl
    exact ⟨r, by simp only [aopF, ho, withTy, hd, hr], hk⟩
  · rename_i b args ts ho
    obtain ⟨r, hr, hk⟩ := builtinV_inv hl
    exact ⟨r, by simp only [aopF, ho, hr], hk⟩
  · rename_i op t x y ot ho
    obtain ⟨v, hv, hk⟩ := binV_inv hl
    exact ⟨_, by simp only [aopF, ho, aop, hv, valR, Option.map_some], hk⟩
  · rename_i t parts ho
    obtain ⟨hg, hl⟩ := asksP_inv hl
    obtain ⟨d, hd, hnew⟩ := tyP_inv hl
    clear hl; have hl := hnew; clear hnew
    split at hl
    · rename_i v hv
      exact ⟨_, by simp only [aopF, ho, withTy, hd, hg, hv, Option.map_some], hl⟩
    · exact hl.elim
  · rename_i t len parts ho
    obtain ⟨hg, hl⟩ := asksP_inv hl
    obtain ⟨r, hr, hk⟩ := oK'_inv hl
    exact ⟨r, by simp only [aopF, ho, hg, hr], hk⟩
  · rename_i t x ix ok ho
    obtain ⟨m, hm, hnew⟩ := mapP_inv hl
    obtain ⟨r, hr, hk⟩ := lookupV_inv hnew
    exact ⟨r, by simp only [aopF, ho, withMap, hm, hr], hk⟩
  · rename_i t x k ho
    obtain ⟨m, hm, hnew⟩ := mapP_inv hl
    obtain ⟨r, hr, hk⟩ := mapEntryV_inv hnew
    exact ⟨r, by simp only [aopF, ho, aop, withMap, hm, hr], hk⟩
  · rename_i t x k v ho
    obtain ⟨m, hm, hnew⟩ := mapP_inv hl
    obtain ⟨r, hr, hk⟩ := mapUpdateV_inv hnew
    exact ⟨r, by simp only [aopF, ho, withMap, hm, hr], hk⟩
  · rename_i t l c ho
    obtain ⟨de, hnew, hw⟩ := elemP_inv hl
    obtain ⟨q, hq, hk⟩ := makeSliceV_inv hnew
    exact ⟨_, by simp only [aopF, ho, hw, hq, Option.map_some], hk⟩
  · exact oK'_inv hl
end
end Go.AM

namespace Go.AM

/-! ### Objects that are reached -/
def AV.ids : AV → List Nat
  | .ep o _ _ _ => [o]
  | .osl o _ _ _ => [o]
  | .mp o => [o]
  | _ => []
def WV.ids : WV → List Nat
  | .a x => x.ids
  | .fn _ first cap => (first.flatMap fun p => p.2.flatMap AV.ids) ++ (cap.flatMap fun p => p.2.flatMap AV.ids)
def TV.ids : TV → List Nat
  | .any => []
  | .c x => x.ids
  | .agg cs => cs.flatMap WV.ids
  | .tup vs => vs.flatMap fun p => p.2.flatMap WV.ids
def AObj.ids : AObj → List Nat
  | .arr _ es => es.flatMap fun e => e.flatMap WV.ids
  | .mapo es => es.flatMap fun e => e.2.2.flatMap WV.ids
  | _ => []
def AV.inn (l : List Nat) : AV → Bool
  | .ep o _ _ _ => l.contains o
  | .osl o _ _ _ => l.contains o
  | .mp o => l.contains o
  | _ => true
def WV.inn (l : List Nat) : WV → Bool
  | .a x => x.inn l
  | .fn _ first cap => (first.all fun p => p.2.all (AV.inn l)) && (cap.all fun p => p.2.all (AV.inn l))
def TV.inn (l : List Nat) : TV → Bool
  | .any => true
  | .c x => x.inn l
  | .agg cs => cs.all (WV.inn l)
  | .tup vs => vs.all fun p => p.2.all (WV.inn l)
def AObj.inn (l : List Nat) : AObj → Bool
  | .arr _ es => es.all fun e => e.all (WV.inn l)
  | .mapo es => es.all fun e => e.2.2.all (WV.inn l)
  | _ => true
def reach (h : Nat → AObj) : Nat → List Nat → List Nat → List Nat
  | 0, _, seen => seen
  | _ + 1, [], seen => seen
  | k + 1, o :: todo, seen => match seen.contains o with
    | true => reach h k todo seen
    | false => reach h k ((h o).ids ++ todo) (seen ++ [o])
/-- The first m of them that keep their numbers: all but U. -/
def keep (m : Nat) (U : List Nat) : List Nat := (List.range m).filter fun o => !U.contains o
/-- What else is reached. -/
def reachU (m : Nat) (U : List Nat) (h : Nat → AObj) (todo : List Nat) : List Nat := (reach h 200 (keep m U ++ todo) []).filter fun o => Nat.ble m o || U.contains o
def inv (ids : List Nat) (o : Nat) : Nat := ids.idxOf o
def nodupB : List Nat → Bool
  | [] => true
  | x :: l => !l.contains x && nodupB l
theorem nodupB_iff : ∀ {l : List Nat}, nodupB l = true → l.Nodup
  | [], _ => .nil
  | x :: l, h => by
    simp only [nodupB, Bool.and_eq_true, Bool.not_eq_true', List.contains_eq_mem, decide_eq_false_iff_not] at h
    exact List.nodup_cons.2 ⟨h.1, nodupB_iff h.2⟩
def liveB : AObj → Bool | .gone => false | _ => true
theorem liveB_iff {x : AObj} (h : liveB x = true) : isLive x := by cases x <;> simp_all [liveB, isLive]

section
/-- ν leads back from σ. -/
def Back (A : List Nat) (ν σ : Nat → Nat) (N : Nat) : Prop := ∀ o, A.contains o = true → ν o < N ∧ σ (ν o) = o
variable {A : List Nat} {ν σ : Nat → Nat} {N : Nat}
theorem AV.renV (H : Back A ν σ N) {x : AV} (h : x.inn A = true) : (x.ren ν).ren σ = x ∧ (x.ren ν).lt N = true := by
  cases x <;> simp only [AV.inn] at h <;> simp only [AV.ren, AV.lt, and_self, decide_eq_true_eq] <;> have := H _ h <;> simp [this]
theorem map_ren {α : Type} {f g : α → α} {p q : α → Bool} (hfg : ∀ x, p x = true → g (f x) = x ∧ q (f x) = true) : ∀ {l : List α}, l.all p = true → (l.map f).map g = l ∧ (l.map f).all q = true
  | [], _ => ⟨rfl, rfl⟩
  | x :: l, h => by
    simp only [List.all_cons, Bool.and_eq_true] at h
    have h1 := hfg x h.1
    have h2 := map_ren hfg h.2
    exact ⟨by simp only [List.map_cons, h1.1, h2.1], by simp only [List.map_cons, List.all_cons, h1.2, h2.2, Bool.and_self]⟩
theorem pair_ren {α β : Type} {f g : α → α} {p q : α → Bool} (hfg : ∀ x, p x = true → g (f x) = x ∧ q (f x) = true) (x : β × List α) (h : x.2.all p = true) :
    ((x.1, (x.2.map f).map g) : β × List α) = x ∧ (x.2.map f).all q = true := by
  have := map_ren hfg h
  exact ⟨by rw [this.1], this.2⟩
theorem WV.renV (H : Back A ν σ N) {x : WV} (h : x.inn A = true) : (x.ren ν).ren σ = x ∧ (x.ren ν).lt N = true := by
  cases x with
  | a x => simp only [WV.ren, WV.lt, WV.inn] at h ⊢; have := AV.renV H h; simp [this]
  | fn f first cap =>
    simp only [WV.inn, Bool.and_eq_true] at h
    have key : ∀ l : List (Bool × List AV), (l.all fun p => p.2.all (AV.inn A)) = true →
        ((l.map fun p => (p.1, p.2.map (AV.ren ν))).map fun p => (p.1, p.2.map (AV.ren σ))) = l ∧ ((l.map fun p => (p.1, p.2.map (AV.ren ν))).all fun p => p.2.all (AV.lt N)) = true :=
      fun l hl => map_ren (p := fun p => p.2.all (AV.inn A)) (fun x hx => pair_ren (fun y hy => AV.renV H hy) x hx) hl
    simp only [WV.ren, WV.lt, (key _ h.1).1, (key _ h.2).1, (key _ h.1).2, (key _ h.2).2, Bool.and_self, and_self]
theorem TV.renV (H : Back A ν σ N) {x : TV} (h : x.inn A = true) : (x.ren ν).ren σ = x ∧ (x.ren ν).lt N = true := by
  cases x with
  | any => exact ⟨rfl, rfl⟩
  | c x => simp only [TV.ren, TV.lt, TV.inn] at h ⊢; have := WV.renV H h; simp [this]
  | agg cs => simp only [TV.ren, TV.lt, TV.inn] at h ⊢; have := map_ren (fun x hx => WV.renV H (x := x) hx) h; simp only [this.1, this.2, and_self]
  | tup vs =>
    simp only [TV.ren, TV.lt, TV.inn] at h ⊢
    have := map_ren (f := fun p : Bool × List WV => (p.1, p.2.map (WV.ren ν))) (g := fun p => (p.1, p.2.map (WV.ren σ))) (q := fun p => p.2.all (WV.lt N)) (fun x hx => pair_ren (fun y hy => WV.renV H hy) x hx) h
    simp only [this.1, this.2, and_self]
theorem AObj.renV (H : Back A ν σ N) {x : AObj} (h : x.inn A = true) : (x.ren ν).ren σ = x ∧ (x.ren ν).lt N = true := by
  cases x with
  | gone => exact ⟨rfl, rfl⟩
  | arz n fs => exact ⟨rfl, rfl⟩
  | mapz es => exact ⟨rfl, rfl⟩
  | arr n es =>
    simp only [AObj.ren, AObj.lt, AObj.inn] at h ⊢
    have := map_ren (f := fun e => e.map (WV.ren ν)) (g := fun e => e.map (WV.ren σ)) (q := fun e => e.all (WV.lt N)) (fun x hx => map_ren (fun y hy => WV.renV H hy) hx) h
    simp only [this.1, this.2, and_self]
  | mapo es =>
    simp only [AObj.ren, AObj.lt, AObj.inn] at h ⊢
    have := map_ren (f := fun e : (Bool × List FV) × (Bool × List WV) => (e.1, (e.2.1, e.2.2.map (WV.ren ν)))) (g := fun e => (e.1, (e.2.1, e.2.2.map (WV.ren σ)))) (q := fun e => e.2.2.all (WV.lt N)) (p := fun e => e.2.2.all (WV.inn A))
      (fun x hx => by
        have := map_ren (f := WV.ren ν) (g := WV.ren σ) (q := WV.lt N) (fun y hy => WV.renV H hy) hx
        exact ⟨by rw [this.1], this.2⟩) h
    simp only [this.1, this.2, and_self]
end
section
variable {ids : List Nat} {fr : Nat}
theorem inv_ok {o : Nat} (h : ids.contains o = true) : inv ids o < ids.length ∧ sub ids fr (inv ids o) = o := by
  simp only [List.contains_eq_mem, decide_eq_true_eq] at h
  have h1 : ids.idxOf o < ids.length := List.idxOf_lt_length_iff.2 h
  refine ⟨h1, ?_⟩
  simp only [inv, sub, h1, if_true]
  rw [List.getD, List.getElem?_eq_getElem h1, Option.getD_some]
  exact List.getElem_idxOf h1
theorem AV.ren_inv {x : AV} (h : x.inn ids = true) : (x.ren (inv ids)).ren (sub ids fr) = x ∧ (x.ren (inv ids)).lt ids.length = true := AV.renV (fun _ h => inv_ok h) h
theorem WV.ren_inv {x : WV} (h : x.inn ids = true) : (x.ren (inv ids)).ren (sub ids fr) = x ∧ (x.ren (inv ids)).lt ids.length = true := WV.renV (fun _ h => inv_ok h) h
theorem TV.ren_inv {x : TV} (h : x.inn ids = true) : (x.ren (inv ids)).ren (sub ids fr) = x ∧ (x.ren (inv ids)).lt ids.length = true := TV.renV (fun _ h => inv_ok h) h
theorem AObj.ren_inv {x : AObj} (h : x.inn ids = true) : (x.ren (inv ids)).ren (sub ids fr) = x ∧ (x.ren (inv ids)).lt ids.length = true := AObj.renV (fun _ h => inv_ok h) h
end

/-! ### Slices that are lent -/
def lentW (h : Nat → AObj) : WV → Lent
  | .a (.osl o _ _ _) => match h o with | .arz n fs => [(o, n, fs)] | _ => []
  | _ => []
def lentT (h : Nat → AObj) : TV → Lent
  | .c x => lentW h x
  | .agg cs => cs.flatMap (lentW h)
  | _ => []
def asksA (h : Nat → AObj) : List TV → Prop → Prop
  | [], K => K
  | x :: r, K => asksT h x (asksA h r K)

def LentOK (h : Nat → AObj) (L : Lent) : Prop := ∀ p ∈ L, h p.1 = .arz p.2.1 p.2.2
theorem LentOK.ok {h : Nat → AObj} {L : Lent} (hl : LentOK h L) : L.ok h := fun p hp => by rw [hl p hp]; rfl
theorem lentW_ok {h : Nat → AObj} {x : WV} : LentOK h (lentW h x) := by
  intro p hp
  cases x with
  | fn f a b => cases hp
  | a x => cases x with
    | osl o n off len =>
      simp only [lentW] at hp
      split at hp
      · rename_i m fs he
        simp only [List.mem_singleton] at hp; subst hp; exact he
      · cases hp
    | _ => cases hp
theorem lentT_ok {h : Nat → AObj} {x : TV} : LentOK h (lentT h x) := by
  intro p hp
  cases x with
  | c x => exact lentW_ok p hp
  | agg cs => obtain ⟨c, _, hc⟩ := List.mem_flatMap.1 hp; exact lentW_ok p hc
  | _ => cases hp
theorem lents_ok {h : Nat → AObj} {l : List TV} : LentOK h (l.flatMap (lentT h)) := by
  intro p hp
  obtain ⟨c, _, hc⟩ := List.mem_flatMap.1 hp; exact lentT_ok p hc
theorem find2_lents {h : Nat → AObj} : ∀ {L : Lent} {o n : Nat} {fs : List (List FV)}, LentOK h L → h o = .arz n fs → (o, n, fs) ∈ L → find2 L o = some (n, fs)
  | (j, m, gs) :: L, o, n, fs, hl, ho, hm => by
    simp only [find2]
    split
    · rename_i hj
      have := hl _ List.mem_cons_self
      subst hj
      simp only [ho, AObj.arz.injEq] at this
      rw [this.1, this.2]
    · rename_i hj
      rcases List.mem_cons.1 hm with e | hm
      · exact absurd (by injection e with e _; exact e.symm) hj
      · exact find2_lents (fun p hp => hl p (List.mem_cons_of_mem _ hp)) ho hm
theorem find2_none {α : Type} : ∀ {L : List (Nat × α)} {o : Nat}, (∀ p ∈ L, p.1 ≠ o) → find2 L o = none
  | [], _, _ => rfl
  | (j, x) :: L, o, h => by
    simp only [find2]
    rw [if_neg (h _ List.mem_cons_self)]
    exact find2_none fun p hp => h p (List.mem_cons_of_mem _ hp)
theorem lendW_giv {h : Nat → AObj} {L : Lent} {x : WV} (hl : LentOK h L) (hs : ∀ p ∈ lentW h x, p ∈ L) (hf : fitsW h x) : x.lend L = (givW h x).1 := by
  cases x with
  | fn f a b => rfl
  | a x => cases x with
    | osl o n off len =>
      simp only [WV.lend, AV.lend, givW, lentW, fitsW] at hs hf ⊢
      cases ho : h o with
      | arz m fs =>
        rw [ho] at hs hf
        rw [find2_lents hl ho (hs _ List.mem_cons_self)]
        simp only at hf ⊢
        rw [if_pos hf]
      | _ =>
        rw [find2_none]
        intro p hp e
        have := hl p hp
        rw [e, ho] at this; cases this
    | _ => rfl
theorem lendWs_giv {h : Nat → AObj} {L : Lent} (hl : LentOK h L) : ∀ {cs : List WV}, (∀ p ∈ cs.flatMap (lentW h), p ∈ L) → fitsWs h cs → cs.map (WV.lend L) = (givWs h cs).1
  | [], _, _ => rfl
  | x :: r, hs, hf => by
    have hf := fitsWs_cons hf
    simp only [List.map_cons, givWs, lendW_giv hl (fun p hp => hs p (by simp [hp])) hf.1, lendWs_giv hl (cs := r) (fun p hp => hs p (by simp only [List.flatMap_cons, List.mem_append]; exact .inr hp)) hf.2]
theorem lendT_giv {h : Nat → AObj} {L : Lent} {x : TV} (hl : LentOK h L) (hs : ∀ p ∈ lentT h x, p ∈ L) (hf : fitsT h x) : x.lend L = (givT h x).1 := by
  cases x with
  | c x => simp only [TV.lend, givT, lendW_giv hl hs (fitsT_c hf)]
  | agg cs => simp only [TV.lend, givT, lendWs_giv hl hs hf]
  | _ => rfl
theorem asksA_inv {h : Nat → AObj} {L : Lent} (hl : LentOK h L) : ∀ {l : List TV} {K : Prop}, (∀ p ∈ l.flatMap (lentT h), p ∈ L) → asksA h l K → l.map (TV.lend L) = l.map (fun x => (givT h x).1) ∧ K
  | [], _, _, hk => ⟨rfl, hk⟩
  | x :: r, K, hs, hk => by
    obtain ⟨h1, h2⟩ := asksT_inv hk
    obtain ⟨h3, h4⟩ := asksA_inv hl (l := r) (fun p hp => hs p (by simp only [List.flatMap_cons, List.mem_append]; exact .inr hp)) h2
    exact ⟨by simp only [List.map_cons, h3, lendT_giv hl (fun p hp => hs p (by simp only [List.flatMap_cons, List.mem_append]; exact .inl hp)) h1], h4⟩

/-! ### What a call hands back -/
def resV (P : Program) : List TypeId → (List (Bool × List FV) → Prop) → Prop
  | [], K => K []
  | t :: ts, K => tyP P t fun d => match d.zero with
    | some z => exC z fun l => resV P ts fun r => K ((d.agg, l) :: r)
    | none => False
def packV : List (Bool × List FV) → TV
  | [(true, l)] => .agg (fzs l)
  | [(false, [x])] => .c (cell x)
  | l => .tup (l.map fun p => (p.1, fzs p.2))
def scalZ (P : Program) (ts : List TypeId) : Bool := ts.all fun t => match tyOf P t with
  | some d => match d.zero with
    | some z => z.all fun f => match f with | .int _ _ => true | .bool _ => true | .str _ => true | _ => false
    | none => false
  | none => false
theorem resV_inv {P : Program} : ∀ {ts : List TypeId} {K : List (Bool × List FV) → Prop}, resV P ts K → ∃ l, K l ∧ (scalZ P ts = true → ∀ p ∈ l, p.2.all FV.scalar = true)
  | [], K, h => ⟨[], h, fun _ _ hp => by cases hp⟩
  | t :: ts, K, h => by
    obtain ⟨d, hd, h⟩ := tyP_inv h
    split at h
    · rename_i z hz
      obtain ⟨l, h, _, hs⟩ := exC_inv h
      obtain ⟨r, h, hs2⟩ := resV_inv h
      refine ⟨_, h, fun hsc => ?_⟩
      simp only [scalZ, List.all_cons, Bool.and_eq_true, hd, hz] at hsc
      intro p hp
      rcases List.mem_cons.1 hp with rfl | hp
      · exact hs hsc.1
      · exact hs2 (by simpa [scalZ] using hsc.2) p hp
    · exact h.elim
theorem fzs_ren (σ : Nat → Nat) (l : List FV) : (fzs l).map (WV.ren σ) = fzs l := by
  simp only [fzs, List.map_map]
  exact List.map_congr_left fun x _ => rfl
theorem packV_ren (σ : Nat → Nat) (l : List (Bool × List FV)) : (packV l).ren σ = packV l := by
  unfold packV
  split
  · simp only [TV.ren, fzs_ren]
  · rfl
  · simp only [TV.ren, List.map_map]
    congr 1
    exact List.map_congr_left fun p _ => by simp [fzs_ren]
theorem fzs_scalar {l : List FV} (h : l.all FV.scalar = true) : (fzs l).all WV.scalar = true := by
  simp only [fzs, List.all_map]; exact h
theorem packV_scalar {l : List (Bool × List FV)} (h : ∀ p ∈ l, p.2.all FV.scalar = true) : (packV l).scalar = true := by
  unfold packV
  split
  · exact fzs_scalar (h _ List.mem_cons_self)
  · have := h _ List.mem_cons_self; simpa [TV.scalar, WV.scalar, cell, AV.scalar] using this
  · simp only [TV.scalar, List.all_map, List.all_eq_true]
    exact fun p hp => fzs_scalar (h p hp)

/-- What a call hands back that makes or changes objects, told by a value of X. -/
structure Sh where
  X : Type
  val : X → TV
  /-- The objects behind, from those ahead. -/
  obs : X → List AObj → List AObj
  /-- Are its slices given up? -/
  fz : Bool
  /-- Is it given the slices themselves? -/
  mu : Bool
def ownB : List Sh → Bool
  | [] => false
  | S :: l => !S.fz || ownB l

def mutB : List Sh → Bool
  | [] => false
  | S :: l => S.mu || mutB l

def resTys (P : Program) (f : FuncId) : List TypeId := match P.funcs[f]? with | some fn => fn.resultTypes.toList | none => []

section
variable (P : Program) (sh : FuncId → List Sh)

/-- One of them. -/
def altV (A : Sh → Prop) : List Sh → Prop
  | [] => False
  | [S] => A S
  | S :: T :: l => A S ∨ altV A (T :: l)
theorem altV_inv {A : Sh → Prop} : ∀ {l : List Sh}, altV A l → ∃ S, A S
  | [], h => h.elim
  | [S], h => ⟨S, h⟩
  | S :: T :: l, h => h.elim (fun h => ⟨S, h⟩) fun h => altV_inv (l := T :: l) h
/-- A call whose arguments bear no slices to be lent. -/
def callC (f : FuncId) (args : List TV) (h : Nat → AObj) (fr : Nat) (K : TV → AHeap → List Nat → Prop) : Prop :=
  match reach h 200 (args.flatMap TV.ids) [] with
  | ids => match nodupB ids && ids.all (fun o => liveB (h o) && (h o).inn ids) && args.all (TV.inn ids) && ids.all (fun o => Nat.blt o fr) with
    | true => match sh f with
      | _ :: _ => altV (fun S => ∃ x : S.X, AC P f (args.map (TV.ren (inv ids))) (ids.map fun o => (h o).ren (inv ids)) (S.val x) (S.obs x (ids.map fun o => (h o).ren (inv ids))) ∧
          match Nat.ble (S.obs x (ids.map fun o => (h o).ren (inv ids))).length (ids.length + 32) with
          | true => K ((S.val x).ren (sub ids fr)) (oldObjs (sub ids fr) ids (S.obs x (ids.map fun o => (h o).ren (inv ids))) ++ newObjs (sub ids fr) fr ((S.obs x (ids.map fun o => (h o).ren (inv ids))).drop ids.length)) ids
          | false => False) (sh f)
      | [] => resV P (resTys P f) fun rs => AC P f (args.map (TV.ren (inv ids))) (ids.map fun o => (h o).ren (inv ids)) (packV rs) (ids.map fun o => (h o).ren (inv ids)) ∧
          K (packV rs) (oldObjs (sub ids fr) ids (ids.map fun o => (h o).ren (inv ids))) ids
    | false => False

/-- A call whose arguments' slices are lent. -/
def callL (f : FuncId) (args : List TV) (h : Nat → AObj) (fr : Nat) (K : TV → AHeap → List Nat → Prop) : Prop :=
  match args.flatMap (lentT h) with
  | [] => callC P sh f args h fr K
  | p :: L => asksA h args (match scalZ P (resTys P f) && (reach h 200 ((args.map fun x => (givT h x).1).flatMap TV.ids) []).isEmpty && (sh f).isEmpty with
    | true => resV P (resTys P f) fun rs => AC P f (args.map fun x => (givT h x).1) [] (packV rs) [] ∧ ((args.map fun x => (givT h x).1).all (TV.lt 0) = true ∧ K (packV rs) [] ((p :: L).map Prod.fst))
    | false => callC P sh f (args.map fun x => (givT h x).1) (over ((p :: L).map fun p => (p.1, AObj.gone)) h) fr
        (fun r u rd => K r (u ++ (p :: L).map fun p => (p.1, AObj.gone)) (rd ++ (p :: L).map Prod.fst)))
/-- A call of a Go function. -/
def callV (f : FuncId) (args : List TV) (h : Nat → AObj) (fr : Nat) (K : TV → AHeap → List Nat → Prop) : Prop :=
  match mutB (sh f) with
  | true => callC P sh f args h fr K
  | false => callL P sh f args h fr K
end

section
variable {P : Program} {sh : FuncId → List Sh} {f : FuncId} {args : List TV} {h : Nat → AObj} {fr : Nat} {K K' : TV → AHeap → List Nat → Prop}

theorem all2_refl : ∀ {l : List TV}, All2 TV.Le l l
  | [] => trivial
  | x :: _ => ⟨.refl x, all2_refl⟩
theorem map_ren_ids {ids : List Nat} {fr : Nat} {args : List TV} (h : args.all (TV.inn ids) = true) : (args.map (TV.ren (inv ids))).map (TV.ren (sub ids fr)) = args ∧ (args.map (TV.ren (inv ids))).all (TV.lt ids.length) = true :=
  map_ren (fun _ hx => TV.ren_inv hx) h
theorem map_lend_nil (l : List TV) : l.map (TV.lend []) = l := by
  have : TV.lend [] = id := by
    funext x
    have hw : ∀ y : WV, y.lend [] = y := fun y => by
      cases y with
      | a y => cases y <;> rfl
      | fn f a b => rfl
    cases x with
    | any => rfl
    | c x => simp only [TV.lend, hw, id]
    | agg cs => simp only [TV.lend, id, show WV.lend [] = id from funext hw, List.map_id]
    | tup vs => rfl
  rw [this, List.map_id]
theorem objs_ren_ids {ids : List Nat} {fr : Nat} : ∀ {l : List Nat}, (l.all fun o => liveB (h o) && (h o).inn ids) = true →
    ((l.map fun o => (h o).ren (inv ids)).map (AObj.ren (sub ids fr)) = l.map h ∧ (l.map fun o => (h o).ren (inv ids)).all (AObj.lt ids.length) = true) ∧ ∀ i ∈ l, isLive (h i)
  | [], _ => ⟨⟨rfl, rfl⟩, fun _ hi => by cases hi⟩
  | o :: l, hl => by
    simp only [List.all_cons, Bool.and_eq_true] at hl
    have h1 := AObj.ren_inv (fr := fr) hl.1.2
    have h2 := objs_ren_ids (fr := fr) (l := l) hl.2
    refine ⟨⟨by simp only [List.map_cons, h1.1, h2.1.1], by simp only [List.map_cons, List.all_cons, h1.2, h2.1.2, Bool.and_self]⟩, fun i hi => ?_⟩
    rcases List.mem_cons.1 hi with rfl | hi
    · exact liveB_iff hl.1.1
    · exact h2.2 i hi

theorem callC_inv (hc : callC P sh f args h fr K) : CallK P f args h fr K := by
  unfold callC at hc
  generalize reach h 200 (args.flatMap TV.ids) [] = ids at hc
  simp only at hc
  split at hc
  · rename_i hb
    simp only [Bool.and_eq_true] at hb
    obtain ⟨⟨⟨h1, h2⟩, h3⟩, h0⟩ := hb
    have h0 : ∀ i ∈ ids, i < fr := fun i hi => Nat.le_of_ble_eq_true (List.all_eq_true.1 h0 i hi)
    have ha := map_ren_ids (fr := fr) h3
    have ho := objs_ren_ids (fr := fr) h2
    split at hc
    · obtain ⟨S, x, hac, hc⟩ := altV_inv hc
      split at hc
      · rename_i hlen
        refine ⟨ids, [], _, _, _, _, hac, ⟨nodupB_iff h1, h0⟩, Nat.le_of_ble_eq_true hlen, ho.1, ?_, ha.2, ho.2, .inl rfl, by simpa using hc⟩
        rw [map_lend_nil, ha.1]; exact all2_refl
      · exact hc.elim
    · obtain ⟨rs, ⟨hac, hk⟩, _⟩ := resV_inv hc
      refine ⟨ids, [], _, _, _, _, hac, ⟨nodupB_iff h1, h0⟩, by simp, ho.1, ?_, ha.2, ho.2, .inl rfl, ?_⟩
      · rw [map_lend_nil, ha.1]; exact all2_refl
      · rw [packV_ren, List.drop_eq_nil_of_le (by simp)]
        simpa [newObjs] using hk
  · exact hc.elim

theorem CallK.imp (hc : CallK P f args h fr K) (hk : ∀ r u rd, K r u rd → K' r u rd) : CallK P f args h fr K' := by
  obtain ⟨ids, L, args', Hs, r, Hs', h1, h2, h3, h4, h5, h6, h7, h8, h9⟩ := hc
  exact ⟨ids, L, args', Hs, r, Hs', h1, h2, h3, h4, h5, h6, h7, h8, hk _ _ _ h9⟩

theorem callL_inv (hc : callL P sh f args h fr K) : CallE P f args h fr K := by
  unfold callL at hc
  split at hc
  · refine ⟨[], (fun p hp => by cases hp), ?_⟩
    rw [map_lend_nil]
    have e : over (([] : Lent).map fun p => (p.1, AObj.gone)) h = h := by funext o; rfl
    rw [e]
    exact (callC_inv hc).imp fun r u rd hk => by simpa using hk
  · rename_i p L hL
    have hok : LentOK h (p :: L) := by rw [← hL]; exact lents_ok
    obtain ⟨hl, hc⟩ := asksA_inv hok (fun q hq => by rw [← hL]; exact hq) hc
    split at hc
    · rename_i hb
      simp only [Bool.and_eq_true] at hb
      obtain ⟨rs, ⟨hac, hlt, hk⟩, hs⟩ := resV_inv hc
      refine ⟨[], (fun p hp => by cases hp), ?_⟩
      rw [map_lend_nil]
      have e : over (([] : Lent).map fun p => (p.1, AObj.gone)) h = h := by funext o; rfl
      rw [e]
      refine ⟨[], p :: L, _, [], _, [], hac, ⟨.nil, fun _ hi => nomatch hi⟩, by simp, ⟨rfl, rfl⟩, ?_, hlt, (fun _ hi => nomatch hi), .inr ⟨hok.ok, (fun _ _ hi => nomatch hi), packV_scalar (hs hb.1.1), rfl⟩, ?_⟩
      · rw [hl]
        have : ∀ {l : List TV}, l.all (TV.lt 0) = true → l.map (TV.ren (sub [] fr)) = l := by
          intro l hl
          have key : ∀ x : TV, x.lt 0 = true → x.ren (sub [] fr) = x := by
            have ka : ∀ x : AV, x.lt 0 = true → x.ren (sub [] fr) = x := fun x hx => by cases x <;> simp_all [AV.lt, AV.ren]
            have kla : ∀ l : List AV, l.all (AV.lt 0) = true → l.map (AV.ren (sub [] fr)) = l := fun l hl => by
              induction l with
              | nil => rfl
              | cons x l ih => simp only [List.all_cons, Bool.and_eq_true] at hl; simp only [List.map_cons, ka x hl.1, ih hl.2]
            have klp : ∀ l : List (Bool × List AV), (l.all fun p => p.2.all (AV.lt 0)) = true → (l.map fun p => (p.1, p.2.map (AV.ren (sub [] fr)))) = l := fun l hl => by
              induction l with
              | nil => rfl
              | cons x l ih => simp only [List.all_cons, Bool.and_eq_true] at hl; simp only [List.map_cons, kla x.2 hl.1, ih hl.2]
            have kw : ∀ x : WV, x.lt 0 = true → x.ren (sub [] fr) = x := fun x hx => by
              cases x with
              | a x => simp only [WV.ren, ka x hx]
              | fn f a b => simp only [WV.lt, Bool.and_eq_true] at hx; simp only [WV.ren, klp a hx.1, klp b hx.2]
            have klw : ∀ l : List WV, l.all (WV.lt 0) = true → l.map (WV.ren (sub [] fr)) = l := fun l hl => by
              induction l with
              | nil => rfl
              | cons x l ih => simp only [List.all_cons, Bool.and_eq_true] at hl; simp only [List.map_cons, kw x hl.1, ih hl.2]
            intro x hx
            cases x with
            | any => rfl
            | c x => simp only [TV.ren, kw x hx]
            | agg cs => simp only [TV.ren, klw cs hx]
            | tup vs =>
              simp only [TV.lt] at hx
              simp only [TV.ren]
              congr 1
              induction vs with
              | nil => rfl
              | cons x l ih => simp only [List.all_cons, Bool.and_eq_true] at hx; simp only [List.map_cons, klw x.2 hx.1, ih hx.2]
          induction l with
          | nil => rfl
          | cons x l ih => simp only [List.all_cons, Bool.and_eq_true] at hl; simp only [List.map_cons, key x hl.1, ih hl.2]
        rw [this hlt]; exact all2_refl
      · rw [packV_ren]; simpa [oldObjs, newObjs] using hk
    · refine ⟨p :: L, hok.ok, ?_⟩
      rw [hl]
      exact callC_inv hc
theorem callC_E (hc : callC P sh f args h fr K) : CallE P f args h fr K := by
  refine ⟨[], (fun p hp => by cases hp), ?_⟩
  rw [map_lend_nil]
  have e : over (([] : Lent).map fun p => (p.1, AObj.gone)) h = h := by funext o; rfl
  rw [e]
  exact (callC_inv hc).imp fun r u rd hk => by simpa using hk
theorem callV_inv (hc : callV P sh f args h fr K) : CallE P f args h fr K := by
  unfold callV at hc
  split at hc
  · exact callC_E hc
  · exact callL_inv hc
end

/-! ### Regions -/
section
variable (P : Program) (sh : FuncId → List Sh)

def softV (P : Program) (o : Oper) (fr : Nat) (ρ : Operand → TV) (h : Nat → AObj) (r : AR) (K : AR → Prop) : Prop :=
  match softA P o fr ρ h r with | ⟨v, u, d⟩ => K ⟨v, u, d⟩
def stepV (fr : Nat) (o : Oper) (e : Env) (h : AHeap) (tr : Track) (next : Env → AHeap → Track → Prop) : Prop :=
  match goCall o.op with
  | some c =>
    match calleeOf (ev e) c with
    | some (f, args) => callV P sh f args (hook h) fr fun r h' ids => next (putE o.dst r e) (h' ++ h) ((ids, h'.map Prod.fst) :: tr)
    | none => False
  | none => opV P o fr (ev e) (hook h) fun r => softV P o fr (ev e) (hook h) r fun r => next (putE o.dst r.val e) (r.upd ++ h) ((r.rd, r.upd.map Prod.fst) :: tr)

def lexV (ops : Array Oper) (nx : Nat) : List Oper → Nat → Env → AHeap → Track → (Env → AHeap → Track → Prop) → Prop
  | [], _, e, h, tr, K => K e h tr
  | o :: rest, i, e, h, tr, K => match o.guard with
    | none => stepV P sh (nx + 32 * i) o e h tr fun e h tr => lexV ops nx rest (i + 1) e h tr K
    | some (j, b) => match (ops[j]?).bind (·.dst) with
      | none => False
      | some d => match look e d with
        | .c (.a (.fz (.bool x))) =>
          match b with
          | true => br x (stepV P sh (nx + 32 * i) o ((d, bV true) :: e) h tr fun e h tr => lexV ops nx rest (i + 1) e h tr K)
              (lexV ops nx rest (i + 1) (putE o.dst (.tup []) ((d, bV false) :: e)) h (([], []) :: tr) K)
          | false => br x (lexV ops nx rest (i + 1) (putE o.dst (.tup []) ((d, bV true) :: e)) h (([], []) :: tr) K)
              (stepV P sh (nx + 32 * i) o ((d, bV false) :: e) h tr fun e h tr => lexV ops nx rest (i + 1) e h tr K)
        | .tup [] => lexV ops nx rest (i + 1) (putE o.dst (.tup []) e) h (([], []) :: tr) K
        | _ => False
end

section
variable {P : Program} {sh : FuncId → List Sh}

theorem CallE.imp {f : FuncId} {args : List TV} {h : Nat → AObj} {fr : Nat} {K K' : TV → AHeap → List Nat → Prop} (hc : CallE P f args h fr K) (hk : ∀ r u rd, K r u rd → K' r u rd) : CallE P f args h fr K' := by
  obtain ⟨E, hE, hc⟩ := hc
  exact ⟨E, hE, hc.imp fun r u rd h => hk _ _ _ h⟩
theorem ev_look {e e' : Env} (h : look e = look e') : ev e = ev e' := by funext x; cases x <;> simp only [ev, h]
theorem look_put {e e' : Env} (h : look e = look e') (d : Option Nat) (v : TV) : look (putE d v e) = look (putE d v e') := by
  cases d with
  | none => exact h
  | some i => funext k; simp only [putE, look, h]
theorem look_same {e : Env} {d : Nat} {v : TV} (h : look e d = v) : look ((d, v) :: e) = look e := by
  funext k
  simp only [look]
  split
  · rename_i hk; rw [← hk, h]
  · rfl

theorem stepV_inv {fr : Nat} {o : Oper} {e e' : Env} {h : AHeap} {tr : Track} {next next' : Env → AHeap → Track → Prop} (he : look e = look e') (hs : stepV P sh fr o e h tr next)
    (hn : ∀ d v h1 tr1, next (putE d v e) h1 tr1 → next' (putE d v e') h1 tr1) : stepK P fr o e' h tr next' := by
  unfold stepV at hs
  unfold stepK
  rw [← ev_look he]
  cases hg : goCall o.op with
  | some c =>
    rw [hg] at hs
    simp only at hs ⊢
    cases hcl : calleeOf (ev e) c with
    | some fa => rw [hcl] at hs; simp only at hs ⊢; exact (callV_inv hs).imp fun r u rd hk => hn _ _ _ _ hk
    | none => rw [hcl] at hs; exact hs.elim
  | none =>
    rw [hg] at hs
    simp only at hs ⊢
    obtain ⟨r, hr, hk⟩ := opV_inv hs
    simp only [aopS, hr, Option.map_some]
    exact hn _ _ _ _ hk

theorem lexV_inv {ops : Array Oper} {nx : Nat} : ∀ {l : List Oper} {i : Nat} {e e' : Env} {h : AHeap} {tr : Track} {K : Env → AHeap → Track → Prop}, look e = look e' → lexV P sh ops nx l i e h tr K →
    lex P ops nx l i e' h tr fun e1 h1 tr1 => ∃ e2, look e2 = look e1 ∧ K e2 h1 tr1
  | [], _, _, _, _, _, _, he, hl => ⟨_, he, hl⟩
  | o :: rest, i, e, e', h, tr, K, he, hl => by
    unfold lexV at hl
    unfold lex guardK
    split at hl
    · rename_i hg
      simp only [want, hg, if_true]
      exact stepV_inv he hl fun d v h1 tr1 hk => lexV_inv (look_put he d v) hk
    · rename_i j b hg
      split at hl
      · exact hl.elim
      · rename_i d hd
        split at hl
        · rename_i x hx
          have hw : want ops o (look e') = some (x == b) := by
            simp only [want, hg, hd, Option.map_some, ← he, hx]
          simp only [hw]
          have hsame : ∀ y, x = y → look ((d, bV y) :: e) = look e' := fun y hy => by
            rw [← he]; exact look_same (by rw [hx, hy]; rfl)
          cases b with
          | true =>
            simp only at hl
            cases x with
            | true => simp only [br, beq_self_eq_true, if_true] at hl ⊢; exact stepV_inv (hsame _ rfl) hl fun d v h1 tr1 hk => lexV_inv (look_put (hsame _ rfl) d v) hk
            | false => simp only [br] at hl; exact lexV_inv (look_put (hsame _ rfl) _ _) hl
          | false =>
            simp only at hl
            cases x with
            | false => simp only [br, beq_self_eq_true, if_true] at hl ⊢; exact stepV_inv (hsame _ rfl) hl fun d v h1 tr1 hk => lexV_inv (look_put (hsame _ rfl) d v) hk
            | true => simp only [br] at hl; exact lexV_inv (look_put (hsame _ rfl) _ _) hl
        · rename_i hx
          have hw : want ops o (look e') = some false := by
            simp only [want, hg, hd, Option.map_some, ← he, hx]
          simp only [hw, Bool.false_eq_true, if_false]
          exact lexV_inv (look_put he _ _) hl
        · exact hl.elim
end
end Go.AM

namespace Go.AM

/-! ### Loops, a round at a time -/
def Code.lwp (P : Program) (c : Code) (Q : Exit → Act → World → Prop) (a : Act) (w : World) : Prop :=
  ∀ (b : Frame) (k : List Item) (cs : List Frame),
    ∃ e a' w', Q e a' w' ∧ Arrives P (lone (b.at a (.code c :: .inLoop c :: k)) cs w) b k cs e a' w'
theorem lwp_wp {P : Program} {c : Code} {Q : Exit → Act → World → Prop} {a : Act} {w : World} (h : Code.lwp P c Q a w) : (Code.loop c).wp P Q a w := fun b k cs => by
  obtain ⟨e, a', w', hq, harr⟩ := h b k cs
  exact ⟨e, a', w', hq, .of_steps (.one step_loop) harr⟩
theorem lwp_unroll {P : Program} {c : Code} {Q : Exit → Act → World → Prop} {a : Act} {w : World} (h : c.wp P (Exit.then (Code.lwp P c Q) Q) a w) : Code.lwp P c Q a w := fun b k cs => by
  obtain ⟨e, a₁, w₁, hq, harr⟩ := h b (.inLoop c :: k) cs
  cases e with
  | normal =>
    obtain ⟨e₂, a₂, w₂, hq₂, harr₂⟩ := hq b k cs
    exact ⟨e₂, a₂, w₂, hq₂, .of_steps (Steps.trans harr (.one step_inLoop)) harr₂⟩
  | exit id => exact ⟨_, a₁, w₁, hq, .pass (x := .inLoop c) rfl (fun _ _ => .inl (by simp)) harr⟩
  | goto l => exact ⟨_, a₁, w₁, hq, .pass (x := .inLoop c) rfl (fun _ _ => .inl (by simp)) harr⟩
  | ret => exact ⟨_, a₁, w₁, hq, .pass (x := .inLoop c) rfl (fun _ _ => .inl (by simp)) harr⟩
  | panic ch => exact ⟨_, a₁, w₁, hq, .pass (x := .inLoop c) rfl (fun _ _ => .inl (by simp)) harr⟩
  | outgrown => exact ⟨_, a₁, w₁, hq, .pass (x := .inLoop c) rfl (fun _ _ => .inl (by simp)) harr⟩
theorem lwp_mono {P : Program} {c : Code} {Q Q' : Exit → Act → World → Prop} {a : Act} {w : World} (h : Code.lwp P c Q a w) (hq : ∀ e a w, Q e a w → Q' e a w) : Code.lwp P c Q' a w :=
  fun b k cs => let ⟨e, a', w', q, r⟩ := h b k cs; ⟨e, a', w', hq _ _ _ q, r⟩

section
variable {P : Program} {n m : Nat} {c : Code} {Q : AExit → St → Prop} {s : St}
/-- At a loop's head. -/
def Alwp (P : Program) (n m : Nat) (c : Code) (Q : AExit → St → Prop) (s : St) : Prop :=
  ∀ (w0 : World) (foot Y : Nat → Prop) (pin : Nat → Option (Option Nat)) (β : Nat → Option Nat) (a : Act) (w : World), (∀ o b, pin o = some b → o < m) → a.tmps.size = n → RelF P w0 foot Y pin (look s.env) (hook s.heap) β a w → (∀ k, Occ pin β k → k < s.nx) →
    Code.lwp P c (Lift P w0 foot Y pin n Q) a w
theorem Alwp.loop (h : Alwp P n m c Q s) : Awp P n m (.loop c) Q s := fun w0 foot Y pin β a w hm hn hR hb => lwp_wp (h w0 foot Y pin β a w hm hn hR hb)
theorem Alwp.unroll (h : Awp P n m c (thenQ (Alwp P n m c Q) Q) s) : Alwp P n m c Q s := fun w0 foot Y pin β a w hm hn hR hb => by
  refine lwp_unroll (wp_mono (h w0 foot Y pin β a w hm hn hR hb) fun e a' w' hq => ?_)
  cases e with
  | normal => obtain ⟨s', β', h1, h2, h3, h4⟩ := hq; exact h1 w0 foot Y pin β' a' w' hm h2 h3 h4
  | exit i => exact hq
  | ret => exact hq
  | _ => exact hq.elim
theorem Alwp.weak {s' : St} (hs : Sle m s s') (h : Alwp P n m c Q s') : Alwp P n m c Q s := fun w0 foot Y pin _ a w hm hn hR _ =>
  let ⟨β', h1, h2⟩ := relF_sle hs hm hR
  h w0 foot Y pin β' a w hm hn h1 h2
theorem Awp.look {e1 e2 : Env} {h : AHeap} {nx : Nat} (he : look e1 = look e2) (hA : Awp P n m c Q ⟨e1, h, nx⟩) : Awp P n m c Q ⟨e2, h, nx⟩ := fun w0 foot Y pin β a w hm hn hR hb =>
  hA w0 foot Y pin β a w hm hn (by show RelF _ _ _ _ _ (Go.AM.look e1) _ _ _ _; rw [he]; exact hR) hb
/-- The same state by other words. -/
def eqQ (Q : AExit → St → Prop) (e : AExit) (s : St) : Prop := ∃ e2, Go.AM.look e2 = Go.AM.look s.env ∧ Q e ⟨e2, s.heap, s.nx⟩
theorem Awp.uneq (h : Awp P n m c (eqQ Q) s) : Awp P n m c Q s := fun w0 foot Y pin β a w hm hn hR hb => by
  refine wp_mono (h w0 foot Y pin β a w hm hn hR hb) fun e a' w' hq => ?_
  have key : ∀ x, At P w0 foot Y pin n (eqQ Q x) a' w' → At P w0 foot Y pin n (Q x) a' w' := by
    rintro x ⟨s', β', ⟨e2, h1, h2⟩, h3, h4, h5⟩
    exact ⟨_, β', h2, h3, by show RelF _ _ _ _ _ (Go.AM.look e2) _ _ _ _; rw [h1]; exact h4, h5⟩
  cases e with
  | normal => exact key _ hq
  | exit i => exact key _ hq
  | ret => exact key _ hq
  | _ => exact hq.elim
end

/-! ### Points -/
/-- The points of a code: 2 i: its region i; 2 i + 1: its block i, if that is a loop. -/
def pts : Code → List Nat
  | .region i _ _ => [2 * i]
  | .seq a b => pts a ++ pts b
  | .cond _ a b => pts a ++ pts b
  | .block i c => (2 * i + 1) :: pts c
  | .loop c => pts c
  | _ => []
def isLoop : Code → Bool | .loop _ => true | .rangeFunc .. => true | _ => false
/-- At the head of a loop, or of a range over a function. -/
def headA (P : Program) (n m : Nat) : Code → (AExit → St → Prop) → St → Prop
  | .loop c, Q, s => Alwp P n m c Q s
  | .rangeFunc g ps a b, Q, s => Awp P n m (.rangeFunc g ps a b) Q s
  | _, _, _ => False
theorem headA.weak {P : Program} {n m : Nat} {c : Code} {Q : AExit → St → Prop} {s s' : St} (hs : Sle m s s') (h : headA P n m c Q s') : headA P n m c Q s := by
  cases c with
  | loop c => exact Alwp.weak hs h
  | rangeFunc g ps a b => exact Awp.weak hs h
  | _ => exact h.elim
theorem headA.awp {P : Program} {n m : Nat} {c : Code} {Q : AExit → St → Prop} {s : St} (h : headA P n m c Q s) : Awp P n m c Q s := by
  cases c with
  | loop c => exact Alwp.loop h
  | rangeFunc g ps a b => exact h
  | _ => exact h.elim

/-- From the point p on. -/
def rz (P : Program) (n m : Nat) : Code → Nat → (AExit → St → Prop) → St → Prop
  | .region i ops d, p, Q, s => p = 2 * i ∧ Awp P n m (.region i ops d) Q s
  | .seq a b, p, Q, s => if (pts a).contains p then rz P n m a p (thenQ (Awp P n m b Q) Q) s else rz P n m b p Q s
  | .cond _ a b, p, Q, s => if (pts a).contains p then rz P n m a p Q s else rz P n m b p Q s
  | .block i c, p, Q, s => if p = 2 * i + 1 then headA P n m c (inBlockQ i Q) s else rz P n m c p (inBlockQ i Q) s
  | .loop c, p, Q, s => rz P n m c p (thenQ (Alwp P n m c Q) Q) s
  | _, _, _, _ => False

theorem rz_weak {P : Program} {n m : Nat} : ∀ {c : Code} {p : Nat} {Q : AExit → St → Prop} {s s' : St}, Sle m s s' → rz P n m c p Q s' → rz P n m c p Q s
  | .region i ops d, p, Q, s, s', hs, h => ⟨h.1, h.2.weak hs⟩
  | .seq a b, p, Q, s, s', hs, h => by
    unfold rz at h ⊢
    split
    · rename_i hc; rw [if_pos hc] at h; exact rz_weak hs h
    · rename_i hc; rw [if_neg hc] at h; exact rz_weak hs h
  | .cond x a b, p, Q, s, s', hs, h => by
    unfold rz at h ⊢
    split
    · rename_i hc; rw [if_pos hc] at h; exact rz_weak hs h
    · rename_i hc; rw [if_neg hc] at h; exact rz_weak hs h
  | .block i c, p, Q, s, s', hs, h => by
    unfold rz at h ⊢
    split
    · rename_i hc; rw [if_pos hc] at h; exact headA.weak hs h
    · rename_i hc; rw [if_neg hc] at h; exact rz_weak hs h
  | .loop c, p, Q, s, s', hs, h => by unfold rz at h ⊢; exact rz_weak hs h
  | .skip, _, _, _, _, _, h => h.elim
  | .rangeFunc .., _, _, _, _, _, h => h.elim
  | .exit _, _, _, _, _, _, h => h.elim
  | .scope _, _, _, _, _, _, h => h.elim
  | .label _, _, _, _, _, _, h => h.elim
  | .goto _, _, _, _, _, _, h => h.elim
  | .ret, _, _, _, _, _, h => h.elim
  | .refuse _, _, _, _, _, _, h => h.elim

/-- From point p of function f, in state s, the function hands back r and leaves the objects Hs'. -/
def RPt (P : Program) (f : FuncId) (m : Nat) (r : TV) (Hs' : List AObj) (p : Nat) (s : St) : Prop :=
  ∃ (fn : Func) (c : Code), P.funcs[f]? = some fn ∧ fn.body = some c ∧ rz P fn.ntmps m c p (Ret P fn.results.toList m r Hs') s

/-! ### From point to point -/
/-- Numbers behind a renumbering: the first m keep theirs (but for U, which are given up), the rest follow. -/
def invU (m : Nat) (rest : List Nat) (o : Nat) : Nat := match rest.contains o with | true => m + rest.idxOf o | false => o
def outU (m : Nat) (rest : List Nat) (o : Nat) : Nat := sub (List.range m ++ rest) 0 o
def okU (m : Nat) (U rest : List Nat) : Bool := nodupB rest && rest.all fun o => Nat.ble m o || U.contains o
def objsU (m : Nat) (U rest : List Nat) (h : Nat → AObj) : List AObj := ((List.range m).map fun o => match U.contains o with | true => AObj.gone | false => (h o).ren (invU m rest)) ++ rest.map fun o => (h o).ren (invU m rest)
def lvU (lv : List (Nat × List Nat)) : List Nat := match find2 lv 1000001 with | some l => l | none => []
theorem objsU_length {m : Nat} {U rest : List Nat} {h : Nat → AObj} : (objsU m U rest h).length = m + rest.length := by simp [objsU]
theorem outU_lt {m : Nat} {rest : List Nat} {o : Nat} (h : o < m) : outU m rest o = o := by
  simp only [outU, sub, List.length_append, List.length_range, show o < m + rest.length by omega, if_true, List.getD]
  rw [List.getElem?_append_left (by simpa using h), List.getElem?_range h]; rfl
theorem outU_ge {m : Nat} {rest : List Nat} {j o : Nat} (h : rest[j]? = some o) : outU m rest (m + j) = o := by
  have hj := (List.getElem?_eq_some_iff.1 h).1
  simp only [outU, sub, List.length_append, List.length_range, show m + j < m + rest.length by omega, if_true, List.getD]
  rw [List.getElem?_append_right (by simp), List.length_range, Nat.add_sub_cancel_left, h]; rfl
theorem backU {m : Nat} {U rest : List Nat} : Back (keep m U ++ rest) (invU m rest) (outU m rest) (m + rest.length) := by
  intro o ho
  unfold invU
  split
  · rename_i hc
    simp only [List.contains_eq_mem, decide_eq_true_eq] at hc
    have h1 : rest.idxOf o < rest.length := List.idxOf_lt_length_iff.2 hc
    refine ⟨by omega, outU_ge ?_⟩
    rw [List.getElem?_eq_getElem h1, List.getElem_idxOf h1]
  · rename_i hc
    have hk : o ∈ keep m U := by
      simp only [List.contains_eq_mem, decide_eq_true_eq, List.mem_append] at ho
      exact ho.resolve_right fun h => by simp [h] at hc
    have hm : o < m := by
      have := (List.mem_filter.1 hk).1
      simpa using this
    exact ⟨by omega, outU_lt hm⟩
theorem keep_mem {m : Nat} {U : List Nat} {o : Nat} : o ∈ keep m U ↔ o < m ∧ U.contains o = false := by simp [keep]
theorem objsU_get {m : Nat} {U rest : List Nat} {h : Nat → AObj} {j : Nat} {x : AObj} (hx : (objsU m U rest h)[j]? = some x) (hl : isLive x) :
    j < m + rest.length ∧ x = (h (outU m rest j)).ren (invU m rest) ∧ ((j ∈ keep m U ∧ outU m rest j = j) ∨ (m ≤ j ∧ rest[j - m]? = some (outU m rest j))) := by
  have hlt := (List.getElem?_eq_some_iff.1 hx).1
  rw [objsU_length] at hlt
  refine ⟨hlt, ?_⟩
  by_cases hj : j < m
  · unfold objsU at hx
    rw [List.getElem?_append_left (by simpa using hj), List.getElem?_map, List.getElem?_range hj] at hx
    simp only [Option.map_some, Option.some.injEq] at hx
    rw [outU_lt hj]
    split at hx
    · subst hx; exact hl.elim
    · rename_i hu
      exact ⟨hx.symm, .inl ⟨keep_mem.2 ⟨hj, by simpa using hu⟩, rfl⟩⟩
  · unfold objsU at hx
    rw [List.getElem?_append_right (by simp; omega), List.length_map, List.length_range, List.getElem?_map] at hx
    obtain ⟨o, ho, rfl⟩ := Option.map_eq_some_iff.1 hx
    have := outU_ge (m := m) ho
    rw [show m + (j - m) = j by omega] at this
    rw [this]
    exact ⟨rfl, .inr ⟨by omega, ho⟩⟩
theorem objsU_inj {m : Nat} {U rest : List Nat} {h : Nat → AObj} (hok : okU m U rest = true) {j j' : Nat} {x x' : AObj} (hx : (objsU m U rest h)[j]? = some x) (hl : isLive x) (hx' : (objsU m U rest h)[j']? = some x') (hl' : isLive x')
    (e : outU m rest j = outU m rest j') : j = j' := by
  simp only [okU, Bool.and_eq_true, List.all_eq_true, Bool.or_eq_true] at hok
  have apart : ∀ o, o ∈ keep m U → o ∈ rest → False := fun o h1 h2 => by
    have h1 := keep_mem.1 h1
    rcases hok.2 o h2 with h3 | h3
    · have := Nat.le_of_ble_eq_true h3; omega
    · rw [h1.2] at h3; cases h3
  obtain ⟨_, _, g⟩ := objsU_get hx hl
  obtain ⟨_, _, g'⟩ := objsU_get hx' hl'
  rcases g with ⟨g1, g2⟩ | ⟨g1, g2⟩ <;> rcases g' with ⟨g1', g2'⟩ | ⟨g1', g2'⟩
  · rw [← g2, e, g2']
  · exact (apart _ g1 (by rw [← g2, e]; exact List.mem_of_getElem? g2')).elim
  · exact (apart _ g1' (by rw [← g2', ← e]; exact List.mem_of_getElem? g2)).elim
  · rw [e] at g2
    have := nodup_get (nodupB_iff hok.1) g2 g2'
    omega
theorem objsU_mem {m : Nat} {U rest : List Nat} {h : Nat → AObj} {j : Nat} {x : AObj} (hx : (objsU m U rest h)[j]? = some x) (hl : isLive x) : outU m rest j ∈ keep m U ++ rest := by
  rcases (objsU_get hx hl).2.2 with ⟨g1, g2⟩ | ⟨_, g2⟩
  · rw [g2]; exact List.mem_append_left _ g1
  · exact List.mem_append_right _ (List.mem_of_getElem? g2)
def gotoV (m : Nat) (lv : List (Nat × List Nat)) (G : Nat → St → Prop) (p : Nat) (s : St) : Prop :=
  match find2 lv p with
  | none => False
  | some live => match reachU m (lvU lv) (hook s.heap) (live.flatMap fun t => (look s.env t).ids) with
    | rest => match okU m (lvU lv) rest && (keep m (lvU lv) ++ rest).all (fun o => (hook s.heap o).inn (keep m (lvU lv) ++ rest)) && live.all (fun t => (look s.env t).inn (keep m (lvU lv) ++ rest)) with
      | true => G p ⟨live.map fun t => (t, (look s.env t).ren (invU m rest)), objHeap 0 (objsU m (lvU lv) rest (hook s.heap)), m + rest.length⟩
      | false => False

theorem objHeap_mem : ∀ {l : List AObj} {k : Nat} {p : Nat × AObj}, p ∈ objHeap k l → ∃ j, p.1 = k + j ∧ l[j]? = some p.2
  | [], _, _, hp => by cases hp
  | o :: l, k, p, hp => by
    rcases List.mem_cons.1 hp with rfl | hp
    · exact ⟨0, rfl, rfl⟩
    · obtain ⟨j, h1, h2⟩ := objHeap_mem hp
      exact ⟨j + 1, by omega, by simpa using h2⟩
theorem lend_nil_T (x : TV) : x.lend [] = x := by
  have := map_lend_nil [x]
  simpa using this
theorem lend_nil_O (x : AObj) : x.lend [] = x := by
  have hw : ∀ y : WV, y.lend [] = y := fun y => by
    have := lend_nil_T (.c y); simp only [TV.lend, TV.c.injEq] at this; exact this
  cases x with
  | arr n es => simp only [AObj.lend, show WV.lend [] = id from funext hw, List.map_id, List.map_id']
  | _ => rfl
theorem gotoV_inv {m : Nat} {lv : List (Nat × List Nat)} {G : Nat → St → Prop} {p : Nat} {s : St} (hg : gotoV m lv G p s) : ∃ s', Sle m s s' ∧ G p s' := by
  unfold gotoV at hg
  split at hg
  · exact hg.elim
  · rename_i live hlv
    generalize reachU _ _ _ _ = rest at hg
    generalize lvU lv = U at hg
    simp only at hg
    split at hg
    · rename_i hb
      simp only [Bool.and_eq_true] at hb
      obtain ⟨⟨h1, h2⟩, h3⟩ := hb
      refine ⟨_, ⟨outU m rest, [], (fun p hp => by cases hp), Nat.le_add_right _ _, fun o ho => outU_lt ho, fun q hq => ?_, fun q hq hl => ?_, fun q hq q' hq' hl hl' e => ?_⟩, hg⟩
      · obtain ⟨t, ht, rfl⟩ := List.mem_map.1 hq
        have := TV.renV (backU (m := m) (U := U) (rest := rest)) (List.all_eq_true.1 h3 t ht)
        rw [lend_nil_T]
        exact ⟨by rw [this.1]; exact .refl _, this.2⟩
      · obtain ⟨j, e1, e2⟩ := objHeap_mem hq
        obtain ⟨g1, g2, _⟩ := objsU_get e2 hl
        have := AObj.renV (backU (m := m) (U := U) (rest := rest)) (List.all_eq_true.1 h2 _ (objsU_mem e2 hl))
        rw [Nat.zero_add] at e1
        rw [e1, g2]
        exact ⟨g1, by rw [lend_nil_O, this.1], this.2, (fun q hq => by cases hq)⟩
      · obtain ⟨j, e1, e2⟩ := objHeap_mem hq
        obtain ⟨j', e1', e2'⟩ := objHeap_mem hq'
        rw [Nat.zero_add] at e1 e1'
        rw [e1, e1'] at e ⊢
        exact objsU_inj h1 e2 hl e2' hl' e
    · exact hg.elim

/-! ### Returns -/
/-- Slices of the call's own that are handed back are given up, but where 'own' says that they are the caller's. -/
def retV (P : Program) (own : Bool) (rl : List ResultVar) (m : Nat) (U : List Nat) (R : TV → List AObj → Prop) (s : St) : Prop :=
  match resAs P s rl with
  | none => False
  | some rs => match own with
    | false => asksA (hook s.heap) rs (match reachU m U (hook s.heap) ((rs.map fun x => (givT (hook s.heap) x).1).flatMap TV.ids) with
      | rest => match okU m U rest && (keep m U ++ rest).all (fun o => (hook s.heap o).inn (keep m U ++ rest)) && (rs.map fun x => (givT (hook s.heap) x).1).all (TV.inn (keep m U ++ rest)) && (rs.flatMap (lentT (hook s.heap))).all (fun p => !(keep m U ++ rest).contains p.1) with
        | true => match packA ((rs.map fun x => (givT (hook s.heap) x).1).map (TV.ren (invU m rest))) with
          | some r0 => R r0 (objsU m U rest (hook s.heap))
          | none => False
        | false => False)
    | true => match reachU m U (hook s.heap) (rs.flatMap TV.ids) with
      | rest => match okU m U rest && (keep m U ++ rest).all (fun o => (hook s.heap o).inn (keep m U ++ rest)) && rs.all (TV.inn (keep m U ++ rest)) with
        | true => match packA (rs.map (TV.ren (invU m rest))) with
          | some r0 => R r0 (objsU m U rest (hook s.heap))
          | none => False
        | false => False

theorem lend_inn {ids : List Nat} {E : Lent} (hd : ∀ p ∈ E, p.1 ∉ ids) {x : AObj} (hx : x.inn ids = true) : x.lend E = x := by
  have hw : ∀ y : WV, y.inn ids = true → y.lend E = y := fun y hy => by
    cases y with
    | fn f a b => rfl
    | a y => cases y with
      | osl o n off len =>
        simp only [WV.inn, AV.inn, List.contains_eq_mem, decide_eq_true_eq] at hy
        simp only [WV.lend, AV.lend]
        rw [find2_none]
        intro p hp e
        exact hd p hp (e ▸ hy)
      | _ => rfl
  cases x with
  | arr n es =>
    simp only [AObj.inn, List.all_eq_true] at hx
    simp only [AObj.lend]
    congr 1
    conv => rhs; rw [← List.map_id es]
    refine List.map_congr_left fun e he => ?_
    conv => rhs; rw [id, ← List.map_id e]
    exact List.map_congr_left fun y hy => hw y (hx e he y hy)
  | _ => rfl

theorem all2_mapmap {α β γ : Type} {R : α → β → Prop} {f : γ → α} {g : γ → β} : ∀ {l : List γ}, (∀ x ∈ l, R (f x) (g x)) → All2 R (l.map f) (l.map g)
  | [], _ => trivial
  | x :: _, h => ⟨h x List.mem_cons_self, all2_mapmap fun y hy => h y (List.mem_cons_of_mem _ hy)⟩
theorem all2_map1 {α β : Type} {R : α → β → Prop} {g : α → β} : ∀ {l : List α}, (∀ x ∈ l, R x (g x)) → All2 R l (l.map g)
  | [], _ => trivial
  | x :: _, h => ⟨h x List.mem_cons_self, all2_map1 fun y hy => h y (List.mem_cons_of_mem _ hy)⟩

theorem ret_core {P : Program} {rl : List ResultVar} {m : Nat} {U : List Nat} {r r0 : TV} {s : St} {rs rs1 : List TV} {E : Lent} {rest : List Nat} (hrs : resAs P s rl = some rs) (hl : rs.map (TV.lend E) = rs1) (hE : E.ok (hook s.heap)) (h1 : okU m U rest = true)
    (h2 : ((keep m U ++ rest).all fun o => (hook s.heap o).inn (keep m U ++ rest)) = true) (h3 : rs1.all (TV.inn (keep m U ++ rest)) = true)
    (hdis : ∀ p ∈ E, p.1 ∉ keep m U ++ rest) (hr0 : packA (rs1.map (TV.ren (invU m rest))) = some r0) (hle : TV.Le r0 r) : RetOK P rl m r (objsU m U rest (hook s.heap)) s := by
  refine ⟨rs, _, outU m rest, E, r0, hrs, hr0, hle, hE, ?_, fun o ho => outU_lt ho, fun q hq hl => ?_, fun q hq q' hq' hl hl' e => ?_⟩
  · rw [← hl, List.map_map]
    refine all2_map1 fun x hx => ?_
    have hx2 : (x.lend E).inn (keep m U ++ rest) = true := by
      rw [← hl] at h3
      exact List.all_eq_true.1 h3 _ (List.mem_map.2 ⟨x, hx, rfl⟩)
    have := TV.renV (backU (m := m) (U := U) (rest := rest)) hx2
    simp only [Function.comp, objsU_length]
    exact ⟨by rw [this.1]; exact .refl _, this.2⟩
  · obtain ⟨j, e1, e2⟩ := objHeap_mem hq
    obtain ⟨g1, g2, _⟩ := objsU_get e2 hl
    have hmem := objsU_mem e2 hl
    have hinn := List.all_eq_true.1 h2 _ hmem
    have := AObj.renV (backU (m := m) (U := U) (rest := rest)) hinn
    rw [Nat.zero_add] at e1
    rw [e1, g2, objsU_length]
    exact ⟨g1, by rw [lend_inn hdis hinn, this.1], this.2, fun p hp e => hdis p hp (e ▸ hmem)⟩
  · obtain ⟨j, e1, e2⟩ := objHeap_mem hq
    obtain ⟨j', e1', e2'⟩ := objHeap_mem hq'
    rw [Nat.zero_add] at e1 e1'
    rw [e1, e1'] at e ⊢
    exact objsU_inj h1 e2 hl e2' hl' e

theorem retV_inv {P : Program} {own : Bool} {rl : List ResultVar} {m : Nat} {U : List Nat} {r : TV} {Hs' : List AObj} {s : St} (h : retV P own rl m U (fun r0 Hs0 => TV.Le r0 r ∧ Hs0 = Hs') s) : RetOK P rl m r Hs' s := by
  unfold retV at h
  split at h
  · exact h.elim
  · rename_i rs hrs
    split at h
    · obtain ⟨hl, h⟩ := asksA_inv (L := rs.flatMap (lentT (hook s.heap))) lents_ok (fun p hp => hp) h
      generalize reachU _ _ _ _ = rest at h
      simp only at h
      split at h
      · rename_i hb
        simp only [Bool.and_eq_true] at hb
        obtain ⟨⟨⟨h1, h2⟩, h3⟩, h5⟩ := hb
        have hdis : ∀ p ∈ rs.flatMap (lentT (hook s.heap)), p.1 ∉ keep m U ++ rest := fun p hp hm => by
          have := List.all_eq_true.1 h5 p hp
          simp only [Bool.not_eq_true', List.contains_eq_mem, decide_eq_false_iff_not] at this
          exact this hm
        split at h
        · rename_i r0 hr0
          obtain ⟨hle, rfl⟩ := h
          exact ret_core hrs hl lents_ok.ok h1 h2 h3 hdis hr0 hle
        · exact h.elim
      · exact h.elim
    · generalize reachU _ _ _ _ = rest at h
      simp only at h
      split at h
      · rename_i hb
        simp only [Bool.and_eq_true] at hb
        obtain ⟨⟨h1, h2⟩, h3⟩ := hb
        split at h
        · rename_i r0 hr0
          obtain ⟨hle, rfl⟩ := h
          exact ret_core (E := []) hrs (map_lend_nil rs) (fun p hp => by cases hp) h1 h2 h3 (fun p hp => by cases hp) hr0 hle
        · exact h.elim
      · exact h.elim

/-! ### Code -/
section
variable (P : Program) (sh : FuncId → List Sh) (n m : Nat) (lv : List (Nat × List Nat)) (G : Nat → St → Prop)

def regV (ops : Array Oper) (d : Bool) (K : AExit → St → Prop) (s : St) : Prop :=
  match dstB ops n with
  | true => lexV P sh ops s.nx ops.toList 0 s.env s.heap [] fun e h tr => match !d || drawB ops tr with
    | true => K .normal ⟨e, h, s.nx + 32 * ops.size⟩
    | false => False
  | false => False

def thenV (K1 : St → Prop) (K : AExit → St → Prop) : AExit → St → Prop
  | .normal, s => K1 s
  | e, s => K e s
def condV (x : Operand) (s : St) (A B : St → Prop) : Prop :=
  match ev s.env x with
  | .c (.a (.fz (.bool b))) => match x with
    | .tmp t => br b (A ⟨(t, bV true) :: s.env, s.heap, s.nx⟩) (B ⟨(t, bV false) :: s.env, s.heap, s.nx⟩)
    | _ => br b (A s) (B s)
  | _ => False

def runV : Code → (AExit → St → Prop) → St → Prop
  | .skip, K, s => K .normal s
  | .ret, K, s => K .ret s
  | .exit i, K, s => K (.exit i) s
  | .seq a b, K, s => runV a (thenV (runV b K) K) s
  | .cond x a b, K, s => condV x s (runV a K) (runV b K)
  | .block i c, K, s => match isLoop c with
    | true => gotoV m lv G (2 * i + 1) s
    | false => runV c (inBlockQ i K) s
  | .region i ops d, K, s => match (find2 lv (2 * i)).isSome with
    | true => gotoV m lv G (2 * i) s
    | false => regV P sh n ops d K s
  | _, _, _ => False

def resuV : Code → Nat → (AExit → St → Prop) → St → Prop
  | .region i ops d, p, K, s => match p == 2 * i with
    | true => regV P sh n ops d K s
    | false => False
  | .seq a b, p, K, s => match (pts a).contains p with
    | true => resuV a p (thenV (runV P sh n m lv G b K) K) s
    | false => resuV b p K s
  | .cond _ a b, p, K, s => match (pts a).contains p with
    | true => resuV a p K s
    | false => resuV b p K s
  | .block i c, p, K, s => match p == 2 * i + 1 with
    | true => match c with
      | .loop b => runV P sh n m lv G b (thenV (gotoV m lv G (2 * i + 1)) (inBlockQ i K)) s
      | _ => False
    | false => match c with
      | .loop b => resuV b p (thenV (gotoV m lv G (2 * i + 1)) (inBlockQ i K)) s
      | c => resuV c p (inBlockQ i K) s
  | _, _, _, _ => False
end

section
variable {P : Program} {sh : FuncId → List Sh} {n m : Nat} {lv : List (Nat × List Nat)} {G : Nat → St → Prop}

theorem lex_mono {P : Program} {ops : Array Oper} {nx : Nat} {K1 K2 : Env → AHeap → Track → Prop} (hk : ∀ e h tr, K1 e h tr → K2 e h tr) : ∀ {l : List Oper} {i : Nat} {e : Env} {h : AHeap} {tr : Track}, lex P ops nx l i e h tr K1 → lex P ops nx l i e h tr K2 := by
  intro l
  induction l with
  | nil => exact fun h => hk _ _ _ h
  | cons o rest ih =>
    intro i e h tr hl
    unfold lex guardK at hl ⊢
    split
    · rename_i hw; rw [hw] at hl; exact hl
    · rename_i w hw
      rw [hw] at hl
      simp only at hl
      split
      · rename_i hw1
        rw [if_pos hw1] at hl
        unfold stepK at hl ⊢
        cases hg : goCall o.op with
        | some c =>
          rw [hg] at hl
          simp only at hl ⊢
          cases hcl : calleeOf (ev e) c with
          | some fa => rw [hcl] at hl; simp only at hl ⊢; exact hl.imp fun r u rd hk => ih hk
          | none => rw [hcl] at hl; exact hl.elim
        | none =>
          rw [hg] at hl
          simp only at hl ⊢
          cases ha : aopS P o (nx + 32 * i) (ev e) (hook h) with
          | some r => rw [ha] at hl; simp only at hl ⊢; exact ih hl
          | none => rw [ha] at hl; exact hl.elim
      · rename_i hw1; rw [if_neg hw1] at hl; exact ih hl
theorem regV_inv (hP : P.follows .mixedOrders = true) {i : Nat} {ops : Array Oper} {d : Bool} {K Q : AExit → St → Prop} {s : St} (hk : ∀ e s, K e s → Q e s) (h : regV P sh n ops d K s) : Awp P n m (.region i ops d) Q s := by
  unfold regV at h
  split at h
  · rename_i hd
    refine Awp.uneq (Awp.region hP hd ?_)
    have h1 := lexV_inv rfl h
    refine lex_mono ?_ h1
    rintro e1 h1 tr1 ⟨e2, he, hk2⟩
    split at hk2
    · rename_i hb
      refine ⟨fun hd2 => ?_, e2, he, hk _ _ hk2⟩
      subst hd2; simpa using hb
    · exact hk2.elim
  · exact h.elim

/-- G stands for the points of c, behind which Q is wanted. -/
def GOK (P : Program) (n m : Nat) (G : Nat → St → Prop) (c : Code) (Q : AExit → St → Prop) : Prop := ∀ p s, p ∈ pts c → G p s → rz P n m c p Q s

theorem thenV_thenQ {K1 Q1 : St → Prop} {K Q : AExit → St → Prop} (h1 : ∀ s, K1 s → Q1 s) (h : ∀ e s, K e s → Q e s) : ∀ e s, thenV K1 K e s → thenQ Q1 Q e s := by
  intro e s hk
  cases e with
  | normal => exact h1 s hk
  | exit i => exact h _ s hk
  | ret => exact h _ s hk
theorem inBlock_mono {i : Nat} {K Q : AExit → St → Prop} (h : ∀ e s, K e s → Q e s) : ∀ e s, inBlockQ i K e s → inBlockQ i Q e s := by
  intro e s hk
  cases e with
  | normal => exact h _ s hk
  | exit j =>
    simp only [inBlockQ] at hk ⊢
    split
    · rename_i hj; rw [if_pos hj] at hk; exact h _ s hk
    · rename_i hj; rw [if_neg hj] at hk; exact h _ s hk
  | ret => exact h _ s hk
theorem GOK.left {a b : Code} {Q : AExit → St → Prop} (h : GOK P n m G (.seq a b) Q) : GOK P n m G a (thenQ (Awp P n m b Q) Q) := fun p s hp hg => by
  have := h p s (List.mem_append.2 (.inl hp)) hg
  unfold rz at this
  rwa [if_pos (by simpa using hp)] at this
theorem GOK.right {a b : Code} {Q : AExit → St → Prop} (hn : (pts (.seq a b)).Nodup) (h : GOK P n m G (.seq a b) Q) : GOK P n m G b Q := fun p s hp hg => by
  have := h p s (List.mem_append.2 (.inr hp)) hg
  unfold rz at this
  rwa [if_neg (by have := (List.nodup_append.1 hn).2.2; simp only [List.contains_eq_mem, decide_eq_true_eq]; exact fun h1 => this p h1 p hp rfl)] at this
theorem GOK.condL {x : Operand} {a b : Code} {Q : AExit → St → Prop} (h : GOK P n m G (.cond x a b) Q) : GOK P n m G a Q := fun p s hp hg => by
  have := h p s (List.mem_append.2 (.inl hp)) hg
  unfold rz at this
  rwa [if_pos (by simpa using hp)] at this
theorem GOK.condR {x : Operand} {a b : Code} {Q : AExit → St → Prop} (hn : (pts (.cond x a b)).Nodup) (h : GOK P n m G (.cond x a b) Q) : GOK P n m G b Q := fun p s hp hg => by
  have := h p s (List.mem_append.2 (.inr hp)) hg
  unfold rz at this
  rwa [if_neg (by have := (List.nodup_append.1 hn).2.2; simp only [List.contains_eq_mem, decide_eq_true_eq]; exact fun h1 => this p h1 p hp rfl)] at this
theorem GOK.block {i : Nat} {c : Code} {Q : AExit → St → Prop} (hn : (pts (.block i c)).Nodup) (h : GOK P n m G (.block i c) Q) : GOK P n m G c (inBlockQ i Q) := fun p s hp hg => by
  have := h p s (List.mem_cons_of_mem _ hp) hg
  unfold rz at this
  rwa [if_neg (fun e => by subst e; exact (List.nodup_cons.1 hn).1 hp)] at this
theorem GOK.loop {c : Code} {Q : AExit → St → Prop} (h : GOK P n m G (.loop c) Q) : GOK P n m G c (thenQ (Alwp P n m c Q) Q) := fun p s hp hg => by
  have := h p s hp hg
  unfold rz at this
  exact this
theorem GOK.head {i : Nat} {c : Code} {Q : AExit → St → Prop} (h : GOK P n m G (.block i c) Q) {s : St} (hg : gotoV m lv G (2 * i + 1) s) : headA P n m c (inBlockQ i Q) s := by
  obtain ⟨s', hs, hg⟩ := gotoV_inv hg
  have := h _ _ List.mem_cons_self hg
  unfold rz at this
  rw [if_pos rfl] at this
  exact headA.weak hs this

theorem runV_inv (hP : P.follows .mixedOrders = true) : ∀ {c : Code} {K Q : AExit → St → Prop} {s : St}, (pts c).Nodup → GOK P n m G c Q → (∀ e s, K e s → Q e s) → runV P sh n m lv G c K s → Awp P n m c Q s
  | .skip, K, Q, s, _, _, hk, h => Awp.skip (hk _ _ h)
  | .ret, K, Q, s, _, _, hk, h => Awp.ret (hk _ _ h)
  | .exit i, K, Q, s, _, _, hk, h => Awp.exit (hk _ _ h)
  | .seq a b, K, Q, s, hn, hG, hk, h => by
    have hn' := List.nodup_append.1 hn
    exact Awp.seq (runV_inv hP hn'.1 hG.left (thenV_thenQ (fun s hs => runV_inv hP hn'.2.1 (hG.right hn) hk hs) hk) h)
  | .cond x a b, K, Q, s, hn, hG, hk, h => by
    have hn' := List.nodup_append.1 hn
    unfold runV condV at h
    split at h
    · rename_i t ht
      split at h
      · rename_i tt
        have hsame : ∀ y, t = y → look ((tt, bV y) :: s.env) = look s.env := fun y hy => look_same (by simp only [ev] at ht; rw [ht, hy]; rfl)
        cases t with
        | true => exact Awp.cond ht (fun _ => Awp.look (hsame _ rfl) (runV_inv hP hn'.1 hG.condL hk h)) (fun e => by cases e)
        | false => exact Awp.cond ht (fun e => by cases e) (fun _ => Awp.look (hsame _ rfl) (runV_inv hP hn'.2.1 (hG.condR hn) hk h))
      · cases t with
        | true => exact Awp.cond ht (fun _ => runV_inv hP hn'.1 hG.condL hk h) (fun e => by cases e)
        | false => exact Awp.cond ht (fun e => by cases e) (fun _ => runV_inv hP hn'.2.1 (hG.condR hn) hk h)
    · exact h.elim
  | .block i c, K, Q, s, hn, hG, hk, h => by
    unfold runV at h
    split at h
    · rename_i hl
      exact Awp.block (hG.head h).awp
    · exact Awp.block (runV_inv hP (List.nodup_cons.1 hn).2 (hG.block hn) (inBlock_mono hk) h)
  | .region i ops d, K, Q, s, hn, hG, hk, h => by
    unfold runV at h
    split at h
    · obtain ⟨s', hs, hg⟩ := gotoV_inv h
      have := hG _ _ List.mem_cons_self hg
      exact this.2.weak hs
    · exact regV_inv hP hk h
  | .loop _, _, _, _, _, _, _, h => h.elim
  | .rangeFunc .., _, _, _, _, _, _, h => h.elim
  | .scope _, _, _, _, _, _, _, h => h.elim
  | .label _, _, _, _, _, _, _, h => h.elim
  | .goto _, _, _, _, _, _, _, h => h.elim
  | .refuse _, _, _, _, _, _, _, h => h.elim

theorem resuV_inv (hP : P.follows .mixedOrders = true) : ∀ {c : Code} {p : Nat} {K Q : AExit → St → Prop} {s : St}, (pts c).Nodup → GOK P n m G c Q → (∀ e s, K e s → Q e s) → resuV P sh n m lv G c p K s → rz P n m c p Q s
  | .region i ops d, p, K, Q, s, _, _, hk, h => by
    unfold resuV at h
    split at h
    · rename_i hp; exact ⟨by simpa using hp, regV_inv hP hk h⟩
    · exact h.elim
  | .seq a b, p, K, Q, s, hn, hG, hk, h => by
    have hn' := List.nodup_append.1 hn
    unfold resuV at h
    unfold rz
    split at h
    · rename_i hp; rw [if_pos hp]; exact resuV_inv hP hn'.1 hG.left (thenV_thenQ (fun s hs => runV_inv hP hn'.2.1 (hG.right hn) hk hs) hk) h
    · rename_i hp; rw [if_neg (by simp only [hp]; decide)]; exact resuV_inv hP hn'.2.1 (hG.right hn) hk h
  | .cond x a b, p, K, Q, s, hn, hG, hk, h => by
    have hn' := List.nodup_append.1 hn
    unfold resuV at h
    unfold rz
    split at h
    · rename_i hp; rw [if_pos hp]; exact resuV_inv hP hn'.1 hG.condL hk h
    · rename_i hp; rw [if_neg (by simp only [hp]; decide)]; exact resuV_inv hP hn'.2.1 (hG.condR hn) hk h
  | .block i c, p, K, Q, s, hn, hG, hk, h => by
    unfold resuV at h
    unfold rz
    split at h
    · rename_i hp
      rw [if_pos (by simpa using hp)]
      split at h
      · rename_i b
        have hn2 : (pts b).Nodup := (List.nodup_cons.1 hn).2
        exact (Alwp.unroll (runV_inv hP hn2 (GOK.loop (hG.block hn)) (thenV_thenQ (fun s hs => hG.head hs) (inBlock_mono hk)) h) : Alwp _ _ _ _ _ _)
      · exact h.elim
    · rename_i hp
      rw [if_neg (by simpa using hp)]
      split at h
      · rename_i b
        have hn2 : (pts b).Nodup := (List.nodup_cons.1 hn).2
        unfold rz
        exact resuV_inv hP hn2 (GOK.loop (hG.block hn)) (thenV_thenQ (fun s hs => hG.head hs) (inBlock_mono hk)) h
      · exact resuV_inv hP (List.nodup_cons.1 hn).2 (hG.block hn) (inBlock_mono hk) h
  | .skip, _, _, _, _, _, _, _, h => h.elim
  | .ret, _, _, _, _, _, _, _, h => h.elim
  | .exit _, _, _, _, _, _, _, _, h => h.elim
  | .loop _, _, _, _, _, _, _, _, h => h.elim
  | .rangeFunc .., _, _, _, _, _, _, _, h => h.elim
  | .scope _, _, _, _, _, _, _, _, h => h.elim
  | .label _, _, _, _, _, _, _, _, h => h.elim
  | .goto _, _, _, _, _, _, _, _, h => h.elim
  | .refuse _, _, _, _, _, _, _, _, h => h.elim
end

/-! ### Functions -/
def endV (P : Program) (own : Bool) (rl : List ResultVar) (m : Nat) (U : List Nat) (R : TV → List AObj → Prop) : AExit → St → Prop
  | .exit _, _ => False
  | _, s => retV P own rl m U R s

/-- From the entry. -/
def vcE (P : Program) (sh : FuncId → List Sh) (lv : List (Nat × List Nat)) (f : FuncId) (args : List TV) (Hs : List AObj) (R : TV → List AObj → Prop) (G : Nat → St → Prop) : Prop :=
  match P.funcs[f]? with
  | some fn => match fn.body with
    | some c => match enterable P f && Nat.ble args.length fn.ntmps && nodupB (pts c) with
      | true => runV P sh fn.ntmps Hs.length lv G c (endV P (ownB (sh f)) fn.results.toList Hs.length (lvU lv) R) ⟨argEnv 0 args, objHeap 0 Hs, Hs.length⟩
      | false => False
    | none => False
  | none => False
/-- From a point. -/
def vcP (P : Program) (sh : FuncId → List Sh) (lv : List (Nat × List Nat)) (f : FuncId) (m : Nat) (R : TV → List AObj → Prop) (G : Nat → St → Prop) (p : Nat) (s : St) : Prop :=
  match P.funcs[f]? with
  | some fn => match fn.body with
    | some c => match nodupB (pts c) with
      | true => resuV P sh fn.ntmps m lv G c p (endV P (ownB (sh f)) fn.results.toList m (lvU lv) R) s
      | false => False
    | none => False
  | none => False

section
variable {P : Program} {sh : FuncId → List Sh} {lv : List (Nat × List Nat)} {f : FuncId}

theorem endV_inv {own : Bool} {rl : List ResultVar} {m : Nat} {U : List Nat} {r : TV} {Hs' : List AObj} : ∀ e s, endV P own rl m U (fun r0 Hs0 => TV.Le r0 r ∧ Hs0 = Hs') e s → Ret P rl m r Hs' e s := by
  intro e s h
  cases e with
  | normal => exact retV_inv h
  | exit i => exact h
  | ret => exact retV_inv h

theorem gok_RPt {fn : Func} {c : Code} {m : Nat} {r : TV} {Hs' : List AObj} (hf : P.funcs[f]? = some fn) (hb : fn.body = some c) : GOK P fn.ntmps m (RPt P f m r Hs') c (Ret P fn.results.toList m r Hs') := by
  rintro p s _ ⟨fn', c', h1, h2, h3⟩
  rw [hf] at h1; injection h1 with h1; subst h1
  rw [hb] at h2; injection h2 with h2; subst h2
  exact h3

/-- A CONTRACT, from what the code asks. -/
theorem AC.vc (hP : P.follows .mixedOrders = true) (sh : FuncId → List Sh) (lv : List (Nat × List Nat)) {args : List TV} {Hs Hs' : List AObj} {r : TV} (hlen : Hs.length ≤ Hs'.length) (hlive : ∀ x ∈ Hs, isLive x) (hlive' : ∀ x ∈ Hs'.drop Hs.length, isLive x)
    (h : vcE P sh lv f args Hs (fun r0 Hs0 => TV.Le r0 r ∧ Hs0 = Hs') (RPt P f Hs.length r Hs')) : AC P f args Hs r Hs' := by
  unfold vcE at h
  split at h
  · rename_i fn hf
    split at h
    · rename_i c hc
      split at h
      · rename_i hb
        simp only [Bool.and_eq_true] at hb
        exact AC.intro hf hc rfl rfl hb.1.1 (Nat.le_of_ble_eq_true hb.1.2) hlen hlive hlive' (runV_inv hP (nodupB_iff hb.2) (gok_RPt hf hc) endV_inv h)
      · exact h.elim
    · exact h.elim
  · exact h.elim
/-- From a point on. -/
theorem RPt.vc (hP : P.follows .mixedOrders = true) (sh : FuncId → List Sh) (lv : List (Nat × List Nat)) {m : Nat} {Hs' : List AObj} {r : TV} {p : Nat} {s : St}
    (h : vcP P sh lv f m (fun r0 Hs0 => TV.Le r0 r ∧ Hs0 = Hs') (RPt P f m r Hs') p s) : RPt P f m r Hs' p s := by
  unfold vcP at h
  split at h
  · rename_i fn hf
    split at h
    · rename_i c hc
      split at h
      · rename_i hb
        exact ⟨fn, c, hf, hc, resuV_inv hP (nodupB_iff hb) (gok_RPt hf hc) endV_inv h⟩
      · exact h.elim
    · exact h.elim
  · exact h.elim
end
end Go.AM

namespace Go.AM

/-! ### Contracts, weakened -/
theorem AC.le {P : Program} {f : FuncId} {args args' : List TV} {Hs Hs' : List AObj} {r r' : TV} (h : AC P f args' Hs r Hs') (ha : All2 TV.Le args args') (hr : TV.Le r r') : AC P f args Hs r' Hs' := by
  refine ⟨h.1, h.2.1, fun w vals β Y h1 h2 hgl h3 h4 => ?_⟩
  refine (h.2.2 w vals β Y h1 h2 hgl h3 (all2_rep ha h4)).mono fun e w' ⟨v, β', h5, h6, h7, h8, h9⟩ => ?_
  exact ⟨v, β', h5, h6, h7, TRep.le hr h8, h9⟩
theorem AC.args {P : Program} {f : FuncId} {args args' : List TV} {Hs Hs' : List AObj} {r : TV} (h : AC P f args' Hs r Hs') (ha : All2 TV.Le args args') : AC P f args Hs r Hs' := h.le ha (.refl r)

/-- One object says more than another. -/
inductive OLe : AObj → AObj → Prop
  | refl (a : AObj) : OLe a a
  | rows (n : Nat) (fs gs : List (List FV)) : gs.length ≤ fs.length → (∀ (i : Nat) (e e' : List FV), fs[i]? = some e → gs[i]? = some e' → e.length = e'.length) →
      (∀ (i j : Nat) (e e' : List FV) (f f' : FV), fs[i]? = some e → gs[i]? = some e' → e[j]? = some f → e'[j]? = some f' → FV.Le f f') → OLe (.arz n fs) (.arz n gs)
theorem OLe.live {a b : AObj} (h : OLe a b) : isLive a ↔ isLive b := by cases h <;> exact Iff.rfl
theorem OLe.bare {a b : AObj} (h : OLe a b) (hb : bareO a) : bareO b := by
  cases h with
  | refl => exact hb
  | rows n fs gs hl _ _ =>
    obtain ⟨m, hm⟩ := hb
    simp only [flat, AObj.arr.injEq, List.map_eq_nil_iff] at hm
    have : gs = [] := List.eq_nil_of_length_eq_zero (by rw [hm.2] at hl; simpa using hl)
    exact ⟨n, by rw [this]; rfl⟩
theorem OLe.rep {w : World} {X : Nat → Prop} {β : Nat → Option Nat} {a b : AObj} {k : Nat} (h : OLe a b) (hr : ORep w X β a k) : ORep w X β b k := by
  cases h with
  | refl => exact hr
  | rows n fs gs hl he hf =>
    obtain ⟨us, t, h1, h2, h3, h4⟩ := hr
    have back : ∀ {i : Nat} {e' : List FV}, gs[i]? = some e' → ∃ e, fs[i]? = some e ∧ e.length = e'.length := by
      intro i e' he'
      have hi : i < fs.length := by have := (List.getElem?_eq_some_iff.1 he').1; omega
      exact ⟨fs[i], List.getElem?_eq_getElem hi, he i _ _ (List.getElem?_eq_getElem hi) he'⟩
    have hlen : gs.length * n ≤ fs.length * n := Nat.mul_le_mul_right _ hl
    refine ⟨us, t, h1, by simp only [List.length_map] at h2 ⊢; omega, fun e' he' => ?_, fun i j e' c' he' hc' => ?_⟩
    · obtain ⟨g, hg, rfl⟩ := List.mem_map.1 he'
      obtain ⟨i, hi⟩ := List.getElem?_of_mem hg
      obtain ⟨e, h5, h6⟩ := back hi
      have := h3 (fzs e) (List.mem_map.2 ⟨e, List.mem_of_getElem? h5, rfl⟩)
      simp only [fzs, List.length_map] at this ⊢
      rw [← h6]; exact this
    · rw [List.getElem?_map] at he'
      obtain ⟨g, hg, rfl⟩ := Option.map_eq_some_iff.1 he'
      rw [fzs, List.getElem?_map] at hc'
      obtain ⟨f', hf', rfl⟩ := Option.map_eq_some_iff.1 hc'
      obtain ⟨e, h5, h6⟩ := back hg
      have hj : j < e.length := by rw [h6]; exact (List.getElem?_eq_some_iff.1 hf').1
      have hej := List.getElem?_eq_getElem hj
      obtain ⟨u, hu, hr⟩ := h4 i j (fzs e) (cell e[j]) (by rw [List.getElem?_map, h5]; rfl) (by rw [fzs, List.getElem?_map, hej]; rfl)
      exact ⟨u, hu, WRep.le (.a _ _ (.fz _ _ (hf i j e g _ _ h5 hg hej hf'))) hr⟩
/-- A contract whose objects behind say less. -/
theorem AC.obj {P : Program} {f : FuncId} {args : List TV} {Hs Hs' Hs'' : List AObj} {r : TV} (h : AC P f args Hs r Hs') (ho : All2 OLe Hs' Hs'') : AC P f args Hs r Hs'' := by
  have len : ∀ {a b : List AObj}, All2 OLe a b → a.length = b.length := by
    intro a
    induction a with
    | nil => intro b h; cases b; · rfl
             · exact h.elim
    | cons x a ih => intro b h; cases b; · exact h.elim
                     · simp [ih h.2]
  have get : ∀ {a b : List AObj} (i : Nat), All2 OLe a b → OLe (a.getD i .gone) (b.getD i .gone) := by
    intro a
    induction a with
    | nil => intro b i h; cases b; · exact .refl _
             · exact h.elim
    | cons x a ih =>
      intro b i h
      cases b with
      | nil => exact h.elim
      | cons y b => cases i with
        | zero => exact h.1
        | succ i => exact ih (b := b) i h.2
  have hl := len ho
  refine ⟨h.1, by rw [← hl]; exact h.2.1, fun w vals β Y h1 h2 hgl h3 h4 => ?_⟩
  refine (h.2.2 w vals β Y h1 h2 hgl h3 h4).mono fun e w' ⟨v, β', k1, k2, k3, k4, k5, k6, k7⟩ => ?_
  have hown : Own (fun o => Hs''.getD o .gone) β' = Own (fun o => Hs'.getD o .gone) β' := by
    funext b
    exact propext ⟨fun ⟨o, a, c⟩ => ⟨o, (get o ho).live.2 a, c⟩, fun ⟨o, a, c⟩ => ⟨o, (get o ho).live.1 a, c⟩⟩
  refine ⟨v, β', k1, k2, ⟨fun o b a c => ?_, fun o a => ?_, fun o o' b a a' => k3.inj o o' b ((get o ho).live.2 a) ((get o' ho).live.2 a'), k3.lt⟩, by rw [hown]; exact k4, by rw [← hl]; exact k5, k6, k7⟩
  · rw [hown]; exact (get o ho).rep (k3.rep o b ((get o ho).live.2 a) c)
  · exact (k3.has o ((get o ho).live.2 a)).imp id fun ⟨p, q⟩ => ⟨(get o ho).bare p, q⟩

abbrev ci (n : Int) : TV := .c (.a (.fz (.int .i64 n)))
abbrev cb (b : Bool) : TV := .c (.a (.fz (.bool b)))
abbrev cs (s : List UInt8) : TV := .c (.a (.fz (.str s)))
abbrev c8 (n : Int) : TV := .c (.a (.fz (.int .u8 n)))

/-- Cell by cell. -/
def LeR : List FV → List FV → Prop
  | [], [] => True
  | x :: xs, y :: ys => FV.Le x y ∧ LeR xs ys
  | _, _ => False
theorem LeR.refl : ∀ l : List FV, LeR l l
  | [] => trivial
  | x :: l => ⟨.refl x, LeR.refl l⟩
theorem LeR.length : ∀ {a b : List FV}, LeR a b → a.length = b.length
  | [], [], _ => rfl
  | _ :: _, _ :: _, h => by simp [h.2.length]
  | [], _ :: _, h => h.elim
  | _ :: _, [], h => h.elim
theorem LeR.get : ∀ {a b : List FV}, LeR a b → ∀ (i : Nat) (x y : FV), a[i]? = some x → b[i]? = some y → FV.Le x y
  | [], [], _, i, x, y, hx, _ => by simp at hx
  | a :: as, b :: bs, h, i, x, y, hx, hy => by
    cases i with
    | zero => simp at hx hy; subst hx; subst hy; exact h.1
    | succ i => exact h.2.get i x y (by simpa using hx) (by simpa using hy)
theorem le_agg {a b : List FV} (h : LeR a b) : TV.Le (.agg (fzs a)) (.agg (fzs b)) := by
  refine .agg _ _ (by simp [fzs, h.length]) fun i x y hx hy => ?_
  rw [fzs, List.getElem?_map] at hx hy
  obtain ⟨x', hx', rfl⟩ := Option.map_eq_some_iff.1 hx
  obtain ⟨y', hy', rfl⟩ := Option.map_eq_some_iff.1 hy
  exact .a _ _ (.fz _ _ (h.get i x' y' hx' hy'))
theorem le_c {x y : FV} (h : FV.Le x y) : TV.Le (.c (.a (.fz x))) (.c (.a (.fz y))) := .c _ _ (.a _ _ (.fz _ _ h))

/-! ### Terms -/
inductive Tm where
  | mk (k : Int) (s : List UInt8) (n : Int) (l : List Tm)
  deriving Inhabited
namespace Tm
def k : Tm → Int | .mk k _ _ _ => k
def s : Tm → List UInt8 | .mk _ s _ _ => s
def n : Tm → Int | .mk _ _ n _ => n
def l : Tm → List Tm | .mk _ _ _ l => l
end Tm
mutual
def FT : Tm → List FV
  | .mk k s n l => [.int .i64 k, .str s, .int .i64 n, .sl false 4 (FTs l)]
def FTs : List Tm → List (List FV)
  | [] => []
  | t :: l => FT t :: FTs l
end
mutual
/-- How much there is in a term. -/
def Tm.sz : Tm → Nat
  | .mk _ _ _ l => 1 + Tm.szs l
def Tm.szs : List Tm → Nat
  | [] => 0
  | t :: l => Tm.sz t + Tm.szs l
end
theorem FTs_map : ∀ l : List Tm, FTs l = l.map FT
  | [] => rfl
  | t :: l => by simp only [FTs, List.map_cons, FTs_map l]
theorem FTs_length (l : List Tm) : (FTs l).length = l.length := by rw [FTs_map, List.length_map]
theorem FTs_append (a b : List Tm) : FTs (a ++ b) = FTs a ++ FTs b := by simp only [FTs_map, List.map_append]
theorem FT_length (t : Tm) : (FT t).length = 4 := by cases t; rfl
theorem FT_eta (t : Tm) : FT t = [.int .i64 t.k, .str t.s, .int .i64 t.n, .sl false 4 (FTs t.l)] := by cases t; rfl
theorem Tm.sz_pos (t : Tm) : 1 ≤ t.sz := by cases t; simp only [Tm.sz]; omega
theorem Tm.sz_eq (t : Tm) : t.sz = 1 + Tm.szs t.l := by cases t; rfl
mutual
/-- ... names and all. -/
def Tm.bk : Tm → Nat
  | .mk _ s _ l => 1 + s.length + Tm.bks l
def Tm.bks : List Tm → Nat
  | [] => 0
  | t :: l => Tm.bk t + Tm.bks l
end
mutual
theorem Tm.sz_bk : ∀ t : Tm, t.sz ≤ t.bk
  | .mk _ s _ l => by have := Tm.szs_bks l; simp only [Tm.sz, Tm.bk]; omega
theorem Tm.szs_bks : ∀ l : List Tm, Tm.szs l ≤ Tm.bks l
  | [] => Nat.le_refl _
  | t :: l => by have := Tm.sz_bk t; have := Tm.szs_bks l; simp only [Tm.szs, Tm.bks]; omega
end
theorem Tm.bks_mem : ∀ {l : List Tm} {t : Tm}, t ∈ l → t.bk ≤ Tm.bks l
  | x :: l, t, h => by
    rcases List.mem_cons.1 h with rfl | h
    · simp only [Tm.bks]; omega
    · have := Tm.bks_mem h; simp only [Tm.bks]; omega
theorem Tm.szs_mem : ∀ {l : List Tm} {t : Tm}, t ∈ l → t.sz ≤ Tm.szs l
  | x :: l, t, h => by
    rcases List.mem_cons.1 h with rfl | h
    · simp only [Tm.szs]; omega
    · have := Tm.szs_mem h; simp only [Tm.szs]; omega
theorem Tm.szs_append : ∀ (a b : List Tm), Tm.szs (a ++ b) = Tm.szs a + Tm.szs b
  | [], b => by simp [Tm.szs]
  | t :: a, b => by simp only [List.cons_append, Tm.szs, Tm.szs_append a b]; omega
theorem Tm.szs_length : ∀ l : List Tm, l.length ≤ Tm.szs l
  | [] => Nat.le_refl _
  | t :: l => by have := Tm.szs_length l; have := t.sz_pos; simp only [List.length_cons, Tm.szs]; omega
/-- By what is within. -/
theorem Tm.ind {P : Tm → Prop} (h : ∀ t, (∀ u ∈ t.l, P u) → P t) : ∀ t, P t := by
  have key : ∀ n t, t.sz ≤ n → P t := by
    intro n
    induction n with
    | zero => intro t ht; have := t.sz_pos; omega
    | succ n ih =>
      intro t ht
      refine h t fun u hu => ih u ?_
      have := Tm.szs_mem hu
      rw [Tm.sz_eq] at ht
      omega
  exact fun t => key _ t (Nat.le_refl _)

/-! An element in the middle. -/
theorem toNat_len (l : List Tm) : Int.toNat (l.length : Int) = l.length := by omega
theorem getD_mid (a : List Tm) (t : Tm) (b : List Tm) : List.getD (FTs (a ++ t :: b)) a.length [] = FT t := by
  rw [FTs_map]
  simp [List.getD]
theorem getD_i {l : List Tm} {i : Nat} (h : i < l.length) : List.getD (FTs l) i [] = FT l[i] := by
  rw [FTs_map]
  simp [List.getD, List.getElem?_map, List.getElem?_eq_getElem h]
/-- Numbers that are no greater than what lies in memory. -/
theorem w64 {x : Int} (h1 : -9223372036854775808 ≤ x) (h2 : x ≤ 9223372036854775807) : IntKind.wrap .i64 x = x := Go.IntWalk.i64_in _ ⟨h1, h2⟩
/-- How much there may be. -/
def B : Nat := 549755813888

theorem leFT {k n : Int} {s : List UInt8} {x : FV} {l : List Tm} (h : FV.Le x (.sl false 4 (FTs l))) : LeR [.int .i64 k, .str s, .int .i64 n, x] (FT (.mk k s n l)) := ⟨.refl _, .refl _, .refl _, h, trivial⟩
theorem leSl {b : Bool} {l : List Tm} : FV.Le (.sl b 4 (FTs l)) (.sl false 4 (FTs l)) := .nn _ _ _
theorem leNil : FV.Le .nils (.sl false 4 (FTs [])) := .nils 4
theorem leRows {b : Bool} {rows : List (List FV)} {l : List Tm} (hl : rows.length = l.length) (h : ∀ (i : Nat) (r : List FV) (t : Tm), rows[i]? = some r → l[i]? = some t → LeR r (FT t)) : FV.Le (.sl b 4 rows) (.sl false 4 (FTs l)) := by
  refine .trans _ (.sl b 4 (FTs l)) _ (.rows b 4 rows _ (by rw [FTs_length, hl]) (fun i e e' he he' => ?_) (fun i j e e' f f' he he' hf hf' => ?_)) leSl
  · rw [FTs_map, List.getElem?_map] at he'
    obtain ⟨t, ht, rfl⟩ := Option.map_eq_some_iff.1 he'
    exact (h i e t he ht).length
  · rw [FTs_map, List.getElem?_map] at he'
    obtain ⟨t, ht, rfl⟩ := Option.map_eq_some_iff.1 he'
    exact (h i e t he ht).get j f f' hf hf'

theorem midI (a : List Tm) (t : Tm) (b : List Tm) : List.getD (FTs (a ++ t :: b)) (Int.toNat (a.length : Int)) [] = FT t := by
  rw [show Int.toNat (a.length : Int) = a.length by omega, getD_mid]
theorem midI' (a a' : List Tm) (h : a.length = a'.length) (t : Tm) (b : List Tm) : List.getD (FTs (a' ++ t :: b)) (Int.toNat (a.length : Int)) [] = FT t := by rw [h, midI]
theorem nx {α : Type} (a : List α) (t : α) : (((a ++ [t]).length : Nat) : Int) = (a.length : Int) + 1 := by simp
theorem ap {α : Type} (a : List α) (t : α) (b : List α) : (a ++ [t]) ++ b = a ++ t :: b := by simp
theorem lenI (l : List Tm) : (((FTs l).length : Nat) : Int) = (l.length : Int) := by rw [FTs_length]
theorem ltI {α : Type} (a : List α) (t : α) (b : List α) : (a.length : Int) < (((a ++ t :: b).length : Nat) : Int) := by simp; omega
theorem ltI' (a : List Tm) (t : Tm) (b : List Tm) : (a.length : Int) < (((FTs (a ++ t :: b)).length : Nat) : Int) := by rw [FTs_length]; exact ltI a t b
theorem geI' (a : List Tm) : ¬ (a.length : Int) < (((FTs (a ++ [])).length : Nat) : Int) := by rw [FTs_length]; simp
theorem Tm.szs_mid (a : List Tm) (t : Tm) (b : List Tm) : Tm.szs (a ++ t :: b) = Tm.szs a + t.sz + Tm.szs b := by rw [Tm.szs_append]; simp only [Tm.szs]; omega
theorem len_szs (a b : List Tm) : a.length + b.length ≤ Tm.szs (a ++ b) := by have := Tm.szs_length (a ++ b); simpa using this

/-- A term as an argument, as a result. -/
abbrev aT (t : Tm) : TV := .agg [.a (.fz (.int .i64 t.k)), .a (.fz (.str t.s)), .a (.fz (.int .i64 t.n)), .a (.fz (.sl false 4 (FTs t.l)))]
abbrev cT (t : Tm) : List WV := [.a (.fz (.int .i64 t.k)), .a (.fz (.str t.s)), .a (.fz (.int .i64 t.n)), .a (.fz (.sl false 4 (FTs t.l)))]
/-- A row of cells, as a term's. -/
abbrev rE (r : List FV) : List FV := [.int .i64 (FV.asI (List.getD r 0 FV.nils)), .str (FV.asS (List.getD r 1 FV.nils)), .int .i64 (FV.asI (List.getD r 2 FV.nils)), List.getD r 3 FV.nils]
abbrev cE (r : List FV) : List WV := [.a (.fz (.int .i64 (FV.asI (List.getD r 0 FV.nils)))), .a (.fz (.str (FV.asS (List.getD r 1 FV.nils)))), .a (.fz (.int .i64 (FV.asI (List.getD r 2 FV.nils)))), .a (.fz (List.getD r 3 FV.nils))]
abbrev aE (r : List FV) : TV := .agg (cE r)
abbrev FT4 (t : Tm) : List FV := [.int .i64 t.k, .str t.s, .int .i64 t.n, .sl false 4 (FTs t.l)]
theorem aE_FT (t : Tm) : aE (FT t) = aT t := by cases t; rfl
theorem cE_FT (t : Tm) : cE (FT t) = cT t := by cases t; rfl
theorem rE_FT (t : Tm) : rE (FT t) = FT t := by cases t; rfl
theorem FT4_eq (t : Tm) : FT4 t = FT t := by cases t; rfl
theorem FTs_drop (n : Nat) (l : List Tm) : List.drop n (FTs l) = FTs (List.drop n l) := by rw [FTs_map, FTs_map, List.map_drop]
theorem FTs_take (n : Nat) (l : List Tm) : List.take n (FTs l) = FTs (List.take n l) := by rw [FTs_map, FTs_map, List.map_take]
theorem FTs_set (n : Nat) (l : List Tm) (t : Tm) : List.set (FTs l) n (FT t) = FTs (List.set l n t) := by rw [FTs_map, FTs_map, List.map_set]
theorem aE_mid (a : List Tm) (t : Tm) (b : List Tm) : aE (List.getD (FTs (a ++ t :: b)) (Int.toNat (a.length : Int)) []) = aT t := by
  rw [show List.getD (FTs (a ++ t :: b)) (Int.toNat (a.length : Int)) [] = FT t from by rw [show Int.toNat (a.length : Int) = a.length by omega, getD_mid]]; exact aE_FT t
theorem rE_mid (a : List Tm) (t : Tm) (b : List Tm) : rE (List.getD (FTs (a ++ t :: b)) (Int.toNat (a.length : Int)) []) = List.getD (FTs (a ++ t :: b)) (Int.toNat (a.length : Int)) [] := by
  rw [show List.getD (FTs (a ++ t :: b)) (Int.toNat (a.length : Int)) [] = FT t from by rw [show Int.toNat (a.length : Int) = a.length by omega, getD_mid]]; exact rE_FT t
theorem take_app (x y : List (List FV)) : List.take (x.length + y.length) (List.drop 0 (List.take x.length x ++ y)) = x ++ y := by
  rw [List.take_of_length_le (Nat.le_refl _), List.drop_zero]; exact List.take_of_length_le (by simp)
theorem take_cons (x : List FV) (y : List (List FV)) : List.take (1 + y.length) (List.drop 0 ([x] ++ y)) = x :: y := by
  rw [List.drop_zero]; exact List.take_of_length_le (by simp; omega)
theorem take_all (y : List (List FV)) : List.take y.length (List.drop 0 y) = y := by simp
/-- An operator. -/
structure Opd where
  nm : List UInt8
  pr : Int
  fx : Int
  deriving DecidableEq
def Opd.c (o : Opd) : List FV := [.str o.nm, .int .i64 o.pr, .int .i64 o.fx]
/-- A row of operators. -/
def OR (l : List Opd) : List (List FV) := l.map Opd.c
abbrev aO (o : Opd) : TV := .agg [.a (.fz (.str o.nm)), .a (.fz (.int .i64 o.pr)), .a (.fz (.int .i64 o.fx))]
abbrev aOs (l : List Opd) : TV := .c (.a (.fz (.sl false 3 (OR l))))
mutual
/-- Its numbers are of 64 bits. -/
def okI : Tm → Prop
  | .mk _ _ n l => (-9223372036854775808 ≤ n ∧ n ≤ 9223372036854775807) ∧ okIs l
def okIs : List Tm → Prop
  | [] => True
  | t :: l => okI t ∧ okIs l
end
theorem okIs_mem : ∀ {l : List Tm} {t : Tm}, okIs l → t ∈ l → okI t
  | x :: l, t, h, hm => by
    rcases List.mem_cons.1 hm with rfl | hm
    · exact h.1
    · exact okIs_mem h.2 hm
theorem okIs_of : ∀ {l : List Tm}, (∀ t ∈ l, okI t) → okIs l
  | [], _ => trivial
  | t :: l, h => ⟨h t List.mem_cons_self, okIs_of fun u hu => h u (List.mem_cons_of_mem _ hu)⟩
/-- What is known of a variable. -/
structure Inf where
  lv : Int
  bd : Bool
  v : Tm
def Inf.c (i : Inf) : List FV := [.int .i64 i.lv, .bool i.bd, .int .i64 i.v.k, .str i.v.s, .int .i64 i.v.n, .sl false 4 (FTs i.v.l)]
/-- A store's variables. -/
def SR (l : List Inf) : List (List FV) := l.map Inf.c
/-- A store: the variables, the trail. -/
structure Sto where
  V : List Inf
  T : List Int
/-- Rows of numbers. -/
def IR (l : List Int) : List (List FV) := l.map fun n => [.int .i64 n]
abbrev aL (l : List Tm) : TV := .c (.a (.fz (.sl false 4 (FTs l))))
theorem leT {k n : Int} {s : List UInt8} {x : FV} {l : List Tm} (h : FV.Le x (.sl false 4 (FTs l))) : TV.Le (.agg [.a (.fz (.int .i64 k)), .a (.fz (.str s)), .a (.fz (.int .i64 n)), .a (.fz x)]) (aT (.mk k s n l)) := le_agg (leFT h)
theorem ret_t {x y : Tm} (h : x = y) : TV.Le (aT x) (aT y) ∧ ([] : List AObj) = [] := ⟨by rw [h]; exact .refl _, rfl⟩
theorem Tm.eta (t : Tm) : Tm.mk t.k t.s t.n t.l = t := by cases t; rfl

/-! ### Ends -/
theorem ret_b {x y : Bool} (h : x = y) : TV.Le (cb x) (cb y) ∧ ([] : List AObj) = [] := ⟨by rw [h]; exact .refl _, rfl⟩
theorem ret_i {x y : Int} (h : x = y) : TV.Le (ci x) (ci y) ∧ ([] : List AObj) = [] := ⟨by rw [h]; exact .refl _, rfl⟩
theorem ret_s {x y : List UInt8} (h : x = y) : TV.Le (cs x) (cs y) ∧ ([] : List AObj) = [] := ⟨by rw [h]; exact .refl _, rfl⟩
theorem ret_r {x y : TV} (h : TV.Le x y) : TV.Le x y ∧ ([] : List AObj) = [] := ⟨h, rfl⟩
theorem br_if {b : Bool} {t f : Prop} (h : if b = true then t else f) : br b t f := by
  cases b
  · exact h
  · exact h
/-- A contract from a library contract over numbers and strings. -/
theorem AC.of_calls {P : Program} {f : FuncId} {args : List TV} {vals : List Value} {r : TV} {v : Value} (hen : enterable P f = true) (h : ∀ w, Calls P f vals.toArray w fun e w' => e = .returned v ∧ w' = w)
    (hv : ∀ (w : World) (X : Nat → Prop) (β : Nat → Option Nat) (us : List Value), LRep (TRep w X β) args us → us = vals) (hr : ∀ (w : World) (X : Nat → Prop) (β : Nat → Option Nat), TRep w X β r v) : AC P f args [] r [] := by
  refine ⟨hen, Nat.le_refl _, fun w us β Y h1 h2 _ h3 h4 => ?_⟩
  rw [hv _ _ _ _ h4]
  refine (h w).mono fun e w' ⟨he, hw⟩ => ?_
  subst hw
  exact ⟨v, β, he, Good.refl _ _, h3, hr _ _ _, h1, fun o ho => absurd ho (Nat.not_lt_zero _), fun o b _ hb => absurd (h1 o b hb) (Nat.not_lt_zero _)⟩
theorem AC.str_u8 {P : Program} {f : FuncId} {s : List UInt8} {c n : Int} (hen : enterable P f = true) (h : ∀ w, Calls P f #[.string ⟨s.toArray⟩, .int .u8 c] w fun e w' => e = .returned (.int .i64 n) ∧ w' = w) : AC P f [cs s, c8 c] [] (ci n) [] := by
  refine AC.of_calls (vals := [.string ⟨s.toArray⟩, .int .u8 c]) hen h (fun w X β us hu => ?_) (fun w X β => .a _ _ (.fz _ _ (.int _ _)))
  obtain ⟨u, us', rfl, h1, h2⟩ := hu.cons_inv
  obtain ⟨v, vs', rfl, h3, h4⟩ := h2.cons_inv
  rw [TRep.str_inv h1, TRep.int_inv h3, h4.nil_inv]
end Go.AM

namespace Go.AM
theorem rep_true {w : World} {X : Nat → Prop} {n : Nat} {es : List (List FV)} {v : Value} (h : FRep w X (.sl false n es) v) : (v = .slice none 0 0 ∧ es = []) ∨ FRep w X (.sl true n es) v := by
  cases h with
  | slnil => exact .inl ⟨rfl, rfl⟩
  | sl0 nn n a => exact .inr (.sl0 true n a)
  | sl nn n es b off cap len u h1 h2 h3 h4 h5 h6 h7 => exact .inr (.sl true n es b off cap len u h1 h2 h3 h4 h5 h6 h7)
theorem one_rep {w : World} {X : Nat → Prop} {β : Nat → Option Nat} {x : FV} {vals : List Value} (h : LRep (TRep w X β) [.c (.a (.fz x))] vals) : ∃ v, vals = [v] ∧ FRep w X x v := by
  obtain ⟨v, us, rfl, h1, h2⟩ := h.cons_inv
  obtain rfl := h2.nil_inv
  refine ⟨v, rfl, ?_⟩
  have h1 : WRep w X β (.a (.fz x)) v := h1
  cases h1 with
  | a _ _ h1 => cases h1 with
    | fz _ _ h1 => exact h1
theorem rep_one {w : World} {X : Nat → Prop} {β : Nat → Option Nat} {x : FV} {v : Value} (h : FRep w X x v) : LRep (TRep w X β) [.c (.a (.fz x))] [v] := .cons (.a _ _ (.fz _ _ h)) .nil
theorem AC.clone0 {P : Program} {f : FuncId} {n : Nat} (h0 : AC P f [.c (.a (.fz .nils))] [] (.c (.a (.fz .nils))) []) (h1 : AC P f [.c (.a (.fz (.sl true n [])))] [] (.c (.a (.osl 0 n 0 0))) [.arz n []]) :
    AC P f [.c (.a (.fz (.sl false n [])))] [] (.c (.a (.fz (.sl false n [])))) [] := by
  refine ⟨h0.1, by simp, fun w vals β Y g1 g2 gl g3 g4 => ?_⟩
  obtain ⟨v, rfl, hv⟩ := one_rep g4
  rcases rep_true hv with ⟨e, _⟩ | hv
  · subst e
    exact (h0.le (r' := .c (.a (.fz (.sl false n [])))) (all2_refl) (le_c (.nils n))).2.2 w [_] β Y g1 g2 gl g3 (rep_one .nils)
  · refine (h1.2.2 w [v] β Y g1 g2 gl g3 (rep_one hv)).mono fun e w' ⟨v', β', k1, k2, k3, k4, k5, k6, k7⟩ => ?_
    have none' : (fun b => Y b ∨ Own (fun o => ([] : List AObj).getD o .gone) (fun _ => none) b) = Y := by
      funext b
      refine propext ⟨fun h => h.elim id fun ⟨o, h, _⟩ => by simp [isLive] at h, .inl⟩
    refine ⟨v', fun _ => none, k1, k2, ⟨fun o b h => by simp [isLive] at h, fun o h => by simp [isLive] at h, fun o o' b h => by simp [isLive] at h, fun o b h => by cases h⟩, ?_, (fun o b h => by cases h), (fun o h => by simp at h), (fun o b _ h => by cases h)⟩
    rw [none']
    have k4 : WRep w' _ β' (.a (.osl 0 n 0 0)) v' := k4
    refine show WRep w' Y (fun _ => none) (.a (.fz (.sl false n []))) v' from ?_
    cases k4 with
    | a _ _ k4 => cases k4 with
      | oslN => exact .a _ _ (.fz _ _ (.slnil n))
      | osl o n off len b' q cap sz t p1 p2 p3 p4 p5 =>
        obtain ⟨kl, kY⟩ := k3.here (o := 0) (b := b') (by simp [isLive]) p1
        exact .a _ _ (.fz _ _ (.sl false n [] b' q cap 0 (fun _ _ => .bool false) rfl (Nat.zero_le _) kY kl (fun i e h => by simp at h) (fun i j e f h => by simp at h) (fun i j e f h => by simp at h)))
/-- ... up to so many. -/
theorem AC.clone_le {P : Program} {f : FuncId} {n M : Nat} (h0 : AC P f [.c (.a (.fz .nils))] [] (.c (.a (.fz .nils))) []) (h1 : ∀ es : List (List FV), es.length ≤ M → AC P f [.c (.a (.fz (.sl true n es)))] [] (.c (.a (.osl 0 n 0 es.length))) [.arz n es]) :
    (∀ es : List (List FV), es ≠ [] → es.length ≤ M → AC P f [.c (.a (.fz (.sl false n es)))] [] (.c (.a (.osl 0 n 0 es.length))) [.arz n es]) ∧ AC P f [.c (.a (.fz (.sl false n [])))] [] (.c (.a (.fz (.sl false n [])))) [] := by
  refine ⟨fun es hne hl => ⟨h0.1, by simp, fun w vals β Y g1 g2 gl g3 g4 => ?_⟩, (AC.clone0 h0 (h1 [] (Nat.zero_le _)))⟩
  obtain ⟨v, rfl, hv⟩ := one_rep g4
  rcases rep_true hv with ⟨_, e⟩ | hv
  · exact absurd e hne
  · exact (h1 es hl).2.2 w [v] β Y g1 g2 gl g3 (rep_one hv)
/-- A row that may be nil: from what is so of nil, and of what is not. -/
theorem AC.nil_or {P : Program} {f : FuncId} {n : Nat} {es : List (List FV)} {as : List TV} {Hs Hs' : List AObj} {r : TV} (h0 : es = [] → AC P f (.c (.a (.fz .nils)) :: as) Hs r Hs') (h1 : AC P f (.c (.a (.fz (.sl true n es))) :: as) Hs r Hs') :
    AC P f (.c (.a (.fz (.sl false n es))) :: as) Hs r Hs' := by
  refine ⟨h1.1, h1.2.1, fun w vals β Y g1 g2 gl g3 g4 => ?_⟩
  obtain ⟨v, us, rfl, k1, k2⟩ := g4.cons_inv
  have k1 : WRep w _ β (.a (.fz (.sl false n es))) v := k1
  cases k1 with
  | a _ _ k1 => cases k1 with
    | fz _ _ k1 =>
      rcases rep_true k1 with ⟨rfl, e⟩ | k1
      · exact (h0 e).2.2 w _ β Y g1 g2 gl g3 (.cons (.a _ _ (.fz _ _ .nils)) k2)
      · exact h1.2.2 w _ β Y g1 g2 gl g3 (.cons (.a _ _ (.fz _ _ k1)) k2)
end Go.AM
