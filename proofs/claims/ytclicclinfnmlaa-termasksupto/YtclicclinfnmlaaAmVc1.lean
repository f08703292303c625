/- Operations whose operands are not written out: what they ask, and what they come to, computed. Definitions, and that they say what the machine's operations do. No conditions. -/
import Derived.Test.YtclicclinfnmlaaAmIntro
namespace Go.AM

/-! ### What a frozen cell holds -/
def FV.asI : FV → Int | .int _ n => n | _ => 0
def FV.asB : FV → Bool | .bool b => b | _ => false
def FV.asS : FV → List UInt8 | .str l => l | _ => []
def FV.ses : FV → List (List FV) | .sl _ _ es => es | _ => []
def FV.isSl (n : Nat) : FV → Bool | .nils => true | .sl _ m _ => m == n | .z0 _ => true | _ => false
def FV.cut (x : FV) (lo hi : Nat) : FV := match x with | .sl b n es => .sl b n ((es.take hi).drop lo) | y => y
def FV.cut0 (x : FV) : FV := match x with | .sl b _ _ => .z0 b | y => y

/-- A row's cells, each of the kind that the zero value z has there. -/
def shp : List FV → Nat → List FV → List FV
  | [], _, _ => []
  | .int k _ :: z, j, r => .int k (r.getD j .nils).asI :: shp z (j + 1) r
  | .bool _ :: z, j, r => .bool (r.getD j .nils).asB :: shp z (j + 1) r
  | .str _ :: z, j, r => .str (r.getD j .nils).asS :: shp z (j + 1) r
  | _ :: z, j, r => r.getD j .nils :: shp z (j + 1) r
theorem shp_length : ∀ (z : List FV) (j : Nat) (r : List FV), (shp z j r).length = z.length
  | [], _, _ => rfl
  | x :: z, j, r => by cases x <;> simp only [shp, List.length_cons, shp_length z]

/-- Two ways. -/
def br (b : Bool) (t f : Prop) : Prop := match b with | true => t | false => f
theorem br_of {b : Bool} {t f : Prop} (h1 : b = true → t) (h2 : b = false → f) : br b t f := by
  cases b
  · exact h2 rfl
  · exact h1 rfl
theorem br_true {t f : Prop} : br true t f = t := rfl
theorem br_false {t f : Prop} : br false t f = f := rfl

def oK' (r : Option AR) (K : AR → Prop) : Prop := match r with | some r => K r | none => False
theorem oK'_inv {r : Option AR} {K : AR → Prop} (h : oK' r K) : ∃ x, r = some x ∧ K x := by
  cases r with
  | none => exact h.elim
  | some x => exact ⟨x, rfl, h⟩

def tyP (P : Program) (t : TypeId) (f : TyD → Prop) : Prop := match tyOf P t with | some d => f d | none => False
theorem tyP_inv {P : Program} {t : TypeId} {f : TyD → Prop} (h : tyP P t f) : ∃ d, tyOf P t = some d ∧ f d := by
  unfold tyP at h
  split at h
  · rename_i d hd; exact ⟨d, hd, h⟩
  · exact h.elim

/-! ### Slices that are given up -/
def fitsW (h : Nat → AObj) : WV → Prop
  | .a (.osl o n off len) => match h o with | .arz m fs => n = m ∧ off + len ≤ fs.length | _ => True
  | _ => True
def givW (h : Nat → AObj) : WV → WV × AHeap
  | .a (.osl o n off len) => match h o with
    | .arz _ fs => (.a (.fz (.sl true n ((fs.drop off).take len))), [(o, .gone)])
    | _ => (.a (.osl o n off len), [])
  | x => (x, [])
theorem givW_eq {h : Nat → AObj} {x : WV} (hx : fitsW h x) : giveW h x = givW h x := by
  cases x with
  | fn f a b => rfl
  | a x =>
    cases x with
    | osl o n off len =>
      simp only [giveW, givW, fitsW] at hx ⊢
      cases he : h o with
      | arz m fs => rw [he] at hx; simp only at hx ⊢; rw [if_pos hx]
      | _ => rfl
    | _ => rfl
def givWs (h : Nat → AObj) : List WV → List WV × AHeap
  | [] => ([], [])
  | x :: r => ((givW h x).1 :: (givWs h r).1, (givW h x).2 ++ (givWs h r).2)
def fitsWs (h : Nat → AObj) : List WV → Prop
  | [] => True
  | .a (.osl o n off len) :: r => fitsW h (.a (.osl o n off len)) ∧ fitsWs h r
  | _ :: r => fitsWs h r
theorem fitsWs_cons {h : Nat → AObj} {x : WV} {r : List WV} (hx : fitsWs h (x :: r)) : fitsW h x ∧ fitsWs h r := by
  cases x with
  | fn f a b => exact ⟨trivial, hx⟩
  | a x =>
    cases x with
    | osl o n off len => exact hx
    | _ => exact ⟨trivial, hx⟩
theorem givWs_eq {h : Nat → AObj} : ∀ {l : List WV}, fitsWs h l → giveWs h l = givWs h l
  | [], _ => rfl
  | x :: r, hx => by
    have := fitsWs_cons hx
    simp only [giveWs, givWs, givW_eq this.1, givWs_eq this.2]
def givT (h : Nat → AObj) : TV → TV × AHeap
  | .c x => (.c (givW h x).1, (givW h x).2)
  | .agg cs => (.agg (givWs h cs).1, (givWs h cs).2)
  | x => (x, [])
def fitsT (h : Nat → AObj) : TV → Prop
  | .c (.a (.osl o n off len)) => fitsW h (.a (.osl o n off len))
  | .agg cs => fitsWs h cs
  | _ => True
theorem fitsT_c {h : Nat → AObj} {x : WV} (hx : fitsT h (.c x)) : fitsW h x := by
  cases x with
  | fn f a b => trivial
  | a x => cases x with
    | osl o n off len => exact hx
    | _ => trivial
theorem givT_eq {h : Nat → AObj} {x : TV} (hx : fitsT h x) : giveT h x = givT h x := by
  cases x with
  | c x => simp only [giveT, givT, givW_eq (fitsT_c hx)]
  | agg cs => simp only [giveT, givT, givWs_eq (h := h) (l := cs) hx]
  | _ => rfl
def givP (h : Nat → AObj) : List (Nat × TV) → List (Nat × TV) × AHeap
  | [] => ([], [])
  | (i, x) :: r => ((i, (givT h x).1) :: (givP h r).1, (givT h x).2 ++ (givP h r).2)
/-- The asks of what is given up, ahead of what goes on. -/
def asksT (h : Nat → AObj) (x : TV) (K : Prop) : Prop :=
  match x with
  | .c (.a (.osl o n off len)) => fitsW h (.a (.osl o n off len)) ∧ K
  | .agg cs => match cs.any (fun c => match c with | .a (.osl _ _ _ _) => true | _ => false) with
    | true => fitsWs h cs ∧ K
    | false => K
  | _ => K
theorem fitsWs_none {h : Nat → AObj} : ∀ {cs : List WV}, cs.any (fun c => match c with | .a (.osl _ _ _ _) => true | _ => false) = false → fitsWs h cs
  | [], _ => trivial
  | x :: r, hx => by
    simp only [List.any_cons, Bool.or_eq_false_iff] at hx
    have := fitsWs_none (h := h) hx.2
    cases x with
    | fn f a b => exact this
    | a x => cases x with
      | osl o n off len => cases hx.1
      | _ => exact this
theorem asksT_inv {h : Nat → AObj} {x : TV} {K : Prop} (hx : asksT h x K) : fitsT h x ∧ K := by
  unfold asksT at hx
  split at hx
  · exact hx
  · rename_i cs
    split at hx
    · exact hx
    · rename_i hn; exact ⟨fitsWs_none hn, hx⟩
  · rename_i h1 h2
    refine ⟨?_, hx⟩
    unfold fitsT
    split
    · rename_i o n off len; exact (h1 o n off len rfl).elim
    · rename_i cs; exact (h2 cs rfl).elim
    · trivial
def asksP (h : Nat → AObj) : List (Nat × TV) → Prop → Prop
  | [], K => K
  | (_, x) :: r, K => asksT h x (asksP h r K)
theorem asksP_inv {h : Nat → AObj} : ∀ {l : List (Nat × TV)} {K : Prop}, asksP h l K → giveP h l = givP h l ∧ K
  | [], _, hx => ⟨rfl, hx⟩
  | (i, x) :: r, K, hx => by
    obtain ⟨h1, h2⟩ := asksT_inv hx
    obtain ⟨h3, h4⟩ := asksP_inv h2
    exact ⟨by simp only [giveP, givP, givT_eq h1, h3], h4⟩

/-! ### Operations -/
section
variable {P : Program}

/-- The place of an element. -/
def elemV (de : TyD) (x : TV) (i : Int) (K : TV → Prop) : Prop :=
  match x with
  | .c (.a (.osl o n off len)) => match de.size == n with
    | true => (0 ≤ i ∧ i < len) ∧ K (.c (.a (.ep o n (off + i.toNat) 0)))
    | false => False
  | .c (.a (.fz y)) => match de.zero with
    | some z => (y.isSl de.size = true ∧ 0 ≤ i ∧ i < y.ses.length ∧ shp z 0 (y.ses.getD i.toNat []) = y.ses.getD i.toNat []) ∧ K (.c (.a (.fz (.pt (shp z 0 (y.ses.getD i.toNat []))))))
    | none => False
  | _ => False
theorem elemV_inv {de : TyD} {x : TV} {i : Int} {K : TV → Prop} (h : elemV de x i K) : ∃ v, elemSl de x i = some v ∧ K v := by
  unfold elemV at h
  split at h
  · rename_i o n off len
    split at h
    · rename_i hs
      simp only [beq_iff_eq] at hs
      exact ⟨_, by simp only [elemSl, hs, h.1, and_self, if_true], h.2⟩
    · exact h.elim
  · rename_i y
    split at h
    · rename_i z hz
      obtain ⟨⟨h1, h2, h3, h4⟩, h5⟩ := h
      rw [h4] at h5
      cases y with
      | sl nn n es =>
        simp only [FV.isSl, beq_iff_eq] at h1
        simp only [FV.ses] at h3 h5
        exact ⟨_, by simp only [elemSl, h1, h2, h3, and_self, if_true], h5⟩
      | nils => simp [FV.ses] at h3; omega
      | z0 => simp [FV.ses] at h3; omega
      | _ => cases h1
    · exact h.elim
  · exact h.elim

def indexAddrV (P : Program) (d : TyD) (x ix : TV) (K : TV → Prop) : Prop :=
  match ix with
  | .c (.a (.fz (.int _ i))) => match d.kind with
    | .slice e => tyP P e fun de => elemV de x i K
    | .arr m e => tyP P e fun de => match x with
      | .c (.a (.ep o n k j)) => (0 ≤ i ∧ i < m) ∧ K (.c (.a (.ep o n k (j + i.toNat * de.size))))
      | _ => False
    | _ => False
  | _ => False
theorem indexAddrV_inv {d : TyD} {x ix : TV} {K : TV → Prop} (h : indexAddrV P d x ix K) : ∃ v, indexAddrA P d x ix = some v ∧ K v := by
  unfold indexAddrV at h
  split at h
  · split at h
    · rename_i he
      obtain ⟨de, hd, hnew⟩ := tyP_inv h
      clear h; have h := hnew; clear hnew
      obtain ⟨v, hv, hk⟩ := elemV_inv h
      exact ⟨v, by simp only [indexAddrA, he, hd, hv], hk⟩
    · rename_i he
      obtain ⟨de, hd, hnew⟩ := tyP_inv h
      clear h; have h := hnew; clear hnew
      split at h
      · exact ⟨_, by simp only [indexAddrA, he, hd, elemArr, h.1, and_self, if_true], h.2⟩
      · exact h.elim
    · exact h.elim
  · exact h.elim

def indexV (P : Program) (d : TyD) (x ix : TV) (K : TV → Prop) : Prop :=
  match ix with
  | .c (.a (.fz (.int _ i))) => match d.kind with
    | .str => match x with
      | .c (.a (.fz (.str l))) => (0 ≤ i ∧ i < l.length) ∧ K (.c (.a (.fz (.int .u8 (l.getD i.toNat 0).toNat))))
      | _ => False
    | _ => match indexA P d x ix with | some v => K v | none => False
  | _ => False
theorem indexV_inv {d : TyD} {x ix : TV} {K : TV → Prop} (h : indexV P d x ix K) : ∃ v, indexA P d x ix = some v ∧ K v := by
  unfold indexV at h
  split at h
  · split at h
    · rename_i he
      split at h
      · exact ⟨_, by simp only [indexA, he, h.1, and_self, if_true], h.2⟩
      · exact h.elim
    · split at h
      · rename_i v hv; exact ⟨v, hv, h⟩
      · exact h.elim
  · exact h.elim

/-- Bounds. -/
def bndV (x : Option TV) (dflt : Int) (K : Int → Prop) : Prop :=
  match x with
  | none => K dflt
  | some (.c (.a (.fz (.int _ i)))) => K i
  | _ => False
theorem bndV_inv {x : Option TV} {dflt most : Nat} {K : Int → Prop} (h : bndV x dflt K) : ∃ i : Int, K i ∧ (0 ≤ i → i ≤ most → boundA x dflt most = some i.toNat) := by
  unfold bndV at h
  split at h
  · exact ⟨dflt, h, fun _ _ => by simp [boundA]⟩
  · rename_i i; exact ⟨i, h, fun h1 h2 => by simp only [boundA, h1, h2, and_self, if_true]⟩
  · exact h.elim

def bnds3V (lo hi mx : Option TV) (len : Nat) (K : Nat → Nat → Prop) : Prop :=
  match mx with
  | none => bndV hi len fun b => bndV lo ((0 : Nat) : Int) fun a => (0 ≤ a ∧ a ≤ b ∧ b ≤ len) ∧ K a.toNat b.toNat
  | some m => match hi with
    | none => False
    | some _ => bndV (some m) len fun c => bndV hi len fun b => bndV lo ((0 : Nat) : Int) fun a => (0 ≤ a ∧ a ≤ b ∧ b ≤ c ∧ c ≤ len) ∧ K a.toNat b.toNat
theorem bnds3V_inv {lo hi mx : Option TV} {len : Nat} {K : Nat → Nat → Prop} (h : bnds3V lo hi mx len K) : ∃ a b, bnds3 lo hi mx len = some (a, b) ∧ K a b := by
  unfold bnds3V at h
  split at h
  · obtain ⟨b, h, hb⟩ := bndV_inv (most := len) h
    obtain ⟨a, h, ha⟩ := bndV_inv (most := b.toNat) h
    obtain ⟨⟨h1, h2, h3⟩, hk⟩ := h
    refine ⟨_, _, ?_, hk⟩
    have e1 : boundA none len len = some len := rfl
    simp only [bnds3, e1, hb (by omega) h3, show b.toNat ≤ len by omega, Option.isSome_none, Bool.false_eq_true, false_implies, and_self, if_true, ha h1 (by omega), Option.map_some]
  · split at h
    · exact h.elim
    · rename_i m hi
      obtain ⟨c, h, hc⟩ := bndV_inv (most := len) h
      obtain ⟨b, h, hb⟩ := bndV_inv (most := len) h
      obtain ⟨a, h, ha⟩ := bndV_inv (most := b.toNat) h
      obtain ⟨⟨h1, h2, h3, h4⟩, hk⟩ := h
      refine ⟨_, _, ?_, hk⟩
      simp only [bnds3, hc (by omega) h4, hb (by omega) (by omega), show b.toNat ≤ c.toNat by omega, Option.isSome_some, implies_true, and_self, if_true, ha h1 (by omega), Option.map_some]

def sliceV (P : Program) (d : TyD) (x : TV) (lo hi mx : Option TV) (K : TV → Prop) : Prop :=
  match d.kind with
  | .slice e => tyP P e fun de => match x with
    | .c (.a (.osl o n off len)) => match n == de.size with
      | true => bnds3V lo hi mx len fun a b => K (.c (.a (.osl o n (off + a) (b - a))))
      | false => False
    | .c (.a (.fz y)) => y.isSl de.size = true ∧ bnds3V lo hi mx y.ses.length fun a b => match zeroMax mx with | true => K (.c (.a (.fz y.cut0))) | false => K (.c (.a (.fz (y.cut a b))))
    | _ => False
  | .str => match x, mx with
    | .c (.a (.fz (.str l))), none => bnds3V lo hi none l.length fun a b => K (.c (.a (.fz (.str ((l.take b).drop a)))))
    | _, _ => False
  | _ => False
theorem sliceV_inv {d : TyD} {x : TV} {lo hi mx : Option TV} {K : TV → Prop} (h : sliceV P d x lo hi mx K) : ∃ v, sliceOpA P d x lo hi mx = some v ∧ K v := by
  unfold sliceV at h
  split at h
  · rename_i e he
    obtain ⟨de, hd, hnew⟩ := tyP_inv h
    clear h; have h := hnew; clear hnew
    split at h
    · split at h
      · rename_i hn
        obtain ⟨a, b, h1, h2⟩ := bnds3V_inv h
        simp only [beq_iff_eq] at hn
        subst hn
        exact ⟨_, by simp only [sliceOpA, he, hd, sliceSl, if_true, h1, Option.map_some], h2⟩
      · exact h.elim
    · rename_i y
      obtain ⟨h0, h⟩ := h
      obtain ⟨a, b, h1, h2⟩ := bnds3V_inv h
      cases y with
      | sl nn n es =>
        simp only [FV.isSl, beq_iff_eq] at h0
        simp only [FV.ses] at h1
        refine ⟨_, by simp only [sliceOpA, he, hd, sliceSl, h0, if_true, h1, Option.map_some]; rfl, ?_⟩
        simp only [FV.cut, FV.cut0, h0] at h2 ⊢
        cases hz : zeroMax mx with
        | true => rw [hz] at h2; simpa using h2
        | false => rw [hz] at h2; simpa using h2
      | nils =>
        simp only [FV.ses, List.length_nil] at h1
        refine ⟨_, by simp only [sliceOpA, he, hd, sliceSl, h1, Option.map_some]; rfl, ?_⟩
        cases hz : zeroMax mx <;> rw [hz] at h2 <;> exact h2
      | z0 nn =>
        simp only [FV.ses, List.length_nil] at h1
        refine ⟨_, by simp only [sliceOpA, he, hd, sliceSl, h1, Option.map_some]; rfl, ?_⟩
        cases hz : zeroMax mx <;> rw [hz] at h2 <;> exact h2
      | _ => cases h0
    · exact h.elim
  · rename_i he
    split at h
    · obtain ⟨a, b, h1, h2⟩ := bnds3V_inv h
      exact ⟨_, by simp only [sliceOpA, he, sliceStr, h1, Option.map_some], h2⟩
    · exact h.elim
  · exact h.elim

/-- Loads out of arrays of frozen cells. -/
def loadV (d : TyD) (h : Nat → AObj) (x : TV) (K : AR → Prop) : Prop :=
  match x with
  | .c (.a (.ep o n i j)) => match h o with
    | .arz m fs => match m == n, d.zero with
      | true, some z => match z with
        | [] => False
        | z0 :: zs => (i < fs.length ∧ shp (z0 :: zs) j (fs.getD i []) = ((fs.getD i []).drop j).take (z0 :: zs).length ∧ d.size = (z0 :: zs).length) ∧
          K ⟨if d.agg then .agg (fzs (shp (z0 :: zs) j (fs.getD i []))) else .c (cell ((shp (z0 :: zs) j (fs.getD i [])).getD 0 .nils)), [], [o]⟩
      | _, _ => False
    | _ => oK' ((loadP d (fun o => flat (h o)) x).map fun r => ⟨r.1, [], r.2⟩) K
  | _ => oK' ((loadP d (fun o => flat (h o)) x).map fun r => ⟨r.1, [], r.2⟩) K
theorem loadV_inv {d : TyD} {h : Nat → AObj} {x : TV} {K : AR → Prop} (hl : loadV d h x K) : ∃ r, (loadP d (fun o => flat (h o)) x).map (fun r => (⟨r.1, [], r.2⟩ : AR)) = some r ∧ K r := by
  unfold loadV at hl
  split at hl
  · rename_i o n i j
    split at hl
    · rename_i m fs ho
      split at hl
      · rename_i z hm hz
        simp only [beq_iff_eq] at hm
        split at hl
        · exact hl.elim
        · rename_i z0 zs
          obtain ⟨⟨h1, h2, h3⟩, hk⟩ := hl
          have hget : fs[i]? = some (fs.getD i []) := by simp [List.getD, List.getElem?_eq_getElem h1]
          generalize fs.getD i [] = row at *
          generalize hzz : z0 :: zs = z' at *
          have hlen : (row.drop j).length ≥ z'.length := by
            have := congrArg List.length h2
            rw [shp_length, List.length_take, Nat.min_def] at this
            split at this <;> omega
          have hzl : 0 < z'.length := by rw [← hzz]; simp
          refine ⟨_, ?_, hk⟩
          simp only [loadP, ho, flat, hm, if_true, List.getElem?_map, hget, Option.map_some]
          by_cases ha : d.agg = true
          · have e1 : (fzs row).drop j = fzs (row.drop j) := by simp [fzs]
            simp only [loadA, ha, if_true, e1, show d.size ≤ (fzs (row.drop j)).length by simp [fzs]; simp at hlen; omega, Option.map_some]
            rw [h2, h3]; simp [fzs]
          · have e1 : (fzs row).drop j = fzs (row.drop j) := by simp [fzs]
            simp only [loadA, ha, Bool.false_eq_true, if_false, e1]
            match hrd : row.drop j, hlen with
            | [], hlen => exact absurd hzl (by simp only [List.length_nil] at hlen; omega)
            | y :: ys, _ =>
              simp only [fzs, List.map_cons, Option.map_some]
              rw [h2, hrd]
              match z', hzl with
              | _ :: _, _ => simp
      · exact hl.elim
    · exact oK'_inv hl
  · exact oK'_inv hl

/-- Stores into arrays of frozen cells. -/
def storeV (d : TyD) (h : Nat → AObj) (x y : TV) (K : AR → Prop) : Prop :=
  match x with
  | .c (.a (.ep o n i j)) => match h o with
    | .arz m fs => match cellsT y with
      | some cs => match unfz cs with
        | some fcs => match m == n && fcs.length == d.size && j == 0 && fcs.length == n with
          | true => (i < fs.length ∧ (fs.getD i []).length = n) ∧ K ⟨.any, [(o, .arz n (fs.set i fcs))], [o]⟩
          | false => oK' (storeF d h x y) K
        | none => False
      | none => False
    | _ => oK' (storeF d h x y) K
  | _ => oK' (storeF d h x y) K
theorem storeV_inv {d : TyD} {h : Nat → AObj} {x y : TV} {K : AR → Prop} (hl : storeV d h x y K) : ∃ r, storeF d h x y = some r ∧ K r := by
  unfold storeV at hl
  split at hl
  · rename_i o n i j
    split at hl
    · rename_i m fs ho
      split at hl
      · rename_i cs hc
        split at hl
        · rename_i fcs hu
          split at hl
          · rename_i hb
            simp only [Bool.and_eq_true, beq_iff_eq] at hb
            obtain ⟨⟨⟨hm, hd⟩, hj⟩, hn⟩ := hb
            obtain ⟨⟨h1, h2⟩, hk⟩ := hl
            have hget : fs[i]? = some (fs.getD i []) := by simp [List.getD, List.getElem?_eq_getElem h1]
            refine ⟨_, ?_, hk⟩
            have hsp : spliceF (fs.getD i []) j fcs = fcs := by
              subst hj
              simp only [spliceF, List.take_zero, List.nil_append, Nat.zero_add]
              rw [List.drop_eq_nil_of_le (by omega), List.append_nil]
            simp only [storeF, hc, ho, hu, hm, hd, and_self, if_true, hget]
            rw [if_pos (by omega), hsp]
          · exact oK'_inv hl
        · exact hl.elim
      · exact hl.elim
    · exact oK'_inv hl
  · exact oK'_inv hl

/-! Builtins. -/
/-- A slice's elements. -/
def elemsV (n : Nat) (h : Nat → AObj) (x : TV) (K : List (List FV) → List Nat → Prop) : Prop :=
  match x with
  | .c (.a (.fz y)) => y.isSl n = true ∧ K y.ses []
  | .c (.a (.osl o m off len)) => match h o with
    | .arz m' es => match m == n && m' == n with
      | true => off + len ≤ es.length ∧ K ((es.drop off).take len) [o]
      | false => False
    | _ => False
  | _ => False
theorem elemsV_inv {n : Nat} {h : Nat → AObj} {x : TV} {K : List (List FV) → List Nat → Prop} (hl : elemsV n h x K) : ∃ es rd, elemsF n h x = some (es, rd) ∧ K es rd := by
  unfold elemsV at hl
  split at hl
  · rename_i y
    obtain ⟨h1, hk⟩ := hl
    cases y with
    | sl nn m es => simp only [FV.isSl, beq_iff_eq] at h1; exact ⟨_, _, by simp only [elemsF, h1, if_true]; rfl, hk⟩
    | nils => exact ⟨_, _, rfl, hk⟩
    | z0 => exact ⟨_, _, rfl, hk⟩
    | _ => cases h1
  · split at hl
    · rename_i ho
      split at hl
      · rename_i hb
        simp only [Bool.and_eq_true, beq_iff_eq] at hb
        exact ⟨_, _, by simp only [elemsF, ho, hb.1, hb.2, hl.1, and_self, if_true], hl.2⟩
      · exact hl.elim
    · exact hl.elim
  · exact hl.elim

def appendV (d : TyD) (fr : Nat) (h : Nat → AObj) (s x : TV) (K : AR → Prop) : Prop :=
  elemsV d.size h x fun new rd => match s with
    | .c (.a (.fz .nils)) => br new.isEmpty (K ⟨s, [], rd⟩) (roomB new.length d.bytes ∧ K ⟨.c (.a (.osl fr d.size 0 new.length)), [(fr, .arz d.size new)], rd⟩)
    | .c (.a (.fz (.z0 _))) => br new.isEmpty (K ⟨s, [], rd⟩) (roomB new.length d.bytes ∧ K ⟨.c (.a (.osl fr d.size 0 new.length)), [(fr, .arz d.size new)], rd⟩)
    | .c (.a (.osl o n off len)) => match h o with
      | .arz m fs => match n == d.size && m == d.size && off == 0 && !rd.contains o with
        | true => (len ≤ fs.length ∧ roomB (len + new.length) d.bytes) ∧
          K ⟨.c (.a (.osl fr d.size 0 (len + new.length))), [(o, .gone), (fr, .arz d.size (fs.take len ++ new))], o :: rd⟩
        | false => False
      | _ => False
    | _ => False
theorem appendV_inv {d : TyD} {fr : Nat} {h : Nat → AObj} {s x : TV} {K : AR → Prop} (hl : appendV d fr h s x K) : ∃ r, appendF d fr h s x = some r ∧ K r := by
  unfold appendV at hl
  obtain ⟨new, rd, he, hl⟩ := elemsV_inv hl
  split at hl
  · by_cases hn : new = []
    · subst hn; exact ⟨_, by simp only [appendF, he, if_true], hl⟩
    · have : new.isEmpty = false := by cases new <;> simp_all
      rw [this, br_false] at hl
      exact ⟨_, by simp only [appendF, he, hn, if_false, hl.1, if_true], hl.2⟩
  · by_cases hn : new = []
    · subst hn; exact ⟨_, by simp only [appendF, he, if_true], hl⟩
    · have : new.isEmpty = false := by cases new <;> simp_all
      rw [this, br_false] at hl
      exact ⟨_, by simp only [appendF, he, hn, if_false, hl.1, if_true], hl.2⟩
  · split at hl
    · rename_i ho
      split at hl
      · rename_i hb
        simp only [Bool.and_eq_true, beq_iff_eq, Bool.not_eq_true'] at hb
        obtain ⟨⟨⟨h1, h2⟩, h3⟩, h4⟩ := hb
        obtain ⟨⟨h5, h6⟩, hk⟩ := hl
        exact ⟨_, by simp only [appendF, he, ho, h1, h2, h3, h4, h5, h6, Bool.not_false, and_self, if_true], hk⟩
      · exact hl.elim
    · exact hl.elim
  · exact hl.elim

def appendZV (P : Program) (t' : TypeId) (de : TyD) (fr : Nat) (s x : TV) (K : AR → Prop) : Prop :=
  match P.underlying t', s, x with
  | some (.int _), .c (.a (.fz .nils)), .c (.a (.fz (.int _ n))) => match decide (0 < de.size ∧ 0 < de.bytes) && (de.zero.map List.length == some de.size) with
    | true => (0 < n ∧ roomB n.toNat de.bytes) ∧ K ⟨.c (.a (.osl fr de.size 0 n.toNat)), [(fr, .arz de.size [])], []⟩
    | false => False
  | _, _, _ => False
theorem appendZV_inv {t' : TypeId} {de : TyD} {fr : Nat} {s x : TV} {K : AR → Prop} (hl : appendZV P t' de fr s x K) : ∃ r, (appendZ P t' de fr s x).map freezeNew = some r ∧ K r := by
  unfold appendZV at hl
  split at hl
  · rename_i ht
    split at hl
    · rename_i hb
      simp only [Bool.and_eq_true, decide_eq_true_eq, beq_iff_eq] at hb
      refine ⟨_, ?_, hl.2⟩
      unfold appendZ
      simp only [ht]
      rw [if_pos ⟨hl.1.1, hb.1.1, hl.1.2, hb.1.2, hb.2⟩]
      rfl
    · exact hl.elim
  · exact hl.elim

def builtinV (P : Program) (b : Builtin) (ts : List TypeId) (fr : Nat) (h : Nat → AObj) (args : List TV) (K : AR → Prop) : Prop :=
  match b, ts, args with
  | .len, [t], [x] => tyP P t fun d => match d.kind, x with
    | .slice e, .c (.a (.fz y)) => tyP P e fun de => y.isSl de.size = true ∧ K ⟨iV y.ses.length, [], []⟩
    | _, _ => oK' (builtinF P .len [t] fr h [x]) K
  | .append, [t, t'], [s, x] => match t == t' with
    | true => tyP P t fun d => match d.kind with
      | .slice e => tyP P e fun de => match decide (0 < de.size ∧ 0 < de.bytes ∧ de.bytes ≤ 4096) && (de.zero.map List.length == some de.size) with
        | true => appendV de fr h s x K
        | false => False
      | _ => False
    | false => tyP P t fun d => match d.kind with
      | .slice e => tyP P e fun de => appendZV P t' de fr s x K
      | _ => False
  | b, ts, args => oK' (builtinF P b ts fr h args) K
theorem builtinV_inv {b : Builtin} {ts : List TypeId} {fr : Nat} {h : Nat → AObj} {args : List TV} {K : AR → Prop} (hl : builtinV P b ts fr h args K) : ∃ r, builtinF P b ts fr h args = some r ∧ K r := by
  unfold builtinV at hl
  split at hl
  · rename_i t x
    obtain ⟨d, hd, hnew⟩ := tyP_inv hl
    clear hl; have hl := hnew; clear hnew
    split at hl
    · rename_i e y he
      obtain ⟨de, hde, hnew⟩ := tyP_inv hl
      clear hl; have hl := hnew; clear hnew
      obtain ⟨h1, hk⟩ := hl
      cases y with
      | sl nn m es => exact ⟨_, by simp only [builtinF, builtinA, withTy, hd, lenP, he, lenSl, Option.map_some]; rfl, hk⟩
      | nils => exact ⟨_, by simp only [builtinF, builtinA, withTy, hd, lenP, he, lenSl, Option.map_some]; rfl, hk⟩
      | z0 => exact ⟨_, by simp only [builtinF, builtinA, withTy, hd, lenP, he, lenSl, Option.map_some]; rfl, hk⟩
      | _ => cases h1
    · exact oK'_inv hl
  · rename_i t t' s x
    split at hl
    · rename_i ht
      simp only [beq_iff_eq] at ht
      subst ht
      obtain ⟨d, hd, hnew⟩ := tyP_inv hl
      clear hl; have hl := hnew; clear hnew
      split at hl
      · rename_i e he
        obtain ⟨de, hde, hnew⟩ := tyP_inv hl
        clear hl; have hl := hnew; clear hnew
        split at hl
        · rename_i hb
          simp only [Bool.and_eq_true, decide_eq_true_eq, beq_iff_eq] at hb
          obtain ⟨r, h1, h2⟩ := appendV_inv hl
          exact ⟨r, by simp only [builtinF, if_true, withElem, hd, he, hde, appendPF, hb.1, hb.2, and_self, h1], h2⟩
        · exact hl.elim
      · exact hl.elim
    · rename_i ht
      obtain ⟨d, hd, hnew⟩ := tyP_inv hl
      clear hl; have hl := hnew; clear hnew
      split at hl
      · rename_i e he
        obtain ⟨de, hde, hnew⟩ := tyP_inv hl
        clear hl; have hl := hnew; clear hnew
        obtain ⟨r, h1, h2⟩ := appendZV_inv hl
        have ht' : ¬ t = t' := by simpa using ht
        exact ⟨r, by simp only [builtinF, ht', if_false, withElem, hd, he, hde, h1], h2⟩
      · exact hl.elim
  · exact oK'_inv hl

/-- Numbers: a divisor is not nought. -/
def binV (P : Program) (t : TypeId) (op : BinOp) (x y : TV) (K : TV → Prop) : Prop :=
  match op, x, y with
  | .quo, .c (.a (.fz (.int k a))), .c (.a (.fz (.int k' b))) => (k = k' ∧ b ≠ 0) ∧ K (.c (.a (.fz (.int k (k.wrap (a.tdiv b))))))
  | .rem, .c (.a (.fz (.int k a))), .c (.a (.fz (.int k' b))) => (k = k' ∧ b ≠ 0) ∧ K (.c (.a (.fz (.int k (a.tmod b)))))
  | .add, .c (.a (.fz (.str a))), .c (.a (.fz (.str b))) => (a.length + b.length ≤ 1000000000000) ∧ K (.c (.a (.fz (.str (a ++ b)))))
  | op, x, y => match binA P t op x y with | some v => K v | none => False
theorem binV_inv {t : TypeId} {op : BinOp} {x y : TV} {K : TV → Prop} (hl : binV P t op x y K) : ∃ v, binA P t op x y = some v ∧ K v := by
  unfold binV at hl
  split at hl
  · obtain ⟨⟨rfl, h2⟩, hk⟩ := hl; exact ⟨_, by simp only [binA, if_true, intBin, h2, if_false, Option.map_some], hk⟩
  · obtain ⟨⟨rfl, h2⟩, hk⟩ := hl; exact ⟨_, by simp only [binA, if_true, intBin, h2, if_false, Option.map_some], hk⟩
  · obtain ⟨h2, hk⟩ := hl; exact ⟨_, by simp only [binA, strBin, h2, if_true, Option.map_some], hk⟩
  · split at hl
    · rename_i v hv; exact ⟨v, hv, hl⟩
    · exact hl.elim

/-- What an operation comes to. -/
def opV (P : Program) (o : Oper) (fr : Nat) (ρ : Operand → TV) (h : Nat → AObj) (K : AR → Prop) : Prop :=
  match o.op with
  | .indexAddr t x ix => tyP P t fun d => indexAddrV P d (ρ x) (ρ ix) fun v => K ⟨v, [], []⟩
  | .index t x ix => tyP P t fun d => indexV P d (ρ x) (ρ ix) fun v => K ⟨v, [], []⟩
  | .slice t x lo hi mx => tyP P t fun d => sliceV P d (ρ x) (lo.map ρ) (hi.map ρ) (mx.map ρ) fun v => K ⟨v, [], []⟩
  | .load t x => tyP P t fun d => loadV d h (ρ x) K
  | .store t x y => tyP P t fun d => storeV d h (ρ x) (ρ y) K
  | .call ⟨.builtin b, args, ts⟩ => builtinV P b ts.toList fr h (args.toList.map ρ) K
  | .binOp op t x y _ => binV P t op (ρ x) (ρ y) fun v => K ⟨v, [], []⟩
  | .build t parts => asksP h (parts.toList.map fun p => (p.1, ρ p.2)) (tyP P t fun d =>
      match buildA P d (givP h (parts.toList.map fun p => (p.1, ρ p.2))).1 with
      | some v => K ⟨v, (givP h (parts.toList.map fun p => (p.1, ρ p.2))).2, oslP (parts.toList.map fun p => (p.1, ρ p.2))⟩
      | none => False)
  | .buildSlice t len parts => asksP h (parts.toList.map fun p => (p.1, ρ p.2))
      (oK' ((withElem P t fun de => buildSliceP de fr len (givP h (parts.toList.map fun p => (p.1, ρ p.2))).1).map fun r =>
        ⟨(freezeNew r).val, (freezeNew r).upd ++ (givP h (parts.toList.map fun p => (p.1, ρ p.2))).2, oslP (parts.toList.map fun p => (p.1, ρ p.2))⟩) K)
  | _ => oK' (aopF P o fr ρ h) K

theorem opV_inv {o : Oper} {fr : Nat} {ρ : Operand → TV} {h : Nat → AObj} {K : AR → Prop} (hl : opV P o fr ρ h K) : ∃ r, aopF P o fr ρ h = some r ∧ K r := by
  unfold opV at hl
  split at hl
  · rename_i t x ix ho
    obtain ⟨d, hd, hnew⟩ := tyP_inv hl
    clear hl; have hl := hnew; clear hnew
    obtain ⟨v, hv, hk⟩ := indexAddrV_inv hl
    exact ⟨_, by simp only [aopF, ho, aop, withTy, hd, hv, valR, Option.map_some], hk⟩
  · rename_i t x ix ho
    obtain ⟨d, hd, hnew⟩ := tyP_inv hl
    clear hl; have hl := hnew; clear hnew
    obtain ⟨v, hv, hk⟩ := indexV_inv hl
    exact ⟨_, by simp only [aopF, ho, aop, withTy, hd, hv, valR, Option.map_some], hk⟩
  · rename_i t x lo hi mx ho
    obtain ⟨d, hd, hnew⟩ := tyP_inv hl
    clear hl; have hl := hnew; clear hnew
    obtain ⟨v, hv, hk⟩ := sliceV_inv hl
    exact ⟨_, by simp only [aopF, ho, aop, withTy, hd, hv, valR, Option.map_some], hk⟩
  · rename_i t x ho
    obtain ⟨d, hd, hnew⟩ := tyP_inv hl
    clear hl; have hl := hnew; clear hnew
    obtain ⟨r, hr, hk⟩ := loadV_inv hl
    exact ⟨r, by simp only [aopF, ho, aop, withTy, hd, hr], hk⟩
  · rename_i t x y ho
    obtain ⟨d, hd, hnew⟩ := tyP_inv hl
    clear hl; have hl := hnew; clear hnew
    obtain ⟨r, hr, hk⟩ := storeV_inv hl
    exact ⟨r, by simp only [aopF, ho, withTy, hd, hr], hk⟩
  · rename_i b args ts ho
    obtain ⟨r, hr, hk⟩ := builtinV_inv hl
    exact ⟨r, by simp only [aopF, ho, hr], hk⟩
  · rename_i op t x y ot ho
    obtain ⟨v, hv, hk⟩ := binV_inv hl
    exact ⟨_, by simp only [aopF, ho, aop, hv, valR, Option.map_some], hk⟩
  · rename_i t parts ho
    obtain ⟨hg, hl⟩ := asksP_inv hl
    obtain ⟨d, hd, hnew⟩ := tyP_inv hl
    clear hl; have hl := hnew; clear hnew
    split at hl
    · rename_i v hv
      exact ⟨_, by simp only [aopF, ho, withTy, hd, hg, hv, Option.map_some], hl⟩
    · exact hl.elim
  · rename_i t len parts ho
    obtain ⟨hg, hl⟩ := asksP_inv hl
    obtain ⟨r, hr, hk⟩ := oK'_inv hl
    exact ⟨r, by simp only [aopF, ho, hg, hr], hk⟩
  · exact oK'_inv hl
end
end Go.AM
