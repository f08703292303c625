/- Calls, regions, code, computed to what they ask: 'callV', 'lexV', 'runV', 'resV'; points of a function ('RPt'). No conditions. -/
import Derived.Test.YtclicclinfnmlaaAmVc1
import Derived.LoopN
namespace Go.AM

/-! ### Objects that are reached -/
def AV.ids : AV → List Nat
  | .ep o _ _ _ => [o]
  | .osl o _ _ _ => [o]
  | .mp o => [o]
  | _ => []
def WV.ids : WV → List Nat
  | .a x => x.ids
  | .fn _ first cap => (first.flatMap fun p => p.2.flatMap AV.ids) ++ (cap.flatMap fun p => p.2.flatMap AV.ids)
def TV.ids : TV → List Nat
  | .any => []
  | .c x => x.ids
  | .agg cs => cs.flatMap WV.ids
  | .tup vs => vs.flatMap fun p => p.2.flatMap WV.ids
def AObj.ids : AObj → List Nat
  | .arr _ es => es.flatMap fun e => e.flatMap WV.ids
  | .mapo es => es.flatMap fun e => e.2.2.flatMap WV.ids
  | _ => []
def AV.inn (l : List Nat) : AV → Bool
  | .ep o _ _ _ => l.contains o
  | .osl o _ _ _ => l.contains o
  | .mp o => l.contains o
  | _ => true
def WV.inn (l : List Nat) : WV → Bool
  | .a x => x.inn l
  | .fn _ first cap => (first.all fun p => p.2.all (AV.inn l)) && (cap.all fun p => p.2.all (AV.inn l))
def TV.inn (l : List Nat) : TV → Bool
  | .any => true
  | .c x => x.inn l
  | .agg cs => cs.all (WV.inn l)
  | .tup vs => vs.all fun p => p.2.all (WV.inn l)
def AObj.inn (l : List Nat) : AObj → Bool
  | .arr _ es => es.all fun e => e.all (WV.inn l)
  | .mapo es => es.all fun e => e.2.2.all (WV.inn l)
  | _ => true
def reach (h : Nat → AObj) : Nat → List Nat → List Nat → List Nat
  | 0, _, seen => seen
  | _ + 1, [], seen => seen
  | k + 1, o :: todo, seen => match seen.contains o with
    | true => reach h k todo seen
    | false => reach h k ((h o).ids ++ todo) (seen ++ [o])
/-- The first m of them, then what else is reached. -/
def reachM (m : Nat) (h : Nat → AObj) (todo : List Nat) : List Nat := List.range m ++ (reach h 200 (List.range m ++ todo) []).filter fun o => Nat.ble m o
def inv (ids : List Nat) (o : Nat) : Nat := ids.idxOf o
def nodupB : List Nat → Bool
  | [] => true
  | x :: l => !l.contains x && nodupB l
theorem nodupB_iff : ∀ {l : List Nat}, nodupB l = true → l.Nodup
  | [], _ => .nil
  | x :: l, h => by
    simp only [nodupB, Bool.and_eq_true, Bool.not_eq_true', List.contains_eq_mem, decide_eq_false_iff_not] at h
    exact List.nodup_cons.2 ⟨h.1, nodupB_iff h.2⟩
def liveB : AObj → Bool | .gone => false | _ => true
theorem liveB_iff {x : AObj} (h : liveB x = true) : isLive x := by cases x <;> simp_all [liveB, isLive]

section
variable {ids : List Nat} {fr : Nat}
theorem inv_ok {o : Nat} (h : ids.contains o = true) : inv ids o < ids.length ∧ sub ids fr (inv ids o) = o := by
  simp only [List.contains_eq_mem, decide_eq_true_eq] at h
  have h1 : ids.idxOf o < ids.length := List.idxOf_lt_length_iff.2 h
  refine ⟨h1, ?_⟩
  simp only [inv, sub, h1, if_true]
  rw [List.getD, List.getElem?_eq_getElem h1, Option.getD_some]
  exact List.getElem_idxOf h1
theorem AV.ren_inv {x : AV} (h : x.inn ids = true) : (x.ren (inv ids)).ren (sub ids fr) = x ∧ (x.ren (inv ids)).lt ids.length = true := by
  cases x <;> simp only [AV.inn] at h <;> simp only [AV.ren, AV.lt, and_self, decide_eq_true_eq] <;> have := inv_ok (fr := fr) h <;> simp [this]
theorem map_ren {α : Type} {f g : α → α} {p q : α → Bool} (hfg : ∀ x, p x = true → g (f x) = x ∧ q (f x) = true) : ∀ {l : List α}, l.all p = true → (l.map f).map g = l ∧ (l.map f).all q = true
  | [], _ => ⟨rfl, rfl⟩
  | x :: l, h => by
    simp only [List.all_cons, Bool.and_eq_true] at h
    have h1 := hfg x h.1
    have h2 := map_ren hfg h.2
    exact ⟨by simp only [List.map_cons, h1.1, h2.1], by simp only [List.map_cons, List.all_cons, h1.2, h2.2, Bool.and_self]⟩
theorem pair_ren {α β : Type} {f g : α → α} {p q : α → Bool} (hfg : ∀ x, p x = true → g (f x) = x ∧ q (f x) = true) (x : β × List α) (h : x.2.all p = true) :
    ((x.1, (x.2.map f).map g) : β × List α) = x ∧ (x.2.map f).all q = true := by
  have := map_ren hfg h
  exact ⟨by rw [this.1], this.2⟩
theorem WV.ren_inv {x : WV} (h : x.inn ids = true) : (x.ren (inv ids)).ren (sub ids fr) = x ∧ (x.ren (inv ids)).lt ids.length = true := by
  cases x with
  | a x => simp only [WV.ren, WV.lt, WV.inn] at h ⊢; have := AV.ren_inv (fr := fr) h; simp [this]
  | fn f first cap =>
    simp only [WV.inn, Bool.and_eq_true] at h
    have key : ∀ l : List (Bool × List AV), (l.all fun p => p.2.all (AV.inn ids)) = true →
        ((l.map fun p => (p.1, p.2.map (AV.ren (inv ids)))).map fun p => (p.1, p.2.map (AV.ren (sub ids fr)))) = l ∧ ((l.map fun p => (p.1, p.2.map (AV.ren (inv ids)))).all fun p => p.2.all (AV.lt ids.length)) = true :=
      fun l hl => map_ren (p := fun p => p.2.all (AV.inn ids)) (fun x hx => pair_ren (fun y hy => AV.ren_inv hy) x hx) hl
    simp only [WV.ren, WV.lt, (key _ h.1).1, (key _ h.2).1, (key _ h.1).2, (key _ h.2).2, Bool.and_self, and_self]
theorem TV.ren_inv {x : TV} (h : x.inn ids = true) : (x.ren (inv ids)).ren (sub ids fr) = x ∧ (x.ren (inv ids)).lt ids.length = true := by
  cases x with
  | any => exact ⟨rfl, rfl⟩
  | c x => simp only [TV.ren, TV.lt, TV.inn] at h ⊢; have := WV.ren_inv (fr := fr) h; simp [this]
  | agg cs => simp only [TV.ren, TV.lt, TV.inn] at h ⊢; have := map_ren (fun x hx => WV.ren_inv (fr := fr) (x := x) hx) h; simp only [this.1, this.2, and_self]
  | tup vs =>
    simp only [TV.ren, TV.lt, TV.inn] at h ⊢
    have := map_ren (f := fun p : Bool × List WV => (p.1, p.2.map (WV.ren (inv ids)))) (g := fun p => (p.1, p.2.map (WV.ren (sub ids fr)))) (q := fun p => p.2.all (WV.lt ids.length)) (fun x hx => pair_ren (fun y hy => WV.ren_inv (fr := fr) hy) x hx) h
    simp only [this.1, this.2, and_self]
theorem AObj.ren_inv {x : AObj} (h : x.inn ids = true) : (x.ren (inv ids)).ren (sub ids fr) = x ∧ (x.ren (inv ids)).lt ids.length = true := by
  cases x with
  | gone => exact ⟨rfl, rfl⟩
  | arz n fs => exact ⟨rfl, rfl⟩
  | arr n es =>
    simp only [AObj.ren, AObj.lt, AObj.inn] at h ⊢
    have := map_ren (f := fun e => e.map (WV.ren (inv ids))) (g := fun e => e.map (WV.ren (sub ids fr))) (q := fun e => e.all (WV.lt ids.length)) (fun x hx => map_ren (fun y hy => WV.ren_inv (fr := fr) hy) hx) h
    simp only [this.1, this.2, and_self]
  | mapo es =>
    simp only [AObj.ren, AObj.lt, AObj.inn] at h ⊢
    have := map_ren (f := fun e : (Bool × List FV) × (Bool × List WV) => (e.1, (e.2.1, e.2.2.map (WV.ren (inv ids))))) (g := fun e => (e.1, (e.2.1, e.2.2.map (WV.ren (sub ids fr))))) (q := fun e => e.2.2.all (WV.lt ids.length)) (p := fun e => e.2.2.all (WV.inn ids))
      (fun x hx => by
        have := map_ren (f := WV.ren (inv ids)) (g := WV.ren (sub ids fr)) (q := WV.lt ids.length) (fun y hy => WV.ren_inv (fr := fr) hy) hx
        exact ⟨by rw [this.1], this.2⟩) h
    simp only [this.1, this.2, and_self]
end

/-! ### Slices that are lent -/
def lentW (h : Nat → AObj) : WV → Lent
  | .a (.osl o _ _ _) => match h o with | .arz n fs => [(o, n, fs)] | _ => []
  | _ => []
def lentT (h : Nat → AObj) : TV → Lent
  | .c x => lentW h x
  | .agg cs => cs.flatMap (lentW h)
  | _ => []
def asksA (h : Nat → AObj) : List TV → Prop → Prop
  | [], K => K
  | x :: r, K => asksT h x (asksA h r K)

def LentOK (h : Nat → AObj) (L : Lent) : Prop := ∀ p ∈ L, h p.1 = .arz p.2.1 p.2.2
theorem LentOK.ok {h : Nat → AObj} {L : Lent} (hl : LentOK h L) : L.ok h := fun p hp => by rw [hl p hp]; rfl
theorem lentW_ok {h : Nat → AObj} {x : WV} : LentOK h (lentW h x) := by
  intro p hp
  cases x with
  | fn f a b => cases hp
  | a x => cases x with
    | osl o n off len =>
      simp only [lentW] at hp
      split at hp
      · rename_i m fs he
        simp only [List.mem_singleton] at hp; subst hp; exact he
      · cases hp
    | _ => cases hp
theorem lentT_ok {h : Nat → AObj} {x : TV} : LentOK h (lentT h x) := by
  intro p hp
  cases x with
  | c x => exact lentW_ok p hp
  | agg cs => obtain ⟨c, _, hc⟩ := List.mem_flatMap.1 hp; exact lentW_ok p hc
  | _ => cases hp
theorem lents_ok {h : Nat → AObj} {l : List TV} : LentOK h (l.flatMap (lentT h)) := by
  intro p hp
  obtain ⟨c, _, hc⟩ := List.mem_flatMap.1 hp; exact lentT_ok p hc
theorem find2_lents {h : Nat → AObj} : ∀ {L : Lent} {o n : Nat} {fs : List (List FV)}, LentOK h L → h o = .arz n fs → (o, n, fs) ∈ L → find2 L o = some (n, fs)
  | (j, m, gs) :: L, o, n, fs, hl, ho, hm => by
    simp only [find2]
    split
    · rename_i hj
      have := hl _ List.mem_cons_self
      subst hj
      simp only [ho, AObj.arz.injEq] at this
      rw [this.1, this.2]
    · rename_i hj
      rcases List.mem_cons.1 hm with e | hm
      · exact absurd (by injection e with e _; exact e.symm) hj
      · exact find2_lents (fun p hp => hl p (List.mem_cons_of_mem _ hp)) ho hm
theorem find2_none {α : Type} : ∀ {L : List (Nat × α)} {o : Nat}, (∀ p ∈ L, p.1 ≠ o) → find2 L o = none
  | [], _, _ => rfl
  | (j, x) :: L, o, h => by
    simp only [find2]
    rw [if_neg (h _ List.mem_cons_self)]
    exact find2_none fun p hp => h p (List.mem_cons_of_mem _ hp)
theorem lendW_giv {h : Nat → AObj} {L : Lent} {x : WV} (hl : LentOK h L) (hs : ∀ p ∈ lentW h x, p ∈ L) (hf : fitsW h x) : x.lend L = (givW h x).1 := by
  cases x with
  | fn f a b => rfl
  | a x => cases x with
    | osl o n off len =>
      simp only [WV.lend, AV.lend, givW, lentW, fitsW] at hs hf ⊢
      cases ho : h o with
      | arz m fs =>
        rw [ho] at hs hf
        rw [find2_lents hl ho (hs _ List.mem_cons_self)]
        simp only at hf ⊢
        rw [if_pos hf]
      | _ =>
        rw [find2_none]
        intro p hp e
        have := hl p hp
        rw [e, ho] at this; cases this
    | _ => rfl
theorem lendWs_giv {h : Nat → AObj} {L : Lent} (hl : LentOK h L) : ∀ {cs : List WV}, (∀ p ∈ cs.flatMap (lentW h), p ∈ L) → fitsWs h cs → cs.map (WV.lend L) = (givWs h cs).1
  | [], _, _ => rfl
  | x :: r, hs, hf => by
    have hf := fitsWs_cons hf
    simp only [List.map_cons, givWs, lendW_giv hl (fun p hp => hs p (by simp [hp])) hf.1, lendWs_giv hl (cs := r) (fun p hp => hs p (by simp only [List.flatMap_cons, List.mem_append]; exact .inr hp)) hf.2]
theorem lendT_giv {h : Nat → AObj} {L : Lent} {x : TV} (hl : LentOK h L) (hs : ∀ p ∈ lentT h x, p ∈ L) (hf : fitsT h x) : x.lend L = (givT h x).1 := by
  cases x with
  | c x => simp only [TV.lend, givT, lendW_giv hl hs (fitsT_c hf)]
  | agg cs => simp only [TV.lend, givT, lendWs_giv hl hs hf]
  | _ => rfl
theorem asksA_inv {h : Nat → AObj} {L : Lent} (hl : LentOK h L) : ∀ {l : List TV} {K : Prop}, (∀ p ∈ l.flatMap (lentT h), p ∈ L) → asksA h l K → l.map (TV.lend L) = l.map (fun x => (givT h x).1) ∧ K
  | [], _, _, hk => ⟨rfl, hk⟩
  | x :: r, K, hs, hk => by
    obtain ⟨h1, h2⟩ := asksT_inv hk
    obtain ⟨h3, h4⟩ := asksA_inv hl (l := r) (fun p hp => hs p (by simp only [List.flatMap_cons, List.mem_append]; exact .inr hp)) h2
    exact ⟨by simp only [List.map_cons, h3, lendT_giv hl (fun p hp => hs p (by simp only [List.flatMap_cons, List.mem_append]; exact .inl hp)) h1], h4⟩

/-! ### What a call hands back -/
def exC : List FV → (List FV → Prop) → Prop
  | [], K => K []
  | .int k _ :: z, K => ∃ n : Int, exC z fun l => K (.int k n :: l)
  | .bool _ :: z, K => ∃ b : Bool, exC z fun l => K (.bool b :: l)
  | .str _ :: z, K => ∃ s : List UInt8, exC z fun l => K (.str s :: l)
  | _ :: z, K => ∃ x : FV, exC z fun l => K (x :: l)
theorem exC_inv : ∀ {z : List FV} {K : List FV → Prop}, exC z K → ∃ l, K l ∧ l.length = z.length ∧ ((z.all fun f => match f with | .int _ _ => true | .bool _ => true | .str _ => true | _ => false) = true → (l.all FV.scalar) = true)
  | [], K, h => ⟨[], h, rfl, fun _ => rfl⟩
  | f :: z, K, h => by
    cases f <;> (obtain ⟨a, h⟩ := h; obtain ⟨l, hk, hlen, hs⟩ := exC_inv h; refine ⟨_, hk, by simp [hlen], fun hz => ?_⟩; simp only [List.all_cons, Bool.and_eq_true, Bool.true_and, Bool.false_eq_true, false_and] at hz ⊢) <;>
      first | (exact hz.elim) | (exact ⟨rfl, hs hz⟩)
def resV (P : Program) : List TypeId → (List (Bool × List FV) → Prop) → Prop
  | [], K => K []
  | t :: ts, K => tyP P t fun d => match d.zero with
    | some z => exC z fun l => resV P ts fun r => K ((d.agg, l) :: r)
    | none => False
def packV : List (Bool × List FV) → TV
  | [(true, l)] => .agg (fzs l)
  | [(false, [x])] => .c (cell x)
  | l => .tup (l.map fun p => (p.1, fzs p.2))
def scalZ (P : Program) (ts : List TypeId) : Bool := ts.all fun t => match tyOf P t with
  | some d => match d.zero with
    | some z => z.all fun f => match f with | .int _ _ => true | .bool _ => true | .str _ => true | _ => false
    | none => false
  | none => false
theorem resV_inv {P : Program} : ∀ {ts : List TypeId} {K : List (Bool × List FV) → Prop}, resV P ts K → ∃ l, K l ∧ (scalZ P ts = true → ∀ p ∈ l, p.2.all FV.scalar = true)
  | [], K, h => ⟨[], h, fun _ _ hp => by cases hp⟩
  | t :: ts, K, h => by
    obtain ⟨d, hd, h⟩ := tyP_inv h
    split at h
    · rename_i z hz
      obtain ⟨l, h, _, hs⟩ := exC_inv h
      obtain ⟨r, h, hs2⟩ := resV_inv h
      refine ⟨_, h, fun hsc => ?_⟩
      simp only [scalZ, List.all_cons, Bool.and_eq_true, hd, hz] at hsc
      intro p hp
      rcases List.mem_cons.1 hp with rfl | hp
      · exact hs hsc.1
      · exact hs2 (by simpa [scalZ] using hsc.2) p hp
    · exact h.elim
theorem fzs_ren (σ : Nat → Nat) (l : List FV) : (fzs l).map (WV.ren σ) = fzs l := by
  simp only [fzs, List.map_map]
  exact List.map_congr_left fun x _ => rfl
theorem packV_ren (σ : Nat → Nat) (l : List (Bool × List FV)) : (packV l).ren σ = packV l := by
  unfold packV
  split
  · simp only [TV.ren, fzs_ren]
  · rfl
  · simp only [TV.ren, List.map_map]
    congr 1
    exact List.map_congr_left fun p _ => by simp [fzs_ren]
theorem fzs_scalar {l : List FV} (h : l.all FV.scalar = true) : (fzs l).all WV.scalar = true := by
  simp only [fzs, List.all_map]; exact h
theorem packV_scalar {l : List (Bool × List FV)} (h : ∀ p ∈ l, p.2.all FV.scalar = true) : (packV l).scalar = true := by
  unfold packV
  split
  · exact fzs_scalar (h _ List.mem_cons_self)
  · have := h _ List.mem_cons_self; simpa [TV.scalar, WV.scalar, cell, AV.scalar] using this
  · simp only [TV.scalar, List.all_map, List.all_eq_true]
    exact fun p hp => fzs_scalar (h p hp)

/-- What a call hands back that makes or changes objects, told by a value of X. -/
structure Sh where
  X : Type
  val : X → TV × List AObj

def resTys (P : Program) (f : FuncId) : List TypeId := match P.funcs[f]? with | some fn => fn.resultTypes.toList | none => []

section
variable (P : Program) (sh : FuncId → List Sh)

/-- One of them. -/
def altV (A : Sh → Prop) : List Sh → Prop
  | [] => False
  | S :: l => A S ∨ altV A l
/-- A call whose arguments bear no slices to be lent. -/
def callC (f : FuncId) (args : List TV) (h : Nat → AObj) (fr : Nat) (K : TV → AHeap → List Nat → Prop) : Prop :=
  match reach h 200 (args.flatMap TV.ids) [] with
  | ids => match nodupB ids && ids.all (fun o => liveB (h o) && (h o).inn ids) && args.all (TV.inn ids) with
    | true => match sh f with
      | _ :: _ => altV (fun S => ∃ x : S.X, AC P f (args.map (TV.ren (inv ids))) (ids.map fun o => (h o).ren (inv ids)) (S.val x).1 (S.val x).2 ∧
          match Nat.ble (S.val x).2.length (ids.length + 32) with
          | true => K ((S.val x).1.ren (sub ids fr)) (oldObjs (sub ids fr) ids (S.val x).2 ++ newObjs (sub ids fr) fr ((S.val x).2.drop ids.length)) ids
          | false => False) (sh f)
      | [] => resV P (resTys P f) fun rs => AC P f (args.map (TV.ren (inv ids))) (ids.map fun o => (h o).ren (inv ids)) (packV rs) (ids.map fun o => (h o).ren (inv ids)) ∧
          K (packV rs) (oldObjs (sub ids fr) ids (ids.map fun o => (h o).ren (inv ids))) ids
    | false => False

/-- A call of a Go function. -/
def callV (f : FuncId) (args : List TV) (h : Nat → AObj) (fr : Nat) (K : TV → AHeap → List Nat → Prop) : Prop :=
  match args.flatMap (lentT h) with
  | [] => callC P sh f args h fr K
  | p :: L => asksA h args (match scalZ P (resTys P f) && (reach h 200 ((args.map fun x => (givT h x).1).flatMap TV.ids) []).isEmpty && (sh f).isEmpty with
    | true => resV P (resTys P f) fun rs => AC P f (args.map fun x => (givT h x).1) [] (packV rs) [] ∧ ((args.map fun x => (givT h x).1).all (TV.lt 0) = true ∧ K (packV rs) [] ((p :: L).map Prod.fst))
    | false => callC P sh f (args.map fun x => (givT h x).1) (over ((p :: L).map fun p => (p.1, AObj.gone)) h) fr
        (fun r u rd => K r (u ++ (p :: L).map fun p => (p.1, AObj.gone)) (rd ++ (p :: L).map Prod.fst)))
end

section
variable {P : Program} {sh : FuncId → List Sh} {f : FuncId} {args : List TV} {h : Nat → AObj} {fr : Nat} {K K' : TV → AHeap → List Nat → Prop}

theorem all2_refl : ∀ {l : List TV}, All2 TV.Le l l
  | [] => trivial
  | x :: l => ⟨.refl x, all2_refl⟩
theorem map_ren_ids {ids : List Nat} {fr : Nat} {args : List TV} (h : args.all (TV.inn ids) = true) : (args.map (TV.ren (inv ids))).map (TV.ren (sub ids fr)) = args ∧ (args.map (TV.ren (inv ids))).all (TV.lt ids.length) = true :=
  map_ren (fun _ hx => TV.ren_inv hx) h
theorem map_lend_nil (l : List TV) : l.map (TV.lend []) = l := by
  have : TV.lend [] = id := by
    funext x
    have hw : ∀ y : WV, y.lend [] = y := fun y => by
      cases y with
      | a y => cases y <;> rfl
      | fn f a b => rfl
    cases x with
    | any => rfl
    | c x => simp only [TV.lend, hw, id]
    | agg cs => simp only [TV.lend, id, show WV.lend [] = id from funext hw, List.map_id]
    | tup vs => rfl
  rw [this, List.map_id]
theorem objs_ren_ids {ids : List Nat} {fr : Nat} : ∀ {l : List Nat}, (l.all fun o => liveB (h o) && (h o).inn ids) = true →
    ((l.map fun o => (h o).ren (inv ids)).map (AObj.ren (sub ids fr)) = l.map h ∧ (l.map fun o => (h o).ren (inv ids)).all (AObj.lt ids.length) = true) ∧ ∀ i ∈ l, isLive (h i)
  | [], _ => ⟨⟨rfl, rfl⟩, fun _ hi => by cases hi⟩
  | o :: l, hl => by
    simp only [List.all_cons, Bool.and_eq_true] at hl
    have h1 := AObj.ren_inv (fr := fr) hl.1.2
    have h2 := objs_ren_ids (fr := fr) (l := l) hl.2
    refine ⟨⟨by simp only [List.map_cons, h1.1, h2.1.1], by simp only [List.map_cons, List.all_cons, h1.2, h2.1.2, Bool.and_self]⟩, fun i hi => ?_⟩
    rcases List.mem_cons.1 hi with rfl | hi
    · exact liveB_iff hl.1.1
    · exact h2.2 i hi

theorem callC_inv (hc : callC P sh f args h fr K) : CallK P f args h fr K := by
  unfold callC at hc
  generalize reach h 200 (args.flatMap TV.ids) [] = ids at hc
  simp only at hc
  split at hc
  · rename_i hb
    simp only [Bool.and_eq_true] at hb
    obtain ⟨⟨h1, h2⟩, h3⟩ := hb
    have ha := map_ren_ids (fr := fr) h3
    have ho := objs_ren_ids (fr := fr) h2
    split at hc
    · generalize sh f = l at hc
      induction l with
      | nil => exact hc.elim
      | cons S l ih =>
        rcases hc with hc | hc
        · obtain ⟨x, hac, hc⟩ := hc
          split at hc
          · rename_i hlen
            refine ⟨ids, [], _, _, _, _, hac, nodupB_iff h1, Nat.le_of_ble_eq_true hlen, ho.1, ?_, ha.2, ho.2, .inl rfl, by simpa using hc⟩
            rw [map_lend_nil, ha.1]; exact all2_refl
          · exact hc.elim
        · exact ih hc
    · obtain ⟨rs, ⟨hac, hk⟩, _⟩ := resV_inv hc
      refine ⟨ids, [], _, _, _, _, hac, nodupB_iff h1, by simp, ho.1, ?_, ha.2, ho.2, .inl rfl, ?_⟩
      · rw [map_lend_nil, ha.1]; exact all2_refl
      · rw [packV_ren, List.drop_eq_nil_of_le (by simp)]
        simpa [newObjs] using hk
  · exact hc.elim

theorem CallK.imp (hc : CallK P f args h fr K) (hk : ∀ r u rd, K r u rd → K' r u rd) : CallK P f args h fr K' := by
  obtain ⟨ids, L, args', Hs, r, Hs', h1, h2, h3, h4, h5, h6, h7, h8, h9⟩ := hc
  exact ⟨ids, L, args', Hs, r, Hs', h1, h2, h3, h4, h5, h6, h7, h8, hk _ _ _ h9⟩

theorem callV_inv (hc : callV P sh f args h fr K) : CallE P f args h fr K := by
  unfold callV at hc
  split at hc
  · refine ⟨[], (fun p hp => by cases hp), ?_⟩
    rw [map_lend_nil]
    have e : over (([] : Lent).map fun p => (p.1, AObj.gone)) h = h := by funext o; rfl
    rw [e]
    exact (callC_inv hc).imp fun r u rd hk => by simpa using hk
  · rename_i p L hL
    have hok : LentOK h (p :: L) := by rw [← hL]; exact lents_ok
    obtain ⟨hl, hc⟩ := asksA_inv hok (fun q hq => by rw [← hL]; exact hq) hc
    split at hc
    · rename_i hb
      simp only [Bool.and_eq_true] at hb
      obtain ⟨rs, ⟨hac, hlt, hk⟩, hs⟩ := resV_inv hc
      refine ⟨[], (fun p hp => by cases hp), ?_⟩
      rw [map_lend_nil]
      have e : over (([] : Lent).map fun p => (p.1, AObj.gone)) h = h := by funext o; rfl
      rw [e]
      refine ⟨[], p :: L, _, [], _, [], hac, .nil, by simp, ⟨rfl, rfl⟩, ?_, hlt, (fun _ hi => nomatch hi), .inr ⟨hok.ok, (fun _ _ hi => nomatch hi), packV_scalar (hs hb.1.1), rfl⟩, ?_⟩
      · rw [hl]
        have : ∀ {l : List TV}, l.all (TV.lt 0) = true → l.map (TV.ren (sub [] fr)) = l := by
          intro l hl
          have key : ∀ x : TV, x.lt 0 = true → x.ren (sub [] fr) = x := by
            have ka : ∀ x : AV, x.lt 0 = true → x.ren (sub [] fr) = x := fun x hx => by cases x <;> simp_all [AV.lt, AV.ren]
            have kla : ∀ l : List AV, l.all (AV.lt 0) = true → l.map (AV.ren (sub [] fr)) = l := fun l hl => by
              induction l with
              | nil => rfl
              | cons x l ih => simp only [List.all_cons, Bool.and_eq_true] at hl; simp only [List.map_cons, ka x hl.1, ih hl.2]
            have klp : ∀ l : List (Bool × List AV), (l.all fun p => p.2.all (AV.lt 0)) = true → (l.map fun p => (p.1, p.2.map (AV.ren (sub [] fr)))) = l := fun l hl => by
              induction l with
              | nil => rfl
              | cons x l ih => simp only [List.all_cons, Bool.and_eq_true] at hl; simp only [List.map_cons, kla x.2 hl.1, ih hl.2]
            have kw : ∀ x : WV, x.lt 0 = true → x.ren (sub [] fr) = x := fun x hx => by
              cases x with
              | a x => simp only [WV.ren, ka x hx]
              | fn f a b => simp only [WV.lt, Bool.and_eq_true] at hx; simp only [WV.ren, klp a hx.1, klp b hx.2]
            have klw : ∀ l : List WV, l.all (WV.lt 0) = true → l.map (WV.ren (sub [] fr)) = l := fun l hl => by
              induction l with
              | nil => rfl
              | cons x l ih => simp only [List.all_cons, Bool.and_eq_true] at hl; simp only [List.map_cons, kw x hl.1, ih hl.2]
            intro x hx
            cases x with
            | any => rfl
            | c x => simp only [TV.ren, kw x hx]
            | agg cs => simp only [TV.ren, klw cs hx]
            | tup vs =>
              simp only [TV.lt] at hx
              simp only [TV.ren]
              congr 1
              induction vs with
              | nil => rfl
              | cons x l ih => simp only [List.all_cons, Bool.and_eq_true] at hx; simp only [List.map_cons, klw x.2 hx.1, ih hx.2]
          induction l with
          | nil => rfl
          | cons x l ih => simp only [List.all_cons, Bool.and_eq_true] at hl; simp only [List.map_cons, key x hl.1, ih hl.2]
        rw [this hlt]; exact all2_refl
      · rw [packV_ren]; simpa [oldObjs, newObjs] using hk
    · refine ⟨p :: L, hok.ok, ?_⟩
      rw [hl]
      exact callC_inv hc
end

/-! ### Regions -/
section
variable (P : Program) (sh : FuncId → List Sh)

def stepV (fr : Nat) (o : Oper) (e : Env) (h : AHeap) (tr : Track) (next : Env → AHeap → Track → Prop) : Prop :=
  match goCall o.op with
  | some c =>
    match calleeOf (ev e) c with
    | some (f, args) => callV P sh f args (hook h) fr fun r h' ids => next (putE o.dst r e) (h' ++ h) ((ids, h'.map Prod.fst) :: tr)
    | none => False
  | none => opV P o fr (ev e) (hook h) fun r => next (putE o.dst r.val e) (r.upd ++ h) ((r.rd, r.upd.map Prod.fst) :: tr)

def lexV (ops : Array Oper) (nx : Nat) : List Oper → Nat → Env → AHeap → Track → (Env → AHeap → Track → Prop) → Prop
  | [], _, e, h, tr, K => K e h tr
  | o :: rest, i, e, h, tr, K => match o.guard with
    | none => stepV P sh (nx + 32 * i) o e h tr fun e h tr => lexV ops nx rest (i + 1) e h tr K
    | some (j, b) => match (ops[j]?).bind (·.dst) with
      | none => False
      | some d => match look e d with
        | .c (.a (.fz (.bool x))) =>
          match b with
          | true => br x (stepV P sh (nx + 32 * i) o ((d, bV true) :: e) h tr fun e h tr => lexV ops nx rest (i + 1) e h tr K)
              (lexV ops nx rest (i + 1) (putE o.dst (.tup []) ((d, bV false) :: e)) h (([], []) :: tr) K)
          | false => br x (lexV ops nx rest (i + 1) (putE o.dst (.tup []) ((d, bV true) :: e)) h (([], []) :: tr) K)
              (stepV P sh (nx + 32 * i) o ((d, bV false) :: e) h tr fun e h tr => lexV ops nx rest (i + 1) e h tr K)
        | .tup [] => lexV ops nx rest (i + 1) (putE o.dst (.tup []) e) h (([], []) :: tr) K
        | _ => False
end

section
variable {P : Program} {sh : FuncId → List Sh}

theorem CallE.imp {f : FuncId} {args : List TV} {h : Nat → AObj} {fr : Nat} {K K' : TV → AHeap → List Nat → Prop} (hc : CallE P f args h fr K) (hk : ∀ r u rd, K r u rd → K' r u rd) : CallE P f args h fr K' := by
  obtain ⟨E, hE, hc⟩ := hc
  exact ⟨E, hE, hc.imp fun r u rd h => hk _ _ _ h⟩
theorem ev_look {e e' : Env} (h : look e = look e') : ev e = ev e' := by funext x; cases x <;> simp only [ev, h]
theorem look_put {e e' : Env} (h : look e = look e') (d : Option Nat) (v : TV) : look (putE d v e) = look (putE d v e') := by
  cases d with
  | none => exact h
  | some i => funext k; simp only [putE, look, h]
theorem look_same {e : Env} {d : Nat} {v : TV} (h : look e d = v) : look ((d, v) :: e) = look e := by
  funext k
  simp only [look]
  split
  · rename_i hk; rw [← hk, h]
  · rfl

theorem stepV_inv {fr : Nat} {o : Oper} {e e' : Env} {h : AHeap} {tr : Track} {next next' : Env → AHeap → Track → Prop} (he : look e = look e') (hs : stepV P sh fr o e h tr next)
    (hn : ∀ d v h1 tr1, next (putE d v e) h1 tr1 → next' (putE d v e') h1 tr1) : stepK P fr o e' h tr next' := by
  unfold stepV at hs
  unfold stepK
  rw [← ev_look he]
  cases hg : goCall o.op with
  | some c =>
    rw [hg] at hs
    simp only at hs ⊢
    cases hcl : calleeOf (ev e) c with
    | some fa => rw [hcl] at hs; simp only at hs ⊢; exact (callV_inv hs).imp fun r u rd hk => hn _ _ _ _ hk
    | none => rw [hcl] at hs; exact hs.elim
  | none =>
    rw [hg] at hs
    simp only at hs ⊢
    obtain ⟨r, hr, hk⟩ := opV_inv hs
    simp only [hr]
    exact hn _ _ _ _ hk

theorem lexV_inv {ops : Array Oper} {nx : Nat} : ∀ {l : List Oper} {i : Nat} {e e' : Env} {h : AHeap} {tr : Track} {K : Env → AHeap → Track → Prop}, look e = look e' → lexV P sh ops nx l i e h tr K →
    lex P ops nx l i e' h tr fun e1 h1 tr1 => ∃ e2, look e2 = look e1 ∧ K e2 h1 tr1
  | [], _, _, _, _, _, _, he, hl => ⟨_, he, hl⟩
  | o :: rest, i, e, e', h, tr, K, he, hl => by
    unfold lexV at hl
    unfold lex guardK
    split at hl
    · rename_i hg
      simp only [want, hg, if_true]
      exact stepV_inv he hl fun d v h1 tr1 hk => lexV_inv (look_put he d v) hk
    · rename_i j b hg
      split at hl
      · exact hl.elim
      · rename_i d hd
        split at hl
        · rename_i x hx
          have hw : want ops o (look e') = some (x == b) := by
            simp only [want, hg, hd, Option.map_some, ← he, hx]
          simp only [hw]
          have hsame : ∀ y, x = y → look ((d, bV y) :: e) = look e' := fun y hy => by
            rw [← he]; exact look_same (by rw [hx, hy]; rfl)
          cases b with
          | true =>
            simp only at hl
            cases x with
            | true => simp only [br, beq_self_eq_true, if_true] at hl ⊢; exact stepV_inv (hsame _ rfl) hl fun d v h1 tr1 hk => lexV_inv (look_put (hsame _ rfl) d v) hk
            | false => simp only [br] at hl; exact lexV_inv (look_put (hsame _ rfl) _ _) hl
          | false =>
            simp only at hl
            cases x with
            | false => simp only [br, beq_self_eq_true, if_true] at hl ⊢; exact stepV_inv (hsame _ rfl) hl fun d v h1 tr1 hk => lexV_inv (look_put (hsame _ rfl) d v) hk
            | true => simp only [br] at hl; exact lexV_inv (look_put (hsame _ rfl) _ _) hl
        · rename_i hx
          have hw : want ops o (look e') = some false := by
            simp only [want, hg, hd, Option.map_some, ← he, hx]
          simp only [hw, Bool.false_eq_true, if_false]
          exact lexV_inv (look_put he _ _) hl
        · exact hl.elim
end
end Go.AM
