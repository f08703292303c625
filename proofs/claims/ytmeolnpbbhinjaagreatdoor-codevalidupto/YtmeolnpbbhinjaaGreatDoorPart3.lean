/- A calculus of plain values for the model's code, what the code of each function asks (computed by the kernel), contracts of the functions, and plain laws (part 3). No conditions. -/
import Derived.Test.YtmeolnpbbhinjaaGreatDoorPart2
import Derived.LoopN
import Derived.IntWalk
import Derived.RangeFuncIn
import Derived.ProofKit
import Derived.OpenShut
import Derived.JoinedCond
import Derived.WalkKit
import Derived.Lib.Builder
import Derived.Lib.AppendStr
import Derived.Lib.UnsafeStr
import Derived.Lib.Walk
import Derived.Lib.MakeNoZero
import Derived.Laws.Externs
namespace Go.AM
def AV.ids : AV → List Nat
 | .ep o _ _ _ => [o]
 | .osl o _ _ _ => [o]
 | .mp o => [o]
 | .bld _ o => [o]
 | .osb o _ _ => [o]
 | _ => []
def WV.ids : WV → List Nat
 | .a x => x.ids
 | .fn _ first cap => (first.flatMap fun p => p.2.flatMap AV.ids) ++ (cap.flatMap fun p => p.2.flatMap AV.ids)
def TV.ids : TV → List Nat
 | .any => []
 | .c x => x.ids
 | .agg cs => cs.flatMap WV.ids
 | .tup vs => vs.flatMap fun p => p.2.flatMap WV.ids
def AObj.ids : AObj → List Nat
 | .arr _ es => es.flatMap fun e => e.flatMap WV.ids
 | .mapo es => es.flatMap fun e => e.2.2.flatMap WV.ids
 | _ => []
def AV.inn (l : List Nat) : AV → Bool
 | .ep o _ _ _ => l.contains o
 | .osl o _ _ _ => l.contains o
 | .mp o => l.contains o
 | .bld _ o => l.contains o
 | .osb o _ _ => l.contains o
 | _ => true
def WV.inn (l : List Nat) : WV → Bool
 | .a x => x.inn l
 | .fn _ first cap => (first.all fun p => p.2.all (AV.inn l)) && (cap.all fun p => p.2.all (AV.inn l))
def TV.inn (l : List Nat) : TV → Bool
 | .any => true
 | .c x => x.inn l
 | .agg cs => cs.all (WV.inn l)
 | .tup vs => vs.all fun p => p.2.all (WV.inn l)
def AObj.inn (l : List Nat) : AObj → Bool
 | .arr _ es => es.all fun e => e.all (WV.inn l)
 | .mapo es => es.all fun e => e.2.2.all (WV.inn l)
 | _ => true
def zgr (h : Nat → AObj) : Nat → List Nat → List Nat → List Nat
 | 0, _, seen => seen
 | _ + 1, [], seen => seen
 | k + 1, o :: todo, seen => match seen.contains o with
  | true => zgr h k todo seen
  | false => zgr h k ((h o).ids ++ todo) (seen ++ [o])
def keep (m : Nat) (U : List Nat) : List Nat := (List.range m).filter fun o => !U.contains o
def z94 (m : Nat) (U : List Nat) (h : Nat → AObj) (todo : List Nat) : List Nat := (zgr h 200 (keep m U ++ todo) []).filter fun o => Nat.ble m o || U.contains o
def inv (ids : List Nat) (o : Nat) : Nat := ids.idxOf o
def z7w : List Nat → Bool
 | [] => true
 | x :: l => !l.contains x && z7w l
theorem z2j : ∀ {l : List Nat}, z7w l = true → l.Nodup
 | [], _ => .nil
 | x :: l, h => by
  simp only [z7w, Bool.and_eq_true, Bool.not_eq_true', List.contains_eq_mem, decide_eq_false_iff_not] at h
  exact List.nodup_cons.2 ⟨h.1, z2j h.2⟩
def liveB : AObj → Bool | .gone => false | _ => true
theorem zjc {x : AObj} (h : liveB x = true) : isLive x := by cases x <;> simp_all [liveB, isLive]
section
def Back (A : List Nat) (ν σ : Nat → Nat) (N : Nat) : Prop := ∀ o, A.contains o = true → ν o < N ∧ σ (ν o) = o
variable {A : List Nat} {ν σ : Nat → Nat} {N : Nat}
theorem AV.renV (H : Back A ν σ N) {x : AV} (h : x.inn A = true) : (x.ren ν).ren σ = x ∧ (x.ren ν).lt N = true := by
 cases x <;> simp only [AV.inn] at h <;> simp only [AV.ren, AV.lt, and_self, decide_eq_true_eq] <;> have := H _ h <;> simp [this]
theorem z2v {α : Type} {f g : α → α} {p q : α → Bool} (hfg : ∀ x, p x = true → g (f x) = x ∧ q (f x) = true) : ∀ {l : List α}, l.all p = true → (l.map f).map g = l ∧ (l.map f).all q = true
 | [], _ => ⟨rfl, rfl⟩
 | x :: l, h => by
  simp only [List.all_cons, Bool.and_eq_true] at h
  have h1 := hfg x h.1
  have h2 := z2v hfg h.2
  exact ⟨by simp only [List.map_cons, h1.1, h2.1], by simp only [List.map_cons, List.all_cons, h1.2, h2.2, Bool.and_self]⟩
theorem zg2 {α β : Type} {f g : α → α} {p q : α → Bool} (hfg : ∀ x, p x = true → g (f x) = x ∧ q (f x) = true) (x : β × List α) (h : x.2.all p = true) :
  ((x.1, (x.2.map f).map g) : β × List α) = x ∧ (x.2.map f).all q = true := by
 have := z2v hfg h
 exact ⟨by rw [this.1], this.2⟩
theorem WV.renV (H : Back A ν σ N) {x : WV} (h : x.inn A = true) : (x.ren ν).ren σ = x ∧ (x.ren ν).lt N = true := by
 cases x with
 | a x => simp only [WV.ren, WV.lt, WV.inn] at h ⊢; have := AV.renV H h; simp [this]
 | fn f first cap =>
  simp only [WV.inn, Bool.and_eq_true] at h
  have key : ∀ l : List (Bool × List AV), (l.all fun p => p.2.all (AV.inn A)) = true →
    ((l.map fun p => (p.1, p.2.map (AV.ren ν))).map fun p => (p.1, p.2.map (AV.ren σ))) = l ∧ ((l.map fun p => (p.1, p.2.map (AV.ren ν))).all fun p => p.2.all (AV.lt N)) = true :=
   fun l hl => z2v (p := fun p => p.2.all (AV.inn A)) (fun x hx => zg2 (fun y hy => AV.renV H hy) x hx) hl
  simp only [WV.ren, WV.lt, (key _ h.1).1, (key _ h.2).1, (key _ h.1).2, (key _ h.2).2, Bool.and_self, and_self]
theorem TV.renV (H : Back A ν σ N) {x : TV} (h : x.inn A = true) : (x.ren ν).ren σ = x ∧ (x.ren ν).lt N = true := by
 cases x with
 | any => exact ⟨rfl, rfl⟩
 | c x => simp only [TV.ren, TV.lt, TV.inn] at h ⊢; have := WV.renV H h; simp [this]
 | agg cs => simp only [TV.ren, TV.lt, TV.inn] at h ⊢; have := z2v (fun x hx => WV.renV H (x := x) hx) h; simp only [this.1, this.2, and_self]
 | tup vs =>
  simp only [TV.ren, TV.lt, TV.inn] at h ⊢
  have := z2v (f := fun p : Bool × List WV => (p.1, p.2.map (WV.ren ν))) (g := fun p => (p.1, p.2.map (WV.ren σ))) (q := fun p => p.2.all (WV.lt N)) (fun x hx => zg2 (fun y hy => WV.renV H hy) x hx) h
  simp only [this.1, this.2, and_self]
theorem AObj.renV (H : Back A ν σ N) {x : AObj} (h : x.inn A = true) : (x.ren ν).ren σ = x ∧ (x.ren ν).lt N = true := by
 cases x with
 | gone => exact ⟨rfl, rfl⟩
 | arz n fs => exact ⟨rfl, rfl⟩
 | mapz es => exact ⟨rfl, rfl⟩
 | arr n es =>
  simp only [AObj.ren, AObj.lt, AObj.inn] at h ⊢
  have := z2v (f := fun e => e.map (WV.ren ν)) (g := fun e => e.map (WV.ren σ)) (q := fun e => e.all (WV.lt N)) (fun x hx => z2v (fun y hy => WV.renV H hy) hx) h
  simp only [this.1, this.2, and_self]
 | mapo es =>
  simp only [AObj.ren, AObj.lt, AObj.inn] at h ⊢
  have := z2v (f := fun e : (Bool × List FV) × (Bool × List WV) => (e.1, (e.2.1, e.2.2.map (WV.ren ν)))) (g := fun e => (e.1, (e.2.1, e.2.2.map (WV.ren σ)))) (q := fun e => e.2.2.all (WV.lt N)) (p := fun e => e.2.2.all (WV.inn A))
   (fun x hx => by
    have := z2v (f := WV.ren ν) (g := WV.ren σ) (q := WV.lt N) (fun y hy => WV.renV H hy) hx
    exact ⟨by rw [this.1], this.2⟩) h
  simp only [this.1, this.2, and_self]
end
section
variable {ids : List Nat} {fr : Nat}
theorem inv_ok {o : Nat} (h : ids.contains o = true) : inv ids o < ids.length ∧ sub ids fr (inv ids o) = o := by
 simp only [List.contains_eq_mem, decide_eq_true_eq] at h
 have h1 : ids.idxOf o < ids.length := List.idxOf_lt_length_iff.2 h
 refine ⟨h1, ?_⟩
 simp only [inv, sub, h1, if_true]
 rw [List.getD, List.getElem?_eq_getElem h1, Option.getD_some]
 exact List.getElem_idxOf h1
theorem TV.ren_inv {x : TV} (h : x.inn ids = true) : (x.ren (inv ids)).ren (sub ids fr) = x ∧ (x.ren (inv ids)).lt ids.length = true := TV.renV (fun _ h => inv_ok h) h
theorem AObj.ren_inv {x : AObj} (h : x.inn ids = true) : (x.ren (inv ids)).ren (sub ids fr) = x ∧ (x.ren (inv ids)).lt ids.length = true := AObj.renV (fun _ h => inv_ok h) h
end
def zex (h : Nat → AObj) : WV → Lent
 | .a (.osl o _ _ _) => match h o with | .arz n fs => [(o, n, fs)] | _ => []
 | _ => []
def zc (h : Nat → AObj) : TV → Lent
 | .c x => zex h x
 | .agg cs => cs.flatMap (zex h)
 | _ => []
def asksA (h : Nat → AObj) : List TV → Prop → Prop
 | [], K => K
 | x :: r, K => asksT h x (asksA h r K)
def LentOK (h : Nat → AObj) (L : Lent) : Prop := ∀ p ∈ L, h p.1 = .arz p.2.1 p.2.2
theorem LentOK.ok {h : Nat → AObj} {L : Lent} (hl : LentOK h L) : L.ok h := fun p hp => by rw [hl p hp]; rfl
theorem zgd {h : Nat → AObj} {x : WV} : LentOK h (zex h x) := by
 intro p hp
 cases x with
 | fn f a b => cases hp
 | a x => cases x with
  | osl o n off len =>
   simp only [zex] at hp
   split at hp
   · rename_i m fs he
     simp only [List.mem_singleton] at hp; subst hp; exact he
   · cases hp
  | _ => cases hp
theorem lentT_ok {h : Nat → AObj} {x : TV} : LentOK h (zc h x) := by
 intro p hp
 cases x with
 | c x => exact zgd p hp
 | agg cs => obtain ⟨c, _, hc⟩ := List.mem_flatMap.1 hp; exact zgd p hc
 | _ => cases hp
theorem zaf {h : Nat → AObj} {l : List TV} : LentOK h (l.flatMap (zc h)) := by
 intro p hp
 obtain ⟨c, _, hc⟩ := List.mem_flatMap.1 hp; exact lentT_ok p hc
theorem z7e {h : Nat → AObj} : ∀ {L : Lent} {o n : Nat} {fs : List (List FV)}, LentOK h L → h o = .arz n fs → (o, n, fs) ∈ L → z09 L o = some (n, fs)
 | (j, m, gs) :: L, o, n, fs, hl, ho, hm => by
  simp only [z09]
  split
  · rename_i hj
    have := hl _ List.mem_cons_self
    subst hj
    simp only [ho, AObj.arz.injEq] at this
    rw [this.1, this.2]
  · rename_i hj
    rcases List.mem_cons.1 hm with e | hm
    · exact absurd (by injection e with e _; exact e.symm) hj
    · exact z7e (fun p hp => hl p (List.mem_cons_of_mem _ hp)) ho hm
theorem z67 {α : Type} : ∀ {L : List (Nat × α)} {o : Nat}, (∀ p ∈ L, p.1 ≠ o) → z09 L o = none
 | [], _, _ => rfl
 | (j, x) :: L, o, h => by
  simp only [z09]
  rw [if_neg (h _ List.mem_cons_self)]
  exact z67 fun p hp => h p (List.mem_cons_of_mem _ hp)
theorem zbs {h : Nat → AObj} {L : Lent} {x : WV} (hl : LentOK h L) (hs : ∀ p ∈ zex h x, p ∈ L) (hf : zb2 h x) : x.lend L = (givW h x).1 := by
 cases x with
 | fn f a b => rfl
 | a x => cases x with
  | osl o n off len =>
   simp only [WV.lend, AV.lend, givW, zex, zb2] at hs hf ⊢
   cases ho : h o with
   | arz m fs =>
    rw [ho] at hs hf
    rw [z7e hl ho (hs _ List.mem_cons_self)]
    simp only at hf ⊢
    rw [if_pos hf]
   | _ =>
    rw [z67]
    intro p hp e
    have := hl p hp
    rw [e, ho] at this; cases this
  | _ => rfl
theorem z9j {h : Nat → AObj} {L : Lent} (hl : LentOK h L) : ∀ {cs : List WV}, (∀ p ∈ cs.flatMap (zex h), p ∈ L) → z50 h cs → cs.map (WV.lend L) = (zbu h cs).1
 | [], _, _ => rfl
 | x :: r, hs, hf => by
  have hf := z7t hf
  simp only [List.map_cons, zbu, zbs hl (fun p hp => hs p (by simp [hp])) hf.1, z9j hl (cs := r) (fun p hp => hs p (by simp only [List.flatMap_cons, List.mem_append]; exact .inr hp)) hf.2]
theorem zji {h : Nat → AObj} {L : Lent} {x : TV} (hl : LentOK h L) (hs : ∀ p ∈ zc h x, p ∈ L) (hf : zkj h x) : x.lend L = (givT h x).1 := by
 cases x with
 | c x => simp only [TV.lend, givT, zbs hl hs (zjb hf)]
 | agg cs => simp only [TV.lend, givT, z9j hl hs hf]
 | _ => rfl
theorem z72 {h : Nat → AObj} {L : Lent} (hl : LentOK h L) : ∀ {l : List TV} {K : Prop}, (∀ p ∈ l.flatMap (zc h), p ∈ L) → asksA h l K → l.map (TV.lend L) = l.map (fun x => (givT h x).1) ∧ K
 | [], _, _, hk => ⟨rfl, hk⟩
 | x :: r, K, hs, hk => by
  obtain ⟨h1, h2⟩ := zcz hk
  obtain ⟨h3, h4⟩ := z72 hl (l := r) (fun p hp => hs p (by simp only [List.flatMap_cons, List.mem_append]; exact .inr hp)) h2
  exact ⟨by simp only [List.map_cons, h3, zji hl (fun p hp => hs p (by simp only [List.flatMap_cons, List.mem_append]; exact .inl hp)) h1], h4⟩
def resV (P : Program) : List TypeId → (List (Bool × List FV) → Prop) → Prop
 | [], K => K []
 | t :: ts, K => tyP P t fun d => match d.zero with
  | some z => exC z fun l => resV P ts fun r => K ((d.agg, l) :: r)
  | none => False
def zas : List (Bool × List FV) → TV
 | [(true, l)] => .agg (fzs l)
 | [(false, [x])] => .c (cell x)
 | l => .tup (l.map fun p => (p.1, fzs p.2))
def scalZ (P : Program) (ts : List TypeId) : Bool := ts.all fun t => match tyOf P t with
 | some d => match d.zero with
  | some z => z.all fun f => match f with | .int _ _ => true | .bool _ => true | .str _ => true | _ => false
  | none => false
 | none => false
theorem za8 {P : Program} : ∀ {ts : List TypeId} {K : List (Bool × List FV) → Prop}, resV P ts K → ∃ l, K l ∧ (scalZ P ts = true → ∀ p ∈ l, p.2.all FV.scalar = true)
 | [], K, h => ⟨[], h, fun _ _ hp => by cases hp⟩
 | t :: ts, K, h => by
  obtain ⟨d, hd, h⟩ := z0o h
  split at h
  · rename_i z hz
    obtain ⟨l, h, _, hs⟩ := zen h
    obtain ⟨r, h, hs2⟩ := za8 h
    refine ⟨_, h, fun hsc => ?_⟩
    simp only [scalZ, List.all_cons, Bool.and_eq_true, hd, hz] at hsc
    intro p hp
    rcases List.mem_cons.1 hp with rfl | hp
    · exact hs hsc.1
    · exact hs2 (by simpa [scalZ] using hsc.2) p hp
  · exact h.elim
theorem zj5 (σ : Nat → Nat) (l : List FV) : (fzs l).map (WV.ren σ) = fzs l := by
 simp only [fzs, List.map_map]
 exact List.map_congr_left fun x _ => rfl
theorem zdk (σ : Nat → Nat) (l : List (Bool × List FV)) : (zas l).ren σ = zas l := by
 unfold zas
 split
 · simp only [TV.ren, zj5]
 · rfl
 · simp only [TV.ren, List.map_map]
   congr 1
   exact List.map_congr_left fun p _ => by simp [zj5]
theorem z95 {l : List FV} (h : l.all FV.scalar = true) : (fzs l).all WV.scalar = true := by
 simp only [fzs, List.all_map]; exact h
theorem zcq {l : List (Bool × List FV)} (h : ∀ p ∈ l, p.2.all FV.scalar = true) : (zas l).scalar = true := by
 unfold zas
 split
 · exact z95 (h _ List.mem_cons_self)
 · have := h _ List.mem_cons_self; simpa [TV.scalar, WV.scalar, cell, AV.scalar] using this
 · simp only [TV.scalar, List.all_map, List.all_eq_true]
   exact fun p hp => z95 (h p hp)
structure Sh where
 X : Type
 val : X → TV
 obs : X → List AObj → List AObj
 fz : Bool
 mu : Bool
def ownB : List Sh → Bool
 | [] => false
 | S :: l => !S.fz || ownB l
def mutB : List Sh → Bool
 | [] => false
 | S :: l => S.mu || mutB l
def zit (P : Program) (f : FuncId) : List TypeId := match P.funcs[f]? with | some fn => fn.resultTypes.toList | none => []
section
variable (P : Program) (sh : FuncId → List Sh)
def altV (A : Sh → Prop) : List Sh → Prop
 | [] => False
 | [S] => A S
 | S :: T :: l => A S ∨ altV A (T :: l)
theorem zgb {A : Sh → Prop} : ∀ {l : List Sh}, altV A l → ∃ S, A S
 | [], h => h.elim
 | [S], h => ⟨S, h⟩
 | S :: T :: l, h => h.elim (fun h => ⟨S, h⟩) fun h => zgb (l := T :: l) h
def zgq (f : FuncId) (args : List TV) (h : Nat → AObj) (fr : Nat) (K : TV → AHeap → List Nat → Prop) : Prop :=
 match zgr h 200 (args.flatMap TV.ids) [] with
 | ids => match z7w ids && ids.all (fun o => liveB (h o) && (h o).inn ids) && args.all (TV.inn ids) && ids.all (fun o => Nat.blt o fr) with
  | true => match sh f with
   | _ :: _ => altV (fun S => ∃ x : S.X, AC P f (args.map (TV.ren (inv ids))) (ids.map fun o => (h o).ren (inv ids)) (S.val x) (S.obs x (ids.map fun o => (h o).ren (inv ids))) ∧
     match Nat.ble (S.obs x (ids.map fun o => (h o).ren (inv ids))).length (ids.length + 32) with
     | true => K ((S.val x).ren (sub ids fr)) (z1b (sub ids fr) ids (S.obs x (ids.map fun o => (h o).ren (inv ids))) ++ z1i (sub ids fr) fr ((S.obs x (ids.map fun o => (h o).ren (inv ids))).drop ids.length)) ids
     | false => False) (sh f)
   | [] => resV P (zit P f) fun rs => AC P f (args.map (TV.ren (inv ids))) (ids.map fun o => (h o).ren (inv ids)) (zas rs) (ids.map fun o => (h o).ren (inv ids)) ∧
     K (zas rs) (z1b (sub ids fr) ids (ids.map fun o => (h o).ren (inv ids))) ids
  | false => False
def callL (f : FuncId) (args : List TV) (h : Nat → AObj) (fr : Nat) (K : TV → AHeap → List Nat → Prop) : Prop :=
 match args.flatMap (zc h) with
 | [] => zgq P sh f args h fr K
 | p :: L => asksA h args (match scalZ P (zit P f) && (zgr h 200 ((args.map fun x => (givT h x).1).flatMap TV.ids) []).isEmpty && (sh f).isEmpty with
  | true => resV P (zit P f) fun rs => AC P f (args.map fun x => (givT h x).1) [] (zas rs) [] ∧ ((args.map fun x => (givT h x).1).all (TV.lt 0) = true ∧ K (zas rs) [] ((p :: L).map Prod.fst))
  | false => zgq P sh f (args.map fun x => (givT h x).1) (over ((p :: L).map fun p => (p.1, AObj.gone)) h) fr
    (fun r u rd => K r (u ++ (p :: L).map fun p => (p.1, AObj.gone)) (rd ++ (p :: L).map Prod.fst)))
def callV (f : FuncId) (args : List TV) (h : Nat → AObj) (fr : Nat) (K : TV → AHeap → List Nat → Prop) : Prop :=
 match mutB (sh f) with
 | true => zgq P sh f args h fr K
 | false => callL P sh f args h fr K
end
section
variable {P : Program} {sh : FuncId → List Sh} {f : FuncId} {args : List TV} {h : Nat → AObj} {fr : Nat} {K K' : TV → AHeap → List Nat → Prop}
theorem z3w : ∀ {l : List TV}, All2 TV.Le l l
 | [] => trivial
 | x :: _ => ⟨.refl x, z3w⟩
theorem zdv {ids : List Nat} {fr : Nat} {args : List TV} (h : args.all (TV.inn ids) = true) : (args.map (TV.ren (inv ids))).map (TV.ren (sub ids fr)) = args ∧ (args.map (TV.ren (inv ids))).all (TV.lt ids.length) = true :=
 z2v (fun _ hx => TV.ren_inv hx) h
theorem z0v (l : List TV) : l.map (TV.lend []) = l := by
 have : TV.lend [] = id := by
  funext x
  have hw : ∀ y : WV, y.lend [] = y := fun y => by
   cases y with
   | a y => cases y <;> rfl
   | fn f a b => rfl
  cases x with
  | any => rfl
  | c x => simp only [TV.lend, hw, id]
  | agg cs => simp only [TV.lend, id, show WV.lend [] = id from funext hw, List.map_id]
  | tup vs => rfl
 rw [this, List.map_id]
theorem z6c {ids : List Nat} {fr : Nat} : ∀ {l : List Nat}, (l.all fun o => liveB (h o) && (h o).inn ids) = true →
  ((l.map fun o => (h o).ren (inv ids)).map (AObj.ren (sub ids fr)) = l.map h ∧ (l.map fun o => (h o).ren (inv ids)).all (AObj.lt ids.length) = true) ∧ ∀ i ∈ l, isLive (h i)
 | [], _ => ⟨⟨rfl, rfl⟩, fun _ hi => by cases hi⟩
 | o :: l, hl => by
  simp only [List.all_cons, Bool.and_eq_true] at hl
  have h1 := AObj.ren_inv (fr := fr) hl.1.2
  have h2 := z6c (fr := fr) (l := l) hl.2
  refine ⟨⟨by simp only [List.map_cons, h1.1, h2.1.1], by simp only [List.map_cons, List.all_cons, h1.2, h2.1.2, Bool.and_self]⟩, fun i hi => ?_⟩
  rcases List.mem_cons.1 hi with rfl | hi
  · exact zjc hl.1.1
  · exact h2.2 i hi
theorem z7l (hc : zgq P sh f args h fr K) : CallK P f args h fr K := by
 unfold zgq at hc
 generalize zgr h 200 (args.flatMap TV.ids) [] = ids at hc
 simp only at hc
 split at hc
 · rename_i hb
   simp only [Bool.and_eq_true] at hb
   obtain ⟨⟨⟨h1, h2⟩, h3⟩, h0⟩ := hb
   have h0 : ∀ i ∈ ids, i < fr := fun i hi => Nat.le_of_ble_eq_true (List.all_eq_true.1 h0 i hi)
   have ha := zdv (fr := fr) h3
   have ho := z6c (fr := fr) h2
   split at hc
   · obtain ⟨S, x, hac, hc⟩ := zgb hc
     split at hc
     · rename_i hlen
       refine ⟨ids, [], _, _, _, _, hac, ⟨z2j h1, h0⟩, Nat.le_of_ble_eq_true hlen, ho.1, ?_, ha.2, ho.2, .inl rfl, by simpa using hc⟩
       rw [z0v, ha.1]; exact z3w
     · exact hc.elim
   · obtain ⟨rs, ⟨hac, hk⟩, _⟩ := za8 hc
     refine ⟨ids, [], _, _, _, _, hac, ⟨z2j h1, h0⟩, by simp, ho.1, ?_, ha.2, ho.2, .inl rfl, ?_⟩
     · rw [z0v, ha.1]; exact z3w
     · rw [zdk, List.drop_eq_nil_of_le (by simp)]
       simpa [z1i] using hk
 · exact hc.elim
theorem CallK.imp (hc : CallK P f args h fr K) (hk : ∀ r u rd, K r u rd → K' r u rd) : CallK P f args h fr K' := by
 obtain ⟨ids, L, args', Hs, r, Hs', h1, h2, h3, h4, h5, h6, h7, h8, h9⟩ := hc
 exact ⟨ids, L, args', Hs, r, Hs', h1, h2, h3, h4, h5, h6, h7, h8, hk _ _ _ h9⟩
theorem zj (hc : callL P sh f args h fr K) : CallE P f args h fr K := by
 unfold callL at hc
 split at hc
 · refine ⟨[], (fun p hp => by cases hp), ?_⟩
   rw [z0v]
   have e : over (([] : Lent).map fun p => (p.1, AObj.gone)) h = h := by funext o; rfl
   rw [e]
   exact (z7l hc).imp fun r u rd hk => by simpa using hk
 · rename_i p L hL
   have hok : LentOK h (p :: L) := by rw [← hL]; exact zaf
   obtain ⟨hl, hc⟩ := z72 hok (fun q hq => by rw [← hL]; exact hq) hc
   split at hc
   · rename_i hb
     simp only [Bool.and_eq_true] at hb
     obtain ⟨rs, ⟨hac, hlt, hk⟩, hs⟩ := za8 hc
     refine ⟨[], (fun p hp => by cases hp), ?_⟩
     rw [z0v]
     have e : over (([] : Lent).map fun p => (p.1, AObj.gone)) h = h := by funext o; rfl
     rw [e]
     refine ⟨[], p :: L, _, [], _, [], hac, ⟨.nil, fun _ hi => nomatch hi⟩, by simp, ⟨rfl, rfl⟩, ?_, hlt, (fun _ hi => nomatch hi), .inr ⟨hok.ok, (fun _ _ hi => nomatch hi), zcq (hs hb.1.1), rfl⟩, ?_⟩
     · rw [hl]
       have : ∀ {l : List TV}, l.all (TV.lt 0) = true → l.map (TV.ren (sub [] fr)) = l := by
        intro l hl
        have key : ∀ x : TV, x.lt 0 = true → x.ren (sub [] fr) = x := by
         have ka : ∀ x : AV, x.lt 0 = true → x.ren (sub [] fr) = x := fun x hx => by cases x <;> simp_all [AV.lt, AV.ren]
         have kla : ∀ l : List AV, l.all (AV.lt 0) = true → l.map (AV.ren (sub [] fr)) = l := fun l hl => by
          induction l with
          | nil => rfl
          | cons x l ih => simp only [List.all_cons, Bool.and_eq_true] at hl; simp only [List.map_cons, ka x hl.1, ih hl.2]
         have klp : ∀ l : List (Bool × List AV), (l.all fun p => p.2.all (AV.lt 0)) = true → (l.map fun p => (p.1, p.2.map (AV.ren (sub [] fr)))) = l := fun l hl => by
          induction l with
          | nil => rfl
          | cons x l ih => simp only [List.all_cons, Bool.and_eq_true] at hl; simp only [List.map_cons, kla x.2 hl.1, ih hl.2]
         have kw : ∀ x : WV, x.lt 0 = true → x.ren (sub [] fr) = x := fun x hx => by
          cases x with
          | a x => simp only [WV.ren, ka x hx]
          | fn f a b => simp only [WV.lt, Bool.and_eq_true] at hx; simp only [WV.ren, klp a hx.1, klp b hx.2]
         have klw : ∀ l : List WV, l.all (WV.lt 0) = true → l.map (WV.ren (sub [] fr)) = l := fun l hl => by
          induction l with
          | nil => rfl
          | cons x l ih => simp only [List.all_cons, Bool.and_eq_true] at hl; simp only [List.map_cons, kw x hl.1, ih hl.2]
         intro x hx
         cases x with
         | any => rfl
         | c x => simp only [TV.ren, kw x hx]
         | agg cs => simp only [TV.ren, klw cs hx]
         | tup vs =>
          simp only [TV.lt] at hx
          simp only [TV.ren]
          congr 1
          induction vs with
          | nil => rfl
          | cons x l ih => simp only [List.all_cons, Bool.and_eq_true] at hx; simp only [List.map_cons, klw x.2 hx.1, ih hx.2]
        induction l with
        | nil => rfl
        | cons x l ih => simp only [List.all_cons, Bool.and_eq_true] at hl; simp only [List.map_cons, key x hl.1, ih hl.2]
       rw [this hlt]; exact z3w
     · rw [zdk]; simpa [z1b, z1i] using hk
   · refine ⟨p :: L, hok.ok, ?_⟩
     rw [hl]
     exact z7l hc
theorem callC_E (hc : zgq P sh f args h fr K) : CallE P f args h fr K := by
 refine ⟨[], (fun p hp => by cases hp), ?_⟩
 rw [z0v]
 have e : over (([] : Lent).map fun p => (p.1, AObj.gone)) h = h := by funext o; rfl
 rw [e]
 exact (z7l hc).imp fun r u rd hk => by simpa using hk
theorem zk4 (hc : callV P sh f args h fr K) : CallE P f args h fr K := by
 unfold callV at hc
 split at hc
 · exact callC_E hc
 · exact zj hc
end
section
variable (P : Program) (sh : FuncId → List Sh)
def softV (P : Program) (o : Oper) (fr : Nat) (ρ : Operand → TV) (h : Nat → AObj) (r : AR) (K : AR → Prop) : Prop :=
 match z5l P o fr ρ h r with | ⟨v, u, d⟩ => K ⟨v, u, d⟩
def zkg (fr : Nat) (o : Oper) (e : Env) (h : AHeap) (tr : z2x) (next : Env → AHeap → z2x → Prop) : Prop :=
 match goCall o.op with
 | some c =>
  match calleeOf (ev e) c with
  | some (f, args) => callV P sh f args (hook h) fr fun r h' ids => next (putE o.dst r e) (h' ++ h) ((ids, h'.map Prod.fst) :: tr)
  | none => False
 | none => opV P o fr (ev e) (hook h) fun r => softV P o fr (ev e) (hook h) r fun r => next (putE o.dst r.val e) (r.upd ++ h) ((r.rd, r.upd.map Prod.fst) :: tr)
def lexV (ops : Array Oper) (nx : Nat) : List Oper → Nat → Env → AHeap → z2x → (Env → AHeap → z2x → Prop) → Prop
 | [], _, e, h, tr, K => K e h tr
 | o :: rest, i, e, h, tr, K => match o.guard with
  | none => zkg P sh (nx + 32 * i) o e h tr fun e h tr => lexV ops nx rest (i + 1) e h tr K
  | some (j, b) => match (ops[j]?).bind (·.dst) with
   | none => False
   | some d => match look e d with
    | .c (.a (.fz (.bool x))) =>
     match b with
     | true => br x (zkg P sh (nx + 32 * i) o ((d, bV true) :: e) h tr fun e h tr => lexV ops nx rest (i + 1) e h tr K)
       (lexV ops nx rest (i + 1) (putE o.dst (.tup []) ((d, bV false) :: e)) h (([], []) :: tr) K)
     | false => br x (lexV ops nx rest (i + 1) (putE o.dst (.tup []) ((d, bV true) :: e)) h (([], []) :: tr) K)
       (zkg P sh (nx + 32 * i) o ((d, bV false) :: e) h tr fun e h tr => lexV ops nx rest (i + 1) e h tr K)
    | .tup [] => lexV ops nx rest (i + 1) (putE o.dst (.tup []) e) h (([], []) :: tr) K
    | _ => False
end
section
variable {P : Program} {sh : FuncId → List Sh}
theorem CallE.imp {f : FuncId} {args : List TV} {h : Nat → AObj} {fr : Nat} {K K' : TV → AHeap → List Nat → Prop} (hc : CallE P f args h fr K) (hk : ∀ r u rd, K r u rd → K' r u rd) : CallE P f args h fr K' := by
 obtain ⟨E, hE, hc⟩ := hc
 exact ⟨E, hE, hc.imp fun r u rd h => hk _ _ _ h⟩
theorem ev_look {e e' : Env} (h : look e = look e') : ev e = ev e' := by funext x; cases x <;> simp only [ev, h]
theorem z4b {e e' : Env} (h : look e = look e') (d : Option Nat) (v : TV) : look (putE d v e) = look (putE d v e') := by
 cases d with
 | none => exact h
 | some i => funext k; simp only [putE, look, h]
theorem zcm {e : Env} {d : Nat} {v : TV} (h : look e d = v) : look ((d, v) :: e) = look e := by
 funext k
 simp only [look]
 split
 · rename_i hk; rw [← hk, h]
 · rfl
theorem z7d {fr : Nat} {o : Oper} {e e' : Env} {h : AHeap} {tr : z2x} {next next' : Env → AHeap → z2x → Prop} (he : look e = look e') (hs : zkg P sh fr o e h tr next)
  (hn : ∀ d v h1 tr1, next (putE d v e) h1 tr1 → next' (putE d v e') h1 tr1) : zib P fr o e' h tr next' := by
 unfold zkg at hs
 unfold zib
 rw [← ev_look he]
 cases hg : goCall o.op with
 | some c =>
  rw [hg] at hs
  simp only at hs ⊢
  cases hcl : calleeOf (ev e) c with
  | some fa => rw [hcl] at hs; simp only at hs ⊢; exact (zk4 hs).imp fun r u rd hk => hn _ _ _ _ hk
  | none => rw [hcl] at hs; exact hs.elim
 | none =>
  rw [hg] at hs
  simp only at hs ⊢
  obtain ⟨r, hr, hk⟩ := opV_inv hs
  simp only [aopS, hr, Option.map_some]
  exact hn _ _ _ _ hk
theorem z3g {ops : Array Oper} {nx : Nat} : ∀ {l : List Oper} {i : Nat} {e e' : Env} {h : AHeap} {tr : z2x} {K : Env → AHeap → z2x → Prop}, look e = look e' → lexV P sh ops nx l i e h tr K →
  lex P ops nx l i e' h tr fun e1 h1 tr1 => ∃ e2, look e2 = look e1 ∧ K e2 h1 tr1
 | [], _, _, _, _, _, _, he, hl => ⟨_, he, hl⟩
 | o :: rest, i, e, e', h, tr, K, he, hl => by
  unfold lexV at hl
  unfold lex zg0
  split at hl
  · rename_i hg
    simp only [want, hg, if_true]
    exact z7d he hl fun d v h1 tr1 hk => z3g (z4b he d v) hk
  · rename_i j b hg
    split at hl
    · exact hl.elim
    · rename_i d hd
      split at hl
      · rename_i x hx
        have hw : want ops o (look e') = some (x == b) := by
         simp only [want, hg, hd, Option.map_some, ← he, hx]
        simp only [hw]
        have hsame : ∀ y, x = y → look ((d, bV y) :: e) = look e' := fun y hy => by
         rw [← he]; exact zcm (by rw [hx, hy]; rfl)
        cases b with
        | true =>
         simp only at hl
         cases x with
         | true => simp only [br, beq_self_eq_true, if_true] at hl ⊢; exact z7d (hsame _ rfl) hl fun d v h1 tr1 hk => z3g (z4b (hsame _ rfl) d v) hk
         | false => simp only [br] at hl; exact z3g (z4b (hsame _ rfl) _ _) hl
        | false =>
         simp only at hl
         cases x with
         | false => simp only [br, beq_self_eq_true, if_true] at hl ⊢; exact z7d (hsame _ rfl) hl fun d v h1 tr1 hk => z3g (z4b (hsame _ rfl) d v) hk
         | true => simp only [br] at hl; exact z3g (z4b (hsame _ rfl) _ _) hl
      · rename_i hx
        have hw : want ops o (look e') = some false := by
         simp only [want, hg, hd, Option.map_some, ← he, hx]
        simp only [hw, Bool.false_eq_true, if_false]
        exact z3g (z4b he _ _) hl
      · exact hl.elim
end
end Go.AM

namespace Go.AM
def Code.lwp (P : Program) (c : Code) (Q : Exit → Act → World → Prop) (a : Act) (w : World) : Prop :=
 ∀ (b : Frame) (k : List Item) (cs : List Frame),
  ∃ e a' w', Q e a' w' ∧ Arrives P (lone (b.at a (.code c :: .inLoop c :: k)) cs w) b k cs e a' w'
theorem lwp_wp {P : Program} {c : Code} {Q : Exit → Act → World → Prop} {a : Act} {w : World} (h : Code.lwp P c Q a w) : (Code.loop c).wp P Q a w := fun b k cs => by
 obtain ⟨e, a', w', hq, harr⟩ := h b k cs
 exact ⟨e, a', w', hq, .of_steps (.one step_loop) harr⟩
theorem zhd {P : Program} {c : Code} {Q : Exit → Act → World → Prop} {a : Act} {w : World} (h : c.wp P (Exit.then (Code.lwp P c Q) Q) a w) : Code.lwp P c Q a w := fun b k cs => by
 obtain ⟨e, a₁, w₁, hq, harr⟩ := h b (.inLoop c :: k) cs
 cases e with
 | normal =>
  obtain ⟨e₂, a₂, w₂, hq₂, harr₂⟩ := hq b k cs
  exact ⟨e₂, a₂, w₂, hq₂, .of_steps (Steps.trans harr (.one step_inLoop)) harr₂⟩
 | exit id => exact ⟨_, a₁, w₁, hq, .pass (x := .inLoop c) rfl (fun _ _ => .inl (by simp)) harr⟩
 | goto l => exact ⟨_, a₁, w₁, hq, .pass (x := .inLoop c) rfl (fun _ _ => .inl (by simp)) harr⟩
 | ret => exact ⟨_, a₁, w₁, hq, .pass (x := .inLoop c) rfl (fun _ _ => .inl (by simp)) harr⟩
 | panic ch => exact ⟨_, a₁, w₁, hq, .pass (x := .inLoop c) rfl (fun _ _ => .inl (by simp)) harr⟩
 | outgrown => exact ⟨_, a₁, w₁, hq, .pass (x := .inLoop c) rfl (fun _ _ => .inl (by simp)) harr⟩
section
variable {P : Program} {n m : Nat} {c : Code} {Q : AExit → St → Prop} {s : St}
def Alwp (P : Program) (n m : Nat) (c : Code) (Q : AExit → St → Prop) (s : St) : Prop :=
 ∀ (w0 : World) (foot Y : Nat → Prop) (pin : Nat → Option (Option Nat)) (β : Nat → Option Nat) (a : Act) (w : World), (∀ o b, pin o = some b → o < m) → a.tmps.size = n → RelF P w0 foot Y pin (look s.env) (hook s.heap) β a w → (∀ k, Occ pin β k → k < s.nx) →
  Code.lwp P c (Lift P w0 foot Y pin n Q) a w
theorem Alwp.loop (h : Alwp P n m c Q s) : Awp P n m (.loop c) Q s := fun w0 foot Y pin β a w hm hn hR hb => lwp_wp (h w0 foot Y pin β a w hm hn hR hb)
theorem Alwp.unroll (h : Awp P n m c (ze8 (Alwp P n m c Q) Q) s) : Alwp P n m c Q s := fun w0 foot Y pin β a w hm hn hR hb => by
 refine zhd (wp_mono (h w0 foot Y pin β a w hm hn hR hb) fun e a' w' hq => ?_)
 cases e with
 | normal => obtain ⟨s', β', h1, h2, h3, h4⟩ := hq; exact h1 w0 foot Y pin β' a' w' hm h2 h3 h4
 | exit i => exact hq
 | ret => exact hq
 | _ => exact hq.elim
theorem Alwp.weak {s' : St} (hs : Sle m s s') (h : Alwp P n m c Q s') : Alwp P n m c Q s := fun w0 foot Y pin _ a w hm hn hR _ =>
 let ⟨β', h1, h2⟩ := zg7 hs hm hR
 h w0 foot Y pin β' a w hm hn h1 h2
theorem Awp.look {e1 e2 : Env} {h : AHeap} {nx : Nat} (he : look e1 = look e2) (hA : Awp P n m c Q ⟨e1, h, nx⟩) : Awp P n m c Q ⟨e2, h, nx⟩ := fun w0 foot Y pin β a w hm hn hR hb =>
 hA w0 foot Y pin β a w hm hn (by show RelF _ _ _ _ _ (Go.AM.look e1) _ _ _ _; rw [he]; exact hR) hb
def eqQ (Q : AExit → St → Prop) (e : AExit) (s : St) : Prop := ∃ e2, Go.AM.look e2 = Go.AM.look s.env ∧ Q e ⟨e2, s.heap, s.nx⟩
theorem Awp.uneq (h : Awp P n m c (eqQ Q) s) : Awp P n m c Q s := fun w0 foot Y pin β a w hm hn hR hb => by
 refine wp_mono (h w0 foot Y pin β a w hm hn hR hb) fun e a' w' hq => ?_
 have key : ∀ x, At P w0 foot Y pin n (eqQ Q x) a' w' → At P w0 foot Y pin n (Q x) a' w' := by
  rintro x ⟨s', β', ⟨e2, h1, h2⟩, h3, h4, h5⟩
  exact ⟨_, β', h2, h3, by show RelF _ _ _ _ _ (Go.AM.look e2) _ _ _ _; rw [h1]; exact h4, h5⟩
 cases e with
 | normal => exact key _ hq
 | exit i => exact key _ hq
 | ret => exact key _ hq
 | _ => exact hq.elim
end
def pts : Code → List Nat
 | .region i _ _ => [2 * i]
 | .seq a b => pts a ++ pts b
 | .cond _ a b => pts a ++ pts b
 | .block i c => (2 * i + 1) :: pts c
 | .loop c => pts c
 | _ => []
def isLoop : Code → Bool | .loop _ => true | .rangeFunc .. => true | _ => false
def headA (P : Program) (n m : Nat) : Code → (AExit → St → Prop) → St → Prop
 | .loop c, Q, s => Alwp P n m c Q s
 | .rangeFunc g ps a b, Q, s => Awp P n m (.rangeFunc g ps a b) Q s
 | _, _, _ => False
theorem headA.weak {P : Program} {n m : Nat} {c : Code} {Q : AExit → St → Prop} {s s' : St} (hs : Sle m s s') (h : headA P n m c Q s') : headA P n m c Q s := by
 cases c with
 | loop c => exact Alwp.weak hs h
 | rangeFunc g ps a b => exact Awp.weak hs h
 | _ => exact h.elim
theorem headA.awp {P : Program} {n m : Nat} {c : Code} {Q : AExit → St → Prop} {s : St} (h : headA P n m c Q s) : Awp P n m c Q s := by
 cases c with
 | loop c => exact Alwp.loop h
 | rangeFunc g ps a b => exact h
 | _ => exact h.elim
def rz (P : Program) (n m : Nat) : Code → Nat → (AExit → St → Prop) → St → Prop
 | .region i ops d, p, Q, s => p = 2 * i ∧ Awp P n m (.region i ops d) Q s
 | .seq a b, p, Q, s => if (pts a).contains p then rz P n m a p (ze8 (Awp P n m b Q) Q) s else rz P n m b p Q s
 | .cond _ a b, p, Q, s => if (pts a).contains p then rz P n m a p Q s else rz P n m b p Q s
 | .block i c, p, Q, s => if p = 2 * i + 1 then headA P n m c (z0y i Q) s else rz P n m c p (z0y i Q) s
 | .loop c, p, Q, s => rz P n m c p (ze8 (Alwp P n m c Q) Q) s
 | _, _, _, _ => False
def RPt (P : Program) (f : FuncId) (m : Nat) (r : TV) (Hs' : List AObj) (p : Nat) (s : St) : Prop :=
 ∃ (fn : Func) (c : Code), P.funcs[f]? = some fn ∧ fn.body = some c ∧ rz P fn.ntmps m c p (Ret P fn.results.toList m r Hs') s
def invU (m : Nat) (rest : List Nat) (o : Nat) : Nat := match rest.contains o with | true => m + rest.idxOf o | false => o
def outU (m : Nat) (rest : List Nat) (o : Nat) : Nat := sub (List.range m ++ rest) 0 o
def okU (m : Nat) (U rest : List Nat) : Bool := z7w rest && rest.all fun o => Nat.ble m o || U.contains o
def z6q (m : Nat) (U rest : List Nat) (h : Nat → AObj) : List AObj := ((List.range m).map fun o => match U.contains o with | true => AObj.gone | false => (h o).ren (invU m rest)) ++ rest.map fun o => (h o).ren (invU m rest)
def lvU (lv : List (Nat × List Nat)) : List Nat := match z09 lv 1000001 with | some l => l | none => []
theorem z3r {m : Nat} {U rest : List Nat} {h : Nat → AObj} : (z6q m U rest h).length = m + rest.length := by simp [z6q]
theorem zaq {m : Nat} {rest : List Nat} {o : Nat} (h : o < m) : outU m rest o = o := by
 simp only [outU, sub, List.length_append, List.length_range, show o < m + rest.length by omega, if_true, List.getD]
 rw [List.getElem?_append_left (by simpa using h), List.getElem?_range h]; rfl
theorem zj2 {m : Nat} {rest : List Nat} {j o : Nat} (h : rest[j]? = some o) : outU m rest (m + j) = o := by
 have hj := (List.getElem?_eq_some_iff.1 h).1
 simp only [outU, sub, List.length_append, List.length_range, show m + j < m + rest.length by omega, if_true, List.getD]
 rw [List.getElem?_append_right (by simp), List.length_range, Nat.add_sub_cancel_left, h]; rfl
theorem backU {m : Nat} {U rest : List Nat} : Back (keep m U ++ rest) (invU m rest) (outU m rest) (m + rest.length) := by
 intro o ho
 unfold invU
 split
 · rename_i hc
   simp only [List.contains_eq_mem, decide_eq_true_eq] at hc
   have h1 : rest.idxOf o < rest.length := List.idxOf_lt_length_iff.2 hc
   refine ⟨by omega, zj2 ?_⟩
   rw [List.getElem?_eq_getElem h1, List.getElem_idxOf h1]
 · rename_i hc
   have hk : o ∈ keep m U := by
    simp only [List.contains_eq_mem, decide_eq_true_eq, List.mem_append] at ho
    exact ho.resolve_right fun h => by simp [h] at hc
   have hm : o < m := by
    have := (List.mem_filter.1 hk).1
    simpa using this
   exact ⟨by omega, zaq hm⟩
theorem zg4 {m : Nat} {U : List Nat} {o : Nat} : o ∈ keep m U ↔ o < m ∧ U.contains o = false := by simp [keep]
theorem z46 {m : Nat} {U rest : List Nat} {h : Nat → AObj} {j : Nat} {x : AObj} (hx : (z6q m U rest h)[j]? = some x) (hl : isLive x) :
  j < m + rest.length ∧ x = (h (outU m rest j)).ren (invU m rest) ∧ ((j ∈ keep m U ∧ outU m rest j = j) ∨ (m ≤ j ∧ rest[j - m]? = some (outU m rest j))) := by
 have hlt := (List.getElem?_eq_some_iff.1 hx).1
 rw [z3r] at hlt
 refine ⟨hlt, ?_⟩
 by_cases hj : j < m
 · unfold z6q at hx
   rw [List.getElem?_append_left (by simpa using hj), List.getElem?_map, List.getElem?_range hj] at hx
   simp only [Option.map_some, Option.some.injEq] at hx
   rw [zaq hj]
   split at hx
   · subst hx; exact hl.elim
   · rename_i hu
     exact ⟨hx.symm, .inl ⟨zg4.2 ⟨hj, by simpa using hu⟩, rfl⟩⟩
 · unfold z6q at hx
   rw [List.getElem?_append_right (by simp; omega), List.length_map, List.length_range, List.getElem?_map] at hx
   obtain ⟨o, ho, rfl⟩ := Option.map_eq_some_iff.1 hx
   have := zj2 (m := m) ho
   rw [show m + (j - m) = j by omega] at this
   rw [this]
   exact ⟨rfl, .inr ⟨by omega, ho⟩⟩
theorem zco {m : Nat} {U rest : List Nat} {h : Nat → AObj} (hok : okU m U rest = true) {j j' : Nat} {x x' : AObj} (hx : (z6q m U rest h)[j]? = some x) (hl : isLive x) (hx' : (z6q m U rest h)[j']? = some x') (hl' : isLive x')
  (e : outU m rest j = outU m rest j') : j = j' := by
 simp only [okU, Bool.and_eq_true, List.all_eq_true, Bool.or_eq_true] at hok
 have apart : ∀ o, o ∈ keep m U → o ∈ rest → False := fun o h1 h2 => by
  have h1 := zg4.1 h1
  rcases hok.2 o h2 with h3 | h3
  · have := Nat.le_of_ble_eq_true h3; omega
  · rw [h1.2] at h3; cases h3
 obtain ⟨_, _, g⟩ := z46 hx hl
 obtain ⟨_, _, g'⟩ := z46 hx' hl'
 rcases g with ⟨g1, g2⟩ | ⟨g1, g2⟩ <;> rcases g' with ⟨g1', g2'⟩ | ⟨g1', g2'⟩
 · rw [← g2, e, g2']
 · exact (apart _ g1 (by rw [← g2, e]; exact List.mem_of_getElem? g2')).elim
 · exact (apart _ g1' (by rw [← g2', ← e]; exact List.mem_of_getElem? g2)).elim
 · rw [e] at g2
   have := z59 (z2j hok.1) g2 g2'
   omega
theorem zcn {m : Nat} {U rest : List Nat} {h : Nat → AObj} {j : Nat} {x : AObj} (hx : (z6q m U rest h)[j]? = some x) (hl : isLive x) : outU m rest j ∈ keep m U ++ rest := by
 rcases (z46 hx hl).2.2 with ⟨g1, g2⟩ | ⟨_, g2⟩
 · rw [g2]; exact List.mem_append_left _ g1
 · exact List.mem_append_right _ (List.mem_of_getElem? g2)
def ze4 (m : Nat) (lv : List (Nat × List Nat)) (G : Nat → St → Prop) (p : Nat) (s : St) : Prop :=
 match z09 lv p with
 | none => False
 | some live => match z94 m (lvU lv) (hook s.heap) (live.flatMap fun t => (look s.env t).ids) with
  | rest => match okU m (lvU lv) rest && (keep m (lvU lv) ++ rest).all (fun o => (hook s.heap o).inn (keep m (lvU lv) ++ rest)) && live.all (fun t => (look s.env t).inn (keep m (lvU lv) ++ rest)) with
   | true => G p ⟨live.map fun t => (t, (look s.env t).ren (invU m rest)), z0u 0 (z6q m (lvU lv) rest (hook s.heap)), m + rest.length⟩
   | false => False
theorem z1j : ∀ {l : List AObj} {k : Nat} {p : Nat × AObj}, p ∈ z0u k l → ∃ j, p.1 = k + j ∧ l[j]? = some p.2
 | [], _, _, hp => by cases hp
 | o :: l, k, p, hp => by
  rcases List.mem_cons.1 hp with rfl | hp
  · exact ⟨0, rfl, rfl⟩
  · obtain ⟨j, h1, h2⟩ := z1j hp
    exact ⟨j + 1, by omega, by simpa using h2⟩
theorem z9m (x : TV) : x.lend [] = x := by
 have := z0v [x]
 simpa using this
theorem zhg (x : AObj) : x.lend [] = x := by
 have hw : ∀ y : WV, y.lend [] = y := fun y => by
  have := z9m (.c y); simp only [TV.lend, TV.c.injEq] at this; exact this
 cases x with
 | arr n es => simp only [AObj.lend, show WV.lend [] = id from funext hw, List.map_id, List.map_id']
 | _ => rfl
theorem zcd {m : Nat} {lv : List (Nat × List Nat)} {G : Nat → St → Prop} {p : Nat} {s : St} (hg : ze4 m lv G p s) : ∃ s', Sle m s s' ∧ G p s' := by
 unfold ze4 at hg
 split at hg
 · exact hg.elim
 · rename_i live hlv
   generalize z94 _ _ _ _ = rest at hg
   generalize lvU lv = U at hg
   simp only at hg
   split at hg
   · rename_i hb
     simp only [Bool.and_eq_true] at hb
     obtain ⟨⟨h1, h2⟩, h3⟩ := hb
     refine ⟨_, ⟨outU m rest, [], (fun p hp => by cases hp), Nat.le_add_right _ _, fun o ho => zaq ho, fun q hq => ?_, fun q hq hl => ?_, fun q hq q' hq' hl hl' e => ?_⟩, hg⟩
     · obtain ⟨t, ht, rfl⟩ := List.mem_map.1 hq
       have := TV.renV (backU (m := m) (U := U) (rest := rest)) (List.all_eq_true.1 h3 t ht)
       rw [z9m]
       exact ⟨by rw [this.1]; exact .refl _, this.2⟩
     · obtain ⟨j, e1, e2⟩ := z1j hq
       obtain ⟨g1, g2, _⟩ := z46 e2 hl
       have := AObj.renV (backU (m := m) (U := U) (rest := rest)) (List.all_eq_true.1 h2 _ (zcn e2 hl))
       rw [Nat.zero_add] at e1
       rw [e1, g2]
       exact ⟨g1, by rw [zhg, this.1], this.2, (fun q hq => by cases hq)⟩
     · obtain ⟨j, e1, e2⟩ := z1j hq
       obtain ⟨j', e1', e2'⟩ := z1j hq'
       rw [Nat.zero_add] at e1 e1'
       rw [e1, e1'] at e ⊢
       exact zco h1 e2 hl e2' hl' e
   · exact hg.elim
def retV (P : Program) (own : Bool) (rl : List ResultVar) (m : Nat) (U : List Nat) (R : TV → List AObj → Prop) (s : St) : Prop :=
 match zdp P s rl with
 | none => False
 | some rs => match own with
  | false => asksA (hook s.heap) rs (match z94 m U (hook s.heap) ((rs.map fun x => (givT (hook s.heap) x).1).flatMap TV.ids) with
   | rest => match okU m U rest && (keep m U ++ rest).all (fun o => (hook s.heap o).inn (keep m U ++ rest)) && (rs.map fun x => (givT (hook s.heap) x).1).all (TV.inn (keep m U ++ rest)) && (rs.flatMap (zc (hook s.heap))).all (fun p => !(keep m U ++ rest).contains p.1) with
    | true => match zgo ((rs.map fun x => (givT (hook s.heap) x).1).map (TV.ren (invU m rest))) with
     | some r0 => R r0 (z6q m U rest (hook s.heap))
     | none => False
    | false => False)
  | true => match z94 m U (hook s.heap) (rs.flatMap TV.ids) with
   | rest => match okU m U rest && (keep m U ++ rest).all (fun o => (hook s.heap o).inn (keep m U ++ rest)) && rs.all (TV.inn (keep m U ++ rest)) with
    | true => match zgo (rs.map (TV.ren (invU m rest))) with
     | some r0 => R r0 (z6q m U rest (hook s.heap))
     | none => False
    | false => False
theorem lend_inn {ids : List Nat} {E : Lent} (hd : ∀ p ∈ E, p.1 ∉ ids) {x : AObj} (hx : x.inn ids = true) : x.lend E = x := by
 have hw : ∀ y : WV, y.inn ids = true → y.lend E = y := fun y hy => by
  cases y with
  | fn f a b => rfl
  | a y => cases y with
   | osl o n off len =>
    simp only [WV.inn, AV.inn, List.contains_eq_mem, decide_eq_true_eq] at hy
    simp only [WV.lend, AV.lend]
    rw [z67]
    intro p hp e
    exact hd p hp (e ▸ hy)
   | _ => rfl
 cases x with
 | arr n es =>
  simp only [AObj.inn, List.all_eq_true] at hx
  simp only [AObj.lend]
  congr 1
  conv => rhs; rw [← List.map_id es]
  refine List.map_congr_left fun e he => ?_
  conv => rhs; rw [id, ← List.map_id e]
  exact List.map_congr_left fun y hy => hw y (hx e he y hy)
 | _ => rfl
theorem zc1 {α β : Type} {R : α → β → Prop} {g : α → β} : ∀ {l : List α}, (∀ x ∈ l, R x (g x)) → All2 R l (l.map g)
 | [], _ => trivial
 | x :: _, h => ⟨h x List.mem_cons_self, zc1 fun y hy => h y (List.mem_cons_of_mem _ hy)⟩
theorem zfp {P : Program} {rl : List ResultVar} {m : Nat} {U : List Nat} {r r0 : TV} {s : St} {rs rs1 : List TV} {E : Lent} {rest : List Nat} (hrs : zdp P s rl = some rs) (hl : rs.map (TV.lend E) = rs1) (hE : E.ok (hook s.heap)) (h1 : okU m U rest = true)
  (h2 : ((keep m U ++ rest).all fun o => (hook s.heap o).inn (keep m U ++ rest)) = true) (h3 : rs1.all (TV.inn (keep m U ++ rest)) = true)
  (hdis : ∀ p ∈ E, p.1 ∉ keep m U ++ rest) (hr0 : zgo (rs1.map (TV.ren (invU m rest))) = some r0) (hle : TV.Le r0 r) : RetOK P rl m r (z6q m U rest (hook s.heap)) s := by
 refine ⟨rs, _, outU m rest, E, r0, hrs, hr0, hle, hE, ?_, fun o ho => zaq ho, fun q hq hl => ?_, fun q hq q' hq' hl hl' e => ?_⟩
 · rw [← hl, List.map_map]
   refine zc1 fun x hx => ?_
   have hx2 : (x.lend E).inn (keep m U ++ rest) = true := by
    rw [← hl] at h3
    exact List.all_eq_true.1 h3 _ (List.mem_map.2 ⟨x, hx, rfl⟩)
   have := TV.renV (backU (m := m) (U := U) (rest := rest)) hx2
   simp only [Function.comp, z3r]
   exact ⟨by rw [this.1]; exact .refl _, this.2⟩
 · obtain ⟨j, e1, e2⟩ := z1j hq
   obtain ⟨g1, g2, _⟩ := z46 e2 hl
   have hmem := zcn e2 hl
   have hinn := List.all_eq_true.1 h2 _ hmem
   have := AObj.renV (backU (m := m) (U := U) (rest := rest)) hinn
   rw [Nat.zero_add] at e1
   rw [e1, g2, z3r]
   exact ⟨g1, by rw [lend_inn hdis hinn, this.1], this.2, fun p hp e => hdis p hp (e ▸ hmem)⟩
 · obtain ⟨j, e1, e2⟩ := z1j hq
   obtain ⟨j', e1', e2'⟩ := z1j hq'
   rw [Nat.zero_add] at e1 e1'
   rw [e1, e1'] at e ⊢
   exact zco h1 e2 hl e2' hl' e
theorem zfs {P : Program} {own : Bool} {rl : List ResultVar} {m : Nat} {U : List Nat} {r : TV} {Hs' : List AObj} {s : St} (h : retV P own rl m U (fun r0 Hs0 => TV.Le r0 r ∧ Hs0 = Hs') s) : RetOK P rl m r Hs' s := by
 unfold retV at h
 split at h
 · exact h.elim
 · rename_i rs hrs
   split at h
   · obtain ⟨hl, h⟩ := z72 (L := rs.flatMap (zc (hook s.heap))) zaf (fun p hp => hp) h
     generalize z94 _ _ _ _ = rest at h
     simp only at h
     split at h
     · rename_i hb
       simp only [Bool.and_eq_true] at hb
       obtain ⟨⟨⟨h1, h2⟩, h3⟩, h5⟩ := hb
       have hdis : ∀ p ∈ rs.flatMap (zc (hook s.heap)), p.1 ∉ keep m U ++ rest := fun p hp hm => by
        have := List.all_eq_true.1 h5 p hp
        simp only [Bool.not_eq_true', List.contains_eq_mem, decide_eq_false_iff_not] at this
        exact this hm
       split at h
       · rename_i r0 hr0
         obtain ⟨hle, rfl⟩ := h
         exact zfp hrs hl zaf.ok h1 h2 h3 hdis hr0 hle
       · exact h.elim
     · exact h.elim
   · generalize z94 _ _ _ _ = rest at h
     simp only at h
     split at h
     · rename_i hb
       simp only [Bool.and_eq_true] at hb
       obtain ⟨⟨h1, h2⟩, h3⟩ := hb
       split at h
       · rename_i r0 hr0
         obtain ⟨hle, rfl⟩ := h
         exact zfp (E := []) hrs (z0v rs) (fun p hp => by cases hp) h1 h2 h3 (fun p hp => by cases hp) hr0 hle
       · exact h.elim
     · exact h.elim
section
variable (P : Program) (sh : FuncId → List Sh) (n m : Nat) (lv : List (Nat × List Nat)) (G : Nat → St → Prop)
def regV (ops : Array Oper) (d : Bool) (K : AExit → St → Prop) (s : St) : Prop :=
 match dstB ops n with
 | true => lexV P sh ops s.nx ops.toList 0 s.env s.heap [] fun e h tr => match !d || zhn ops tr with
  | true => K .normal ⟨e, h, s.nx + 32 * ops.size⟩
  | false => False
 | false => False
def zir (K1 : St → Prop) (K : AExit → St → Prop) : AExit → St → Prop
 | .normal, s => K1 s
 | e, s => K e s
def condV (x : Operand) (s : St) (A B : St → Prop) : Prop :=
 match ev s.env x with
 | .c (.a (.fz (.bool b))) => match x with
  | .tmp t => br b (A ⟨(t, bV true) :: s.env, s.heap, s.nx⟩) (B ⟨(t, bV false) :: s.env, s.heap, s.nx⟩)
  | _ => br b (A s) (B s)
 | _ => False
def runV : Code → (AExit → St → Prop) → St → Prop
 | .skip, K, s => K .normal s
 | .ret, K, s => K .ret s
 | .exit i, K, s => K (.exit i) s
 | .seq a b, K, s => runV a (zir (runV b K) K) s
 | .cond x a b, K, s => condV x s (runV a K) (runV b K)
 | .block i c, K, s => match isLoop c with
  | true => ze4 m lv G (2 * i + 1) s
  | false => runV c (z0y i K) s
 | .region i ops d, K, s => match (z09 lv (2 * i)).isSome with
  | true => ze4 m lv G (2 * i) s
  | false => regV P sh n ops d K s
 | _, _, _ => False
def z6s : Code → Nat → (AExit → St → Prop) → St → Prop
 | .region i ops d, p, K, s => match p == 2 * i with
  | true => regV P sh n ops d K s
  | false => False
 | .seq a b, p, K, s => match (pts a).contains p with
  | true => z6s a p (zir (runV P sh n m lv G b K) K) s
  | false => z6s b p K s
 | .cond _ a b, p, K, s => match (pts a).contains p with
  | true => z6s a p K s
  | false => z6s b p K s
 | .block i c, p, K, s => match p == 2 * i + 1 with
  | true => match c with
   | .loop b => runV P sh n m lv G b (zir (ze4 m lv G (2 * i + 1)) (z0y i K)) s
   | _ => False
  | false => match c with
   | .loop b => z6s b p (zir (ze4 m lv G (2 * i + 1)) (z0y i K)) s
   | c => z6s c p (z0y i K) s
 | _, _, _, _ => False
end
section
variable {P : Program} {sh : FuncId → List Sh} {n m : Nat} {lv : List (Nat × List Nat)} {G : Nat → St → Prop}
theorem lex_mono {P : Program} {ops : Array Oper} {nx : Nat} {K1 K2 : Env → AHeap → z2x → Prop} (hk : ∀ e h tr, K1 e h tr → K2 e h tr) : ∀ {l : List Oper} {i : Nat} {e : Env} {h : AHeap} {tr : z2x}, lex P ops nx l i e h tr K1 → lex P ops nx l i e h tr K2 := by
 intro l
 induction l with
 | nil => exact fun h => hk _ _ _ h
 | cons o rest ih =>
  intro i e h tr hl
  unfold lex zg0 at hl ⊢
  split
  · rename_i hw; rw [hw] at hl; exact hl
  · rename_i w hw
    rw [hw] at hl
    simp only at hl
    split
    · rename_i hw1
      rw [if_pos hw1] at hl
      unfold zib at hl ⊢
      cases hg : goCall o.op with
      | some c =>
       rw [hg] at hl
       simp only at hl ⊢
       cases hcl : calleeOf (ev e) c with
       | some fa => rw [hcl] at hl; simp only at hl ⊢; exact hl.imp fun r u rd hk => ih hk
       | none => rw [hcl] at hl; exact hl.elim
      | none =>
       rw [hg] at hl
       simp only at hl ⊢
       cases ha : aopS P o (nx + 32 * i) (ev e) (hook h) with
       | some r => rw [ha] at hl; simp only at hl ⊢; exact ih hl
       | none => rw [ha] at hl; exact hl.elim
    · rename_i hw1; rw [if_neg hw1] at hl; exact ih hl
theorem zf3 (hP : P.follows .mixedOrders = true) {i : Nat} {ops : Array Oper} {d : Bool} {K Q : AExit → St → Prop} {s : St} (hk : ∀ e s, K e s → Q e s) (h : regV P sh n ops d K s) : Awp P n m (.region i ops d) Q s := by
 unfold regV at h
 split at h
 · rename_i hd
   refine Awp.uneq (Awp.region hP hd ?_)
   have h1 := z3g rfl h
   refine lex_mono ?_ h1
   rintro e1 h1 tr1 ⟨e2, he, hk2⟩
   split at hk2
   · rename_i hb
     refine ⟨fun hd2 => ?_, e2, he, hk _ _ hk2⟩
     subst hd2; simpa using hb
   · exact hk2.elim
 · exact h.elim
def GOK (P : Program) (n m : Nat) (G : Nat → St → Prop) (c : Code) (Q : AExit → St → Prop) : Prop := ∀ p s, p ∈ pts c → G p s → rz P n m c p Q s
theorem z3c {K1 Q1 : St → Prop} {K Q : AExit → St → Prop} (h1 : ∀ s, K1 s → Q1 s) (h : ∀ e s, K e s → Q e s) : ∀ e s, zir K1 K e s → ze8 Q1 Q e s := by
 intro e s hk
 cases e with
 | normal => exact h1 s hk
 | exit i => exact h _ s hk
 | ret => exact h _ s hk
theorem z2u {i : Nat} {K Q : AExit → St → Prop} (h : ∀ e s, K e s → Q e s) : ∀ e s, z0y i K e s → z0y i Q e s := by
 intro e s hk
 cases e with
 | normal => exact h _ s hk
 | exit j =>
  simp only [z0y] at hk ⊢
  split
  · rename_i hj; rw [if_pos hj] at hk; exact h _ s hk
  · rename_i hj; rw [if_neg hj] at hk; exact h _ s hk
 | ret => exact h _ s hk
theorem GOK.left {a b : Code} {Q : AExit → St → Prop} (h : GOK P n m G (.seq a b) Q) : GOK P n m G a (ze8 (Awp P n m b Q) Q) := fun p s hp hg => by
 have := h p s (List.mem_append.2 (.inl hp)) hg
 unfold rz at this
 rwa [if_pos (by simpa using hp)] at this
theorem GOK.right {a b : Code} {Q : AExit → St → Prop} (hn : (pts (.seq a b)).Nodup) (h : GOK P n m G (.seq a b) Q) : GOK P n m G b Q := fun p s hp hg => by
 have := h p s (List.mem_append.2 (.inr hp)) hg
 unfold rz at this
 rwa [if_neg (by have := (List.nodup_append.1 hn).2.2; simp only [List.contains_eq_mem, decide_eq_true_eq]; exact fun h1 => this p h1 p hp rfl)] at this
theorem GOK.condL {x : Operand} {a b : Code} {Q : AExit → St → Prop} (h : GOK P n m G (.cond x a b) Q) : GOK P n m G a Q := fun p s hp hg => by
 have := h p s (List.mem_append.2 (.inl hp)) hg
 unfold rz at this
 rwa [if_pos (by simpa using hp)] at this
theorem GOK.condR {x : Operand} {a b : Code} {Q : AExit → St → Prop} (hn : (pts (.cond x a b)).Nodup) (h : GOK P n m G (.cond x a b) Q) : GOK P n m G b Q := fun p s hp hg => by
 have := h p s (List.mem_append.2 (.inr hp)) hg
 unfold rz at this
 rwa [if_neg (by have := (List.nodup_append.1 hn).2.2; simp only [List.contains_eq_mem, decide_eq_true_eq]; exact fun h1 => this p h1 p hp rfl)] at this
theorem GOK.block {i : Nat} {c : Code} {Q : AExit → St → Prop} (hn : (pts (.block i c)).Nodup) (h : GOK P n m G (.block i c) Q) : GOK P n m G c (z0y i Q) := fun p s hp hg => by
 have := h p s (List.mem_cons_of_mem _ hp) hg
 unfold rz at this
 rwa [if_neg (fun e => by subst e; exact (List.nodup_cons.1 hn).1 hp)] at this
theorem GOK.loop {c : Code} {Q : AExit → St → Prop} (h : GOK P n m G (.loop c) Q) : GOK P n m G c (ze8 (Alwp P n m c Q) Q) := fun p s hp hg => by
 have := h p s hp hg
 unfold rz at this
 exact this
theorem GOK.head {i : Nat} {c : Code} {Q : AExit → St → Prop} (h : GOK P n m G (.block i c) Q) {s : St} (hg : ze4 m lv G (2 * i + 1) s) : headA P n m c (z0y i Q) s := by
 obtain ⟨s', hs, hg⟩ := zcd hg
 have := h _ _ List.mem_cons_self hg
 unfold rz at this
 rw [if_pos rfl] at this
 exact headA.weak hs this
theorem z1v (hP : P.follows .mixedOrders = true) : ∀ {c : Code} {K Q : AExit → St → Prop} {s : St}, (pts c).Nodup → GOK P n m G c Q → (∀ e s, K e s → Q e s) → runV P sh n m lv G c K s → Awp P n m c Q s
 | .skip, K, Q, s, _, _, hk, h => Awp.skip (hk _ _ h)
 | .ret, K, Q, s, _, _, hk, h => Awp.ret (hk _ _ h)
 | .exit i, K, Q, s, _, _, hk, h => Awp.exit (hk _ _ h)
 | .seq a b, K, Q, s, hn, hG, hk, h => by
  have hn' := List.nodup_append.1 hn
  exact Awp.seq (z1v hP hn'.1 hG.left (z3c (fun s hs => z1v hP hn'.2.1 (hG.right hn) hk hs) hk) h)
 | .cond x a b, K, Q, s, hn, hG, hk, h => by
  have hn' := List.nodup_append.1 hn
  unfold runV condV at h
  split at h
  · rename_i t ht
    split at h
    · rename_i tt
      have hsame : ∀ y, t = y → look ((tt, bV y) :: s.env) = look s.env := fun y hy => zcm (by simp only [ev] at ht; rw [ht, hy]; rfl)
      cases t with
      | true => exact Awp.cond ht (fun _ => Awp.look (hsame _ rfl) (z1v hP hn'.1 hG.condL hk h)) (fun e => by cases e)
      | false => exact Awp.cond ht (fun e => by cases e) (fun _ => Awp.look (hsame _ rfl) (z1v hP hn'.2.1 (hG.condR hn) hk h))
    · cases t with
      | true => exact Awp.cond ht (fun _ => z1v hP hn'.1 hG.condL hk h) (fun e => by cases e)
      | false => exact Awp.cond ht (fun e => by cases e) (fun _ => z1v hP hn'.2.1 (hG.condR hn) hk h)
  · exact h.elim
 | .block i c, K, Q, s, hn, hG, hk, h => by
  unfold runV at h
  split at h
  · rename_i hl
    exact Awp.block (hG.head h).awp
  · exact Awp.block (z1v hP (List.nodup_cons.1 hn).2 (hG.block hn) (z2u hk) h)
 | .region i ops d, K, Q, s, hn, hG, hk, h => by
  unfold runV at h
  split at h
  · obtain ⟨s', hs, hg⟩ := zcd h
    have := hG _ _ List.mem_cons_self hg
    exact this.2.weak hs
  · exact zf3 hP hk h
 | .loop _, _, _, _, _, _, _, h => h.elim
 | .rangeFunc .., _, _, _, _, _, _, h => h.elim
 | .scope _, _, _, _, _, _, _, h => h.elim
 | .label _, _, _, _, _, _, _, h => h.elim
 | .goto _, _, _, _, _, _, _, h => h.elim
 | .refuse _, _, _, _, _, _, _, h => h.elim
theorem z2q (hP : P.follows .mixedOrders = true) : ∀ {c : Code} {p : Nat} {K Q : AExit → St → Prop} {s : St}, (pts c).Nodup → GOK P n m G c Q → (∀ e s, K e s → Q e s) → z6s P sh n m lv G c p K s → rz P n m c p Q s
 | .region i ops d, p, K, Q, s, _, _, hk, h => by
  unfold z6s at h
  split at h
  · rename_i hp; exact ⟨by simpa using hp, zf3 hP hk h⟩
  · exact h.elim
 | .seq a b, p, K, Q, s, hn, hG, hk, h => by
  have hn' := List.nodup_append.1 hn
  unfold z6s at h
  unfold rz
  split at h
  · rename_i hp; rw [if_pos hp]; exact z2q hP hn'.1 hG.left (z3c (fun s hs => z1v hP hn'.2.1 (hG.right hn) hk hs) hk) h
  · rename_i hp; rw [if_neg (by simp only [hp]; decide)]; exact z2q hP hn'.2.1 (hG.right hn) hk h
 | .cond x a b, p, K, Q, s, hn, hG, hk, h => by
  have hn' := List.nodup_append.1 hn
  unfold z6s at h
  unfold rz
  split at h
  · rename_i hp; rw [if_pos hp]; exact z2q hP hn'.1 hG.condL hk h
  · rename_i hp; rw [if_neg (by simp only [hp]; decide)]; exact z2q hP hn'.2.1 (hG.condR hn) hk h
 | .block i c, p, K, Q, s, hn, hG, hk, h => by
  unfold z6s at h
  unfold rz
  split at h
  · rename_i hp
    rw [if_pos (by simpa using hp)]
    split at h
    · rename_i b
      have hn2 : (pts b).Nodup := (List.nodup_cons.1 hn).2
      exact (Alwp.unroll (z1v hP hn2 (GOK.loop (hG.block hn)) (z3c (fun s hs => hG.head hs) (z2u hk)) h) : Alwp _ _ _ _ _ _)
    · exact h.elim
  · rename_i hp
    rw [if_neg (by simpa using hp)]
    split at h
    · rename_i b
      have hn2 : (pts b).Nodup := (List.nodup_cons.1 hn).2
      unfold rz
      exact z2q hP hn2 (GOK.loop (hG.block hn)) (z3c (fun s hs => hG.head hs) (z2u hk)) h
    · exact z2q hP (List.nodup_cons.1 hn).2 (hG.block hn) (z2u hk) h
 | .skip, _, _, _, _, _, _, _, h => h.elim
 | .ret, _, _, _, _, _, _, _, h => h.elim
 | .exit _, _, _, _, _, _, _, _, h => h.elim
 | .loop _, _, _, _, _, _, _, _, h => h.elim
 | .rangeFunc .., _, _, _, _, _, _, _, h => h.elim
 | .scope _, _, _, _, _, _, _, _, h => h.elim
 | .label _, _, _, _, _, _, _, _, h => h.elim
 | .goto _, _, _, _, _, _, _, _, h => h.elim
 | .refuse _, _, _, _, _, _, _, _, h => h.elim
end
def endV (P : Program) (own : Bool) (rl : List ResultVar) (m : Nat) (U : List Nat) (R : TV → List AObj → Prop) : AExit → St → Prop
 | .exit _, _ => False
 | _, s => retV P own rl m U R s
def vcE (P : Program) (sh : FuncId → List Sh) (lv : List (Nat × List Nat)) (f : FuncId) (args : List TV) (Hs : List AObj) (R : TV → List AObj → Prop) (G : Nat → St → Prop) : Prop :=
 match P.funcs[f]? with
 | some fn => match fn.body with
  | some c => match z0r P f && Nat.ble args.length fn.ntmps && z7w (pts c) with
   | true => runV P sh fn.ntmps Hs.length lv G c (endV P (ownB (sh f)) fn.results.toList Hs.length (lvU lv) R) ⟨z93 0 args, z0u 0 Hs, Hs.length⟩
   | false => False
  | none => False
 | none => False
def vcP (P : Program) (sh : FuncId → List Sh) (lv : List (Nat × List Nat)) (f : FuncId) (m : Nat) (R : TV → List AObj → Prop) (G : Nat → St → Prop) (p : Nat) (s : St) : Prop :=
 match P.funcs[f]? with
 | some fn => match fn.body with
  | some c => match z7w (pts c) with
   | true => z6s P sh fn.ntmps m lv G c p (endV P (ownB (sh f)) fn.results.toList m (lvU lv) R) s
   | false => False
  | none => False
 | none => False
section
variable {P : Program} {sh : FuncId → List Sh} {lv : List (Nat × List Nat)} {f : FuncId}
theorem zfw {own : Bool} {rl : List ResultVar} {m : Nat} {U : List Nat} {r : TV} {Hs' : List AObj} : ∀ e s, endV P own rl m U (fun r0 Hs0 => TV.Le r0 r ∧ Hs0 = Hs') e s → Ret P rl m r Hs' e s := by
 intro e s h
 cases e with
 | normal => exact zfs h
 | exit i => exact h
 | ret => exact zfs h
theorem ziw {fn : Func} {c : Code} {m : Nat} {r : TV} {Hs' : List AObj} (hf : P.funcs[f]? = some fn) (hb : fn.body = some c) : GOK P fn.ntmps m (RPt P f m r Hs') c (Ret P fn.results.toList m r Hs') := by
 rintro p s _ ⟨fn', c', h1, h2, h3⟩
 rw [hf] at h1; injection h1 with h1; subst h1
 rw [hb] at h2; injection h2 with h2; subst h2
 exact h3
theorem AC.vc (hP : P.follows .mixedOrders = true) (sh : FuncId → List Sh) (lv : List (Nat × List Nat)) {args : List TV} {Hs Hs' : List AObj} {r : TV} (hlen : Hs.length ≤ Hs'.length) (hlive : ∀ x ∈ Hs, isLive x) (hlive' : ∀ x ∈ Hs'.drop Hs.length, isLive x)
  (h : vcE P sh lv f args Hs (fun r0 Hs0 => TV.Le r0 r ∧ Hs0 = Hs') (RPt P f Hs.length r Hs')) : AC P f args Hs r Hs' := by
 unfold vcE at h
 split at h
 · rename_i fn hf
   split at h
   · rename_i c hc
     split at h
     · rename_i hb
       simp only [Bool.and_eq_true] at hb
       exact AC.intro hf hc rfl rfl hb.1.1 (Nat.le_of_ble_eq_true hb.1.2) hlen hlive hlive' (z1v hP (z2j hb.2) (ziw hf hc) zfw h)
     · exact h.elim
   · exact h.elim
 · exact h.elim
theorem RPt.vc (hP : P.follows .mixedOrders = true) (sh : FuncId → List Sh) (lv : List (Nat × List Nat)) {m : Nat} {Hs' : List AObj} {r : TV} {p : Nat} {s : St}
  (h : vcP P sh lv f m (fun r0 Hs0 => TV.Le r0 r ∧ Hs0 = Hs') (RPt P f m r Hs') p s) : RPt P f m r Hs' p s := by
 unfold vcP at h
 split at h
 · rename_i fn hf
   split at h
   · rename_i c hc
     split at h
     · rename_i hb
       exact ⟨fn, c, hf, hc, z2q hP (z2j hb) (ziw hf hc) zfw h⟩
     · exact h.elim
   · exact h.elim
 · exact h.elim
end
end Go.AM

namespace Go.AM
theorem AC.le {P : Program} {f : FuncId} {args args' : List TV} {Hs Hs' : List AObj} {r r' : TV} (h : AC P f args' Hs r Hs') (ha : All2 TV.Le args args') (hr : TV.Le r r') : AC P f args Hs r' Hs' := by
 refine ⟨h.1, h.2.1, fun w vals β Y h1 h2 hgl h3 h4 => ?_⟩
 refine (h.2.2 w vals β Y h1 h2 hgl h3 (za1 ha h4)).mono fun e w' ⟨v, β', h5, h6, h7, h8, h9⟩ => ?_
 exact ⟨v, β', h5, h6, h7, TRep.le hr h8, h9⟩
theorem AC.args {P : Program} {f : FuncId} {args args' : List TV} {Hs Hs' : List AObj} {r : TV} (h : AC P f args' Hs r Hs') (ha : All2 TV.Le args args') : AC P f args Hs r Hs' := h.le ha (.refl r)
abbrev ci (n : Int) : TV := .c (.a (.fz (.int .i64 n)))
abbrev cb (b : Bool) : TV := .c (.a (.fz (.bool b)))
abbrev cs (s : List UInt8) : TV := .c (.a (.fz (.str s)))
abbrev c8 (n : Int) : TV := .c (.a (.fz (.int .u8 n)))
theorem le_c {x y : FV} (h : FV.Le x y) : TV.Le (.c (.a (.fz x))) (.c (.a (.fz y))) := .c _ _ (.a _ _ (.fz _ _ h))
inductive Tm where
 | mk (k : Int) (s : List UInt8) (n : Int) (l : List Tm)
 deriving Inhabited
namespace Tm
def k : Tm → Int | .mk k _ _ _ => k
def s : Tm → List UInt8 | .mk _ s _ _ => s
def n : Tm → Int | .mk _ _ n _ => n
def l : Tm → List Tm | .mk _ _ _ l => l
end Tm
mutual
def FT : Tm → List FV
 | .mk k s n l => [.int .i64 k, .str s, .int .i64 n, .sl false 4 (FTs l)]
def FTs : List Tm → List (List FV)
 | [] => []
 | t :: l => FT t :: FTs l
end
mutual
def Tm.sz : Tm → Nat
 | .mk _ _ _ l => 1 + Tm.szs l
def Tm.szs : List Tm → Nat
 | [] => 0
 | t :: l => Tm.sz t + Tm.szs l
end
theorem z7c : ∀ l : List Tm, FTs l = l.map FT
 | [] => rfl
 | t :: l => by simp only [FTs, List.map_cons, z7c l]
theorem z03 (l : List Tm) : (FTs l).length = l.length := by rw [z7c, List.length_map]
theorem zd8 (t : Tm) : (FT t).length = 4 := by cases t; rfl
theorem zjf (t : Tm) : FT t = [.int .i64 t.k, .str t.s, .int .i64 t.n, .sl false 4 (FTs t.l)] := by cases t; rfl
theorem Tm.sz_pos (t : Tm) : 1 ≤ t.sz := by cases t; simp only [Tm.sz]; omega
theorem Tm.sz_eq (t : Tm) : t.sz = 1 + Tm.szs t.l := by cases t; rfl
mutual
def Tm.bk : Tm → Nat
 | .mk _ s _ l => 1 + s.length + Tm.bks l
def Tm.bks : List Tm → Nat
 | [] => 0
 | t :: l => Tm.bk t + Tm.bks l
end
mutual
theorem Tm.sz_bk : ∀ t : Tm, t.sz ≤ t.bk
 | .mk _ s _ l => by have := Tm.szs_bks l; simp only [Tm.sz, Tm.bk]; omega
theorem Tm.szs_bks : ∀ l : List Tm, Tm.szs l ≤ Tm.bks l
 | [] => Nat.le_refl _
 | t :: l => by have := Tm.sz_bk t; have := Tm.szs_bks l; simp only [Tm.szs, Tm.bks]; omega
end
theorem Tm.bks_mem : ∀ {l : List Tm} {t : Tm}, t ∈ l → t.bk ≤ Tm.bks l
 | x :: l, t, h => by
  rcases List.mem_cons.1 h with rfl | h
  · simp only [Tm.bks]; omega
  · have := Tm.bks_mem h; simp only [Tm.bks]; omega
theorem Tm.szs_mem : ∀ {l : List Tm} {t : Tm}, t ∈ l → t.sz ≤ Tm.szs l
 | x :: l, t, h => by
  rcases List.mem_cons.1 h with rfl | h
  · simp only [Tm.szs]; omega
  · have := Tm.szs_mem h; simp only [Tm.szs]; omega
theorem Tm.szs_length : ∀ l : List Tm, l.length ≤ Tm.szs l
 | [] => Nat.le_refl _
 | t :: l => by have := Tm.szs_length l; have := t.sz_pos; simp only [List.length_cons, Tm.szs]; omega
theorem Tm.ind {P : Tm → Prop} (h : ∀ t, (∀ u ∈ t.l, P u) → P t) : ∀ t, P t := by
 have key : ∀ n t, t.sz ≤ n → P t := by
  intro n
  induction n with
  | zero => intro t ht; have := t.sz_pos; omega
  | succ n ih =>
   intro t ht
   refine h t fun u hu => ih u ?_
   have := Tm.szs_mem hu
   rw [Tm.sz_eq] at ht
   omega
 exact fun t => key _ t (Nat.le_refl _)
theorem zb8 (a : List Tm) (t : Tm) (b : List Tm) : List.getD (FTs (a ++ t :: b)) a.length [] = FT t := by
 rw [z7c]
 simp [List.getD]
theorem w64 {x : Int} (h1 : -9223372036854775808 ≤ x) (h2 : x ≤ 9223372036854775807) : IntKind.wrap .i64 x = x := Go.IntWalk.i64_in _ ⟨h1, h2⟩
def B : Nat := 549755813888
theorem leNil : FV.Le .nils (.sl false 4 (FTs [])) := .nils 4
theorem midI (a : List Tm) (t : Tm) (b : List Tm) : List.getD (FTs (a ++ t :: b)) (Int.toNat (a.length : Int)) [] = FT t := by
 rw [show Int.toNat (a.length : Int) = a.length by omega, zb8]
theorem midI' (a a' : List Tm) (h : a.length = a'.length) (t : Tm) (b : List Tm) : List.getD (FTs (a' ++ t :: b)) (Int.toNat (a.length : Int)) [] = FT t := by rw [h, midI]
theorem nx {α : Type} (a : List α) (t : α) : (((a ++ [t]).length : Nat) : Int) = (a.length : Int) + 1 := by simp
theorem ap {α : Type} (a : List α) (t : α) (b : List α) : (a ++ [t]) ++ b = a ++ t :: b := by simp
theorem lenI (l : List Tm) : (((FTs l).length : Nat) : Int) = (l.length : Int) := by rw [z03]
theorem ltI {α : Type} (a : List α) (t : α) (b : List α) : (a.length : Int) < (((a ++ t :: b).length : Nat) : Int) := by simp; omega
theorem ltI' (a : List Tm) (t : Tm) (b : List Tm) : (a.length : Int) < (((FTs (a ++ t :: b)).length : Nat) : Int) := by rw [z03]; exact ltI a t b
theorem geI' (a : List Tm) : ¬ (a.length : Int) < (((FTs (a ++ [])).length : Nat) : Int) := by rw [z03]; simp
abbrev aT (t : Tm) : TV := .agg [.a (.fz (.int .i64 t.k)), .a (.fz (.str t.s)), .a (.fz (.int .i64 t.n)), .a (.fz (.sl false 4 (FTs t.l)))]
abbrev cT (t : Tm) : List WV := [.a (.fz (.int .i64 t.k)), .a (.fz (.str t.s)), .a (.fz (.int .i64 t.n)), .a (.fz (.sl false 4 (FTs t.l)))]
abbrev rE (r : List FV) : List FV := [.int .i64 (FV.asI (List.getD r 0 FV.nils)), .str (FV.asS (List.getD r 1 FV.nils)), .int .i64 (FV.asI (List.getD r 2 FV.nils)), List.getD r 3 FV.nils]
abbrev cE (r : List FV) : List WV := [.a (.fz (.int .i64 (FV.asI (List.getD r 0 FV.nils)))), .a (.fz (.str (FV.asS (List.getD r 1 FV.nils)))), .a (.fz (.int .i64 (FV.asI (List.getD r 2 FV.nils)))), .a (.fz (List.getD r 3 FV.nils))]
abbrev aE (r : List FV) : TV := .agg (cE r)
theorem aE_FT (t : Tm) : aE (FT t) = aT t := by cases t; rfl
theorem cE_FT (t : Tm) : cE (FT t) = cT t := by cases t; rfl
theorem rE_FT (t : Tm) : rE (FT t) = FT t := by cases t; rfl
theorem zc5 (a : List Tm) (t : Tm) (b : List Tm) : aE (List.getD (FTs (a ++ t :: b)) (Int.toNat (a.length : Int)) []) = aT t := by
 rw [show List.getD (FTs (a ++ t :: b)) (Int.toNat (a.length : Int)) [] = FT t from by rw [show Int.toNat (a.length : Int) = a.length by omega, zb8]]; exact aE_FT t
theorem zbo (a : List Tm) (t : Tm) (b : List Tm) : rE (List.getD (FTs (a ++ t :: b)) (Int.toNat (a.length : Int)) []) = List.getD (FTs (a ++ t :: b)) (Int.toNat (a.length : Int)) [] := by
 rw [show List.getD (FTs (a ++ t :: b)) (Int.toNat (a.length : Int)) [] = FT t from by rw [show Int.toNat (a.length : Int) = a.length by omega, zb8]]; exact rE_FT t
mutual
def okI : Tm → Prop
 | .mk _ _ n l => (-9223372036854775808 ≤ n ∧ n ≤ 9223372036854775807) ∧ okIs l
def okIs : List Tm → Prop
 | [] => True
 | t :: l => okI t ∧ okIs l
end
theorem zi8 : ∀ {l : List Tm}, (∀ t ∈ l, okI t) → okIs l
 | [], _ => trivial
 | t :: l, h => ⟨h t List.mem_cons_self, zi8 fun u hu => h u (List.mem_cons_of_mem _ hu)⟩
def IR (l : List Int) : List (List FV) := l.map fun n => [.int .i64 n]
abbrev aL (l : List Tm) : TV := .c (.a (.fz (.sl false 4 (FTs l))))
theorem z01 {x y : Bool} (h : x = y) : TV.Le (cb x) (cb y) ∧ ([] : List AObj) = [] := ⟨by rw [h]; exact .refl _, rfl⟩
theorem z2f {x y : Int} (h : x = y) : TV.Le (ci x) (ci y) ∧ ([] : List AObj) = [] := ⟨by rw [h]; exact .refl _, rfl⟩
theorem ret_r {x y : TV} (h : TV.Le x y) : TV.Le x y ∧ ([] : List AObj) = [] := ⟨h, rfl⟩
theorem AC.of_calls {P : Program} {f : FuncId} {args : List TV} {vals : List Value} {r : TV} {v : Value} (hen : z0r P f = true) (h : ∀ w, Calls P f vals.toArray w fun e w' => e = .returned v ∧ w' = w)
  (hv : ∀ (w : World) (X : Nat → Prop) (β : Nat → Option Nat) (us : List Value), LRep (TRep w X β) args us → us = vals) (hr : ∀ (w : World) (X : Nat → Prop) (β : Nat → Option Nat), TRep w X β r v) : AC P f args [] r [] := by
 refine ⟨hen, Nat.le_refl _, fun w us β Y h1 h2 _ h3 h4 => ?_⟩
 rw [hv _ _ _ _ h4]
 refine (h w).mono fun e w' ⟨he, hw⟩ => ?_
 subst hw
 exact ⟨v, β, he, Good.refl _ _, h3, hr _ _ _, h1, fun o ho => absurd ho (Nat.not_lt_zero _), fun o b _ hb => absurd (h1 o b hb) (Nat.not_lt_zero _)⟩
theorem AC.str_u8 {P : Program} {f : FuncId} {s : List UInt8} {c n : Int} (hen : z0r P f = true) (h : ∀ w, Calls P f #[.string ⟨s.toArray⟩, .int .u8 c] w fun e w' => e = .returned (.int .i64 n) ∧ w' = w) : AC P f [cs s, c8 c] [] (ci n) [] := by
 refine AC.of_calls (vals := [.string ⟨s.toArray⟩, .int .u8 c]) hen h (fun w X β us hu => ?_) (fun w X β => .a _ _ (.fz _ _ (.int _ _)))
 obtain ⟨u, us', rfl, h1, h2⟩ := hu.cons_inv
 obtain ⟨v, vs', rfl, h3, h4⟩ := h2.cons_inv
 rw [TRep.str_inv h1, TRep.int_inv h3, h4.nil_inv]
end Go.AM

namespace Go.AM
theorem zgf {w : World} {X : Nat → Prop} {n : Nat} {es : List (List FV)} {v : Value} (h : FRep w X (.sl false n es) v) : (v = .slice none 0 0 ∧ es = []) ∨ FRep w X (.sl true n es) v := by
 cases h with
 | slnil => exact .inl ⟨rfl, rfl⟩
 | sl0 nn n a => exact .inr (.sl0 true n a)
 | sl nn n es b off cap len u h1 h2 h3 h4 h5 h6 h7 => exact .inr (.sl true n es b off cap len u h1 h2 h3 h4 h5 h6 h7)
theorem zja {w : World} {X : Nat → Prop} {β : Nat → Option Nat} {x : FV} {vals : List Value} (h : LRep (TRep w X β) [.c (.a (.fz x))] vals) : ∃ v, vals = [v] ∧ FRep w X x v := by
 obtain ⟨v, us, rfl, h1, h2⟩ := h.cons_inv
 obtain rfl := h2.nil_inv
 refine ⟨v, rfl, ?_⟩
 have h1 : WRep w X β (.a (.fz x)) v := h1
 cases h1 with
 | a _ _ h1 => cases h1 with
  | fz _ _ h1 => exact h1
theorem zeb {w : World} {X : Nat → Prop} {β : Nat → Option Nat} {x : FV} {v : Value} (h : FRep w X x v) : LRep (TRep w X β) [.c (.a (.fz x))] [v] := .cons (.a _ _ (.fz _ _ h)) .nil
theorem AC.clone0 {P : Program} {f : FuncId} {n : Nat} (h0 : AC P f [.c (.a (.fz .nils))] [] (.c (.a (.fz .nils))) []) (h1 : AC P f [.c (.a (.fz (.sl true n [])))] [] (.c (.a (.osl 0 n 0 0))) [.arz n []]) :
  AC P f [.c (.a (.fz (.sl false n [])))] [] (.c (.a (.fz (.sl false n [])))) [] := by
 refine ⟨h0.1, by simp, fun w vals β Y g1 g2 gl g3 g4 => ?_⟩
 obtain ⟨v, rfl, hv⟩ := zja g4
 rcases zgf hv with ⟨e, _⟩ | hv
 · subst e
   exact (h0.le (r' := .c (.a (.fz (.sl false n [])))) (z3w) (le_c (.nils n))).2.2 w [_] β Y g1 g2 gl g3 (zeb .nils)
 · refine (h1.2.2 w [v] β Y g1 g2 gl g3 (zeb hv)).mono fun e w' ⟨v', β', k1, k2, k3, k4, k5, k6, k7⟩ => ?_
   have none' : (fun b => Y b ∨ Own (fun o => ([] : List AObj).getD o .gone) (fun _ => none) b) = Y := by
    funext b
    refine propext ⟨fun h => h.elim id fun ⟨o, h, _⟩ => by simp [isLive] at h, .inl⟩
   refine ⟨v', fun _ => none, k1, k2, ⟨fun o b h => by simp [isLive] at h, fun o h => by simp [isLive] at h, fun o o' b h => by simp [isLive] at h, fun o b h => by cases h⟩, ?_, (fun o b h => by cases h), (fun o h => by simp at h), (fun o b _ h => by cases h)⟩
   rw [none']
   have k4 : WRep w' _ β' (.a (.osl 0 n 0 0)) v' := k4
   refine show WRep w' Y (fun _ => none) (.a (.fz (.sl false n []))) v' from ?_
   cases k4 with
   | a _ _ k4 => cases k4 with
    | oslN => exact .a _ _ (.fz _ _ (.slnil n))
    | osl o n off len b' q cap sz t p1 p2 p3 p4 p5 =>
     obtain ⟨kl, kY⟩ := k3.here (o := 0) (b := b') (by simp [isLive]) p1
     exact .a _ _ (.fz _ _ (.sl false n [] b' q cap 0 (fun _ _ => .bool false) rfl (Nat.zero_le _) kY kl (fun i e h => by simp at h) (fun i j e f h => by simp at h) (fun i j e f h => by simp at h)))
theorem AC.clone_le {P : Program} {f : FuncId} {n M : Nat} (h0 : AC P f [.c (.a (.fz .nils))] [] (.c (.a (.fz .nils))) []) (h1 : ∀ es : List (List FV), es.length ≤ M → AC P f [.c (.a (.fz (.sl true n es)))] [] (.c (.a (.osl 0 n 0 es.length))) [.arz n es]) :
  (∀ es : List (List FV), es ≠ [] → es.length ≤ M → AC P f [.c (.a (.fz (.sl false n es)))] [] (.c (.a (.osl 0 n 0 es.length))) [.arz n es]) ∧ AC P f [.c (.a (.fz (.sl false n [])))] [] (.c (.a (.fz (.sl false n [])))) [] := by
 refine ⟨fun es hne hl => ⟨h0.1, by simp, fun w vals β Y g1 g2 gl g3 g4 => ?_⟩, (AC.clone0 h0 (h1 [] (Nat.zero_le _)))⟩
 obtain ⟨v, rfl, hv⟩ := zja g4
 rcases zgf hv with ⟨_, e⟩ | hv
 · exact absurd e hne
 · exact (h1 es hl).2.2 w [v] β Y g1 g2 gl g3 (zeb hv)
end Go.AM

namespace Go.AM
section
variable {β : Type}
def o1 {α : Type} (x : α) (K : α → β) : β := K x
end
end Go.AM




namespace Go.AM
open Go.ChangeShapes Go.WideShapes Go.ChangeAt Go.RowKit
section
variable {H : Type} {enc : TypeId × Value → H} {P : Program} {w : World}
abbrev z4f : Nat → Prop := fun _ => False
def RdN (enc : TypeId × Value → H) (P : Program) (w : World) (b : DataW H → Nat) (fuel : Nat) (t : TypeId) {α : Type} (F : α → List FV) (sz : α → Nat) : Prop :=
 ∀ cs x, DataW.trod enc P w 0 (fun _ => true) true fuel t cs = some x → ∃ a, LRep (FRep w z4f) (F a) cs ∧ sz a ≤ b x.1
theorem rd_int {b : DataW H → Nat} {t : TypeId} {k : IntKind} (ht : P.underlying t = some (.int k)) (hb : ∀ d, 1 ≤ b d) (fuel : Nat) : RdN enc P w b fuel t (fun n : Int => [.int k n]) (fun _ => 1) := by
 intro cs x h
 obtain ⟨n, rfl, rfl, _⟩ := DataW.trod_int ht h
 exact ⟨n, .cons (.int k n) .nil, hb _⟩
def Num (k : IntKind) := { n : Int // (Lit.int k n).wf = true }
theorem z78 {b : DataW H → Nat} {t : TypeId} {k : IntKind} (ht : P.underlying t = some (.int k)) (hb : ∀ d, 1 ≤ b d) (fuel : Nat) : RdN enc P w b fuel t (fun n : Num k => [.int k n.1]) (fun _ => 1) := by
 intro cs x h
 obtain ⟨n, rfl, rfl, hw⟩ := DataW.trod_int ht h
 exact ⟨⟨n, hw⟩, .cons (.int k n) .nil, hb _⟩
theorem rd_str {b : DataW H → Nat} {t : TypeId} (ht : P.underlying t = some .string) (hb : ∀ l : List UInt8, l.length + 1 ≤ b (.lit (.string l))) (fuel : Nat) : RdN enc P w b fuel t (fun l : List UInt8 => [.str l]) (fun l => l.length + 1) := by
 intro cs x h
 obtain ⟨s, rfl, rfl, _⟩ := DataW.trod_string ht h
 refine ⟨s.data.toList, .cons ?_ .nil, hb _⟩
 have : (⟨s.data.toList.toArray⟩ : ByteArray) = s := by simp
 have h2 := FRep.str (w := w) (X := z4f) s.data.toList
 rw [this] at h2
 exact h2
def z37 {α : Type} (sz : α → Nat) : List α → Nat
 | [] => 0
 | a :: l => sz a + z37 sz l
theorem sum_le {α : Type} {sz : α → Nat} {b : DataW H → Nat} {bs : List (DataW H) → Nat} (hbs : ∀ d l, bs (d :: l) = b d + bs l) : ∀ {xs : List α} {es : List (DataW H × List MemPlace)}, xs.length = es.length → (∀ (i : Nat) (x : α) (y : DataW H × List MemPlace), xs[i]? = some x → es[i]? = some y → sz x ≤ b y.1) → z37 sz xs ≤ bs (es.map (·.1))
 | [], _, _, _ => by simp [z37]
 | x :: xs, [], h, _ => by simp at h
 | x :: xs, e :: es, h, hr => by
  have h1 := hr 0 x e rfl rfl
  have h2 := sum_le (sz := sz) hbs (xs := xs) (es := es) (by simpa using h) fun i x y hx hy => hr (i + 1) x y (by simpa using hx) (by simpa using hy)
  simp only [z37, List.map_cons, hbs]
  omega
theorem zd0 {a : Addr} {n : Nat} {cs : List Value} (h : w.cells? 0 a n = some cs) : cs.length = n ∧ ∀ j u, cs[j]? = some u → w.cell? (a.add j) = some u := by
 unfold World.cells? at h
 rw [if_pos (Nat.zero_le _)] at h
 refine ⟨by have := mapM_some_length h; simpa using this, fun j u hu => ?_⟩
 have hj : j < n := by
  have h1 := (List.getElem?_eq_some_iff.1 hu).1
  have := mapM_some_length h; simp at this; omega
 have := mapM_some_get h j j (by simp [hj])
 rw [this, hu]
theorem zhw {a : Addr} {u : Value} (h : w.cell? a = some u) : a.spot = none := by
 unfold World.cell? at h
 split at h
 · split at h
   · cases h
   · rename_i hs; simpa using hs
 · cases h
theorem cell_blk {a : Addr} {u : Value} (h : w.cell? a = some u) : a.block < w.heap.size := by
 apply Decidable.byContradiction
 intro hn
 have : w.heap[a.block]? = none := by simp; omega
 simp [World.cell?, this] at h
theorem add_zero (a : Addr) : a.add 0 = a := rfl
theorem zfn (b o k : Nat) : (Addr.mk b o none).add k = ⟨b, o + k, none⟩ := by
 unfold Addr.add
 split
 · rename_i h; rw [h]; rfl
 · rfl
theorem z71 {b : DataW H → Nat} {bs : List (DataW H) → Nat} (hbs : ∀ d l, bs (d :: l) = b d + bs l) (hb0 : ∀ d, 1 ≤ b d) (hb : ∀ es sp, bs es + 1 ≤ b (.slice es sp)) {t e : TypeId} (ht : P.underlying t = some (.slice e)) {n : Nat} (hn : P.cellsOf e = n) (hn0 : 0 < n)
  {α : Type} {F : α → List FV} {sz : α → Nat} (hF : ∀ a, (F a).length = n) {fuel : Nat} (ih : ∀ k, k < fuel → RdN enc P w b k e F sz) : RdN enc P w b fuel t (fun l : List α => [.sl false n (l.map F)]) (fun l => z37 sz l + 1) := by
 intro cs x h
 rcases DataW.trod_slice ht h with ⟨rfl, rfl⟩ | ⟨a, len, cap, elems, rest, k, rfl, rfl, rfl, _, hlc, _, hlen, hel, hrest, _⟩
 · exact ⟨[], .cons (.slnil n) .nil, by simpa [z37] using hb0 _⟩
 · rw [hn] at hel
   have key : ∀ (i : Nat) (y : DataW H × List MemPlace), elems[i]? = some y → ∃ x : α, (∃ cs, w.cells? 0 (a.add (i * n)) n = some cs ∧ LRep (FRep w z4f) (F x) cs) ∧ sz x ≤ b y.1 := by
    intro i y hy
    have hi : i < len := by rw [← hlen]; exact (List.getElem?_eq_some_iff.1 hy).1
    have h1 := hel i hi
    rw [hy] at h1
    obtain ⟨cs, h2, h3⟩ := Option.bind_eq_some_iff.1 h1
    obtain ⟨x, h4, h5⟩ := ih k (Nat.lt_succ_self _) cs y h3
    exact ⟨x, ⟨cs, h2, h4⟩, h5⟩
   have key2 : ∃ xs : List α, xs.length = elems.length ∧ ∀ (i : Nat) (x : α), xs[i]? = some x → (∃ cs, w.cells? 0 (a.add (i * n)) n = some cs ∧ LRep (FRep w z4f) (F x) cs) ∧ ∀ y, elems[i]? = some y → sz x ≤ b y.1 := by
    have : ∀ (l : List (DataW H × List MemPlace)) (o : Nat), (∀ i, l[i]? = elems[o + i]?) → ∃ xs : List α, xs.length = l.length ∧ ∀ (i : Nat) (x : α), xs[i]? = some x → (∃ cs, w.cells? 0 (a.add ((o + i) * n)) n = some cs ∧ LRep (FRep w z4f) (F x) cs) ∧ ∀ y, l[i]? = some y → sz x ≤ b y.1 := by
     intro l
     induction l with
     | nil => exact fun o _ => ⟨[], rfl, fun i x h => by simp at h⟩
     | cons y l ih =>
      intro o ho
      obtain ⟨x, hx1, hx2⟩ := key o y (by have := ho 0; simpa using this.symm)
      obtain ⟨xs, h1, h2⟩ := ih (o + 1) (fun i => by have := ho (i + 1); rw [show o + 1 + i = o + (i + 1) by omega]; simpa using this)
      refine ⟨x :: xs, by simp [h1], fun i x' hx' => ?_⟩
      cases i with
      | zero => simp at hx'; subst hx'; exact ⟨by simpa using hx1, fun y' hy' => by simp at hy'; subst hy'; exact hx2⟩
      | succ i =>
       have := h2 i x' (by simpa using hx')
       rw [show o + 1 + i = o + (i + 1) by omega] at this
       exact ⟨this.1, fun y' hy' => this.2 y' (by simpa using hy')⟩
    obtain ⟨xs, h1, h2⟩ := this elems 0 (fun i => by simp)
    exact ⟨xs, h1, fun i x hx => by simpa using h2 i x hx⟩
   obtain ⟨xs, hxl, hx⟩ := key2
   have hsum := sum_le (sz := sz) (b := b) hbs hxl (fun i x y h1 h2 => (hx i x h1).2 y h2)
   have hb' := hb (elems.map (·.1)) (rest.map (·.1))
   refine ⟨xs, ?_, show z37 sz xs + 1 ≤ b (.slice (elems.map (·.1)) (rest.map (·.1))) by omega⟩
   by_cases hc0 : cap = 0
   · have h0 : len = 0 := by omega
     subst hc0; subst h0
     have : xs = [] := List.length_eq_zero_iff.1 (by omega)
     subst this
     exact .cons (.sl0 false n a) .nil
   · have hone : ∃ cs, w.cells? 0 a n = some cs := by
      by_cases h0 : len = 0
      · have hr := (hrest rfl).2 0 (by omega)
        have hr' : rest[0]? ≠ none := by
         rw [List.getElem?_eq_getElem (by rw [(hrest rfl).1]; omega)]; simp
        rw [hn] at hr
        rw [h0, show (0 + 0) * n = 0 by simp, add_zero] at hr
        cases hcl : w.cells? 0 a n with
        | none => rw [hcl] at hr; exact absurd hr.symm hr'
        | some cs => exact ⟨cs, rfl⟩
      · have : 0 < xs.length := by omega
        obtain ⟨⟨cs, h1, _⟩, _⟩ := hx 0 xs[0] (by simp [this])
        rw [show 0 * n = 0 by simp, add_zero] at h1
        exact ⟨cs, h1⟩
     obtain ⟨cs0, hq⟩ := hone
     obtain ⟨hl0, hq'⟩ := zd0 hq
     have hq0 := hq' 0 (cs0[0]'(by omega)) (by simp)
     rw [add_zero] at hq0
     have hsp : a.spot = none := zhw hq0
     have hbl : a.block < w.heap.size := cell_blk hq0
     obtain ⟨blk, off, sp⟩ := a
     have hsp : sp = none := hsp
     subst hsp
     refine .cons (.sl false n (xs.map F) blk off cap len (fun i j => (w.cell? ⟨blk, off + i * n + j, none⟩).getD (.bool false)) (by rw [List.length_map]; omega) (by rw [List.length_map]; omega) (fun h => h) hbl (fun i e he => ?_) (fun i j e f he hf => ?_) (fun i j e f he hf => ?_)) .nil
     · rw [List.getElem?_map] at he
       obtain ⟨x, _, rfl⟩ := Option.map_eq_some_iff.1 he
       exact hF x
     all_goals
      rw [List.getElem?_map] at he
      obtain ⟨x, hxi, rfl⟩ := Option.map_eq_some_iff.1 he
      obtain ⟨⟨cs, h1, h2⟩, _⟩ := hx i x hxi
      obtain ⟨h3, h4⟩ := zd0 h1
      have hj : j < cs.length := by rw [← h2.1]; exact (List.getElem?_eq_some_iff.1 hf).1
      have h5 := h4 j cs[j] (by simp)
      rw [zfn, zfn] at h5
     · rw [h5]; rfl
     · rw [h5]
       exact h2.2 j f cs[j] hf (by simp)
structure TmTy (P : Program) (T : TypeId) (f0 f1 f2 f3 : Field) : Prop where
 str : P.underlying T = some (.struct #[f0, f1, f2, f3])
 u0 : P.underlying f0.type = some (.int .i64)
 u1 : P.underlying f1.type = some .string
 u2 : P.underlying f2.type = some (.int .i64)
 u3 : P.underlying f3.type = some (.slice T)
 o0 : f0.offset = 0
 o1 : f1.offset = 1
 o2 : f2.offset = 2
 o3 : f3.offset = 3
 c0 : P.cellsOf f0.type = 1
 c1 : P.cellsOf f1.type = 1
 c2 : P.cellsOf f2.type = 1
 c3 : P.cellsOf f3.type = 1
 cT : P.cellsOf T = 4
structure Bulk (b : DataW H → Nat) (bs : List (DataW H) → Nat) : Prop where
 nil : bs [] = 0
 cons : ∀ d l, bs (d :: l) = b d + bs l
 one : ∀ d, 1 ≤ b d
 slice : ∀ es sp, bs es + 1 ≤ b (.slice es sp)
 str : ∀ l : List UInt8, l.length + 1 ≤ b (.lit (.string l))
 agg : ∀ l, bs l + 1 ≤ b (.agg l)
theorem LRep.one {α : Type} {R : α → Value → Prop} {c : α} {u : Value} (h : LRep R [c] [u]) : R c u := h.2 0 c u rfl rfl
theorem none_own {Y : Nat → Prop} (hY : ∀ b, ¬ Y b) {Hs : List AObj} : (fun b => Y b ∨ Own (fun o => Hs.getD o .gone) (fun _ => none) b) = z4f := by
 funext b
 refine propext ⟨fun h => ?_, fun h => h.elim⟩
 rcases h with h | ⟨o, _, h⟩
 · exact (hY b h).elim
 · cases h
abbrev β0 : Nat → Option Nat := fun _ => none
theorem zhy {w' : World} {foot : Nat → Prop} (g : Good w foot w') (hf : ∀ b, ¬ foot b) (may : MemPlace → Prop) : w.keptBut w' may := by
 refine ⟨g.os, g.output, fun i hi => ?_⟩
 rw [g.blk i hi (hf i)]
 exact (World.keptBut_refl w may).2.2 i hi
theorem zj6 {w' : World} {foot : Nat → Prop} (g : Good w foot w') (hf : ∀ b, ¬ foot b) {p : MemPlace} (hp : p.block < w.heap.size) : w.sameAt w' p := by
 cases p with
 | cell b o => exact World.cell?_of_block (a := ⟨b, o, none⟩) (g.blk b hp (hf b))
 | map b => exact g.blk b hp (hf b)
theorem z5j (hl : laidOutB P = true) {w' : World} {sp : Nat → Bool} : ∀ {ts : List TypeId} {vs : List Value} {ds : List (DataW H)} {p : List MemPlace}, DataW.TrodAll enc P w 0 (fun _ => true) true ts vs ds p →
  (∀ t ∈ ts, P.readableRec t = true ∧ t < P.types.size) → (∀ x ∈ p, w.sameAt w' x) → (∀ x ∈ p, sp x.block = true) → DataW.TrodAll enc P w' 0 sp true ts vs ds p
 | [], _, _, _, h, _, _, _ => by
  obtain ⟨rfl, rfl, rfl⟩ := trodAll_nil h
  exact trodAll_mk0
 | t :: ts, _, _, _, h, ht, hs, hsp => by
  obtain ⟨v, vs', d, ds', p, q, rfl, rfl, rfl, ⟨n, h1⟩, h2⟩ := trodAll_cons h
  have hr := (ht t List.mem_cons_self).1
  exact ⟨p, q, ⟨n, DataW.trod_stays (kids_book hl hr) (book_sized hr) (fun h => by cases h) ⟨(ht t List.mem_cons_self).2, book_self t⟩ h1 (fun x hx => hs x (List.mem_append_left _ hx)) (fun x hx => hsp x (List.mem_append_left _ hx))⟩,
   z5j hl h2 (fun u hu => ht u (List.mem_cons_of_mem _ hu)) (fun x hx => hs x (List.mem_append_right _ hx)) (fun x hx => hsp x (List.mem_append_right _ hx)), rfl⟩
theorem zk6 (hl : laidOutB P = true) {f : Func} {s : ChangeSpec} {apart fresh handsOn again : Bool} {w' : World} {args : Array Value} {ds gs : List (DataW H)} {before : List MemPlace} {foot : Nat → Prop} {tb : TypeId}
  (hW : DataW.Whole enc P f.params.toList s.vars apart w args.toList ds gs before) (hv : s.vars = []) (hs : ∀ ds' : List (DataW H), ds'.length = ds.length → s.fn H ds' = { results := [.lit (.bool true)], args := ds' })
  (ht : ∀ t ∈ f.params.toList, P.readableRec t = true ∧ t < P.types.size) (hr : f.resultTypes = #[tb]) (hb : P.underlying tb = some .bool) (g : Good w foot w') (hf : ∀ b, ¬ foot b) :
  s.post enc P f apart fresh handsOn again w args (.bool true) w' := by
 have hlt := hW.lt
 obtain ⟨p, q, h1, h2, he, hz, hn⟩ := hW
 rw [hv] at h2
 obtain ⟨rfl, rfl⟩ := trodVars_none h2
 rw [List.append_nil] at he
 subst he
 have hold : ∀ x ∈ before, (fun b => decide (b < w.heap.size)) x.block = true := fun x hx => by simpa using hlt x hx
 have hfn := hs (ds ++ []) (by simp)
 have hargs : ∀ sp : Nat → Bool, (∀ x ∈ before, sp x.block = true) → DataW.TrodAll enc P w' 0 sp true f.params.toList args.toList (s.fn H (ds ++ [])).args before := fun sp hsp => by
  rw [hfn, List.append_nil]
  exact z5j hl h1 ht (fun x hx => zj6 g hf (hlt x hx)) hsp
 have hres : ∀ (b : Nat) (sp : Nat → Bool) (hd : Bool), DataW.TrodAll enc P w' b sp hd f.resultTypes.toList ((Value.bool true).resultList f.resultTypes.size) (s.fn H (ds ++ [])).results [] := fun b sp hd => by
  rw [hfn, hr]
  exact trodAll_mk1 ⟨1, by simp [DataW.trod, Value.cells, hb]⟩
 have hvars : ∀ sp : Nat → Bool, DataW.TrodVars enc P w' sp s.vars (s.fn H (ds ++ [])).vars [] := fun sp => by
  rw [hfn, hv]
  rfl
 refine ⟨ds, [], before, [], before, [], ⟨before, [], h1, by rw [hv]; rfl, by simp, hz, hn⟩, hres _ _ _, hargs _ hold, hvars _, World.keptBut_mono (fun x hx => ⟨hx, ?_⟩) (zhy g hf (· ∈ before)), fun _ => ?_⟩
 · simpa using hx
 · refine ⟨ok_one hr rfl (okWide_bool_mk hb _), _, _, ([] ++ before) ++ [], ⟨[] ++ before, [], trodAll_append (hargs _ (fun _ _ => rfl)) (hres _ _ _), hvars _, rfl, ?_, ?_⟩, ?_⟩
   · intro b off hp
     have hp : MemPlace.cell b off ∈ before := by simpa using hp
     have hb := hlt _ hp
     have : w'.frozen? ⟨b, off, none⟩ = w.frozen? ⟨b, off, none⟩ := by
      unfold World.frozen?
      rw [g.blk b hb (hf b)]
     rw [this]
     exact hz b off hp
   · intro ha
     simpa using hn ha
   · intro x hx _
     simpa using hx
theorem law_true {f : FuncId} {args : List TV} (hgl : Gl P w z4f) (h : AC P f args [] (cb true) []) {vals : List Value} (hv : LRep (TRep w z4f β0) args vals) :
  Calls P f vals.toArray w fun e w' => e = .returned (.bool true) ∧ ∃ foot, (∀ b, ¬ foot b) ∧ Good w foot w' := by
 have hX : (fun b => (fun _ : Nat => False) b ∨ Own (fun o => ([] : List AObj).getD o .gone) β0 b) = z4f := none_own (fun _ h => h)
 refine (h.2.2 w vals β0 (fun _ => False) (fun o b h => by cases h) (fun b h => h.elim) (hgl.sub fun b ⟨o, h5, _⟩ => by simp [isLive] at h5) ⟨fun o b h _ => by simp [isLive] at h, fun o h => by simp [isLive] at h, fun o o' b h => by simp [isLive] at h, fun o b h => by cases h⟩ (by rw [hX]; exact hv)).mono fun e w' ⟨v, β', h1, h2, h3, h4, _⟩ => ?_
 subst h1
 cases h4 with
 | a _ _ h4 =>
  cases h4 with
  | fz _ _ h4 =>
   cases h4
   exact ⟨rfl, _, fun b ⟨o, h5, _⟩ => by simp [isLive] at h5, h2⟩
end
end Go.AM

set_option linter.unusedVariables false
namespace Go.AM
open Go.RowKit Go.Lib
section
variable {P : Program}
structure AppKept (w : World) (e : TypeId) (v : Value) (bs : List Value) (w' : World) (v' : Value) : Prop where
 own : w'.ownsRow 0 e 1 v' bs.length bs
 os : w'.os = w.os
 tape : w'.tape = w.tape
 output : w'.output = w.output
 size : w.heap.size ≤ w'.heap.size
 blk : ∀ k, k < w.heap.size → v.ownBlock ≠ some k → w'.heap[k]? = w.heap[k]?
 shp : ∀ k, k < w.heap.size → w'.shape? k = w.shape? k
 new : ∀ g, v'.ownBlock = some g → v.ownBlock = some g ∨ w.heap.size ≤ g
theorem app_kept {w : World} {t u ty e : TypeId} {i : TypeInfo} (ht : P.underlying t = some (.slice e)) (hu : P.underlying u = some .string) (hi : P.info? e = some i) (hz : i.zero = some (.int .u8 0))
  (hsize : i.size = 1) (hby : i.bytes = 1) {v : Value} {n : Nat} {xs : List Value} (hown : w.ownsRow 0 e 1 v n xs) (s : ByteArray) (hb : n + s.size ≤ 140737488355328) :
  ∃ v' w', (Builtin.append_ #[t, u] ty #[v, .string s]).run P w = .ok v' w' ∧ AppKept w e v (xs ++ strCells s) w' v' := by
 have h63 : n + s.size ≤ maxLen := by unfold maxLen; omega
 have hxl : xs.length = n := by simpa using hown.1
 have hlen : (xs ++ strCells s).length = n + s.size := by rw [List.length_append, hxl, strCells_length]
 obtain ⟨v', w', hr, h1, h2, h3⟩ := run_append_own_string (P := P) w 0 t u ty e i ht hu hi hz hsize hby v n xs hown s h63 hb (Nat.zero_le _)
 have hblk : ∀ k, k < w.heap.size → v.ownBlock ≠ some k → w'.heap[k]? = w.heap[k]? := fun k hk hne => h2.block k hk fun e => hne e.symm
 refine ⟨v', w', hr, by rw [hlen]; exact h1, h2.os, h2.tape, h2.output, h2.size, hblk, fun k hk => ?_, fun g hg => ?_⟩
 · by_cases hne : v.ownBlock = some k
   · rcases hown.2 with ⟨rfl, _⟩ | ⟨g, cap, cur, rfl, _, hg, hnc, hcm, hcs, _⟩
     · cases hne
     · have hk' : g = k := by simpa [Value.ownBlock] using hne
       subst hk'
       have hs0 : w.shape? g = some (e, cur.size) := by simp [World.shape?, hg]
       by_cases hroom : n + s.size ≤ cap
       · have hr2 := run_append_room_string (P := P) w t u ty e i ht hu hi hsize g n cap cur hg s hroom (by omega)
         rw [hr] at hr2
         injection hr2 with q1 q2
         subst q1
         rcases h1.2 with ⟨q, _⟩ | ⟨g', cap', cur', q, _, hg', _, _, hcs', _⟩
         · cases q
         · simp only [Value.slice.injEq, Option.some.injEq, Addr.mk.injEq] at q
           obtain ⟨⟨rfl, _, _⟩, _, rfl⟩ := q
           rw [hs0]
           simp [World.shape?, hg', hcs', hcs]
       · have holds : ∀ j u, xs[j]? = some u → w.cell? ((⟨g, 0, none⟩ : Addr).add j) = some u := hown.cells (g := g) rfl
         have hr2 := run_append_grow_string (P := P) w t u ty e i (.int .u8 0) ht hu hi hz ⟨g, 0, none⟩ n cap xs (by rw [hsize]; simpa using hxl) holds s (by omega) (by omega) (by rw [hby]; exact growslice_fits (by omega) (by omega))
         rw [hr] at hr2
         injection hr2 with q1 q2
         rw [q2]
         unfold World.shape?
         rw [heap_alloc_old w.drew _ hk]; rfl
   · unfold World.shape?
     rw [hblk k hk hne]
 · rcases hown.2 with ⟨rfl, rfl⟩ | ⟨g0, cap, cur, rfl, _, hg0, hnc, hcm, hcs, _⟩
   · have hx : xs = [] := List.eq_nil_of_length_eq_zero hxl
     subst hx
     obtain ⟨v2, w2, hr2, h4, _, _⟩ := run_append_own_string (P := P) w w.heap.size t u ty e i ht hu hi hz hsize hby _ 0 [] (World.ownsRow_nil w _ e 1) s h63 hb (Nat.le_refl _)
     rw [hr] at hr2
     injection hr2 with q1 q2
     subst q1
     exact .inr (h4.lt g hg).1
   · by_cases hroom : n + s.size ≤ cap
     · have hr2 := run_append_room_string (P := P) w t u ty e i ht hu hi hsize g0 n cap cur hg0 s hroom (by omega)
       rw [hr] at hr2
       injection hr2 with q1 q2
       rw [q1] at hg
       exact .inl hg
     · have holds : ∀ j u, xs[j]? = some u → w.cell? ((⟨g0, 0, none⟩ : Addr).add j) = some u := hown.cells (g := g0) rfl
       have hr2 := run_append_grow_string (P := P) w t u ty e i (.int .u8 0) ht hu hi hz ⟨g0, 0, none⟩ n cap xs (by rw [hsize]; simpa using hxl) holds s (by omega) (by omega) (by rw [hby]; exact growslice_fits (by omega) (by omega))
       rw [hr] at hr2
       injection hr2 with q1 q2
       rw [q1] at hg
       have : w.heap.size = g := by simpa [Value.ownBlock] using hg
       exact .inr (by omega)
theorem zhk {ops : Array Oper} {rest : List Oper} {o : Oper} {a : Act} {w : World} {Q : Exit → Act → World → Prop} (hgd : o.guard = none) (sl x : Operand) (t u : TypeId)
  (ho : o.op = .call { callee := .builtin .append, args := #[sl, x], argTypes := #[t, u] })
  (e : TypeId) (i : TypeInfo) (ht : P.underlying t = some (.slice e)) (hu : P.underlying u = some .string) (hi : P.info? e = some i) (hz : i.zero = some (.int .u8 0))
  (hsize : i.size = 1) (hby : i.bytes = 1)
  (v : Value) (n : Nat) (xs : List Value) (hs : a.eval sl = v) (hown : w.ownsRow 0 e 1 v n xs) (s : ByteArray) (hx : a.eval x = .string s) (hb : n + s.size ≤ 140737488355328)
  (h : ∀ v' w', AppKept w e v (xs ++ strCells s) w' v' → wpList P ops Q rest (a.put o.dst v') w') : wpList P ops Q (o :: rest) a w := by
 refine wpList_plain hgd fun K hK => ?_
 obtain ⟨v', w', hr, h2⟩ := app_kept (P := P) (ty := o.type) ht hu hi hz hsize hby hown s hb
 unfold Oper.wp execOp
 simp only [ho, resolve, invoke, builtin, Sem.run_bind, Sem.run_pure, Result.andThen_ok, List.map_toArray, List.map_cons, List.map_nil, hs, hx, hr]
 exact hK _ _ (h v' w' h2)
theorem zc7 {w : World} {b j : Nat} {c : Array Value} {t : TypeId} {f : Nat × Nat} {v : Value} (hb : w.heap[b]? = some (.cells c t f)) (hv : c[j]? = some v) : w.setCell ⟨b, j, none⟩ v = w := by
 have e : (w.setCell ⟨b, j, none⟩ v).heap = w.heap := by
  apply Array.ext_getElem?
  intro k
  simp only [World.setCell, Array.getElem?_modify]
  by_cases hk : b = k
  · subst hk
    rw [if_pos rfl, hb]
    simp only [Option.map_some, Option.isSome_none, Bool.false_eq_true, if_false]
    have : c.setIfInBounds j v = c := by
     apply Array.ext_getElem?
     intro i
     rw [Array.getElem?_setIfInBounds]
     split
     · rename_i h; subst h; split
       · rw [hv]
       · rename_i h2; rw [Array.getElem?_eq_none (by omega)]
     · rfl
    rw [this]
  · rw [if_neg hk]
 exact congrArg (fun h => ({ w with heap := h } : World)) e
def BW (P : Program) (f : FuncId) (T e : TypeId) : Prop := ∀ (b : Nat) (p v : Value) (bs : List Value) (s : ByteArray) (w : World), w.heap[b]? = some (.cells #[p, v] T (0, 0)) →
  (p = .pointer none ∨ p = .pointer (some ⟨b, 0, none⟩)) → w.ownsRow 0 e 1 v bs.length bs → v.ownBlock ≠ some b → bs.length + s.size ≤ 140737488355328 →
  Calls P f #[.pointer (some ⟨b, 0, none⟩), .string s] w fun ex w' => ex = .returned (.tuple #[.int .i64 s.size, .nilIface]) ∧ ∃ w2 v', AppKept (w.setCell ⟨b, 0, none⟩ (.pointer (some ⟨b, 0, none⟩))) e v (bs ++ strCells s) w2 v' ∧
   w2.heap[b]? = some (.cells #[.pointer (some ⟨b, 0, none⟩), v] T (0, 0)) ∧ w' = w2.setCell ⟨b, 1, none⟩ v'
def BS (P : Program) (f : FuncId) (T e : TypeId) : Prop := ∀ (b g cap : Nat) (p : Value) (cur : Array Value) (l : List UInt8) (w : World), w.heap[b]? = some (.cells #[p, .slice (some ⟨g, 0, none⟩) l.length cap] T (0, 0)) →
  w.ownsRow 0 e 1 (.slice (some ⟨g, 0, none⟩) l.length cap) l.length (byteCells l) → w.heap[g]? = some (.cells cur e (0, 0)) → l.length ≤ cap → cap ≤ maxLen → cur.size = cap → l ≠ [] →
  Calls P f #[.pointer (some ⟨b, 0, none⟩)] w fun ex w' => ex = .returned (.string ⟨l.toArray⟩) ∧ w' = w.drew.freeze ⟨g, 0, none⟩ l.length
variable {f : FuncId} {T e : TypeId}
theorem z48 {w : World} {b j k : Nat} {v : Value} (h : b ≠ k) : (w.setCell ⟨b, j, none⟩ v).heap[k]? = w.heap[k]? := by
 simp [World.setCell, Array.getElem?_modify, h]
theorem z9k {w : World} {b j : Nat} {c : Array Value} {t : TypeId} {f : Nat × Nat} {v : Value} (hb : w.heap[b]? = some (.cells c t f)) : (w.setCell ⟨b, j, none⟩ v).heap[b]? = some (.cells (c.setIfInBounds j v) t f) := by
 simp [World.setCell, Array.getElem?_modify, hb]
theorem z6h {w : World} {b j : Nat} {v : Value} : (w.setCell ⟨b, j, none⟩ v).heap.size = w.heap.size := by simp [World.setCell]
theorem z5h {w : World} {b j k : Nat} {c : Array Value} {t : TypeId} {f : Nat × Nat} {v : Value} (hb : w.heap[b]? = some (.cells c t f)) : (w.setCell ⟨b, j, none⟩ v).shape? k = w.shape? k := by
 by_cases h : b = k
 · subst h
   unfold World.shape?
   rw [z9k hb, hb]; simp
 · unfold World.shape?
   rw [z48 h]
def bobj (T : TypeId) (x : AV) : AObj := .arr 2 [[.a (.bld T 0), .a x]]
def BR (l : List UInt8) : List (List FV) := l.map fun b => [.int .u8 b.toNat]
abbrev zcs (n : Nat) : TV := .tup [(false, [.a (.fz (.int .i64 n))]), (false, [.a (.fz (.cst .nilIface))])]
theorem z51 {l : List UInt8} {i : Nat} {x : UInt8} (h : l[i]? = some x) : (byteCells l)[i]? = some (.int .u8 x.toNat) := by
 unfold byteCells
 rw [List.getElem?_map, h]; rfl
theorem zf9 {w : World} {X : Nat → Prop} {β : Nat → Option Nat} {T : TypeId} {x : AV} {b : Nat} (hb : β 0 = some b) (h : ORep w X β (bobj T x) b) :
  ∃ u0 u1, w.heap[b]? = some (.cells #[u0, u1] T (0, 0)) ∧ (u0 = .pointer none ∨ u0 = .pointer (some ⟨b, 0, none⟩)) ∧ ARep w X β x u1 := by
 obtain ⟨us, t, h1, h2, h3, h4⟩ := h
 obtain ⟨u0, e0, r0⟩ := h4 0 0 _ _ rfl rfl
 obtain ⟨u1, e1, r1⟩ := h4 0 1 _ _ rfl rfl
 cases r0 with
 | a _ _ r0 =>
 cases r1 with
 | a _ _ r1 =>
 cases r0 with
 | bld _ _ b' _ q1 q2 q3 =>
 rw [hb] at q1
 injection q1 with q1
 subst q1
 have hs : w.shape? b = some (t, us.length) := by simp [World.shape?, h1]
 rw [hs] at q2
 injection q2 with q2
 simp only [Prod.mk.injEq] at q2
 obtain ⟨rfl, q2⟩ := q2
 match us, q2 with
 | [v0, v1], _ =>
  simp at e0 e1
  subst e0; subst e1
  exact ⟨_, _, h1, q3, r1⟩
theorem z9z (hf : BW P f T e) {k : Nat} (hk1 : 1 ≤ k) {h : Nat → AObj} {w : World} {β : Nat → Option Nat} {Y : Nat → Prop} (hβ : ∀ o b, β o = some b → o < k) (hY : ∀ b, Y b → b < w.heap.size)
  (hO : Objs h β Y w) {x : AV} {b : Nat} (h0 : h 0 = bobj T x) (hb : β 0 = some b) {l : List UInt8}
  (hx : ∀ u, ARep w (XO Y h β) β x u → w.ownsRow 0 e 1 u l.length (byteCells l) ∧ ∀ g, u.ownBlock = some g → ∃ o, 0 < o ∧ isLive (h o) ∧ β o = some g)
  (s : List UInt8) (hs : s ≠ []) (hlen : l.length + s.length ≤ 140737488355328) {h' : Nat → AObj} (e0 : h' 0 = bobj T (.osb k e (l.length + s.length))) (ek : h' k = .arz 1 (BR (l ++ s))) (eo : ∀ o, o ≠ 0 → o ≠ k → h' o = .gone) :
  Calls P f #[.pointer (some ⟨b, 0, none⟩), .string ⟨s.toArray⟩] w fun e w' => ∃ v β', e = .returned v ∧ Good w (Own h β) w' ∧ Objs h' β' Y w' ∧ TRep w' (XO Y h' β') β' (zcs s.length) v ∧
   (∀ o b, β' o = some b → o < k + 1) ∧ (∀ o, o < k → β' o = β o) ∧ (∀ o b, k ≤ o → β' o = some b → w.heap.size ≤ b ∨ Own h β b) := by
 have hl0 : isLive (h 0) := by rw [h0]; trivial
 have hr := hO.rep 0 b hl0 hb
 rw [h0] at hr
 obtain ⟨u0, u1, g1, g2, g3⟩ := zf9 hb hr
 obtain ⟨hown, hblk⟩ := hx u1 g3
 obtain ⟨hbs, hbY⟩ := hO.here hl0 hb
 have hne : u1.ownBlock ≠ some b := fun e => by
  obtain ⟨o, q1, q2, q3⟩ := hblk b e
  have := hO.inj o 0 b q2 hl0 q3 hb
  omega
 have hbl : (byteCells l).length = l.length := byteCells_length l
 rw [← hbl] at hown
 refine (hf b u0 u1 (byteCells l) ⟨s.toArray⟩ w g1 g2 hown hne (by rw [hbl]; show l.length + s.toArray.size ≤ _; simpa using hlen)).mono ?_
 rintro e w' ⟨rfl, w2, v', hk, hb2, rfl⟩
 have hsl : strCells ⟨s.toArray⟩ = byteCells s := by rw [strCells_eq]
 have ebs : byteCells l ++ strCells ⟨s.toArray⟩ = byteCells (l ++ s) := by rw [hsl, byteCells_append]
 rw [ebs] at hk
 have hn : (byteCells (l ++ s)).length = l.length + s.length := by rw [byteCells_length, List.length_append]
 have hpos : 0 < s.length := by cases s with | nil => exact absurd rfl hs | cons => simp
 have hk0 := hk.own
 rw [hn] at hk0
 obtain ⟨g, cap, cur, rfl, _, hg, hnc, hcm, hcs, htake⟩ : ∃ g cap cur, v' = .slice (some ⟨g, 0, none⟩) (l.length + s.length) cap ∧ 0 ≤ g ∧ w2.heap[g]? = some (.cells cur e (0, 0)) ∧ l.length + s.length ≤ cap ∧ cap ≤ maxLen ∧ cur.size = cap * 1 ∧ cur.toList.take ((l.length + s.length) * 1) = byteCells (l ++ s) := by
  rcases hk0.2 with ⟨_, hz⟩ | q
  · omega
  · exact q
 have hw1 : (w.setCell ⟨b, 0, none⟩ (.pointer (some ⟨b, 0, none⟩))).heap.size = w.heap.size := z6h
 have hsz : w.heap.size ≤ w2.heap.size := by have := hk.size; omega
 have hgb : g ≠ b := fun e => by
  rcases hk.new g rfl with q | q
  · exact hne (by rw [q, e])
  · omega
 have hgs : g < w2.heap.size := by
  rcases Nat.lt_or_ge g w2.heap.size with q | q
  · exact q
  · simp [Array.getElem?_eq_none q] at hg
 have heap' : ∀ j, j ≠ b → (w2.setCell ⟨b, 1, none⟩ (.slice (some ⟨g, 0, none⟩) (l.length + s.length) cap)).heap[j]? = w2.heap[j]? := fun j hj => z48 (Ne.symm hj)
 have heapb : (w2.setCell ⟨b, 1, none⟩ (.slice (some ⟨g, 0, none⟩) (l.length + s.length) cap)).heap[b]? = some (.cells #[.pointer (some ⟨b, 0, none⟩), .slice (some ⟨g, 0, none⟩) (l.length + s.length) cap] T (0, 0)) := by
  rw [z9k hb2]; rfl
 have hs' : (w2.setCell ⟨b, 1, none⟩ (.slice (some ⟨g, 0, none⟩) (l.length + s.length) cap)).heap.size = w2.heap.size := z6h
 have heapg : (w2.setCell ⟨b, 1, none⟩ (.slice (some ⟨g, 0, none⟩) (l.length + s.length) cap)).heap[g]? = some (.cells cur e (0, 0)) := by rw [heap' g hgb]; exact hg
 have hshp : ∀ j, j < w.heap.size → (w2.setCell ⟨b, 1, none⟩ (.slice (some ⟨g, 0, none⟩) (l.length + s.length) cap)).shape? j = w.shape? j := fun j hj => by
  rw [z5h hb2, hk.shp j (by omega), z5h g1]
 have hold : ∀ j, j < w.heap.size → j ≠ b → u1.ownBlock ≠ some j → (w2.setCell ⟨b, 1, none⟩ (.slice (some ⟨g, 0, none⟩) (l.length + s.length) cap)).heap[j]? = w.heap[j]? := fun j hj q1 q2 => by
  rw [heap' j q1, hk.blk j (by omega) q2, z48 (Ne.symm q1)]
 have hgown : w.heap.size ≤ g ∨ ∃ o, 0 < o ∧ isLive (h o) ∧ β o = some g := by
  rcases hk.new g rfl with q | q
  · exact .inr (hblk g q)
  · exact .inl (by omega)
 have hgY : ¬ Y g := fun hy => by
  rcases hgown with q | ⟨o, _, q2, q3⟩
  · have := hY g hy; omega
  · exact (hO.here q2 q3).2 hy
 generalize hW : w2.setCell ⟨b, 1, none⟩ (.slice (some ⟨g, 0, none⟩) (l.length + s.length) cap) = W at *
 have hWs : w.heap.size ≤ W.heap.size := by omega
 have hk0' : (0 : Nat) ≠ k := by omega
 have blive : ∀ o, isLive (h' o) → o = 0 ∨ o = k := fun o ho => by
  by_cases q : o = 0
  · exact .inl q
  by_cases q2 : o = k
  · exact .inr q2
  rw [eo o q q2] at ho; exact ho.elim
 obtain ⟨γ, hγ⟩ : ∃ γ : Nat → Option Nat, γ = fun o => if o = k then some g else β o := ⟨_, rfl⟩
 have B0 : γ 0 = some b := by rw [hγ]; simp only [if_neg hk0']; exact hb
 have Bk : γ k = some g := by rw [hγ]; simp
 have Bn : ∀ o, o ≠ k → γ o = β o := fun o q => by rw [hγ]; simp only [if_neg q]
 have hcs' : cur.size = cap := by simpa using hcs
 refine ⟨_, γ, rfl, ⟨hWs, fun j hj hf => ?_, fun j hj => hshp j hj, ?_, ?_, ?_⟩, ⟨fun o c ho hc => ?_, fun o ho => ?_, fun o o' c ho ho' hc hc' => ?_, fun o c hc => ?_⟩, ?_, fun o c hc => ?_, fun o ho => ?_, fun o c ho hc => ?_⟩
 · refine hold j hj (fun e => hf ⟨0, hl0, by rw [e]; exact hb⟩) fun e => ?_
   obtain ⟨o, _, q2, q3⟩ := hblk j e
   exact hf ⟨o, q2, q3⟩
 · rw [← hW]; exact hk.os
 · rw [← hW]; exact hk.tape
 · rw [← hW]; exact hk.output
 · rcases blive o ho with rfl | rfl
   · rw [B0] at hc
     injection hc with hc
     subst hc
     rw [e0]
     refine ⟨[.pointer (some ⟨b, 0, none⟩), .slice (some ⟨g, 0, none⟩) (l.length + s.length) cap], T, heapb, by simp, by simp, fun i j e c he hc => ?_⟩
     cases i with
     | succ i => simp at he
     | zero =>
      simp at he; subst he
      match j with
      | 0 =>
       simp at hc; subst hc
       exact ⟨_, rfl, .a _ _ (.bld _ _ b _ B0 (by simp [World.shape?, heapb]) (.inr rfl))⟩
      | 1 =>
       simp at hc; subst hc
       exact ⟨_, rfl, .a _ _ (.osb _ _ _ g cap Bk (by simp [World.shape?, heapg, hcs']) hnc hcm)⟩
      | j + 2 => simp at hc
   · rw [Bk] at hc
     injection hc with hc
     subst hc
     rw [ek]
     refine ⟨cur.toList, e, by simpa using heapg, ?_, ?_, fun i j e c he hc => ?_⟩
     · simp only [BR, List.length_map, List.length_append, Array.length_toList]; omega
     · intro e he
       simp only [BR, List.map_map, List.mem_map] at he
       obtain ⟨y, _, rfl⟩ := he
       rfl
     · simp only [BR, List.map_map, List.getElem?_map] at he
       obtain ⟨y, hy, rfl⟩ := Option.map_eq_some_iff.1 he
       cases j with
       | succ j => simp [fzs] at hc
       | zero =>
        simp [fzs] at hc; subst hc
        have hi : i < l.length + s.length := by
         have := (List.getElem?_eq_some_iff.1 hy).1
         simpa using this
        have q := z51 hy
        rw [← htake, List.getElem?_take, if_pos (by omega)] at q
        exact ⟨_, by simpa using q, .a _ _ (.fz _ _ (.int _ _))⟩
 · rcases blive o ho with rfl | rfl
   · exact .inl ⟨b, B0, by omega, hbY⟩
   · exact .inl ⟨g, Bk, by omega, hgY⟩
 · rcases blive o ho with rfl | rfl <;> rcases blive o' ho' with rfl | rfl
   · rfl
   · rw [B0] at hc; rw [Bk] at hc'; rw [← hc'] at hc; injection hc with hc; exact absurd hc.symm hgb
   · rw [Bk] at hc; rw [B0] at hc'; rw [← hc'] at hc; injection hc with hc; exact absurd hc hgb
   · rfl
 · by_cases q : o = k
   · rw [q, Bk] at hc; injection hc with hc; omega
   · rw [Bn o q] at hc
     have := hO.lt o c hc; omega
 · refine ⟨[.int .i64 s.length, .nilIface], rfl, rfl, fun j c u hc hu => ?_⟩
   match j with
   | 0 => simp at hc hu; subst hc; subst hu; exact ⟨[_], rfl, .cons (.a _ _ (.fz _ _ (.int _ _))) .nil, fun _ => rfl⟩
   | 1 => simp at hc hu; subst hc; subst hu; exact ⟨[_], rfl, .cons (.a _ _ (.fz _ _ (.cst _ rfl))) .nil, fun _ => rfl⟩
   | j + 2 => simp at hc
 · by_cases q : o = k
   · omega
   · rw [Bn o q] at hc
     have := hβ o c hc; omega
 · exact Bn o (by omega)
 · by_cases q : o = k
   · rw [q, Bk] at hc
     injection hc with hc
     subst hc
     rcases hgown with q | ⟨o, _, q2, q3⟩
     · exact .inl q
     · exact .inr ⟨o, q2, q3⟩
   · rw [Bn o q] at hc
     have := hβ o c hc; omega
theorem bwArgs {w : World} {X : Nat → Prop} {β : Nat → Option Nat} {s : List UInt8} {vals : List Value} (h : LRep (TRep w X β) [.c (.a (.ep 0 2 0 0)), .c (.a (.fz (.str s)))] vals) : ∃ b, β 0 = some b ∧ vals = [.pointer (some ⟨b, 0, none⟩), .string ⟨s.toArray⟩] := by
 obtain ⟨u, us, rfl, h1, h2⟩ := h.cons_inv
 obtain ⟨v, us, rfl, h3, h4⟩ := h2.cons_inv
 rw [h4.nil_inv]
 cases h1 with
 | a _ _ h1 => cases h1 with
  | ep _ _ _ _ b h1 =>
   cases h3 with
   | a _ _ h3 => cases h3 with
    | fz _ _ h3 => cases h3 with
     | str _ => exact ⟨b, h1, by simp⟩
theorem c_bw0_ (hf : BW P f T e) (hen : z0r P f = true) (s : List UInt8) (hs : s ≠ []) (hlen : s.length ≤ 140737488355328) :
  AC P f [.c (.a (.ep 0 2 0 0)), .c (.a (.fz (.str s)))] [.arr 2 [[.a (.bld T 0), .a (.fz .nils)]]] (zcs s.length) [.arr 2 [[.a (.bld T 0), .a (.osb 1 e s.length)]], .arz 1 (BR s)] := by
 refine ⟨hen, by simp, fun w vals β Y hβ hY hG hO hargs => ?_⟩
 obtain ⟨b, hb, rfl⟩ := bwArgs hargs
 refine z9z hf (k := 1) (Nat.le_refl _) (x := .fz .nils) (l := []) hβ hY hO rfl hb (fun u hu => ?_) s hs (by simpa using hlen) (by simp; rfl) (by rfl) (fun o h0 h1 => ?_)
 · cases hu with
   | fz _ _ hu => cases hu with
    | nils => exact ⟨World.ownsRow_nil _ _ _ _, fun g hg => by cases hg⟩
 · match o with
   | o + 2 => rfl
   | 0 => exact absurd rfl h0
   | 1 => exact absurd rfl h1
theorem zj0 {w : World} {Y : Nat → Prop} {h : Nat → AObj} {β : Nat → Option Nat} {e : TypeId} {l : List UInt8} {u : Value} (hO : Objs h β Y w) (h1 : h 1 = .arz 1 (BR l)) (hu : ARep w (XO Y h β) β (.osb 1 e l.length) u) :
  ∃ g cap cur, u = .slice (some ⟨g, 0, none⟩) l.length cap ∧ β 1 = some g ∧ w.heap[g]? = some (.cells cur e (0, 0)) ∧ l.length ≤ cap ∧ cap ≤ maxLen ∧ cur.size = cap ∧ w.ownsRow 0 e 1 u l.length (byteCells l) := by
 cases hu with
 | osb _ _ _ g cap q1 q2 q3 q4 =>
  have hl : isLive (h 1) := by rw [h1]; trivial
  have hr := hO.rep 1 g hl q1
  rw [h1] at hr
  obtain ⟨us, t, g1, g2, g3, g4⟩ := hr
  have hs : w.shape? g = some (t, us.length) := by simp [World.shape?, g1]
  rw [hs] at q2
  injection q2 with q2
  simp only [Prod.mk.injEq] at q2
  obtain ⟨rfl, hc⟩ := q2
  refine ⟨g, cap, us.toArray, rfl, q1, g1, q3, q4, by simpa using hc, by simp [byteCells_length], .inr ⟨g, cap, us.toArray, rfl, Nat.zero_le _, g1, q3, q4, by simpa using hc, ?_⟩⟩
  apply List.ext_getElem?
  intro i
  rw [List.getElem?_take]
  by_cases hi : i < l.length
  · rw [if_pos (by omega)]
    have hx : l[i]? = some l[i] := List.getElem?_eq_getElem hi
    obtain ⟨v, hv, hr⟩ := g4 i 0 [.a (.fz (.int .u8 (l[i]).toNat))] _ (by simp [BR, hx, fzs, cell]) rfl
    cases hr with
    | a _ _ hr => cases hr with
     | fz _ _ hr => cases hr with
      | int _ _ =>
       rw [z51 hx]
       simpa using hv
  · rw [if_neg (by omega), List.getElem?_eq_none (by rw [byteCells_length]; omega)]
theorem c_bw1_ (hf : BW P f T e) (hen : z0r P f = true) (l s : List UInt8) (hs : s ≠ []) (hlen : l.length + s.length ≤ 140737488355328) :
  AC P f [.c (.a (.ep 0 2 0 0)), .c (.a (.fz (.str s)))] [.arr 2 [[.a (.bld T 0), .a (.osb 1 e l.length)]], .arz 1 (BR l)] (zcs s.length)
   [.arr 2 [[.a (.bld T 0), .a (.osb 2 e (l ++ s).length)]], .gone, .arz 1 (BR (l ++ s))] := by
 refine ⟨hen, by simp, fun w vals β Y hβ hY hG hO hargs => ?_⟩
 obtain ⟨b, hb, rfl⟩ := bwArgs hargs
 refine z9z hf (k := 2) (by omega) (x := .osb 1 e l.length) (l := l) hβ hY hO rfl hb (fun u hu => ?_) s hs hlen (by simp; rfl) (by rfl) (fun o h0 h1 => ?_)
 · obtain ⟨g, cap, cur, rfl, q1, _, _, _, _, q2⟩ := zj0 hO rfl hu
   refine ⟨q2, fun g' hg' => ⟨1, by omega, trivial, ?_⟩⟩
   have : g = g' := by simpa [Value.ownBlock] using hg'
   rw [← this]; exact q1
 · match o with
   | 0 => exact absurd rfl h0
   | 1 => rfl
   | 2 => exact absurd rfl h1
   | o + 3 => rfl
theorem c_bstr_ (hf : BS P f T e) (hen : z0r P f = true) (l : List UInt8) (hs : l ≠ []) :
  AC P f [.c (.a (.ep 0 2 0 0))] [.arr 2 [[.a (.bld T 0), .a (.osb 1 e l.length)]], .arz 1 (BR l)] (.c (.a (.fz (.str l)))) [.gone, .gone] := by
 refine ⟨hen, by simp, fun w vals β Y hβ hY hG hO hargs => ?_⟩
 obtain ⟨u, us, rfl, h1, h2⟩ := hargs.cons_inv
 rw [h2.nil_inv]
 cases h1 with
 | a _ _ h1 => cases h1 with
  | ep _ _ _ _ b hb =>
   have hl0 : isLive (List.getD [AObj.arr 2 [[.a (.bld T 0), .a (.osb 1 e l.length)]], .arz 1 (BR l)] 0 .gone) := trivial
   obtain ⟨u0, u1, g1, g2, g3⟩ := zf9 (T := T) (x := .osb 1 e l.length) hb (hO.rep 0 b hl0 hb)
   obtain ⟨g, cap, cur, rfl, q1, q2, q3, q4, q5, q6⟩ := zj0 hO rfl g3
   refine (hf b g cap u0 cur l w g1 q6 q2 q3 q4 q5 hs).mono ?_
   rintro e w' ⟨rfl, rfl⟩
   have hl1 : isLive (List.getD [AObj.arr 2 [[.a (.bld T 0), .a (.osb 1 e l.length)]], .arz 1 (BR l)] 1 .gone) := trivial
   have hn : l.length ≠ 0 := by simpa using hs
   obtain ⟨W, hW⟩ : ∃ W, W = w.drew := ⟨_, rfl⟩
   have d1 : W.heap = w.heap := by rw [hW]; rfl
   have d2 : W.os = w.os := by rw [hW]; rfl
   have d3 : W.tape = w.tape := by rw [hW]; rfl
   have d4 : W.output = w.output := by rw [hW]; rfl
   rw [← hW]
   have hf : ∀ j, g ≠ j → (W.freeze ⟨g, 0, none⟩ l.length).heap[j]? = w.heap[j]? := fun j hj => by
    simp [World.freeze, hn, Array.getElem?_modify, hj, d1]
   have hsz : (W.freeze ⟨g, 0, none⟩ l.length).heap.size = w.heap.size := by
    simp [World.freeze, hn, d1]
   have hsh : ∀ j, (W.freeze ⟨g, 0, none⟩ l.length).shape? j = w.shape? j := fun j => by
    by_cases hj : g = j
    · subst hj
      simp [World.shape?, World.freeze, hn, Array.getElem?_modify, d1, q2]
    · unfold World.shape?; rw [hf j hj]
   have hg9 : ∀ o, List.getD [AObj.gone, AObj.gone] o .gone = .gone := fun o => by
    match o with
    | 0 => rfl
    | 1 => rfl
    | o + 2 => rfl
   refine ⟨_, β, rfl, ⟨Nat.le_of_eq hsz.symm, fun j hj hfo => hf j fun e => hfo ⟨1, hl1, by rw [← e]; exact q1⟩, fun j _ => hsh j, ?_, ?_, ?_⟩, ⟨fun o c ho => ?_, fun o ho => ?_, fun o o' c ho => ?_, fun o c hc => ?_⟩, .a _ _ (.fz _ _ (.str _)), hβ, fun _ _ => rfl, fun o c ho hc => ?_⟩
   · simp [World.freeze, hn, d2]
   · simp [World.freeze, hn, d3]
   · simp [World.freeze, hn, d4]
   · rw [hg9] at ho; exact ho.elim
   · rw [hg9] at ho; exact ho.elim
   · rw [hg9] at ho; exact ho.elim
   · rw [hsz]; exact hO.lt o c hc
   · have := hβ o c hc
     simp only [List.length_cons, List.length_nil] at this ho
     omega
end
end Go.AM
