/- A function's contract from its body. No conditions. -/
import Derived.Test.YtclicclinfnmlaaAmAwp
namespace Go.AM
open Go

def resA (P : Program) (s : St) : ResultVar → Option TV
  | .tmp t => some (look s.env t)
  | .cell t ty => match tyOf P ty with
    | some d => (loadP d (fun o => flat (hook s.heap o)) (look s.env t)).map (·.1)
    | none => none
def resAs (P : Program) (s : St) : List ResultVar → Option (List TV)
  | [] => some []
  | x :: l => match resA P s x, resAs P s l with
    | some v, some vs => some (v :: vs)
    | _, _ => none
def rowsOf : List TV → Option (List (Bool × List WV))
  | [] => some []
  | x :: l => match rowOf x, rowsOf l with
    | some v, some vs => some (v :: vs)
    | _, _ => none
def packA : List TV → Option TV
  | [x] => some x
  | l => (rowsOf l).map .tup

def argEnv : Nat → List TV → Env
  | _, [] => []
  | i, x :: l => (i, x) :: argEnv (i + 1) l
def objHeap : Nat → List AObj → AHeap
  | _, [] => []
  | i, x :: l => (i, x) :: objHeap (i + 1) l

theorem look_argEnv : ∀ (l : List TV) (i k : Nat), look (argEnv i l) k = if i ≤ k then l.getD (k - i) .any else .any
  | [], i, k => by simp [argEnv, look]
  | x :: l, i, k => by
    simp only [argEnv, look]
    by_cases h : i = k
    · subst h; simp
    · rw [if_neg h, look_argEnv l]
      by_cases h2 : i ≤ k
      · rw [if_pos (by omega), if_pos h2, show k - i = (k - (i + 1)) + 1 by omega]; simp
      · rw [if_neg (by omega), if_neg h2]
theorem hook_objHeap : ∀ (l : List AObj) (i k : Nat), hook (objHeap i l) k = if i ≤ k then l.getD (k - i) .gone else .gone
  | [], i, k => by simp [objHeap, hook]
  | x :: l, i, k => by
    simp only [objHeap, hook]
    by_cases h : i = k
    · subst h; simp
    · rw [if_neg h, hook_objHeap l]
      by_cases h2 : i ≤ k
      · rw [if_pos (by omega), if_pos h2, show k - i = (k - (i + 1)) + 1 by omega]; simp
      · rw [if_neg (by omega), if_neg h2]

/-- What stands at the return. -/
def RetOK (P : Program) (rl : List ResultVar) (m : Nat) (r : TV) (Hs' : List AObj) (s : St) : Prop :=
  ∃ (rs rs' : List TV) (σ : Nat → Nat) (E : Lent) (r0 : TV), resAs P s rl = some rs ∧ packA rs' = some r0 ∧ TV.Le r0 r ∧ E.ok (hook s.heap) ∧
    All2 (fun x y => TV.Le (x.lend E) (y.ren σ) ∧ y.lt Hs'.length = true) rs rs' ∧ (∀ o, o < m → σ o = o) ∧
    (∀ p ∈ objHeap 0 Hs', p.1 < Hs'.length ∧ flat ((hook s.heap (σ p.1)).lend E) = flat (p.2.ren σ) ∧ p.2.lt Hs'.length = true ∧ ∀ q ∈ E, q.1 ≠ σ p.1) ∧
    (∀ p ∈ objHeap 0 Hs', ∀ q ∈ objHeap 0 Hs', σ p.1 = σ q.1 → p.1 = q.1)

def Ret (P : Program) (rl : List ResultVar) (m : Nat) (r : TV) (Hs' : List AObj) : AExit → St → Prop
  | .exit _ => fun _ => False
  | _ => RetOK P rl m r Hs'

section
variable {P : Program} {w0 : World} {foot : Nat → Prop} {Y : Nat → Prop} {pin : Nat → Option Nat}

theorem addr_of_load {ty : TypeId} {u v : Value} {w : World} (h : (Instr.loadAt ty u).run P w = .ok v w) : (do loadVar ty (← asAddr u) : Sem Value).run P w = .ok v w := by
  cases u with
  | pointer p =>
    cases p with
    | some a => simpa [Instr.loadAt, Instr.sureAddr, asAddr] using h
    | none => simp [Instr.loadAt, Instr.sureAddr] at h
  | _ => simp [Instr.loadAt, Instr.sureAddr] at h

def resRun (tmps : Array Value) : ResultVar → Sem Value
  | .tmp t => pure (tmps.getD t undef)
  | .cell b t => do loadVar t (← asAddr (tmps.getD b undef))

theorem resA_run {s : St} {β : Nat → Option Nat} {a : Act} {w : World} (hR : RelF w0 foot Y pin (look s.env) (hook s.heap) β a w) {x : ResultVar} {v : TV} (hx : resA P s x = some v) :
    ∃ u, (resRun a.tmps x).run P w = .ok u w ∧ TRep w (XO Y (hook s.heap) β) β v u := by
  cases x with
  | tmp t =>
    simp only [resA, Option.some.injEq] at hx
    subst hx
    exact ⟨_, rfl, hR.env t⟩
  | cell t ty =>
    simp only [resA] at hx
    split at hx
    · rename_i d hd
      obtain ⟨r, hl, rfl⟩ := Option.map_eq_some_iff.1 hx
      have hf : ∀ o, flat (flat (hook s.heap o)) = flat (hook s.heap o) := fun o => flat_flat _
      have hO := objs_flat (h' := fun o => flat (hook s.heap o)) hf hR.objs
      have hx1 := hR.env t
      rw [← xo_flat (h' := fun o => flat (hook s.heap o)) hf] at hx1 ⊢
      obtain ⟨u, g1, g2⟩ := load_run (P := P) hO hd hx1 hl
      exact ⟨u, addr_of_load g1, g2⟩
    · cases hx

theorem resAs_run {s : St} {β : Nat → Option Nat} {a : Act} {w : World} (hR : RelF w0 foot Y pin (look s.env) (hook s.heap) β a w) : ∀ {l : List ResultVar} {vs : List TV}, resAs P s l = some vs →
    ∃ us, (l.mapM (resRun a.tmps)).run P w = .ok us w ∧ LRep (TRep w (XO Y (hook s.heap) β) β) vs us
  | [], vs, h => by
    simp only [resAs, Option.some.injEq] at h
    subst h
    exact ⟨[], by simp, .nil⟩
  | x :: l, vs, h => by
    simp only [resAs] at h
    split at h
    · rename_i v vs' h1 h2
      injection h with h; subst h
      obtain ⟨u, g1, g2⟩ := resA_run hR h1
      obtain ⟨us, g3, g4⟩ := resAs_run hR h2
      refine ⟨u :: us, ?_, .cons g2 g4⟩
      rw [List.mapM_cons]
      simp only [Sem.run_bind, g1, Result.andThen_ok, g3, Sem.run_pure]
    · cases h

theorem rowsOf_rep {X : Nat → Prop} {β : Nat → Option Nat} {w : World} : ∀ {l : List TV} {rows : List (Bool × List WV)} {us : List Value}, rowsOf l = some rows → LRep (TRep w X β) l us → LRep (PRep (WRep w X β)) rows us
  | [], rows, us, h, hl => by
    simp only [rowsOf, Option.some.injEq] at h
    subst h
    have : us = [] := List.eq_nil_of_length_eq_zero (by simpa using hl.1.symm)
    subst this
    exact .nil
  | x :: l, rows, us, h, hl => by
    simp only [rowsOf] at h
    split at h
    · rename_i v vs h1 h2
      injection h with h; subst h
      obtain ⟨u, us', rfl, hu, hr⟩ := hl.cons_inv
      refine .cons ?_ (rowsOf_rep h2 hr)
      unfold rowOf at h1
      split at h1
      · injection h1 with h1; subst h1
        exact ⟨[u], rfl, .cons hu .nil, fun _ => rfl⟩
      · injection h1 with h1; subst h1
        obtain ⟨zs, rfl, hz⟩ := hu
        exact ⟨zs, rfl, hz, fun h => by cases h⟩
      · cases h1
    · cases h

theorem packA_rep {X : Nat → Prop} {β : Nat → Option Nat} {w : World} {l : List TV} {r : TV} {us : List Value} (h : packA l = some r) (hl : LRep (TRep w X β) l us) :
    TRep w X β r (if h : us.toArray.size = 1 then us.toArray[0] else .tuple us.toArray) := by
  unfold packA at h
  split at h
  · injection h with h; subst h
    obtain ⟨u, us', rfl, hu, hr⟩ := hl.cons_inv
    have : us' = [] := List.eq_nil_of_length_eq_zero (by simpa using hr.1.symm)
    subst this
    exact hu
  · rename_i hne
    obtain ⟨rows, h1, rfl⟩ := Option.map_eq_some_iff.1 h
    have hlen : us.toArray.size ≠ 1 := by
      intro hc
      have h2 := hl.1
      simp at hc
      match l, h2, hne with
      | [], h2, _ => simp [hc] at h2
      | [x], _, hne => exact hne x rfl
      | _ :: _ :: _, h2, _ => simp [hc] at h2
    rw [dif_neg hlen]
    exact ⟨us, rfl, rowsOf_rep h1 hl⟩

/-- A CONTRACT FROM A BODY. -/
theorem AC.intro {f : FuncId} {fn : Func} {c : Code} {rl : List ResultVar} {n : Nat} {args : List TV} {Hs Hs' : List AObj} {r : TV} (hf : P.funcs[f]? = some fn) (hb : fn.body = some c) (hrl : fn.results.toList = rl) (hn : fn.ntmps = n) (hen : enterable P f = true) (hsz : args.length ≤ n)
    (hlen : Hs.length ≤ Hs'.length) (hlive : ∀ x ∈ Hs, isLive x) (hlive' : ∀ x ∈ Hs'.drop Hs.length, isLive x)
    (h : Awp P n Hs.length c (Ret P rl Hs.length r Hs') ⟨argEnv 0 args, objHeap 0 Hs, Hs.length⟩) : AC P f args Hs r Hs' := by
  subst hrl; subst hn
  refine ⟨hen, hlen, fun w vals β Y hβ hY hO hargs => ?_⟩
  have hhook : ∀ l : List AObj, hook (objHeap 0 l) = fun o => l.getD o .gone := fun l => funext fun o => by rw [hook_objHeap]; simp
  refine calls_of_wp hf hb ?_
  have hvl := hargs.1
  refine wp_mono (h w (Own (fun o => Hs.getD o .gone) β) Y β β _ w hβ (by simp; omega) ⟨Good.refl _ _, fun i => ?_, ?_, fun o b h1 h2 => .inl ⟨o, ?_, h2⟩, rfl, hY, fun _ _ h => h⟩ (fun k hk => ?_)) fun e a' w' hq => ?_
  · rw [look_argEnv, if_pos (Nat.zero_le _), Nat.sub_zero]
    show TRep w (XO Y (hook (objHeap 0 Hs)) β) β _ _
    rw [hhook]
    by_cases hi : i < args.length
    · have h1 : args[i]? = some args[i] := List.getElem?_eq_getElem hi
      have h2 : vals[i]? = some (vals[i]'(by omega)) := List.getElem?_eq_getElem (by omega)
      have := hargs.2 i _ _ h1 h2
      simp only [List.getD, h1, Option.getD_some]
      have h3 : (vals.toArray ++ Array.replicate (fn.ntmps - vals.toArray.size) undef).getD i undef = vals[i]'(by omega) := by
        simp [Array.getD_eq_getD_getElem?, Array.getElem?_append, show i < vals.length by omega]
      rw [h3]; exact this
    · simp only [List.getD, List.getElem?_eq_none (by omega : args.length ≤ i), Option.getD_none]; trivial
  · show Objs (hook (objHeap 0 Hs)) β Y w
    rw [hhook]; exact hO
  · have h1' : isLive (hook (objHeap 0 Hs) o) := h1
    rw [hhook] at h1'; exact h1'
  · cases hb : β k with
    | none => exact absurd hb hk
    | some b => exact hβ k b hb
  · have key : At w (Own (fun o => Hs.getD o .gone) β) Y β fn.ntmps (RetOK P fn.results.toList Hs.length r Hs') a' w' → a'.defers = [] ∧ ∃ v, (results fn a'.tmps).run P w' = .ok v w' ∧ ∃ v' β', Ending.returned v = .returned v' ∧
        Good w (Own (fun o => Hs.getD o .gone) β) w' ∧ Objs (fun o => Hs'.getD o .gone) β' Y w' ∧ TRep w' (fun b => Y b ∨ Own (fun o => Hs'.getD o .gone) β' b) β' r v' ∧
        (∀ o b, β' o = some b → o < Hs'.length) ∧ (∀ o, o < Hs.length → β' o = β o) ∧ (∀ o b, Hs.length ≤ o → β' o = some b → w.heap.size ≤ b ∨ Own (fun o => Hs.getD o .gone) β b) := by
      rintro ⟨s, β', ⟨rs, rs', σ, E, r0, h1, h2, h3, h4, h5, h6, h7, h8⟩, _, hR, _⟩
      refine ⟨hR.defers, ?_⟩
      obtain ⟨us, g1, g2⟩ := resAs_run hR h1
      have k := weak_of h4 h7 h8
      have hrs : LRep (TRep w' (XO Y (hook (objHeap 0 Hs')) (cutβ σ Hs'.length β')) (cutβ σ Hs'.length β')) rs' us := by
        clear h1 h2 g1
        induction rs generalizing rs' us with
        | nil =>
          cases rs' with
          | nil =>
            have : us = [] := List.eq_nil_of_length_eq_zero (by simpa using g2.1.symm)
            subst this; exact .nil
          | cons y ys => exact h5.elim
        | cons x xs ih =>
          cases rs' with
          | nil => exact h5.elim
          | cons y ys =>
            obtain ⟨u, us', rfl, hu, hr⟩ := g2.cons_inv
            exact .cons (k.rep hR.objs hu h5.1.1 h5.1.2) (ih _ h5.2 _ hr)
      have hp := TRep.le h3 (packA_rep h2 hrs)
      refine ⟨(if h : us.toArray.size = 1 then us.toArray[0] else .tuple us.toArray), ?_, _, cutβ σ Hs'.length β', rfl, hR.good, ?_, ?_, fun o b ho => ?_, fun o ho => ?_, fun o b ho hb => ?_⟩
      · unfold results
        rw [← Array.toArray_toList (xs := fn.results), List.mapM_toArray]
        simp only [Sem.run_bind, Sem.run_map, Result.andThen_ok, Sem.run_pure]
        show ((Sem.run P (List.mapM (resRun a'.tmps) fn.results.toList) w').andThen _).andThen _ = _
        rw [g1]
        rfl
      · have := k.objs hR.objs
        rw [hhook] at this; exact this
      · have := hp
        rw [hhook] at this; exact this
      · simp only [cutβ] at ho
        split at ho
        · assumption
        · cases ho
      · simp only [cutβ, show o < Hs'.length by omega, if_true, h6 o ho]
        have hl : isLive (Hs.getD o .gone) := by
          simp only [List.getD, List.getElem?_eq_getElem ho, Option.getD_some]
          exact hlive _ (List.getElem_mem ho)
        obtain ⟨b, hb, _⟩ := hO.has o hl
        rw [hR.pins o b hb, hb]
      · simp only [cutβ] at hb
        split at hb
        · rename_i hlt
          have hl : isLive (hook (objHeap 0 Hs') o) := by
            rw [hook_objHeap, if_pos (Nat.zero_le _), Nat.sub_zero]
            simp only [List.getD, List.getElem?_eq_getElem hlt, Option.getD_some]
            refine hlive' _ (List.mem_iff_getElem?.2 ⟨o - Hs.length, ?_⟩)
            rw [List.getElem?_drop, show Hs.length + (o - Hs.length) = o by omega]
            exact List.getElem?_eq_getElem hlt
          rcases hR.own _ b (k.live hl) hb with h9 | h9
          · exact .inr h9
          · exact .inl h9
        · cases hb
    cases e with
    | normal => exact key hq
    | ret => exact key hq
    | exit i => obtain ⟨s, β, h1, _⟩ := hq; exact h1.elim
    | _ => exact hq.elim
end
end Go.AM
