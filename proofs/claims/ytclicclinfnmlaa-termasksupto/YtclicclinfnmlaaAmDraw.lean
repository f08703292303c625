/- Soundness of a region whose order Go leaves open. No conditions. -/
import Derived.Test.YtclicclinfnmlaaAmOrder
namespace Go.AM

/-- The values behind the operations of D, in the order of the text. -/
def eD (e0 : Nat → TV) (δ : Nat → Dl) (D : Nat → Bool) : Nat → (Nat → TV)
  | 0 => e0
  | k + 1 => if D k = true then putF (δ k).dst (δ k).val (eD e0 δ D k) else eD e0 δ D k
def hD (h0 : Nat → AObj) (δ : Nat → Dl) (D : Nat → Bool) : Nat → (Nat → AObj)
  | 0 => h0
  | k + 1 => if D k = true then over (δ k).upd (hD h0 δ D k) else hD h0 δ D k

theorem putF_same {d : Option Nat} {v : TV} {e : Nat → TV} {t : Nat} (h : d = some t) : putF d v e t = v := by subst h; simp [putF, AM.upd]
theorem putF_ne {d : Option Nat} {v : TV} {e : Nat → TV} {t : Nat} (h : d ≠ some t) : putF d v e t = e t := by
  cases d with
  | none => rfl
  | some i => simp only [putF, AM.upd]; rw [if_neg (fun e => h (by rw [e]))]
theorem over_none {u : AHeap} {h : Nat → AObj} {x : Nat} (hx : find2 u x = none) : over u h x = h x := by simp [over, hx]

variable {e0 : Nat → TV} {h0 : Nat → AObj} {δ : Nat → Dl}

theorem eD_congr {D D' : Nat → Bool} {t : Nat} : ∀ k, (∀ j, j < k → (δ j).dst = some t → D j = D' j) → eD e0 δ D k t = eD e0 δ D' k t
  | 0, _ => rfl
  | k + 1, h => by
    have ih := eD_congr k (fun j hj => h j (by omega))
    simp only [eD]
    by_cases hd : (δ k).dst = some t
    · have := h k (by omega) hd
      rw [this]
      split
      · rw [putF_same hd, putF_same hd]
      · exact ih
    · split <;> split <;> simp only [putF_ne hd, ih]
theorem hD_congr {D D' : Nat → Bool} {x : Nat} : ∀ k, (∀ j, j < k → find2 (δ j).upd x ≠ none → D j = D' j) → hD h0 δ D k x = hD h0 δ D' k x
  | 0, _ => rfl
  | k + 1, h => by
    have ih := hD_congr k (fun j hj => h j (by omega))
    simp only [hD]
    cases hd : find2 (δ k).upd x with
    | some y =>
      have := h k (by omega) (by rw [hd]; simp)
      rw [this]
      split
      · simp [over, hd]
      · exact ih
    | none => split <;> split <;> simp only [over_none hd, ih]

def add (D : Nat → Bool) (i : Nat) (k : Nat) : Bool := if k = i then true else D k

theorem eD_add {D : Nat → Bool} {i t : Nat} (hi : D i = false) : ∀ n, i < n → (∀ j, i < j → j < n → D j = true → (δ i).dst = some t → (δ j).dst ≠ some t) → eD e0 δ (add D i) n t = putF (δ i).dst (δ i).val (eD e0 δ D n) t
  | 0, h, _ => by omega
  | n + 1, h, hno => by
    by_cases hin : i = n
    · subst hin
      simp only [eD, add, if_true, hi, Bool.false_eq_true, if_false]
      by_cases hd : (δ i).dst = some t
      · rw [putF_same hd, putF_same hd]
      · rw [putF_ne hd, putF_ne hd]
        exact eD_congr i (fun j hj _ => by simp [add, show j ≠ i by omega])
    · have ih := eD_add hi n (by omega) (fun j h1 h2 => hno j h1 (by omega))
      simp only [eD, add, show ¬ n = i from fun e => hin e.symm, if_false]
      by_cases hDn : D n = true
      · simp only [hDn, if_true]
        by_cases hd : (δ n).dst = some t
        · have hdi : (δ i).dst ≠ some t := fun hdi => hno n (by omega) (by omega) hDn hdi hd
          rw [putF_same hd, putF_ne hdi, putF_same hd]
        · rw [putF_ne hd]
          by_cases hdi : (δ i).dst = some t
          · rw [putF_same hdi]; rw [putF_same hdi] at ih; exact ih
          · rw [putF_ne hdi, putF_ne hd]; rw [putF_ne hdi] at ih; exact ih
      · rw [if_neg hDn, if_neg hDn]
        exact ih
theorem hD_add {D : Nat → Bool} {i x : Nat} (hi : D i = false) : ∀ n, i < n → (∀ j, i < j → j < n → D j = true → find2 (δ i).upd x ≠ none → find2 (δ j).upd x = none) → hD h0 δ (add D i) n x = over (δ i).upd (hD h0 δ D n) x
  | 0, h, _ => by omega
  | n + 1, h, hno => by
    by_cases hin : i = n
    · subst hin
      simp only [hD, add, if_true, hi, Bool.false_eq_true, if_false]
      cases hd : find2 (δ i).upd x with
      | some y => simp [over, hd]
      | none =>
        rw [over_none hd, over_none hd]
        exact hD_congr i (fun j hj _ => by simp [add, show j ≠ i by omega])
    · have ih := hD_add hi n (by omega) (fun j h1 h2 => hno j h1 (by omega))
      simp only [hD, add, show ¬ n = i from fun e => hin e.symm, if_false]
      by_cases hDn : D n = true
      · simp only [hDn, if_true]
        cases hd : find2 (δ n).upd x with
        | some y =>
          have hdi : find2 (δ i).upd x = none := by
            cases hdi : find2 (δ i).upd x with
            | none => rfl
            | some z => have := hno n (by omega) (by omega) hDn (by rw [hdi]; simp); rw [hd] at this; cases this
          rw [over_none hdi]
          simp [over, hd]
        | none =>
          rw [over_none hd]
          cases hdi : find2 (δ i).upd x with
          | some y => simp only [over, hdi] at ih ⊢; exact ih
          | none => rw [over_none hdi, over_none hd]; rw [over_none hdi] at ih; exact ih
      · rw [if_neg hDn, if_neg hDn]
        exact ih

/-! Who must come ahead of whom. -/
inductive Anc (ops : Array Oper) (i : Nat) : Nat → Prop
  | one (j : Nat) (o : Oper) (e : Edge) : ops[j]? = some o → e ∈ o.after → Region.binds .any e = true → e.on = i → Anc ops i j
  | more (j : Nat) (o : Oper) (e : Edge) : ops[j]? = some o → e ∈ o.after → Region.binds .any e = true → Anc ops i e.on → Anc ops i j

theorem anc_closed {ops : Array Oper} {D : Nat → Bool} (hD : ∀ (j : Nat) (o : Oper) (e : Edge), ops[j]? = some o → D j = true → e ∈ o.after → Region.binds .any e = true → D e.on = true) {i j : Nat} (h : Anc ops i j)
    (hj : ∀ (o : Oper) (e : Edge), ops[j]? = some o → e ∈ o.after → Region.binds .any e = true → D e.on = true) : D i = true := by
  induction h with
  | one j o e h1 h2 h3 h4 => rw [← h4]; exact hj o e h1 h2 h3
  | more j o e h1 h2 h3 _ ih => exact ih (fun o' e' g1 g2 g3 => hD _ o' e' g1 (hj o e h1 h2 h3) g2 g3)

theorem before_anc {ops : Array Oper} (hedge : ∀ (j : Nat) (o : Oper) (e : Edge), ops[j]? = some o → e ∈ o.after → Region.binds .any e = true → e.on < j) (j i : Nat) (h : ((Region.before ops).getD j 0).testBit i = true) : Anc ops i j := by
  let F : Array Nat → Oper → Array Nat := fun acc o => acc.push (o.after.foldl (fun s e => if Region.binds .any e then s ||| 2 ^ e.on ||| acc.getD e.on 0 else s) 0)
  have key : ∀ (l : List Oper) (k : Nat) (acc : Array Nat), (∀ j, l[j]? = ops[k + j]?) → acc.size = k → (∀ j, j < k → ∀ i, (acc.getD j 0).testBit i = true → Anc ops i j) →
      ∀ j i, ((l.foldl F acc).getD j 0).testBit i = true → Anc ops i j := by
    intro l
    induction l with
    | nil =>
      intro k acc _ hsz hacc j i hb
      simp only [List.foldl_nil] at hb
      by_cases hj : j < k
      · exact hacc j hj i hb
      · rw [Array.getD_eq_getD_getElem?, Array.getElem?_eq_none (by omega)] at hb; simp at hb
    | cons o l ih =>
      intro k acc hl hsz hacc j i hb
      simp only [List.foldl_cons] at hb
      have h0 : ops[k]? = some o := by simpa using (hl 0).symm
      refine ih (k + 1) (F acc o) (fun j => by have := hl (j + 1); simpa [Nat.add_assoc, Nat.add_comm 1 j] using this) (by simp [F, hsz]) (fun j hj i hb => ?_) j i hb
      by_cases hjk : j < k
      · refine hacc j hjk i ?_
        simp only [F, Array.getD_eq_getD_getElem?, Array.getElem?_push, show ¬ j = acc.size by omega, if_false] at hb
        simpa [Array.getD_eq_getD_getElem?] using hb
      · have hjk : j = k := by omega
        subst hjk
        simp only [F, Array.getD_eq_getD_getElem?, Array.getElem?_push, hsz, if_true, Option.getD_some] at hb
        have fold : ∀ (es : List Edge), (∀ e ∈ es, e ∈ o.after) → ∀ s, (s.testBit i = true → Anc ops i j) → ((es.foldl (fun s e => if Region.binds .any e then s ||| 2 ^ e.on ||| acc.getD e.on 0 else s) s).testBit i = true) → Anc ops i j := by
          intro es
          induction es with
          | nil => intro _ s hs hb; exact hs hb
          | cons e es ih2 =>
            intro hes s hs hb
            simp only [List.foldl_cons] at hb
            refine ih2 (fun e h => hes e (List.mem_cons_of_mem _ h)) _ (fun hb => ?_) hb
            have hem := hes e (by simp)
            split at hb
            · rename_i hbind
              simp only [Nat.testBit_or, Nat.testBit_two_pow, Bool.or_eq_true, decide_eq_true_eq] at hb
              rcases hb with (hb | hb) | hb
              · exact hs hb
              · exact .one j o e h0 hem hbind hb
              · have hlt := hedge j o e h0 hem hbind
                exact .more j o e h0 hem hbind (hacc e.on hlt i hb)
            · exact hs hb
        refine fold o.after.toList (fun e h => by simpa using h) 0 (fun h => by simp at h) ?_
        rw [← Array.foldl_toList] at hb
        simpa [Array.getD_eq_getD_getElem?] using hb
  have := key ops.toList 0 #[] (fun j => by simp) rfl (fun j hj => by omega) j i
  apply this
  rw [Array.foldl_toList]
  exact h

/-! ### The region -/
theorem chain_get {P : Program} {ops : Array Oper} {nx : Nat} : ∀ {l : List Oper} {i : Nat} {e : Nat → TV} {h : Nat → AObj} {δs : List Dl}, Chain P ops nx l i e h δs → δs.length = l.length ∧
    ∀ k o, l[k]? = some o → ∃ d, δs[k]? = some d ∧ d.dst = o.dst ∧ OpStep P ops o (nx + 32 * (i + k)) (endE e (δs.take k)) (endH h (δs.take k)) d
  | [], i, e, h, δs, hc => by cases hc; exact ⟨rfl, fun k o ho => by simp at ho⟩
  | o :: l, i, e, h, δs, hc => by
    cases hc with
    | cons _ _ _ _ _ d δs hs hd hc =>
      obtain ⟨h1, h2⟩ := chain_get hc
      refine ⟨by simp [h1], fun k o' ho => ?_⟩
      cases k with
      | zero => simp at ho; subst ho; exact ⟨d, rfl, hd, by simpa [endE, endH] using hs⟩
      | succ k =>
        obtain ⟨d', g1, g2, g3⟩ := h2 k o' (by simpa using ho)
        refine ⟨d', by simpa using g1, g2, ?_⟩
        rw [show i + (k + 1) = i + 1 + k by omega]
        simpa [endE, endH] using g3

theorem endE_eD (e0 : Nat → TV) (δs : List Dl) (dflt : Dl) (D : Nat → Bool) : ∀ k, k ≤ δs.length → (∀ j, j < k → D j = true) → endE e0 (δs.take k) = eD e0 (fun j => δs.getD j dflt) D k := by
  have snoc : ∀ (l : List Dl) (e : Nat → TV) (d : Dl), endE e (l ++ [d]) = putF d.dst d.val (endE e l) := by
    intro l; induction l with
    | nil => intro e d; rfl
    | cons x l ih => intro e d; exact ih _ _
  intro k
  induction k with
  | zero => intro _ _; rfl
  | succ k ih =>
    intro hk hD
    have hlt : k < δs.length := by omega
    rw [List.take_succ_eq_append_getElem hlt, snoc, ih (by omega) (fun j hj => hD j (by omega))]
    simp only [eD, hD k (by omega), if_true, List.getD, List.getElem?_eq_getElem hlt, Option.getD_some]
theorem endH_hD (h0 : Nat → AObj) (δs : List Dl) (dflt : Dl) (D : Nat → Bool) : ∀ k, k ≤ δs.length → (∀ j, j < k → D j = true) → endH h0 (δs.take k) = hD h0 (fun j => δs.getD j dflt) D k := by
  have snoc : ∀ (l : List Dl) (h : Nat → AObj) (d : Dl), endH h (l ++ [d]) = over d.upd (endH h l) := by
    intro l; induction l with
    | nil => intro h d; rfl
    | cons x l ih => intro h d; exact ih _ _
  intro k
  induction k with
  | zero => intro _ _; rfl
  | succ k ih =>
    intro hk hDD
    have hlt : k < δs.length := by omega
    rw [List.take_succ_eq_append_getElem hlt, snoc, ih (by omega) (fun j hj => hDD j (by omega))]
    simp only [hD, hDD k (by omega), if_true, List.getD, List.getElem?_eq_getElem hlt, Option.getD_some]

/-- The beginning of the text up to i. -/
def upTo (i : Nat) (j : Nat) : Bool := decide (j < i)
theorem eD_upTo (e0 : Nat → TV) (δ : Nat → Dl) (i : Nat) : ∀ n, i ≤ n → eD e0 δ (upTo i) n = eD e0 δ (upTo i) i
  | 0, h => by have : i = 0 := by omega
               subst this; rfl
  | n + 1, h => by
    by_cases hin : i = n + 1
    · rw [hin]
    · simp only [eD]
      rw [if_neg (by simp [upTo]; omega)]
      exact eD_upTo e0 δ i n (by omega)
theorem hD_upTo (h0 : Nat → AObj) (δ : Nat → Dl) (i : Nat) : ∀ n, i ≤ n → hD h0 δ (upTo i) n = hD h0 δ (upTo i) i
  | 0, h => by have : i = 0 := by omega
               subst this; rfl
  | n + 1, h => by
    by_cases hin : i = n + 1
    · rw [hin]
    · simp only [hD]
      rw [if_neg (by simp [upTo]; omega)]
      exact hD_upTo h0 δ i n (by omega)

theorem find2_fst {u : AHeap} {x : Nat} (h : find2 u x ≠ none) : x ∈ u.map Prod.fst := by
  cases hx : find2 u x with
  | none => exact absurd hx h
  | some y => exact List.mem_map.2 ⟨_, find2_mem hx, rfl⟩

/-- What 'drawB' says of two operations that may come in either order. -/
theorem drawB_spec {ops : Array Oper} {tr : Track} (h : drawB ops tr = true) :
    (∀ (j : Nat) (o : Oper) (e : Edge), ops[j]? = some o → e ∈ o.after → Region.binds .any e = true → e.on < j) ∧
    ∀ (i j : Nat) (oi oj : Oper) (xi xj : List Nat × List Nat), i < j → ops[i]? = some oi → ops[j]? = some oj → tr.reverse[i]? = some xi → tr.reverse[j]? = some xj → ((Region.before ops).getD j 0).testBit i = false →
      oi.apart ops oj = true ∧ (∀ o ∈ xi.2, o ∉ xj.1 ∧ o ∉ xj.2) ∧ (∀ o ∈ xj.2, o ∉ xi.1) := by
  simp only [drawB, Bool.and_eq_true] at h
  obtain ⟨⟨_, h1⟩, h2⟩ := h
  refine ⟨fun j o e ho he hb => ?_, fun i j oi oj xi xj hij hoi hoj hxi hxj hbit => ?_⟩
  · have := List.all_eq_true.1 h1 (o, j) (by rw [List.mem_zipIdx_iff_getElem?]; simpa using ho)
    have := Array.all_eq_true_iff_forall_mem.1 this e he
    simpa [hb] using this
  · have hy : ((oj, xj), j) ∈ (ops.toList.zip tr.reverse).zipIdx := by
      rw [List.mem_zipIdx_iff_getElem?]
      simp only [List.getElem?_zip_eq_some]
      exact ⟨by simpa using hoj, hxj⟩
    have hx : ((oi, xi), i) ∈ (ops.toList.zip tr.reverse).zipIdx := by
      rw [List.mem_zipIdx_iff_getElem?]
      simp only [List.getElem?_zip_eq_some]
      exact ⟨by simpa using hoi, hxi⟩
    have h3 := List.all_eq_true.1 (List.all_eq_true.1 h2 _ hy) _ hx
    simp only [hij, decide_true, Bool.not_true, Bool.false_or, hbit, Bool.and_eq_true, List.all_eq_true, Bool.not_eq_true', List.contains_eq_mem, decide_eq_false_iff_not] at h3
    exact ⟨h3.1.1, h3.1.2, h3.2⟩
end Go.AM
