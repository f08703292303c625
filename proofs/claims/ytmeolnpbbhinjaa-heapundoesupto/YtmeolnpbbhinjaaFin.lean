/- HeapUndoes: the statement HeapUndoesUptoSaid, from the contract of its function. No conditions. -/
import Derived.Test.YtmeolnpbbhinjaaPart5
set_option maxRecDepth 100000
open Go Go.Proofs
namespace Go.Proofs.Ytmeolnpbbhinjaa.heapUndoes
open Go.ChangeShapes Go.WideShapes Go.ChangeAt Go.RowKit Go.AM Go.Proofs.Ytmeolnpbbhinjaa.base

/-- What the call gives, for every argument of so much bulk. -/
theorem contract (H : Type) (enc : TypeId × Value → H) (W : World) (base : Nat) (args : Array Value) (ds gs : List (DataW H)) (before : List MemPlace)
    (hval : ∀ (j : Nat) t v, Try.f5.params[j]? = some t → args[j]? = some v → Value.okWide Try.prog W .any base t v)
    (hW : DataW.Whole enc Try.prog Try.f5.params.toList Rows.heapUndoesSpec.vars false W args.toList ds gs before) (hk : Rows.uptoSmall H (ds ++ gs) = true) :
    Calls Try.prog 5 args W fun e W' => ∃ v, e = .returned v ∧ Rows.heapUndoesSpec.post enc Try.prog Try.f5 false true false false W args v W' := by
  have hW' := hW
  obtain ⟨p, q, hA0, hV, rfl, hfz, hnd⟩ := hW
  have hA : DataW.TrodAll enc Try.prog W 0 (fun _ => true) true Try.f5.params.toList args.toList ds p := hA0
  rw [Try.params5] at hA hval
  obtain ⟨v0, vs0, d0, ds0, p0, q0, hargs, rfl, rfl, h0, r0⟩ := trodAll_cons hA
  obtain ⟨v1, vs1, d1, ds1, p1, q1, rfl, rfl, rfl, h1, r1⟩ := trodAll_cons r0
  obtain ⟨rfl, rfl, rfl⟩ := trodAll_nil r1
  obtain rfl : args = #[v0, v1] := by cases args; simp_all
  obtain ⟨rfl, rfl⟩ := trodVars_none hV
  obtain ⟨f0, f1, f2, f3, hT⟩ := tmTy
  have hC0 : CelTy Try.prog 35 _ _ _ _ _ := ⟨Try.underlying35, Try.underlying33, Try.underlying3, Try.underlying3, Try.underlying3, Try.underlying3, ⟨rfl, rfl, rfl, rfl, rfl⟩, ⟨by kernel_rfl, by kernel_rfl, by kernel_rfl, by kernel_rfl, by kernel_rfl⟩, by kernel_rfl⟩
  have hA0 : ActTy Try.prog 52 25 35 3 _ _ _ _ _ _ _ := ⟨Try.underlying52, Try.underlying3, Try.underlying3, Try.underlying3, rfl, Try.underlying9, rfl, Try.underlying36, Try.underlying3, ⟨rfl, rfl, rfl, rfl, rfl, rfl, rfl⟩, ⟨by kernel_rfl, by kernel_rfl, by kernel_rfl, by kernel_rfl, by kernel_rfl⟩, by kernel_rfl, by kernel_rfl⟩
  obtain ⟨a0, e0, z0⟩ := open_rows (n := 14) (F := fun a : Go.AM.Act => a.r) (sz := fun a => a.t.bk + 1) bulk (fun v => rfl) hA0.cT (by omega) (fun v => Nat.succ_le_succ (Nat.zero_le _)) (fun k => rd_act bulk hT hC0 hA0 k) Try.underlying49 (hval 0 49 v0 rfl rfl) h0
  have m0 := fun v (hv : v ∈ a0) => Nat.le_trans (sumBy_mem hv) (Nat.le_trans (Nat.le_succ _) z0)
  have hC1 : CelTy Try.prog 35 _ _ _ _ _ := ⟨Try.underlying35, Try.underlying33, Try.underlying3, Try.underlying3, Try.underlying3, Try.underlying3, ⟨rfl, rfl, rfl, rfl, rfl⟩, ⟨by kernel_rfl, by kernel_rfl, by kernel_rfl, by kernel_rfl, by kernel_rfl⟩, by kernel_rfl⟩
  have hA1 : ActTy Try.prog 52 25 35 3 _ _ _ _ _ _ _ := ⟨Try.underlying52, Try.underlying3, Try.underlying3, Try.underlying3, rfl, Try.underlying9, rfl, Try.underlying36, Try.underlying3, ⟨rfl, rfl, rfl, rfl, rfl, rfl, rfl⟩, ⟨by kernel_rfl, by kernel_rfl, by kernel_rfl, by kernel_rfl, by kernel_rfl⟩, by kernel_rfl, by kernel_rfl⟩
  obtain ⟨a1, e1, z1⟩ := open_rows (n := 14) (F := fun a : Go.AM.Act => a.r) (sz := fun a => a.t.bk + 1) bulk (fun v => rfl) hA1.cT (by omega) (fun v => Nat.succ_le_succ (Nat.zero_le _)) (fun k => rd_act bulk hT hC1 hA1 k) Try.underlying49 (hval 1 49 v1 rfl rfl) h1
  have m1 := fun v (hv : v ∈ a1) => Nat.le_trans (sumBy_mem hv) (Nat.le_trans (Nat.le_succ _) z1)
  have hu := upto hk
  simp only [List.append_nil, Rows.uptoBulkAll] at hu
  have hc := c_heapundoes a0 a1 (fun a ha => Nat.le_trans (Tm.sz_bk _) (Nat.le_trans (Nat.le_succ _) (Nat.le_trans (m0 a ha) (by first | (simp only [B]; omega) | omega)))) (fun a ha => Nat.le_trans (Tm.sz_bk _) (Nat.le_trans (Nat.le_succ _) (Nat.le_trans (m1 a ha) (by first | (simp only [B]; omega) | omega))))
  refine (law_true (fun g hg => (noGl g hg).elim) hc (vals := [v0, v1]) (.cons e0 (.cons e1 .nil))).mono fun e W' ⟨he, foot, hf, g⟩ => ?_
  refine ⟨_, he, post_good laidOut hW' rfl (fun ds' hd => ?_) (fun t ht => ?_) (by kernel_rfl) Try.underlying4 g hf⟩
  · match ds', hd with
    | [_, _], _ => rfl
  · rw [Try.params5] at ht
    simp only [List.mem_cons, List.not_mem_nil, or_false] at ht
    rcases ht with rfl | rfl
    · exact ⟨rec49, lt49⟩
    · exact ⟨rec49, lt49⟩

set_option maxRecDepth 100000 in
theorem lifted (os : Os) (started : os.Started) (H : Type) (enc : TypeId × Value → H) (F : Stop.Interp) :
    ReturnsInHanded {} Try.checked os 5 .any ((Rows.OpenSpec.upto Rows.heapUndoesSpec).pre6 enc Try.prog Try.f5 Rows.heapUndoesUptoRow.domain false) (((Rows.OpenSpec.upto Rows.heapUndoesSpec).at F).post enc Try.prog Try.f5 false true false false) := by
  refine returnsInHanded_of_cond (C := Try.checked) (s := Rows.OpenSpec.upto Rows.heapUndoesSpec) (k := Rows.uptoSmall) rfl own started (by kernel_rfl) Try.func5
    (OpenSpec.witness (enc := enc) (C := Try.checked) (s := Rows.OpenSpec.upto Rows.heapUndoesSpec) (k := Rows.uptoSmall) rfl false
      ⟨#[], #[.slice none 0 0, .slice none 0 0], []⟩ 8 (by kernel_rfl) (by kernel_rfl) (by kernel_rfl)
      (x := ([.nil, .nil], [], [])) (by kernel_rfl) rfl (by kernel_rfl)) ?_
  intro W base args ds gs before hval hW _ hk _
  exact contract H enc W base args ds gs before hval hW hk

/-- THE STATEMENT's second form. -/
theorem proved : Rows.HeapUndoesUptoSaid :=
  OpenClaim.holds_of_cond 5 Try.f5 rfl rfl rfl rfl rfl rfl rfl ⟨rfl, rfl, rfl, rfl, rfl⟩ rfl rfl rfl rfl rfl (by kernel_rfl) Try.func5 (by kernel_rfl)
    (of_decide_eq_true (by kernel_rfl)) (by unfold Func.isWrapper; first | (rw [if_pos (by decide +kernel)]; kernel_rfl) | (rw [if_neg (by decide +kernel)]; exact ⟨rfl, rfl⟩))
    (fun os started H enc _ F => lifted os started H enc F)
end Go.Proofs.Ytmeolnpbbhinjaa.heapUndoes
