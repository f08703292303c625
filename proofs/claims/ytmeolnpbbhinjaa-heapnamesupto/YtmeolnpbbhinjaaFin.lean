/- HeapNames: the statement HeapNamesUptoSaid, from the contract of its function. No conditions. -/
import Derived.Test.YtmeolnpbbhinjaaPart5
set_option maxRecDepth 100000
open Go Go.Proofs
namespace Go.Proofs.Ytmeolnpbbhinjaa.heapNames
open Go.ChangeShapes Go.WideShapes Go.ChangeAt Go.RowKit Go.AM Go.Proofs.Ytmeolnpbbhinjaa.base

/-- What the call gives, for every argument of so much bulk. -/
theorem contract (H : Type) (enc : TypeId × Value → H) (W : World) (base : Nat) (args : Array Value) (ds gs : List (DataW H)) (before : List MemPlace)
    (hval : ∀ (j : Nat) t v, Try.f4.params[j]? = some t → args[j]? = some v → Value.okWide Try.prog W .any base t v)
    (hW : DataW.Whole enc Try.prog Try.f4.params.toList Rows.heapNamesSpec.vars false W args.toList ds gs before) (hk : Rows.uptoSmall H (ds ++ gs) = true) :
    Calls Try.prog 4 args W fun e W' => ∃ v, e = .returned v ∧ Rows.heapNamesSpec.post enc Try.prog Try.f4 false true false false W args v W' := by
  have hW' := hW
  obtain ⟨p, q, hA0, hV, rfl, hfz, hnd⟩ := hW
  have hA : DataW.TrodAll enc Try.prog W 0 (fun _ => true) true Try.f4.params.toList args.toList ds p := hA0
  rw [Try.params4] at hA hval
  obtain ⟨v0, vs0, d0, ds0, p0, q0, hargs, rfl, rfl, h0, r0⟩ := trodAll_cons hA
  obtain ⟨rfl, rfl, rfl⟩ := trodAll_nil r0
  obtain rfl : args = #[v0] := by cases args; simp_all
  obtain ⟨rfl, rfl⟩ := trodVars_none hV
  obtain ⟨f0, f1, f2, f3, hT⟩ := tmTy
  obtain ⟨a0, e0, z0⟩ := open_rows (n := 1) (F := fun l : List UInt8 => [FV.str l]) (sz := fun l => l.length + 1) bulk (fun v => rfl) (by kernel_rfl) (by omega) (fun v => Nat.succ_le_succ (Nat.zero_le _)) (fun k => rd_str Try.underlying9 bulk.str k) Try.underlying44 (hval 0 44 v0 rfl rfl) h0
  have hu := upto hk
  simp only [List.append_nil, Rows.uptoBulkAll] at hu
  have hc := c_heapnames a0
  refine (law_true (fun g hg => (noGl g hg).elim) hc (vals := [v0]) (.cons e0 .nil)).mono fun e W' ⟨he, foot, hf, g⟩ => ?_
  refine ⟨_, he, post_good laidOut hW' rfl (fun ds' hd => ?_) (fun t ht => ?_) (by kernel_rfl) Try.underlying4 g hf⟩
  · match ds', hd with
    | [_], _ => rfl
  · rw [Try.params4] at ht
    simp only [List.mem_cons, List.not_mem_nil, or_false] at ht
    subst ht
    · exact ⟨rec44, lt44⟩

set_option maxRecDepth 100000 in
theorem lifted (os : Os) (started : os.Started) (H : Type) (enc : TypeId × Value → H) (F : Stop.Interp) :
    ReturnsInHanded {} Try.checked os 4 .any ((Rows.OpenSpec.upto Rows.heapNamesSpec).pre6 enc Try.prog Try.f4 Rows.heapNamesUptoRow.domain false) (((Rows.OpenSpec.upto Rows.heapNamesSpec).at F).post enc Try.prog Try.f4 false true false false) := by
  refine returnsInHanded_of_cond (C := Try.checked) (s := Rows.OpenSpec.upto Rows.heapNamesSpec) (k := Rows.uptoSmall) rfl own started (by kernel_rfl) Try.func4
    (OpenSpec.witness (enc := enc) (C := Try.checked) (s := Rows.OpenSpec.upto Rows.heapNamesSpec) (k := Rows.uptoSmall) rfl false
      ⟨#[], #[.slice none 0 0], []⟩ 8 (by kernel_rfl) (by kernel_rfl) (by kernel_rfl)
      (x := ([.nil], [], [])) (by kernel_rfl) rfl (by kernel_rfl)) ?_
  intro W base args ds gs before hval hW _ hk _
  exact contract H enc W base args ds gs before hval hW hk

/-- THE STATEMENT's second form. -/
theorem proved : Rows.HeapNamesUptoSaid :=
  OpenClaim.holds_of_cond 4 Try.f4 rfl rfl rfl rfl rfl rfl rfl ⟨rfl, rfl, rfl, rfl, rfl⟩ rfl rfl rfl rfl rfl (by kernel_rfl) Try.func4 (by kernel_rfl)
    (of_decide_eq_true (by kernel_rfl)) (by unfold Func.isWrapper; first | (rw [if_pos (by decide +kernel)]; kernel_rfl) | (rw [if_neg (by decide +kernel)]; exact ⟨rfl, rfl⟩))
    (fun os started H enc _ F => lifted os started H enc F)
end Go.Proofs.Ytmeolnpbbhinjaa.heapNames
