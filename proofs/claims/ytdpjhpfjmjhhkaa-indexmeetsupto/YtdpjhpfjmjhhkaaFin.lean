/- IndexMeets: the statement IndexMeetsUptoSaid, from the contract of its function. No conditions. -/
import Derived.Test.YtdpjhpfjmjhhkaaPart6
set_option maxRecDepth 100000
open Go Go.Proofs
namespace Go.Proofs.Ytdpjhpfjmjhhkaa.indexMeets
open Go.ChangeShapes Go.WideShapes Go.ChangeAt Go.RowKit Go.AM Go.Proofs.Ytdpjhpfjmjhhkaa.base

/-- What the call gives, for every argument of so much bulk. -/
theorem contract (H : Type) (enc : TypeId × Value → H) (W : World) (base : Nat) (args : Array Value) (ds gs : List (DataW H)) (before : List MemPlace)
    (hval : ∀ (j : Nat) t v, Try.f5.params[j]? = some t → args[j]? = some v → Value.okWide Try.prog W .any base t v)
    (hW : DataW.Whole enc Try.prog Try.f5.params.toList Rows.indexMeetsSpec.vars false W args.toList ds gs before) (hk : Rows.uptoSmall H (ds ++ gs) = true) :
    Calls Try.prog 5 args W fun e W' => ∃ v, e = .returned v ∧ Rows.indexMeetsSpec.post enc Try.prog Try.f5 false true false false W args v W' := by
  have hW' := hW
  obtain ⟨p, q, hA0, hV, rfl, hfz, hnd⟩ := hW
  have hA : DataW.TrodAll enc Try.prog W 0 (fun _ => true) true Try.f5.params.toList args.toList ds p := hA0
  rw [Try.params5] at hA hval
  obtain ⟨v0, vs0, d0, ds0, p0, q0, hargs, rfl, rfl, h0, r0⟩ := trodAll_cons hA
  obtain ⟨v1, vs1, d1, ds1, p1, q1, rfl, rfl, rfl, h1, r1⟩ := trodAll_cons r0
  obtain ⟨v2, vs2, d2, ds2, p2, q2, rfl, rfl, rfl, h2, r2⟩ := trodAll_cons r1
  obtain ⟨v3, vs3, d3, ds3, p3, q3, rfl, rfl, rfl, h3, r3⟩ := trodAll_cons r2
  obtain ⟨v4, vs4, d4, ds4, p4, q4, rfl, rfl, rfl, h4, r4⟩ := trodAll_cons r3
  obtain ⟨rfl, rfl, rfl⟩ := trodAll_nil r4
  obtain rfl : args = #[v0, v1, v2, v3, v4] := by cases args; simp_all
  obtain ⟨rfl, rfl⟩ := trodVars_none hV
  obtain ⟨f0, f1, f2, f3, hT⟩ := tmTy
  have hK0 : KeyTy Try.prog 30 _ _ _ _ _ := ⟨Try.underlying30, Try.underlying4, Try.underlying22, Try.underlying9, Try.underlying3, Try.underlying3, ⟨rfl, rfl, rfl, rfl, rfl⟩, ⟨by kernel_rfl, by kernel_rfl, by kernel_rfl, by kernel_rfl, by kernel_rfl⟩, by kernel_rfl⟩
  obtain ⟨a0, e0⟩ := open_key bulk hK0 (hval 0 30 v0 rfl rfl) h0
  have hK1 : KeyTy Try.prog 30 _ _ _ _ _ := ⟨Try.underlying30, Try.underlying4, Try.underlying22, Try.underlying9, Try.underlying3, Try.underlying3, ⟨rfl, rfl, rfl, rfl, rfl⟩, ⟨by kernel_rfl, by kernel_rfl, by kernel_rfl, by kernel_rfl, by kernel_rfl⟩, by kernel_rfl⟩
  obtain ⟨a1, e1⟩ := open_key bulk hK1 (hval 1 30 v1 rfl rfl) h1
  have hC2 : CdTy Try.prog 28 81 25 _ _ _ _ _ _ _ _ _ _ _ := ⟨Try.underlying28, Try.underlying9, Try.underlying3, Try.underlying3, Try.underlying3, Try.underlying3, Try.underlying26, ⟨rfl, rfl, rfl, rfl, rfl, rfl⟩, ⟨by kernel_rfl, by kernel_rfl, by kernel_rfl, by kernel_rfl, by kernel_rfl, by kernel_rfl⟩, by kernel_rfl, Try.underlying81, Try.underlying79, Try.underlying3, rfl, Try.underlying23, Try.underlying34, ⟨rfl, rfl, rfl, rfl, rfl⟩, ⟨by kernel_rfl, by kernel_rfl, by kernel_rfl, by kernel_rfl⟩, by kernel_rfl⟩
  obtain ⟨a2, e2, z2, j2⟩ := open_cds bulk hT hC2 Try.underlying34 (hval 2 34 v2 rfl rfl) h2
  obtain ⟨a3, e3, z3⟩ := open_str Try.underlying9 bulk (hval 3 9 v3 rfl rfl) h3
  obtain ⟨a4, e4, w4⟩ := open_num Try.underlying3 (hval 4 3 v4 rfl rfl) h4
  have w4 := num_range w4
  have hu := upto hk
  simp only [List.append_nil, Rows.uptoBulkAll] at hu
  have hc := c_indexmeets a0 a1 a2 a3 a4 (fun c hc => Nat.le_trans (Cd.szs_mem hc) (by first | (simp only [B]; omega) | omega))
  refine (law_true (fun g hg => (noGl g hg).elim) hc (vals := [v0, v1, v2, v3, v4]) (.cons e0 (.cons e1 (.cons e2 (.cons e3 (.cons e4 .nil)))))).mono fun e W' ⟨he, foot, hf, g⟩ => ?_
  refine ⟨_, he, post_good laidOut hW' rfl (fun ds' hd => ?_) (fun t ht => ?_) (by kernel_rfl) Try.underlying4 g hf⟩
  · match ds', hd with
    | [_, _, _, _, _], _ => rfl
  · rw [Try.params5] at ht
    simp only [List.mem_cons, List.not_mem_nil, or_false] at ht
    rcases ht with rfl | rfl | rfl | rfl | rfl
    · exact ⟨rec30, lt30⟩
    · exact ⟨rec30, lt30⟩
    · exact ⟨rec34, lt34⟩
    · exact ⟨rec9, lt9⟩
    · exact ⟨rec3, lt3⟩

set_option maxRecDepth 100000 in
theorem lifted (os : Os) (started : os.Started) (H : Type) (enc : TypeId × Value → H) (F : Stop.Interp) :
    ReturnsInHanded {} Try.checked os 5 .any ((Rows.OpenSpec.upto Rows.indexMeetsSpec).pre6 enc Try.prog Try.f5 Rows.indexMeetsUptoRow.domain false) (((Rows.OpenSpec.upto Rows.indexMeetsSpec).at F).post enc Try.prog Try.f5 false true false false) := by
  refine returnsInHanded_of_cond (C := Try.checked) (s := Rows.OpenSpec.upto Rows.indexMeetsSpec) (k := Rows.uptoSmall) rfl own started (by kernel_rfl) Try.func5
    (OpenSpec.witness (enc := enc) (C := Try.checked) (s := Rows.OpenSpec.upto Rows.indexMeetsSpec) (k := Rows.uptoSmall) rfl false
      ⟨#[], #[.agg #[.bool false, .int .i64 0, .string ⟨#[]⟩, .int .i64 0, .int .i64 0], .agg #[.bool false, .int .i64 0, .string ⟨#[]⟩, .int .i64 0, .int .i64 0], .slice none 0 0, .string ⟨#[]⟩, .int .i64 0], []⟩ 8 (by kernel_rfl) (by kernel_rfl) (by kernel_rfl)
      (x := ([.agg [.lit (.bool false), .lit (.int .i64 0), .lit (.string []), .lit (.int .i64 0), .lit (.int .i64 0)], .agg [.lit (.bool false), .lit (.int .i64 0), .lit (.string []), .lit (.int .i64 0), .lit (.int .i64 0)], .nil, .lit (.string []), .lit (.int .i64 0)], [], [])) (by kernel_rfl) rfl (by kernel_rfl)) ?_
  intro W base args ds gs before hval hW _ hk _
  exact contract H enc W base args ds gs before hval hW hk

/-- THE STATEMENT's second form. -/
theorem proved : Rows.IndexMeetsUptoSaid :=
  OpenClaim.holds_of_cond 5 Try.f5 rfl rfl rfl rfl rfl rfl rfl ⟨rfl, rfl, rfl, rfl, rfl⟩ rfl rfl rfl rfl rfl (by kernel_rfl) Try.func5 (by kernel_rfl)
    (of_decide_eq_true (by kernel_rfl)) (by unfold Func.isWrapper; first | (rw [if_pos (by decide +kernel)]; kernel_rfl) | (rw [if_neg (by decide +kernel)]; exact ⟨rfl, rfl⟩))
    (fun os started H enc _ F => lifted os started H enc F)
end Go.Proofs.Ytdpjhpfjmjhhkaa.indexMeets
