/- CodeTexts: the statement CodeTextsUptoCardSaid, from the contract of its function. No conditions. -/
import Derived.Test.YtmeolnpbbhinjaaDoorPart5
set_option maxRecDepth 100000
open Go Go.Proofs
namespace Go.Proofs.YtmeolnpbbhinjaaDoor.codeTexts
open Go.ChangeShapes Go.WideShapes Go.ChangeAt Go.RowKit Go.AM Go.Proofs.YtmeolnpbbhinjaaDoor.base
theorem contract (H : Type) (enc : TypeId × Value → H) (W : World) (base : Nat) (args : Array Value) (ds gs : List (DataW H)) (before : List MemPlace)
  (hval : ∀ (j : Nat) t v, Tryd.f4.params[j]? = some t → args[j]? = some v → Value.okWide Tryd.prog W .any base t v)
  (hW : DataW.Whole enc Tryd.prog Tryd.f4.params.toList Rows.codeTextsSpec.vars false W args.toList ds gs before) (hL : laidMetH Tryd.prog zj3 W) (hk : Rows.uptoSmall H (ds ++ gs) = true) :
  Calls Tryd.prog 4 args W fun e W' => ∃ v, e = .returned v ∧ Rows.codeTextsSpec.post enc Tryd.prog Tryd.f4 false true false false W args v W' := by
 have hW' := hW
 obtain ⟨p, q, hA0, hV, rfl, hfz, hnd⟩ := hW
 have hA : DataW.TrodAll enc Tryd.prog W 0 (fun _ => true) true Tryd.f4.params.toList args.toList ds p := hA0
 rw [Tryd.params4] at hA hval
 obtain ⟨v0, vs0, d0, ds0, p0, q0, hargs, rfl, rfl, h0, r0⟩ := trodAll_cons hA
 obtain ⟨v1, vs1, d1, ds1, p1, q1, rfl, rfl, rfl, h1, r1⟩ := trodAll_cons r0
 obtain ⟨rfl, rfl, rfl⟩ := trodAll_nil r1
 obtain rfl : args = #[v0, v1] := by cases args; simp_all
 obtain ⟨rfl, rfl⟩ := trodVars_none hV
 obtain ⟨f0, f1, f2, f3, hT⟩ := tmTy
 have hC0 : CdTy Tryd.prog 24 34 31 _ _ _ _ _ _ _ _ _ _ _ := ⟨Tryd.underlying24, Tryd.underlying9, Tryd.underlying3, Tryd.underlying3, Tryd.underlying3, Tryd.underlying3, Tryd.underlying22, ⟨rfl, rfl, rfl, rfl, rfl, rfl⟩, ⟨by kernel_rfl, by kernel_rfl, by kernel_rfl, by kernel_rfl, by kernel_rfl, by kernel_rfl⟩, by kernel_rfl, Tryd.underlying34, Tryd.underlying27, Tryd.underlying3, rfl, Tryd.underlying29, Tryd.underlying32, ⟨rfl, rfl, rfl, rfl, rfl⟩, ⟨by kernel_rfl, by kernel_rfl, by kernel_rfl, by kernel_rfl⟩, by kernel_rfl⟩
 obtain ⟨a0, e0, z0, j0⟩ := zhd bulk hT hC0 (hval 0 24 v0 rfl rfl) h0
 have hC1 : CdTy Tryd.prog 24 34 31 _ _ _ _ _ _ _ _ _ _ _ := ⟨Tryd.underlying24, Tryd.underlying9, Tryd.underlying3, Tryd.underlying3, Tryd.underlying3, Tryd.underlying3, Tryd.underlying22, ⟨rfl, rfl, rfl, rfl, rfl, rfl⟩, ⟨by kernel_rfl, by kernel_rfl, by kernel_rfl, by kernel_rfl, by kernel_rfl, by kernel_rfl⟩, by kernel_rfl, Tryd.underlying34, Tryd.underlying27, Tryd.underlying3, rfl, Tryd.underlying29, Tryd.underlying32, ⟨rfl, rfl, rfl, rfl, rfl⟩, ⟨by kernel_rfl, by kernel_rfl, by kernel_rfl, by kernel_rfl⟩, by kernel_rfl⟩
 obtain ⟨a1, e1, z1, j1⟩ := zhd bulk hT hC1 (hval 1 24 v1 rfl rfl) h1
 have hu := upto hk
 simp only [List.append_nil, Rows.uptoBulkAll] at hu
 have hc := zeb a0 a1 (by first | (simp only [B]; omega) | omega) j0 (by first | (simp only [B]; omega) | omega)
 refine (law_true (glHas hL) hc (vals := [v0, v1]) (.cons e0 (.cons e1 .nil))).mono fun e W' ⟨he, foot, hf, g⟩ => ?_
 refine ⟨_, he, zhq laidOut hW' rfl (fun ds' hd => ?_) (fun t ht => ?_) (by kernel_rfl) Tryd.underlying4 g hf⟩
 · match ds', hd with
   | [_, _], _ => rfl
 · rw [Tryd.params4] at ht
   simp only [List.mem_cons, List.not_mem_nil, or_false] at ht
   rcases ht with rfl | rfl
   · exact ⟨rec24, lt24⟩
   · exact ⟨rec24, lt24⟩
theorem laid_met (os : Os) : laidMet Tryd.prog zj3 ((z75 os).forCall (fun _ _ => 0) ⟨#[], #[.agg #[.string ⟨#[]⟩, .int .i64 0, .int .i64 0, .int .i64 0, .int .i64 0, .slice none 0 0], .agg #[.string ⟨#[]⟩, .int .i64 0, .int .i64 0, .int .i64 0, .int .i64 0, .slice none 0 0]], []⟩).memory :=
 laidMet_of_run' 8 (by kernel_rfl) (by kernel_rfl)
theorem reads (os : Os) {H : Type} (enc : TypeId × Value → H) : ∃ places, DataW.whole enc Tryd.prog ((z75 os).forCall (fun _ _ => 0) ⟨#[], #[.agg #[.string ⟨#[]⟩, .int .i64 0, .int .i64 0, .int .i64 0, .int .i64 0, .slice none 0 0], .agg #[.string ⟨#[]⟩, .int .i64 0, .int .i64 0, .int .i64 0, .int .i64 0, .slice none 0 0]], []⟩).memory Tryd.f4.params.toList Rows.codeTextsSpec.vars false (#[.agg #[.string ⟨#[]⟩, .int .i64 0, .int .i64 0, .int .i64 0, .int .i64 0, .slice none 0 0], .agg #[.string ⟨#[]⟩, .int .i64 0, .int .i64 0, .int .i64 0, .int .i64 0, .slice none 0 0]] : Array Value).toList 8 = some ([.agg [.lit (.string []), .lit (.int .i64 0), .lit (.int .i64 0), .lit (.int .i64 0), .lit (.int .i64 0), .nil], .agg [.lit (.string []), .lit (.int .i64 0), .lit (.int .i64 0), .lit (.int .i64 0), .lit (.int .i64 0), .nil]], [], places) :=
 ⟨[], by kernel_rfl⟩
set_option maxRecDepth 100000 in
theorem lifted (os : Os) (started : os.Started) (H : Type) (enc : TypeId × Value → H) (F : Stop.Interp) :
  ReturnsInHanded {} Tryd.checked os 4 .any ((Rows.OpenSpec.upto Rows.codeTextsSpec).preRow enc Tryd.prog Tryd.f4 Rows.codeTextsUptoRow.domain false Rows.codeTextsUptoRow.laid) (((Rows.OpenSpec.upto Rows.codeTextsSpec).at F).post enc Tryd.prog Tryd.f4 false true false false) := by
 obtain ⟨places, hx⟩ := reads os enc
 refine returnsInHanded_of_row (C := Tryd.checked) (s := Rows.OpenSpec.upto Rows.codeTextsSpec) own started (by kernel_rfl) Tryd.func4
  (witness_row_at (enc := enc) (C := Tryd.checked) false (z75 os) #[.agg #[.string ⟨#[]⟩, .int .i64 0, .int .i64 0, .int .i64 0, .int .i64 0, .slice none 0 0], .agg #[.string ⟨#[]⟩, .int .i64 0, .int .i64 0, .int .i64 0, .int .i64 0, .slice none 0 0]] rfl (by kernel_rfl) (by kernel_rfl) (by kernel_rfl)
   (OpenSpec.preRow_of_cond 8 hx (by kernel_rfl) (fun k hk => by cases hk; kernel_rfl) (by kernel_rfl) (laid_met os))) ?_
 intro W base args ds gs before hval hW _ hcond _ hL _ _
 exact contract H enc W base args ds gs before hval hW hL (hcond _ rfl)
theorem said : Rows.CodeTextsUptoSaid :=
 OpenClaim.holds_of_cond 4 Tryd.f4 rfl rfl rfl rfl rfl rfl rfl ⟨rfl, rfl, rfl, rfl, rfl⟩ rfl rfl rfl rfl rfl (by kernel_rfl) Tryd.func4 (by kernel_rfl)
  (of_decide_eq_true (by kernel_rfl)) (by unfold Func.isWrapper; first | (rw [if_pos (by decide +kernel)]; kernel_rfl) | (rw [if_neg (by decide +kernel)]; exact ⟨rfl, rfl⟩))
  (fun os started H enc _ F => by rw [OpenClaim.pre_eq_preRow]; exact lifted os started H enc F)
theorem plain (f : FuncId) (fn : Func) (hf : Tryd.pinned.checked.prog.funcNamed "lambent/lambentlaw23.CodeTexts" = some f) (hfn : Tryd.pinned.checked.prog.funcs[f]? = some fn) :
  false = Tryd.pinned.checked.prog.looks [] ∧ ∀ (j : Nat) t, fn.params[j]? = some t → Tryd.pinned.checked.prog.wantsStandIn t = false := by
 obtain rfl : f = 4 := Option.some.inj ((show Tryd.prog.funcNamed "lambent/lambentlaw23.CodeTexts" = some 4 by kernel_rfl).symm.trans hf) |>.symm
 obtain rfl : fn = Tryd.f4 := (Option.some.inj (Tryd.func4.symm.trans hfn)).symm
 refine ⟨by kernel_rfl, fun j t ht => ?_⟩
 have ht := Array.mem_toList_iff.2 (Array.mem_of_getElem? ht)
 rw [Tryd.params4] at ht
 simp only [List.mem_cons, List.not_mem_nil, or_false] at ht
 rcases ht with rfl | rfl
 · exact want24
 · exact want24
theorem proved : Rows.CodeTextsUptoCardSaid :=
 Claim7.holds_tied_plain_at .later [] _ _ _ _ said (fun _ h => by cases h) (by kernel_rfl) (fun _ h => by cases h) codeTextsUpto_row_tie rfl ⟨rfl, rfl⟩ (by kernel_rfl) rfl plain (by kernel_rfl)
end Go.Proofs.YtmeolnpbbhinjaaDoor.codeTexts
