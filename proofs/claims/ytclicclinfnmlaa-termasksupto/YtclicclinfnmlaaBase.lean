/- Facts of this program's form; how much a reading holds. No conditions. -/
import Derived.Test.YtclicclinfnmlaaAmEntry
import Derived.Test.YtclicclinfnmlaaRows
set_option maxRecDepth 100000
open Go Go.Proofs
namespace Go.Proofs.Ytclicclinfnmlaa.base
open Go.ChangeShapes Go.WideShapes Go.ChangeAt Go.RowKit Go.AM

theorem one_le {H : Type} (d : DataW H) : 1 ≤ Rows.uptoBulk d := by
  cases d with
  | lit l => cases l <;> simp [Rows.uptoBulk]
  | _ => simp [Rows.uptoBulk]
theorem bulk {H : Type} : Bulk (H := H) Rows.uptoBulk Rows.uptoBulkAll :=
  ⟨rfl, fun _ _ => rfl, one_le, fun es sp => by simp only [Rows.uptoBulk]; omega, fun l => by simp [Rows.uptoBulk], fun l => by simp [Rows.uptoBulk]⟩
theorem own : ownKnob Try.prog.godebug = none := by kernel_rfl
theorem laidOut : laidOutB Try.prog = true := by kernel_rfl
theorem tmTy : ∃ f0 f1 f2 f3 : Field, TmTy Try.prog 25 f0 f1 f2 f3 :=
  ⟨_, _, _, _, Try.underlying25, Try.underlying22, Try.underlying9, Try.underlying3, Try.underlying23, rfl, rfl, rfl, rfl, by kernel_rfl, by kernel_rfl, by kernel_rfl, by kernel_rfl, by kernel_rfl⟩
theorem rec25 : Try.prog.readableRec 25 = true := by kernel_rfl
theorem rec23 : Try.prog.readableRec 23 = true := by kernel_rfl
theorem rec3 : Try.prog.readableRec 3 = true := by kernel_rfl
theorem types_lt : 25 < Try.prog.types.size := of_decide_eq_true (by kernel_rfl)
theorem upto {H : Type} {l : List (DataW H)} (hk : Rows.uptoSmall H l = true) : Rows.uptoBulkAll l ≤ 1048576 := of_decide_eq_true hk
end Go.Proofs.Ytclicclinfnmlaa.base
