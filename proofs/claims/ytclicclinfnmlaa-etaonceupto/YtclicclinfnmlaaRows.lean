/-
  NARROWER THAN 'FOR EVERY INPUT', by the rows' own cells (each row's printed sentence says how): TermShifts: loops · TermSwaps: loops · TermApplies: loops · TermInst: loops · TermAsks: loops · BetaSteps: loops · EtaCanons: loops · EtaEqual: loops · EtaShorts: loops · EtaOnce: loops.
  DERIVED. THE GIVEN ROWS OF THIS SEAT. 10 by the template 'for every input the law returns true; each argument reads behind the call as it read before'; 0 by the template 'total and deterministic' (their statements: YtclicclinfnmlaaTotals.lean).
  GIVEN WITH THE SEED: the statements are not yours to turn. If you find one false, say at which input.
  Laid BY PROGRAM, IN A SANDBOX (cutbox-rows.mjs): the forced cells as the released guide's own fill.sh prints them over the translation 6ebe29c4d0e0069d… (all of the seat's roots in one cut). By AI agents, Wed Nov 11 2026. No macro, syntax, notation, axiom, sorry.
-/
import Derived.Test.YtclicclinfnmlaaChecked
import GoSem.Claim
import GoSem.ClaimJoined
import GoSem.ClaimMapViews
import Derived.JoinedTies
import Derived.KernelRfl
namespace Go.Proofs.Ytclicclinfnmlaa
/- THE CELL 'sum', in the pinned program and in every row, IS THE sha256 OF THE DUMP (.gsa) THAT YtclicclinfnmlaaProg.lean LOADS. Nothing in Lean hashes anything: it is a label: what it is worth is what the hold of that sum in a sandbox is worth. -/
noncomputable def Try.pinned : Pinned := { name := "ytclicclinfnmlaa", sum := "6ebe29c4d0e0069d93cbdd83fe269b2dc124ba79636c226acf3c3c3d1309bf8c", checked := Try.checked }
namespace Rows
def none {H : Type} : Left H := { results := [], args := [] }

/-- 'lambentlaw07.TermShifts': WHATEVER THE INPUT: true; the input reads as it did. -/
def termShiftsSpec : ChangeSpec := { name := "termShifts", fn := fun _ => fun
  | [d1, d2, d3, d4, d5] => { results := [.lit (.bool true)], args := [d1, d2, d3, d4, d5] }
  | _ => none }
def termShiftsRow : OpenClaim := { program := "ytclicclinfnmlaa", sum := "6ebe29c4d0e0069d93cbdd83fe269b2dc124ba79636c226acf3c3c3d1309bf8c", func := "lambent/lambentlaw07.TermShifts", spec := "termShifts", inPlace := ["internal/bytealg.IndexByteString", "internal/bytealg.IndexString"], unfollowed := true, recurses := true, named := ["internal/bytealg.MaxLen"], loops := true, apart := false }
def TermShiftsSaid : Prop := termShiftsRow.holds Try.pinned (OpenSpec.ofChange termShiftsSpec)

/-- ITS FALSE NEIGHBOUR: 'it returns false'. Refute it at one input. -/
def termShiftsWrong : ChangeSpec := { name := "termShifts", fn := fun _ => fun
  | [d1, d2, d3, d4, d5] => { results := [.lit (.bool false)], args := [d1, d2, d3, d4, d5] }
  | _ => none }
def TermShiftsWrongFalsely : Prop := termShiftsRow.holds Try.pinned (OpenSpec.ofChange termShiftsWrong)

/-- 'lambentlaw07.TermSwaps': WHATEVER THE INPUT: true; the input reads as it did. -/
def termSwapsSpec : ChangeSpec := { name := "termSwaps", fn := fun _ => fun
  | [d1, d2, d3, d4, d5] => { results := [.lit (.bool true)], args := [d1, d2, d3, d4, d5] }
  | _ => none }
def termSwapsRow : OpenClaim := { program := "ytclicclinfnmlaa", sum := "6ebe29c4d0e0069d93cbdd83fe269b2dc124ba79636c226acf3c3c3d1309bf8c", func := "lambent/lambentlaw07.TermSwaps", spec := "termSwaps", inPlace := ["internal/bytealg.IndexByteString", "internal/bytealg.IndexString"], unfollowed := true, recurses := true, named := ["internal/bytealg.MaxLen"], loops := true, apart := false }
def TermSwapsSaid : Prop := termSwapsRow.holds Try.pinned (OpenSpec.ofChange termSwapsSpec)

/-- ITS FALSE NEIGHBOUR: 'it returns false'. Refute it at one input. -/
def termSwapsWrong : ChangeSpec := { name := "termSwaps", fn := fun _ => fun
  | [d1, d2, d3, d4, d5] => { results := [.lit (.bool false)], args := [d1, d2, d3, d4, d5] }
  | _ => none }
def TermSwapsWrongFalsely : Prop := termSwapsRow.holds Try.pinned (OpenSpec.ofChange termSwapsWrong)

/-- 'lambentlaw07.TermApplies': WHATEVER THE INPUT: true; the input reads as it did. -/
def termAppliesSpec : ChangeSpec := { name := "termApplies", fn := fun _ => fun
  | [d1, d2, d3, d4, d5] => { results := [.lit (.bool true)], args := [d1, d2, d3, d4, d5] }
  | _ => none }
def termAppliesRow : OpenClaim := { program := "ytclicclinfnmlaa", sum := "6ebe29c4d0e0069d93cbdd83fe269b2dc124ba79636c226acf3c3c3d1309bf8c", func := "lambent/lambentlaw07.TermApplies", spec := "termApplies", inPlace := ["internal/bytealg.IndexByteString", "internal/bytealg.IndexString"], unfollowed := true, recurses := true, named := ["internal/bytealg.MaxLen"], loops := true, apart := false }
def TermAppliesSaid : Prop := termAppliesRow.holds Try.pinned (OpenSpec.ofChange termAppliesSpec)

/-- ITS FALSE NEIGHBOUR: 'it returns false'. Refute it at one input. -/
def termAppliesWrong : ChangeSpec := { name := "termApplies", fn := fun _ => fun
  | [d1, d2, d3, d4, d5] => { results := [.lit (.bool false)], args := [d1, d2, d3, d4, d5] }
  | _ => none }
def TermAppliesWrongFalsely : Prop := termAppliesRow.holds Try.pinned (OpenSpec.ofChange termAppliesWrong)

/-- 'lambentlaw07.TermInst': WHATEVER THE INPUT: true; the input reads as it did. -/
def termInstSpec : ChangeSpec := { name := "termInst", fn := fun _ => fun
  | [d1, d2, d3, d4] => { results := [.lit (.bool true)], args := [d1, d2, d3, d4] }
  | _ => none }
def termInstRow : OpenClaim := { program := "ytclicclinfnmlaa", sum := "6ebe29c4d0e0069d93cbdd83fe269b2dc124ba79636c226acf3c3c3d1309bf8c", func := "lambent/lambentlaw07.TermInst", spec := "termInst", inPlace := ["internal/bytealg.IndexByteString", "internal/bytealg.IndexString"], unfollowed := true, recurses := true, named := ["internal/bytealg.MaxLen"], loops := true, apart := false }
def TermInstSaid : Prop := termInstRow.holds Try.pinned (OpenSpec.ofChange termInstSpec)

/-- ITS FALSE NEIGHBOUR: 'it returns false'. Refute it at one input. -/
def termInstWrong : ChangeSpec := { name := "termInst", fn := fun _ => fun
  | [d1, d2, d3, d4] => { results := [.lit (.bool false)], args := [d1, d2, d3, d4] }
  | _ => none }
def TermInstWrongFalsely : Prop := termInstRow.holds Try.pinned (OpenSpec.ofChange termInstWrong)

/-- 'lambentlaw07.TermAsks': WHATEVER THE INPUT: true; the input reads as it did. -/
def termAsksSpec : ChangeSpec := { name := "termAsks", fn := fun _ => fun
  | [d1, d2] => { results := [.lit (.bool true)], args := [d1, d2] }
  | _ => none }
def termAsksRow : OpenClaim := { program := "ytclicclinfnmlaa", sum := "6ebe29c4d0e0069d93cbdd83fe269b2dc124ba79636c226acf3c3c3d1309bf8c", func := "lambent/lambentlaw07.TermAsks", spec := "termAsks", inPlace := ["internal/bytealg.IndexByteString", "internal/bytealg.IndexString"], unfollowed := true, recurses := true, named := ["internal/bytealg.MaxLen"], loops := true, apart := false }
def TermAsksSaid : Prop := termAsksRow.holds Try.pinned (OpenSpec.ofChange termAsksSpec)

/-- ITS FALSE NEIGHBOUR: 'it returns false'. Refute it at one input. -/
def termAsksWrong : ChangeSpec := { name := "termAsks", fn := fun _ => fun
  | [d1, d2] => { results := [.lit (.bool false)], args := [d1, d2] }
  | _ => none }
def TermAsksWrongFalsely : Prop := termAsksRow.holds Try.pinned (OpenSpec.ofChange termAsksWrong)

/-- 'lambentlaw08.BetaSteps': WHATEVER THE INPUT: true; the input reads as it did. -/
def betaStepsSpec : ChangeSpec := { name := "betaSteps", fn := fun _ => fun
  | [d1, d2, d3] => { results := [.lit (.bool true)], args := [d1, d2, d3] }
  | _ => none }
def betaStepsRow : OpenClaim := { program := "ytclicclinfnmlaa", sum := "6ebe29c4d0e0069d93cbdd83fe269b2dc124ba79636c226acf3c3c3d1309bf8c", func := "lambent/lambentlaw08.BetaSteps", spec := "betaSteps", inPlace := ["internal/bytealg.IndexByteString", "internal/bytealg.IndexString"], unfollowed := true, recurses := true, named := ["internal/bytealg.MaxLen"], loops := true, apart := false }
def BetaStepsSaid : Prop := betaStepsRow.holds Try.pinned (OpenSpec.ofChange betaStepsSpec)

/-- ITS FALSE NEIGHBOUR: 'it returns false'. Refute it at one input. -/
def betaStepsWrong : ChangeSpec := { name := "betaSteps", fn := fun _ => fun
  | [d1, d2, d3] => { results := [.lit (.bool false)], args := [d1, d2, d3] }
  | _ => none }
def BetaStepsWrongFalsely : Prop := betaStepsRow.holds Try.pinned (OpenSpec.ofChange betaStepsWrong)

/-- 'lambentlaw09.EtaCanons': WHATEVER THE INPUT: true; the input reads as it did. -/
def etaCanonsSpec : ChangeSpec := { name := "etaCanons", fn := fun _ => fun
  | [d1, d2, d3] => { results := [.lit (.bool true)], args := [d1, d2, d3] }
  | _ => none }
def etaCanonsRow : OpenClaim := { program := "ytclicclinfnmlaa", sum := "6ebe29c4d0e0069d93cbdd83fe269b2dc124ba79636c226acf3c3c3d1309bf8c", func := "lambent/lambentlaw09.EtaCanons", spec := "etaCanons", inPlace := ["internal/bytealg.IndexByteString", "internal/bytealg.IndexString"], unfollowed := true, recurses := true, named := ["internal/bytealg.MaxLen"], loops := true, apart := false }
def EtaCanonsSaid : Prop := etaCanonsRow.holds Try.pinned (OpenSpec.ofChange etaCanonsSpec)

/-- ITS FALSE NEIGHBOUR: 'it returns false'. Refute it at one input. -/
def etaCanonsWrong : ChangeSpec := { name := "etaCanons", fn := fun _ => fun
  | [d1, d2, d3] => { results := [.lit (.bool false)], args := [d1, d2, d3] }
  | _ => none }
def EtaCanonsWrongFalsely : Prop := etaCanonsRow.holds Try.pinned (OpenSpec.ofChange etaCanonsWrong)

/-- 'lambentlaw09.EtaEqual': WHATEVER THE INPUT: true; the input reads as it did. -/
def etaEqualSpec : ChangeSpec := { name := "etaEqual", fn := fun _ => fun
  | [d1, d2, d3, d4, d5] => { results := [.lit (.bool true)], args := [d1, d2, d3, d4, d5] }
  | _ => none }
def etaEqualRow : OpenClaim := { program := "ytclicclinfnmlaa", sum := "6ebe29c4d0e0069d93cbdd83fe269b2dc124ba79636c226acf3c3c3d1309bf8c", func := "lambent/lambentlaw09.EtaEqual", spec := "etaEqual", inPlace := ["internal/bytealg.IndexByteString", "internal/bytealg.IndexString"], unfollowed := true, recurses := true, named := ["internal/bytealg.MaxLen"], loops := true, apart := false }
def EtaEqualSaid : Prop := etaEqualRow.holds Try.pinned (OpenSpec.ofChange etaEqualSpec)

/-- ITS FALSE NEIGHBOUR: 'it returns false'. Refute it at one input. -/
def etaEqualWrong : ChangeSpec := { name := "etaEqual", fn := fun _ => fun
  | [d1, d2, d3, d4, d5] => { results := [.lit (.bool false)], args := [d1, d2, d3, d4, d5] }
  | _ => none }
def EtaEqualWrongFalsely : Prop := etaEqualRow.holds Try.pinned (OpenSpec.ofChange etaEqualWrong)

/-- 'lambentlaw09.EtaShorts': WHATEVER THE INPUT: true; the input reads as it did. -/
def etaShortsSpec : ChangeSpec := { name := "etaShorts", fn := fun _ => fun
  | [d1, d2] => { results := [.lit (.bool true)], args := [d1, d2] }
  | _ => none }
def etaShortsRow : OpenClaim := { program := "ytclicclinfnmlaa", sum := "6ebe29c4d0e0069d93cbdd83fe269b2dc124ba79636c226acf3c3c3d1309bf8c", func := "lambent/lambentlaw09.EtaShorts", spec := "etaShorts", inPlace := ["internal/bytealg.IndexByteString", "internal/bytealg.IndexString"], unfollowed := true, recurses := true, named := ["internal/bytealg.MaxLen"], loops := true, apart := false }
def EtaShortsSaid : Prop := etaShortsRow.holds Try.pinned (OpenSpec.ofChange etaShortsSpec)

/-- ITS FALSE NEIGHBOUR: 'it returns false'. Refute it at one input. -/
def etaShortsWrong : ChangeSpec := { name := "etaShorts", fn := fun _ => fun
  | [d1, d2] => { results := [.lit (.bool false)], args := [d1, d2] }
  | _ => none }
def EtaShortsWrongFalsely : Prop := etaShortsRow.holds Try.pinned (OpenSpec.ofChange etaShortsWrong)

/-- 'lambentlaw09.EtaOnce': WHATEVER THE INPUT: true; the input reads as it did. -/
def etaOnceSpec : ChangeSpec := { name := "etaOnce", fn := fun _ => fun
  | [d] => { results := [.lit (.bool true)], args := [d] }
  | _ => none }
def etaOnceRow : OpenClaim := { program := "ytclicclinfnmlaa", sum := "6ebe29c4d0e0069d93cbdd83fe269b2dc124ba79636c226acf3c3c3d1309bf8c", func := "lambent/lambentlaw09.EtaOnce", spec := "etaOnce", inPlace := ["internal/bytealg.IndexByteString", "internal/bytealg.IndexString"], unfollowed := true, recurses := true, named := ["internal/bytealg.MaxLen"], loops := true, apart := false }
def EtaOnceSaid : Prop := etaOnceRow.holds Try.pinned (OpenSpec.ofChange etaOnceSpec)

/-- ITS FALSE NEIGHBOUR: 'it returns false'. Refute it at one input. -/
def etaOnceWrong : ChangeSpec := { name := "etaOnce", fn := fun _ => fun
  | [d] => { results := [.lit (.bool false)], args := [d] }
  | _ => none }
def EtaOnceWrongFalsely : Prop := etaOnceRow.holds Try.pinned (OpenSpec.ofChange etaOnceWrong)

/- THE SECOND FORM. 'bulk': how many values and letters a reading holds, each counted each time it is reached (what is shared counts as often as it is met; a slice's spare places count too). A statement '..UptoSaid' is the law's where the arguments, and the package variables that the reading takes, are together of bulk at most 1048576: NARROWER than '..Said'. Prove '..Said' where nothing that the law and all that it calls make is longer than what came in: it says more and counts as full. Else prove '..UptoSaid'. A law counts once. -/
mutual
def uptoBulk {H : Type} : DataW H → Nat
  | .lit (.string bytes) => bytes.length + 1
  | .lit _ => 1
  | .nil => 1
  | .ptr d => uptoBulk d + 1
  | .slice elems spare => uptoBulkAll elems + uptoBulkAll spare + 1
  | .agg parts => uptoBulkAll parts + 1
  | .iface _ d => uptoBulk d + 1
  | .map entries => uptoBulkEntries entries + 1
  | .held _ => 1
def uptoBulkAll {H : Type} : List (DataW H) → Nat
  | [] => 0
  | d :: r => uptoBulk d + uptoBulkAll r
def uptoBulkEntries {H : Type} : List (Lit × DataW H) → Nat
  | [] => 0
  | x :: r => uptoBulkEntry x + uptoBulkEntries r
def uptoBulkEntry {H : Type} : Lit × DataW H → Nat
  | (.string bytes, d) => bytes.length + uptoBulk d + 1
  | (_, d) => uptoBulk d + 1
 end
def uptoSmall : (H : Type) → List (DataW H) → Bool := fun _ ds => decide (uptoBulkAll ds ≤ 1048576)
def OpenSpec.upto (s : _root_.Go.ChangeSpec) : _root_.Go.OpenSpec := { _root_.Go.OpenSpec.ofChange s with cond := some uptoSmall }

/-- 'lambentlaw07.TermShifts', WHERE WHAT IT READS IS OF BULK AT MOST 1048576: true; the input reads as it did. -/
def termShiftsUptoRow : OpenClaim := { program := "ytclicclinfnmlaa", sum := "6ebe29c4d0e0069d93cbdd83fe269b2dc124ba79636c226acf3c3c3d1309bf8c", func := "lambent/lambentlaw07.TermShifts", spec := "termShifts", inPlace := ["internal/bytealg.IndexByteString", "internal/bytealg.IndexString"], unfollowed := true, recurses := true, named := ["internal/bytealg.MaxLen"], loops := true, apart := false, narrowed := true }
def TermShiftsUptoSaid : Prop := termShiftsUptoRow.holds Try.pinned (OpenSpec.upto termShiftsSpec)

/-- 'lambentlaw07.TermSwaps', WHERE WHAT IT READS IS OF BULK AT MOST 1048576: true; the input reads as it did. -/
def termSwapsUptoRow : OpenClaim := { program := "ytclicclinfnmlaa", sum := "6ebe29c4d0e0069d93cbdd83fe269b2dc124ba79636c226acf3c3c3d1309bf8c", func := "lambent/lambentlaw07.TermSwaps", spec := "termSwaps", inPlace := ["internal/bytealg.IndexByteString", "internal/bytealg.IndexString"], unfollowed := true, recurses := true, named := ["internal/bytealg.MaxLen"], loops := true, apart := false, narrowed := true }
def TermSwapsUptoSaid : Prop := termSwapsUptoRow.holds Try.pinned (OpenSpec.upto termSwapsSpec)

/-- 'lambentlaw07.TermApplies', WHERE WHAT IT READS IS OF BULK AT MOST 1048576: true; the input reads as it did. -/
def termAppliesUptoRow : OpenClaim := { program := "ytclicclinfnmlaa", sum := "6ebe29c4d0e0069d93cbdd83fe269b2dc124ba79636c226acf3c3c3d1309bf8c", func := "lambent/lambentlaw07.TermApplies", spec := "termApplies", inPlace := ["internal/bytealg.IndexByteString", "internal/bytealg.IndexString"], unfollowed := true, recurses := true, named := ["internal/bytealg.MaxLen"], loops := true, apart := false, narrowed := true }
def TermAppliesUptoSaid : Prop := termAppliesUptoRow.holds Try.pinned (OpenSpec.upto termAppliesSpec)

/-- 'lambentlaw07.TermInst', WHERE WHAT IT READS IS OF BULK AT MOST 1048576: true; the input reads as it did. -/
def termInstUptoRow : OpenClaim := { program := "ytclicclinfnmlaa", sum := "6ebe29c4d0e0069d93cbdd83fe269b2dc124ba79636c226acf3c3c3d1309bf8c", func := "lambent/lambentlaw07.TermInst", spec := "termInst", inPlace := ["internal/bytealg.IndexByteString", "internal/bytealg.IndexString"], unfollowed := true, recurses := true, named := ["internal/bytealg.MaxLen"], loops := true, apart := false, narrowed := true }
def TermInstUptoSaid : Prop := termInstUptoRow.holds Try.pinned (OpenSpec.upto termInstSpec)

/-- 'lambentlaw07.TermAsks', WHERE WHAT IT READS IS OF BULK AT MOST 1048576: true; the input reads as it did. -/
def termAsksUptoRow : OpenClaim := { program := "ytclicclinfnmlaa", sum := "6ebe29c4d0e0069d93cbdd83fe269b2dc124ba79636c226acf3c3c3d1309bf8c", func := "lambent/lambentlaw07.TermAsks", spec := "termAsks", inPlace := ["internal/bytealg.IndexByteString", "internal/bytealg.IndexString"], unfollowed := true, recurses := true, named := ["internal/bytealg.MaxLen"], loops := true, apart := false, narrowed := true }
def TermAsksUptoSaid : Prop := termAsksUptoRow.holds Try.pinned (OpenSpec.upto termAsksSpec)

/-- 'lambentlaw08.BetaSteps', WHERE WHAT IT READS IS OF BULK AT MOST 1048576: true; the input reads as it did. -/
def betaStepsUptoRow : OpenClaim := { program := "ytclicclinfnmlaa", sum := "6ebe29c4d0e0069d93cbdd83fe269b2dc124ba79636c226acf3c3c3d1309bf8c", func := "lambent/lambentlaw08.BetaSteps", spec := "betaSteps", inPlace := ["internal/bytealg.IndexByteString", "internal/bytealg.IndexString"], unfollowed := true, recurses := true, named := ["internal/bytealg.MaxLen"], loops := true, apart := false, narrowed := true }
def BetaStepsUptoSaid : Prop := betaStepsUptoRow.holds Try.pinned (OpenSpec.upto betaStepsSpec)

/-- 'lambentlaw09.EtaCanons', WHERE WHAT IT READS IS OF BULK AT MOST 1048576: true; the input reads as it did. -/
def etaCanonsUptoRow : OpenClaim := { program := "ytclicclinfnmlaa", sum := "6ebe29c4d0e0069d93cbdd83fe269b2dc124ba79636c226acf3c3c3d1309bf8c", func := "lambent/lambentlaw09.EtaCanons", spec := "etaCanons", inPlace := ["internal/bytealg.IndexByteString", "internal/bytealg.IndexString"], unfollowed := true, recurses := true, named := ["internal/bytealg.MaxLen"], loops := true, apart := false, narrowed := true }
def EtaCanonsUptoSaid : Prop := etaCanonsUptoRow.holds Try.pinned (OpenSpec.upto etaCanonsSpec)

/-- 'lambentlaw09.EtaEqual', WHERE WHAT IT READS IS OF BULK AT MOST 1048576: true; the input reads as it did. -/
def etaEqualUptoRow : OpenClaim := { program := "ytclicclinfnmlaa", sum := "6ebe29c4d0e0069d93cbdd83fe269b2dc124ba79636c226acf3c3c3d1309bf8c", func := "lambent/lambentlaw09.EtaEqual", spec := "etaEqual", inPlace := ["internal/bytealg.IndexByteString", "internal/bytealg.IndexString"], unfollowed := true, recurses := true, named := ["internal/bytealg.MaxLen"], loops := true, apart := false, narrowed := true }
def EtaEqualUptoSaid : Prop := etaEqualUptoRow.holds Try.pinned (OpenSpec.upto etaEqualSpec)

/-- 'lambentlaw09.EtaShorts', WHERE WHAT IT READS IS OF BULK AT MOST 1048576: true; the input reads as it did. -/
def etaShortsUptoRow : OpenClaim := { program := "ytclicclinfnmlaa", sum := "6ebe29c4d0e0069d93cbdd83fe269b2dc124ba79636c226acf3c3c3d1309bf8c", func := "lambent/lambentlaw09.EtaShorts", spec := "etaShorts", inPlace := ["internal/bytealg.IndexByteString", "internal/bytealg.IndexString"], unfollowed := true, recurses := true, named := ["internal/bytealg.MaxLen"], loops := true, apart := false, narrowed := true }
def EtaShortsUptoSaid : Prop := etaShortsUptoRow.holds Try.pinned (OpenSpec.upto etaShortsSpec)

/-- 'lambentlaw09.EtaOnce', WHERE WHAT IT READS IS OF BULK AT MOST 1048576: true; the input reads as it did. -/
def etaOnceUptoRow : OpenClaim := { program := "ytclicclinfnmlaa", sum := "6ebe29c4d0e0069d93cbdd83fe269b2dc124ba79636c226acf3c3c3d1309bf8c", func := "lambent/lambentlaw09.EtaOnce", spec := "etaOnce", inPlace := ["internal/bytealg.IndexByteString", "internal/bytealg.IndexString"], unfollowed := true, recurses := true, named := ["internal/bytealg.MaxLen"], loops := true, apart := false, narrowed := true }
def EtaOnceUptoSaid : Prop := etaOnceUptoRow.holds Try.pinned (OpenSpec.upto etaOnceSpec)

end Rows
end Go.Proofs.Ytclicclinfnmlaa
