/-
  NARROWER THAN 'FOR EVERY INPUT', by the rows' own cells (each row's printed sentence says how): HunifyDoes: loops · HunifyOne: loops · HunifyUndoes: loops · HunifyLevels: loops · IndexClauses: loops · MachineRaw: loops · MachineTwo: loops.
  DERIVED. THE GIVEN ROWS OF THIS SEAT. 8 by the template 'for every input the law returns true; each argument reads behind the call as it read before'; 0 by the template 'total and deterministic' (their statements: YtmgbnkbcjkdfjaaGreatTotals.lean).
  GIVEN WITH THE SEED: the statements are not yours to turn. If you find one false, say at which input.
  Laid BY PROGRAM, IN A SANDBOX (cutbox-rows.mjs): the forced cells as the released guide's own fill.sh prints them over the translation cd54a73a0850b332… (all of the seat's roots in one cut). By AI agents, Wed Nov 11 2026. No macro, syntax, notation, axiom, sorry.
-/
import Derived.Test.YtmgbnkbcjkdfjaaGreatChecked
import GoSem.Claim
import GoSem.ClaimJoined
import GoSem.ClaimMapViews
import Derived.JoinedTies
import Derived.KernelRfl
namespace Go.Proofs.YtmgbnkbcjkdfjaaGreat
/- THE CELL 'sum', in the pinned program and in every row, IS THE sha256 OF THE DUMP (.gsa) THAT YtmgbnkbcjkdfjaaGreatProg.lean LOADS. Nothing in Lean hashes anything: it is a label: what it is worth is what the hold of that sum in a sandbox is worth. -/
noncomputable def Tryz.pinned : Pinned := { name := "ytmgbnkbcjkdfjaagreat", sum := "cd54a73a0850b332967260c51bd5ab1df580b0c13212d0feab2f81d123406684", checked := Tryz.checked }
namespace Rows
def none {H : Type} : Left H := { results := [], args := [] }

/-- 'lambentlaw22.HunifyDoes': WHATEVER THE INPUT: true; the input reads as it did. -/
def hunifyDoesSpec : ChangeSpec := { name := "hunifyDoes", fn := fun _ => fun
  | [d1, d2, d3] => { results := [.lit (.bool true)], args := [d1, d2, d3] }
  | _ => none }
def hunifyDoesRow : OpenClaim := { program := "ytmgbnkbcjkdfjaagreat", sum := "cd54a73a0850b332967260c51bd5ab1df580b0c13212d0feab2f81d123406684", func := "lambent/lambentlaw22.HunifyDoes", spec := "hunifyDoes", inPlace := ["internal/bytealg.IndexByteString", "internal/bytealg.IndexString"], unfollowed := true, recurses := true, named := ["internal/bytealg.MaxLen"], loops := true, plainKeys := false, apart := false }
def HunifyDoesSaid : Prop := hunifyDoesRow.holds Tryz.pinned (OpenSpec.ofChange hunifyDoesSpec)

/-- ITS FALSE NEIGHBOUR: 'it returns false'. Refute it at one input. -/
def hunifyDoesWrong : ChangeSpec := { name := "hunifyDoes", fn := fun _ => fun
  | [d1, d2, d3] => { results := [.lit (.bool false)], args := [d1, d2, d3] }
  | _ => none }
def HunifyDoesWrongFalsely : Prop := hunifyDoesRow.holds Tryz.pinned (OpenSpec.ofChange hunifyDoesWrong)

/-- 'lambentlaw22.HunifyOne': WHATEVER THE INPUT: true; the input reads as it did. -/
def hunifyOneSpec : ChangeSpec := { name := "hunifyOne", fn := fun _ => fun
  | [d1, d2, d3] => { results := [.lit (.bool true)], args := [d1, d2, d3] }
  | _ => none }
def hunifyOneRow : OpenClaim := { program := "ytmgbnkbcjkdfjaagreat", sum := "cd54a73a0850b332967260c51bd5ab1df580b0c13212d0feab2f81d123406684", func := "lambent/lambentlaw22.HunifyOne", spec := "hunifyOne", inPlace := ["internal/bytealg.IndexByteString", "internal/bytealg.IndexString"], unfollowed := true, recurses := true, named := ["internal/bytealg.MaxLen"], loops := true, plainKeys := false, apart := false }
def HunifyOneSaid : Prop := hunifyOneRow.holds Tryz.pinned (OpenSpec.ofChange hunifyOneSpec)

/-- ITS FALSE NEIGHBOUR: 'it returns false'. Refute it at one input. -/
def hunifyOneWrong : ChangeSpec := { name := "hunifyOne", fn := fun _ => fun
  | [d1, d2, d3] => { results := [.lit (.bool false)], args := [d1, d2, d3] }
  | _ => none }
def HunifyOneWrongFalsely : Prop := hunifyOneRow.holds Tryz.pinned (OpenSpec.ofChange hunifyOneWrong)

/-- 'lambentlaw22.HunifyRaw': WHATEVER THE INPUT: true; the input reads as it did. -/
def hunifyRawSpec : ChangeSpec := { name := "hunifyRaw", fn := fun _ => fun
  | [d1, d2, d3, d4] => { results := [.lit (.bool true)], args := [d1, d2, d3, d4] }
  | _ => none }
def hunifyRawRow : OpenClaim := { program := "ytmgbnkbcjkdfjaagreat", sum := "cd54a73a0850b332967260c51bd5ab1df580b0c13212d0feab2f81d123406684", func := "lambent/lambentlaw22.HunifyRaw", spec := "hunifyRaw", inPlace := ["internal/bytealg.IndexByteString", "internal/bytealg.IndexString"], unfollowed := true, recurses := true, named := ["internal/bytealg.MaxLen"], plainKeys := false, apart := false }
def HunifyRawSaid : Prop := hunifyRawRow.holds Tryz.pinned (OpenSpec.ofChange hunifyRawSpec)

/-- ITS FALSE NEIGHBOUR: 'it returns false'. Refute it at one input. -/
def hunifyRawWrong : ChangeSpec := { name := "hunifyRaw", fn := fun _ => fun
  | [d1, d2, d3, d4] => { results := [.lit (.bool false)], args := [d1, d2, d3, d4] }
  | _ => none }
def HunifyRawWrongFalsely : Prop := hunifyRawRow.holds Tryz.pinned (OpenSpec.ofChange hunifyRawWrong)

/-- 'lambentlaw22.HunifyUndoes': WHATEVER THE INPUT: true; the input reads as it did. -/
def hunifyUndoesSpec : ChangeSpec := { name := "hunifyUndoes", fn := fun _ => fun
  | [d1, d2, d3, d4, d5, d6] => { results := [.lit (.bool true)], args := [d1, d2, d3, d4, d5, d6] }
  | _ => none }
def hunifyUndoesRow : OpenClaim := { program := "ytmgbnkbcjkdfjaagreat", sum := "cd54a73a0850b332967260c51bd5ab1df580b0c13212d0feab2f81d123406684", func := "lambent/lambentlaw22.HunifyUndoes", spec := "hunifyUndoes", inPlace := ["internal/bytealg.IndexByteString", "internal/bytealg.IndexString"], unfollowed := true, recurses := true, named := ["internal/bytealg.MaxLen"], loops := true, plainKeys := false, apart := false }
def HunifyUndoesSaid : Prop := hunifyUndoesRow.holds Tryz.pinned (OpenSpec.ofChange hunifyUndoesSpec)

/-- ITS FALSE NEIGHBOUR: 'it returns false'. Refute it at one input. -/
def hunifyUndoesWrong : ChangeSpec := { name := "hunifyUndoes", fn := fun _ => fun
  | [d1, d2, d3, d4, d5, d6] => { results := [.lit (.bool false)], args := [d1, d2, d3, d4, d5, d6] }
  | _ => none }
def HunifyUndoesWrongFalsely : Prop := hunifyUndoesRow.holds Tryz.pinned (OpenSpec.ofChange hunifyUndoesWrong)

/-- 'lambentlaw22.HunifyLevels': WHATEVER THE INPUT: true; the input reads as it did. -/
def hunifyLevelsSpec : ChangeSpec := { name := "hunifyLevels", fn := fun _ => fun
  | [d1, d2, d3] => { results := [.lit (.bool true)], args := [d1, d2, d3] }
  | _ => none }
def hunifyLevelsRow : OpenClaim := { program := "ytmgbnkbcjkdfjaagreat", sum := "cd54a73a0850b332967260c51bd5ab1df580b0c13212d0feab2f81d123406684", func := "lambent/lambentlaw22.HunifyLevels", spec := "hunifyLevels", inPlace := ["internal/bytealg.IndexByteString", "internal/bytealg.IndexString"], unfollowed := true, recurses := true, named := ["internal/bytealg.MaxLen"], loops := true, plainKeys := false, apart := false }
def HunifyLevelsSaid : Prop := hunifyLevelsRow.holds Tryz.pinned (OpenSpec.ofChange hunifyLevelsSpec)

/-- ITS FALSE NEIGHBOUR: 'it returns false'. Refute it at one input. -/
def hunifyLevelsWrong : ChangeSpec := { name := "hunifyLevels", fn := fun _ => fun
  | [d1, d2, d3] => { results := [.lit (.bool false)], args := [d1, d2, d3] }
  | _ => none }
def HunifyLevelsWrongFalsely : Prop := hunifyLevelsRow.holds Tryz.pinned (OpenSpec.ofChange hunifyLevelsWrong)

/-- 'lambentlaw25.IndexClauses': WHATEVER THE INPUT: true; the input reads as it did. -/
def indexClausesSpec : ChangeSpec := { name := "indexClauses", fn := fun _ => fun
  | [d1, d2, d3] => { results := [.lit (.bool true)], args := [d1, d2, d3] }
  | _ => none }
def indexClausesRow : OpenClaim := { program := "ytmgbnkbcjkdfjaagreat", sum := "cd54a73a0850b332967260c51bd5ab1df580b0c13212d0feab2f81d123406684", func := "lambent/lambentlaw25.IndexClauses", spec := "indexClauses", inPlace := ["internal/bytealg.IndexByteString", "internal/bytealg.IndexString"], unfollowed := true, recurses := true, named := ["internal/bytealg.MaxLen"], loops := true, plainKeys := false, apart := false }
def IndexClausesSaid : Prop := indexClausesRow.holds Tryz.pinned (OpenSpec.ofChange indexClausesSpec)

/-- ITS FALSE NEIGHBOUR: 'it returns false'. Refute it at one input. -/
def indexClausesWrong : ChangeSpec := { name := "indexClauses", fn := fun _ => fun
  | [d1, d2, d3] => { results := [.lit (.bool false)], args := [d1, d2, d3] }
  | _ => none }
def IndexClausesWrongFalsely : Prop := indexClausesRow.holds Tryz.pinned (OpenSpec.ofChange indexClausesWrong)

/-- 'lambentlaw26.MachineRaw': WHATEVER THE INPUT: true; the input reads as it did. -/
def machineRawSpec : ChangeSpec := { name := "machineRaw", fn := fun _ => fun
  | [d1, d2, d3] => { results := [.lit (.bool true)], args := [d1, d2, d3] }
  | _ => none }
def machineRawRow : OpenClaim := { program := "ytmgbnkbcjkdfjaagreat", sum := "cd54a73a0850b332967260c51bd5ab1df580b0c13212d0feab2f81d123406684", func := "lambent/lambentlaw26.MachineRaw", spec := "machineRaw", inPlace := ["internal/bytealg.IndexByteString", "internal/bytealg.IndexString"], unfollowed := true, recurses := true, named := ["internal/bytealg.MaxLen"], loops := true, plainKeys := false, apart := false }
def MachineRawSaid : Prop := machineRawRow.holds Tryz.pinned (OpenSpec.ofChange machineRawSpec)

/-- ITS FALSE NEIGHBOUR: 'it returns false'. Refute it at one input. -/
def machineRawWrong : ChangeSpec := { name := "machineRaw", fn := fun _ => fun
  | [d1, d2, d3] => { results := [.lit (.bool false)], args := [d1, d2, d3] }
  | _ => none }
def MachineRawWrongFalsely : Prop := machineRawRow.holds Tryz.pinned (OpenSpec.ofChange machineRawWrong)

/-- 'lambentlaw26.MachineTwo': WHATEVER THE INPUT: true; the input reads as it did. -/
def machineTwoSpec : ChangeSpec := { name := "machineTwo", fn := fun _ => fun
  | [d1, d2, d3, d4, d5] => { results := [.lit (.bool true)], args := [d1, d2, d3, d4, d5] }
  | _ => none }
def machineTwoRow : OpenClaim := { program := "ytmgbnkbcjkdfjaagreat", sum := "cd54a73a0850b332967260c51bd5ab1df580b0c13212d0feab2f81d123406684", func := "lambent/lambentlaw26.MachineTwo", spec := "machineTwo", inPlace := ["internal/bytealg.IndexByteString", "internal/bytealg.IndexString"], unfollowed := true, recurses := true, named := ["internal/bytealg.MaxLen"], loops := true, plainKeys := false, apart := false }
def MachineTwoSaid : Prop := machineTwoRow.holds Tryz.pinned (OpenSpec.ofChange machineTwoSpec)

/-- ITS FALSE NEIGHBOUR: 'it returns false'. Refute it at one input. -/
def machineTwoWrong : ChangeSpec := { name := "machineTwo", fn := fun _ => fun
  | [d1, d2, d3, d4, d5] => { results := [.lit (.bool false)], args := [d1, d2, d3, d4, d5] }
  | _ => none }
def MachineTwoWrongFalsely : Prop := machineTwoRow.holds Tryz.pinned (OpenSpec.ofChange machineTwoWrong)

/- THE SECOND FORM. 'bulk': how many values and letters a reading holds, each counted each time it is reached (what is shared counts as often as it is met; a slice's spare places count too). A statement '..UptoSaid' is the law's where the arguments, and the package variables that the reading takes, are together of bulk at most 1048576: NARROWER than '..Said'. Prove '..Said' where nothing that the law and all that it calls make is longer than what came in: it says more and counts as full. Else prove '..UptoSaid'. A law counts once. -/
mutual
def uptoBulk {H : Type} : DataW H → Nat
  | .lit (.string bytes) => bytes.length + 1
  | .lit _ => 1
  | .nil => 1
  | .ptr d => uptoBulk d + 1
  | .slice elems spare => uptoBulkAll elems + uptoBulkAll spare + 1
  | .agg parts => uptoBulkAll parts + 1
  | .iface _ d => uptoBulk d + 1
  | .map entries => uptoBulkEntries entries + 1
  | .held _ => 1
def uptoBulkAll {H : Type} : List (DataW H) → Nat
  | [] => 0
  | d :: r => uptoBulk d + uptoBulkAll r
def uptoBulkEntries {H : Type} : List (Lit × DataW H) → Nat
  | [] => 0
  | x :: r => uptoBulkEntry x + uptoBulkEntries r
def uptoBulkEntry {H : Type} : Lit × DataW H → Nat
  | (.string bytes, d) => bytes.length + uptoBulk d + 1
  | (_, d) => uptoBulk d + 1
 end
def uptoSmall : (H : Type) → List (DataW H) → Bool := fun _ ds => decide (uptoBulkAll ds ≤ 1048576)
def OpenSpec.upto (s : _root_.Go.ChangeSpec) : _root_.Go.OpenSpec := { _root_.Go.OpenSpec.ofChange s with cond := some uptoSmall }

/-- 'lambentlaw22.HunifyDoes', WHERE WHAT IT READS IS OF BULK AT MOST 1048576: true; the input reads as it did. -/
def hunifyDoesUptoRow : OpenClaim := { program := "ytmgbnkbcjkdfjaagreat", sum := "cd54a73a0850b332967260c51bd5ab1df580b0c13212d0feab2f81d123406684", func := "lambent/lambentlaw22.HunifyDoes", spec := "hunifyDoes", inPlace := ["internal/bytealg.IndexByteString", "internal/bytealg.IndexString"], unfollowed := true, recurses := true, named := ["internal/bytealg.MaxLen"], loops := true, plainKeys := false, apart := false, narrowed := true }
def HunifyDoesUptoSaid : Prop := hunifyDoesUptoRow.holds Tryz.pinned (OpenSpec.upto hunifyDoesSpec)

/-- 'lambentlaw22.HunifyOne', WHERE WHAT IT READS IS OF BULK AT MOST 1048576: true; the input reads as it did. -/
def hunifyOneUptoRow : OpenClaim := { program := "ytmgbnkbcjkdfjaagreat", sum := "cd54a73a0850b332967260c51bd5ab1df580b0c13212d0feab2f81d123406684", func := "lambent/lambentlaw22.HunifyOne", spec := "hunifyOne", inPlace := ["internal/bytealg.IndexByteString", "internal/bytealg.IndexString"], unfollowed := true, recurses := true, named := ["internal/bytealg.MaxLen"], loops := true, plainKeys := false, apart := false, narrowed := true }
def HunifyOneUptoSaid : Prop := hunifyOneUptoRow.holds Tryz.pinned (OpenSpec.upto hunifyOneSpec)

/-- 'lambentlaw22.HunifyRaw', WHERE WHAT IT READS IS OF BULK AT MOST 1048576: true; the input reads as it did. -/
def hunifyRawUptoRow : OpenClaim := { program := "ytmgbnkbcjkdfjaagreat", sum := "cd54a73a0850b332967260c51bd5ab1df580b0c13212d0feab2f81d123406684", func := "lambent/lambentlaw22.HunifyRaw", spec := "hunifyRaw", inPlace := ["internal/bytealg.IndexByteString", "internal/bytealg.IndexString"], unfollowed := true, recurses := true, named := ["internal/bytealg.MaxLen"], plainKeys := false, apart := false, narrowed := true }
def HunifyRawUptoSaid : Prop := hunifyRawUptoRow.holds Tryz.pinned (OpenSpec.upto hunifyRawSpec)

/-- 'lambentlaw22.HunifyUndoes', WHERE WHAT IT READS IS OF BULK AT MOST 1048576: true; the input reads as it did. -/
def hunifyUndoesUptoRow : OpenClaim := { program := "ytmgbnkbcjkdfjaagreat", sum := "cd54a73a0850b332967260c51bd5ab1df580b0c13212d0feab2f81d123406684", func := "lambent/lambentlaw22.HunifyUndoes", spec := "hunifyUndoes", inPlace := ["internal/bytealg.IndexByteString", "internal/bytealg.IndexString"], unfollowed := true, recurses := true, named := ["internal/bytealg.MaxLen"], loops := true, plainKeys := false, apart := false, narrowed := true }
def HunifyUndoesUptoSaid : Prop := hunifyUndoesUptoRow.holds Tryz.pinned (OpenSpec.upto hunifyUndoesSpec)

/-- 'lambentlaw22.HunifyLevels', WHERE WHAT IT READS IS OF BULK AT MOST 1048576: true; the input reads as it did. -/
def hunifyLevelsUptoRow : OpenClaim := { program := "ytmgbnkbcjkdfjaagreat", sum := "cd54a73a0850b332967260c51bd5ab1df580b0c13212d0feab2f81d123406684", func := "lambent/lambentlaw22.HunifyLevels", spec := "hunifyLevels", inPlace := ["internal/bytealg.IndexByteString", "internal/bytealg.IndexString"], unfollowed := true, recurses := true, named := ["internal/bytealg.MaxLen"], loops := true, plainKeys := false, apart := false, narrowed := true }
def HunifyLevelsUptoSaid : Prop := hunifyLevelsUptoRow.holds Tryz.pinned (OpenSpec.upto hunifyLevelsSpec)

/-- 'lambentlaw25.IndexClauses', WHERE WHAT IT READS IS OF BULK AT MOST 1048576: true; the input reads as it did. -/
def indexClausesUptoRow : OpenClaim := { program := "ytmgbnkbcjkdfjaagreat", sum := "cd54a73a0850b332967260c51bd5ab1df580b0c13212d0feab2f81d123406684", func := "lambent/lambentlaw25.IndexClauses", spec := "indexClauses", inPlace := ["internal/bytealg.IndexByteString", "internal/bytealg.IndexString"], unfollowed := true, recurses := true, named := ["internal/bytealg.MaxLen"], loops := true, plainKeys := false, apart := false, narrowed := true }
def IndexClausesUptoSaid : Prop := indexClausesUptoRow.holds Tryz.pinned (OpenSpec.upto indexClausesSpec)

/-- 'lambentlaw26.MachineRaw', WHERE WHAT IT READS IS OF BULK AT MOST 1048576: true; the input reads as it did. -/
def machineRawUptoRow : OpenClaim := { program := "ytmgbnkbcjkdfjaagreat", sum := "cd54a73a0850b332967260c51bd5ab1df580b0c13212d0feab2f81d123406684", func := "lambent/lambentlaw26.MachineRaw", spec := "machineRaw", inPlace := ["internal/bytealg.IndexByteString", "internal/bytealg.IndexString"], unfollowed := true, recurses := true, named := ["internal/bytealg.MaxLen"], loops := true, plainKeys := false, apart := false, narrowed := true }
def MachineRawUptoSaid : Prop := machineRawUptoRow.holds Tryz.pinned (OpenSpec.upto machineRawSpec)

/-- 'lambentlaw26.MachineTwo', WHERE WHAT IT READS IS OF BULK AT MOST 1048576: true; the input reads as it did. -/
def machineTwoUptoRow : OpenClaim := { program := "ytmgbnkbcjkdfjaagreat", sum := "cd54a73a0850b332967260c51bd5ab1df580b0c13212d0feab2f81d123406684", func := "lambent/lambentlaw26.MachineTwo", spec := "machineTwo", inPlace := ["internal/bytealg.IndexByteString", "internal/bytealg.IndexString"], unfollowed := true, recurses := true, named := ["internal/bytealg.MaxLen"], loops := true, plainKeys := false, apart := false, narrowed := true }
def MachineTwoUptoSaid : Prop := machineTwoUptoRow.holds Tryz.pinned (OpenSpec.upto machineTwoSpec)

end Rows
end Go.Proofs.YtmgbnkbcjkdfjaaGreat
