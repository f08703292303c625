/-
  NARROWER THAN 'FOR EVERY INPUT', by the rows' own cells (each row's printed sentence says how): CompileClauses: loops · CompileValid: loops · CompileTrue: loops · CompileGoals: loops.
  DERIVED. THE GIVEN ROWS OF THIS SEAT. 4 by the template 'for every input the law returns true; each argument reads behind the call as it read before'; 0 by the template 'total and deterministic' (their statements: YtmeolnpbbhinjaaGreatTotals.lean).
  GIVEN WITH THE SEED: the statements are not yours to turn. If you find one false, say at which input.
  Laid BY PROGRAM, IN A SANDBOX (cutbox-rows.mjs): the forced cells as the released guide's own fill.sh prints them over the translation 769ee3894dc82157… (all of the seat's roots in one cut). By AI agents, Wed Nov 11 2026. No macro, syntax, notation, axiom, sorry.
-/
import Derived.Test.YtmeolnpbbhinjaaGreatChecked
import GoSem.Claim
import GoSem.ClaimJoined
import GoSem.ClaimMapViews
import Derived.JoinedTies
import Derived.KernelRfl
namespace Go.Proofs.YtmeolnpbbhinjaaGreat
/- THE CELL 'sum', in the pinned program and in every row, IS THE sha256 OF THE DUMP (.gsa) THAT YtmeolnpbbhinjaaGreatProg.lean LOADS. Nothing in Lean hashes anything: it is a label: what it is worth is what the hold of that sum in a sandbox is worth. -/
noncomputable def Tryz.pinned : Pinned := { name := "ytmeolnpbbhinjaagreat", sum := "769ee3894dc821574b4af75d787eb9dbcf40ee261877f39f9b14fb080b23abd1", checked := Tryz.checked }
namespace Rows
def none {H : Type} : Left H := { results := [], args := [] }

/-- 'lambentlaw24.CompileClauses': WHATEVER THE INPUT: true; the input reads as it did. -/
def compileClausesSpec : ChangeSpec := { name := "compileClauses", fn := fun _ => fun
  | [d] => { results := [.lit (.bool true)], args := [d] }
  | _ => none }
def compileClausesRow : OpenClaim := { program := "ytmeolnpbbhinjaagreat", sum := "769ee3894dc821574b4af75d787eb9dbcf40ee261877f39f9b14fb080b23abd1", func := "lambent/lambentlaw24.CompileClauses", spec := "compileClauses", inPlace := ["internal/bytealg.IndexByteString", "internal/bytealg.IndexString"], unfollowed := true, recurses := true, named := ["internal/bytealg.MaxLen"], loops := true, apart := false }
def CompileClausesSaid : Prop := compileClausesRow.holds Tryz.pinned (OpenSpec.ofChange compileClausesSpec)

/-- ITS FALSE NEIGHBOUR: 'it returns false'. Refute it at one input. -/
def compileClausesWrong : ChangeSpec := { name := "compileClauses", fn := fun _ => fun
  | [d] => { results := [.lit (.bool false)], args := [d] }
  | _ => none }
def CompileClausesWrongFalsely : Prop := compileClausesRow.holds Tryz.pinned (OpenSpec.ofChange compileClausesWrong)

/-- 'lambentlaw24.CompileValid': WHATEVER THE INPUT: true; the input reads as it did. -/
def compileValidSpec : ChangeSpec := { name := "compileValid", fn := fun _ => fun
  | [d] => { results := [.lit (.bool true)], args := [d] }
  | _ => none }
def compileValidRow : OpenClaim := { program := "ytmeolnpbbhinjaagreat", sum := "769ee3894dc821574b4af75d787eb9dbcf40ee261877f39f9b14fb080b23abd1", func := "lambent/lambentlaw24.CompileValid", spec := "compileValid", inPlace := ["internal/bytealg.IndexByteString", "internal/bytealg.IndexString"], unfollowed := true, recurses := true, named := ["internal/bytealg.MaxLen"], loops := true, apart := false }
def CompileValidSaid : Prop := compileValidRow.holds Tryz.pinned (OpenSpec.ofChange compileValidSpec)

/-- ITS FALSE NEIGHBOUR: 'it returns false'. Refute it at one input. -/
def compileValidWrong : ChangeSpec := { name := "compileValid", fn := fun _ => fun
  | [d] => { results := [.lit (.bool false)], args := [d] }
  | _ => none }
def CompileValidWrongFalsely : Prop := compileValidRow.holds Tryz.pinned (OpenSpec.ofChange compileValidWrong)

/-- 'lambentlaw24.CompileTrue': WHATEVER THE INPUT: true; the input reads as it did. -/
def compileTrueSpec : ChangeSpec := { name := "compileTrue", fn := fun _ => fun
  | [d1, d2, d3, d4, d5] => { results := [.lit (.bool true)], args := [d1, d2, d3, d4, d5] }
  | _ => none }
def compileTrueRow : OpenClaim := { program := "ytmeolnpbbhinjaagreat", sum := "769ee3894dc821574b4af75d787eb9dbcf40ee261877f39f9b14fb080b23abd1", func := "lambent/lambentlaw24.CompileTrue", spec := "compileTrue", inPlace := ["internal/bytealg.IndexByteString", "internal/bytealg.IndexString"], unfollowed := true, recurses := true, named := ["internal/bytealg.MaxLen"], loops := true, apart := false }
def CompileTrueSaid : Prop := compileTrueRow.holds Tryz.pinned (OpenSpec.ofChange compileTrueSpec)

/-- ITS FALSE NEIGHBOUR: 'it returns false'. Refute it at one input. -/
def compileTrueWrong : ChangeSpec := { name := "compileTrue", fn := fun _ => fun
  | [d1, d2, d3, d4, d5] => { results := [.lit (.bool false)], args := [d1, d2, d3, d4, d5] }
  | _ => none }
def CompileTrueWrongFalsely : Prop := compileTrueRow.holds Tryz.pinned (OpenSpec.ofChange compileTrueWrong)

/-- 'lambentlaw24.CompileGoals': WHATEVER THE INPUT: true; the input reads as it did. -/
def compileGoalsSpec : ChangeSpec := { name := "compileGoals", fn := fun _ => fun
  | [d1, d2] => { results := [.lit (.bool true)], args := [d1, d2] }
  | _ => none }
def compileGoalsRow : OpenClaim := { program := "ytmeolnpbbhinjaagreat", sum := "769ee3894dc821574b4af75d787eb9dbcf40ee261877f39f9b14fb080b23abd1", func := "lambent/lambentlaw24.CompileGoals", spec := "compileGoals", inPlace := ["internal/bytealg.IndexByteString", "internal/bytealg.IndexString"], unfollowed := true, recurses := true, named := ["internal/bytealg.MaxLen"], loops := true, apart := false }
def CompileGoalsSaid : Prop := compileGoalsRow.holds Tryz.pinned (OpenSpec.ofChange compileGoalsSpec)

/-- ITS FALSE NEIGHBOUR: 'it returns false'. Refute it at one input. -/
def compileGoalsWrong : ChangeSpec := { name := "compileGoals", fn := fun _ => fun
  | [d1, d2] => { results := [.lit (.bool false)], args := [d1, d2] }
  | _ => none }
def CompileGoalsWrongFalsely : Prop := compileGoalsRow.holds Tryz.pinned (OpenSpec.ofChange compileGoalsWrong)

/- THE SECOND FORM. 'bulk': how many values and letters a reading holds, each counted each time it is reached (what is shared counts as often as it is met; a slice's spare places count too). A statement '..UptoSaid' is the law's where the arguments, and the package variables that the reading takes, are together of bulk at most 1048576: NARROWER than '..Said'. Prove '..Said' where nothing that the law and all that it calls make is longer than what came in: it says more and counts as full. Else prove '..UptoSaid'. A law counts once. -/
mutual
def uptoBulk {H : Type} : DataW H → Nat
  | .lit (.string bytes) => bytes.length + 1
  | .lit _ => 1
  | .nil => 1
  | .ptr d => uptoBulk d + 1
  | .slice elems spare => uptoBulkAll elems + uptoBulkAll spare + 1
  | .agg parts => uptoBulkAll parts + 1
  | .iface _ d => uptoBulk d + 1
  | .map entries => uptoBulkEntries entries + 1
  | .held _ => 1
def uptoBulkAll {H : Type} : List (DataW H) → Nat
  | [] => 0
  | d :: r => uptoBulk d + uptoBulkAll r
def uptoBulkEntries {H : Type} : List (Lit × DataW H) → Nat
  | [] => 0
  | x :: r => uptoBulkEntry x + uptoBulkEntries r
def uptoBulkEntry {H : Type} : Lit × DataW H → Nat
  | (.string bytes, d) => bytes.length + uptoBulk d + 1
  | (_, d) => uptoBulk d + 1
 end
def uptoSmall : (H : Type) → List (DataW H) → Bool := fun _ ds => decide (uptoBulkAll ds ≤ 1048576)
def OpenSpec.upto (s : _root_.Go.ChangeSpec) : _root_.Go.OpenSpec := { _root_.Go.OpenSpec.ofChange s with cond := some uptoSmall }

/-- 'lambentlaw24.CompileClauses', WHERE WHAT IT READS IS OF BULK AT MOST 1048576: true; the input reads as it did. -/
def compileClausesUptoRow : OpenClaim := { program := "ytmeolnpbbhinjaagreat", sum := "769ee3894dc821574b4af75d787eb9dbcf40ee261877f39f9b14fb080b23abd1", func := "lambent/lambentlaw24.CompileClauses", spec := "compileClauses", inPlace := ["internal/bytealg.IndexByteString", "internal/bytealg.IndexString"], unfollowed := true, recurses := true, named := ["internal/bytealg.MaxLen"], loops := true, apart := false, narrowed := true }
def CompileClausesUptoSaid : Prop := compileClausesUptoRow.holds Tryz.pinned (OpenSpec.upto compileClausesSpec)

/-- 'lambentlaw24.CompileValid', WHERE WHAT IT READS IS OF BULK AT MOST 1048576: true; the input reads as it did. -/
def compileValidUptoRow : OpenClaim := { program := "ytmeolnpbbhinjaagreat", sum := "769ee3894dc821574b4af75d787eb9dbcf40ee261877f39f9b14fb080b23abd1", func := "lambent/lambentlaw24.CompileValid", spec := "compileValid", inPlace := ["internal/bytealg.IndexByteString", "internal/bytealg.IndexString"], unfollowed := true, recurses := true, named := ["internal/bytealg.MaxLen"], loops := true, apart := false, narrowed := true }
def CompileValidUptoSaid : Prop := compileValidUptoRow.holds Tryz.pinned (OpenSpec.upto compileValidSpec)

/-- 'lambentlaw24.CompileTrue', WHERE WHAT IT READS IS OF BULK AT MOST 1048576: true; the input reads as it did. -/
def compileTrueUptoRow : OpenClaim := { program := "ytmeolnpbbhinjaagreat", sum := "769ee3894dc821574b4af75d787eb9dbcf40ee261877f39f9b14fb080b23abd1", func := "lambent/lambentlaw24.CompileTrue", spec := "compileTrue", inPlace := ["internal/bytealg.IndexByteString", "internal/bytealg.IndexString"], unfollowed := true, recurses := true, named := ["internal/bytealg.MaxLen"], loops := true, apart := false, narrowed := true }
def CompileTrueUptoSaid : Prop := compileTrueUptoRow.holds Tryz.pinned (OpenSpec.upto compileTrueSpec)

/-- 'lambentlaw24.CompileGoals', WHERE WHAT IT READS IS OF BULK AT MOST 1048576: true; the input reads as it did. -/
def compileGoalsUptoRow : OpenClaim := { program := "ytmeolnpbbhinjaagreat", sum := "769ee3894dc821574b4af75d787eb9dbcf40ee261877f39f9b14fb080b23abd1", func := "lambent/lambentlaw24.CompileGoals", spec := "compileGoals", inPlace := ["internal/bytealg.IndexByteString", "internal/bytealg.IndexString"], unfollowed := true, recurses := true, named := ["internal/bytealg.MaxLen"], loops := true, apart := false, narrowed := true }
def CompileGoalsUptoSaid : Prop := compileGoalsUptoRow.holds Tryz.pinned (OpenSpec.upto compileGoalsSpec)

end Rows
end Go.Proofs.YtmeolnpbbhinjaaGreat
