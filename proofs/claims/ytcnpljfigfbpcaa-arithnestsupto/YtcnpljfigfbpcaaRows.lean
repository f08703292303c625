/-
  NARROWER THAN 'FOR EVERY INPUT', by the rows' own cells (each row's printed sentence says how): ArithNests: loops.
  DERIVED. THE GIVEN ROWS OF THIS SEAT. 3 by the template 'for every input the law returns true; each argument reads behind the call as it read before'; 0 by the template 'total and deterministic' (their statements: YtcnpljfigfbpcaaTotals.lean).
  GIVEN WITH THE SEED: the statements are not yours to turn. If you find one false, say at which input.
  Laid BY PROGRAM, IN A SANDBOX (cutbox-rows.mjs): the forced cells as the released guide's own fill.sh prints them over the translation 0f049330d044ec50… (all of the seat's roots in one cut). By AI agents, Wed Nov 11 2026. No macro, syntax, notation, axiom, sorry.
-/
import Derived.Test.YtcnpljfigfbpcaaChecked
import GoSem.Claim
import GoSem.ClaimJoined
import GoSem.ClaimMapViews
import Derived.JoinedTies
import Derived.KernelRfl
namespace Go.Proofs.Ytcnpljfigfbpcaa
/- THE CELL 'sum', in the pinned program and in every row, IS THE sha256 OF THE DUMP (.gsa) THAT YtcnpljfigfbpcaaProg.lean LOADS. Nothing in Lean hashes anything: it is a label: what it is worth is what the hold of that sum in a sandbox is worth. -/
noncomputable def Try.pinned : Pinned := { name := "ytcnpljfigfbpcaa", sum := "0f049330d044ec50590df5f2f0fb30d64ec73caf26d31a2ff460b083bc3c8f46", checked := Try.checked }
namespace Rows
def none {H : Type} : Left H := { results := [], args := [] }

/-- 'lambentlaw18.ArithDoes': WHATEVER THE INPUT: true; the input reads as it did. -/
def arithDoesSpec : ChangeSpec := { name := "arithDoes", fn := fun _ => fun
  | [d1, d2, d3] => { results := [.lit (.bool true)], args := [d1, d2, d3] }
  | _ => none }
def arithDoesRow : OpenClaim := { program := "ytcnpljfigfbpcaa", sum := "0f049330d044ec50590df5f2f0fb30d64ec73caf26d31a2ff460b083bc3c8f46", func := "lambent/lambentlaw18.ArithDoes", spec := "arithDoes", inPlace := ["internal/bytealg.IndexByteString", "internal/bytealg.IndexString"], unfollowed := true, recurses := true, named := ["internal/bytealg.MaxLen"], apart := false }
def ArithDoesSaid : Prop := arithDoesRow.holds Try.pinned (OpenSpec.ofChange arithDoesSpec)

/-- ITS FALSE NEIGHBOUR: 'it returns false'. Refute it at one input. -/
def arithDoesWrong : ChangeSpec := { name := "arithDoes", fn := fun _ => fun
  | [d1, d2, d3] => { results := [.lit (.bool false)], args := [d1, d2, d3] }
  | _ => none }
def ArithDoesWrongFalsely : Prop := arithDoesRow.holds Try.pinned (OpenSpec.ofChange arithDoesWrong)

/-- 'lambentlaw18.ArithLaws': WHATEVER THE INPUT: true; the input reads as it did. -/
def arithLawsSpec : ChangeSpec := { name := "arithLaws", fn := fun _ => fun
  | [d1, d2] => { results := [.lit (.bool true)], args := [d1, d2] }
  | _ => none }
def arithLawsRow : OpenClaim := { program := "ytcnpljfigfbpcaa", sum := "0f049330d044ec50590df5f2f0fb30d64ec73caf26d31a2ff460b083bc3c8f46", func := "lambent/lambentlaw18.ArithLaws", spec := "arithLaws", inPlace := ["internal/bytealg.IndexByteString", "internal/bytealg.IndexString"], unfollowed := true, recurses := true, named := ["internal/bytealg.MaxLen"], apart := false }
def ArithLawsSaid : Prop := arithLawsRow.holds Try.pinned (OpenSpec.ofChange arithLawsSpec)

/-- ITS FALSE NEIGHBOUR: 'it returns false'. Refute it at one input. -/
def arithLawsWrong : ChangeSpec := { name := "arithLaws", fn := fun _ => fun
  | [d1, d2] => { results := [.lit (.bool false)], args := [d1, d2] }
  | _ => none }
def ArithLawsWrongFalsely : Prop := arithLawsRow.holds Try.pinned (OpenSpec.ofChange arithLawsWrong)

/-- 'lambentlaw18.ArithNests': WHATEVER THE INPUT: true; the input reads as it did. -/
def arithNestsSpec : ChangeSpec := { name := "arithNests", fn := fun _ => fun
  | [d1, d2, d3] => { results := [.lit (.bool true)], args := [d1, d2, d3] }
  | _ => none }
def arithNestsRow : OpenClaim := { program := "ytcnpljfigfbpcaa", sum := "0f049330d044ec50590df5f2f0fb30d64ec73caf26d31a2ff460b083bc3c8f46", func := "lambent/lambentlaw18.ArithNests", spec := "arithNests", inPlace := ["internal/bytealg.IndexByteString", "internal/bytealg.IndexString"], unfollowed := true, recurses := true, named := ["internal/bytealg.MaxLen"], loops := true, apart := false }
def ArithNestsSaid : Prop := arithNestsRow.holds Try.pinned (OpenSpec.ofChange arithNestsSpec)

/-- ITS FALSE NEIGHBOUR: 'it returns false'. Refute it at one input. -/
def arithNestsWrong : ChangeSpec := { name := "arithNests", fn := fun _ => fun
  | [d1, d2, d3] => { results := [.lit (.bool false)], args := [d1, d2, d3] }
  | _ => none }
def ArithNestsWrongFalsely : Prop := arithNestsRow.holds Try.pinned (OpenSpec.ofChange arithNestsWrong)

/- THE SECOND FORM. 'bulk': how many values and letters a reading holds, each counted each time it is reached (what is shared counts as often as it is met; a slice's spare places count too). A statement '..UptoSaid' is the law's where the arguments, and the package variables that the reading takes, are together of bulk at most 1048576: NARROWER than '..Said'. Prove '..Said' where nothing that the law and all that it calls make is longer than what came in: it says more and counts as full. Else prove '..UptoSaid'. A law counts once. -/
mutual
def uptoBulk {H : Type} : DataW H → Nat
  | .lit (.string bytes) => bytes.length + 1
  | .lit _ => 1
  | .nil => 1
  | .ptr d => uptoBulk d + 1
  | .slice elems spare => uptoBulkAll elems + uptoBulkAll spare + 1
  | .agg parts => uptoBulkAll parts + 1
  | .iface _ d => uptoBulk d + 1
  | .map entries => uptoBulkEntries entries + 1
  | .held _ => 1
def uptoBulkAll {H : Type} : List (DataW H) → Nat
  | [] => 0
  | d :: r => uptoBulk d + uptoBulkAll r
def uptoBulkEntries {H : Type} : List (Lit × DataW H) → Nat
  | [] => 0
  | x :: r => uptoBulkEntry x + uptoBulkEntries r
def uptoBulkEntry {H : Type} : Lit × DataW H → Nat
  | (.string bytes, d) => bytes.length + uptoBulk d + 1
  | (_, d) => uptoBulk d + 1
 end
def uptoSmall : (H : Type) → List (DataW H) → Bool := fun _ ds => decide (uptoBulkAll ds ≤ 1048576)
def OpenSpec.upto (s : _root_.Go.ChangeSpec) : _root_.Go.OpenSpec := { _root_.Go.OpenSpec.ofChange s with cond := some uptoSmall }

/-- 'lambentlaw18.ArithDoes', WHERE WHAT IT READS IS OF BULK AT MOST 1048576: true; the input reads as it did. -/
def arithDoesUptoRow : OpenClaim := { program := "ytcnpljfigfbpcaa", sum := "0f049330d044ec50590df5f2f0fb30d64ec73caf26d31a2ff460b083bc3c8f46", func := "lambent/lambentlaw18.ArithDoes", spec := "arithDoes", inPlace := ["internal/bytealg.IndexByteString", "internal/bytealg.IndexString"], unfollowed := true, recurses := true, named := ["internal/bytealg.MaxLen"], apart := false, narrowed := true }
def ArithDoesUptoSaid : Prop := arithDoesUptoRow.holds Try.pinned (OpenSpec.upto arithDoesSpec)

/-- 'lambentlaw18.ArithLaws', WHERE WHAT IT READS IS OF BULK AT MOST 1048576: true; the input reads as it did. -/
def arithLawsUptoRow : OpenClaim := { program := "ytcnpljfigfbpcaa", sum := "0f049330d044ec50590df5f2f0fb30d64ec73caf26d31a2ff460b083bc3c8f46", func := "lambent/lambentlaw18.ArithLaws", spec := "arithLaws", inPlace := ["internal/bytealg.IndexByteString", "internal/bytealg.IndexString"], unfollowed := true, recurses := true, named := ["internal/bytealg.MaxLen"], apart := false, narrowed := true }
def ArithLawsUptoSaid : Prop := arithLawsUptoRow.holds Try.pinned (OpenSpec.upto arithLawsSpec)

/-- 'lambentlaw18.ArithNests', WHERE WHAT IT READS IS OF BULK AT MOST 1048576: true; the input reads as it did. -/
def arithNestsUptoRow : OpenClaim := { program := "ytcnpljfigfbpcaa", sum := "0f049330d044ec50590df5f2f0fb30d64ec73caf26d31a2ff460b083bc3c8f46", func := "lambent/lambentlaw18.ArithNests", spec := "arithNests", inPlace := ["internal/bytealg.IndexByteString", "internal/bytealg.IndexString"], unfollowed := true, recurses := true, named := ["internal/bytealg.MaxLen"], loops := true, apart := false, narrowed := true }
def ArithNestsUptoSaid : Prop := arithNestsUptoRow.holds Try.pinned (OpenSpec.upto arithNestsSpec)

end Rows
end Go.Proofs.Ytcnpljfigfbpcaa
