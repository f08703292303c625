/-
  NARROWER THAN 'FOR EVERY INPUT', by the rows' own cells (each row's printed sentence says how): HeapSusps: loops · HeapUndoes: loops · HeapBack: loops.
  DERIVED. THE GIVEN ROWS OF THIS SEAT. 4 by the template 'for every input the law returns true; each argument reads behind the call as it read before'; 0 by the template 'total and deterministic' (their statements: YtmeolnpbbhinjaaTotals.lean).
  GIVEN WITH THE SEED: the statements are not yours to turn. If you find one false, say at which input.
  Laid BY PROGRAM, IN A SANDBOX (cutbox-rows.mjs): the forced cells as the released guide's own fill.sh prints them over the translation f76d09999e5193a1… (all of the seat's roots in one cut). By AI agents, Wed Nov 11 2026. No macro, syntax, notation, axiom, sorry.
-/
import Derived.Test.YtmeolnpbbhinjaaChecked
import GoSem.Claim
import GoSem.ClaimJoined
import GoSem.ClaimMapViews
import Derived.JoinedTies
import Derived.KernelRfl
namespace Go.Proofs.Ytmeolnpbbhinjaa
/- THE CELL 'sum', in the pinned program and in every row, IS THE sha256 OF THE DUMP (.gsa) THAT YtmeolnpbbhinjaaProg.lean LOADS. Nothing in Lean hashes anything: it is a label: what it is worth is what the hold of that sum in a sandbox is worth. -/
noncomputable def Try.pinned : Pinned := { name := "ytmeolnpbbhinjaa", sum := "f76d09999e5193a13639661a7f703ebc7f7635290fcf6093939ce284e6258ea3", checked := Try.checked }
namespace Rows
def none {H : Type} : Left H := { results := [], args := [] }

/-- 'lambentlaw20.HeapSusps': WHATEVER THE INPUT: true; the input reads as it did. -/
def heapSuspsSpec : ChangeSpec := { name := "heapSusps", fn := fun _ => fun
  | [d1, d2, d3] => { results := [.lit (.bool true)], args := [d1, d2, d3] }
  | _ => none }
def heapSuspsRow : OpenClaim := { program := "ytmeolnpbbhinjaa", sum := "f76d09999e5193a13639661a7f703ebc7f7635290fcf6093939ce284e6258ea3", func := "lambent/lambentlaw20.HeapSusps", spec := "heapSusps", inPlace := ["internal/bytealg.IndexByteString", "internal/bytealg.IndexString"], unfollowed := true, recurses := true, named := ["internal/bytealg.MaxLen"], loops := true, apart := false }
def HeapSuspsSaid : Prop := heapSuspsRow.holds Try.pinned (OpenSpec.ofChange heapSuspsSpec)

/-- ITS FALSE NEIGHBOUR: 'it returns false'. Refute it at one input. -/
def heapSuspsWrong : ChangeSpec := { name := "heapSusps", fn := fun _ => fun
  | [d1, d2, d3] => { results := [.lit (.bool false)], args := [d1, d2, d3] }
  | _ => none }
def HeapSuspsWrongFalsely : Prop := heapSuspsRow.holds Try.pinned (OpenSpec.ofChange heapSuspsWrong)

/-- 'lambentlaw20.HeapNames': WHATEVER THE INPUT: true; the input reads as it did. -/
def heapNamesSpec : ChangeSpec := { name := "heapNames", fn := fun _ => fun
  | [d] => { results := [.lit (.bool true)], args := [d] }
  | _ => none }
def heapNamesRow : OpenClaim := { program := "ytmeolnpbbhinjaa", sum := "f76d09999e5193a13639661a7f703ebc7f7635290fcf6093939ce284e6258ea3", func := "lambent/lambentlaw20.HeapNames", spec := "heapNames", inPlace := ["internal/bytealg.IndexByteString", "internal/bytealg.IndexString"], unfollowed := true, recurses := true, named := ["internal/bytealg.MaxLen"], apart := false }
def HeapNamesSaid : Prop := heapNamesRow.holds Try.pinned (OpenSpec.ofChange heapNamesSpec)

/-- ITS FALSE NEIGHBOUR: 'it returns false'. Refute it at one input. -/
def heapNamesWrong : ChangeSpec := { name := "heapNames", fn := fun _ => fun
  | [d] => { results := [.lit (.bool false)], args := [d] }
  | _ => none }
def HeapNamesWrongFalsely : Prop := heapNamesRow.holds Try.pinned (OpenSpec.ofChange heapNamesWrong)

/-- 'lambentlaw20.HeapUndoes': WHATEVER THE INPUT: true; the input reads as it did. -/
def heapUndoesSpec : ChangeSpec := { name := "heapUndoes", fn := fun _ => fun
  | [d1, d2] => { results := [.lit (.bool true)], args := [d1, d2] }
  | _ => none }
def heapUndoesRow : OpenClaim := { program := "ytmeolnpbbhinjaa", sum := "f76d09999e5193a13639661a7f703ebc7f7635290fcf6093939ce284e6258ea3", func := "lambent/lambentlaw20.HeapUndoes", spec := "heapUndoes", inPlace := ["internal/bytealg.IndexByteString", "internal/bytealg.IndexString"], unfollowed := true, recurses := true, named := ["internal/bytealg.MaxLen"], loops := true, apart := false }
def HeapUndoesSaid : Prop := heapUndoesRow.holds Try.pinned (OpenSpec.ofChange heapUndoesSpec)

/-- ITS FALSE NEIGHBOUR: 'it returns false'. Refute it at one input. -/
def heapUndoesWrong : ChangeSpec := { name := "heapUndoes", fn := fun _ => fun
  | [d1, d2] => { results := [.lit (.bool false)], args := [d1, d2] }
  | _ => none }
def HeapUndoesWrongFalsely : Prop := heapUndoesRow.holds Try.pinned (OpenSpec.ofChange heapUndoesWrong)

/-- 'lambentlaw20.HeapBack': WHATEVER THE INPUT: true; the input reads as it did. -/
def heapBackSpec : ChangeSpec := { name := "heapBack", fn := fun _ => fun
  | [d1, d2, d3] => { results := [.lit (.bool true)], args := [d1, d2, d3] }
  | _ => none }
def heapBackRow : OpenClaim := { program := "ytmeolnpbbhinjaa", sum := "f76d09999e5193a13639661a7f703ebc7f7635290fcf6093939ce284e6258ea3", func := "lambent/lambentlaw20.HeapBack", spec := "heapBack", inPlace := ["internal/bytealg.IndexByteString", "internal/bytealg.IndexString"], unfollowed := true, recurses := true, named := ["internal/bytealg.MaxLen"], loops := true, apart := false }
def HeapBackSaid : Prop := heapBackRow.holds Try.pinned (OpenSpec.ofChange heapBackSpec)

/-- ITS FALSE NEIGHBOUR: 'it returns false'. Refute it at one input. -/
def heapBackWrong : ChangeSpec := { name := "heapBack", fn := fun _ => fun
  | [d1, d2, d3] => { results := [.lit (.bool false)], args := [d1, d2, d3] }
  | _ => none }
def HeapBackWrongFalsely : Prop := heapBackRow.holds Try.pinned (OpenSpec.ofChange heapBackWrong)

/- THE SECOND FORM. 'bulk': how many values and letters a reading holds, each counted each time it is reached (what is shared counts as often as it is met; a slice's spare places count too). A statement '..UptoSaid' is the law's where the arguments, and the package variables that the reading takes, are together of bulk at most 1048576: NARROWER than '..Said'. Prove '..Said' where nothing that the law and all that it calls make is longer than what came in: it says more and counts as full. Else prove '..UptoSaid'. A law counts once. -/
mutual
def uptoBulk {H : Type} : DataW H → Nat
  | .lit (.string bytes) => bytes.length + 1
  | .lit _ => 1
  | .nil => 1
  | .ptr d => uptoBulk d + 1
  | .slice elems spare => uptoBulkAll elems + uptoBulkAll spare + 1
  | .agg parts => uptoBulkAll parts + 1
  | .iface _ d => uptoBulk d + 1
  | .map entries => uptoBulkEntries entries + 1
  | .held _ => 1
def uptoBulkAll {H : Type} : List (DataW H) → Nat
  | [] => 0
  | d :: r => uptoBulk d + uptoBulkAll r
def uptoBulkEntries {H : Type} : List (Lit × DataW H) → Nat
  | [] => 0
  | x :: r => uptoBulkEntry x + uptoBulkEntries r
def uptoBulkEntry {H : Type} : Lit × DataW H → Nat
  | (.string bytes, d) => bytes.length + uptoBulk d + 1
  | (_, d) => uptoBulk d + 1
 end
def uptoSmall : (H : Type) → List (DataW H) → Bool := fun _ ds => decide (uptoBulkAll ds ≤ 1048576)
def OpenSpec.upto (s : _root_.Go.ChangeSpec) : _root_.Go.OpenSpec := { _root_.Go.OpenSpec.ofChange s with cond := some uptoSmall }

/-- 'lambentlaw20.HeapSusps', WHERE WHAT IT READS IS OF BULK AT MOST 1048576: true; the input reads as it did. -/
def heapSuspsUptoRow : OpenClaim := { program := "ytmeolnpbbhinjaa", sum := "f76d09999e5193a13639661a7f703ebc7f7635290fcf6093939ce284e6258ea3", func := "lambent/lambentlaw20.HeapSusps", spec := "heapSusps", inPlace := ["internal/bytealg.IndexByteString", "internal/bytealg.IndexString"], unfollowed := true, recurses := true, named := ["internal/bytealg.MaxLen"], loops := true, apart := false, narrowed := true }
def HeapSuspsUptoSaid : Prop := heapSuspsUptoRow.holds Try.pinned (OpenSpec.upto heapSuspsSpec)

/-- 'lambentlaw20.HeapNames', WHERE WHAT IT READS IS OF BULK AT MOST 1048576: true; the input reads as it did. -/
def heapNamesUptoRow : OpenClaim := { program := "ytmeolnpbbhinjaa", sum := "f76d09999e5193a13639661a7f703ebc7f7635290fcf6093939ce284e6258ea3", func := "lambent/lambentlaw20.HeapNames", spec := "heapNames", inPlace := ["internal/bytealg.IndexByteString", "internal/bytealg.IndexString"], unfollowed := true, recurses := true, named := ["internal/bytealg.MaxLen"], apart := false, narrowed := true }
def HeapNamesUptoSaid : Prop := heapNamesUptoRow.holds Try.pinned (OpenSpec.upto heapNamesSpec)

/-- 'lambentlaw20.HeapUndoes', WHERE WHAT IT READS IS OF BULK AT MOST 1048576: true; the input reads as it did. -/
def heapUndoesUptoRow : OpenClaim := { program := "ytmeolnpbbhinjaa", sum := "f76d09999e5193a13639661a7f703ebc7f7635290fcf6093939ce284e6258ea3", func := "lambent/lambentlaw20.HeapUndoes", spec := "heapUndoes", inPlace := ["internal/bytealg.IndexByteString", "internal/bytealg.IndexString"], unfollowed := true, recurses := true, named := ["internal/bytealg.MaxLen"], loops := true, apart := false, narrowed := true }
def HeapUndoesUptoSaid : Prop := heapUndoesUptoRow.holds Try.pinned (OpenSpec.upto heapUndoesSpec)

/-- 'lambentlaw20.HeapBack', WHERE WHAT IT READS IS OF BULK AT MOST 1048576: true; the input reads as it did. -/
def heapBackUptoRow : OpenClaim := { program := "ytmeolnpbbhinjaa", sum := "f76d09999e5193a13639661a7f703ebc7f7635290fcf6093939ce284e6258ea3", func := "lambent/lambentlaw20.HeapBack", spec := "heapBack", inPlace := ["internal/bytealg.IndexByteString", "internal/bytealg.IndexString"], unfollowed := true, recurses := true, named := ["internal/bytealg.MaxLen"], loops := true, apart := false, narrowed := true }
def HeapBackUptoSaid : Prop := heapBackUptoRow.holds Try.pinned (OpenSpec.upto heapBackSpec)

end Rows
end Go.Proofs.Ytmeolnpbbhinjaa
