/-
  NARROWER THAN 'FOR EVERY INPUT', by the rows' own cells (each row's printed sentence says how): StoreUndoes: loops · StoreApart: loops · StoreBinds: loops · StoreFulls: loops · ArithNests: loops · ArithEvals: loops · InvertPrunes: loops · InvertOthers: loops.
  DERIVED. THE GIVEN ROWS OF THIS SEAT. 10 by the template 'for every input the law returns true; each argument reads behind the call as it read before'; 0 by the template 'total and deterministic' (their statements: YtlemgmcjggkhdaaTotals.lean).
  GIVEN WITH THE SEED: the statements are not yours to turn. If you find one false, say at which input.
  Laid BY PROGRAM, IN A SANDBOX (cutbox-rows.mjs): the forced cells as the released guide's own fill.sh prints them over the translation 46020e4c4609d1e5… (all of the seat's roots in one cut). By AI agents, Wed Nov 11 2026. No macro, syntax, notation, axiom, sorry.
-/
import Derived.Test.YtlemgmcjggkhdaaChecked
import GoSem.Claim
import GoSem.ClaimJoined
import GoSem.ClaimMapViews
import Derived.JoinedTies
import Derived.KernelRfl
namespace Go.Proofs.Ytlemgmcjggkhdaa
/- THE CELL 'sum', in the pinned program and in every row, IS THE sha256 OF THE DUMP (.gsa) THAT YtlemgmcjggkhdaaProg.lean LOADS. Nothing in Lean hashes anything: it is a label: what it is worth is what the hold of that sum in a sandbox is worth. -/
noncomputable def Try.pinned : Pinned := { name := "ytlemgmcjggkhdaa", sum := "46020e4c4609d1e547c8cf67421ac153b150053034767bddaf38a93be6f19fd0", checked := Try.checked }
namespace Rows
def none {H : Type} : Left H := { results := [], args := [] }

/-- 'lambentlaw15.StoreUndoes': WHATEVER THE INPUT: true; the input reads as it did. -/
def storeUndoesSpec : ChangeSpec := { name := "storeUndoes", fn := fun _ => fun
  | [d1, d2] => { results := [.lit (.bool true)], args := [d1, d2] }
  | _ => none }
def storeUndoesRow : OpenClaim := { program := "ytlemgmcjggkhdaa", sum := "46020e4c4609d1e547c8cf67421ac153b150053034767bddaf38a93be6f19fd0", func := "lambent/lambentlaw15.StoreUndoes", spec := "storeUndoes", inPlace := ["internal/bytealg.IndexByteString", "internal/bytealg.IndexString"], unfollowed := true, recurses := true, named := ["internal/bytealg.MaxLen"], loops := true, apart := false }
def StoreUndoesSaid : Prop := storeUndoesRow.holds Try.pinned (OpenSpec.ofChange storeUndoesSpec)

/-- ITS FALSE NEIGHBOUR: 'it returns false'. Refute it at one input. -/
def storeUndoesWrong : ChangeSpec := { name := "storeUndoes", fn := fun _ => fun
  | [d1, d2] => { results := [.lit (.bool false)], args := [d1, d2] }
  | _ => none }
def StoreUndoesWrongFalsely : Prop := storeUndoesRow.holds Try.pinned (OpenSpec.ofChange storeUndoesWrong)

/-- 'lambentlaw15.StoreApart': WHATEVER THE INPUT: true; the input reads as it did. -/
def storeApartSpec : ChangeSpec := { name := "storeApart", fn := fun _ => fun
  | [d1, d2, d3] => { results := [.lit (.bool true)], args := [d1, d2, d3] }
  | _ => none }
def storeApartRow : OpenClaim := { program := "ytlemgmcjggkhdaa", sum := "46020e4c4609d1e547c8cf67421ac153b150053034767bddaf38a93be6f19fd0", func := "lambent/lambentlaw15.StoreApart", spec := "storeApart", inPlace := ["internal/bytealg.IndexByteString", "internal/bytealg.IndexString"], unfollowed := true, recurses := true, named := ["internal/bytealg.MaxLen"], loops := true, apart := false }
def StoreApartSaid : Prop := storeApartRow.holds Try.pinned (OpenSpec.ofChange storeApartSpec)

/-- ITS FALSE NEIGHBOUR: 'it returns false'. Refute it at one input. -/
def storeApartWrong : ChangeSpec := { name := "storeApart", fn := fun _ => fun
  | [d1, d2, d3] => { results := [.lit (.bool false)], args := [d1, d2, d3] }
  | _ => none }
def StoreApartWrongFalsely : Prop := storeApartRow.holds Try.pinned (OpenSpec.ofChange storeApartWrong)

/-- 'lambentlaw15.StoreBinds': WHATEVER THE INPUT: true; the input reads as it did. -/
def storeBindsSpec : ChangeSpec := { name := "storeBinds", fn := fun _ => fun
  | [d1, d2, d3, d4, d5] => { results := [.lit (.bool true)], args := [d1, d2, d3, d4, d5] }
  | _ => none }
def storeBindsRow : OpenClaim := { program := "ytlemgmcjggkhdaa", sum := "46020e4c4609d1e547c8cf67421ac153b150053034767bddaf38a93be6f19fd0", func := "lambent/lambentlaw15.StoreBinds", spec := "storeBinds", inPlace := ["internal/bytealg.IndexByteString", "internal/bytealg.IndexString"], unfollowed := true, recurses := true, named := ["internal/bytealg.MaxLen"], loops := true, apart := false }
def StoreBindsSaid : Prop := storeBindsRow.holds Try.pinned (OpenSpec.ofChange storeBindsSpec)

/-- ITS FALSE NEIGHBOUR: 'it returns false'. Refute it at one input. -/
def storeBindsWrong : ChangeSpec := { name := "storeBinds", fn := fun _ => fun
  | [d1, d2, d3, d4, d5] => { results := [.lit (.bool false)], args := [d1, d2, d3, d4, d5] }
  | _ => none }
def StoreBindsWrongFalsely : Prop := storeBindsRow.holds Try.pinned (OpenSpec.ofChange storeBindsWrong)

/-- 'lambentlaw15.StoreFulls': WHATEVER THE INPUT: true; the input reads as it did. -/
def storeFullsSpec : ChangeSpec := { name := "storeFulls", fn := fun _ => fun
  | [d1, d2, d3] => { results := [.lit (.bool true)], args := [d1, d2, d3] }
  | _ => none }
def storeFullsRow : OpenClaim := { program := "ytlemgmcjggkhdaa", sum := "46020e4c4609d1e547c8cf67421ac153b150053034767bddaf38a93be6f19fd0", func := "lambent/lambentlaw15.StoreFulls", spec := "storeFulls", inPlace := ["internal/bytealg.IndexByteString", "internal/bytealg.IndexString"], unfollowed := true, recurses := true, named := ["internal/bytealg.MaxLen"], loops := true, apart := false }
def StoreFullsSaid : Prop := storeFullsRow.holds Try.pinned (OpenSpec.ofChange storeFullsSpec)

/-- ITS FALSE NEIGHBOUR: 'it returns false'. Refute it at one input. -/
def storeFullsWrong : ChangeSpec := { name := "storeFulls", fn := fun _ => fun
  | [d1, d2, d3] => { results := [.lit (.bool false)], args := [d1, d2, d3] }
  | _ => none }
def StoreFullsWrongFalsely : Prop := storeFullsRow.holds Try.pinned (OpenSpec.ofChange storeFullsWrong)

/-- 'lambentlaw18.ArithDoes': WHATEVER THE INPUT: true; the input reads as it did. -/
def arithDoesSpec : ChangeSpec := { name := "arithDoes", fn := fun _ => fun
  | [d1, d2, d3] => { results := [.lit (.bool true)], args := [d1, d2, d3] }
  | _ => none }
def arithDoesRow : OpenClaim := { program := "ytlemgmcjggkhdaa", sum := "46020e4c4609d1e547c8cf67421ac153b150053034767bddaf38a93be6f19fd0", func := "lambent/lambentlaw18.ArithDoes", spec := "arithDoes", inPlace := ["internal/bytealg.IndexByteString", "internal/bytealg.IndexString"], unfollowed := true, recurses := true, named := ["internal/bytealg.MaxLen"], apart := false }
def ArithDoesSaid : Prop := arithDoesRow.holds Try.pinned (OpenSpec.ofChange arithDoesSpec)

/-- ITS FALSE NEIGHBOUR: 'it returns false'. Refute it at one input. -/
def arithDoesWrong : ChangeSpec := { name := "arithDoes", fn := fun _ => fun
  | [d1, d2, d3] => { results := [.lit (.bool false)], args := [d1, d2, d3] }
  | _ => none }
def ArithDoesWrongFalsely : Prop := arithDoesRow.holds Try.pinned (OpenSpec.ofChange arithDoesWrong)

/-- 'lambentlaw18.ArithLaws': WHATEVER THE INPUT: true; the input reads as it did. -/
def arithLawsSpec : ChangeSpec := { name := "arithLaws", fn := fun _ => fun
  | [d1, d2] => { results := [.lit (.bool true)], args := [d1, d2] }
  | _ => none }
def arithLawsRow : OpenClaim := { program := "ytlemgmcjggkhdaa", sum := "46020e4c4609d1e547c8cf67421ac153b150053034767bddaf38a93be6f19fd0", func := "lambent/lambentlaw18.ArithLaws", spec := "arithLaws", inPlace := ["internal/bytealg.IndexByteString", "internal/bytealg.IndexString"], unfollowed := true, recurses := true, named := ["internal/bytealg.MaxLen"], apart := false }
def ArithLawsSaid : Prop := arithLawsRow.holds Try.pinned (OpenSpec.ofChange arithLawsSpec)

/-- ITS FALSE NEIGHBOUR: 'it returns false'. Refute it at one input. -/
def arithLawsWrong : ChangeSpec := { name := "arithLaws", fn := fun _ => fun
  | [d1, d2] => { results := [.lit (.bool false)], args := [d1, d2] }
  | _ => none }
def ArithLawsWrongFalsely : Prop := arithLawsRow.holds Try.pinned (OpenSpec.ofChange arithLawsWrong)

/-- 'lambentlaw18.ArithNests': WHATEVER THE INPUT: true; the input reads as it did. -/
def arithNestsSpec : ChangeSpec := { name := "arithNests", fn := fun _ => fun
  | [d1, d2, d3] => { results := [.lit (.bool true)], args := [d1, d2, d3] }
  | _ => none }
def arithNestsRow : OpenClaim := { program := "ytlemgmcjggkhdaa", sum := "46020e4c4609d1e547c8cf67421ac153b150053034767bddaf38a93be6f19fd0", func := "lambent/lambentlaw18.ArithNests", spec := "arithNests", inPlace := ["internal/bytealg.IndexByteString", "internal/bytealg.IndexString"], unfollowed := true, recurses := true, named := ["internal/bytealg.MaxLen"], loops := true, apart := false }
def ArithNestsSaid : Prop := arithNestsRow.holds Try.pinned (OpenSpec.ofChange arithNestsSpec)

/-- ITS FALSE NEIGHBOUR: 'it returns false'. Refute it at one input. -/
def arithNestsWrong : ChangeSpec := { name := "arithNests", fn := fun _ => fun
  | [d1, d2, d3] => { results := [.lit (.bool false)], args := [d1, d2, d3] }
  | _ => none }
def ArithNestsWrongFalsely : Prop := arithNestsRow.holds Try.pinned (OpenSpec.ofChange arithNestsWrong)

/-- 'lambentlaw18.ArithEvals': WHATEVER THE INPUT: true; the input reads as it did. -/
def arithEvalsSpec : ChangeSpec := { name := "arithEvals", fn := fun _ => fun
  | [d1, d2, d3] => { results := [.lit (.bool true)], args := [d1, d2, d3] }
  | _ => none }
def arithEvalsRow : OpenClaim := { program := "ytlemgmcjggkhdaa", sum := "46020e4c4609d1e547c8cf67421ac153b150053034767bddaf38a93be6f19fd0", func := "lambent/lambentlaw18.ArithEvals", spec := "arithEvals", inPlace := ["internal/bytealg.IndexByteString", "internal/bytealg.IndexString"], unfollowed := true, recurses := true, named := ["internal/bytealg.MaxLen"], loops := true, apart := false }
def ArithEvalsSaid : Prop := arithEvalsRow.holds Try.pinned (OpenSpec.ofChange arithEvalsSpec)

/-- ITS FALSE NEIGHBOUR: 'it returns false'. Refute it at one input. -/
def arithEvalsWrong : ChangeSpec := { name := "arithEvals", fn := fun _ => fun
  | [d1, d2, d3] => { results := [.lit (.bool false)], args := [d1, d2, d3] }
  | _ => none }
def ArithEvalsWrongFalsely : Prop := arithEvalsRow.holds Try.pinned (OpenSpec.ofChange arithEvalsWrong)

/-- 'lambentlaw16.InvertPrunes': WHATEVER THE INPUT: true; the input reads as it did. -/
def invertPrunesSpec : ChangeSpec := { name := "invertPrunes", fn := fun _ => fun
  | [d1, d2, d3, d4] => { results := [.lit (.bool true)], args := [d1, d2, d3, d4] }
  | _ => none }
def invertPrunesRow : OpenClaim := { program := "ytlemgmcjggkhdaa", sum := "46020e4c4609d1e547c8cf67421ac153b150053034767bddaf38a93be6f19fd0", func := "lambent/lambentlaw16.InvertPrunes", spec := "invertPrunes", inPlace := ["internal/bytealg.IndexByteString", "internal/bytealg.IndexString"], unfollowed := true, recurses := true, named := ["internal/bytealg.MaxLen"], loops := true, apart := false }
def InvertPrunesSaid : Prop := invertPrunesRow.holds Try.pinned (OpenSpec.ofChange invertPrunesSpec)

/-- ITS FALSE NEIGHBOUR: 'it returns false'. Refute it at one input. -/
def invertPrunesWrong : ChangeSpec := { name := "invertPrunes", fn := fun _ => fun
  | [d1, d2, d3, d4] => { results := [.lit (.bool false)], args := [d1, d2, d3, d4] }
  | _ => none }
def InvertPrunesWrongFalsely : Prop := invertPrunesRow.holds Try.pinned (OpenSpec.ofChange invertPrunesWrong)

/-- 'lambentlaw16.InvertOthers': WHATEVER THE INPUT: true; the input reads as it did. -/
def invertOthersSpec : ChangeSpec := { name := "invertOthers", fn := fun _ => fun
  | [d1, d2, d3, d4] => { results := [.lit (.bool true)], args := [d1, d2, d3, d4] }
  | _ => none }
def invertOthersRow : OpenClaim := { program := "ytlemgmcjggkhdaa", sum := "46020e4c4609d1e547c8cf67421ac153b150053034767bddaf38a93be6f19fd0", func := "lambent/lambentlaw16.InvertOthers", spec := "invertOthers", inPlace := ["internal/bytealg.IndexByteString", "internal/bytealg.IndexString"], unfollowed := true, recurses := true, named := ["internal/bytealg.MaxLen"], loops := true, apart := false }
def InvertOthersSaid : Prop := invertOthersRow.holds Try.pinned (OpenSpec.ofChange invertOthersSpec)

/-- ITS FALSE NEIGHBOUR: 'it returns false'. Refute it at one input. -/
def invertOthersWrong : ChangeSpec := { name := "invertOthers", fn := fun _ => fun
  | [d1, d2, d3, d4] => { results := [.lit (.bool false)], args := [d1, d2, d3, d4] }
  | _ => none }
def InvertOthersWrongFalsely : Prop := invertOthersRow.holds Try.pinned (OpenSpec.ofChange invertOthersWrong)

/- THE SECOND FORM. 'bulk': how many values and letters a reading holds, each counted each time it is reached (what is shared counts as often as it is met; a slice's spare places count too). A statement '..UptoSaid' is the law's where the arguments, and the package variables that the reading takes, are together of bulk at most 1048576: NARROWER than '..Said'. Prove '..Said' where nothing that the law and all that it calls make is longer than what came in: it says more and counts as full. Else prove '..UptoSaid'. A law counts once. -/
mutual
def uptoBulk {H : Type} : DataW H → Nat
  | .lit (.string bytes) => bytes.length + 1
  | .lit _ => 1
  | .nil => 1
  | .ptr d => uptoBulk d + 1
  | .slice elems spare => uptoBulkAll elems + uptoBulkAll spare + 1
  | .agg parts => uptoBulkAll parts + 1
  | .iface _ d => uptoBulk d + 1
  | .map entries => uptoBulkEntries entries + 1
  | .held _ => 1
def uptoBulkAll {H : Type} : List (DataW H) → Nat
  | [] => 0
  | d :: r => uptoBulk d + uptoBulkAll r
def uptoBulkEntries {H : Type} : List (Lit × DataW H) → Nat
  | [] => 0
  | x :: r => uptoBulkEntry x + uptoBulkEntries r
def uptoBulkEntry {H : Type} : Lit × DataW H → Nat
  | (.string bytes, d) => bytes.length + uptoBulk d + 1
  | (_, d) => uptoBulk d + 1
 end
def uptoSmall : (H : Type) → List (DataW H) → Bool := fun _ ds => decide (uptoBulkAll ds ≤ 1048576)
def OpenSpec.upto (s : _root_.Go.ChangeSpec) : _root_.Go.OpenSpec := { _root_.Go.OpenSpec.ofChange s with cond := some uptoSmall }

/-- 'lambentlaw15.StoreUndoes', WHERE WHAT IT READS IS OF BULK AT MOST 1048576: true; the input reads as it did. -/
def storeUndoesUptoRow : OpenClaim := { program := "ytlemgmcjggkhdaa", sum := "46020e4c4609d1e547c8cf67421ac153b150053034767bddaf38a93be6f19fd0", func := "lambent/lambentlaw15.StoreUndoes", spec := "storeUndoes", inPlace := ["internal/bytealg.IndexByteString", "internal/bytealg.IndexString"], unfollowed := true, recurses := true, named := ["internal/bytealg.MaxLen"], loops := true, apart := false, narrowed := true }
def StoreUndoesUptoSaid : Prop := storeUndoesUptoRow.holds Try.pinned (OpenSpec.upto storeUndoesSpec)

/-- 'lambentlaw15.StoreApart', WHERE WHAT IT READS IS OF BULK AT MOST 1048576: true; the input reads as it did. -/
def storeApartUptoRow : OpenClaim := { program := "ytlemgmcjggkhdaa", sum := "46020e4c4609d1e547c8cf67421ac153b150053034767bddaf38a93be6f19fd0", func := "lambent/lambentlaw15.StoreApart", spec := "storeApart", inPlace := ["internal/bytealg.IndexByteString", "internal/bytealg.IndexString"], unfollowed := true, recurses := true, named := ["internal/bytealg.MaxLen"], loops := true, apart := false, narrowed := true }
def StoreApartUptoSaid : Prop := storeApartUptoRow.holds Try.pinned (OpenSpec.upto storeApartSpec)

/-- 'lambentlaw15.StoreBinds', WHERE WHAT IT READS IS OF BULK AT MOST 1048576: true; the input reads as it did. -/
def storeBindsUptoRow : OpenClaim := { program := "ytlemgmcjggkhdaa", sum := "46020e4c4609d1e547c8cf67421ac153b150053034767bddaf38a93be6f19fd0", func := "lambent/lambentlaw15.StoreBinds", spec := "storeBinds", inPlace := ["internal/bytealg.IndexByteString", "internal/bytealg.IndexString"], unfollowed := true, recurses := true, named := ["internal/bytealg.MaxLen"], loops := true, apart := false, narrowed := true }
def StoreBindsUptoSaid : Prop := storeBindsUptoRow.holds Try.pinned (OpenSpec.upto storeBindsSpec)

/-- 'lambentlaw15.StoreFulls', WHERE WHAT IT READS IS OF BULK AT MOST 1048576: true; the input reads as it did. -/
def storeFullsUptoRow : OpenClaim := { program := "ytlemgmcjggkhdaa", sum := "46020e4c4609d1e547c8cf67421ac153b150053034767bddaf38a93be6f19fd0", func := "lambent/lambentlaw15.StoreFulls", spec := "storeFulls", inPlace := ["internal/bytealg.IndexByteString", "internal/bytealg.IndexString"], unfollowed := true, recurses := true, named := ["internal/bytealg.MaxLen"], loops := true, apart := false, narrowed := true }
def StoreFullsUptoSaid : Prop := storeFullsUptoRow.holds Try.pinned (OpenSpec.upto storeFullsSpec)

/-- 'lambentlaw18.ArithDoes', WHERE WHAT IT READS IS OF BULK AT MOST 1048576: true; the input reads as it did. -/
def arithDoesUptoRow : OpenClaim := { program := "ytlemgmcjggkhdaa", sum := "46020e4c4609d1e547c8cf67421ac153b150053034767bddaf38a93be6f19fd0", func := "lambent/lambentlaw18.ArithDoes", spec := "arithDoes", inPlace := ["internal/bytealg.IndexByteString", "internal/bytealg.IndexString"], unfollowed := true, recurses := true, named := ["internal/bytealg.MaxLen"], apart := false, narrowed := true }
def ArithDoesUptoSaid : Prop := arithDoesUptoRow.holds Try.pinned (OpenSpec.upto arithDoesSpec)

/-- 'lambentlaw18.ArithLaws', WHERE WHAT IT READS IS OF BULK AT MOST 1048576: true; the input reads as it did. -/
def arithLawsUptoRow : OpenClaim := { program := "ytlemgmcjggkhdaa", sum := "46020e4c4609d1e547c8cf67421ac153b150053034767bddaf38a93be6f19fd0", func := "lambent/lambentlaw18.ArithLaws", spec := "arithLaws", inPlace := ["internal/bytealg.IndexByteString", "internal/bytealg.IndexString"], unfollowed := true, recurses := true, named := ["internal/bytealg.MaxLen"], apart := false, narrowed := true }
def ArithLawsUptoSaid : Prop := arithLawsUptoRow.holds Try.pinned (OpenSpec.upto arithLawsSpec)

/-- 'lambentlaw18.ArithNests', WHERE WHAT IT READS IS OF BULK AT MOST 1048576: true; the input reads as it did. -/
def arithNestsUptoRow : OpenClaim := { program := "ytlemgmcjggkhdaa", sum := "46020e4c4609d1e547c8cf67421ac153b150053034767bddaf38a93be6f19fd0", func := "lambent/lambentlaw18.ArithNests", spec := "arithNests", inPlace := ["internal/bytealg.IndexByteString", "internal/bytealg.IndexString"], unfollowed := true, recurses := true, named := ["internal/bytealg.MaxLen"], loops := true, apart := false, narrowed := true }
def ArithNestsUptoSaid : Prop := arithNestsUptoRow.holds Try.pinned (OpenSpec.upto arithNestsSpec)

/-- 'lambentlaw18.ArithEvals', WHERE WHAT IT READS IS OF BULK AT MOST 1048576: true; the input reads as it did. -/
def arithEvalsUptoRow : OpenClaim := { program := "ytlemgmcjggkhdaa", sum := "46020e4c4609d1e547c8cf67421ac153b150053034767bddaf38a93be6f19fd0", func := "lambent/lambentlaw18.ArithEvals", spec := "arithEvals", inPlace := ["internal/bytealg.IndexByteString", "internal/bytealg.IndexString"], unfollowed := true, recurses := true, named := ["internal/bytealg.MaxLen"], loops := true, apart := false, narrowed := true }
def ArithEvalsUptoSaid : Prop := arithEvalsUptoRow.holds Try.pinned (OpenSpec.upto arithEvalsSpec)

/-- 'lambentlaw16.InvertPrunes', WHERE WHAT IT READS IS OF BULK AT MOST 1048576: true; the input reads as it did. -/
def invertPrunesUptoRow : OpenClaim := { program := "ytlemgmcjggkhdaa", sum := "46020e4c4609d1e547c8cf67421ac153b150053034767bddaf38a93be6f19fd0", func := "lambent/lambentlaw16.InvertPrunes", spec := "invertPrunes", inPlace := ["internal/bytealg.IndexByteString", "internal/bytealg.IndexString"], unfollowed := true, recurses := true, named := ["internal/bytealg.MaxLen"], loops := true, apart := false, narrowed := true }
def InvertPrunesUptoSaid : Prop := invertPrunesUptoRow.holds Try.pinned (OpenSpec.upto invertPrunesSpec)

/-- 'lambentlaw16.InvertOthers', WHERE WHAT IT READS IS OF BULK AT MOST 1048576: true; the input reads as it did. -/
def invertOthersUptoRow : OpenClaim := { program := "ytlemgmcjggkhdaa", sum := "46020e4c4609d1e547c8cf67421ac153b150053034767bddaf38a93be6f19fd0", func := "lambent/lambentlaw16.InvertOthers", spec := "invertOthers", inPlace := ["internal/bytealg.IndexByteString", "internal/bytealg.IndexString"], unfollowed := true, recurses := true, named := ["internal/bytealg.MaxLen"], loops := true, apart := false, narrowed := true }
def InvertOthersUptoSaid : Prop := invertOthersUptoRow.holds Try.pinned (OpenSpec.upto invertOthersSpec)

end Rows
end Go.Proofs.Ytlemgmcjggkhdaa
