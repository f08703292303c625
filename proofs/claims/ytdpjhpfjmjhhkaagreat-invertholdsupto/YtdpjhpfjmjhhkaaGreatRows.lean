/-
  NARROWER THAN 'FOR EVERY INPUT', by the rows' own cells (each row's printed sentence says how): InvertArgs: loops · InvertHolds: loops · UnifyOne: loops · UnifyOthers: loops · UnifyLevels: loops · IndexFails: loops.
  DERIVED. THE GIVEN ROWS OF THIS SEAT. 6 by the template 'for every input the law returns true; each argument reads behind the call as it read before'; 0 by the template 'total and deterministic' (their statements: YtdpjhpfjmjhhkaaGreatTotals.lean).
  GIVEN WITH THE SEED: the statements are not yours to turn. If you find one false, say at which input.
  Laid BY PROGRAM, IN A SANDBOX (cutbox-rows.mjs): the forced cells as the released guide's own fill.sh prints them over the translation fd2ae177712a4690… (all of the seat's roots in one cut). By AI agents, Wed Nov 11 2026. No macro, syntax, notation, axiom, sorry.
-/
import Derived.Test.YtdpjhpfjmjhhkaaGreatChecked
import GoSem.Claim
import GoSem.ClaimJoined
import GoSem.ClaimMapViews
import Derived.JoinedTies
import Derived.KernelRfl
namespace Go.Proofs.YtdpjhpfjmjhhkaaGreat
/- THE CELL 'sum', in the pinned program and in every row, IS THE sha256 OF THE DUMP (.gsa) THAT YtdpjhpfjmjhhkaaGreatProg.lean LOADS. Nothing in Lean hashes anything: it is a label: what it is worth is what the hold of that sum in a sandbox is worth. -/
noncomputable def Tryz.pinned : Pinned := { name := "ytdpjhpfjmjhhkaagreat", sum := "fd2ae177712a469017f0815006e1691c3c92a19e476adb0cf0569e0600b21d0a", checked := Tryz.checked }
namespace Rows
def none {H : Type} : Left H := { results := [], args := [] }

/-- 'lambentlaw16.InvertArgs': WHATEVER THE INPUT: true; the input reads as it did. -/
def invertArgsSpec : ChangeSpec := { name := "invertArgs", fn := fun _ => fun
  | [d1, d2, d3, d4] => { results := [.lit (.bool true)], args := [d1, d2, d3, d4] }
  | _ => none }
def invertArgsRow : OpenClaim := { program := "ytdpjhpfjmjhhkaagreat", sum := "fd2ae177712a469017f0815006e1691c3c92a19e476adb0cf0569e0600b21d0a", func := "lambent/lambentlaw16.InvertArgs", spec := "invertArgs", inPlace := ["internal/bytealg.IndexByteString", "internal/bytealg.IndexString"], unfollowed := true, recurses := true, named := ["internal/bytealg.MaxLen"], loops := true, plainKeys := false, apart := false }
def InvertArgsSaid : Prop := invertArgsRow.holds Tryz.pinned (OpenSpec.ofChange invertArgsSpec)

/-- ITS FALSE NEIGHBOUR: 'it returns false'. Refute it at one input. -/
def invertArgsWrong : ChangeSpec := { name := "invertArgs", fn := fun _ => fun
  | [d1, d2, d3, d4] => { results := [.lit (.bool false)], args := [d1, d2, d3, d4] }
  | _ => none }
def InvertArgsWrongFalsely : Prop := invertArgsRow.holds Tryz.pinned (OpenSpec.ofChange invertArgsWrong)

/-- 'lambentlaw16.InvertHolds': WHATEVER THE INPUT: true; the input reads as it did. -/
def invertHoldsSpec : ChangeSpec := { name := "invertHolds", fn := fun _ => fun
  | [d1, d2, d3, d4] => { results := [.lit (.bool true)], args := [d1, d2, d3, d4] }
  | _ => none }
def invertHoldsRow : OpenClaim := { program := "ytdpjhpfjmjhhkaagreat", sum := "fd2ae177712a469017f0815006e1691c3c92a19e476adb0cf0569e0600b21d0a", func := "lambent/lambentlaw16.InvertHolds", spec := "invertHolds", inPlace := ["internal/bytealg.IndexByteString", "internal/bytealg.IndexString"], unfollowed := true, recurses := true, named := ["internal/bytealg.MaxLen"], loops := true, plainKeys := false, apart := false }
def InvertHoldsSaid : Prop := invertHoldsRow.holds Tryz.pinned (OpenSpec.ofChange invertHoldsSpec)

/-- ITS FALSE NEIGHBOUR: 'it returns false'. Refute it at one input. -/
def invertHoldsWrong : ChangeSpec := { name := "invertHolds", fn := fun _ => fun
  | [d1, d2, d3, d4] => { results := [.lit (.bool false)], args := [d1, d2, d3, d4] }
  | _ => none }
def InvertHoldsWrongFalsely : Prop := invertHoldsRow.holds Tryz.pinned (OpenSpec.ofChange invertHoldsWrong)

/-- 'lambentlaw17.UnifyOne': WHATEVER THE INPUT: true; the input reads as it did. -/
def unifyOneSpec : ChangeSpec := { name := "unifyOne", fn := fun _ => fun
  | [d1, d2, d3, d4] => { results := [.lit (.bool true)], args := [d1, d2, d3, d4] }
  | _ => none }
def unifyOneRow : OpenClaim := { program := "ytdpjhpfjmjhhkaagreat", sum := "fd2ae177712a469017f0815006e1691c3c92a19e476adb0cf0569e0600b21d0a", func := "lambent/lambentlaw17.UnifyOne", spec := "unifyOne", inPlace := ["internal/bytealg.IndexByteString", "internal/bytealg.IndexString"], unfollowed := true, recurses := true, named := ["internal/bytealg.MaxLen"], loops := true, plainKeys := false, apart := false }
def UnifyOneSaid : Prop := unifyOneRow.holds Tryz.pinned (OpenSpec.ofChange unifyOneSpec)

/-- ITS FALSE NEIGHBOUR: 'it returns false'. Refute it at one input. -/
def unifyOneWrong : ChangeSpec := { name := "unifyOne", fn := fun _ => fun
  | [d1, d2, d3, d4] => { results := [.lit (.bool false)], args := [d1, d2, d3, d4] }
  | _ => none }
def UnifyOneWrongFalsely : Prop := unifyOneRow.holds Tryz.pinned (OpenSpec.ofChange unifyOneWrong)

/-- 'lambentlaw17.UnifyOthers': WHATEVER THE INPUT: true; the input reads as it did. -/
def unifyOthersSpec : ChangeSpec := { name := "unifyOthers", fn := fun _ => fun
  | [d1, d2, d3] => { results := [.lit (.bool true)], args := [d1, d2, d3] }
  | _ => none }
def unifyOthersRow : OpenClaim := { program := "ytdpjhpfjmjhhkaagreat", sum := "fd2ae177712a469017f0815006e1691c3c92a19e476adb0cf0569e0600b21d0a", func := "lambent/lambentlaw17.UnifyOthers", spec := "unifyOthers", inPlace := ["internal/bytealg.IndexByteString", "internal/bytealg.IndexString"], unfollowed := true, recurses := true, named := ["internal/bytealg.MaxLen"], loops := true, plainKeys := false, apart := false }
def UnifyOthersSaid : Prop := unifyOthersRow.holds Tryz.pinned (OpenSpec.ofChange unifyOthersSpec)

/-- ITS FALSE NEIGHBOUR: 'it returns false'. Refute it at one input. -/
def unifyOthersWrong : ChangeSpec := { name := "unifyOthers", fn := fun _ => fun
  | [d1, d2, d3] => { results := [.lit (.bool false)], args := [d1, d2, d3] }
  | _ => none }
def UnifyOthersWrongFalsely : Prop := unifyOthersRow.holds Tryz.pinned (OpenSpec.ofChange unifyOthersWrong)

/-- 'lambentlaw17.UnifyLevels': WHATEVER THE INPUT: true; the input reads as it did. -/
def unifyLevelsSpec : ChangeSpec := { name := "unifyLevels", fn := fun _ => fun
  | [d1, d2, d3, d4] => { results := [.lit (.bool true)], args := [d1, d2, d3, d4] }
  | _ => none }
def unifyLevelsRow : OpenClaim := { program := "ytdpjhpfjmjhhkaagreat", sum := "fd2ae177712a469017f0815006e1691c3c92a19e476adb0cf0569e0600b21d0a", func := "lambent/lambentlaw17.UnifyLevels", spec := "unifyLevels", inPlace := ["internal/bytealg.IndexByteString", "internal/bytealg.IndexString"], unfollowed := true, recurses := true, named := ["internal/bytealg.MaxLen"], loops := true, plainKeys := false, apart := false }
def UnifyLevelsSaid : Prop := unifyLevelsRow.holds Tryz.pinned (OpenSpec.ofChange unifyLevelsSpec)

/-- ITS FALSE NEIGHBOUR: 'it returns false'. Refute it at one input. -/
def unifyLevelsWrong : ChangeSpec := { name := "unifyLevels", fn := fun _ => fun
  | [d1, d2, d3, d4] => { results := [.lit (.bool false)], args := [d1, d2, d3, d4] }
  | _ => none }
def UnifyLevelsWrongFalsely : Prop := unifyLevelsRow.holds Tryz.pinned (OpenSpec.ofChange unifyLevelsWrong)

/-- 'lambentlaw25.IndexFails': WHATEVER THE INPUT: true; the input reads as it did. -/
def indexFailsSpec : ChangeSpec := { name := "indexFails", fn := fun _ => fun
  | [d1, d2, d3] => { results := [.lit (.bool true)], args := [d1, d2, d3] }
  | _ => none }
def indexFailsRow : OpenClaim := { program := "ytdpjhpfjmjhhkaagreat", sum := "fd2ae177712a469017f0815006e1691c3c92a19e476adb0cf0569e0600b21d0a", func := "lambent/lambentlaw25.IndexFails", spec := "indexFails", inPlace := ["internal/bytealg.IndexByteString", "internal/bytealg.IndexString"], unfollowed := true, recurses := true, named := ["internal/bytealg.MaxLen"], loops := true, plainKeys := false, apart := false }
def IndexFailsSaid : Prop := indexFailsRow.holds Tryz.pinned (OpenSpec.ofChange indexFailsSpec)

/-- ITS FALSE NEIGHBOUR: 'it returns false'. Refute it at one input. -/
def indexFailsWrong : ChangeSpec := { name := "indexFails", fn := fun _ => fun
  | [d1, d2, d3] => { results := [.lit (.bool false)], args := [d1, d2, d3] }
  | _ => none }
def IndexFailsWrongFalsely : Prop := indexFailsRow.holds Tryz.pinned (OpenSpec.ofChange indexFailsWrong)

/- THE SECOND FORM. 'bulk': how many values and letters a reading holds, each counted each time it is reached (what is shared counts as often as it is met; a slice's spare places count too). A statement '..UptoSaid' is the law's where the arguments, and the package variables that the reading takes, are together of bulk at most 1048576: NARROWER than '..Said'. Prove '..Said' where nothing that the law and all that it calls make is longer than what came in: it says more and counts as full. Else prove '..UptoSaid'. A law counts once. -/
mutual
def uptoBulk {H : Type} : DataW H → Nat
  | .lit (.string bytes) => bytes.length + 1
  | .lit _ => 1
  | .nil => 1
  | .ptr d => uptoBulk d + 1
  | .slice elems spare => uptoBulkAll elems + uptoBulkAll spare + 1
  | .agg parts => uptoBulkAll parts + 1
  | .iface _ d => uptoBulk d + 1
  | .map entries => uptoBulkEntries entries + 1
  | .held _ => 1
def uptoBulkAll {H : Type} : List (DataW H) → Nat
  | [] => 0
  | d :: r => uptoBulk d + uptoBulkAll r
def uptoBulkEntries {H : Type} : List (Lit × DataW H) → Nat
  | [] => 0
  | x :: r => uptoBulkEntry x + uptoBulkEntries r
def uptoBulkEntry {H : Type} : Lit × DataW H → Nat
  | (.string bytes, d) => bytes.length + uptoBulk d + 1
  | (_, d) => uptoBulk d + 1
 end
def uptoSmall : (H : Type) → List (DataW H) → Bool := fun _ ds => decide (uptoBulkAll ds ≤ 1048576)
def OpenSpec.upto (s : _root_.Go.ChangeSpec) : _root_.Go.OpenSpec := { _root_.Go.OpenSpec.ofChange s with cond := some uptoSmall }

/-- 'lambentlaw16.InvertArgs', WHERE WHAT IT READS IS OF BULK AT MOST 1048576: true; the input reads as it did. -/
def invertArgsUptoRow : OpenClaim := { program := "ytdpjhpfjmjhhkaagreat", sum := "fd2ae177712a469017f0815006e1691c3c92a19e476adb0cf0569e0600b21d0a", func := "lambent/lambentlaw16.InvertArgs", spec := "invertArgs", inPlace := ["internal/bytealg.IndexByteString", "internal/bytealg.IndexString"], unfollowed := true, recurses := true, named := ["internal/bytealg.MaxLen"], loops := true, plainKeys := false, apart := false, narrowed := true }
def InvertArgsUptoSaid : Prop := invertArgsUptoRow.holds Tryz.pinned (OpenSpec.upto invertArgsSpec)

/-- 'lambentlaw16.InvertHolds', WHERE WHAT IT READS IS OF BULK AT MOST 1048576: true; the input reads as it did. -/
def invertHoldsUptoRow : OpenClaim := { program := "ytdpjhpfjmjhhkaagreat", sum := "fd2ae177712a469017f0815006e1691c3c92a19e476adb0cf0569e0600b21d0a", func := "lambent/lambentlaw16.InvertHolds", spec := "invertHolds", inPlace := ["internal/bytealg.IndexByteString", "internal/bytealg.IndexString"], unfollowed := true, recurses := true, named := ["internal/bytealg.MaxLen"], loops := true, plainKeys := false, apart := false, narrowed := true }
def InvertHoldsUptoSaid : Prop := invertHoldsUptoRow.holds Tryz.pinned (OpenSpec.upto invertHoldsSpec)

/-- 'lambentlaw17.UnifyOne', WHERE WHAT IT READS IS OF BULK AT MOST 1048576: true; the input reads as it did. -/
def unifyOneUptoRow : OpenClaim := { program := "ytdpjhpfjmjhhkaagreat", sum := "fd2ae177712a469017f0815006e1691c3c92a19e476adb0cf0569e0600b21d0a", func := "lambent/lambentlaw17.UnifyOne", spec := "unifyOne", inPlace := ["internal/bytealg.IndexByteString", "internal/bytealg.IndexString"], unfollowed := true, recurses := true, named := ["internal/bytealg.MaxLen"], loops := true, plainKeys := false, apart := false, narrowed := true }
def UnifyOneUptoSaid : Prop := unifyOneUptoRow.holds Tryz.pinned (OpenSpec.upto unifyOneSpec)

/-- 'lambentlaw17.UnifyOthers', WHERE WHAT IT READS IS OF BULK AT MOST 1048576: true; the input reads as it did. -/
def unifyOthersUptoRow : OpenClaim := { program := "ytdpjhpfjmjhhkaagreat", sum := "fd2ae177712a469017f0815006e1691c3c92a19e476adb0cf0569e0600b21d0a", func := "lambent/lambentlaw17.UnifyOthers", spec := "unifyOthers", inPlace := ["internal/bytealg.IndexByteString", "internal/bytealg.IndexString"], unfollowed := true, recurses := true, named := ["internal/bytealg.MaxLen"], loops := true, plainKeys := false, apart := false, narrowed := true }
def UnifyOthersUptoSaid : Prop := unifyOthersUptoRow.holds Tryz.pinned (OpenSpec.upto unifyOthersSpec)

/-- 'lambentlaw17.UnifyLevels', WHERE WHAT IT READS IS OF BULK AT MOST 1048576: true; the input reads as it did. -/
def unifyLevelsUptoRow : OpenClaim := { program := "ytdpjhpfjmjhhkaagreat", sum := "fd2ae177712a469017f0815006e1691c3c92a19e476adb0cf0569e0600b21d0a", func := "lambent/lambentlaw17.UnifyLevels", spec := "unifyLevels", inPlace := ["internal/bytealg.IndexByteString", "internal/bytealg.IndexString"], unfollowed := true, recurses := true, named := ["internal/bytealg.MaxLen"], loops := true, plainKeys := false, apart := false, narrowed := true }
def UnifyLevelsUptoSaid : Prop := unifyLevelsUptoRow.holds Tryz.pinned (OpenSpec.upto unifyLevelsSpec)

/-- 'lambentlaw25.IndexFails', WHERE WHAT IT READS IS OF BULK AT MOST 1048576: true; the input reads as it did. -/
def indexFailsUptoRow : OpenClaim := { program := "ytdpjhpfjmjhhkaagreat", sum := "fd2ae177712a469017f0815006e1691c3c92a19e476adb0cf0569e0600b21d0a", func := "lambent/lambentlaw25.IndexFails", spec := "indexFails", inPlace := ["internal/bytealg.IndexByteString", "internal/bytealg.IndexString"], unfollowed := true, recurses := true, named := ["internal/bytealg.MaxLen"], loops := true, plainKeys := false, apart := false, narrowed := true }
def IndexFailsUptoSaid : Prop := indexFailsUptoRow.holds Tryz.pinned (OpenSpec.upto indexFailsSpec)

end Rows
end Go.Proofs.YtdpjhpfjmjhhkaaGreat
