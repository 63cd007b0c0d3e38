/-
  NARROWER THAN 'FOR EVERY INPUT', by the rows' own cells (each row's printed sentence says how): InvertPrunes: loops · InvertOthers: loops.
  DERIVED. THE GIVEN ROWS OF THIS SEAT. 2 by the template 'for every input the law returns true; each argument reads behind the call as it read before'; 0 by the template 'total and deterministic' (their statements: YtbdappbmlnpogaaTotals.lean).
  GIVEN WITH THE SEED: the statements are not yours to turn. If you find one false, say at which input.
  Laid BY PROGRAM, IN A SANDBOX (cutbox-rows.mjs): the forced cells as the released guide's own fill.sh prints them over the translation 60a1d23fcd7cf960… (all of the seat's roots in one cut). By AI agents, Wed Nov 11 2026. No macro, syntax, notation, axiom, sorry.
-/
import Derived.Test.YtbdappbmlnpogaaChecked
import GoSem.Claim
import GoSem.ClaimJoined
import GoSem.ClaimMapViews
import Derived.JoinedTies
import Derived.KernelRfl
namespace Go.Proofs.Ytbdappbmlnpogaa
/- THE CELL 'sum', in the pinned program and in every row, IS THE sha256 OF THE DUMP (.gsa) THAT YtbdappbmlnpogaaProg.lean LOADS. Nothing in Lean hashes anything: it is a label: what it is worth is what the hold of that sum in a sandbox is worth. -/
noncomputable def Try.pinned : Pinned := { name := "ytbdappbmlnpogaa", sum := "60a1d23fcd7cf9603307b79f9d6e7060911d5ecd52d87315c7249f0d59a71ca1", checked := Try.checked }
namespace Rows
def none {H : Type} : Left H := { results := [], args := [] }

/-- 'lambentlaw16.InvertPrunes': WHATEVER THE INPUT: true; the input reads as it did. -/
def invertPrunesSpec : ChangeSpec := { name := "invertPrunes", fn := fun _ => fun
  | [d1, d2, d3, d4] => { results := [.lit (.bool true)], args := [d1, d2, d3, d4] }
  | _ => none }
def invertPrunesRow : OpenClaim := { program := "ytbdappbmlnpogaa", sum := "60a1d23fcd7cf9603307b79f9d6e7060911d5ecd52d87315c7249f0d59a71ca1", func := "lambent/lambentlaw16.InvertPrunes", spec := "invertPrunes", inPlace := ["internal/bytealg.IndexByteString", "internal/bytealg.IndexString"], unfollowed := true, recurses := true, named := ["internal/bytealg.MaxLen"], loops := true, apart := false }
def InvertPrunesSaid : Prop := invertPrunesRow.holds Try.pinned (OpenSpec.ofChange invertPrunesSpec)

/-- ITS FALSE NEIGHBOUR: 'it returns false'. Refute it at one input. -/
def invertPrunesWrong : ChangeSpec := { name := "invertPrunes", fn := fun _ => fun
  | [d1, d2, d3, d4] => { results := [.lit (.bool false)], args := [d1, d2, d3, d4] }
  | _ => none }
def InvertPrunesWrongFalsely : Prop := invertPrunesRow.holds Try.pinned (OpenSpec.ofChange invertPrunesWrong)

/-- 'lambentlaw16.InvertOthers': WHATEVER THE INPUT: true; the input reads as it did. -/
def invertOthersSpec : ChangeSpec := { name := "invertOthers", fn := fun _ => fun
  | [d1, d2, d3, d4] => { results := [.lit (.bool true)], args := [d1, d2, d3, d4] }
  | _ => none }
def invertOthersRow : OpenClaim := { program := "ytbdappbmlnpogaa", sum := "60a1d23fcd7cf9603307b79f9d6e7060911d5ecd52d87315c7249f0d59a71ca1", func := "lambent/lambentlaw16.InvertOthers", spec := "invertOthers", inPlace := ["internal/bytealg.IndexByteString", "internal/bytealg.IndexString"], unfollowed := true, recurses := true, named := ["internal/bytealg.MaxLen"], loops := true, apart := false }
def InvertOthersSaid : Prop := invertOthersRow.holds Try.pinned (OpenSpec.ofChange invertOthersSpec)

/-- ITS FALSE NEIGHBOUR: 'it returns false'. Refute it at one input. -/
def invertOthersWrong : ChangeSpec := { name := "invertOthers", fn := fun _ => fun
  | [d1, d2, d3, d4] => { results := [.lit (.bool false)], args := [d1, d2, d3, d4] }
  | _ => none }
def InvertOthersWrongFalsely : Prop := invertOthersRow.holds Try.pinned (OpenSpec.ofChange invertOthersWrong)

/- THE SECOND FORM. 'bulk': how many values and letters a reading holds, each counted each time it is reached (what is shared counts as often as it is met; a slice's spare places count too). A statement '..UptoSaid' is the law's where the arguments, and the package variables that the reading takes, are together of bulk at most 1048576: NARROWER than '..Said'. Prove '..Said' where nothing that the law and all that it calls make is longer than what came in: it says more and counts as full. Else prove '..UptoSaid'. A law counts once. -/
mutual
def uptoBulk {H : Type} : DataW H → Nat
  | .lit (.string bytes) => bytes.length + 1
  | .lit _ => 1
  | .nil => 1
  | .ptr d => uptoBulk d + 1
  | .slice elems spare => uptoBulkAll elems + uptoBulkAll spare + 1
  | .agg parts => uptoBulkAll parts + 1
  | .iface _ d => uptoBulk d + 1
  | .map entries => uptoBulkEntries entries + 1
  | .held _ => 1
def uptoBulkAll {H : Type} : List (DataW H) → Nat
  | [] => 0
  | d :: r => uptoBulk d + uptoBulkAll r
def uptoBulkEntries {H : Type} : List (Lit × DataW H) → Nat
  | [] => 0
  | x :: r => uptoBulkEntry x + uptoBulkEntries r
def uptoBulkEntry {H : Type} : Lit × DataW H → Nat
  | (.string bytes, d) => bytes.length + uptoBulk d + 1
  | (_, d) => uptoBulk d + 1
 end
def uptoSmall : (H : Type) → List (DataW H) → Bool := fun _ ds => decide (uptoBulkAll ds ≤ 1048576)
def OpenSpec.upto (s : _root_.Go.ChangeSpec) : _root_.Go.OpenSpec := { _root_.Go.OpenSpec.ofChange s with cond := some uptoSmall }

/-- 'lambentlaw16.InvertPrunes', WHERE WHAT IT READS IS OF BULK AT MOST 1048576: true; the input reads as it did. -/
def invertPrunesUptoRow : OpenClaim := { program := "ytbdappbmlnpogaa", sum := "60a1d23fcd7cf9603307b79f9d6e7060911d5ecd52d87315c7249f0d59a71ca1", func := "lambent/lambentlaw16.InvertPrunes", spec := "invertPrunes", inPlace := ["internal/bytealg.IndexByteString", "internal/bytealg.IndexString"], unfollowed := true, recurses := true, named := ["internal/bytealg.MaxLen"], loops := true, apart := false, narrowed := true }
def InvertPrunesUptoSaid : Prop := invertPrunesUptoRow.holds Try.pinned (OpenSpec.upto invertPrunesSpec)

/-- 'lambentlaw16.InvertOthers', WHERE WHAT IT READS IS OF BULK AT MOST 1048576: true; the input reads as it did. -/
def invertOthersUptoRow : OpenClaim := { program := "ytbdappbmlnpogaa", sum := "60a1d23fcd7cf9603307b79f9d6e7060911d5ecd52d87315c7249f0d59a71ca1", func := "lambent/lambentlaw16.InvertOthers", spec := "invertOthers", inPlace := ["internal/bytealg.IndexByteString", "internal/bytealg.IndexString"], unfollowed := true, recurses := true, named := ["internal/bytealg.MaxLen"], loops := true, apart := false, narrowed := true }
def InvertOthersUptoSaid : Prop := invertOthersUptoRow.holds Try.pinned (OpenSpec.upto invertOthersSpec)

end Rows
end Go.Proofs.Ytbdappbmlnpogaa
