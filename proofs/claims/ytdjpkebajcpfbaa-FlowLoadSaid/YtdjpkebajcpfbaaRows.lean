/-
  No cell of these rows narrows 'for every input' (looked for: loops, veiled, ifaces, maps, wideKeys, modest, calm, conditions, laid).
  DERIVED. THE GIVEN ROWS OF THIS SEAT. 9 by the template 'for every input the law returns true; each argument reads behind the call as it read before'; 0 by the template 'total and deterministic' (their statements: YtdjpkebajcpfbaaTotals.lean).
  GIVEN WITH THE SEED: the statements are not yours to turn. If you find one false, say at which input.
  Laid BY PROGRAM, IN A SANDBOX (cutbox-rows.mjs): the forced cells as the released guide's own fill.sh prints them over the translation 20e7382b3c1f513f… (all of the seat's roots in one cut). By AI agents, Wed Nov 11 2026. No macro, syntax, notation, axiom, sorry.
-/
import Derived.Test.YtdjpkebajcpfbaaChecked
import GoSem.Claim
import GoSem.ClaimJoined
import GoSem.ClaimMapViews
import Derived.JoinedTies
import Derived.KernelRfl
namespace Go.Proofs.Ytdjpkebajcpfbaa
/- THE CELL 'sum', in the pinned program and in every row, IS THE sha256 OF THE DUMP (.gsa) THAT YtdjpkebajcpfbaaProg.lean LOADS. Nothing in Lean hashes anything: it is a label: what it is worth is what the hold of that sum in a sandbox is worth. -/
noncomputable def Try.pinned : Pinned := { name := "ytdjpkebajcpfbaa", sum := "20e7382b3c1f513f5bc5eaf4fe4e76853995f36b14e7272335717509e9d73668", checked := Try.checked }
namespace Rows
def none {H : Type} : Left H := { results := [], args := [] }

/-- 'ontimelaw41.TasksetValid': WHATEVER THE INPUT: true; the input reads as it did. -/
def tasksetValidSpec : ChangeSpec := { name := "tasksetValid", fn := fun _ => fun
  | [d] => { results := [.lit (.bool true)], args := [d] }
  | _ => none }
def tasksetValidRow : OpenClaim := { program := "ytdjpkebajcpfbaa", sum := "20e7382b3c1f513f5bc5eaf4fe4e76853995f36b14e7272335717509e9d73668", func := "ontime/ontimelaw41.TasksetValid", spec := "tasksetValid", unfollowed := true, recurses := true, apart := false }
def TasksetValidSaid : Prop := tasksetValidRow.holds Try.pinned (OpenSpec.ofChange tasksetValidSpec)

/-- ITS FALSE NEIGHBOUR: 'it returns false'. Refute it at one input. -/
def tasksetValidWrong : ChangeSpec := { name := "tasksetValid", fn := fun _ => fun
  | [d] => { results := [.lit (.bool false)], args := [d] }
  | _ => none }
def TasksetValidWrongFalsely : Prop := tasksetValidRow.holds Try.pinned (OpenSpec.ofChange tasksetValidWrong)

/-- 'ontimelaw41.TasksetDemand': WHATEVER THE INPUT: true; the input reads as it did. -/
def tasksetDemandSpec : ChangeSpec := { name := "tasksetDemand", fn := fun _ => fun
  | [d1, d2] => { results := [.lit (.bool true)], args := [d1, d2] }
  | _ => none }
def tasksetDemandRow : OpenClaim := { program := "ytdjpkebajcpfbaa", sum := "20e7382b3c1f513f5bc5eaf4fe4e76853995f36b14e7272335717509e9d73668", func := "ontime/ontimelaw41.TasksetDemand", spec := "tasksetDemand", unfollowed := true, recurses := true, apart := false }
def TasksetDemandSaid : Prop := tasksetDemandRow.holds Try.pinned (OpenSpec.ofChange tasksetDemandSpec)

/-- ITS FALSE NEIGHBOUR: 'it returns false'. Refute it at one input. -/
def tasksetDemandWrong : ChangeSpec := { name := "tasksetDemand", fn := fun _ => fun
  | [d1, d2] => { results := [.lit (.bool false)], args := [d1, d2] }
  | _ => none }
def TasksetDemandWrongFalsely : Prop := tasksetDemandRow.holds Try.pinned (OpenSpec.ofChange tasksetDemandWrong)

/-- 'ontimelaw41.TasksetHyper': WHATEVER THE INPUT: true; the input reads as it did. -/
def tasksetHyperSpec : ChangeSpec := { name := "tasksetHyper", fn := fun _ => fun
  | [d] => { results := [.lit (.bool true)], args := [d] }
  | _ => none }
def tasksetHyperRow : OpenClaim := { program := "ytdjpkebajcpfbaa", sum := "20e7382b3c1f513f5bc5eaf4fe4e76853995f36b14e7272335717509e9d73668", func := "ontime/ontimelaw41.TasksetHyper", spec := "tasksetHyper", unfollowed := true, recurses := true, apart := false }
def TasksetHyperSaid : Prop := tasksetHyperRow.holds Try.pinned (OpenSpec.ofChange tasksetHyperSpec)

/-- ITS FALSE NEIGHBOUR: 'it returns false'. Refute it at one input. -/
def tasksetHyperWrong : ChangeSpec := { name := "tasksetHyper", fn := fun _ => fun
  | [d] => { results := [.lit (.bool false)], args := [d] }
  | _ => none }
def TasksetHyperWrongFalsely : Prop := tasksetHyperRow.holds Try.pinned (OpenSpec.ofChange tasksetHyperWrong)

/-- 'ontimelaw41.TasksetReleases': WHATEVER THE INPUT: true; the input reads as it did. -/
def tasksetReleasesSpec : ChangeSpec := { name := "tasksetReleases", fn := fun _ => fun
  | [d1, d2, d3] => { results := [.lit (.bool true)], args := [d1, d2, d3] }
  | _ => none }
def tasksetReleasesRow : OpenClaim := { program := "ytdjpkebajcpfbaa", sum := "20e7382b3c1f513f5bc5eaf4fe4e76853995f36b14e7272335717509e9d73668", func := "ontime/ontimelaw41.TasksetReleases", spec := "tasksetReleases", unfollowed := true, recurses := true, apart := false }
def TasksetReleasesSaid : Prop := tasksetReleasesRow.holds Try.pinned (OpenSpec.ofChange tasksetReleasesSpec)

/-- ITS FALSE NEIGHBOUR: 'it returns false'. Refute it at one input. -/
def tasksetReleasesWrong : ChangeSpec := { name := "tasksetReleases", fn := fun _ => fun
  | [d1, d2, d3] => { results := [.lit (.bool false)], args := [d1, d2, d3] }
  | _ => none }
def TasksetReleasesWrongFalsely : Prop := tasksetReleasesRow.holds Try.pinned (OpenSpec.ofChange tasksetReleasesWrong)

/-- 'ontimelaw41.TasksetApart': WHATEVER THE INPUT: true; the input reads as it did. -/
def tasksetApartSpec : ChangeSpec := { name := "tasksetApart", fn := fun _ => fun
  | [d1, d2, d3] => { results := [.lit (.bool true)], args := [d1, d2, d3] }
  | _ => none }
def tasksetApartRow : OpenClaim := { program := "ytdjpkebajcpfbaa", sum := "20e7382b3c1f513f5bc5eaf4fe4e76853995f36b14e7272335717509e9d73668", func := "ontime/ontimelaw41.TasksetApart", spec := "tasksetApart", unfollowed := true, recurses := true, apart := false }
def TasksetApartSaid : Prop := tasksetApartRow.holds Try.pinned (OpenSpec.ofChange tasksetApartSpec)

/-- ITS FALSE NEIGHBOUR: 'it returns false'. Refute it at one input. -/
def tasksetApartWrong : ChangeSpec := { name := "tasksetApart", fn := fun _ => fun
  | [d1, d2, d3] => { results := [.lit (.bool false)], args := [d1, d2, d3] }
  | _ => none }
def TasksetApartWrongFalsely : Prop := tasksetApartRow.holds Try.pinned (OpenSpec.ofChange tasksetApartWrong)

/-- 'ontimelaw41.TasksetOverload': WHATEVER THE INPUT: true; the input reads as it did. -/
def tasksetOverloadSpec : ChangeSpec := { name := "tasksetOverload", fn := fun _ => fun
  | [d1, d2] => { results := [.lit (.bool true)], args := [d1, d2] }
  | _ => none }
def tasksetOverloadRow : OpenClaim := { program := "ytdjpkebajcpfbaa", sum := "20e7382b3c1f513f5bc5eaf4fe4e76853995f36b14e7272335717509e9d73668", func := "ontime/ontimelaw41.TasksetOverload", spec := "tasksetOverload", unfollowed := true, recurses := true, apart := false }
def TasksetOverloadSaid : Prop := tasksetOverloadRow.holds Try.pinned (OpenSpec.ofChange tasksetOverloadSpec)

/-- ITS FALSE NEIGHBOUR: 'it returns false'. Refute it at one input. -/
def tasksetOverloadWrong : ChangeSpec := { name := "tasksetOverload", fn := fun _ => fun
  | [d1, d2] => { results := [.lit (.bool false)], args := [d1, d2] }
  | _ => none }
def TasksetOverloadWrongFalsely : Prop := tasksetOverloadRow.holds Try.pinned (OpenSpec.ofChange tasksetOverloadWrong)

/-- 'ontimelaw41.TasksetMonotone': WHATEVER THE INPUT: true; the input reads as it did. -/
def tasksetMonotoneSpec : ChangeSpec := { name := "tasksetMonotone", fn := fun _ => fun
  | [d1, d2, d3] => { results := [.lit (.bool true)], args := [d1, d2, d3] }
  | _ => none }
def tasksetMonotoneRow : OpenClaim := { program := "ytdjpkebajcpfbaa", sum := "20e7382b3c1f513f5bc5eaf4fe4e76853995f36b14e7272335717509e9d73668", func := "ontime/ontimelaw41.TasksetMonotone", spec := "tasksetMonotone", unfollowed := true, recurses := true, apart := false }
def TasksetMonotoneSaid : Prop := tasksetMonotoneRow.holds Try.pinned (OpenSpec.ofChange tasksetMonotoneSpec)

/-- ITS FALSE NEIGHBOUR: 'it returns false'. Refute it at one input. -/
def tasksetMonotoneWrong : ChangeSpec := { name := "tasksetMonotone", fn := fun _ => fun
  | [d1, d2, d3] => { results := [.lit (.bool false)], args := [d1, d2, d3] }
  | _ => none }
def TasksetMonotoneWrongFalsely : Prop := tasksetMonotoneRow.holds Try.pinned (OpenSpec.ofChange tasksetMonotoneWrong)

/-- 'ontimelaw41.TasksetLoad': WHATEVER THE INPUT: true; the input reads as it did. -/
def tasksetLoadSpec : ChangeSpec := { name := "tasksetLoad", fn := fun _ => fun
  | [d1, d2] => { results := [.lit (.bool true)], args := [d1, d2] }
  | _ => none }
def tasksetLoadRow : OpenClaim := { program := "ytdjpkebajcpfbaa", sum := "20e7382b3c1f513f5bc5eaf4fe4e76853995f36b14e7272335717509e9d73668", func := "ontime/ontimelaw41.TasksetLoad", spec := "tasksetLoad", unfollowed := true, recurses := true, apart := false }
def TasksetLoadSaid : Prop := tasksetLoadRow.holds Try.pinned (OpenSpec.ofChange tasksetLoadSpec)

/-- ITS FALSE NEIGHBOUR: 'it returns false'. Refute it at one input. -/
def tasksetLoadWrong : ChangeSpec := { name := "tasksetLoad", fn := fun _ => fun
  | [d1, d2] => { results := [.lit (.bool false)], args := [d1, d2] }
  | _ => none }
def TasksetLoadWrongFalsely : Prop := tasksetLoadRow.holds Try.pinned (OpenSpec.ofChange tasksetLoadWrong)

/-- 'ontimelaw47.FlowLoad': WHATEVER THE INPUT: true; the input reads as it did. -/
def flowLoadSpec : ChangeSpec := { name := "flowLoad", fn := fun _ => fun
  | [d1, d2] => { results := [.lit (.bool true)], args := [d1, d2] }
  | _ => none }
def flowLoadRow : OpenClaim := { program := "ytdjpkebajcpfbaa", sum := "20e7382b3c1f513f5bc5eaf4fe4e76853995f36b14e7272335717509e9d73668", func := "ontime/ontimelaw47.FlowLoad", spec := "flowLoad", unfollowed := true, recurses := true, apart := false }
def FlowLoadSaid : Prop := flowLoadRow.holds Try.pinned (OpenSpec.ofChange flowLoadSpec)

/-- ITS FALSE NEIGHBOUR: 'it returns false'. Refute it at one input. -/
def flowLoadWrong : ChangeSpec := { name := "flowLoad", fn := fun _ => fun
  | [d1, d2] => { results := [.lit (.bool false)], args := [d1, d2] }
  | _ => none }
def FlowLoadWrongFalsely : Prop := flowLoadRow.holds Try.pinned (OpenSpec.ofChange flowLoadWrong)

/- THE SECOND FORM. 'bulk': how many values and letters a reading holds, each counted each time it is reached (what is shared counts as often as it is met; a slice's spare places count too). A statement '..UptoSaid' is the law's where the arguments, and the package variables that the reading takes, are together of bulk at most 1048576: NARROWER than '..Said'. Prove '..Said' where nothing that the law and all that it calls make is longer than what came in: it says more and counts as full. Else prove '..UptoSaid'. A law counts once. -/
mutual
def uptoBulk {H : Type} : DataW H → Nat
  | .lit (.string bytes) => bytes.length + 1
  | .lit _ => 1
  | .nil => 1
  | .ptr d => uptoBulk d + 1
  | .slice elems spare => uptoBulkAll elems + uptoBulkAll spare + 1
  | .agg parts => uptoBulkAll parts + 1
  | .iface _ d => uptoBulk d + 1
  | .map entries => uptoBulkEntries entries + 1
  | .held _ => 1
def uptoBulkAll {H : Type} : List (DataW H) → Nat
  | [] => 0
  | d :: r => uptoBulk d + uptoBulkAll r
def uptoBulkEntries {H : Type} : List (Lit × DataW H) → Nat
  | [] => 0
  | x :: r => uptoBulkEntry x + uptoBulkEntries r
def uptoBulkEntry {H : Type} : Lit × DataW H → Nat
  | (.string bytes, d) => bytes.length + uptoBulk d + 1
  | (_, d) => uptoBulk d + 1
 end
def uptoSmall : (H : Type) → List (DataW H) → Bool := fun _ ds => decide (uptoBulkAll ds ≤ 1048576)
def OpenSpec.upto (s : _root_.Go.ChangeSpec) : _root_.Go.OpenSpec := { _root_.Go.OpenSpec.ofChange s with cond := some uptoSmall }

/-- 'ontimelaw41.TasksetValid', WHERE WHAT IT READS IS OF BULK AT MOST 1048576: true; the input reads as it did. -/
def tasksetValidUptoRow : OpenClaim := { program := "ytdjpkebajcpfbaa", sum := "20e7382b3c1f513f5bc5eaf4fe4e76853995f36b14e7272335717509e9d73668", func := "ontime/ontimelaw41.TasksetValid", spec := "tasksetValid", unfollowed := true, recurses := true, apart := false, narrowed := true }
def TasksetValidUptoSaid : Prop := tasksetValidUptoRow.holds Try.pinned (OpenSpec.upto tasksetValidSpec)

/-- 'ontimelaw41.TasksetDemand', WHERE WHAT IT READS IS OF BULK AT MOST 1048576: true; the input reads as it did. -/
def tasksetDemandUptoRow : OpenClaim := { program := "ytdjpkebajcpfbaa", sum := "20e7382b3c1f513f5bc5eaf4fe4e76853995f36b14e7272335717509e9d73668", func := "ontime/ontimelaw41.TasksetDemand", spec := "tasksetDemand", unfollowed := true, recurses := true, apart := false, narrowed := true }
def TasksetDemandUptoSaid : Prop := tasksetDemandUptoRow.holds Try.pinned (OpenSpec.upto tasksetDemandSpec)

/-- 'ontimelaw41.TasksetHyper', WHERE WHAT IT READS IS OF BULK AT MOST 1048576: true; the input reads as it did. -/
def tasksetHyperUptoRow : OpenClaim := { program := "ytdjpkebajcpfbaa", sum := "20e7382b3c1f513f5bc5eaf4fe4e76853995f36b14e7272335717509e9d73668", func := "ontime/ontimelaw41.TasksetHyper", spec := "tasksetHyper", unfollowed := true, recurses := true, apart := false, narrowed := true }
def TasksetHyperUptoSaid : Prop := tasksetHyperUptoRow.holds Try.pinned (OpenSpec.upto tasksetHyperSpec)

/-- 'ontimelaw41.TasksetReleases', WHERE WHAT IT READS IS OF BULK AT MOST 1048576: true; the input reads as it did. -/
def tasksetReleasesUptoRow : OpenClaim := { program := "ytdjpkebajcpfbaa", sum := "20e7382b3c1f513f5bc5eaf4fe4e76853995f36b14e7272335717509e9d73668", func := "ontime/ontimelaw41.TasksetReleases", spec := "tasksetReleases", unfollowed := true, recurses := true, apart := false, narrowed := true }
def TasksetReleasesUptoSaid : Prop := tasksetReleasesUptoRow.holds Try.pinned (OpenSpec.upto tasksetReleasesSpec)

/-- 'ontimelaw41.TasksetApart', WHERE WHAT IT READS IS OF BULK AT MOST 1048576: true; the input reads as it did. -/
def tasksetApartUptoRow : OpenClaim := { program := "ytdjpkebajcpfbaa", sum := "20e7382b3c1f513f5bc5eaf4fe4e76853995f36b14e7272335717509e9d73668", func := "ontime/ontimelaw41.TasksetApart", spec := "tasksetApart", unfollowed := true, recurses := true, apart := false, narrowed := true }
def TasksetApartUptoSaid : Prop := tasksetApartUptoRow.holds Try.pinned (OpenSpec.upto tasksetApartSpec)

/-- 'ontimelaw41.TasksetOverload', WHERE WHAT IT READS IS OF BULK AT MOST 1048576: true; the input reads as it did. -/
def tasksetOverloadUptoRow : OpenClaim := { program := "ytdjpkebajcpfbaa", sum := "20e7382b3c1f513f5bc5eaf4fe4e76853995f36b14e7272335717509e9d73668", func := "ontime/ontimelaw41.TasksetOverload", spec := "tasksetOverload", unfollowed := true, recurses := true, apart := false, narrowed := true }
def TasksetOverloadUptoSaid : Prop := tasksetOverloadUptoRow.holds Try.pinned (OpenSpec.upto tasksetOverloadSpec)

/-- 'ontimelaw41.TasksetMonotone', WHERE WHAT IT READS IS OF BULK AT MOST 1048576: true; the input reads as it did. -/
def tasksetMonotoneUptoRow : OpenClaim := { program := "ytdjpkebajcpfbaa", sum := "20e7382b3c1f513f5bc5eaf4fe4e76853995f36b14e7272335717509e9d73668", func := "ontime/ontimelaw41.TasksetMonotone", spec := "tasksetMonotone", unfollowed := true, recurses := true, apart := false, narrowed := true }
def TasksetMonotoneUptoSaid : Prop := tasksetMonotoneUptoRow.holds Try.pinned (OpenSpec.upto tasksetMonotoneSpec)

/-- 'ontimelaw41.TasksetLoad', WHERE WHAT IT READS IS OF BULK AT MOST 1048576: true; the input reads as it did. -/
def tasksetLoadUptoRow : OpenClaim := { program := "ytdjpkebajcpfbaa", sum := "20e7382b3c1f513f5bc5eaf4fe4e76853995f36b14e7272335717509e9d73668", func := "ontime/ontimelaw41.TasksetLoad", spec := "tasksetLoad", unfollowed := true, recurses := true, apart := false, narrowed := true }
def TasksetLoadUptoSaid : Prop := tasksetLoadUptoRow.holds Try.pinned (OpenSpec.upto tasksetLoadSpec)

/-- 'ontimelaw47.FlowLoad', WHERE WHAT IT READS IS OF BULK AT MOST 1048576: true; the input reads as it did. -/
def flowLoadUptoRow : OpenClaim := { program := "ytdjpkebajcpfbaa", sum := "20e7382b3c1f513f5bc5eaf4fe4e76853995f36b14e7272335717509e9d73668", func := "ontime/ontimelaw47.FlowLoad", spec := "flowLoad", unfollowed := true, recurses := true, apart := false, narrowed := true }
def FlowLoadUptoSaid : Prop := flowLoadUptoRow.holds Try.pinned (OpenSpec.upto flowLoadSpec)

end Rows
end Go.Proofs.Ytdjpkebajcpfbaa
