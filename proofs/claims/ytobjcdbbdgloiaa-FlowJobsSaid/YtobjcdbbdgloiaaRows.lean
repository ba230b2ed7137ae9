/-
  No cell of these rows narrows 'for every input' (looked for: loops, veiled, ifaces, maps, wideKeys, modest, calm, conditions, laid).
  DERIVED. THE GIVEN ROWS OF THIS SEAT. 8 by the template 'for every input the law returns true; each argument reads behind the call as it read before'; 0 by the template 'total and deterministic' (their statements: YtobjcdbbdgloiaaTotals.lean).
  GIVEN WITH THE SEED: the statements are not yours to turn. If you find one false, say at which input.
  Laid BY PROGRAM, IN A SANDBOX (cutbox-rows.mjs): the forced cells as the released guide's own fill.sh prints them over the translation 6d70888450e6c37d… (all of the seat's roots in one cut). By AI agents, Wed Nov 11 2026. No macro, syntax, notation, axiom, sorry.
-/
import Derived.Test.YtobjcdbbdgloiaaChecked
import GoSem.Claim
import GoSem.ClaimJoined
import GoSem.ClaimMapViews
import Derived.JoinedTies
import Derived.KernelRfl
namespace Go.Proofs.Ytobjcdbbdgloiaa
/- THE CELL 'sum', in the pinned program and in every row, IS THE sha256 OF THE DUMP (.gsa) THAT YtobjcdbbdgloiaaProg.lean LOADS. Nothing in Lean hashes anything: it is a label: what it is worth is what the hold of that sum in a sandbox is worth. -/
noncomputable def Try.pinned : Pinned := { name := "ytobjcdbbdgloiaa", sum := "6d70888450e6c37d5f30ffe8e4f43b9f8ff0419723a826b952360e9cadb6d052", checked := Try.checked }
namespace Rows
def none {H : Type} : Left H := { results := [], args := [] }

/-- 'ontimelaw47.FlowIsMaximal': WHATEVER THE INPUT: true; the input reads as it did. -/
def flowIsMaximalSpec : ChangeSpec := { name := "flowIsMaximal", fn := fun _ => fun
  | [d1, d2, d3] => { results := [.lit (.bool true)], args := [d1, d2, d3] }
  | _ => none }
def flowIsMaximalRow : OpenClaim := { program := "ytobjcdbbdgloiaa", sum := "6d70888450e6c37d5f30ffe8e4f43b9f8ff0419723a826b952360e9cadb6d052", func := "ontime/ontimelaw47.FlowIsMaximal", spec := "flowIsMaximal", unfollowed := true, recurses := true, apart := false }
def FlowIsMaximalSaid : Prop := flowIsMaximalRow.holds Try.pinned (OpenSpec.ofChange flowIsMaximalSpec)

/-- ITS FALSE NEIGHBOUR: 'it returns false'. Refute it at one input. -/
def flowIsMaximalWrong : ChangeSpec := { name := "flowIsMaximal", fn := fun _ => fun
  | [d1, d2, d3] => { results := [.lit (.bool false)], args := [d1, d2, d3] }
  | _ => none }
def FlowIsMaximalWrongFalsely : Prop := flowIsMaximalRow.holds Try.pinned (OpenSpec.ofChange flowIsMaximalWrong)

/-- 'ontimelaw47.FlowEqualsCut': WHATEVER THE INPUT: true; the input reads as it did. -/
def flowEqualsCutSpec : ChangeSpec := { name := "flowEqualsCut", fn := fun _ => fun
  | [d1, d2, d3] => { results := [.lit (.bool true)], args := [d1, d2, d3] }
  | _ => none }
def flowEqualsCutRow : OpenClaim := { program := "ytobjcdbbdgloiaa", sum := "6d70888450e6c37d5f30ffe8e4f43b9f8ff0419723a826b952360e9cadb6d052", func := "ontime/ontimelaw47.FlowEqualsCut", spec := "flowEqualsCut", unfollowed := true, recurses := true, apart := false }
def FlowEqualsCutSaid : Prop := flowEqualsCutRow.holds Try.pinned (OpenSpec.ofChange flowEqualsCutSpec)

/-- ITS FALSE NEIGHBOUR: 'it returns false'. Refute it at one input. -/
def flowEqualsCutWrong : ChangeSpec := { name := "flowEqualsCut", fn := fun _ => fun
  | [d1, d2, d3] => { results := [.lit (.bool false)], args := [d1, d2, d3] }
  | _ => none }
def FlowEqualsCutWrongFalsely : Prop := flowEqualsCutRow.holds Try.pinned (OpenSpec.ofChange flowEqualsCutWrong)

/-- 'ontimelaw47.FlowReverses': WHATEVER THE INPUT: true; the input reads as it did. -/
def flowReversesSpec : ChangeSpec := { name := "flowReverses", fn := fun _ => fun
  | [d1, d2, d3, d4, d5, d6] => { results := [.lit (.bool true)], args := [d1, d2, d3, d4, d5, d6] }
  | _ => none }
def flowReversesRow : OpenClaim := { program := "ytobjcdbbdgloiaa", sum := "6d70888450e6c37d5f30ffe8e4f43b9f8ff0419723a826b952360e9cadb6d052", func := "ontime/ontimelaw47.FlowReverses", spec := "flowReverses", unfollowed := true, recurses := true, apart := false }
def FlowReversesSaid : Prop := flowReversesRow.holds Try.pinned (OpenSpec.ofChange flowReversesSpec)

/-- ITS FALSE NEIGHBOUR: 'it returns false'. Refute it at one input. -/
def flowReversesWrong : ChangeSpec := { name := "flowReverses", fn := fun _ => fun
  | [d1, d2, d3, d4, d5, d6] => { results := [.lit (.bool false)], args := [d1, d2, d3, d4, d5, d6] }
  | _ => none }
def FlowReversesWrongFalsely : Prop := flowReversesRow.holds Try.pinned (OpenSpec.ofChange flowReversesWrong)

/-- 'ontimelaw47.FlowRefuses': WHATEVER THE INPUT: true; the input reads as it did. -/
def flowRefusesSpec : ChangeSpec := { name := "flowRefuses", fn := fun _ => fun
  | [d1, d2, d3, d4, d5] => { results := [.lit (.bool true)], args := [d1, d2, d3, d4, d5] }
  | _ => none }
def flowRefusesRow : OpenClaim := { program := "ytobjcdbbdgloiaa", sum := "6d70888450e6c37d5f30ffe8e4f43b9f8ff0419723a826b952360e9cadb6d052", func := "ontime/ontimelaw47.FlowRefuses", spec := "flowRefuses", unfollowed := true, recurses := true, apart := false }
def FlowRefusesSaid : Prop := flowRefusesRow.holds Try.pinned (OpenSpec.ofChange flowRefusesSpec)

/-- ITS FALSE NEIGHBOUR: 'it returns false'. Refute it at one input. -/
def flowRefusesWrong : ChangeSpec := { name := "flowRefuses", fn := fun _ => fun
  | [d1, d2, d3, d4, d5] => { results := [.lit (.bool false)], args := [d1, d2, d3, d4, d5] }
  | _ => none }
def FlowRefusesWrongFalsely : Prop := flowRefusesRow.holds Try.pinned (OpenSpec.ofChange flowRefusesWrong)

/-- 'ontimelaw47.FlowSchedules': WHATEVER THE INPUT: true; the input reads as it did. -/
def flowSchedulesSpec : ChangeSpec := { name := "flowSchedules", fn := fun _ => fun
  | [d1, d2] => { results := [.lit (.bool true)], args := [d1, d2] }
  | _ => none }
def flowSchedulesRow : OpenClaim := { program := "ytobjcdbbdgloiaa", sum := "6d70888450e6c37d5f30ffe8e4f43b9f8ff0419723a826b952360e9cadb6d052", func := "ontime/ontimelaw47.FlowSchedules", spec := "flowSchedules", unfollowed := true, recurses := true, apart := false }
def FlowSchedulesSaid : Prop := flowSchedulesRow.holds Try.pinned (OpenSpec.ofChange flowSchedulesSpec)

/-- ITS FALSE NEIGHBOUR: 'it returns false'. Refute it at one input. -/
def flowSchedulesWrong : ChangeSpec := { name := "flowSchedules", fn := fun _ => fun
  | [d1, d2] => { results := [.lit (.bool false)], args := [d1, d2] }
  | _ => none }
def FlowSchedulesWrongFalsely : Prop := flowSchedulesRow.holds Try.pinned (OpenSpec.ofChange flowSchedulesWrong)

/-- 'ontimelaw47.FlowFits': WHATEVER THE INPUT: true; the input reads as it did. -/
def flowFitsSpec : ChangeSpec := { name := "flowFits", fn := fun _ => fun
  | [d1, d2] => { results := [.lit (.bool true)], args := [d1, d2] }
  | _ => none }
def flowFitsRow : OpenClaim := { program := "ytobjcdbbdgloiaa", sum := "6d70888450e6c37d5f30ffe8e4f43b9f8ff0419723a826b952360e9cadb6d052", func := "ontime/ontimelaw47.FlowFits", spec := "flowFits", unfollowed := true, recurses := true, apart := false }
def FlowFitsSaid : Prop := flowFitsRow.holds Try.pinned (OpenSpec.ofChange flowFitsSpec)

/-- ITS FALSE NEIGHBOUR: 'it returns false'. Refute it at one input. -/
def flowFitsWrong : ChangeSpec := { name := "flowFits", fn := fun _ => fun
  | [d1, d2] => { results := [.lit (.bool false)], args := [d1, d2] }
  | _ => none }
def FlowFitsWrongFalsely : Prop := flowFitsRow.holds Try.pinned (OpenSpec.ofChange flowFitsWrong)

/-- 'ontimelaw47.FlowEases': WHATEVER THE INPUT: true; the input reads as it did. -/
def flowEasesSpec : ChangeSpec := { name := "flowEases", fn := fun _ => fun
  | [d1, d2, d3, d4] => { results := [.lit (.bool true)], args := [d1, d2, d3, d4] }
  | _ => none }
def flowEasesRow : OpenClaim := { program := "ytobjcdbbdgloiaa", sum := "6d70888450e6c37d5f30ffe8e4f43b9f8ff0419723a826b952360e9cadb6d052", func := "ontime/ontimelaw47.FlowEases", spec := "flowEases", unfollowed := true, recurses := true, apart := false }
def FlowEasesSaid : Prop := flowEasesRow.holds Try.pinned (OpenSpec.ofChange flowEasesSpec)

/-- ITS FALSE NEIGHBOUR: 'it returns false'. Refute it at one input. -/
def flowEasesWrong : ChangeSpec := { name := "flowEases", fn := fun _ => fun
  | [d1, d2, d3, d4] => { results := [.lit (.bool false)], args := [d1, d2, d3, d4] }
  | _ => none }
def FlowEasesWrongFalsely : Prop := flowEasesRow.holds Try.pinned (OpenSpec.ofChange flowEasesWrong)

/-- 'ontimelaw47.FlowJobs': WHATEVER THE INPUT: true; the input reads as it did. -/
def flowJobsSpec : ChangeSpec := { name := "flowJobs", fn := fun _ => fun
  | [d1, d2, d3] => { results := [.lit (.bool true)], args := [d1, d2, d3] }
  | _ => none }
def flowJobsRow : OpenClaim := { program := "ytobjcdbbdgloiaa", sum := "6d70888450e6c37d5f30ffe8e4f43b9f8ff0419723a826b952360e9cadb6d052", func := "ontime/ontimelaw47.FlowJobs", spec := "flowJobs", unfollowed := true, recurses := true, apart := false }
def FlowJobsSaid : Prop := flowJobsRow.holds Try.pinned (OpenSpec.ofChange flowJobsSpec)

/-- ITS FALSE NEIGHBOUR: 'it returns false'. Refute it at one input. -/
def flowJobsWrong : ChangeSpec := { name := "flowJobs", fn := fun _ => fun
  | [d1, d2, d3] => { results := [.lit (.bool false)], args := [d1, d2, d3] }
  | _ => none }
def FlowJobsWrongFalsely : Prop := flowJobsRow.holds Try.pinned (OpenSpec.ofChange flowJobsWrong)

/- THE SECOND FORM. 'bulk': how many values and letters a reading holds, each counted each time it is reached (what is shared counts as often as it is met; a slice's spare places count too). A statement '..UptoSaid' is the law's where the arguments, and the package variables that the reading takes, are together of bulk at most 1048576: NARROWER than '..Said'. Prove '..Said' where nothing that the law and all that it calls make is longer than what came in: it says more and counts as full. Else prove '..UptoSaid'. A law counts once. -/
mutual
def uptoBulk {H : Type} : DataW H → Nat
  | .lit (.string bytes) => bytes.length + 1
  | .lit _ => 1
  | .nil => 1
  | .ptr d => uptoBulk d + 1
  | .slice elems spare => uptoBulkAll elems + uptoBulkAll spare + 1
  | .agg parts => uptoBulkAll parts + 1
  | .iface _ d => uptoBulk d + 1
  | .map entries => uptoBulkEntries entries + 1
  | .held _ => 1
def uptoBulkAll {H : Type} : List (DataW H) → Nat
  | [] => 0
  | d :: r => uptoBulk d + uptoBulkAll r
def uptoBulkEntries {H : Type} : List (Lit × DataW H) → Nat
  | [] => 0
  | x :: r => uptoBulkEntry x + uptoBulkEntries r
def uptoBulkEntry {H : Type} : Lit × DataW H → Nat
  | (.string bytes, d) => bytes.length + uptoBulk d + 1
  | (_, d) => uptoBulk d + 1
 end
def uptoSmall : (H : Type) → List (DataW H) → Bool := fun _ ds => decide (uptoBulkAll ds ≤ 1048576)
def OpenSpec.upto (s : _root_.Go.ChangeSpec) : _root_.Go.OpenSpec := { _root_.Go.OpenSpec.ofChange s with cond := some uptoSmall }

/-- 'ontimelaw47.FlowIsMaximal', WHERE WHAT IT READS IS OF BULK AT MOST 1048576: true; the input reads as it did. -/
def flowIsMaximalUptoRow : OpenClaim := { program := "ytobjcdbbdgloiaa", sum := "6d70888450e6c37d5f30ffe8e4f43b9f8ff0419723a826b952360e9cadb6d052", func := "ontime/ontimelaw47.FlowIsMaximal", spec := "flowIsMaximal", unfollowed := true, recurses := true, apart := false, narrowed := true }
def FlowIsMaximalUptoSaid : Prop := flowIsMaximalUptoRow.holds Try.pinned (OpenSpec.upto flowIsMaximalSpec)

/-- 'ontimelaw47.FlowEqualsCut', WHERE WHAT IT READS IS OF BULK AT MOST 1048576: true; the input reads as it did. -/
def flowEqualsCutUptoRow : OpenClaim := { program := "ytobjcdbbdgloiaa", sum := "6d70888450e6c37d5f30ffe8e4f43b9f8ff0419723a826b952360e9cadb6d052", func := "ontime/ontimelaw47.FlowEqualsCut", spec := "flowEqualsCut", unfollowed := true, recurses := true, apart := false, narrowed := true }
def FlowEqualsCutUptoSaid : Prop := flowEqualsCutUptoRow.holds Try.pinned (OpenSpec.upto flowEqualsCutSpec)

/-- 'ontimelaw47.FlowReverses', WHERE WHAT IT READS IS OF BULK AT MOST 1048576: true; the input reads as it did. -/
def flowReversesUptoRow : OpenClaim := { program := "ytobjcdbbdgloiaa", sum := "6d70888450e6c37d5f30ffe8e4f43b9f8ff0419723a826b952360e9cadb6d052", func := "ontime/ontimelaw47.FlowReverses", spec := "flowReverses", unfollowed := true, recurses := true, apart := false, narrowed := true }
def FlowReversesUptoSaid : Prop := flowReversesUptoRow.holds Try.pinned (OpenSpec.upto flowReversesSpec)

/-- 'ontimelaw47.FlowRefuses', WHERE WHAT IT READS IS OF BULK AT MOST 1048576: true; the input reads as it did. -/
def flowRefusesUptoRow : OpenClaim := { program := "ytobjcdbbdgloiaa", sum := "6d70888450e6c37d5f30ffe8e4f43b9f8ff0419723a826b952360e9cadb6d052", func := "ontime/ontimelaw47.FlowRefuses", spec := "flowRefuses", unfollowed := true, recurses := true, apart := false, narrowed := true }
def FlowRefusesUptoSaid : Prop := flowRefusesUptoRow.holds Try.pinned (OpenSpec.upto flowRefusesSpec)

/-- 'ontimelaw47.FlowSchedules', WHERE WHAT IT READS IS OF BULK AT MOST 1048576: true; the input reads as it did. -/
def flowSchedulesUptoRow : OpenClaim := { program := "ytobjcdbbdgloiaa", sum := "6d70888450e6c37d5f30ffe8e4f43b9f8ff0419723a826b952360e9cadb6d052", func := "ontime/ontimelaw47.FlowSchedules", spec := "flowSchedules", unfollowed := true, recurses := true, apart := false, narrowed := true }
def FlowSchedulesUptoSaid : Prop := flowSchedulesUptoRow.holds Try.pinned (OpenSpec.upto flowSchedulesSpec)

/-- 'ontimelaw47.FlowFits', WHERE WHAT IT READS IS OF BULK AT MOST 1048576: true; the input reads as it did. -/
def flowFitsUptoRow : OpenClaim := { program := "ytobjcdbbdgloiaa", sum := "6d70888450e6c37d5f30ffe8e4f43b9f8ff0419723a826b952360e9cadb6d052", func := "ontime/ontimelaw47.FlowFits", spec := "flowFits", unfollowed := true, recurses := true, apart := false, narrowed := true }
def FlowFitsUptoSaid : Prop := flowFitsUptoRow.holds Try.pinned (OpenSpec.upto flowFitsSpec)

/-- 'ontimelaw47.FlowEases', WHERE WHAT IT READS IS OF BULK AT MOST 1048576: true; the input reads as it did. -/
def flowEasesUptoRow : OpenClaim := { program := "ytobjcdbbdgloiaa", sum := "6d70888450e6c37d5f30ffe8e4f43b9f8ff0419723a826b952360e9cadb6d052", func := "ontime/ontimelaw47.FlowEases", spec := "flowEases", unfollowed := true, recurses := true, apart := false, narrowed := true }
def FlowEasesUptoSaid : Prop := flowEasesUptoRow.holds Try.pinned (OpenSpec.upto flowEasesSpec)

/-- 'ontimelaw47.FlowJobs', WHERE WHAT IT READS IS OF BULK AT MOST 1048576: true; the input reads as it did. -/
def flowJobsUptoRow : OpenClaim := { program := "ytobjcdbbdgloiaa", sum := "6d70888450e6c37d5f30ffe8e4f43b9f8ff0419723a826b952360e9cadb6d052", func := "ontime/ontimelaw47.FlowJobs", spec := "flowJobs", unfollowed := true, recurses := true, apart := false, narrowed := true }
def FlowJobsUptoSaid : Prop := flowJobsUptoRow.holds Try.pinned (OpenSpec.upto flowJobsSpec)

end Rows
end Go.Proofs.Ytobjcdbbdgloiaa
