/-
  No cell of these rows narrows 'for every input' (looked for: loops, veiled, ifaces, maps, wideKeys, modest, calm, conditions, laid).
  DERIVED. THE GIVEN ROWS OF THIS SEAT. 15 by the template 'for every input the law returns true; each argument reads behind the call as it read before'; 0 by the template 'total and deterministic' (their statements: YtkedcnemldjbeaaTotals.lean).
  GIVEN WITH THE SEED: the statements are not yours to turn. If you find one false, say at which input.
  Laid BY PROGRAM, IN A SANDBOX (cutbox-rows.mjs): the forced cells as the released guide's own fill.sh prints them over the translation 12941ccde0cfe823… (all of the seat's roots in one cut). By AI agents, Wed Nov 11 2026. No macro, syntax, notation, axiom, sorry.
-/
import Derived.Test.YtkedcnemldjbeaaChecked
import GoSem.Claim
import GoSem.ClaimJoined
import GoSem.ClaimMapViews
import Derived.JoinedTies
import Derived.KernelRfl
namespace Go.Proofs.Ytkedcnemldjbeaa
/- THE CELL 'sum', in the pinned program and in every row, IS THE sha256 OF THE DUMP (.gsa) THAT YtkedcnemldjbeaaProg.lean LOADS. Nothing in Lean hashes anything: it is a label: what it is worth is what the hold of that sum in a sandbox is worth. -/
noncomputable def Try.pinned : Pinned := { name := "ytkedcnemldjbeaa", sum := "12941ccde0cfe8233f17f8eff9e1a77b347bfe96e1d9fab6b99f543d5d0f0189", checked := Try.checked }
namespace Rows
def none {H : Type} : Left H := { results := [], args := [] }

/-- 'ontimelaw44.ResponseMonotone': WHATEVER THE INPUT: true; the input reads as it did. -/
def responseMonotoneSpec : ChangeSpec := { name := "responseMonotone", fn := fun _ => fun
  | [d1, d2, d3, d4] => { results := [.lit (.bool true)], args := [d1, d2, d3, d4] }
  | _ => none }
def responseMonotoneRow : OpenClaim := { program := "ytkedcnemldjbeaa", sum := "12941ccde0cfe8233f17f8eff9e1a77b347bfe96e1d9fab6b99f543d5d0f0189", func := "ontime/ontimelaw44.ResponseMonotone", spec := "responseMonotone", unfollowed := true, recurses := true, plainKeys := false, apart := false }
def ResponseMonotoneSaid : Prop := responseMonotoneRow.holds Try.pinned (OpenSpec.ofChange responseMonotoneSpec)

/-- ITS FALSE NEIGHBOUR: 'it returns false'. Refute it at one input. -/
def responseMonotoneWrong : ChangeSpec := { name := "responseMonotone", fn := fun _ => fun
  | [d1, d2, d3, d4] => { results := [.lit (.bool false)], args := [d1, d2, d3, d4] }
  | _ => none }
def ResponseMonotoneWrongFalsely : Prop := responseMonotoneRow.holds Try.pinned (OpenSpec.ofChange responseMonotoneWrong)

/-- 'ontimelaw44.ResponseAbove': WHATEVER THE INPUT: true; the input reads as it did. -/
def responseAboveSpec : ChangeSpec := { name := "responseAbove", fn := fun _ => fun
  | [d1, d2] => { results := [.lit (.bool true)], args := [d1, d2] }
  | _ => none }
def responseAboveRow : OpenClaim := { program := "ytkedcnemldjbeaa", sum := "12941ccde0cfe8233f17f8eff9e1a77b347bfe96e1d9fab6b99f543d5d0f0189", func := "ontime/ontimelaw44.ResponseAbove", spec := "responseAbove", unfollowed := true, recurses := true, plainKeys := false, apart := false }
def ResponseAboveSaid : Prop := responseAboveRow.holds Try.pinned (OpenSpec.ofChange responseAboveSpec)

/-- ITS FALSE NEIGHBOUR: 'it returns false'. Refute it at one input. -/
def responseAboveWrong : ChangeSpec := { name := "responseAbove", fn := fun _ => fun
  | [d1, d2] => { results := [.lit (.bool false)], args := [d1, d2] }
  | _ => none }
def ResponseAboveWrongFalsely : Prop := responseAboveRow.holds Try.pinned (OpenSpec.ofChange responseAboveWrong)

/-- 'ontimelaw44.ResponseTimes': WHATEVER THE INPUT: true; the input reads as it did. -/
def responseTimesSpec : ChangeSpec := { name := "responseTimes", fn := fun _ => fun
  | [d1, d2] => { results := [.lit (.bool true)], args := [d1, d2] }
  | _ => none }
def responseTimesRow : OpenClaim := { program := "ytkedcnemldjbeaa", sum := "12941ccde0cfe8233f17f8eff9e1a77b347bfe96e1d9fab6b99f543d5d0f0189", func := "ontime/ontimelaw44.ResponseTimes", spec := "responseTimes", unfollowed := true, recurses := true, plainKeys := false, apart := false }
def ResponseTimesSaid : Prop := responseTimesRow.holds Try.pinned (OpenSpec.ofChange responseTimesSpec)

/-- ITS FALSE NEIGHBOUR: 'it returns false'. Refute it at one input. -/
def responseTimesWrong : ChangeSpec := { name := "responseTimes", fn := fun _ => fun
  | [d1, d2] => { results := [.lit (.bool false)], args := [d1, d2] }
  | _ => none }
def ResponseTimesWrongFalsely : Prop := responseTimesRow.holds Try.pinned (OpenSpec.ofChange responseTimesWrong)

/-- 'ontimelaw44.ResponseParts': WHATEVER THE INPUT: true; the input reads as it did. -/
def responsePartsSpec : ChangeSpec := { name := "responseParts", fn := fun _ => fun
  | [d1, d2, d3] => { results := [.lit (.bool true)], args := [d1, d2, d3] }
  | _ => none }
def responsePartsRow : OpenClaim := { program := "ytkedcnemldjbeaa", sum := "12941ccde0cfe8233f17f8eff9e1a77b347bfe96e1d9fab6b99f543d5d0f0189", func := "ontime/ontimelaw44.ResponseParts", spec := "responseParts", unfollowed := true, recurses := true, plainKeys := false, apart := false }
def ResponsePartsSaid : Prop := responsePartsRow.holds Try.pinned (OpenSpec.ofChange responsePartsSpec)

/-- ITS FALSE NEIGHBOUR: 'it returns false'. Refute it at one input. -/
def responsePartsWrong : ChangeSpec := { name := "responseParts", fn := fun _ => fun
  | [d1, d2, d3] => { results := [.lit (.bool false)], args := [d1, d2, d3] }
  | _ => none }
def ResponsePartsWrongFalsely : Prop := responsePartsRow.holds Try.pinned (OpenSpec.ofChange responsePartsWrong)

/-- 'ontimelaw44.ResponseLeast': WHATEVER THE INPUT: true; the input reads as it did. -/
def responseLeastSpec : ChangeSpec := { name := "responseLeast", fn := fun _ => fun
  | [d1, d2] => { results := [.lit (.bool true)], args := [d1, d2] }
  | _ => none }
def responseLeastRow : OpenClaim := { program := "ytkedcnemldjbeaa", sum := "12941ccde0cfe8233f17f8eff9e1a77b347bfe96e1d9fab6b99f543d5d0f0189", func := "ontime/ontimelaw44.ResponseLeast", spec := "responseLeast", unfollowed := true, recurses := true, plainKeys := false, apart := false }
def ResponseLeastSaid : Prop := responseLeastRow.holds Try.pinned (OpenSpec.ofChange responseLeastSpec)

/-- ITS FALSE NEIGHBOUR: 'it returns false'. Refute it at one input. -/
def responseLeastWrong : ChangeSpec := { name := "responseLeast", fn := fun _ => fun
  | [d1, d2] => { results := [.lit (.bool false)], args := [d1, d2] }
  | _ => none }
def ResponseLeastWrongFalsely : Prop := responseLeastRow.holds Try.pinned (OpenSpec.ofChange responseLeastWrong)

/-- 'ontimelaw44.ResponseWindows': WHATEVER THE INPUT: true; the input reads as it did. -/
def responseWindowsSpec : ChangeSpec := { name := "responseWindows", fn := fun _ => fun
  | [d1, d2, d3, d4] => { results := [.lit (.bool true)], args := [d1, d2, d3, d4] }
  | _ => none }
def responseWindowsRow : OpenClaim := { program := "ytkedcnemldjbeaa", sum := "12941ccde0cfe8233f17f8eff9e1a77b347bfe96e1d9fab6b99f543d5d0f0189", func := "ontime/ontimelaw44.ResponseWindows", spec := "responseWindows", unfollowed := true, recurses := true, plainKeys := false, apart := false }
def ResponseWindowsSaid : Prop := responseWindowsRow.holds Try.pinned (OpenSpec.ofChange responseWindowsSpec)

/-- ITS FALSE NEIGHBOUR: 'it returns false'. Refute it at one input. -/
def responseWindowsWrong : ChangeSpec := { name := "responseWindows", fn := fun _ => fun
  | [d1, d2, d3, d4] => { results := [.lit (.bool false)], args := [d1, d2, d3, d4] }
  | _ => none }
def ResponseWindowsWrongFalsely : Prop := responseWindowsRow.holds Try.pinned (OpenSpec.ofChange responseWindowsWrong)

/-- 'ontimelaw43.CeilingSimulates': WHATEVER THE INPUT: true; the input reads as it did. -/
def ceilingSimulatesSpec : ChangeSpec := { name := "ceilingSimulates", fn := fun _ => fun
  | [d1, d2, d3] => { results := [.lit (.bool true)], args := [d1, d2, d3] }
  | _ => none }
def ceilingSimulatesRow : OpenClaim := { program := "ytkedcnemldjbeaa", sum := "12941ccde0cfe8233f17f8eff9e1a77b347bfe96e1d9fab6b99f543d5d0f0189", func := "ontime/ontimelaw43.CeilingSimulates", spec := "ceilingSimulates", plainKeys := false, apart := false }
def CeilingSimulatesSaid : Prop := ceilingSimulatesRow.holds Try.pinned (OpenSpec.ofChange ceilingSimulatesSpec)

/-- ITS FALSE NEIGHBOUR: 'it returns false'. Refute it at one input. -/
def ceilingSimulatesWrong : ChangeSpec := { name := "ceilingSimulates", fn := fun _ => fun
  | [d1, d2, d3] => { results := [.lit (.bool false)], args := [d1, d2, d3] }
  | _ => none }
def CeilingSimulatesWrongFalsely : Prop := ceilingSimulatesRow.holds Try.pinned (OpenSpec.ofChange ceilingSimulatesWrong)

/-- 'ontimelaw43.CeilingBlocks': WHATEVER THE INPUT: true; the input reads as it did. -/
def ceilingBlocksSpec : ChangeSpec := { name := "ceilingBlocks", fn := fun _ => fun
  | [d1, d2, d3] => { results := [.lit (.bool true)], args := [d1, d2, d3] }
  | _ => none }
def ceilingBlocksRow : OpenClaim := { program := "ytkedcnemldjbeaa", sum := "12941ccde0cfe8233f17f8eff9e1a77b347bfe96e1d9fab6b99f543d5d0f0189", func := "ontime/ontimelaw43.CeilingBlocks", spec := "ceilingBlocks", plainKeys := false, apart := false }
def CeilingBlocksSaid : Prop := ceilingBlocksRow.holds Try.pinned (OpenSpec.ofChange ceilingBlocksSpec)

/-- ITS FALSE NEIGHBOUR: 'it returns false'. Refute it at one input. -/
def ceilingBlocksWrong : ChangeSpec := { name := "ceilingBlocks", fn := fun _ => fun
  | [d1, d2, d3] => { results := [.lit (.bool false)], args := [d1, d2, d3] }
  | _ => none }
def CeilingBlocksWrongFalsely : Prop := ceilingBlocksRow.holds Try.pinned (OpenSpec.ofChange ceilingBlocksWrong)

/-- 'ontimelaw43.CeilingOrder': WHATEVER THE INPUT: true; the input reads as it did. -/
def ceilingOrderSpec : ChangeSpec := { name := "ceilingOrder", fn := fun _ => fun
  | [d1, d2, d3] => { results := [.lit (.bool true)], args := [d1, d2, d3] }
  | _ => none }
def ceilingOrderRow : OpenClaim := { program := "ytkedcnemldjbeaa", sum := "12941ccde0cfe8233f17f8eff9e1a77b347bfe96e1d9fab6b99f543d5d0f0189", func := "ontime/ontimelaw43.CeilingOrder", spec := "ceilingOrder", plainKeys := false, apart := false }
def CeilingOrderSaid : Prop := ceilingOrderRow.holds Try.pinned (OpenSpec.ofChange ceilingOrderSpec)

/-- ITS FALSE NEIGHBOUR: 'it returns false'. Refute it at one input. -/
def ceilingOrderWrong : ChangeSpec := { name := "ceilingOrder", fn := fun _ => fun
  | [d1, d2, d3] => { results := [.lit (.bool false)], args := [d1, d2, d3] }
  | _ => none }
def CeilingOrderWrongFalsely : Prop := ceilingOrderRow.holds Try.pinned (OpenSpec.ofChange ceilingOrderWrong)

/-- 'ontimelaw43.CeilingLower': WHATEVER THE INPUT: true; the input reads as it did. -/
def ceilingLowerSpec : ChangeSpec := { name := "ceilingLower", fn := fun _ => fun
  | [d1, d2, d3, d4, d5] => { results := [.lit (.bool true)], args := [d1, d2, d3, d4, d5] }
  | _ => none }
def ceilingLowerRow : OpenClaim := { program := "ytkedcnemldjbeaa", sum := "12941ccde0cfe8233f17f8eff9e1a77b347bfe96e1d9fab6b99f543d5d0f0189", func := "ontime/ontimelaw43.CeilingLower", spec := "ceilingLower", plainKeys := false, apart := false }
def CeilingLowerSaid : Prop := ceilingLowerRow.holds Try.pinned (OpenSpec.ofChange ceilingLowerSpec)

/-- ITS FALSE NEIGHBOUR: 'it returns false'. Refute it at one input. -/
def ceilingLowerWrong : ChangeSpec := { name := "ceilingLower", fn := fun _ => fun
  | [d1, d2, d3, d4, d5] => { results := [.lit (.bool false)], args := [d1, d2, d3, d4, d5] }
  | _ => none }
def CeilingLowerWrongFalsely : Prop := ceilingLowerRow.holds Try.pinned (OpenSpec.ofChange ceilingLowerWrong)

/-- 'ontimelaw43.CeilingPlain': WHATEVER THE INPUT: true; the input reads as it did. -/
def ceilingPlainSpec : ChangeSpec := { name := "ceilingPlain", fn := fun _ => fun
  | [d1, d2, d3, d4] => { results := [.lit (.bool true)], args := [d1, d2, d3, d4] }
  | _ => none }
def ceilingPlainRow : OpenClaim := { program := "ytkedcnemldjbeaa", sum := "12941ccde0cfe8233f17f8eff9e1a77b347bfe96e1d9fab6b99f543d5d0f0189", func := "ontime/ontimelaw43.CeilingPlain", spec := "ceilingPlain", plainKeys := false, apart := false }
def CeilingPlainSaid : Prop := ceilingPlainRow.holds Try.pinned (OpenSpec.ofChange ceilingPlainSpec)

/-- ITS FALSE NEIGHBOUR: 'it returns false'. Refute it at one input. -/
def ceilingPlainWrong : ChangeSpec := { name := "ceilingPlain", fn := fun _ => fun
  | [d1, d2, d3, d4] => { results := [.lit (.bool false)], args := [d1, d2, d3, d4] }
  | _ => none }
def CeilingPlainWrongFalsely : Prop := ceilingPlainRow.holds Try.pinned (OpenSpec.ofChange ceilingPlainWrong)

/-- 'ontimelaw43.CeilingRefuses': WHATEVER THE INPUT: true; the input reads as it did. -/
def ceilingRefusesSpec : ChangeSpec := { name := "ceilingRefuses", fn := fun _ => fun
  | [d1, d2, d3] => { results := [.lit (.bool true)], args := [d1, d2, d3] }
  | _ => none }
def ceilingRefusesRow : OpenClaim := { program := "ytkedcnemldjbeaa", sum := "12941ccde0cfe8233f17f8eff9e1a77b347bfe96e1d9fab6b99f543d5d0f0189", func := "ontime/ontimelaw43.CeilingRefuses", spec := "ceilingRefuses", plainKeys := false, apart := false }
def CeilingRefusesSaid : Prop := ceilingRefusesRow.holds Try.pinned (OpenSpec.ofChange ceilingRefusesSpec)

/-- ITS FALSE NEIGHBOUR: 'it returns false'. Refute it at one input. -/
def ceilingRefusesWrong : ChangeSpec := { name := "ceilingRefuses", fn := fun _ => fun
  | [d1, d2, d3] => { results := [.lit (.bool false)], args := [d1, d2, d3] }
  | _ => none }
def CeilingRefusesWrongFalsely : Prop := ceilingRefusesRow.holds Try.pinned (OpenSpec.ofChange ceilingRefusesWrong)

/-- 'ontimelaw43.CeilingTables': WHATEVER THE INPUT: true; the input reads as it did. -/
def ceilingTablesSpec : ChangeSpec := { name := "ceilingTables", fn := fun _ => fun
  | [d1, d2, d3] => { results := [.lit (.bool true)], args := [d1, d2, d3] }
  | _ => none }
def ceilingTablesRow : OpenClaim := { program := "ytkedcnemldjbeaa", sum := "12941ccde0cfe8233f17f8eff9e1a77b347bfe96e1d9fab6b99f543d5d0f0189", func := "ontime/ontimelaw43.CeilingTables", spec := "ceilingTables", plainKeys := false, apart := false }
def CeilingTablesSaid : Prop := ceilingTablesRow.holds Try.pinned (OpenSpec.ofChange ceilingTablesSpec)

/-- ITS FALSE NEIGHBOUR: 'it returns false'. Refute it at one input. -/
def ceilingTablesWrong : ChangeSpec := { name := "ceilingTables", fn := fun _ => fun
  | [d1, d2, d3] => { results := [.lit (.bool false)], args := [d1, d2, d3] }
  | _ => none }
def CeilingTablesWrongFalsely : Prop := ceilingTablesRow.holds Try.pinned (OpenSpec.ofChange ceilingTablesWrong)

/-- 'ontimelaw44.ResponseSafe': WHATEVER THE INPUT: true; the input reads as it did. -/
def responseSafeSpec : ChangeSpec := { name := "responseSafe", fn := fun _ => fun
  | [d1, d2, d3] => { results := [.lit (.bool true)], args := [d1, d2, d3] }
  | _ => none }
def responseSafeRow : OpenClaim := { program := "ytkedcnemldjbeaa", sum := "12941ccde0cfe8233f17f8eff9e1a77b347bfe96e1d9fab6b99f543d5d0f0189", func := "ontime/ontimelaw44.ResponseSafe", spec := "responseSafe", unfollowed := true, recurses := true, plainKeys := false, apart := false }
def ResponseSafeSaid : Prop := responseSafeRow.holds Try.pinned (OpenSpec.ofChange responseSafeSpec)

/-- ITS FALSE NEIGHBOUR: 'it returns false'. Refute it at one input. -/
def responseSafeWrong : ChangeSpec := { name := "responseSafe", fn := fun _ => fun
  | [d1, d2, d3] => { results := [.lit (.bool false)], args := [d1, d2, d3] }
  | _ => none }
def ResponseSafeWrongFalsely : Prop := responseSafeRow.holds Try.pinned (OpenSpec.ofChange responseSafeWrong)

/-- 'ontimelaw44.ResponseExact': WHATEVER THE INPUT: true; the input reads as it did. -/
def responseExactSpec : ChangeSpec := { name := "responseExact", fn := fun _ => fun
  | [d1, d2] => { results := [.lit (.bool true)], args := [d1, d2] }
  | _ => none }
def responseExactRow : OpenClaim := { program := "ytkedcnemldjbeaa", sum := "12941ccde0cfe8233f17f8eff9e1a77b347bfe96e1d9fab6b99f543d5d0f0189", func := "ontime/ontimelaw44.ResponseExact", spec := "responseExact", unfollowed := true, recurses := true, plainKeys := false, apart := false }
def ResponseExactSaid : Prop := responseExactRow.holds Try.pinned (OpenSpec.ofChange responseExactSpec)

/-- ITS FALSE NEIGHBOUR: 'it returns false'. Refute it at one input. -/
def responseExactWrong : ChangeSpec := { name := "responseExact", fn := fun _ => fun
  | [d1, d2] => { results := [.lit (.bool false)], args := [d1, d2] }
  | _ => none }
def ResponseExactWrongFalsely : Prop := responseExactRow.holds Try.pinned (OpenSpec.ofChange responseExactWrong)

/- THE SECOND FORM. 'bulk': how many values and letters a reading holds, each counted each time it is reached (what is shared counts as often as it is met; a slice's spare places count too). A statement '..UptoSaid' is the law's where the arguments, and the package variables that the reading takes, are together of bulk at most 1048576: NARROWER than '..Said'. Prove '..Said' where nothing that the law and all that it calls make is longer than what came in: it says more and counts as full. Else prove '..UptoSaid'. A law counts once. -/
mutual
def uptoBulk {H : Type} : DataW H → Nat
  | .lit (.string bytes) => bytes.length + 1
  | .lit _ => 1
  | .nil => 1
  | .ptr d => uptoBulk d + 1
  | .slice elems spare => uptoBulkAll elems + uptoBulkAll spare + 1
  | .agg parts => uptoBulkAll parts + 1
  | .iface _ d => uptoBulk d + 1
  | .map entries => uptoBulkEntries entries + 1
  | .held _ => 1
def uptoBulkAll {H : Type} : List (DataW H) → Nat
  | [] => 0
  | d :: r => uptoBulk d + uptoBulkAll r
def uptoBulkEntries {H : Type} : List (Lit × DataW H) → Nat
  | [] => 0
  | x :: r => uptoBulkEntry x + uptoBulkEntries r
def uptoBulkEntry {H : Type} : Lit × DataW H → Nat
  | (.string bytes, d) => bytes.length + uptoBulk d + 1
  | (_, d) => uptoBulk d + 1
 end
def uptoSmall : (H : Type) → List (DataW H) → Bool := fun _ ds => decide (uptoBulkAll ds ≤ 1048576)
def OpenSpec.upto (s : _root_.Go.ChangeSpec) : _root_.Go.OpenSpec := { _root_.Go.OpenSpec.ofChange s with cond := some uptoSmall }

/-- 'ontimelaw44.ResponseMonotone', WHERE WHAT IT READS IS OF BULK AT MOST 1048576: true; the input reads as it did. -/
def responseMonotoneUptoRow : OpenClaim := { program := "ytkedcnemldjbeaa", sum := "12941ccde0cfe8233f17f8eff9e1a77b347bfe96e1d9fab6b99f543d5d0f0189", func := "ontime/ontimelaw44.ResponseMonotone", spec := "responseMonotone", unfollowed := true, recurses := true, plainKeys := false, apart := false, narrowed := true }
def ResponseMonotoneUptoSaid : Prop := responseMonotoneUptoRow.holds Try.pinned (OpenSpec.upto responseMonotoneSpec)

/-- 'ontimelaw44.ResponseAbove', WHERE WHAT IT READS IS OF BULK AT MOST 1048576: true; the input reads as it did. -/
def responseAboveUptoRow : OpenClaim := { program := "ytkedcnemldjbeaa", sum := "12941ccde0cfe8233f17f8eff9e1a77b347bfe96e1d9fab6b99f543d5d0f0189", func := "ontime/ontimelaw44.ResponseAbove", spec := "responseAbove", unfollowed := true, recurses := true, plainKeys := false, apart := false, narrowed := true }
def ResponseAboveUptoSaid : Prop := responseAboveUptoRow.holds Try.pinned (OpenSpec.upto responseAboveSpec)

/-- 'ontimelaw44.ResponseTimes', WHERE WHAT IT READS IS OF BULK AT MOST 1048576: true; the input reads as it did. -/
def responseTimesUptoRow : OpenClaim := { program := "ytkedcnemldjbeaa", sum := "12941ccde0cfe8233f17f8eff9e1a77b347bfe96e1d9fab6b99f543d5d0f0189", func := "ontime/ontimelaw44.ResponseTimes", spec := "responseTimes", unfollowed := true, recurses := true, plainKeys := false, apart := false, narrowed := true }
def ResponseTimesUptoSaid : Prop := responseTimesUptoRow.holds Try.pinned (OpenSpec.upto responseTimesSpec)

/-- 'ontimelaw44.ResponseParts', WHERE WHAT IT READS IS OF BULK AT MOST 1048576: true; the input reads as it did. -/
def responsePartsUptoRow : OpenClaim := { program := "ytkedcnemldjbeaa", sum := "12941ccde0cfe8233f17f8eff9e1a77b347bfe96e1d9fab6b99f543d5d0f0189", func := "ontime/ontimelaw44.ResponseParts", spec := "responseParts", unfollowed := true, recurses := true, plainKeys := false, apart := false, narrowed := true }
def ResponsePartsUptoSaid : Prop := responsePartsUptoRow.holds Try.pinned (OpenSpec.upto responsePartsSpec)

/-- 'ontimelaw44.ResponseLeast', WHERE WHAT IT READS IS OF BULK AT MOST 1048576: true; the input reads as it did. -/
def responseLeastUptoRow : OpenClaim := { program := "ytkedcnemldjbeaa", sum := "12941ccde0cfe8233f17f8eff9e1a77b347bfe96e1d9fab6b99f543d5d0f0189", func := "ontime/ontimelaw44.ResponseLeast", spec := "responseLeast", unfollowed := true, recurses := true, plainKeys := false, apart := false, narrowed := true }
def ResponseLeastUptoSaid : Prop := responseLeastUptoRow.holds Try.pinned (OpenSpec.upto responseLeastSpec)

/-- 'ontimelaw44.ResponseWindows', WHERE WHAT IT READS IS OF BULK AT MOST 1048576: true; the input reads as it did. -/
def responseWindowsUptoRow : OpenClaim := { program := "ytkedcnemldjbeaa", sum := "12941ccde0cfe8233f17f8eff9e1a77b347bfe96e1d9fab6b99f543d5d0f0189", func := "ontime/ontimelaw44.ResponseWindows", spec := "responseWindows", unfollowed := true, recurses := true, plainKeys := false, apart := false, narrowed := true }
def ResponseWindowsUptoSaid : Prop := responseWindowsUptoRow.holds Try.pinned (OpenSpec.upto responseWindowsSpec)

/-- 'ontimelaw43.CeilingSimulates', WHERE WHAT IT READS IS OF BULK AT MOST 1048576: true; the input reads as it did. -/
def ceilingSimulatesUptoRow : OpenClaim := { program := "ytkedcnemldjbeaa", sum := "12941ccde0cfe8233f17f8eff9e1a77b347bfe96e1d9fab6b99f543d5d0f0189", func := "ontime/ontimelaw43.CeilingSimulates", spec := "ceilingSimulates", plainKeys := false, apart := false, narrowed := true }
def CeilingSimulatesUptoSaid : Prop := ceilingSimulatesUptoRow.holds Try.pinned (OpenSpec.upto ceilingSimulatesSpec)

/-- 'ontimelaw43.CeilingBlocks', WHERE WHAT IT READS IS OF BULK AT MOST 1048576: true; the input reads as it did. -/
def ceilingBlocksUptoRow : OpenClaim := { program := "ytkedcnemldjbeaa", sum := "12941ccde0cfe8233f17f8eff9e1a77b347bfe96e1d9fab6b99f543d5d0f0189", func := "ontime/ontimelaw43.CeilingBlocks", spec := "ceilingBlocks", plainKeys := false, apart := false, narrowed := true }
def CeilingBlocksUptoSaid : Prop := ceilingBlocksUptoRow.holds Try.pinned (OpenSpec.upto ceilingBlocksSpec)

/-- 'ontimelaw43.CeilingOrder', WHERE WHAT IT READS IS OF BULK AT MOST 1048576: true; the input reads as it did. -/
def ceilingOrderUptoRow : OpenClaim := { program := "ytkedcnemldjbeaa", sum := "12941ccde0cfe8233f17f8eff9e1a77b347bfe96e1d9fab6b99f543d5d0f0189", func := "ontime/ontimelaw43.CeilingOrder", spec := "ceilingOrder", plainKeys := false, apart := false, narrowed := true }
def CeilingOrderUptoSaid : Prop := ceilingOrderUptoRow.holds Try.pinned (OpenSpec.upto ceilingOrderSpec)

/-- 'ontimelaw43.CeilingLower', WHERE WHAT IT READS IS OF BULK AT MOST 1048576: true; the input reads as it did. -/
def ceilingLowerUptoRow : OpenClaim := { program := "ytkedcnemldjbeaa", sum := "12941ccde0cfe8233f17f8eff9e1a77b347bfe96e1d9fab6b99f543d5d0f0189", func := "ontime/ontimelaw43.CeilingLower", spec := "ceilingLower", plainKeys := false, apart := false, narrowed := true }
def CeilingLowerUptoSaid : Prop := ceilingLowerUptoRow.holds Try.pinned (OpenSpec.upto ceilingLowerSpec)

/-- 'ontimelaw43.CeilingPlain', WHERE WHAT IT READS IS OF BULK AT MOST 1048576: true; the input reads as it did. -/
def ceilingPlainUptoRow : OpenClaim := { program := "ytkedcnemldjbeaa", sum := "12941ccde0cfe8233f17f8eff9e1a77b347bfe96e1d9fab6b99f543d5d0f0189", func := "ontime/ontimelaw43.CeilingPlain", spec := "ceilingPlain", plainKeys := false, apart := false, narrowed := true }
def CeilingPlainUptoSaid : Prop := ceilingPlainUptoRow.holds Try.pinned (OpenSpec.upto ceilingPlainSpec)

/-- 'ontimelaw43.CeilingRefuses', WHERE WHAT IT READS IS OF BULK AT MOST 1048576: true; the input reads as it did. -/
def ceilingRefusesUptoRow : OpenClaim := { program := "ytkedcnemldjbeaa", sum := "12941ccde0cfe8233f17f8eff9e1a77b347bfe96e1d9fab6b99f543d5d0f0189", func := "ontime/ontimelaw43.CeilingRefuses", spec := "ceilingRefuses", plainKeys := false, apart := false, narrowed := true }
def CeilingRefusesUptoSaid : Prop := ceilingRefusesUptoRow.holds Try.pinned (OpenSpec.upto ceilingRefusesSpec)

/-- 'ontimelaw43.CeilingTables', WHERE WHAT IT READS IS OF BULK AT MOST 1048576: true; the input reads as it did. -/
def ceilingTablesUptoRow : OpenClaim := { program := "ytkedcnemldjbeaa", sum := "12941ccde0cfe8233f17f8eff9e1a77b347bfe96e1d9fab6b99f543d5d0f0189", func := "ontime/ontimelaw43.CeilingTables", spec := "ceilingTables", plainKeys := false, apart := false, narrowed := true }
def CeilingTablesUptoSaid : Prop := ceilingTablesUptoRow.holds Try.pinned (OpenSpec.upto ceilingTablesSpec)

/-- 'ontimelaw44.ResponseSafe', WHERE WHAT IT READS IS OF BULK AT MOST 1048576: true; the input reads as it did. -/
def responseSafeUptoRow : OpenClaim := { program := "ytkedcnemldjbeaa", sum := "12941ccde0cfe8233f17f8eff9e1a77b347bfe96e1d9fab6b99f543d5d0f0189", func := "ontime/ontimelaw44.ResponseSafe", spec := "responseSafe", unfollowed := true, recurses := true, plainKeys := false, apart := false, narrowed := true }
def ResponseSafeUptoSaid : Prop := responseSafeUptoRow.holds Try.pinned (OpenSpec.upto responseSafeSpec)

/-- 'ontimelaw44.ResponseExact', WHERE WHAT IT READS IS OF BULK AT MOST 1048576: true; the input reads as it did. -/
def responseExactUptoRow : OpenClaim := { program := "ytkedcnemldjbeaa", sum := "12941ccde0cfe8233f17f8eff9e1a77b347bfe96e1d9fab6b99f543d5d0f0189", func := "ontime/ontimelaw44.ResponseExact", spec := "responseExact", unfollowed := true, recurses := true, plainKeys := false, apart := false, narrowed := true }
def ResponseExactUptoSaid : Prop := responseExactUptoRow.holds Try.pinned (OpenSpec.upto responseExactSpec)

end Rows
end Go.Proofs.Ytkedcnemldjbeaa
