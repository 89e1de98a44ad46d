/-
  NARROWER THAN 'FOR EVERY INPUT', by the rows' own cells (each row's printed sentence says how): EngineApart: laid · EngineReads: laid · EngineEnds: laid · EngineLasts: laid · EngineOwn: laid · EngineTokens: laid · EngineAsked: laid.
  DERIVED. THE GIVEN ROWS OF THIS SEAT. 7 by the template 'for every input the law returns true; each argument reads behind the call as it read before'; 0 by the template 'total and deterministic' (their statements: YtgeafeohfiejcaaGreatDoorTotals.lean).
  GIVEN WITH THE SEED: the statements are not yours to turn. If you find one false, say at which input.
  Laid BY PROGRAM, IN A SANDBOX (cutbox-rows.mjs): the forced cells as the released guide's own fill.sh prints them over the translation 77148f19fe3d59e6… (all of the seat's roots in one cut). By AI agents, Wed Nov 11 2026. No macro, syntax, notation, axiom, sorry.
-/
import Derived.Test.YtgeafeohfiejcaaGreatDoorChecked
import GoSem.Claim
import GoSem.ClaimJoined
import GoSem.ClaimMapViews
import Derived.JoinedTies
import Derived.KernelRfl
namespace Go.Proofs.YtgeafeohfiejcaaGreatDoor
/- THE CELL 'sum', in the pinned program and in every row, IS THE sha256 OF THE DUMP (.gsa) THAT YtgeafeohfiejcaaGreatDoorProg.lean LOADS. Nothing in Lean hashes anything: it is a label: what it is worth is what the hold of that sum in a sandbox is worth. -/
noncomputable def Tryz.pinned : Pinned := { name := "ytgeafeohfiejcaagreatdoor", sum := "77148f19fe3d59e6fd77c1a69d86333f854651390302428e6052088be0a6ad08", checked := Tryz.checked }
namespace Rows
def none {H : Type} : Left H := { results := [], args := [] }

/- WHAT THE LISTED PACKAGE-LEVEL VARIABLES READ AS WHEN THE CALL BEGINS. Each datum BY PROGRAM (the guide's laid-datum.mjs) off the statement by which the dump's own 'gosem.cut.vars' lays the variable. In a bare row this is a premise. The card (YtgeafeohfiejcaaGreatDoorCards.lean) ties it to the program's text. -/
def laid_errors_errorType {H : Type} : DataW H := .iface "internal/reflectlite.rtype" (.agg [.ptr (.lit (.string [101, 114, 114, 111, 114]))])

/-- 'stanchionlaw13.EngineApart': WHATEVER THE INPUT: true; the input reads as it did. -/
def engineApartSpec : ChangeSpec := { name := "engineApart", fn := fun _ => fun
  | [d1, d2] => { results := [.lit (.bool true)], args := [d1, d2] }
  | _ => none }
def engineApartRow : OpenClaim := { program := "ytgeafeohfiejcaagreatdoor", sum := "77148f19fe3d59e6fd77c1a69d86333f854651390302428e6052088be0a6ad08", func := "stanchion/stanchionlaw13.EngineApart", spec := "engineApart", inPlace := ["slices.overlaps[stanchion/api.Pair]", "slices.overlaps[stanchion/api.Write]", "internal/abi.NoEscape", "internal/reflectlite.ValueOf", "(internal/reflectlite.Value).Type", "(internal/reflectlite.Value).IsNil", "internal/reflectlite.TypeOf", "(internal/reflectlite.Value).Elem", "(internal/reflectlite.Value).Set"], unfollowed := true, recurses := true, named := ["errors.errorType"], apart := false, laid := [("errors.errorType", laid_errors_errorType)] }
def EngineApartSaid : Prop := engineApartRow.holds Tryz.pinned (OpenSpec.ofChange engineApartSpec)

/-- ITS FALSE NEIGHBOUR: 'it returns false'. Refute it at one input. -/
def engineApartWrong : ChangeSpec := { name := "engineApart", fn := fun _ => fun
  | [d1, d2] => { results := [.lit (.bool false)], args := [d1, d2] }
  | _ => none }
def EngineApartWrongFalsely : Prop := engineApartRow.holds Tryz.pinned (OpenSpec.ofChange engineApartWrong)

/-- 'stanchionlaw13.EngineReads': WHATEVER THE INPUT: true; the input reads as it did. -/
def engineReadsSpec : ChangeSpec := { name := "engineReads", fn := fun _ => fun
  | [d] => { results := [.lit (.bool true)], args := [d] }
  | _ => none }
def engineReadsRow : OpenClaim := { program := "ytgeafeohfiejcaagreatdoor", sum := "77148f19fe3d59e6fd77c1a69d86333f854651390302428e6052088be0a6ad08", func := "stanchion/stanchionlaw13.EngineReads", spec := "engineReads", inPlace := ["slices.overlaps[stanchion/api.Pair]", "slices.overlaps[stanchion/api.Write]", "internal/abi.NoEscape", "internal/reflectlite.ValueOf", "(internal/reflectlite.Value).Type", "(internal/reflectlite.Value).IsNil", "internal/reflectlite.TypeOf", "(internal/reflectlite.Value).Elem", "(internal/reflectlite.Value).Set"], unfollowed := true, recurses := true, named := ["errors.errorType"], apart := false, laid := [("errors.errorType", laid_errors_errorType)] }
def EngineReadsSaid : Prop := engineReadsRow.holds Tryz.pinned (OpenSpec.ofChange engineReadsSpec)

/-- ITS FALSE NEIGHBOUR: 'it returns false'. Refute it at one input. -/
def engineReadsWrong : ChangeSpec := { name := "engineReads", fn := fun _ => fun
  | [d] => { results := [.lit (.bool false)], args := [d] }
  | _ => none }
def EngineReadsWrongFalsely : Prop := engineReadsRow.holds Tryz.pinned (OpenSpec.ofChange engineReadsWrong)

/-- 'stanchionlaw13.EngineEnds': WHATEVER THE INPUT: true; the input reads as it did. -/
def engineEndsSpec : ChangeSpec := { name := "engineEnds", fn := fun _ => fun
  | [d1, d2] => { results := [.lit (.bool true)], args := [d1, d2] }
  | _ => none }
def engineEndsRow : OpenClaim := { program := "ytgeafeohfiejcaagreatdoor", sum := "77148f19fe3d59e6fd77c1a69d86333f854651390302428e6052088be0a6ad08", func := "stanchion/stanchionlaw13.EngineEnds", spec := "engineEnds", inPlace := ["slices.overlaps[stanchion/api.Pair]", "slices.overlaps[stanchion/api.Write]", "internal/abi.NoEscape", "internal/reflectlite.ValueOf", "(internal/reflectlite.Value).Type", "(internal/reflectlite.Value).IsNil", "internal/reflectlite.TypeOf", "(internal/reflectlite.Value).Elem", "(internal/reflectlite.Value).Set"], unfollowed := true, recurses := true, named := ["errors.errorType"], apart := false, laid := [("errors.errorType", laid_errors_errorType)] }
def EngineEndsSaid : Prop := engineEndsRow.holds Tryz.pinned (OpenSpec.ofChange engineEndsSpec)

/-- ITS FALSE NEIGHBOUR: 'it returns false'. Refute it at one input. -/
def engineEndsWrong : ChangeSpec := { name := "engineEnds", fn := fun _ => fun
  | [d1, d2] => { results := [.lit (.bool false)], args := [d1, d2] }
  | _ => none }
def EngineEndsWrongFalsely : Prop := engineEndsRow.holds Tryz.pinned (OpenSpec.ofChange engineEndsWrong)

/-- 'stanchionlaw13.EngineLasts': WHATEVER THE INPUT: true; the input reads as it did. -/
def engineLastsSpec : ChangeSpec := { name := "engineLasts", fn := fun _ => fun
  | [d1, d2] => { results := [.lit (.bool true)], args := [d1, d2] }
  | _ => none }
def engineLastsRow : OpenClaim := { program := "ytgeafeohfiejcaagreatdoor", sum := "77148f19fe3d59e6fd77c1a69d86333f854651390302428e6052088be0a6ad08", func := "stanchion/stanchionlaw13.EngineLasts", spec := "engineLasts", inPlace := ["slices.overlaps[stanchion/api.Pair]", "slices.overlaps[stanchion/api.Write]", "internal/abi.NoEscape", "internal/reflectlite.ValueOf", "(internal/reflectlite.Value).Type", "(internal/reflectlite.Value).IsNil", "internal/reflectlite.TypeOf", "(internal/reflectlite.Value).Elem", "(internal/reflectlite.Value).Set"], unfollowed := true, recurses := true, named := ["errors.errorType"], apart := false, laid := [("errors.errorType", laid_errors_errorType)] }
def EngineLastsSaid : Prop := engineLastsRow.holds Tryz.pinned (OpenSpec.ofChange engineLastsSpec)

/-- ITS FALSE NEIGHBOUR: 'it returns false'. Refute it at one input. -/
def engineLastsWrong : ChangeSpec := { name := "engineLasts", fn := fun _ => fun
  | [d1, d2] => { results := [.lit (.bool false)], args := [d1, d2] }
  | _ => none }
def EngineLastsWrongFalsely : Prop := engineLastsRow.holds Tryz.pinned (OpenSpec.ofChange engineLastsWrong)

/-- 'stanchionlaw13.EngineOwn': WHATEVER THE INPUT: true; the input reads as it did. -/
def engineOwnSpec : ChangeSpec := { name := "engineOwn", fn := fun _ => fun
  | [d] => { results := [.lit (.bool true)], args := [d] }
  | _ => none }
def engineOwnRow : OpenClaim := { program := "ytgeafeohfiejcaagreatdoor", sum := "77148f19fe3d59e6fd77c1a69d86333f854651390302428e6052088be0a6ad08", func := "stanchion/stanchionlaw13.EngineOwn", spec := "engineOwn", inPlace := ["slices.overlaps[stanchion/api.Pair]", "slices.overlaps[stanchion/api.Write]", "internal/abi.NoEscape", "internal/reflectlite.ValueOf", "(internal/reflectlite.Value).Type", "(internal/reflectlite.Value).IsNil", "internal/reflectlite.TypeOf", "(internal/reflectlite.Value).Elem", "(internal/reflectlite.Value).Set"], unfollowed := true, recurses := true, named := ["errors.errorType"], apart := false, laid := [("errors.errorType", laid_errors_errorType)] }
def EngineOwnSaid : Prop := engineOwnRow.holds Tryz.pinned (OpenSpec.ofChange engineOwnSpec)

/-- ITS FALSE NEIGHBOUR: 'it returns false'. Refute it at one input. -/
def engineOwnWrong : ChangeSpec := { name := "engineOwn", fn := fun _ => fun
  | [d] => { results := [.lit (.bool false)], args := [d] }
  | _ => none }
def EngineOwnWrongFalsely : Prop := engineOwnRow.holds Tryz.pinned (OpenSpec.ofChange engineOwnWrong)

/-- 'stanchionlaw13.EngineTokens': WHATEVER THE INPUT: true; the input reads as it did. -/
def engineTokensSpec : ChangeSpec := { name := "engineTokens", fn := fun _ => fun
  | [d1, d2] => { results := [.lit (.bool true)], args := [d1, d2] }
  | _ => none }
def engineTokensRow : OpenClaim := { program := "ytgeafeohfiejcaagreatdoor", sum := "77148f19fe3d59e6fd77c1a69d86333f854651390302428e6052088be0a6ad08", func := "stanchion/stanchionlaw13.EngineTokens", spec := "engineTokens", inPlace := ["slices.overlaps[stanchion/api.Pair]", "slices.overlaps[stanchion/api.Write]", "internal/abi.NoEscape", "internal/reflectlite.ValueOf", "(internal/reflectlite.Value).Type", "(internal/reflectlite.Value).IsNil", "internal/reflectlite.TypeOf", "(internal/reflectlite.Value).Elem", "(internal/reflectlite.Value).Set"], unfollowed := true, recurses := true, named := ["errors.errorType"], apart := false, laid := [("errors.errorType", laid_errors_errorType)] }
def EngineTokensSaid : Prop := engineTokensRow.holds Tryz.pinned (OpenSpec.ofChange engineTokensSpec)

/-- ITS FALSE NEIGHBOUR: 'it returns false'. Refute it at one input. -/
def engineTokensWrong : ChangeSpec := { name := "engineTokens", fn := fun _ => fun
  | [d1, d2] => { results := [.lit (.bool false)], args := [d1, d2] }
  | _ => none }
def EngineTokensWrongFalsely : Prop := engineTokensRow.holds Tryz.pinned (OpenSpec.ofChange engineTokensWrong)

/-- 'stanchionlaw13.EngineAsked': WHATEVER THE INPUT: true; the input reads as it did. -/
def engineAskedSpec : ChangeSpec := { name := "engineAsked", fn := fun _ => fun
  | [d] => { results := [.lit (.bool true)], args := [d] }
  | _ => none }
def engineAskedRow : OpenClaim := { program := "ytgeafeohfiejcaagreatdoor", sum := "77148f19fe3d59e6fd77c1a69d86333f854651390302428e6052088be0a6ad08", func := "stanchion/stanchionlaw13.EngineAsked", spec := "engineAsked", inPlace := ["slices.overlaps[stanchion/api.Pair]", "slices.overlaps[stanchion/api.Write]", "internal/abi.NoEscape", "internal/reflectlite.ValueOf", "(internal/reflectlite.Value).Type", "(internal/reflectlite.Value).IsNil", "internal/reflectlite.TypeOf", "(internal/reflectlite.Value).Elem", "(internal/reflectlite.Value).Set"], unfollowed := true, recurses := true, named := ["errors.errorType"], apart := false, laid := [("errors.errorType", laid_errors_errorType)] }
def EngineAskedSaid : Prop := engineAskedRow.holds Tryz.pinned (OpenSpec.ofChange engineAskedSpec)

/-- ITS FALSE NEIGHBOUR: 'it returns false'. Refute it at one input. -/
def engineAskedWrong : ChangeSpec := { name := "engineAsked", fn := fun _ => fun
  | [d] => { results := [.lit (.bool false)], args := [d] }
  | _ => none }
def EngineAskedWrongFalsely : Prop := engineAskedRow.holds Tryz.pinned (OpenSpec.ofChange engineAskedWrong)

/- THE SECOND FORM. 'bulk': how many values and letters a reading holds, each counted each time it is reached (what is shared counts as often as it is met; a slice's spare places count too). A statement '..UptoSaid' is the law's where the arguments, and the package variables that the reading takes, are together of bulk at most 1048576: NARROWER than '..Said'. Prove '..Said' where nothing that the law and all that it calls make is longer than what came in: it says more and counts as full. Else prove '..UptoSaid'. A law counts once. -/
mutual
def uptoBulk {H : Type} : DataW H → Nat
  | .lit (.string bytes) => bytes.length + 1
  | .lit _ => 1
  | .nil => 1
  | .ptr d => uptoBulk d + 1
  | .slice elems spare => uptoBulkAll elems + uptoBulkAll spare + 1
  | .agg parts => uptoBulkAll parts + 1
  | .iface _ d => uptoBulk d + 1
  | .map entries => uptoBulkEntries entries + 1
  | .held _ => 1
def uptoBulkAll {H : Type} : List (DataW H) → Nat
  | [] => 0
  | d :: r => uptoBulk d + uptoBulkAll r
def uptoBulkEntries {H : Type} : List (Lit × DataW H) → Nat
  | [] => 0
  | x :: r => uptoBulkEntry x + uptoBulkEntries r
def uptoBulkEntry {H : Type} : Lit × DataW H → Nat
  | (.string bytes, d) => bytes.length + uptoBulk d + 1
  | (_, d) => uptoBulk d + 1
 end
def uptoSmall : (H : Type) → List (DataW H) → Bool := fun _ ds => decide (uptoBulkAll ds ≤ 1048576)
def OpenSpec.upto (s : _root_.Go.ChangeSpec) : _root_.Go.OpenSpec := { _root_.Go.OpenSpec.ofChange s with cond := some uptoSmall }

/-- 'stanchionlaw13.EngineApart', WHERE WHAT IT READS IS OF BULK AT MOST 1048576: true; the input reads as it did. -/
def engineApartUptoRow : OpenClaim := { program := "ytgeafeohfiejcaagreatdoor", sum := "77148f19fe3d59e6fd77c1a69d86333f854651390302428e6052088be0a6ad08", func := "stanchion/stanchionlaw13.EngineApart", spec := "engineApart", inPlace := ["slices.overlaps[stanchion/api.Pair]", "slices.overlaps[stanchion/api.Write]", "internal/abi.NoEscape", "internal/reflectlite.ValueOf", "(internal/reflectlite.Value).Type", "(internal/reflectlite.Value).IsNil", "internal/reflectlite.TypeOf", "(internal/reflectlite.Value).Elem", "(internal/reflectlite.Value).Set"], unfollowed := true, recurses := true, named := ["errors.errorType"], apart := false, laid := [("errors.errorType", laid_errors_errorType)], narrowed := true }
def EngineApartUptoSaid : Prop := engineApartUptoRow.holds Tryz.pinned (OpenSpec.upto engineApartSpec)

/-- 'stanchionlaw13.EngineReads', WHERE WHAT IT READS IS OF BULK AT MOST 1048576: true; the input reads as it did. -/
def engineReadsUptoRow : OpenClaim := { program := "ytgeafeohfiejcaagreatdoor", sum := "77148f19fe3d59e6fd77c1a69d86333f854651390302428e6052088be0a6ad08", func := "stanchion/stanchionlaw13.EngineReads", spec := "engineReads", inPlace := ["slices.overlaps[stanchion/api.Pair]", "slices.overlaps[stanchion/api.Write]", "internal/abi.NoEscape", "internal/reflectlite.ValueOf", "(internal/reflectlite.Value).Type", "(internal/reflectlite.Value).IsNil", "internal/reflectlite.TypeOf", "(internal/reflectlite.Value).Elem", "(internal/reflectlite.Value).Set"], unfollowed := true, recurses := true, named := ["errors.errorType"], apart := false, laid := [("errors.errorType", laid_errors_errorType)], narrowed := true }
def EngineReadsUptoSaid : Prop := engineReadsUptoRow.holds Tryz.pinned (OpenSpec.upto engineReadsSpec)

/-- 'stanchionlaw13.EngineEnds', WHERE WHAT IT READS IS OF BULK AT MOST 1048576: true; the input reads as it did. -/
def engineEndsUptoRow : OpenClaim := { program := "ytgeafeohfiejcaagreatdoor", sum := "77148f19fe3d59e6fd77c1a69d86333f854651390302428e6052088be0a6ad08", func := "stanchion/stanchionlaw13.EngineEnds", spec := "engineEnds", inPlace := ["slices.overlaps[stanchion/api.Pair]", "slices.overlaps[stanchion/api.Write]", "internal/abi.NoEscape", "internal/reflectlite.ValueOf", "(internal/reflectlite.Value).Type", "(internal/reflectlite.Value).IsNil", "internal/reflectlite.TypeOf", "(internal/reflectlite.Value).Elem", "(internal/reflectlite.Value).Set"], unfollowed := true, recurses := true, named := ["errors.errorType"], apart := false, laid := [("errors.errorType", laid_errors_errorType)], narrowed := true }
def EngineEndsUptoSaid : Prop := engineEndsUptoRow.holds Tryz.pinned (OpenSpec.upto engineEndsSpec)

/-- 'stanchionlaw13.EngineLasts', WHERE WHAT IT READS IS OF BULK AT MOST 1048576: true; the input reads as it did. -/
def engineLastsUptoRow : OpenClaim := { program := "ytgeafeohfiejcaagreatdoor", sum := "77148f19fe3d59e6fd77c1a69d86333f854651390302428e6052088be0a6ad08", func := "stanchion/stanchionlaw13.EngineLasts", spec := "engineLasts", inPlace := ["slices.overlaps[stanchion/api.Pair]", "slices.overlaps[stanchion/api.Write]", "internal/abi.NoEscape", "internal/reflectlite.ValueOf", "(internal/reflectlite.Value).Type", "(internal/reflectlite.Value).IsNil", "internal/reflectlite.TypeOf", "(internal/reflectlite.Value).Elem", "(internal/reflectlite.Value).Set"], unfollowed := true, recurses := true, named := ["errors.errorType"], apart := false, laid := [("errors.errorType", laid_errors_errorType)], narrowed := true }
def EngineLastsUptoSaid : Prop := engineLastsUptoRow.holds Tryz.pinned (OpenSpec.upto engineLastsSpec)

/-- 'stanchionlaw13.EngineOwn', WHERE WHAT IT READS IS OF BULK AT MOST 1048576: true; the input reads as it did. -/
def engineOwnUptoRow : OpenClaim := { program := "ytgeafeohfiejcaagreatdoor", sum := "77148f19fe3d59e6fd77c1a69d86333f854651390302428e6052088be0a6ad08", func := "stanchion/stanchionlaw13.EngineOwn", spec := "engineOwn", inPlace := ["slices.overlaps[stanchion/api.Pair]", "slices.overlaps[stanchion/api.Write]", "internal/abi.NoEscape", "internal/reflectlite.ValueOf", "(internal/reflectlite.Value).Type", "(internal/reflectlite.Value).IsNil", "internal/reflectlite.TypeOf", "(internal/reflectlite.Value).Elem", "(internal/reflectlite.Value).Set"], unfollowed := true, recurses := true, named := ["errors.errorType"], apart := false, laid := [("errors.errorType", laid_errors_errorType)], narrowed := true }
def EngineOwnUptoSaid : Prop := engineOwnUptoRow.holds Tryz.pinned (OpenSpec.upto engineOwnSpec)

/-- 'stanchionlaw13.EngineTokens', WHERE WHAT IT READS IS OF BULK AT MOST 1048576: true; the input reads as it did. -/
def engineTokensUptoRow : OpenClaim := { program := "ytgeafeohfiejcaagreatdoor", sum := "77148f19fe3d59e6fd77c1a69d86333f854651390302428e6052088be0a6ad08", func := "stanchion/stanchionlaw13.EngineTokens", spec := "engineTokens", inPlace := ["slices.overlaps[stanchion/api.Pair]", "slices.overlaps[stanchion/api.Write]", "internal/abi.NoEscape", "internal/reflectlite.ValueOf", "(internal/reflectlite.Value).Type", "(internal/reflectlite.Value).IsNil", "internal/reflectlite.TypeOf", "(internal/reflectlite.Value).Elem", "(internal/reflectlite.Value).Set"], unfollowed := true, recurses := true, named := ["errors.errorType"], apart := false, laid := [("errors.errorType", laid_errors_errorType)], narrowed := true }
def EngineTokensUptoSaid : Prop := engineTokensUptoRow.holds Tryz.pinned (OpenSpec.upto engineTokensSpec)

/-- 'stanchionlaw13.EngineAsked', WHERE WHAT IT READS IS OF BULK AT MOST 1048576: true; the input reads as it did. -/
def engineAskedUptoRow : OpenClaim := { program := "ytgeafeohfiejcaagreatdoor", sum := "77148f19fe3d59e6fd77c1a69d86333f854651390302428e6052088be0a6ad08", func := "stanchion/stanchionlaw13.EngineAsked", spec := "engineAsked", inPlace := ["slices.overlaps[stanchion/api.Pair]", "slices.overlaps[stanchion/api.Write]", "internal/abi.NoEscape", "internal/reflectlite.ValueOf", "(internal/reflectlite.Value).Type", "(internal/reflectlite.Value).IsNil", "internal/reflectlite.TypeOf", "(internal/reflectlite.Value).Elem", "(internal/reflectlite.Value).Set"], unfollowed := true, recurses := true, named := ["errors.errorType"], apart := false, laid := [("errors.errorType", laid_errors_errorType)], narrowed := true }
def EngineAskedUptoSaid : Prop := engineAskedUptoRow.holds Tryz.pinned (OpenSpec.upto engineAskedSpec)

end Rows
end Go.Proofs.YtgeafeohfiejcaaGreatDoor
