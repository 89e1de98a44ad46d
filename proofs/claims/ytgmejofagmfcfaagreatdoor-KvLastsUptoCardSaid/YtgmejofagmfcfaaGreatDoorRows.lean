/-
  NARROWER THAN 'FOR EVERY INPUT', by the rows' own cells (each row's printed sentence says how): KvOnce: laid · KvCommits: laid · KvOpens: laid · KvRuns: laid · KvLasts: laid · KvChecks: laid · KvDoes: laid.
  DERIVED. THE GIVEN ROWS OF THIS SEAT. 7 by the template 'for every input the law returns true; each argument reads behind the call as it read before'; 0 by the template 'total and deterministic' (their statements: YtgmejofagmfcfaaGreatDoorTotals.lean).
  GIVEN WITH THE SEED: the statements are not yours to turn. If you find one false, say at which input.
  Laid BY PROGRAM, IN A SANDBOX (cutbox-rows.mjs): the forced cells as the released guide's own fill.sh prints them over the translation 306cf6778b186cfa… (all of the seat's roots in one cut). By AI agents, Wed Nov 11 2026. No macro, syntax, notation, axiom, sorry.
-/
import Derived.Test.YtgmejofagmfcfaaGreatDoorChecked
import GoSem.Claim
import GoSem.ClaimJoined
import GoSem.ClaimMapViews
import Derived.JoinedTies
import Derived.KernelRfl
namespace Go.Proofs.YtgmejofagmfcfaaGreatDoor
/- THE CELL 'sum', in the pinned program and in every row, IS THE sha256 OF THE DUMP (.gsa) THAT YtgmejofagmfcfaaGreatDoorProg.lean LOADS. Nothing in Lean hashes anything: it is a label: what it is worth is what the hold of that sum in a sandbox is worth. -/
noncomputable def Tryz.pinned : Pinned := { name := "ytgmejofagmfcfaagreatdoor", sum := "306cf6778b186cfa66276e416be759a6a626fa37d1136c9b0ab49f37aaeb9792", checked := Tryz.checked }
namespace Rows
def none {H : Type} : Left H := { results := [], args := [] }

/- WHAT THE LISTED PACKAGE-LEVEL VARIABLES READ AS WHEN THE CALL BEGINS. Each datum BY PROGRAM (the guide's laid-datum.mjs) off the statement by which the dump's own 'gosem.cut.vars' lays the variable. In a bare row this is a premise. The card (YtgmejofagmfcfaaGreatDoorCards.lean) ties it to the program's text. -/
def laid_errors_errorType {H : Type} : DataW H := .iface "internal/reflectlite.rtype" (.agg [.ptr (.lit (.string [101, 114, 114, 111, 114]))])

/-- 'stanchionlaw08.KvOnce': WHATEVER THE INPUT: true; the input reads as it did. -/
def kvOnceSpec : ChangeSpec := { name := "kvOnce", fn := fun _ => fun
  | [d] => { results := [.lit (.bool true)], args := [d] }
  | _ => none }
def kvOnceRow : OpenClaim := { program := "ytgmejofagmfcfaagreatdoor", sum := "306cf6778b186cfa66276e416be759a6a626fa37d1136c9b0ab49f37aaeb9792", func := "stanchion/stanchionlaw08.KvOnce", spec := "kvOnce", inPlace := ["slices.overlaps[stanchion/api.Pair]", "internal/abi.NoEscape", "internal/reflectlite.ValueOf", "(internal/reflectlite.Value).Type", "(internal/reflectlite.Value).IsNil", "internal/reflectlite.TypeOf", "(internal/reflectlite.Value).Elem", "(internal/reflectlite.Value).Set"], unfollowed := true, recurses := true, named := ["errors.errorType"], apart := false, laid := [("errors.errorType", laid_errors_errorType)] }
def KvOnceSaid : Prop := kvOnceRow.holds Tryz.pinned (OpenSpec.ofChange kvOnceSpec)

/-- ITS FALSE NEIGHBOUR: 'it returns false'. Refute it at one input. -/
def kvOnceWrong : ChangeSpec := { name := "kvOnce", fn := fun _ => fun
  | [d] => { results := [.lit (.bool false)], args := [d] }
  | _ => none }
def KvOnceWrongFalsely : Prop := kvOnceRow.holds Tryz.pinned (OpenSpec.ofChange kvOnceWrong)

/-- 'stanchionlaw08.KvCommits': WHATEVER THE INPUT: true; the input reads as it did. -/
def kvCommitsSpec : ChangeSpec := { name := "kvCommits", fn := fun _ => fun
  | [d1, d2] => { results := [.lit (.bool true)], args := [d1, d2] }
  | _ => none }
def kvCommitsRow : OpenClaim := { program := "ytgmejofagmfcfaagreatdoor", sum := "306cf6778b186cfa66276e416be759a6a626fa37d1136c9b0ab49f37aaeb9792", func := "stanchion/stanchionlaw08.KvCommits", spec := "kvCommits", inPlace := ["slices.overlaps[stanchion/api.Pair]", "internal/abi.NoEscape", "internal/reflectlite.ValueOf", "(internal/reflectlite.Value).Type", "(internal/reflectlite.Value).IsNil", "internal/reflectlite.TypeOf", "(internal/reflectlite.Value).Elem", "(internal/reflectlite.Value).Set"], unfollowed := true, recurses := true, named := ["errors.errorType"], apart := false, laid := [("errors.errorType", laid_errors_errorType)] }
def KvCommitsSaid : Prop := kvCommitsRow.holds Tryz.pinned (OpenSpec.ofChange kvCommitsSpec)

/-- ITS FALSE NEIGHBOUR: 'it returns false'. Refute it at one input. -/
def kvCommitsWrong : ChangeSpec := { name := "kvCommits", fn := fun _ => fun
  | [d1, d2] => { results := [.lit (.bool false)], args := [d1, d2] }
  | _ => none }
def KvCommitsWrongFalsely : Prop := kvCommitsRow.holds Tryz.pinned (OpenSpec.ofChange kvCommitsWrong)

/-- 'stanchionlaw08.KvOpens': WHATEVER THE INPUT: true; the input reads as it did. -/
def kvOpensSpec : ChangeSpec := { name := "kvOpens", fn := fun _ => fun
  | [d] => { results := [.lit (.bool true)], args := [d] }
  | _ => none }
def kvOpensRow : OpenClaim := { program := "ytgmejofagmfcfaagreatdoor", sum := "306cf6778b186cfa66276e416be759a6a626fa37d1136c9b0ab49f37aaeb9792", func := "stanchion/stanchionlaw08.KvOpens", spec := "kvOpens", inPlace := ["slices.overlaps[stanchion/api.Pair]", "internal/abi.NoEscape", "internal/reflectlite.ValueOf", "(internal/reflectlite.Value).Type", "(internal/reflectlite.Value).IsNil", "internal/reflectlite.TypeOf", "(internal/reflectlite.Value).Elem", "(internal/reflectlite.Value).Set"], unfollowed := true, recurses := true, named := ["errors.errorType"], apart := false, laid := [("errors.errorType", laid_errors_errorType)] }
def KvOpensSaid : Prop := kvOpensRow.holds Tryz.pinned (OpenSpec.ofChange kvOpensSpec)

/-- ITS FALSE NEIGHBOUR: 'it returns false'. Refute it at one input. -/
def kvOpensWrong : ChangeSpec := { name := "kvOpens", fn := fun _ => fun
  | [d] => { results := [.lit (.bool false)], args := [d] }
  | _ => none }
def KvOpensWrongFalsely : Prop := kvOpensRow.holds Tryz.pinned (OpenSpec.ofChange kvOpensWrong)

/-- 'stanchionlaw08.KvRuns': WHATEVER THE INPUT: true; the input reads as it did. -/
def kvRunsSpec : ChangeSpec := { name := "kvRuns", fn := fun _ => fun
  | [d1, d2] => { results := [.lit (.bool true)], args := [d1, d2] }
  | _ => none }
def kvRunsRow : OpenClaim := { program := "ytgmejofagmfcfaagreatdoor", sum := "306cf6778b186cfa66276e416be759a6a626fa37d1136c9b0ab49f37aaeb9792", func := "stanchion/stanchionlaw08.KvRuns", spec := "kvRuns", inPlace := ["slices.overlaps[stanchion/api.Pair]", "internal/abi.NoEscape", "internal/reflectlite.ValueOf", "(internal/reflectlite.Value).Type", "(internal/reflectlite.Value).IsNil", "internal/reflectlite.TypeOf", "(internal/reflectlite.Value).Elem", "(internal/reflectlite.Value).Set"], unfollowed := true, recurses := true, named := ["errors.errorType"], apart := false, laid := [("errors.errorType", laid_errors_errorType)] }
def KvRunsSaid : Prop := kvRunsRow.holds Tryz.pinned (OpenSpec.ofChange kvRunsSpec)

/-- ITS FALSE NEIGHBOUR: 'it returns false'. Refute it at one input. -/
def kvRunsWrong : ChangeSpec := { name := "kvRuns", fn := fun _ => fun
  | [d1, d2] => { results := [.lit (.bool false)], args := [d1, d2] }
  | _ => none }
def KvRunsWrongFalsely : Prop := kvRunsRow.holds Tryz.pinned (OpenSpec.ofChange kvRunsWrong)

/-- 'stanchionlaw08.KvLasts': WHATEVER THE INPUT: true; the input reads as it did. -/
def kvLastsSpec : ChangeSpec := { name := "kvLasts", fn := fun _ => fun
  | [d1, d2] => { results := [.lit (.bool true)], args := [d1, d2] }
  | _ => none }
def kvLastsRow : OpenClaim := { program := "ytgmejofagmfcfaagreatdoor", sum := "306cf6778b186cfa66276e416be759a6a626fa37d1136c9b0ab49f37aaeb9792", func := "stanchion/stanchionlaw08.KvLasts", spec := "kvLasts", inPlace := ["slices.overlaps[stanchion/api.Pair]", "internal/abi.NoEscape", "internal/reflectlite.ValueOf", "(internal/reflectlite.Value).Type", "(internal/reflectlite.Value).IsNil", "internal/reflectlite.TypeOf", "(internal/reflectlite.Value).Elem", "(internal/reflectlite.Value).Set"], unfollowed := true, recurses := true, named := ["errors.errorType"], apart := false, laid := [("errors.errorType", laid_errors_errorType)] }
def KvLastsSaid : Prop := kvLastsRow.holds Tryz.pinned (OpenSpec.ofChange kvLastsSpec)

/-- ITS FALSE NEIGHBOUR: 'it returns false'. Refute it at one input. -/
def kvLastsWrong : ChangeSpec := { name := "kvLasts", fn := fun _ => fun
  | [d1, d2] => { results := [.lit (.bool false)], args := [d1, d2] }
  | _ => none }
def KvLastsWrongFalsely : Prop := kvLastsRow.holds Tryz.pinned (OpenSpec.ofChange kvLastsWrong)

/-- 'stanchionlaw08.KvChecks': WHATEVER THE INPUT: true; the input reads as it did. -/
def kvChecksSpec : ChangeSpec := { name := "kvChecks", fn := fun _ => fun
  | [d] => { results := [.lit (.bool true)], args := [d] }
  | _ => none }
def kvChecksRow : OpenClaim := { program := "ytgmejofagmfcfaagreatdoor", sum := "306cf6778b186cfa66276e416be759a6a626fa37d1136c9b0ab49f37aaeb9792", func := "stanchion/stanchionlaw08.KvChecks", spec := "kvChecks", inPlace := ["slices.overlaps[stanchion/api.Pair]", "internal/abi.NoEscape", "internal/reflectlite.ValueOf", "(internal/reflectlite.Value).Type", "(internal/reflectlite.Value).IsNil", "internal/reflectlite.TypeOf", "(internal/reflectlite.Value).Elem", "(internal/reflectlite.Value).Set"], unfollowed := true, recurses := true, named := ["errors.errorType"], apart := false, laid := [("errors.errorType", laid_errors_errorType)] }
def KvChecksSaid : Prop := kvChecksRow.holds Tryz.pinned (OpenSpec.ofChange kvChecksSpec)

/-- ITS FALSE NEIGHBOUR: 'it returns false'. Refute it at one input. -/
def kvChecksWrong : ChangeSpec := { name := "kvChecks", fn := fun _ => fun
  | [d] => { results := [.lit (.bool false)], args := [d] }
  | _ => none }
def KvChecksWrongFalsely : Prop := kvChecksRow.holds Tryz.pinned (OpenSpec.ofChange kvChecksWrong)

/-- 'stanchionlaw08.KvDoes': WHATEVER THE INPUT: true; the input reads as it did. -/
def kvDoesSpec : ChangeSpec := { name := "kvDoes", fn := fun _ => fun
  | [d] => { results := [.lit (.bool true)], args := [d] }
  | _ => none }
def kvDoesRow : OpenClaim := { program := "ytgmejofagmfcfaagreatdoor", sum := "306cf6778b186cfa66276e416be759a6a626fa37d1136c9b0ab49f37aaeb9792", func := "stanchion/stanchionlaw08.KvDoes", spec := "kvDoes", inPlace := ["slices.overlaps[stanchion/api.Pair]", "internal/abi.NoEscape", "internal/reflectlite.ValueOf", "(internal/reflectlite.Value).Type", "(internal/reflectlite.Value).IsNil", "internal/reflectlite.TypeOf", "(internal/reflectlite.Value).Elem", "(internal/reflectlite.Value).Set"], unfollowed := true, recurses := true, named := ["errors.errorType"], apart := false, laid := [("errors.errorType", laid_errors_errorType)] }
def KvDoesSaid : Prop := kvDoesRow.holds Tryz.pinned (OpenSpec.ofChange kvDoesSpec)

/-- ITS FALSE NEIGHBOUR: 'it returns false'. Refute it at one input. -/
def kvDoesWrong : ChangeSpec := { name := "kvDoes", fn := fun _ => fun
  | [d] => { results := [.lit (.bool false)], args := [d] }
  | _ => none }
def KvDoesWrongFalsely : Prop := kvDoesRow.holds Tryz.pinned (OpenSpec.ofChange kvDoesWrong)

/- THE SECOND FORM. 'bulk': how many values and letters a reading holds, each counted each time it is reached (what is shared counts as often as it is met; a slice's spare places count too). A statement '..UptoSaid' is the law's where the arguments, and the package variables that the reading takes, are together of bulk at most 1048576: NARROWER than '..Said'. Prove '..Said' where nothing that the law and all that it calls make is longer than what came in: it says more and counts as full. Else prove '..UptoSaid'. A law counts once. -/
mutual
def uptoBulk {H : Type} : DataW H → Nat
  | .lit (.string bytes) => bytes.length + 1
  | .lit _ => 1
  | .nil => 1
  | .ptr d => uptoBulk d + 1
  | .slice elems spare => uptoBulkAll elems + uptoBulkAll spare + 1
  | .agg parts => uptoBulkAll parts + 1
  | .iface _ d => uptoBulk d + 1
  | .map entries => uptoBulkEntries entries + 1
  | .held _ => 1
def uptoBulkAll {H : Type} : List (DataW H) → Nat
  | [] => 0
  | d :: r => uptoBulk d + uptoBulkAll r
def uptoBulkEntries {H : Type} : List (Lit × DataW H) → Nat
  | [] => 0
  | x :: r => uptoBulkEntry x + uptoBulkEntries r
def uptoBulkEntry {H : Type} : Lit × DataW H → Nat
  | (.string bytes, d) => bytes.length + uptoBulk d + 1
  | (_, d) => uptoBulk d + 1
 end
def uptoSmall : (H : Type) → List (DataW H) → Bool := fun _ ds => decide (uptoBulkAll ds ≤ 1048576)
def OpenSpec.upto (s : _root_.Go.ChangeSpec) : _root_.Go.OpenSpec := { _root_.Go.OpenSpec.ofChange s with cond := some uptoSmall }

/-- 'stanchionlaw08.KvOnce', WHERE WHAT IT READS IS OF BULK AT MOST 1048576: true; the input reads as it did. -/
def kvOnceUptoRow : OpenClaim := { program := "ytgmejofagmfcfaagreatdoor", sum := "306cf6778b186cfa66276e416be759a6a626fa37d1136c9b0ab49f37aaeb9792", func := "stanchion/stanchionlaw08.KvOnce", spec := "kvOnce", inPlace := ["slices.overlaps[stanchion/api.Pair]", "internal/abi.NoEscape", "internal/reflectlite.ValueOf", "(internal/reflectlite.Value).Type", "(internal/reflectlite.Value).IsNil", "internal/reflectlite.TypeOf", "(internal/reflectlite.Value).Elem", "(internal/reflectlite.Value).Set"], unfollowed := true, recurses := true, named := ["errors.errorType"], apart := false, laid := [("errors.errorType", laid_errors_errorType)], narrowed := true }
def KvOnceUptoSaid : Prop := kvOnceUptoRow.holds Tryz.pinned (OpenSpec.upto kvOnceSpec)

/-- 'stanchionlaw08.KvCommits', WHERE WHAT IT READS IS OF BULK AT MOST 1048576: true; the input reads as it did. -/
def kvCommitsUptoRow : OpenClaim := { program := "ytgmejofagmfcfaagreatdoor", sum := "306cf6778b186cfa66276e416be759a6a626fa37d1136c9b0ab49f37aaeb9792", func := "stanchion/stanchionlaw08.KvCommits", spec := "kvCommits", inPlace := ["slices.overlaps[stanchion/api.Pair]", "internal/abi.NoEscape", "internal/reflectlite.ValueOf", "(internal/reflectlite.Value).Type", "(internal/reflectlite.Value).IsNil", "internal/reflectlite.TypeOf", "(internal/reflectlite.Value).Elem", "(internal/reflectlite.Value).Set"], unfollowed := true, recurses := true, named := ["errors.errorType"], apart := false, laid := [("errors.errorType", laid_errors_errorType)], narrowed := true }
def KvCommitsUptoSaid : Prop := kvCommitsUptoRow.holds Tryz.pinned (OpenSpec.upto kvCommitsSpec)

/-- 'stanchionlaw08.KvOpens', WHERE WHAT IT READS IS OF BULK AT MOST 1048576: true; the input reads as it did. -/
def kvOpensUptoRow : OpenClaim := { program := "ytgmejofagmfcfaagreatdoor", sum := "306cf6778b186cfa66276e416be759a6a626fa37d1136c9b0ab49f37aaeb9792", func := "stanchion/stanchionlaw08.KvOpens", spec := "kvOpens", inPlace := ["slices.overlaps[stanchion/api.Pair]", "internal/abi.NoEscape", "internal/reflectlite.ValueOf", "(internal/reflectlite.Value).Type", "(internal/reflectlite.Value).IsNil", "internal/reflectlite.TypeOf", "(internal/reflectlite.Value).Elem", "(internal/reflectlite.Value).Set"], unfollowed := true, recurses := true, named := ["errors.errorType"], apart := false, laid := [("errors.errorType", laid_errors_errorType)], narrowed := true }
def KvOpensUptoSaid : Prop := kvOpensUptoRow.holds Tryz.pinned (OpenSpec.upto kvOpensSpec)

/-- 'stanchionlaw08.KvRuns', WHERE WHAT IT READS IS OF BULK AT MOST 1048576: true; the input reads as it did. -/
def kvRunsUptoRow : OpenClaim := { program := "ytgmejofagmfcfaagreatdoor", sum := "306cf6778b186cfa66276e416be759a6a626fa37d1136c9b0ab49f37aaeb9792", func := "stanchion/stanchionlaw08.KvRuns", spec := "kvRuns", inPlace := ["slices.overlaps[stanchion/api.Pair]", "internal/abi.NoEscape", "internal/reflectlite.ValueOf", "(internal/reflectlite.Value).Type", "(internal/reflectlite.Value).IsNil", "internal/reflectlite.TypeOf", "(internal/reflectlite.Value).Elem", "(internal/reflectlite.Value).Set"], unfollowed := true, recurses := true, named := ["errors.errorType"], apart := false, laid := [("errors.errorType", laid_errors_errorType)], narrowed := true }
def KvRunsUptoSaid : Prop := kvRunsUptoRow.holds Tryz.pinned (OpenSpec.upto kvRunsSpec)

/-- 'stanchionlaw08.KvLasts', WHERE WHAT IT READS IS OF BULK AT MOST 1048576: true; the input reads as it did. -/
def kvLastsUptoRow : OpenClaim := { program := "ytgmejofagmfcfaagreatdoor", sum := "306cf6778b186cfa66276e416be759a6a626fa37d1136c9b0ab49f37aaeb9792", func := "stanchion/stanchionlaw08.KvLasts", spec := "kvLasts", inPlace := ["slices.overlaps[stanchion/api.Pair]", "internal/abi.NoEscape", "internal/reflectlite.ValueOf", "(internal/reflectlite.Value).Type", "(internal/reflectlite.Value).IsNil", "internal/reflectlite.TypeOf", "(internal/reflectlite.Value).Elem", "(internal/reflectlite.Value).Set"], unfollowed := true, recurses := true, named := ["errors.errorType"], apart := false, laid := [("errors.errorType", laid_errors_errorType)], narrowed := true }
def KvLastsUptoSaid : Prop := kvLastsUptoRow.holds Tryz.pinned (OpenSpec.upto kvLastsSpec)

/-- 'stanchionlaw08.KvChecks', WHERE WHAT IT READS IS OF BULK AT MOST 1048576: true; the input reads as it did. -/
def kvChecksUptoRow : OpenClaim := { program := "ytgmejofagmfcfaagreatdoor", sum := "306cf6778b186cfa66276e416be759a6a626fa37d1136c9b0ab49f37aaeb9792", func := "stanchion/stanchionlaw08.KvChecks", spec := "kvChecks", inPlace := ["slices.overlaps[stanchion/api.Pair]", "internal/abi.NoEscape", "internal/reflectlite.ValueOf", "(internal/reflectlite.Value).Type", "(internal/reflectlite.Value).IsNil", "internal/reflectlite.TypeOf", "(internal/reflectlite.Value).Elem", "(internal/reflectlite.Value).Set"], unfollowed := true, recurses := true, named := ["errors.errorType"], apart := false, laid := [("errors.errorType", laid_errors_errorType)], narrowed := true }
def KvChecksUptoSaid : Prop := kvChecksUptoRow.holds Tryz.pinned (OpenSpec.upto kvChecksSpec)

/-- 'stanchionlaw08.KvDoes', WHERE WHAT IT READS IS OF BULK AT MOST 1048576: true; the input reads as it did. -/
def kvDoesUptoRow : OpenClaim := { program := "ytgmejofagmfcfaagreatdoor", sum := "306cf6778b186cfa66276e416be759a6a626fa37d1136c9b0ab49f37aaeb9792", func := "stanchion/stanchionlaw08.KvDoes", spec := "kvDoes", inPlace := ["slices.overlaps[stanchion/api.Pair]", "internal/abi.NoEscape", "internal/reflectlite.ValueOf", "(internal/reflectlite.Value).Type", "(internal/reflectlite.Value).IsNil", "internal/reflectlite.TypeOf", "(internal/reflectlite.Value).Elem", "(internal/reflectlite.Value).Set"], unfollowed := true, recurses := true, named := ["errors.errorType"], apart := false, laid := [("errors.errorType", laid_errors_errorType)], narrowed := true }
def KvDoesUptoSaid : Prop := kvDoesUptoRow.holds Tryz.pinned (OpenSpec.upto kvDoesSpec)

end Rows
end Go.Proofs.YtgmejofagmfcfaaGreatDoor
