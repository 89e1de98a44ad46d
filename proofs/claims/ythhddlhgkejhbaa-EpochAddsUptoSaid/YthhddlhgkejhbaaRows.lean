/-
  No cell of these rows narrows 'for every input' (looked for: loops, veiled, ifaces, maps, wideKeys, modest, calm, conditions, laid).
  DERIVED. THE GIVEN ROWS OF THIS SEAT. 6 by the template 'for every input the law returns true; each argument reads behind the call as it read before'; 0 by the template 'total and deterministic' (their statements: YthhddlhgkejhbaaTotals.lean).
  GIVEN WITH THE SEED: the statements are not yours to turn. If you find one false, say at which input.
  Laid BY PROGRAM, IN A SANDBOX (cutbox-rows.mjs): the forced cells as the released guide's own fill.sh prints them over the translation 70985ded49eb5c28… (all of the seat's roots in one cut). By AI agents, Wed Nov 11 2026. No macro, syntax, notation, axiom, sorry.
-/
import Derived.Test.YthhddlhgkejhbaaChecked
import GoSem.Claim
import GoSem.ClaimJoined
import GoSem.ClaimMapViews
import Derived.JoinedTies
import Derived.KernelRfl
namespace Go.Proofs.Ythhddlhgkejhbaa
/- THE CELL 'sum', in the pinned program and in every row, IS THE sha256 OF THE DUMP (.gsa) THAT YthhddlhgkejhbaaProg.lean LOADS. Nothing in Lean hashes anything: it is a label: what it is worth is what the hold of that sum in a sandbox is worth. -/
noncomputable def Try.pinned : Pinned := { name := "ythhddlhgkejhbaa", sum := "70985ded49eb5c28777020929833ffc7fdf9c487e4d64d0a21b69e2423799ab9", checked := Try.checked }
namespace Rows
def none {H : Type} : Left H := { results := [], args := [] }

/-- 'stanchionlaw18.EpochBytes': WHATEVER THE INPUT: true; the input reads as it did. -/
def epochBytesSpec : ChangeSpec := { name := "epochBytes", fn := fun _ => fun
  | [d1, d2, d3] => { results := [.lit (.bool true)], args := [d1, d2, d3] }
  | _ => none }
def epochBytesRow : OpenClaim := { program := "ythhddlhgkejhbaa", sum := "70985ded49eb5c28777020929833ffc7fdf9c487e4d64d0a21b69e2423799ab9", func := "stanchion/stanchionlaw18.EpochBytes", spec := "epochBytes", inPlace := ["internal/reflectlite.TypeOf"], unfollowed := true, recurses := true, apart := false }
def EpochBytesSaid : Prop := epochBytesRow.holds Try.pinned (OpenSpec.ofChange epochBytesSpec)

/-- ITS FALSE NEIGHBOUR: 'it returns false'. Refute it at one input. -/
def epochBytesWrong : ChangeSpec := { name := "epochBytes", fn := fun _ => fun
  | [d1, d2, d3] => { results := [.lit (.bool false)], args := [d1, d2, d3] }
  | _ => none }
def EpochBytesWrongFalsely : Prop := epochBytesRow.holds Try.pinned (OpenSpec.ofChange epochBytesWrong)

/-- 'stanchionlaw18.EpochNext': WHATEVER THE INPUT: true; the input reads as it did. -/
def epochNextSpec : ChangeSpec := { name := "epochNext", fn := fun _ => fun
  | [d] => { results := [.lit (.bool true)], args := [d] }
  | _ => none }
def epochNextRow : OpenClaim := { program := "ythhddlhgkejhbaa", sum := "70985ded49eb5c28777020929833ffc7fdf9c487e4d64d0a21b69e2423799ab9", func := "stanchion/stanchionlaw18.EpochNext", spec := "epochNext", inPlace := ["internal/reflectlite.TypeOf"], unfollowed := true, recurses := true, apart := false }
def EpochNextSaid : Prop := epochNextRow.holds Try.pinned (OpenSpec.ofChange epochNextSpec)

/-- ITS FALSE NEIGHBOUR: 'it returns false'. Refute it at one input. -/
def epochNextWrong : ChangeSpec := { name := "epochNext", fn := fun _ => fun
  | [d] => { results := [.lit (.bool false)], args := [d] }
  | _ => none }
def EpochNextWrongFalsely : Prop := epochNextRow.holds Try.pinned (OpenSpec.ofChange epochNextWrong)

/-- 'stanchionlaw18.EpochBack': WHATEVER THE INPUT: true; the input reads as it did. -/
def epochBackSpec : ChangeSpec := { name := "epochBack", fn := fun _ => fun
  | [d1, d2] => { results := [.lit (.bool true)], args := [d1, d2] }
  | _ => none }
def epochBackRow : OpenClaim := { program := "ythhddlhgkejhbaa", sum := "70985ded49eb5c28777020929833ffc7fdf9c487e4d64d0a21b69e2423799ab9", func := "stanchion/stanchionlaw18.EpochBack", spec := "epochBack", inPlace := ["internal/reflectlite.TypeOf"], unfollowed := true, recurses := true, apart := false }
def EpochBackSaid : Prop := epochBackRow.holds Try.pinned (OpenSpec.ofChange epochBackSpec)

/-- ITS FALSE NEIGHBOUR: 'it returns false'. Refute it at one input. -/
def epochBackWrong : ChangeSpec := { name := "epochBack", fn := fun _ => fun
  | [d1, d2] => { results := [.lit (.bool false)], args := [d1, d2] }
  | _ => none }
def EpochBackWrongFalsely : Prop := epochBackRow.holds Try.pinned (OpenSpec.ofChange epochBackWrong)

/-- 'stanchionlaw18.EpochRises': WHATEVER THE INPUT: true; the input reads as it did. -/
def epochRisesSpec : ChangeSpec := { name := "epochRises", fn := fun _ => fun
  | [d1, d2] => { results := [.lit (.bool true)], args := [d1, d2] }
  | _ => none }
def epochRisesRow : OpenClaim := { program := "ythhddlhgkejhbaa", sum := "70985ded49eb5c28777020929833ffc7fdf9c487e4d64d0a21b69e2423799ab9", func := "stanchion/stanchionlaw18.EpochRises", spec := "epochRises", inPlace := ["internal/reflectlite.TypeOf"], unfollowed := true, recurses := true, apart := false }
def EpochRisesSaid : Prop := epochRisesRow.holds Try.pinned (OpenSpec.ofChange epochRisesSpec)

/-- ITS FALSE NEIGHBOUR: 'it returns false'. Refute it at one input. -/
def epochRisesWrong : ChangeSpec := { name := "epochRises", fn := fun _ => fun
  | [d1, d2] => { results := [.lit (.bool false)], args := [d1, d2] }
  | _ => none }
def EpochRisesWrongFalsely : Prop := epochRisesRow.holds Try.pinned (OpenSpec.ofChange epochRisesWrong)

/-- 'stanchionlaw18.EpochApart': WHATEVER THE INPUT: true; the input reads as it did. -/
def epochApartSpec : ChangeSpec := { name := "epochApart", fn := fun _ => fun
  | [d1, d2] => { results := [.lit (.bool true)], args := [d1, d2] }
  | _ => none }
def epochApartRow : OpenClaim := { program := "ythhddlhgkejhbaa", sum := "70985ded49eb5c28777020929833ffc7fdf9c487e4d64d0a21b69e2423799ab9", func := "stanchion/stanchionlaw18.EpochApart", spec := "epochApart", inPlace := ["internal/reflectlite.TypeOf"], unfollowed := true, recurses := true, apart := false }
def EpochApartSaid : Prop := epochApartRow.holds Try.pinned (OpenSpec.ofChange epochApartSpec)

/-- ITS FALSE NEIGHBOUR: 'it returns false'. Refute it at one input. -/
def epochApartWrong : ChangeSpec := { name := "epochApart", fn := fun _ => fun
  | [d1, d2] => { results := [.lit (.bool false)], args := [d1, d2] }
  | _ => none }
def EpochApartWrongFalsely : Prop := epochApartRow.holds Try.pinned (OpenSpec.ofChange epochApartWrong)

/-- 'stanchionlaw18.EpochAdds': WHATEVER THE INPUT: true; the input reads as it did. -/
def epochAddsSpec : ChangeSpec := { name := "epochAdds", fn := fun _ => fun
  | [d] => { results := [.lit (.bool true)], args := [d] }
  | _ => none }
def epochAddsRow : OpenClaim := { program := "ythhddlhgkejhbaa", sum := "70985ded49eb5c28777020929833ffc7fdf9c487e4d64d0a21b69e2423799ab9", func := "stanchion/stanchionlaw18.EpochAdds", spec := "epochAdds", inPlace := ["internal/reflectlite.TypeOf"], unfollowed := true, recurses := true, apart := false }
def EpochAddsSaid : Prop := epochAddsRow.holds Try.pinned (OpenSpec.ofChange epochAddsSpec)

/-- ITS FALSE NEIGHBOUR: 'it returns false'. Refute it at one input. -/
def epochAddsWrong : ChangeSpec := { name := "epochAdds", fn := fun _ => fun
  | [d] => { results := [.lit (.bool false)], args := [d] }
  | _ => none }
def EpochAddsWrongFalsely : Prop := epochAddsRow.holds Try.pinned (OpenSpec.ofChange epochAddsWrong)

/- THE SECOND FORM. 'bulk': how many values and letters a reading holds, each counted each time it is reached (what is shared counts as often as it is met; a slice's spare places count too). A statement '..UptoSaid' is the law's where the arguments, and the package variables that the reading takes, are together of bulk at most 1048576: NARROWER than '..Said'. Prove '..Said' where nothing that the law and all that it calls make is longer than what came in: it says more and counts as full. Else prove '..UptoSaid'. A law counts once. -/
mutual
def uptoBulk {H : Type} : DataW H → Nat
  | .lit (.string bytes) => bytes.length + 1
  | .lit _ => 1
  | .nil => 1
  | .ptr d => uptoBulk d + 1
  | .slice elems spare => uptoBulkAll elems + uptoBulkAll spare + 1
  | .agg parts => uptoBulkAll parts + 1
  | .iface _ d => uptoBulk d + 1
  | .map entries => uptoBulkEntries entries + 1
  | .held _ => 1
def uptoBulkAll {H : Type} : List (DataW H) → Nat
  | [] => 0
  | d :: r => uptoBulk d + uptoBulkAll r
def uptoBulkEntries {H : Type} : List (Lit × DataW H) → Nat
  | [] => 0
  | x :: r => uptoBulkEntry x + uptoBulkEntries r
def uptoBulkEntry {H : Type} : Lit × DataW H → Nat
  | (.string bytes, d) => bytes.length + uptoBulk d + 1
  | (_, d) => uptoBulk d + 1
 end
def uptoSmall : (H : Type) → List (DataW H) → Bool := fun _ ds => decide (uptoBulkAll ds ≤ 1048576)
def OpenSpec.upto (s : _root_.Go.ChangeSpec) : _root_.Go.OpenSpec := { _root_.Go.OpenSpec.ofChange s with cond := some uptoSmall }

/-- 'stanchionlaw18.EpochBytes', WHERE WHAT IT READS IS OF BULK AT MOST 1048576: true; the input reads as it did. -/
def epochBytesUptoRow : OpenClaim := { program := "ythhddlhgkejhbaa", sum := "70985ded49eb5c28777020929833ffc7fdf9c487e4d64d0a21b69e2423799ab9", func := "stanchion/stanchionlaw18.EpochBytes", spec := "epochBytes", inPlace := ["internal/reflectlite.TypeOf"], unfollowed := true, recurses := true, apart := false, narrowed := true }
def EpochBytesUptoSaid : Prop := epochBytesUptoRow.holds Try.pinned (OpenSpec.upto epochBytesSpec)

/-- 'stanchionlaw18.EpochNext', WHERE WHAT IT READS IS OF BULK AT MOST 1048576: true; the input reads as it did. -/
def epochNextUptoRow : OpenClaim := { program := "ythhddlhgkejhbaa", sum := "70985ded49eb5c28777020929833ffc7fdf9c487e4d64d0a21b69e2423799ab9", func := "stanchion/stanchionlaw18.EpochNext", spec := "epochNext", inPlace := ["internal/reflectlite.TypeOf"], unfollowed := true, recurses := true, apart := false, narrowed := true }
def EpochNextUptoSaid : Prop := epochNextUptoRow.holds Try.pinned (OpenSpec.upto epochNextSpec)

/-- 'stanchionlaw18.EpochBack', WHERE WHAT IT READS IS OF BULK AT MOST 1048576: true; the input reads as it did. -/
def epochBackUptoRow : OpenClaim := { program := "ythhddlhgkejhbaa", sum := "70985ded49eb5c28777020929833ffc7fdf9c487e4d64d0a21b69e2423799ab9", func := "stanchion/stanchionlaw18.EpochBack", spec := "epochBack", inPlace := ["internal/reflectlite.TypeOf"], unfollowed := true, recurses := true, apart := false, narrowed := true }
def EpochBackUptoSaid : Prop := epochBackUptoRow.holds Try.pinned (OpenSpec.upto epochBackSpec)

/-- 'stanchionlaw18.EpochRises', WHERE WHAT IT READS IS OF BULK AT MOST 1048576: true; the input reads as it did. -/
def epochRisesUptoRow : OpenClaim := { program := "ythhddlhgkejhbaa", sum := "70985ded49eb5c28777020929833ffc7fdf9c487e4d64d0a21b69e2423799ab9", func := "stanchion/stanchionlaw18.EpochRises", spec := "epochRises", inPlace := ["internal/reflectlite.TypeOf"], unfollowed := true, recurses := true, apart := false, narrowed := true }
def EpochRisesUptoSaid : Prop := epochRisesUptoRow.holds Try.pinned (OpenSpec.upto epochRisesSpec)

/-- 'stanchionlaw18.EpochApart', WHERE WHAT IT READS IS OF BULK AT MOST 1048576: true; the input reads as it did. -/
def epochApartUptoRow : OpenClaim := { program := "ythhddlhgkejhbaa", sum := "70985ded49eb5c28777020929833ffc7fdf9c487e4d64d0a21b69e2423799ab9", func := "stanchion/stanchionlaw18.EpochApart", spec := "epochApart", inPlace := ["internal/reflectlite.TypeOf"], unfollowed := true, recurses := true, apart := false, narrowed := true }
def EpochApartUptoSaid : Prop := epochApartUptoRow.holds Try.pinned (OpenSpec.upto epochApartSpec)

/-- 'stanchionlaw18.EpochAdds', WHERE WHAT IT READS IS OF BULK AT MOST 1048576: true; the input reads as it did. -/
def epochAddsUptoRow : OpenClaim := { program := "ythhddlhgkejhbaa", sum := "70985ded49eb5c28777020929833ffc7fdf9c487e4d64d0a21b69e2423799ab9", func := "stanchion/stanchionlaw18.EpochAdds", spec := "epochAdds", inPlace := ["internal/reflectlite.TypeOf"], unfollowed := true, recurses := true, apart := false, narrowed := true }
def EpochAddsUptoSaid : Prop := epochAddsUptoRow.holds Try.pinned (OpenSpec.upto epochAddsSpec)

end Rows
end Go.Proofs.Ythhddlhgkejhbaa
