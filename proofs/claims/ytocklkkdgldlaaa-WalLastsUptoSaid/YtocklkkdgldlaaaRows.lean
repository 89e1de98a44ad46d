/-
  No cell of these rows narrows 'for every input' (looked for: loops, veiled, ifaces, maps, wideKeys, modest, calm, conditions, laid).
  DERIVED. THE GIVEN ROWS OF THIS SEAT. 8 by the template 'for every input the law returns true; each argument reads behind the call as it read before'; 0 by the template 'total and deterministic' (their statements: YtocklkkdgldlaaaTotals.lean).
  GIVEN WITH THE SEED: the statements are not yours to turn. If you find one false, say at which input.
  Laid BY PROGRAM, IN A SANDBOX (cutbox-rows.mjs): the forced cells as the released guide's own fill.sh prints them over the translation 23a277cc6f95665d… (all of the seat's roots in one cut). By AI agents, Wed Nov 11 2026. No macro, syntax, notation, axiom, sorry.
-/
import Derived.Test.YtocklkkdgldlaaaChecked
import GoSem.Claim
import GoSem.ClaimJoined
import GoSem.ClaimMapViews
import Derived.JoinedTies
import Derived.KernelRfl
namespace Go.Proofs.Ytocklkkdgldlaaa
/- THE CELL 'sum', in the pinned program and in every row, IS THE sha256 OF THE DUMP (.gsa) THAT YtocklkkdgldlaaaProg.lean LOADS. Nothing in Lean hashes anything: it is a label: what it is worth is what the hold of that sum in a sandbox is worth. -/
noncomputable def Try.pinned : Pinned := { name := "ytocklkkdgldlaaa", sum := "23a277cc6f95665daeffa66921965e5e5a64dca86e47d5dca12f5b686b8d05ac", checked := Try.checked }
namespace Rows
def none {H : Type} : Left H := { results := [], args := [] }

/-- 'stanchionlaw04.WalScans': WHATEVER THE INPUT: true; the input reads as it did. -/
def walScansSpec : ChangeSpec := { name := "walScans", fn := fun _ => fun
  | [d1, d2] => { results := [.lit (.bool true)], args := [d1, d2] }
  | _ => none }
def walScansRow : OpenClaim := { program := "ytocklkkdgldlaaa", sum := "23a277cc6f95665daeffa66921965e5e5a64dca86e47d5dca12f5b686b8d05ac", func := "stanchion/stanchionlaw04.WalScans", spec := "walScans", unfollowed := true, recurses := true, apart := false }
def WalScansSaid : Prop := walScansRow.holds Try.pinned (OpenSpec.ofChange walScansSpec)

/-- ITS FALSE NEIGHBOUR: 'it returns false'. Refute it at one input. -/
def walScansWrong : ChangeSpec := { name := "walScans", fn := fun _ => fun
  | [d1, d2] => { results := [.lit (.bool false)], args := [d1, d2] }
  | _ => none }
def WalScansWrongFalsely : Prop := walScansRow.holds Try.pinned (OpenSpec.ofChange walScansWrong)

/-- 'stanchionlaw04.WalPuts': WHATEVER THE INPUT: true; the input reads as it did. -/
def walPutsSpec : ChangeSpec := { name := "walPuts", fn := fun _ => fun
  | [d1, d2, d3] => { results := [.lit (.bool true)], args := [d1, d2, d3] }
  | _ => none }
def walPutsRow : OpenClaim := { program := "ytocklkkdgldlaaa", sum := "23a277cc6f95665daeffa66921965e5e5a64dca86e47d5dca12f5b686b8d05ac", func := "stanchion/stanchionlaw04.WalPuts", spec := "walPuts", unfollowed := true, recurses := true, apart := false }
def WalPutsSaid : Prop := walPutsRow.holds Try.pinned (OpenSpec.ofChange walPutsSpec)

/-- ITS FALSE NEIGHBOUR: 'it returns false'. Refute it at one input. -/
def walPutsWrong : ChangeSpec := { name := "walPuts", fn := fun _ => fun
  | [d1, d2, d3] => { results := [.lit (.bool false)], args := [d1, d2, d3] }
  | _ => none }
def WalPutsWrongFalsely : Prop := walPutsRow.holds Try.pinned (OpenSpec.ofChange walPutsWrong)

/-- 'stanchionlaw04.WalLasts': WHATEVER THE INPUT: true; the input reads as it did. -/
def walLastsSpec : ChangeSpec := { name := "walLasts", fn := fun _ => fun
  | [d1, d2] => { results := [.lit (.bool true)], args := [d1, d2] }
  | _ => none }
def walLastsRow : OpenClaim := { program := "ytocklkkdgldlaaa", sum := "23a277cc6f95665daeffa66921965e5e5a64dca86e47d5dca12f5b686b8d05ac", func := "stanchion/stanchionlaw04.WalLasts", spec := "walLasts", unfollowed := true, recurses := true, apart := false }
def WalLastsSaid : Prop := walLastsRow.holds Try.pinned (OpenSpec.ofChange walLastsSpec)

/-- ITS FALSE NEIGHBOUR: 'it returns false'. Refute it at one input. -/
def walLastsWrong : ChangeSpec := { name := "walLasts", fn := fun _ => fun
  | [d1, d2] => { results := [.lit (.bool false)], args := [d1, d2] }
  | _ => none }
def WalLastsWrongFalsely : Prop := walLastsRow.holds Try.pinned (OpenSpec.ofChange walLastsWrong)

/-- 'stanchionlaw04.WalCut': WHATEVER THE INPUT: true; the input reads as it did. -/
def walCutSpec : ChangeSpec := { name := "walCut", fn := fun _ => fun
  | [d1, d2, d3] => { results := [.lit (.bool true)], args := [d1, d2, d3] }
  | _ => none }
def walCutRow : OpenClaim := { program := "ytocklkkdgldlaaa", sum := "23a277cc6f95665daeffa66921965e5e5a64dca86e47d5dca12f5b686b8d05ac", func := "stanchion/stanchionlaw04.WalCut", spec := "walCut", unfollowed := true, recurses := true, apart := false }
def WalCutSaid : Prop := walCutRow.holds Try.pinned (OpenSpec.ofChange walCutSpec)

/-- ITS FALSE NEIGHBOUR: 'it returns false'. Refute it at one input. -/
def walCutWrong : ChangeSpec := { name := "walCut", fn := fun _ => fun
  | [d1, d2, d3] => { results := [.lit (.bool false)], args := [d1, d2, d3] }
  | _ => none }
def WalCutWrongFalsely : Prop := walCutRow.holds Try.pinned (OpenSpec.ofChange walCutWrong)

/-- 'stanchionlaw04.WalJoins': WHATEVER THE INPUT: true; the input reads as it did. -/
def walJoinsSpec : ChangeSpec := { name := "walJoins", fn := fun _ => fun
  | [d1, d2] => { results := [.lit (.bool true)], args := [d1, d2] }
  | _ => none }
def walJoinsRow : OpenClaim := { program := "ytocklkkdgldlaaa", sum := "23a277cc6f95665daeffa66921965e5e5a64dca86e47d5dca12f5b686b8d05ac", func := "stanchion/stanchionlaw04.WalJoins", spec := "walJoins", unfollowed := true, recurses := true, apart := false }
def WalJoinsSaid : Prop := walJoinsRow.holds Try.pinned (OpenSpec.ofChange walJoinsSpec)

/-- ITS FALSE NEIGHBOUR: 'it returns false'. Refute it at one input. -/
def walJoinsWrong : ChangeSpec := { name := "walJoins", fn := fun _ => fun
  | [d1, d2] => { results := [.lit (.bool false)], args := [d1, d2] }
  | _ => none }
def WalJoinsWrongFalsely : Prop := walJoinsRow.holds Try.pinned (OpenSpec.ofChange walJoinsWrong)

/-- 'stanchionlaw04.WalRooms': WHATEVER THE INPUT: true; the input reads as it did. -/
def walRoomsSpec : ChangeSpec := { name := "walRooms", fn := fun _ => fun
  | [d1, d2] => { results := [.lit (.bool true)], args := [d1, d2] }
  | _ => none }
def walRoomsRow : OpenClaim := { program := "ytocklkkdgldlaaa", sum := "23a277cc6f95665daeffa66921965e5e5a64dca86e47d5dca12f5b686b8d05ac", func := "stanchion/stanchionlaw04.WalRooms", spec := "walRooms", unfollowed := true, recurses := true, apart := false }
def WalRoomsSaid : Prop := walRoomsRow.holds Try.pinned (OpenSpec.ofChange walRoomsSpec)

/-- ITS FALSE NEIGHBOUR: 'it returns false'. Refute it at one input. -/
def walRoomsWrong : ChangeSpec := { name := "walRooms", fn := fun _ => fun
  | [d1, d2] => { results := [.lit (.bool false)], args := [d1, d2] }
  | _ => none }
def WalRoomsWrongFalsely : Prop := walRoomsRow.holds Try.pinned (OpenSpec.ofChange walRoomsWrong)

/-- 'stanchionlaw04.WalRecovers': WHATEVER THE INPUT: true; the input reads as it did. -/
def walRecoversSpec : ChangeSpec := { name := "walRecovers", fn := fun _ => fun
  | [d1, d2, d3] => { results := [.lit (.bool true)], args := [d1, d2, d3] }
  | _ => none }
def walRecoversRow : OpenClaim := { program := "ytocklkkdgldlaaa", sum := "23a277cc6f95665daeffa66921965e5e5a64dca86e47d5dca12f5b686b8d05ac", func := "stanchion/stanchionlaw04.WalRecovers", spec := "walRecovers", unfollowed := true, recurses := true, apart := false }
def WalRecoversSaid : Prop := walRecoversRow.holds Try.pinned (OpenSpec.ofChange walRecoversSpec)

/-- ITS FALSE NEIGHBOUR: 'it returns false'. Refute it at one input. -/
def walRecoversWrong : ChangeSpec := { name := "walRecovers", fn := fun _ => fun
  | [d1, d2, d3] => { results := [.lit (.bool false)], args := [d1, d2, d3] }
  | _ => none }
def WalRecoversWrongFalsely : Prop := walRecoversRow.holds Try.pinned (OpenSpec.ofChange walRecoversWrong)

/-- 'stanchionlaw04.WalDrops': WHATEVER THE INPUT: true; the input reads as it did. -/
def walDropsSpec : ChangeSpec := { name := "walDrops", fn := fun _ => fun
  | [d] => { results := [.lit (.bool true)], args := [d] }
  | _ => none }
def walDropsRow : OpenClaim := { program := "ytocklkkdgldlaaa", sum := "23a277cc6f95665daeffa66921965e5e5a64dca86e47d5dca12f5b686b8d05ac", func := "stanchion/stanchionlaw04.WalDrops", spec := "walDrops", unfollowed := true, recurses := true, apart := false }
def WalDropsSaid : Prop := walDropsRow.holds Try.pinned (OpenSpec.ofChange walDropsSpec)

/-- ITS FALSE NEIGHBOUR: 'it returns false'. Refute it at one input. -/
def walDropsWrong : ChangeSpec := { name := "walDrops", fn := fun _ => fun
  | [d] => { results := [.lit (.bool false)], args := [d] }
  | _ => none }
def WalDropsWrongFalsely : Prop := walDropsRow.holds Try.pinned (OpenSpec.ofChange walDropsWrong)

/- THE SECOND FORM. 'bulk': how many values and letters a reading holds, each counted each time it is reached (what is shared counts as often as it is met; a slice's spare places count too). A statement '..UptoSaid' is the law's where the arguments, and the package variables that the reading takes, are together of bulk at most 1048576: NARROWER than '..Said'. Prove '..Said' where nothing that the law and all that it calls make is longer than what came in: it says more and counts as full. Else prove '..UptoSaid'. A law counts once. -/
mutual
def uptoBulk {H : Type} : DataW H → Nat
  | .lit (.string bytes) => bytes.length + 1
  | .lit _ => 1
  | .nil => 1
  | .ptr d => uptoBulk d + 1
  | .slice elems spare => uptoBulkAll elems + uptoBulkAll spare + 1
  | .agg parts => uptoBulkAll parts + 1
  | .iface _ d => uptoBulk d + 1
  | .map entries => uptoBulkEntries entries + 1
  | .held _ => 1
def uptoBulkAll {H : Type} : List (DataW H) → Nat
  | [] => 0
  | d :: r => uptoBulk d + uptoBulkAll r
def uptoBulkEntries {H : Type} : List (Lit × DataW H) → Nat
  | [] => 0
  | x :: r => uptoBulkEntry x + uptoBulkEntries r
def uptoBulkEntry {H : Type} : Lit × DataW H → Nat
  | (.string bytes, d) => bytes.length + uptoBulk d + 1
  | (_, d) => uptoBulk d + 1
 end
def uptoSmall : (H : Type) → List (DataW H) → Bool := fun _ ds => decide (uptoBulkAll ds ≤ 1048576)
def OpenSpec.upto (s : _root_.Go.ChangeSpec) : _root_.Go.OpenSpec := { _root_.Go.OpenSpec.ofChange s with cond := some uptoSmall }

/-- 'stanchionlaw04.WalScans', WHERE WHAT IT READS IS OF BULK AT MOST 1048576: true; the input reads as it did. -/
def walScansUptoRow : OpenClaim := { program := "ytocklkkdgldlaaa", sum := "23a277cc6f95665daeffa66921965e5e5a64dca86e47d5dca12f5b686b8d05ac", func := "stanchion/stanchionlaw04.WalScans", spec := "walScans", unfollowed := true, recurses := true, apart := false, narrowed := true }
def WalScansUptoSaid : Prop := walScansUptoRow.holds Try.pinned (OpenSpec.upto walScansSpec)

/-- 'stanchionlaw04.WalPuts', WHERE WHAT IT READS IS OF BULK AT MOST 1048576: true; the input reads as it did. -/
def walPutsUptoRow : OpenClaim := { program := "ytocklkkdgldlaaa", sum := "23a277cc6f95665daeffa66921965e5e5a64dca86e47d5dca12f5b686b8d05ac", func := "stanchion/stanchionlaw04.WalPuts", spec := "walPuts", unfollowed := true, recurses := true, apart := false, narrowed := true }
def WalPutsUptoSaid : Prop := walPutsUptoRow.holds Try.pinned (OpenSpec.upto walPutsSpec)

/-- 'stanchionlaw04.WalLasts', WHERE WHAT IT READS IS OF BULK AT MOST 1048576: true; the input reads as it did. -/
def walLastsUptoRow : OpenClaim := { program := "ytocklkkdgldlaaa", sum := "23a277cc6f95665daeffa66921965e5e5a64dca86e47d5dca12f5b686b8d05ac", func := "stanchion/stanchionlaw04.WalLasts", spec := "walLasts", unfollowed := true, recurses := true, apart := false, narrowed := true }
def WalLastsUptoSaid : Prop := walLastsUptoRow.holds Try.pinned (OpenSpec.upto walLastsSpec)

/-- 'stanchionlaw04.WalCut', WHERE WHAT IT READS IS OF BULK AT MOST 1048576: true; the input reads as it did. -/
def walCutUptoRow : OpenClaim := { program := "ytocklkkdgldlaaa", sum := "23a277cc6f95665daeffa66921965e5e5a64dca86e47d5dca12f5b686b8d05ac", func := "stanchion/stanchionlaw04.WalCut", spec := "walCut", unfollowed := true, recurses := true, apart := false, narrowed := true }
def WalCutUptoSaid : Prop := walCutUptoRow.holds Try.pinned (OpenSpec.upto walCutSpec)

/-- 'stanchionlaw04.WalJoins', WHERE WHAT IT READS IS OF BULK AT MOST 1048576: true; the input reads as it did. -/
def walJoinsUptoRow : OpenClaim := { program := "ytocklkkdgldlaaa", sum := "23a277cc6f95665daeffa66921965e5e5a64dca86e47d5dca12f5b686b8d05ac", func := "stanchion/stanchionlaw04.WalJoins", spec := "walJoins", unfollowed := true, recurses := true, apart := false, narrowed := true }
def WalJoinsUptoSaid : Prop := walJoinsUptoRow.holds Try.pinned (OpenSpec.upto walJoinsSpec)

/-- 'stanchionlaw04.WalRooms', WHERE WHAT IT READS IS OF BULK AT MOST 1048576: true; the input reads as it did. -/
def walRoomsUptoRow : OpenClaim := { program := "ytocklkkdgldlaaa", sum := "23a277cc6f95665daeffa66921965e5e5a64dca86e47d5dca12f5b686b8d05ac", func := "stanchion/stanchionlaw04.WalRooms", spec := "walRooms", unfollowed := true, recurses := true, apart := false, narrowed := true }
def WalRoomsUptoSaid : Prop := walRoomsUptoRow.holds Try.pinned (OpenSpec.upto walRoomsSpec)

/-- 'stanchionlaw04.WalRecovers', WHERE WHAT IT READS IS OF BULK AT MOST 1048576: true; the input reads as it did. -/
def walRecoversUptoRow : OpenClaim := { program := "ytocklkkdgldlaaa", sum := "23a277cc6f95665daeffa66921965e5e5a64dca86e47d5dca12f5b686b8d05ac", func := "stanchion/stanchionlaw04.WalRecovers", spec := "walRecovers", unfollowed := true, recurses := true, apart := false, narrowed := true }
def WalRecoversUptoSaid : Prop := walRecoversUptoRow.holds Try.pinned (OpenSpec.upto walRecoversSpec)

/-- 'stanchionlaw04.WalDrops', WHERE WHAT IT READS IS OF BULK AT MOST 1048576: true; the input reads as it did. -/
def walDropsUptoRow : OpenClaim := { program := "ytocklkkdgldlaaa", sum := "23a277cc6f95665daeffa66921965e5e5a64dca86e47d5dca12f5b686b8d05ac", func := "stanchion/stanchionlaw04.WalDrops", spec := "walDrops", unfollowed := true, recurses := true, apart := false, narrowed := true }
def WalDropsUptoSaid : Prop := walDropsUptoRow.holds Try.pinned (OpenSpec.upto walDropsSpec)

end Rows
end Go.Proofs.Ytocklkkdgldlaaa
