/- Plain data out of readings. Printed by a program of this session. -/
import Derived.Test.YthhddlhgkejhbaaTy
import Derived.Test.YthhddlhgkejhbaaStRow
import Derived.KernelRfl
namespace Go.Ab
open Go.Proofs
set_option linter.unusedVariables false
set_option maxRecDepth 100000
theorem rd3 {H : Type} {enc : TypeId × Value → H} {w : World} {spare : Nat → Bool} {held : Bool} {fuel : Nat} {cs : List Value} {x : DataW H × List MemPlace} (h : DataW.trod enc Try.prog w 0 spare held fuel 3 cs = some x) : ∃ v : Int, RepL w cs [.v (.int .i64 v)] ∧ (okK .i64 v) ∧ 1 ≤ bulk x.1 := by
  exact rd_int Try.underlying3 h
theorem rd9 {H : Type} {enc : TypeId × Value → H} {w : World} {spare : Nat → Bool} {held : Bool} {fuel : Nat} {cs : List Value} {x : DataW H × List MemPlace} (h : DataW.trod enc Try.prog w 0 spare held fuel 9 cs = some x) : ∃ v : Str, RepL w cs [.v (.string (bs v))] ∧ (True) ∧ (v.length + 1) ≤ bulk x.1 := by
  obtain ⟨v, h1, h2⟩ := rd_str Try.underlying9 h
  exact ⟨v, h1, trivial, h2⟩
theorem cells9 : Try.prog.cellsOf 9 = 1 := by kernel_rfl
def bkFile (x : File) : Nat := (x.Name.length + 1) + (x.Safe.length + 1) + (x.Wait.length + 1) + 1
theorem cells55 : Try.prog.cellsOf 55 = 3 := by kernel_rfl
theorem rd55 {H : Type} {enc : TypeId × Value → H} {w : World} {spare : Nat → Bool} {held : Bool} {fuel : Nat} {cs : List Value} {x : DataW H × List MemPlace} (h : DataW.trod enc Try.prog w 0 spare held fuel 55 cs = some x) : ∃ v : File, RepL w cs (encFile v) ∧ (True) ∧ bkFile v ≤ bulk x.1 := by
  obtain ⟨xs, n, hb, hc, hx, hf⟩ := fields_of Try.underlying55 h
  rw [cells55] at hc
  obtain ⟨y0, y1, y2, rfl⟩ : ∃ y0 y1 y2, xs = [y0, y1, y2] := by
    match xs, hx with
    | [y0, y1, y2], _ => exact ⟨_, _, _, rfl⟩
  have f0 : DataW.trod enc Try.prog w 0 spare held n 9 ((cs.drop 0).take (Try.prog.cellsOf 9)) = some y0 := hf 0 _ rfl
  rw [cells9] at f0
  obtain ⟨v0, r0, o0, b0⟩ := rd9 f0
  have f1 : DataW.trod enc Try.prog w 0 spare held n 9 ((cs.drop 1).take (Try.prog.cellsOf 9)) = some y1 := hf 1 _ rfl
  rw [cells9] at f1
  obtain ⟨v1, r1, o1, b1⟩ := rd9 f1
  have f2 : DataW.trod enc Try.prog w 0 spare held n 9 ((cs.drop 2).take (Try.prog.cellsOf 9)) = some y2 := hf 2 _ rfl
  rw [cells9] at f2
  obtain ⟨v2, r2, o2, b2⟩ := rd9 f2
  have z := RepL.nil (w := w) (cs := cs)
  rw [hc] at z
  have g := (RepL.app (o := 0) (k := 1) rfl r0 (RepL.app (o := 1) (k := 1) rfl r1 (RepL.app (o := 2) (k := 1) rfl r2 z)))
  refine ⟨⟨v0, v1, v2⟩, g, trivial, ?_⟩
  simp only [List.map, bulkAll] at hb
  unfold bkFile
  try dsimp only
  omega
theorem rd22 {H : Type} {enc : TypeId × Value → H} {w : World} {spare : Nat → Bool} {held : Bool} {fuel : Nat} {cs : List Value} {x : DataW H × List MemPlace} (h : DataW.trod enc Try.prog w 0 spare held fuel 22 cs = some x) : ∃ v : (List File), RepL w cs [.sl (List.map encFile v)] ∧ (True) ∧ (sumOf (fun u3 => bkFile u3) v + 1) ≤ bulk x.1 := by
  obtain ⟨v, h1, h2, h3⟩ := rd_slice (encα := encFile) (ok := fun v => True) (bk := fun v => bkFile v) Try.underlying22 cells55 (by decide) (fun _ => rfl) (fun _ => rfl) (fun fuel cs x h => rd55 h) h
  exact ⟨v, h1, trivial, h3⟩
theorem cells22 : Try.prog.cellsOf 22 = 1 := by kernel_rfl
theorem cells3 : Try.prog.cellsOf 3 = 1 := by kernel_rfl
theorem rd4 {H : Type} {enc : TypeId × Value → H} {w : World} {spare : Nat → Bool} {held : Bool} {fuel : Nat} {cs : List Value} {x : DataW H × List MemPlace} (h : DataW.trod enc Try.prog w 0 spare held fuel 4 cs = some x) : ∃ v : Bool, RepL w cs [.v (.bool v)] ∧ (True) ∧ 1 ≤ bulk x.1 := by
  obtain ⟨v, h1, h2⟩ := rd_bool Try.underlying4 h
  exact ⟨v, h1, trivial, h2⟩
theorem cells4 : Try.prog.cellsOf 4 = 1 := by kernel_rfl
def okDisk (x : Disk) : Prop := (okK .i64 x.Room) ∧ (okK .i64 x.Fuse)
def bkDisk (x : Disk) : Nat := (sumOf (fun u6 => bkFile u6) x.Files + 1) + 1 + 1 + 1 + 1
theorem cells24 : Try.prog.cellsOf 24 = 4 := by kernel_rfl
theorem rd24 {H : Type} {enc : TypeId × Value → H} {w : World} {spare : Nat → Bool} {held : Bool} {fuel : Nat} {cs : List Value} {x : DataW H × List MemPlace} (h : DataW.trod enc Try.prog w 0 spare held fuel 24 cs = some x) : ∃ v : Disk, RepL w cs (encDisk v) ∧ (okDisk v) ∧ bkDisk v ≤ bulk x.1 := by
  obtain ⟨xs, n, hb, hc, hx, hf⟩ := fields_of Try.underlying24 h
  rw [cells24] at hc
  obtain ⟨y0, y1, y2, y3, rfl⟩ : ∃ y0 y1 y2 y3, xs = [y0, y1, y2, y3] := by
    match xs, hx with
    | [y0, y1, y2, y3], _ => exact ⟨_, _, _, _, rfl⟩
  have f0 : DataW.trod enc Try.prog w 0 spare held n 22 ((cs.drop 0).take (Try.prog.cellsOf 22)) = some y0 := hf 0 _ rfl
  rw [cells22] at f0
  obtain ⟨v0, r0, o0, b0⟩ := rd22 f0
  have f1 : DataW.trod enc Try.prog w 0 spare held n 3 ((cs.drop 1).take (Try.prog.cellsOf 3)) = some y1 := hf 1 _ rfl
  rw [cells3] at f1
  obtain ⟨v1, r1, o1, b1⟩ := rd3 f1
  have f2 : DataW.trod enc Try.prog w 0 spare held n 3 ((cs.drop 2).take (Try.prog.cellsOf 3)) = some y2 := hf 2 _ rfl
  rw [cells3] at f2
  obtain ⟨v2, r2, o2, b2⟩ := rd3 f2
  have f3 : DataW.trod enc Try.prog w 0 spare held n 4 ((cs.drop 3).take (Try.prog.cellsOf 4)) = some y3 := hf 3 _ rfl
  rw [cells4] at f3
  obtain ⟨v3, r3, o3, b3⟩ := rd4 f3
  have z := RepL.nil (w := w) (cs := cs)
  rw [hc] at z
  have g := (RepL.app (o := 0) (k := 1) rfl r0 (RepL.app (o := 1) (k := 1) rfl r1 (RepL.app (o := 2) (k := 1) rfl r2 (RepL.app (o := 3) (k := 1) rfl r3 z))))
  refine ⟨⟨v0, v1, v2, v3⟩, g, ⟨o1, o2⟩, ?_⟩
  simp only [List.map, bulkAll] at hb
  unfold bkDisk
  try dsimp only
  omega
def okTurn (x : Turn) : Prop := (okK .i64 x.Fuse) ∧ (okK .i64 x.N)
def bkTurn (x : Turn) : Nat := 1 + 1 + 1
theorem cells50 : Try.prog.cellsOf 50 = 2 := by kernel_rfl
theorem rd50 {H : Type} {enc : TypeId × Value → H} {w : World} {spare : Nat → Bool} {held : Bool} {fuel : Nat} {cs : List Value} {x : DataW H × List MemPlace} (h : DataW.trod enc Try.prog w 0 spare held fuel 50 cs = some x) : ∃ v : Turn, RepL w cs (encTurn v) ∧ (okTurn v) ∧ bkTurn v ≤ bulk x.1 := by
  obtain ⟨xs, n, hb, hc, hx, hf⟩ := fields_of Try.underlying50 h
  rw [cells50] at hc
  obtain ⟨y0, y1, rfl⟩ : ∃ y0 y1, xs = [y0, y1] := by
    match xs, hx with
    | [y0, y1], _ => exact ⟨_, _, rfl⟩
  have f0 : DataW.trod enc Try.prog w 0 spare held n 3 ((cs.drop 0).take (Try.prog.cellsOf 3)) = some y0 := hf 0 _ rfl
  rw [cells3] at f0
  obtain ⟨v0, r0, o0, b0⟩ := rd3 f0
  have f1 : DataW.trod enc Try.prog w 0 spare held n 3 ((cs.drop 1).take (Try.prog.cellsOf 3)) = some y1 := hf 1 _ rfl
  rw [cells3] at f1
  obtain ⟨v1, r1, o1, b1⟩ := rd3 f1
  have z := RepL.nil (w := w) (cs := cs)
  rw [hc] at z
  have g := (RepL.app (o := 0) (k := 1) rfl r0 (RepL.app (o := 1) (k := 1) rfl r1 z))
  refine ⟨⟨v0, v1⟩, g, ⟨o0, o1⟩, ?_⟩
  simp only [List.map, bulkAll] at hb
  unfold bkTurn
  try dsimp only
  omega
theorem rd45 {H : Type} {enc : TypeId × Value → H} {w : World} {spare : Nat → Bool} {held : Bool} {fuel : Nat} {cs : List Value} {x : DataW H × List MemPlace} (h : DataW.trod enc Try.prog w 0 spare held fuel 45 cs = some x) : ∃ v : (List Turn), RepL w cs [.sl (List.map encTurn v)] ∧ (∀ u10 ∈ v, okTurn u10) ∧ (sumOf (fun u11 => bkTurn u11) v + 1) ≤ bulk x.1 := by
  obtain ⟨v, h1, h2, h3⟩ := rd_slice (encα := encTurn) (ok := fun v => okTurn v) (bk := fun v => bkTurn v) Try.underlying45 cells50 (by decide) (fun _ => rfl) (fun _ => rfl) (fun fuel cs x h => rd50 h) h
  exact ⟨v, h1, h2, h3⟩
end Go.Ab
