/- Plain data out of readings. Printed by a program of this session. -/
import Derived.Test.YtgmejofagmfcfaaGreatDoorTy
import Derived.Test.YtgmejofagmfcfaaGreatDoorStFwD
import Derived.KernelRfl
namespace Go.Ab
open Go.Proofs
set_option linter.unusedVariables false
set_option maxRecDepth 100000
theorem rd9 {H : Type} {enc : TypeId × Value → H} {w : World} {spare : Nat → Bool} {held : Bool} {fuel : Nat} {cs : List Value} {x : DataW H × List MemPlace} (h : DataW.trod enc Tryz.prog w 0 spare held fuel 9 cs = some x) : ∃ v : Str, RepL w cs [vS v] ∧ (True) ∧ (v.length + 1) ≤ bulk x.1 := by
  obtain ⟨v, h1, h2⟩ := rd_str Tryz.underlying9 h
  exact ⟨v, h1, trivial, h2⟩
theorem cells9 : Tryz.prog.cellsOf 9 = 1 := by kernel_rfl
def bkFile (x : File) : Nat := (x.Name.length + 1) + (x.Safe.length + 1) + (x.Wait.length + 1) + 1
theorem cells64 : Tryz.prog.cellsOf 64 = 3 := by kernel_rfl
theorem rd64 {H : Type} {enc : TypeId × Value → H} {w : World} {spare : Nat → Bool} {held : Bool} {fuel : Nat} {cs : List Value} {x : DataW H × List MemPlace} (h : DataW.trod enc Tryz.prog w 0 spare held fuel 64 cs = some x) : ∃ v : File, RepL w cs (encFile v) ∧ (True) ∧ bkFile v ≤ bulk x.1 := by
  obtain ⟨xs, n, hb, hc, hx, hf⟩ := fields_of Tryz.underlying64 h
  rw [cells64] at hc
  obtain ⟨y0, y1, y2, rfl⟩ : ∃ y0 y1 y2, xs = [y0, y1, y2] := by
    match xs, hx with
    | [y0, y1, y2], _ => exact ⟨_, _, _, rfl⟩
  have f0 : DataW.trod enc Tryz.prog w 0 spare held n 9 ((cs.drop 0).take (Tryz.prog.cellsOf 9)) = some y0 := hf 0 _ rfl
  rw [cells9] at f0
  obtain ⟨v0, r0, o0, b0⟩ := rd9 f0
  have f1 : DataW.trod enc Tryz.prog w 0 spare held n 9 ((cs.drop 1).take (Tryz.prog.cellsOf 9)) = some y1 := hf 1 _ rfl
  rw [cells9] at f1
  obtain ⟨v1, r1, o1, b1⟩ := rd9 f1
  have f2 : DataW.trod enc Tryz.prog w 0 spare held n 9 ((cs.drop 2).take (Tryz.prog.cellsOf 9)) = some y2 := hf 2 _ rfl
  rw [cells9] at f2
  obtain ⟨v2, r2, o2, b2⟩ := rd9 f2
  have z := RepL.nil (w := w) (cs := cs)
  rw [hc] at z
  have g := (RepL.app (o := 0) (k := 1) rfl r0 (RepL.app (o := 1) (k := 1) rfl r1 (RepL.app (o := 2) (k := 1) rfl r2 z)))
  refine ⟨⟨v0, v1, v2⟩, g, trivial, ?_⟩
  simp only [List.map, bulkAll] at hb
  unfold bkFile
  try dsimp only
  omega
theorem rd29 {H : Type} {enc : TypeId × Value → H} {w : World} {spare : Nat → Bool} {held : Bool} {fuel : Nat} {cs : List Value} {x : DataW H × List MemPlace} (h : DataW.trod enc Tryz.prog w 0 spare held fuel 29 cs = some x) : ∃ v : (List File), RepL w cs [sL encFile v] ∧ (True) ∧ (sumOf (fun u4 => bkFile u4) v + 1) ≤ bulk x.1 := by
  obtain ⟨v, h1, h2, h3⟩ := rd_slice (encα := encFile) (ok := fun v => True) (bk := fun v => bkFile v) Tryz.underlying29 cells64 (by decide) (fun _ => rfl) (fun _ => rfl) (fun fuel cs x h => rd64 h) h
  exact ⟨v, h1, trivial, h3⟩
theorem cells29 : Tryz.prog.cellsOf 29 = 1 := by kernel_rfl
theorem rd3 {H : Type} {enc : TypeId × Value → H} {w : World} {spare : Nat → Bool} {held : Bool} {fuel : Nat} {cs : List Value} {x : DataW H × List MemPlace} (h : DataW.trod enc Tryz.prog w 0 spare held fuel 3 cs = some x) : ∃ v : Int, RepL w cs [vI v] ∧ (okK .i64 v) ∧ 1 ≤ bulk x.1 := by
  exact rd_int Tryz.underlying3 h
theorem cells3 : Tryz.prog.cellsOf 3 = 1 := by kernel_rfl
theorem rd4 {H : Type} {enc : TypeId × Value → H} {w : World} {spare : Nat → Bool} {held : Bool} {fuel : Nat} {cs : List Value} {x : DataW H × List MemPlace} (h : DataW.trod enc Tryz.prog w 0 spare held fuel 4 cs = some x) : ∃ v : Bool, RepL w cs [vB v] ∧ (True) ∧ 1 ≤ bulk x.1 := by
  obtain ⟨v, h1, h2⟩ := rd_bool Tryz.underlying4 h
  exact ⟨v, h1, trivial, h2⟩
theorem cells4 : Tryz.prog.cellsOf 4 = 1 := by kernel_rfl
def okDisk (x : Disk) : Prop := (okK .i64 x.Room) ∧ (okK .i64 x.Fuse)
def bkDisk (x : Disk) : Nat := (sumOf (fun u7 => bkFile u7) x.Files + 1) + 1 + 1 + 1 + 1
theorem cells31 : Tryz.prog.cellsOf 31 = 4 := by kernel_rfl
theorem rd31 {H : Type} {enc : TypeId × Value → H} {w : World} {spare : Nat → Bool} {held : Bool} {fuel : Nat} {cs : List Value} {x : DataW H × List MemPlace} (h : DataW.trod enc Tryz.prog w 0 spare held fuel 31 cs = some x) : ∃ v : Disk, RepL w cs (encDisk v) ∧ (okDisk v) ∧ bkDisk v ≤ bulk x.1 := by
  obtain ⟨xs, n, hb, hc, hx, hf⟩ := fields_of Tryz.underlying31 h
  rw [cells31] at hc
  obtain ⟨y0, y1, y2, y3, rfl⟩ : ∃ y0 y1 y2 y3, xs = [y0, y1, y2, y3] := by
    match xs, hx with
    | [y0, y1, y2, y3], _ => exact ⟨_, _, _, _, rfl⟩
  have f0 : DataW.trod enc Tryz.prog w 0 spare held n 29 ((cs.drop 0).take (Tryz.prog.cellsOf 29)) = some y0 := hf 0 _ rfl
  rw [cells29] at f0
  obtain ⟨v0, r0, o0, b0⟩ := rd29 f0
  have f1 : DataW.trod enc Tryz.prog w 0 spare held n 3 ((cs.drop 1).take (Tryz.prog.cellsOf 3)) = some y1 := hf 1 _ rfl
  rw [cells3] at f1
  obtain ⟨v1, r1, o1, b1⟩ := rd3 f1
  have f2 : DataW.trod enc Tryz.prog w 0 spare held n 3 ((cs.drop 2).take (Tryz.prog.cellsOf 3)) = some y2 := hf 2 _ rfl
  rw [cells3] at f2
  obtain ⟨v2, r2, o2, b2⟩ := rd3 f2
  have f3 : DataW.trod enc Tryz.prog w 0 spare held n 4 ((cs.drop 3).take (Tryz.prog.cellsOf 4)) = some y3 := hf 3 _ rfl
  rw [cells4] at f3
  obtain ⟨v3, r3, o3, b3⟩ := rd4 f3
  have z := RepL.nil (w := w) (cs := cs)
  rw [hc] at z
  have g := (RepL.app (o := 0) (k := 1) rfl r0 (RepL.app (o := 1) (k := 1) rfl r1 (RepL.app (o := 2) (k := 1) rfl r2 (RepL.app (o := 3) (k := 1) rfl r3 z))))
  refine ⟨⟨v0, v1, v2, v3⟩, g, ⟨o1, o2⟩, ?_⟩
  simp only [List.map, bulkAll] at hb
  unfold bkDisk
  try dsimp only
  omega
def okKvOpensIn (x : KvOpensIn) : Prop := (okDisk x.D) ∧ (okK .i64 x.From) ∧ (okK .i64 x.Run)
def bkKvOpensIn (x : KvOpensIn) : Nat := bkDisk x.D + 1 + 1 + (x.S.length + 1) + 1
theorem cells52 : Tryz.prog.cellsOf 52 = 7 := by kernel_rfl
theorem rd52 {H : Type} {enc : TypeId × Value → H} {w : World} {spare : Nat → Bool} {held : Bool} {fuel : Nat} {cs : List Value} {x : DataW H × List MemPlace} (h : DataW.trod enc Tryz.prog w 0 spare held fuel 52 cs = some x) : ∃ v : KvOpensIn, RepL w cs (encKvOpensIn v) ∧ (okKvOpensIn v) ∧ bkKvOpensIn v ≤ bulk x.1 := by
  obtain ⟨xs, n, hb, hc, hx, hf⟩ := fields_of Tryz.underlying52 h
  rw [cells52] at hc
  obtain ⟨y0, y1, y2, y3, rfl⟩ : ∃ y0 y1 y2 y3, xs = [y0, y1, y2, y3] := by
    match xs, hx with
    | [y0, y1, y2, y3], _ => exact ⟨_, _, _, _, rfl⟩
  have f0 : DataW.trod enc Tryz.prog w 0 spare held n 31 ((cs.drop 0).take (Tryz.prog.cellsOf 31)) = some y0 := hf 0 _ rfl
  rw [cells31] at f0
  obtain ⟨v0, r0, o0, b0⟩ := rd31 f0
  have f1 : DataW.trod enc Tryz.prog w 0 spare held n 3 ((cs.drop 4).take (Tryz.prog.cellsOf 3)) = some y1 := hf 1 _ rfl
  rw [cells3] at f1
  obtain ⟨v1, r1, o1, b1⟩ := rd3 f1
  have f2 : DataW.trod enc Tryz.prog w 0 spare held n 3 ((cs.drop 5).take (Tryz.prog.cellsOf 3)) = some y2 := hf 2 _ rfl
  rw [cells3] at f2
  obtain ⟨v2, r2, o2, b2⟩ := rd3 f2
  have f3 : DataW.trod enc Tryz.prog w 0 spare held n 9 ((cs.drop 6).take (Tryz.prog.cellsOf 9)) = some y3 := hf 3 _ rfl
  rw [cells9] at f3
  obtain ⟨v3, r3, o3, b3⟩ := rd9 f3
  have z := RepL.nil (w := w) (cs := cs)
  rw [hc] at z
  have g := (RepL.app (o := 0) (k := 4) rfl r0 (RepL.app (o := 4) (k := 1) rfl r1 (RepL.app (o := 5) (k := 1) rfl r2 (RepL.app (o := 6) (k := 1) rfl r3 z))))
  refine ⟨⟨v0, v1, v2, v3⟩, g, ⟨o0, o1, o2⟩, ?_⟩
  simp only [List.map, bulkAll] at hb
  unfold bkKvOpensIn
  try dsimp only
  omega
end Go.Ab
