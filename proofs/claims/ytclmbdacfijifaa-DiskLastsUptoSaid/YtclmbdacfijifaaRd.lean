/- Plain data out of readings. Printed by a program of this session. -/
import Derived.Test.YtclmbdacfijifaaTy
import Derived.Test.YtclmbdacfijifaaStRow
import Derived.KernelRfl
namespace Go.Ab
open Go.Proofs
set_option linter.unusedVariables false
set_option maxRecDepth 100000
theorem rd9 {H : Type} {enc : TypeId × Value → H} {w : World} {spare : Nat → Bool} {held : Bool} {fuel : Nat} {cs : List Value} {x : DataW H × List MemPlace} (h : DataW.trod enc Try.prog w 0 spare held fuel 9 cs = some x) : ∃ v : Str, RepL w cs [.v (.string (bs v))] ∧ (True) ∧ (v.length + 1) ≤ bulk x.1 := by
  obtain ⟨v, h1, h2⟩ := rd_str Try.underlying9 h
  exact ⟨v, h1, trivial, h2⟩
theorem cells9 : Try.prog.cellsOf 9 = 1 := by kernel_rfl
def bkFile (x : File) : Nat := (x.Name.length + 1) + (x.Safe.length + 1) + (x.Wait.length + 1) + 1
theorem cells29 : Try.prog.cellsOf 29 = 3 := by kernel_rfl
theorem rd29 {H : Type} {enc : TypeId × Value → H} {w : World} {spare : Nat → Bool} {held : Bool} {fuel : Nat} {cs : List Value} {x : DataW H × List MemPlace} (h : DataW.trod enc Try.prog w 0 spare held fuel 29 cs = some x) : ∃ v : File, RepL w cs (encFile v) ∧ (True) ∧ bkFile v ≤ bulk x.1 := by
  obtain ⟨xs, n, hb, hc, hx, hf⟩ := fields_of Try.underlying29 h
  rw [cells29] at hc
  obtain ⟨y0, y1, y2, rfl⟩ : ∃ y0 y1 y2, xs = [y0, y1, y2] := by
    match xs, hx with
    | [y0, y1, y2], _ => exact ⟨_, _, _, rfl⟩
  have f0 : DataW.trod enc Try.prog w 0 spare held n 9 ((cs.drop 0).take (Try.prog.cellsOf 9)) = some y0 := hf 0 _ rfl
  rw [cells9] at f0
  obtain ⟨v0, r0, o0, b0⟩ := rd9 f0
  have f1 : DataW.trod enc Try.prog w 0 spare held n 9 ((cs.drop 1).take (Try.prog.cellsOf 9)) = some y1 := hf 1 _ rfl
  rw [cells9] at f1
  obtain ⟨v1, r1, o1, b1⟩ := rd9 f1
  have f2 : DataW.trod enc Try.prog w 0 spare held n 9 ((cs.drop 2).take (Try.prog.cellsOf 9)) = some y2 := hf 2 _ rfl
  rw [cells9] at f2
  obtain ⟨v2, r2, o2, b2⟩ := rd9 f2
  have z := RepL.nil (w := w) (cs := cs)
  rw [hc] at z
  have g := (RepL.app (o := 0) (k := 1) rfl r0 (RepL.app (o := 1) (k := 1) rfl r1 (RepL.app (o := 2) (k := 1) rfl r2 z)))
  refine ⟨⟨v0, v1, v2⟩, g, trivial, ?_⟩
  simp only [List.map, bulkAll] at hb
  unfold bkFile
  dsimp only
  omega
theorem rd22 {H : Type} {enc : TypeId × Value → H} {w : World} {spare : Nat → Bool} {held : Bool} {fuel : Nat} {cs : List Value} {x : DataW H × List MemPlace} (h : DataW.trod enc Try.prog w 0 spare held fuel 22 cs = some x) : ∃ v : (List File), RepL w cs [.sl (List.map encFile v)] ∧ (True) ∧ (sumOf (fun u4 => bkFile u4) v + 1) ≤ bulk x.1 := by
  obtain ⟨v, h1, h2, h3⟩ := rd_slice (encα := encFile) (ok := fun v => True) (bk := fun v => bkFile v) Try.underlying22 cells29 (by decide) (fun _ => rfl) (fun _ => rfl) (fun fuel cs x h => rd29 h) h
  exact ⟨v, h1, trivial, h3⟩
theorem cells22 : Try.prog.cellsOf 22 = 1 := by kernel_rfl
theorem rd3 {H : Type} {enc : TypeId × Value → H} {w : World} {spare : Nat → Bool} {held : Bool} {fuel : Nat} {cs : List Value} {x : DataW H × List MemPlace} (h : DataW.trod enc Try.prog w 0 spare held fuel 3 cs = some x) : ∃ v : Int, RepL w cs [.v (.int .i64 v)] ∧ (okK .i64 v) ∧ 1 ≤ bulk x.1 := by
  exact rd_int Try.underlying3 h
theorem cells3 : Try.prog.cellsOf 3 = 1 := by kernel_rfl
theorem rd4 {H : Type} {enc : TypeId × Value → H} {w : World} {spare : Nat → Bool} {held : Bool} {fuel : Nat} {cs : List Value} {x : DataW H × List MemPlace} (h : DataW.trod enc Try.prog w 0 spare held fuel 4 cs = some x) : ∃ v : Bool, RepL w cs [.v (.bool v)] ∧ (True) ∧ 1 ≤ bulk x.1 := by
  obtain ⟨v, h1, h2⟩ := rd_bool Try.underlying4 h
  exact ⟨v, h1, trivial, h2⟩
theorem cells4 : Try.prog.cellsOf 4 = 1 := by kernel_rfl
def okDisk (x : Disk) : Prop := (okK .i64 x.Room) ∧ (okK .i64 x.Fuse)
def bkDisk (x : Disk) : Nat := (sumOf (fun u7 => bkFile u7) x.Files + 1) + 1 + 1 + 1 + 1
theorem cells24 : Try.prog.cellsOf 24 = 4 := by kernel_rfl
theorem rd24 {H : Type} {enc : TypeId × Value → H} {w : World} {spare : Nat → Bool} {held : Bool} {fuel : Nat} {cs : List Value} {x : DataW H × List MemPlace} (h : DataW.trod enc Try.prog w 0 spare held fuel 24 cs = some x) : ∃ v : Disk, RepL w cs (encDisk v) ∧ (okDisk v) ∧ bkDisk v ≤ bulk x.1 := by
  obtain ⟨xs, n, hb, hc, hx, hf⟩ := fields_of Try.underlying24 h
  rw [cells24] at hc
  obtain ⟨y0, y1, y2, y3, rfl⟩ : ∃ y0 y1 y2 y3, xs = [y0, y1, y2, y3] := by
    match xs, hx with
    | [y0, y1, y2, y3], _ => exact ⟨_, _, _, _, rfl⟩
  have f0 : DataW.trod enc Try.prog w 0 spare held n 22 ((cs.drop 0).take (Try.prog.cellsOf 22)) = some y0 := hf 0 _ rfl
  rw [cells22] at f0
  obtain ⟨v0, r0, o0, b0⟩ := rd22 f0
  have f1 : DataW.trod enc Try.prog w 0 spare held n 3 ((cs.drop 1).take (Try.prog.cellsOf 3)) = some y1 := hf 1 _ rfl
  rw [cells3] at f1
  obtain ⟨v1, r1, o1, b1⟩ := rd3 f1
  have f2 : DataW.trod enc Try.prog w 0 spare held n 3 ((cs.drop 2).take (Try.prog.cellsOf 3)) = some y2 := hf 2 _ rfl
  rw [cells3] at f2
  obtain ⟨v2, r2, o2, b2⟩ := rd3 f2
  have f3 : DataW.trod enc Try.prog w 0 spare held n 4 ((cs.drop 3).take (Try.prog.cellsOf 4)) = some y3 := hf 3 _ rfl
  rw [cells4] at f3
  obtain ⟨v3, r3, o3, b3⟩ := rd4 f3
  have z := RepL.nil (w := w) (cs := cs)
  rw [hc] at z
  have g := (RepL.app (o := 0) (k := 1) rfl r0 (RepL.app (o := 1) (k := 1) rfl r1 (RepL.app (o := 2) (k := 1) rfl r2 (RepL.app (o := 3) (k := 1) rfl r3 z))))
  refine ⟨⟨v0, v1, v2, v3⟩, g, ⟨o1, o2⟩, ?_⟩
  simp only [List.map, bulkAll] at hb
  unfold bkDisk
  dsimp only
  omega
def okDiskActsIn (x : DiskActsIn) : Prop := (okDisk x.D) ∧ (okK .i64 x.Room)
def bkDiskActsIn (x : DiskActsIn) : Nat := bkDisk x.D + (x.Name.length + 1) + (x.S.length + 1) + 1 + 1
theorem cells26 : Try.prog.cellsOf 26 = 7 := by kernel_rfl
theorem rd26 {H : Type} {enc : TypeId × Value → H} {w : World} {spare : Nat → Bool} {held : Bool} {fuel : Nat} {cs : List Value} {x : DataW H × List MemPlace} (h : DataW.trod enc Try.prog w 0 spare held fuel 26 cs = some x) : ∃ v : DiskActsIn, RepL w cs (encDiskActsIn v) ∧ (okDiskActsIn v) ∧ bkDiskActsIn v ≤ bulk x.1 := by
  obtain ⟨xs, n, hb, hc, hx, hf⟩ := fields_of Try.underlying26 h
  rw [cells26] at hc
  obtain ⟨y0, y1, y2, y3, rfl⟩ : ∃ y0 y1 y2 y3, xs = [y0, y1, y2, y3] := by
    match xs, hx with
    | [y0, y1, y2, y3], _ => exact ⟨_, _, _, _, rfl⟩
  have f0 : DataW.trod enc Try.prog w 0 spare held n 24 ((cs.drop 0).take (Try.prog.cellsOf 24)) = some y0 := hf 0 _ rfl
  rw [cells24] at f0
  obtain ⟨v0, r0, o0, b0⟩ := rd24 f0
  have f1 : DataW.trod enc Try.prog w 0 spare held n 9 ((cs.drop 4).take (Try.prog.cellsOf 9)) = some y1 := hf 1 _ rfl
  rw [cells9] at f1
  obtain ⟨v1, r1, o1, b1⟩ := rd9 f1
  have f2 : DataW.trod enc Try.prog w 0 spare held n 9 ((cs.drop 5).take (Try.prog.cellsOf 9)) = some y2 := hf 2 _ rfl
  rw [cells9] at f2
  obtain ⟨v2, r2, o2, b2⟩ := rd9 f2
  have f3 : DataW.trod enc Try.prog w 0 spare held n 3 ((cs.drop 6).take (Try.prog.cellsOf 3)) = some y3 := hf 3 _ rfl
  rw [cells3] at f3
  obtain ⟨v3, r3, o3, b3⟩ := rd3 f3
  have z := RepL.nil (w := w) (cs := cs)
  rw [hc] at z
  have g := (RepL.app (o := 0) (k := 4) rfl r0 (RepL.app (o := 4) (k := 1) rfl r1 (RepL.app (o := 5) (k := 1) rfl r2 (RepL.app (o := 6) (k := 1) rfl r3 z))))
  refine ⟨⟨v0, v1, v2, v3⟩, g, ⟨o0, o3⟩, ?_⟩
  simp only [List.map, bulkAll] at hb
  unfold bkDiskActsIn
  dsimp only
  omega
theorem rd47 {H : Type} {enc : TypeId × Value → H} {w : World} {spare : Nat → Bool} {held : Bool} {fuel : Nat} {cs : List Value} {x : DataW H × List MemPlace} (h : DataW.trod enc Try.prog w 0 spare held fuel 47 cs = some x) : ∃ v : (List Int), RepL w cs [.sl (List.map (encI .i64) v)] ∧ (∀ u13 ∈ v, okK .i64 u13) ∧ (sumOf (fun u14 => 1) v + 1) ≤ bulk x.1 := by
  obtain ⟨v, h1, h2, h3⟩ := rd_slice (encα := (encI .i64)) (ok := fun v => okK .i64 v) (bk := fun v => 1) Try.underlying47 cells3 (by decide) (fun _ => rfl) (fun _ => rfl) (fun fuel cs x h => rd3 h) h
  exact ⟨v, h1, h2, h3⟩
theorem cells47 : Try.prog.cellsOf 47 = 1 := by kernel_rfl
def okDiskTwiceIn (x : DiskTwiceIn) : Prop := (okDisk x.D) ∧ (∀ u17 ∈ x.Keeps, okK .i64 u17) ∧ (∀ u18 ∈ x.More, okK .i64 u18)
def bkDiskTwiceIn (x : DiskTwiceIn) : Nat := bkDisk x.D + (sumOf (fun u19 => 1) x.Keeps + 1) + (sumOf (fun u20 => 1) x.More + 1) + (x.Name.length + 1) + 1
theorem cells49 : Try.prog.cellsOf 49 = 7 := by kernel_rfl
theorem rd49 {H : Type} {enc : TypeId × Value → H} {w : World} {spare : Nat → Bool} {held : Bool} {fuel : Nat} {cs : List Value} {x : DataW H × List MemPlace} (h : DataW.trod enc Try.prog w 0 spare held fuel 49 cs = some x) : ∃ v : DiskTwiceIn, RepL w cs (encDiskTwiceIn v) ∧ (okDiskTwiceIn v) ∧ bkDiskTwiceIn v ≤ bulk x.1 := by
  obtain ⟨xs, n, hb, hc, hx, hf⟩ := fields_of Try.underlying49 h
  rw [cells49] at hc
  obtain ⟨y0, y1, y2, y3, rfl⟩ : ∃ y0 y1 y2 y3, xs = [y0, y1, y2, y3] := by
    match xs, hx with
    | [y0, y1, y2, y3], _ => exact ⟨_, _, _, _, rfl⟩
  have f0 : DataW.trod enc Try.prog w 0 spare held n 24 ((cs.drop 0).take (Try.prog.cellsOf 24)) = some y0 := hf 0 _ rfl
  rw [cells24] at f0
  obtain ⟨v0, r0, o0, b0⟩ := rd24 f0
  have f1 : DataW.trod enc Try.prog w 0 spare held n 47 ((cs.drop 4).take (Try.prog.cellsOf 47)) = some y1 := hf 1 _ rfl
  rw [cells47] at f1
  obtain ⟨v1, r1, o1, b1⟩ := rd47 f1
  have f2 : DataW.trod enc Try.prog w 0 spare held n 47 ((cs.drop 5).take (Try.prog.cellsOf 47)) = some y2 := hf 2 _ rfl
  rw [cells47] at f2
  obtain ⟨v2, r2, o2, b2⟩ := rd47 f2
  have f3 : DataW.trod enc Try.prog w 0 spare held n 9 ((cs.drop 6).take (Try.prog.cellsOf 9)) = some y3 := hf 3 _ rfl
  rw [cells9] at f3
  obtain ⟨v3, r3, o3, b3⟩ := rd9 f3
  have z := RepL.nil (w := w) (cs := cs)
  rw [hc] at z
  have g := (RepL.app (o := 0) (k := 4) rfl r0 (RepL.app (o := 4) (k := 1) rfl r1 (RepL.app (o := 5) (k := 1) rfl r2 (RepL.app (o := 6) (k := 1) rfl r3 z))))
  refine ⟨⟨v0, v1, v2, v3⟩, g, ⟨o0, o1, o2⟩, ?_⟩
  simp only [List.map, bulkAll] at hb
  unfold bkDiskTwiceIn
  dsimp only
  omega
theorem rd52 {H : Type} {enc : TypeId × Value → H} {w : World} {spare : Nat → Bool} {held : Bool} {fuel : Nat} {cs : List Value} {x : DataW H × List MemPlace} (h : DataW.trod enc Try.prog w 0 spare held fuel 52 cs = some x) : ∃ v : (List Str), RepL w cs [.sl (List.map encS v)] ∧ (True) ∧ (sumOf (fun u26 => (u26.length + 1)) v + 1) ≤ bulk x.1 := by
  obtain ⟨v, h1, h2, h3⟩ := rd_slice (encα := encS) (ok := fun v => True) (bk := fun v => (v.length + 1)) Try.underlying52 cells9 (by decide) (fun _ => rfl) (fun _ => rfl) (fun fuel cs x h => rd9 h) h
  exact ⟨v, h1, trivial, h3⟩
def okAct (x : Act) : Prop := (okK .i64 x.Kind) ∧ (okK .i64 x.N)
def bkAct (x : Act) : Nat := 1 + 1 + (x.Name.length + 1) + (x.S.length + 1) + 1
theorem cells59 : Try.prog.cellsOf 59 = 4 := by kernel_rfl
theorem rd59 {H : Type} {enc : TypeId × Value → H} {w : World} {spare : Nat → Bool} {held : Bool} {fuel : Nat} {cs : List Value} {x : DataW H × List MemPlace} (h : DataW.trod enc Try.prog w 0 spare held fuel 59 cs = some x) : ∃ v : Act, RepL w cs (encAct v) ∧ (okAct v) ∧ bkAct v ≤ bulk x.1 := by
  obtain ⟨xs, n, hb, hc, hx, hf⟩ := fields_of Try.underlying59 h
  rw [cells59] at hc
  obtain ⟨y0, y1, y2, y3, rfl⟩ : ∃ y0 y1 y2 y3, xs = [y0, y1, y2, y3] := by
    match xs, hx with
    | [y0, y1, y2, y3], _ => exact ⟨_, _, _, _, rfl⟩
  have f0 : DataW.trod enc Try.prog w 0 spare held n 3 ((cs.drop 0).take (Try.prog.cellsOf 3)) = some y0 := hf 0 _ rfl
  rw [cells3] at f0
  obtain ⟨v0, r0, o0, b0⟩ := rd3 f0
  have f1 : DataW.trod enc Try.prog w 0 spare held n 3 ((cs.drop 1).take (Try.prog.cellsOf 3)) = some y1 := hf 1 _ rfl
  rw [cells3] at f1
  obtain ⟨v1, r1, o1, b1⟩ := rd3 f1
  have f2 : DataW.trod enc Try.prog w 0 spare held n 9 ((cs.drop 2).take (Try.prog.cellsOf 9)) = some y2 := hf 2 _ rfl
  rw [cells9] at f2
  obtain ⟨v2, r2, o2, b2⟩ := rd9 f2
  have f3 : DataW.trod enc Try.prog w 0 spare held n 9 ((cs.drop 3).take (Try.prog.cellsOf 9)) = some y3 := hf 3 _ rfl
  rw [cells9] at f3
  obtain ⟨v3, r3, o3, b3⟩ := rd9 f3
  have z := RepL.nil (w := w) (cs := cs)
  rw [hc] at z
  have g := (RepL.app (o := 0) (k := 1) rfl r0 (RepL.app (o := 1) (k := 1) rfl r1 (RepL.app (o := 2) (k := 1) rfl r2 (RepL.app (o := 3) (k := 1) rfl r3 z))))
  refine ⟨⟨v0, v1, v2, v3⟩, g, ⟨o0, o1⟩, ?_⟩
  simp only [List.map, bulkAll] at hb
  unfold bkAct
  dsimp only
  omega
theorem rd56 {H : Type} {enc : TypeId × Value → H} {w : World} {spare : Nat → Bool} {held : Bool} {fuel : Nat} {cs : List Value} {x : DataW H × List MemPlace} (h : DataW.trod enc Try.prog w 0 spare held fuel 56 cs = some x) : ∃ v : (List Act), RepL w cs [.sl (List.map encAct v)] ∧ (∀ u30 ∈ v, okAct u30) ∧ (sumOf (fun u31 => bkAct u31) v + 1) ≤ bulk x.1 := by
  obtain ⟨v, h1, h2, h3⟩ := rd_slice (encα := encAct) (ok := fun v => okAct v) (bk := fun v => bkAct v) Try.underlying56 cells59 (by decide) (fun _ => rfl) (fun _ => rfl) (fun fuel cs x h => rd59 h) h
  exact ⟨v, h1, h2, h3⟩
theorem cells56 : Try.prog.cellsOf 56 = 1 := by kernel_rfl
def okDiskLastsIn (x : DiskLastsIn) : Prop := (okK .i64 x.Room) ∧ (∀ u34 ∈ x.L, okAct u34) ∧ (∀ u35 ∈ x.More, okAct u35)
def bkDiskLastsIn (x : DiskLastsIn) : Nat := 1 + (sumOf (fun u36 => bkAct u36) x.L + 1) + (x.Name.length + 1) + (sumOf (fun u37 => bkAct u37) x.More + 1) + 1
theorem cells62 : Try.prog.cellsOf 62 = 4 := by kernel_rfl
theorem rd62 {H : Type} {enc : TypeId × Value → H} {w : World} {spare : Nat → Bool} {held : Bool} {fuel : Nat} {cs : List Value} {x : DataW H × List MemPlace} (h : DataW.trod enc Try.prog w 0 spare held fuel 62 cs = some x) : ∃ v : DiskLastsIn, RepL w cs (encDiskLastsIn v) ∧ (okDiskLastsIn v) ∧ bkDiskLastsIn v ≤ bulk x.1 := by
  obtain ⟨xs, n, hb, hc, hx, hf⟩ := fields_of Try.underlying62 h
  rw [cells62] at hc
  obtain ⟨y0, y1, y2, y3, rfl⟩ : ∃ y0 y1 y2 y3, xs = [y0, y1, y2, y3] := by
    match xs, hx with
    | [y0, y1, y2, y3], _ => exact ⟨_, _, _, _, rfl⟩
  have f0 : DataW.trod enc Try.prog w 0 spare held n 3 ((cs.drop 0).take (Try.prog.cellsOf 3)) = some y0 := hf 0 _ rfl
  rw [cells3] at f0
  obtain ⟨v0, r0, o0, b0⟩ := rd3 f0
  have f1 : DataW.trod enc Try.prog w 0 spare held n 56 ((cs.drop 1).take (Try.prog.cellsOf 56)) = some y1 := hf 1 _ rfl
  rw [cells56] at f1
  obtain ⟨v1, r1, o1, b1⟩ := rd56 f1
  have f2 : DataW.trod enc Try.prog w 0 spare held n 9 ((cs.drop 2).take (Try.prog.cellsOf 9)) = some y2 := hf 2 _ rfl
  rw [cells9] at f2
  obtain ⟨v2, r2, o2, b2⟩ := rd9 f2
  have f3 : DataW.trod enc Try.prog w 0 spare held n 56 ((cs.drop 3).take (Try.prog.cellsOf 56)) = some y3 := hf 3 _ rfl
  rw [cells56] at f3
  obtain ⟨v3, r3, o3, b3⟩ := rd56 f3
  have z := RepL.nil (w := w) (cs := cs)
  rw [hc] at z
  have g := (RepL.app (o := 0) (k := 1) rfl r0 (RepL.app (o := 1) (k := 1) rfl r1 (RepL.app (o := 2) (k := 1) rfl r2 (RepL.app (o := 3) (k := 1) rfl r3 z))))
  refine ⟨⟨v0, v1, v2, v3⟩, g, ⟨o0, o1, o3⟩, ?_⟩
  simp only [List.map, bulkAll] at hb
  unfold bkDiskLastsIn
  dsimp only
  omega
def okDiskMovesIn (x : DiskMovesIn) : Prop := (okDisk x.D) ∧ (∀ u43 ∈ x.Keeps, okK .i64 u43) ∧ (okK .i64 x.Fuse) ∧ (okDisk x.Other)
def bkDiskMovesIn (x : DiskMovesIn) : Nat := bkDisk x.D + (x.From.length + 1) + (x.To.length + 1) + (sumOf (fun u45 => 1) x.Keeps + 1) + 1 + bkDisk x.Other + 1
theorem cells66 : Try.prog.cellsOf 66 = 12 := by kernel_rfl
theorem rd66 {H : Type} {enc : TypeId × Value → H} {w : World} {spare : Nat → Bool} {held : Bool} {fuel : Nat} {cs : List Value} {x : DataW H × List MemPlace} (h : DataW.trod enc Try.prog w 0 spare held fuel 66 cs = some x) : ∃ v : DiskMovesIn, RepL w cs (encDiskMovesIn v) ∧ (okDiskMovesIn v) ∧ bkDiskMovesIn v ≤ bulk x.1 := by
  obtain ⟨xs, n, hb, hc, hx, hf⟩ := fields_of Try.underlying66 h
  rw [cells66] at hc
  obtain ⟨y0, y1, y2, y3, y4, y5, rfl⟩ : ∃ y0 y1 y2 y3 y4 y5, xs = [y0, y1, y2, y3, y4, y5] := by
    match xs, hx with
    | [y0, y1, y2, y3, y4, y5], _ => exact ⟨_, _, _, _, _, _, rfl⟩
  have f0 : DataW.trod enc Try.prog w 0 spare held n 24 ((cs.drop 0).take (Try.prog.cellsOf 24)) = some y0 := hf 0 _ rfl
  rw [cells24] at f0
  obtain ⟨v0, r0, o0, b0⟩ := rd24 f0
  have f1 : DataW.trod enc Try.prog w 0 spare held n 9 ((cs.drop 4).take (Try.prog.cellsOf 9)) = some y1 := hf 1 _ rfl
  rw [cells9] at f1
  obtain ⟨v1, r1, o1, b1⟩ := rd9 f1
  have f2 : DataW.trod enc Try.prog w 0 spare held n 9 ((cs.drop 5).take (Try.prog.cellsOf 9)) = some y2 := hf 2 _ rfl
  rw [cells9] at f2
  obtain ⟨v2, r2, o2, b2⟩ := rd9 f2
  have f3 : DataW.trod enc Try.prog w 0 spare held n 47 ((cs.drop 6).take (Try.prog.cellsOf 47)) = some y3 := hf 3 _ rfl
  rw [cells47] at f3
  obtain ⟨v3, r3, o3, b3⟩ := rd47 f3
  have f4 : DataW.trod enc Try.prog w 0 spare held n 3 ((cs.drop 7).take (Try.prog.cellsOf 3)) = some y4 := hf 4 _ rfl
  rw [cells3] at f4
  obtain ⟨v4, r4, o4, b4⟩ := rd3 f4
  have f5 : DataW.trod enc Try.prog w 0 spare held n 24 ((cs.drop 8).take (Try.prog.cellsOf 24)) = some y5 := hf 5 _ rfl
  rw [cells24] at f5
  obtain ⟨v5, r5, o5, b5⟩ := rd24 f5
  have z := RepL.nil (w := w) (cs := cs)
  rw [hc] at z
  have g := (RepL.app (o := 0) (k := 4) rfl r0 (RepL.app (o := 4) (k := 1) rfl r1 (RepL.app (o := 5) (k := 1) rfl r2 (RepL.app (o := 6) (k := 1) rfl r3 (RepL.app (o := 7) (k := 1) rfl r4 (RepL.app (o := 8) (k := 4) rfl r5 z))))))
  refine ⟨⟨v0, v1, v2, v3, v4, v5⟩, g, ⟨o0, o3, o4, o5⟩, ?_⟩
  simp only [List.map, bulkAll] at hb
  unfold bkDiskMovesIn
  dsimp only
  omega
end Go.Ab
