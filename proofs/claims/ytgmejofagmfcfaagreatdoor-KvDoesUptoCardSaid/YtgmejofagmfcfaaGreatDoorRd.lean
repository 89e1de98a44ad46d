/- Plain data out of readings. Printed by a program of this session. -/
import Derived.Test.YtgmejofagmfcfaaGreatDoorTy
import Derived.Test.YtgmejofagmfcfaaGreatDoorStFwD
import Derived.KernelRfl
namespace Go.Ab
open Go.Proofs
set_option linter.unusedVariables false
set_option maxRecDepth 100000
theorem rd3 {H : Type} {enc : TypeId × Value → H} {w : World} {spare : Nat → Bool} {held : Bool} {fuel : Nat} {cs : List Value} {x : DataW H × List MemPlace} (h : DataW.trod enc Tryz.prog w 0 spare held fuel 3 cs = some x) : ∃ v : Int, RepL w cs [vI v] ∧ (okK .i64 v) ∧ 1 ≤ bulk x.1 := by
  exact rd_int Tryz.underlying3 h
theorem cells3 : Tryz.prog.cellsOf 3 = 1 := by kernel_rfl
theorem rd9 {H : Type} {enc : TypeId × Value → H} {w : World} {spare : Nat → Bool} {held : Bool} {fuel : Nat} {cs : List Value} {x : DataW H × List MemPlace} (h : DataW.trod enc Tryz.prog w 0 spare held fuel 9 cs = some x) : ∃ v : Str, RepL w cs [vS v] ∧ (True) ∧ (v.length + 1) ≤ bulk x.1 := by
  obtain ⟨v, h1, h2⟩ := rd_str Tryz.underlying9 h
  exact ⟨v, h1, trivial, h2⟩
theorem cells9 : Tryz.prog.cellsOf 9 = 1 := by kernel_rfl
theorem rd4 {H : Type} {enc : TypeId × Value → H} {w : World} {spare : Nat → Bool} {held : Bool} {fuel : Nat} {cs : List Value} {x : DataW H × List MemPlace} (h : DataW.trod enc Tryz.prog w 0 spare held fuel 4 cs = some x) : ∃ v : Bool, RepL w cs [vB v] ∧ (True) ∧ 1 ≤ bulk x.1 := by
  obtain ⟨v, h1, h2⟩ := rd_bool Tryz.underlying4 h
  exact ⟨v, h1, trivial, h2⟩
theorem cells4 : Tryz.prog.cellsOf 4 = 1 := by kernel_rfl
def bkWrite (x : Write) : Nat := (x.Key.length + 1) + (x.Val.length + 1) + 1 + 1
theorem cells88 : Tryz.prog.cellsOf 88 = 3 := by kernel_rfl
theorem rd88 {H : Type} {enc : TypeId × Value → H} {w : World} {spare : Nat → Bool} {held : Bool} {fuel : Nat} {cs : List Value} {x : DataW H × List MemPlace} (h : DataW.trod enc Tryz.prog w 0 spare held fuel 88 cs = some x) : ∃ v : Write, RepL w cs (encWrite v) ∧ (True) ∧ bkWrite v ≤ bulk x.1 := by
  obtain ⟨xs, n, hb, hc, hx, hf⟩ := fields_of Tryz.underlying88 h
  rw [cells88] at hc
  obtain ⟨y0, y1, y2, rfl⟩ : ∃ y0 y1 y2, xs = [y0, y1, y2] := by
    match xs, hx with
    | [y0, y1, y2], _ => exact ⟨_, _, _, rfl⟩
  have f0 : DataW.trod enc Tryz.prog w 0 spare held n 9 ((cs.drop 0).take (Tryz.prog.cellsOf 9)) = some y0 := hf 0 _ rfl
  rw [cells9] at f0
  obtain ⟨v0, r0, o0, b0⟩ := rd9 f0
  have f1 : DataW.trod enc Tryz.prog w 0 spare held n 9 ((cs.drop 1).take (Tryz.prog.cellsOf 9)) = some y1 := hf 1 _ rfl
  rw [cells9] at f1
  obtain ⟨v1, r1, o1, b1⟩ := rd9 f1
  have f2 : DataW.trod enc Tryz.prog w 0 spare held n 4 ((cs.drop 2).take (Tryz.prog.cellsOf 4)) = some y2 := hf 2 _ rfl
  rw [cells4] at f2
  obtain ⟨v2, r2, o2, b2⟩ := rd4 f2
  have z := RepL.nil (w := w) (cs := cs)
  rw [hc] at z
  have g := (RepL.app (o := 0) (k := 1) rfl r0 (RepL.app (o := 1) (k := 1) rfl r1 (RepL.app (o := 2) (k := 1) rfl r2 z)))
  refine ⟨⟨v0, v1, v2⟩, g, trivial, ?_⟩
  simp only [List.map, bulkAll] at hb
  unfold bkWrite
  try dsimp only
  omega
theorem rd23 {H : Type} {enc : TypeId × Value → H} {w : World} {spare : Nat → Bool} {held : Bool} {fuel : Nat} {cs : List Value} {x : DataW H × List MemPlace} (h : DataW.trod enc Tryz.prog w 0 spare held fuel 23 cs = some x) : ∃ v : (List Write), RepL w cs [sL encWrite v] ∧ (True) ∧ (sumOf (fun u4 => bkWrite u4) v + 1) ≤ bulk x.1 := by
  obtain ⟨v, h1, h2, h3⟩ := rd_slice (encα := encWrite) (ok := fun v => True) (bk := fun v => bkWrite v) Tryz.underlying23 cells88 (by decide) (fun _ => rfl) (fun _ => rfl) (fun fuel cs x h => rd88 h) h
  exact ⟨v, h1, trivial, h3⟩
theorem cells23 : Tryz.prog.cellsOf 23 = 1 := by kernel_rfl
def okBatch (x : Batch) : Prop := (okK .i64 x.Kind)
def bkBatch (x : Batch) : Nat := 1 + (x.Token.length + 1) + (sumOf (fun u7 => bkWrite u7) x.Writes + 1) + 1
theorem cells25 : Tryz.prog.cellsOf 25 = 3 := by kernel_rfl
theorem rd25 {H : Type} {enc : TypeId × Value → H} {w : World} {spare : Nat → Bool} {held : Bool} {fuel : Nat} {cs : List Value} {x : DataW H × List MemPlace} (h : DataW.trod enc Tryz.prog w 0 spare held fuel 25 cs = some x) : ∃ v : Batch, RepL w cs (encBatch v) ∧ (okBatch v) ∧ bkBatch v ≤ bulk x.1 := by
  obtain ⟨xs, n, hb, hc, hx, hf⟩ := fields_of Tryz.underlying25 h
  rw [cells25] at hc
  obtain ⟨y0, y1, y2, rfl⟩ : ∃ y0 y1 y2, xs = [y0, y1, y2] := by
    match xs, hx with
    | [y0, y1, y2], _ => exact ⟨_, _, _, rfl⟩
  have f0 : DataW.trod enc Tryz.prog w 0 spare held n 3 ((cs.drop 0).take (Tryz.prog.cellsOf 3)) = some y0 := hf 0 _ rfl
  rw [cells3] at f0
  obtain ⟨v0, r0, o0, b0⟩ := rd3 f0
  have f1 : DataW.trod enc Tryz.prog w 0 spare held n 9 ((cs.drop 1).take (Tryz.prog.cellsOf 9)) = some y1 := hf 1 _ rfl
  rw [cells9] at f1
  obtain ⟨v1, r1, o1, b1⟩ := rd9 f1
  have f2 : DataW.trod enc Tryz.prog w 0 spare held n 23 ((cs.drop 2).take (Tryz.prog.cellsOf 23)) = some y2 := hf 2 _ rfl
  rw [cells23] at f2
  obtain ⟨v2, r2, o2, b2⟩ := rd23 f2
  have z := RepL.nil (w := w) (cs := cs)
  rw [hc] at z
  have g := (RepL.app (o := 0) (k := 1) rfl r0 (RepL.app (o := 1) (k := 1) rfl r1 (RepL.app (o := 2) (k := 1) rfl r2 z)))
  refine ⟨⟨v0, v1, v2⟩, g, o0, ?_⟩
  simp only [List.map, bulkAll] at hb
  unfold bkBatch
  try dsimp only
  omega
theorem rd22 {H : Type} {enc : TypeId × Value → H} {w : World} {spare : Nat → Bool} {held : Bool} {fuel : Nat} {cs : List Value} {x : DataW H × List MemPlace} (h : DataW.trod enc Tryz.prog w 0 spare held fuel 22 cs = some x) : ∃ v : (List Batch), RepL w cs [sL encBatch v] ∧ (∀ u1 ∈ v, okBatch u1) ∧ (sumOf (fun u2 => bkBatch u2) v + 1) ≤ bulk x.1 := by
  obtain ⟨v, h1, h2, h3⟩ := rd_slice (encα := encBatch) (ok := fun v => okBatch v) (bk := fun v => bkBatch v) Tryz.underlying22 cells25 (by decide) (fun _ => rfl) (fun _ => rfl) (fun fuel cs x h => rd25 h) h
  exact ⟨v, h1, h2, h3⟩
theorem cells22 : Tryz.prog.cellsOf 22 = 1 := by kernel_rfl
def okKvOnceIn (x : KvOnceIn) : Prop := (okK .i64 x.Room) ∧ (∀ u10 ∈ x.L, okBatch u10) ∧ (okBatch x.B) ∧ (okBatch x.Again)
def bkKvOnceIn (x : KvOnceIn) : Nat := 1 + (sumOf (fun u11 => bkBatch u11) x.L + 1) + bkBatch x.B + bkBatch x.Again + 1
theorem cells27 : Tryz.prog.cellsOf 27 = 8 := by kernel_rfl
theorem rd27 {H : Type} {enc : TypeId × Value → H} {w : World} {spare : Nat → Bool} {held : Bool} {fuel : Nat} {cs : List Value} {x : DataW H × List MemPlace} (h : DataW.trod enc Tryz.prog w 0 spare held fuel 27 cs = some x) : ∃ v : KvOnceIn, RepL w cs (encKvOnceIn v) ∧ (okKvOnceIn v) ∧ bkKvOnceIn v ≤ bulk x.1 := by
  obtain ⟨xs, n, hb, hc, hx, hf⟩ := fields_of Tryz.underlying27 h
  rw [cells27] at hc
  obtain ⟨y0, y1, y2, y3, rfl⟩ : ∃ y0 y1 y2 y3, xs = [y0, y1, y2, y3] := by
    match xs, hx with
    | [y0, y1, y2, y3], _ => exact ⟨_, _, _, _, rfl⟩
  have f0 : DataW.trod enc Tryz.prog w 0 spare held n 3 ((cs.drop 0).take (Tryz.prog.cellsOf 3)) = some y0 := hf 0 _ rfl
  rw [cells3] at f0
  obtain ⟨v0, r0, o0, b0⟩ := rd3 f0
  have f1 : DataW.trod enc Tryz.prog w 0 spare held n 22 ((cs.drop 1).take (Tryz.prog.cellsOf 22)) = some y1 := hf 1 _ rfl
  rw [cells22] at f1
  obtain ⟨v1, r1, o1, b1⟩ := rd22 f1
  have f2 : DataW.trod enc Tryz.prog w 0 spare held n 25 ((cs.drop 2).take (Tryz.prog.cellsOf 25)) = some y2 := hf 2 _ rfl
  rw [cells25] at f2
  obtain ⟨v2, r2, o2, b2⟩ := rd25 f2
  have f3 : DataW.trod enc Tryz.prog w 0 spare held n 25 ((cs.drop 5).take (Tryz.prog.cellsOf 25)) = some y3 := hf 3 _ rfl
  rw [cells25] at f3
  obtain ⟨v3, r3, o3, b3⟩ := rd25 f3
  have z := RepL.nil (w := w) (cs := cs)
  rw [hc] at z
  have g := (RepL.app (o := 0) (k := 1) rfl r0 (RepL.app (o := 1) (k := 1) rfl r1 (RepL.app (o := 2) (k := 3) rfl r2 (RepL.app (o := 5) (k := 3) rfl r3 z))))
  refine ⟨⟨v0, v1, v2, v3⟩, g, ⟨o0, o1, o2, o3⟩, ?_⟩
  simp only [List.map, bulkAll] at hb
  unfold bkKvOnceIn
  try dsimp only
  omega
def bkFile (x : File) : Nat := (x.Name.length + 1) + (x.Safe.length + 1) + (x.Wait.length + 1) + 1
theorem cells64 : Tryz.prog.cellsOf 64 = 3 := by kernel_rfl
theorem rd64 {H : Type} {enc : TypeId × Value → H} {w : World} {spare : Nat → Bool} {held : Bool} {fuel : Nat} {cs : List Value} {x : DataW H × List MemPlace} (h : DataW.trod enc Tryz.prog w 0 spare held fuel 64 cs = some x) : ∃ v : File, RepL w cs (encFile v) ∧ (True) ∧ bkFile v ≤ bulk x.1 := by
  obtain ⟨xs, n, hb, hc, hx, hf⟩ := fields_of Tryz.underlying64 h
  rw [cells64] at hc
  obtain ⟨y0, y1, y2, rfl⟩ : ∃ y0 y1 y2, xs = [y0, y1, y2] := by
    match xs, hx with
    | [y0, y1, y2], _ => exact ⟨_, _, _, rfl⟩
  have f0 : DataW.trod enc Tryz.prog w 0 spare held n 9 ((cs.drop 0).take (Tryz.prog.cellsOf 9)) = some y0 := hf 0 _ rfl
  rw [cells9] at f0
  obtain ⟨v0, r0, o0, b0⟩ := rd9 f0
  have f1 : DataW.trod enc Tryz.prog w 0 spare held n 9 ((cs.drop 1).take (Tryz.prog.cellsOf 9)) = some y1 := hf 1 _ rfl
  rw [cells9] at f1
  obtain ⟨v1, r1, o1, b1⟩ := rd9 f1
  have f2 : DataW.trod enc Tryz.prog w 0 spare held n 9 ((cs.drop 2).take (Tryz.prog.cellsOf 9)) = some y2 := hf 2 _ rfl
  rw [cells9] at f2
  obtain ⟨v2, r2, o2, b2⟩ := rd9 f2
  have z := RepL.nil (w := w) (cs := cs)
  rw [hc] at z
  have g := (RepL.app (o := 0) (k := 1) rfl r0 (RepL.app (o := 1) (k := 1) rfl r1 (RepL.app (o := 2) (k := 1) rfl r2 z)))
  refine ⟨⟨v0, v1, v2⟩, g, trivial, ?_⟩
  simp only [List.map, bulkAll] at hb
  unfold bkFile
  try dsimp only
  omega
theorem rd29 {H : Type} {enc : TypeId × Value → H} {w : World} {spare : Nat → Bool} {held : Bool} {fuel : Nat} {cs : List Value} {x : DataW H × List MemPlace} (h : DataW.trod enc Tryz.prog w 0 spare held fuel 29 cs = some x) : ∃ v : (List File), RepL w cs [sL encFile v] ∧ (True) ∧ (sumOf (fun u16 => bkFile u16) v + 1) ≤ bulk x.1 := by
  obtain ⟨v, h1, h2, h3⟩ := rd_slice (encα := encFile) (ok := fun v => True) (bk := fun v => bkFile v) Tryz.underlying29 cells64 (by decide) (fun _ => rfl) (fun _ => rfl) (fun fuel cs x h => rd64 h) h
  exact ⟨v, h1, trivial, h3⟩
theorem cells29 : Tryz.prog.cellsOf 29 = 1 := by kernel_rfl
def okDisk (x : Disk) : Prop := (okK .i64 x.Room) ∧ (okK .i64 x.Fuse)
def bkDisk (x : Disk) : Nat := (sumOf (fun u19 => bkFile u19) x.Files + 1) + 1 + 1 + 1 + 1
theorem cells31 : Tryz.prog.cellsOf 31 = 4 := by kernel_rfl
theorem rd31 {H : Type} {enc : TypeId × Value → H} {w : World} {spare : Nat → Bool} {held : Bool} {fuel : Nat} {cs : List Value} {x : DataW H × List MemPlace} (h : DataW.trod enc Tryz.prog w 0 spare held fuel 31 cs = some x) : ∃ v : Disk, RepL w cs (encDisk v) ∧ (okDisk v) ∧ bkDisk v ≤ bulk x.1 := by
  obtain ⟨xs, n, hb, hc, hx, hf⟩ := fields_of Tryz.underlying31 h
  rw [cells31] at hc
  obtain ⟨y0, y1, y2, y3, rfl⟩ : ∃ y0 y1 y2 y3, xs = [y0, y1, y2, y3] := by
    match xs, hx with
    | [y0, y1, y2, y3], _ => exact ⟨_, _, _, _, rfl⟩
  have f0 : DataW.trod enc Tryz.prog w 0 spare held n 29 ((cs.drop 0).take (Tryz.prog.cellsOf 29)) = some y0 := hf 0 _ rfl
  rw [cells29] at f0
  obtain ⟨v0, r0, o0, b0⟩ := rd29 f0
  have f1 : DataW.trod enc Tryz.prog w 0 spare held n 3 ((cs.drop 1).take (Tryz.prog.cellsOf 3)) = some y1 := hf 1 _ rfl
  rw [cells3] at f1
  obtain ⟨v1, r1, o1, b1⟩ := rd3 f1
  have f2 : DataW.trod enc Tryz.prog w 0 spare held n 3 ((cs.drop 2).take (Tryz.prog.cellsOf 3)) = some y2 := hf 2 _ rfl
  rw [cells3] at f2
  obtain ⟨v2, r2, o2, b2⟩ := rd3 f2
  have f3 : DataW.trod enc Tryz.prog w 0 spare held n 4 ((cs.drop 3).take (Tryz.prog.cellsOf 4)) = some y3 := hf 3 _ rfl
  rw [cells4] at f3
  obtain ⟨v3, r3, o3, b3⟩ := rd4 f3
  have z := RepL.nil (w := w) (cs := cs)
  rw [hc] at z
  have g := (RepL.app (o := 0) (k := 1) rfl r0 (RepL.app (o := 1) (k := 1) rfl r1 (RepL.app (o := 2) (k := 1) rfl r2 (RepL.app (o := 3) (k := 1) rfl r3 z))))
  refine ⟨⟨v0, v1, v2, v3⟩, g, ⟨o1, o2⟩, ?_⟩
  simp only [List.map, bulkAll] at hb
  unfold bkDisk
  try dsimp only
  omega
def bkPair (x : Pair) : Nat := (x.Key.length + 1) + (x.Val.length + 1) + 1
theorem cells90 : Tryz.prog.cellsOf 90 = 2 := by kernel_rfl
theorem rd90 {H : Type} {enc : TypeId × Value → H} {w : World} {spare : Nat → Bool} {held : Bool} {fuel : Nat} {cs : List Value} {x : DataW H × List MemPlace} (h : DataW.trod enc Tryz.prog w 0 spare held fuel 90 cs = some x) : ∃ v : Pair, RepL w cs (encPair v) ∧ (True) ∧ bkPair v ≤ bulk x.1 := by
  obtain ⟨xs, n, hb, hc, hx, hf⟩ := fields_of Tryz.underlying90 h
  rw [cells90] at hc
  obtain ⟨y0, y1, rfl⟩ : ∃ y0 y1, xs = [y0, y1] := by
    match xs, hx with
    | [y0, y1], _ => exact ⟨_, _, rfl⟩
  have f0 : DataW.trod enc Tryz.prog w 0 spare held n 9 ((cs.drop 0).take (Tryz.prog.cellsOf 9)) = some y0 := hf 0 _ rfl
  rw [cells9] at f0
  obtain ⟨v0, r0, o0, b0⟩ := rd9 f0
  have f1 : DataW.trod enc Tryz.prog w 0 spare held n 9 ((cs.drop 1).take (Tryz.prog.cellsOf 9)) = some y1 := hf 1 _ rfl
  rw [cells9] at f1
  obtain ⟨v1, r1, o1, b1⟩ := rd9 f1
  have z := RepL.nil (w := w) (cs := cs)
  rw [hc] at z
  have g := (RepL.app (o := 0) (k := 1) rfl r0 (RepL.app (o := 1) (k := 1) rfl r1 z))
  refine ⟨⟨v0, v1⟩, g, trivial, ?_⟩
  simp only [List.map, bulkAll] at hb
  unfold bkPair
  try dsimp only
  omega
theorem rd34 {H : Type} {enc : TypeId × Value → H} {w : World} {spare : Nat → Bool} {held : Bool} {fuel : Nat} {cs : List Value} {x : DataW H × List MemPlace} (h : DataW.trod enc Tryz.prog w 0 spare held fuel 34 cs = some x) : ∃ v : (List Pair), RepL w cs [sL encPair v] ∧ (True) ∧ (sumOf (fun u24 => bkPair u24) v + 1) ≤ bulk x.1 := by
  obtain ⟨v, h1, h2, h3⟩ := rd_slice (encα := encPair) (ok := fun v => True) (bk := fun v => bkPair v) Tryz.underlying34 cells90 (by decide) (fun _ => rfl) (fun _ => rfl) (fun fuel cs x h => rd90 h) h
  exact ⟨v, h1, trivial, h3⟩
theorem cells34 : Tryz.prog.cellsOf 34 = 1 := by kernel_rfl
def bkState (x : State) : Nat := (sumOf (fun u28 => bkPair u28) x.Data + 1) + (sumOf (fun u29 => bkPair u29) x.Toks + 1) + 1
theorem cells36 : Tryz.prog.cellsOf 36 = 2 := by kernel_rfl
theorem rd36 {H : Type} {enc : TypeId × Value → H} {w : World} {spare : Nat → Bool} {held : Bool} {fuel : Nat} {cs : List Value} {x : DataW H × List MemPlace} (h : DataW.trod enc Tryz.prog w 0 spare held fuel 36 cs = some x) : ∃ v : State, RepL w cs (encState v) ∧ (True) ∧ bkState v ≤ bulk x.1 := by
  obtain ⟨xs, n, hb, hc, hx, hf⟩ := fields_of Tryz.underlying36 h
  rw [cells36] at hc
  obtain ⟨y0, y1, rfl⟩ : ∃ y0 y1, xs = [y0, y1] := by
    match xs, hx with
    | [y0, y1], _ => exact ⟨_, _, rfl⟩
  have f0 : DataW.trod enc Tryz.prog w 0 spare held n 34 ((cs.drop 0).take (Tryz.prog.cellsOf 34)) = some y0 := hf 0 _ rfl
  rw [cells34] at f0
  obtain ⟨v0, r0, o0, b0⟩ := rd34 f0
  have f1 : DataW.trod enc Tryz.prog w 0 spare held n 34 ((cs.drop 1).take (Tryz.prog.cellsOf 34)) = some y1 := hf 1 _ rfl
  rw [cells34] at f1
  obtain ⟨v1, r1, o1, b1⟩ := rd34 f1
  have z := RepL.nil (w := w) (cs := cs)
  rw [hc] at z
  have g := (RepL.app (o := 0) (k := 1) rfl r0 (RepL.app (o := 1) (k := 1) rfl r1 z))
  refine ⟨⟨v0, v1⟩, g, trivial, ?_⟩
  simp only [List.map, bulkAll] at hb
  unfold bkState
  try dsimp only
  omega
def okStore (x : Store) : Prop := (okDisk x.D) ∧ (okK .i64 x.From) ∧ (okK .i64 x.Seg) ∧ (okK .i64 x.Run)
def bkStore (x : Store) : Nat := bkDisk x.D + 1 + 1 + 1 + bkState x.S + 1 + 1
theorem cells38 : Tryz.prog.cellsOf 38 = 10 := by kernel_rfl
theorem rd38 {H : Type} {enc : TypeId × Value → H} {w : World} {spare : Nat → Bool} {held : Bool} {fuel : Nat} {cs : List Value} {x : DataW H × List MemPlace} (h : DataW.trod enc Tryz.prog w 0 spare held fuel 38 cs = some x) : ∃ v : Store, RepL w cs (encStore v) ∧ (okStore v) ∧ bkStore v ≤ bulk x.1 := by
  obtain ⟨xs, n, hb, hc, hx, hf⟩ := fields_of Tryz.underlying38 h
  rw [cells38] at hc
  obtain ⟨y0, y1, y2, y3, y4, y5, rfl⟩ : ∃ y0 y1 y2 y3 y4 y5, xs = [y0, y1, y2, y3, y4, y5] := by
    match xs, hx with
    | [y0, y1, y2, y3, y4, y5], _ => exact ⟨_, _, _, _, _, _, rfl⟩
  have f0 : DataW.trod enc Tryz.prog w 0 spare held n 31 ((cs.drop 0).take (Tryz.prog.cellsOf 31)) = some y0 := hf 0 _ rfl
  rw [cells31] at f0
  obtain ⟨v0, r0, o0, b0⟩ := rd31 f0
  have f1 : DataW.trod enc Tryz.prog w 0 spare held n 3 ((cs.drop 4).take (Tryz.prog.cellsOf 3)) = some y1 := hf 1 _ rfl
  rw [cells3] at f1
  obtain ⟨v1, r1, o1, b1⟩ := rd3 f1
  have f2 : DataW.trod enc Tryz.prog w 0 spare held n 3 ((cs.drop 5).take (Tryz.prog.cellsOf 3)) = some y2 := hf 2 _ rfl
  rw [cells3] at f2
  obtain ⟨v2, r2, o2, b2⟩ := rd3 f2
  have f3 : DataW.trod enc Tryz.prog w 0 spare held n 3 ((cs.drop 6).take (Tryz.prog.cellsOf 3)) = some y3 := hf 3 _ rfl
  rw [cells3] at f3
  obtain ⟨v3, r3, o3, b3⟩ := rd3 f3
  have f4 : DataW.trod enc Tryz.prog w 0 spare held n 36 ((cs.drop 7).take (Tryz.prog.cellsOf 36)) = some y4 := hf 4 _ rfl
  rw [cells36] at f4
  obtain ⟨v4, r4, o4, b4⟩ := rd36 f4
  have f5 : DataW.trod enc Tryz.prog w 0 spare held n 4 ((cs.drop 9).take (Tryz.prog.cellsOf 4)) = some y5 := hf 5 _ rfl
  rw [cells4] at f5
  obtain ⟨v5, r5, o5, b5⟩ := rd4 f5
  have z := RepL.nil (w := w) (cs := cs)
  rw [hc] at z
  have g := (RepL.app (o := 0) (k := 4) rfl r0 (RepL.app (o := 4) (k := 1) rfl r1 (RepL.app (o := 5) (k := 1) rfl r2 (RepL.app (o := 6) (k := 1) rfl r3 (RepL.app (o := 7) (k := 2) rfl r4 (RepL.app (o := 9) (k := 1) rfl r5 z))))))
  refine ⟨⟨v0, v1, v2, v3, v4, v5⟩, g, ⟨o0, o1, o2, o3⟩, ?_⟩
  simp only [List.map, bulkAll] at hb
  unfold bkStore
  try dsimp only
  omega
def okKvOpensIn (x : KvOpensIn) : Prop := (okDisk x.D) ∧ (okK .i64 x.From) ∧ (okK .i64 x.Run)
def bkKvOpensIn (x : KvOpensIn) : Nat := bkDisk x.D + 1 + 1 + (x.S.length + 1) + 1
theorem cells52 : Tryz.prog.cellsOf 52 = 7 := by kernel_rfl
theorem rd52 {H : Type} {enc : TypeId × Value → H} {w : World} {spare : Nat → Bool} {held : Bool} {fuel : Nat} {cs : List Value} {x : DataW H × List MemPlace} (h : DataW.trod enc Tryz.prog w 0 spare held fuel 52 cs = some x) : ∃ v : KvOpensIn, RepL w cs (encKvOpensIn v) ∧ (okKvOpensIn v) ∧ bkKvOpensIn v ≤ bulk x.1 := by
  obtain ⟨xs, n, hb, hc, hx, hf⟩ := fields_of Tryz.underlying52 h
  rw [cells52] at hc
  obtain ⟨y0, y1, y2, y3, rfl⟩ : ∃ y0 y1 y2 y3, xs = [y0, y1, y2, y3] := by
    match xs, hx with
    | [y0, y1, y2, y3], _ => exact ⟨_, _, _, _, rfl⟩
  have f0 : DataW.trod enc Tryz.prog w 0 spare held n 31 ((cs.drop 0).take (Tryz.prog.cellsOf 31)) = some y0 := hf 0 _ rfl
  rw [cells31] at f0
  obtain ⟨v0, r0, o0, b0⟩ := rd31 f0
  have f1 : DataW.trod enc Tryz.prog w 0 spare held n 3 ((cs.drop 4).take (Tryz.prog.cellsOf 3)) = some y1 := hf 1 _ rfl
  rw [cells3] at f1
  obtain ⟨v1, r1, o1, b1⟩ := rd3 f1
  have f2 : DataW.trod enc Tryz.prog w 0 spare held n 3 ((cs.drop 5).take (Tryz.prog.cellsOf 3)) = some y2 := hf 2 _ rfl
  rw [cells3] at f2
  obtain ⟨v2, r2, o2, b2⟩ := rd3 f2
  have f3 : DataW.trod enc Tryz.prog w 0 spare held n 9 ((cs.drop 6).take (Tryz.prog.cellsOf 9)) = some y3 := hf 3 _ rfl
  rw [cells9] at f3
  obtain ⟨v3, r3, o3, b3⟩ := rd9 f3
  have z := RepL.nil (w := w) (cs := cs)
  rw [hc] at z
  have g := (RepL.app (o := 0) (k := 4) rfl r0 (RepL.app (o := 4) (k := 1) rfl r1 (RepL.app (o := 5) (k := 1) rfl r2 (RepL.app (o := 6) (k := 1) rfl r3 z))))
  refine ⟨⟨v0, v1, v2, v3⟩, g, ⟨o0, o1, o2⟩, ?_⟩
  simp only [List.map, bulkAll] at hb
  unfold bkKvOpensIn
  try dsimp only
  omega
def okAct (x : Act) : Prop := (okK .i64 x.Kind) ∧ (okK .i64 x.N) ∧ (okBatch x.B)
def bkAct (x : Act) : Nat := 1 + 1 + bkBatch x.B + 1
theorem cells72 : Tryz.prog.cellsOf 72 = 5 := by kernel_rfl
theorem rd72 {H : Type} {enc : TypeId × Value → H} {w : World} {spare : Nat → Bool} {held : Bool} {fuel : Nat} {cs : List Value} {x : DataW H × List MemPlace} (h : DataW.trod enc Tryz.prog w 0 spare held fuel 72 cs = some x) : ∃ v : Act, RepL w cs (encAct v) ∧ (okAct v) ∧ bkAct v ≤ bulk x.1 := by
  obtain ⟨xs, n, hb, hc, hx, hf⟩ := fields_of Tryz.underlying72 h
  rw [cells72] at hc
  obtain ⟨y0, y1, y2, rfl⟩ : ∃ y0 y1 y2, xs = [y0, y1, y2] := by
    match xs, hx with
    | [y0, y1, y2], _ => exact ⟨_, _, _, rfl⟩
  have f0 : DataW.trod enc Tryz.prog w 0 spare held n 3 ((cs.drop 0).take (Tryz.prog.cellsOf 3)) = some y0 := hf 0 _ rfl
  rw [cells3] at f0
  obtain ⟨v0, r0, o0, b0⟩ := rd3 f0
  have f1 : DataW.trod enc Tryz.prog w 0 spare held n 3 ((cs.drop 1).take (Tryz.prog.cellsOf 3)) = some y1 := hf 1 _ rfl
  rw [cells3] at f1
  obtain ⟨v1, r1, o1, b1⟩ := rd3 f1
  have f2 : DataW.trod enc Tryz.prog w 0 spare held n 25 ((cs.drop 2).take (Tryz.prog.cellsOf 25)) = some y2 := hf 2 _ rfl
  rw [cells25] at f2
  obtain ⟨v2, r2, o2, b2⟩ := rd25 f2
  have z := RepL.nil (w := w) (cs := cs)
  rw [hc] at z
  have g := (RepL.app (o := 0) (k := 1) rfl r0 (RepL.app (o := 1) (k := 1) rfl r1 (RepL.app (o := 2) (k := 3) rfl r2 z)))
  refine ⟨⟨v0, v1, v2⟩, g, ⟨o0, o1, o2⟩, ?_⟩
  simp only [List.map, bulkAll] at hb
  unfold bkAct
  try dsimp only
  omega
theorem rd68 {H : Type} {enc : TypeId × Value → H} {w : World} {spare : Nat → Bool} {held : Bool} {fuel : Nat} {cs : List Value} {x : DataW H × List MemPlace} (h : DataW.trod enc Tryz.prog w 0 spare held fuel 68 cs = some x) : ∃ v : (List Act), RepL w cs [sL encAct v] ∧ (∀ u44 ∈ v, okAct u44) ∧ (sumOf (fun u45 => bkAct u45) v + 1) ≤ bulk x.1 := by
  obtain ⟨v, h1, h2, h3⟩ := rd_slice (encα := encAct) (ok := fun v => okAct v) (bk := fun v => bkAct v) Tryz.underlying68 cells72 (by decide) (fun _ => rfl) (fun _ => rfl) (fun fuel cs x h => rd72 h) h
  exact ⟨v, h1, h2, h3⟩
theorem rd74 {H : Type} {enc : TypeId × Value → H} {w : World} {spare : Nat → Bool} {held : Bool} {fuel : Nat} {cs : List Value} {x : DataW H × List MemPlace} (h : DataW.trod enc Tryz.prog w 0 spare held fuel 74 cs = some x) : ∃ v : (List Int), RepL w cs [sL (encI .i64) v] ∧ (∀ u48 ∈ v, okK .i64 u48) ∧ (sumOf (fun u49 => 1) v + 1) ≤ bulk x.1 := by
  obtain ⟨v, h1, h2, h3⟩ := rd_slice (encα := (encI .i64)) (ok := fun v => okK .i64 v) (bk := fun v => 1) Tryz.underlying74 cells3 (by decide) (fun _ => rfl) (fun _ => rfl) (fun fuel cs x h => rd3 h) h
  exact ⟨v, h1, h2, h3⟩
theorem cells74 : Tryz.prog.cellsOf 74 = 1 := by kernel_rfl
def okKvChecksIn (x : KvChecksIn) : Prop := (okK .i64 x.Room) ∧ (∀ u51 ∈ x.L, okBatch u51) ∧ (okK .i64 x.Fuse) ∧ (∀ u52 ∈ x.Keeps, okK .i64 u52)
def bkKvChecksIn (x : KvChecksIn) : Nat := 1 + (sumOf (fun u53 => bkBatch u53) x.L + 1) + 1 + (sumOf (fun u54 => 1) x.Keeps + 1) + 1
theorem cells78 : Tryz.prog.cellsOf 78 = 4 := by kernel_rfl
theorem rd78 {H : Type} {enc : TypeId × Value → H} {w : World} {spare : Nat → Bool} {held : Bool} {fuel : Nat} {cs : List Value} {x : DataW H × List MemPlace} (h : DataW.trod enc Tryz.prog w 0 spare held fuel 78 cs = some x) : ∃ v : KvChecksIn, RepL w cs (encKvChecksIn v) ∧ (okKvChecksIn v) ∧ bkKvChecksIn v ≤ bulk x.1 := by
  obtain ⟨xs, n, hb, hc, hx, hf⟩ := fields_of Tryz.underlying78 h
  rw [cells78] at hc
  obtain ⟨y0, y1, y2, y3, rfl⟩ : ∃ y0 y1 y2 y3, xs = [y0, y1, y2, y3] := by
    match xs, hx with
    | [y0, y1, y2, y3], _ => exact ⟨_, _, _, _, rfl⟩
  have f0 : DataW.trod enc Tryz.prog w 0 spare held n 3 ((cs.drop 0).take (Tryz.prog.cellsOf 3)) = some y0 := hf 0 _ rfl
  rw [cells3] at f0
  obtain ⟨v0, r0, o0, b0⟩ := rd3 f0
  have f1 : DataW.trod enc Tryz.prog w 0 spare held n 22 ((cs.drop 1).take (Tryz.prog.cellsOf 22)) = some y1 := hf 1 _ rfl
  rw [cells22] at f1
  obtain ⟨v1, r1, o1, b1⟩ := rd22 f1
  have f2 : DataW.trod enc Tryz.prog w 0 spare held n 3 ((cs.drop 2).take (Tryz.prog.cellsOf 3)) = some y2 := hf 2 _ rfl
  rw [cells3] at f2
  obtain ⟨v2, r2, o2, b2⟩ := rd3 f2
  have f3 : DataW.trod enc Tryz.prog w 0 spare held n 74 ((cs.drop 3).take (Tryz.prog.cellsOf 74)) = some y3 := hf 3 _ rfl
  rw [cells74] at f3
  obtain ⟨v3, r3, o3, b3⟩ := rd74 f3
  have z := RepL.nil (w := w) (cs := cs)
  rw [hc] at z
  have g := (RepL.app (o := 0) (k := 1) rfl r0 (RepL.app (o := 1) (k := 1) rfl r1 (RepL.app (o := 2) (k := 1) rfl r2 (RepL.app (o := 3) (k := 1) rfl r3 z))))
  refine ⟨⟨v0, v1, v2, v3⟩, g, ⟨o0, o1, o2, o3⟩, ?_⟩
  simp only [List.map, bulkAll] at hb
  unfold bkKvChecksIn
  try dsimp only
  omega
def okKvDoesIn (x : KvDoesIn) : Prop := (okStore x.X) ∧ (okBatch x.B) ∧ (∀ u59 ∈ x.Keeps, okK .i64 u59) ∧ (okK .i64 x.Fuse) ∧ (okStore x.Other)
def bkKvDoesIn (x : KvDoesIn) : Nat := bkStore x.X + bkBatch x.B + (sumOf (fun u61 => 1) x.Keeps + 1) + 1 + bkStore x.Other + 1
theorem cells81 : Tryz.prog.cellsOf 81 = 25 := by kernel_rfl
theorem rd81 {H : Type} {enc : TypeId × Value → H} {w : World} {spare : Nat → Bool} {held : Bool} {fuel : Nat} {cs : List Value} {x : DataW H × List MemPlace} (h : DataW.trod enc Tryz.prog w 0 spare held fuel 81 cs = some x) : ∃ v : KvDoesIn, RepL w cs (encKvDoesIn v) ∧ (okKvDoesIn v) ∧ bkKvDoesIn v ≤ bulk x.1 := by
  obtain ⟨xs, n, hb, hc, hx, hf⟩ := fields_of Tryz.underlying81 h
  rw [cells81] at hc
  obtain ⟨y0, y1, y2, y3, y4, rfl⟩ : ∃ y0 y1 y2 y3 y4, xs = [y0, y1, y2, y3, y4] := by
    match xs, hx with
    | [y0, y1, y2, y3, y4], _ => exact ⟨_, _, _, _, _, rfl⟩
  have f0 : DataW.trod enc Tryz.prog w 0 spare held n 38 ((cs.drop 0).take (Tryz.prog.cellsOf 38)) = some y0 := hf 0 _ rfl
  rw [cells38] at f0
  obtain ⟨v0, r0, o0, b0⟩ := rd38 f0
  have f1 : DataW.trod enc Tryz.prog w 0 spare held n 25 ((cs.drop 10).take (Tryz.prog.cellsOf 25)) = some y1 := hf 1 _ rfl
  rw [cells25] at f1
  obtain ⟨v1, r1, o1, b1⟩ := rd25 f1
  have f2 : DataW.trod enc Tryz.prog w 0 spare held n 74 ((cs.drop 13).take (Tryz.prog.cellsOf 74)) = some y2 := hf 2 _ rfl
  rw [cells74] at f2
  obtain ⟨v2, r2, o2, b2⟩ := rd74 f2
  have f3 : DataW.trod enc Tryz.prog w 0 spare held n 3 ((cs.drop 14).take (Tryz.prog.cellsOf 3)) = some y3 := hf 3 _ rfl
  rw [cells3] at f3
  obtain ⟨v3, r3, o3, b3⟩ := rd3 f3
  have f4 : DataW.trod enc Tryz.prog w 0 spare held n 38 ((cs.drop 15).take (Tryz.prog.cellsOf 38)) = some y4 := hf 4 _ rfl
  rw [cells38] at f4
  obtain ⟨v4, r4, o4, b4⟩ := rd38 f4
  have z := RepL.nil (w := w) (cs := cs)
  rw [hc] at z
  have g := (RepL.app (o := 0) (k := 10) rfl r0 (RepL.app (o := 10) (k := 3) rfl r1 (RepL.app (o := 13) (k := 1) rfl r2 (RepL.app (o := 14) (k := 1) rfl r3 (RepL.app (o := 15) (k := 10) rfl r4 z)))))
  refine ⟨⟨v0, v1, v2, v3, v4⟩, g, ⟨o0, o1, o2, o3, o4⟩, ?_⟩
  simp only [List.map, bulkAll] at hb
  unfold bkKvDoesIn
  try dsimp only
  omega
end Go.Ab
