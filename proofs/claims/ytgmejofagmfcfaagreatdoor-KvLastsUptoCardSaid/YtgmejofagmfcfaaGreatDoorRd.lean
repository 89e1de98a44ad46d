/- Plain data out of readings. Printed by a program of this session. -/
import Derived.Test.YtgmejofagmfcfaaGreatDoorTy
import Derived.Test.YtgmejofagmfcfaaGreatDoorStFwD
import Derived.KernelRfl
namespace Go.Ab
open Go.Proofs
set_option linter.unusedVariables false
set_option maxRecDepth 100000
theorem rd3 {H : Type} {enc : TypeId × Value → H} {w : World} {spare : Nat → Bool} {held : Bool} {fuel : Nat} {cs : List Value} {x : DataW H × List MemPlace} (h : DataW.trod enc Tryz.prog w 0 spare held fuel 3 cs = some x) : ∃ v : Int, RepL w cs [vI v] ∧ (okK .i64 v) ∧ 1 ≤ bulk x.1 := by
  exact rd_int Tryz.underlying3 h
theorem cells3 : Tryz.prog.cellsOf 3 = 1 := by kernel_rfl
theorem rd9 {H : Type} {enc : TypeId × Value → H} {w : World} {spare : Nat → Bool} {held : Bool} {fuel : Nat} {cs : List Value} {x : DataW H × List MemPlace} (h : DataW.trod enc Tryz.prog w 0 spare held fuel 9 cs = some x) : ∃ v : Str, RepL w cs [vS v] ∧ (True) ∧ (v.length + 1) ≤ bulk x.1 := by
  obtain ⟨v, h1, h2⟩ := rd_str Tryz.underlying9 h
  exact ⟨v, h1, trivial, h2⟩
theorem cells9 : Tryz.prog.cellsOf 9 = 1 := by kernel_rfl
theorem rd4 {H : Type} {enc : TypeId × Value → H} {w : World} {spare : Nat → Bool} {held : Bool} {fuel : Nat} {cs : List Value} {x : DataW H × List MemPlace} (h : DataW.trod enc Tryz.prog w 0 spare held fuel 4 cs = some x) : ∃ v : Bool, RepL w cs [vB v] ∧ (True) ∧ 1 ≤ bulk x.1 := by
  obtain ⟨v, h1, h2⟩ := rd_bool Tryz.underlying4 h
  exact ⟨v, h1, trivial, h2⟩
theorem cells4 : Tryz.prog.cellsOf 4 = 1 := by kernel_rfl
def bkWrite (x : Write) : Nat := (x.Key.length + 1) + (x.Val.length + 1) + 1 + 1
theorem cells88 : Tryz.prog.cellsOf 88 = 3 := by kernel_rfl
theorem rd88 {H : Type} {enc : TypeId × Value → H} {w : World} {spare : Nat → Bool} {held : Bool} {fuel : Nat} {cs : List Value} {x : DataW H × List MemPlace} (h : DataW.trod enc Tryz.prog w 0 spare held fuel 88 cs = some x) : ∃ v : Write, RepL w cs (encWrite v) ∧ (True) ∧ bkWrite v ≤ bulk x.1 := by
  obtain ⟨xs, n, hb, hc, hx, hf⟩ := fields_of Tryz.underlying88 h
  rw [cells88] at hc
  obtain ⟨y0, y1, y2, rfl⟩ : ∃ y0 y1 y2, xs = [y0, y1, y2] := by
    match xs, hx with
    | [y0, y1, y2], _ => exact ⟨_, _, _, rfl⟩
  have f0 : DataW.trod enc Tryz.prog w 0 spare held n 9 ((cs.drop 0).take (Tryz.prog.cellsOf 9)) = some y0 := hf 0 _ rfl
  rw [cells9] at f0
  obtain ⟨v0, r0, o0, b0⟩ := rd9 f0
  have f1 : DataW.trod enc Tryz.prog w 0 spare held n 9 ((cs.drop 1).take (Tryz.prog.cellsOf 9)) = some y1 := hf 1 _ rfl
  rw [cells9] at f1
  obtain ⟨v1, r1, o1, b1⟩ := rd9 f1
  have f2 : DataW.trod enc Tryz.prog w 0 spare held n 4 ((cs.drop 2).take (Tryz.prog.cellsOf 4)) = some y2 := hf 2 _ rfl
  rw [cells4] at f2
  obtain ⟨v2, r2, o2, b2⟩ := rd4 f2
  have z := RepL.nil (w := w) (cs := cs)
  rw [hc] at z
  have g := (RepL.app (o := 0) (k := 1) rfl r0 (RepL.app (o := 1) (k := 1) rfl r1 (RepL.app (o := 2) (k := 1) rfl r2 z)))
  refine ⟨⟨v0, v1, v2⟩, g, trivial, ?_⟩
  simp only [List.map, bulkAll] at hb
  unfold bkWrite
  try dsimp only
  omega
theorem rd23 {H : Type} {enc : TypeId × Value → H} {w : World} {spare : Nat → Bool} {held : Bool} {fuel : Nat} {cs : List Value} {x : DataW H × List MemPlace} (h : DataW.trod enc Tryz.prog w 0 spare held fuel 23 cs = some x) : ∃ v : (List Write), RepL w cs [sL encWrite v] ∧ (True) ∧ (sumOf (fun u4 => bkWrite u4) v + 1) ≤ bulk x.1 := by
  obtain ⟨v, h1, h2, h3⟩ := rd_slice (encα := encWrite) (ok := fun v => True) (bk := fun v => bkWrite v) Tryz.underlying23 cells88 (by decide) (fun _ => rfl) (fun _ => rfl) (fun fuel cs x h => rd88 h) h
  exact ⟨v, h1, trivial, h3⟩
theorem cells23 : Tryz.prog.cellsOf 23 = 1 := by kernel_rfl
def okBatch (x : Batch) : Prop := (okK .i64 x.Kind)
def bkBatch (x : Batch) : Nat := 1 + (x.Token.length + 1) + (sumOf (fun u7 => bkWrite u7) x.Writes + 1) + 1
theorem cells25 : Tryz.prog.cellsOf 25 = 3 := by kernel_rfl
theorem rd25 {H : Type} {enc : TypeId × Value → H} {w : World} {spare : Nat → Bool} {held : Bool} {fuel : Nat} {cs : List Value} {x : DataW H × List MemPlace} (h : DataW.trod enc Tryz.prog w 0 spare held fuel 25 cs = some x) : ∃ v : Batch, RepL w cs (encBatch v) ∧ (okBatch v) ∧ bkBatch v ≤ bulk x.1 := by
  obtain ⟨xs, n, hb, hc, hx, hf⟩ := fields_of Tryz.underlying25 h
  rw [cells25] at hc
  obtain ⟨y0, y1, y2, rfl⟩ : ∃ y0 y1 y2, xs = [y0, y1, y2] := by
    match xs, hx with
    | [y0, y1, y2], _ => exact ⟨_, _, _, rfl⟩
  have f0 : DataW.trod enc Tryz.prog w 0 spare held n 3 ((cs.drop 0).take (Tryz.prog.cellsOf 3)) = some y0 := hf 0 _ rfl
  rw [cells3] at f0
  obtain ⟨v0, r0, o0, b0⟩ := rd3 f0
  have f1 : DataW.trod enc Tryz.prog w 0 spare held n 9 ((cs.drop 1).take (Tryz.prog.cellsOf 9)) = some y1 := hf 1 _ rfl
  rw [cells9] at f1
  obtain ⟨v1, r1, o1, b1⟩ := rd9 f1
  have f2 : DataW.trod enc Tryz.prog w 0 spare held n 23 ((cs.drop 2).take (Tryz.prog.cellsOf 23)) = some y2 := hf 2 _ rfl
  rw [cells23] at f2
  obtain ⟨v2, r2, o2, b2⟩ := rd23 f2
  have z := RepL.nil (w := w) (cs := cs)
  rw [hc] at z
  have g := (RepL.app (o := 0) (k := 1) rfl r0 (RepL.app (o := 1) (k := 1) rfl r1 (RepL.app (o := 2) (k := 1) rfl r2 z)))
  refine ⟨⟨v0, v1, v2⟩, g, o0, ?_⟩
  simp only [List.map, bulkAll] at hb
  unfold bkBatch
  try dsimp only
  omega
theorem rd22 {H : Type} {enc : TypeId × Value → H} {w : World} {spare : Nat → Bool} {held : Bool} {fuel : Nat} {cs : List Value} {x : DataW H × List MemPlace} (h : DataW.trod enc Tryz.prog w 0 spare held fuel 22 cs = some x) : ∃ v : (List Batch), RepL w cs [sL encBatch v] ∧ (∀ u1 ∈ v, okBatch u1) ∧ (sumOf (fun u2 => bkBatch u2) v + 1) ≤ bulk x.1 := by
  obtain ⟨v, h1, h2, h3⟩ := rd_slice (encα := encBatch) (ok := fun v => okBatch v) (bk := fun v => bkBatch v) Tryz.underlying22 cells25 (by decide) (fun _ => rfl) (fun _ => rfl) (fun fuel cs x h => rd25 h) h
  exact ⟨v, h1, h2, h3⟩
theorem cells22 : Tryz.prog.cellsOf 22 = 1 := by kernel_rfl
def okKvOnceIn (x : KvOnceIn) : Prop := (okK .i64 x.Room) ∧ (∀ u10 ∈ x.L, okBatch u10) ∧ (okBatch x.B) ∧ (okBatch x.Again)
def bkKvOnceIn (x : KvOnceIn) : Nat := 1 + (sumOf (fun u11 => bkBatch u11) x.L + 1) + bkBatch x.B + bkBatch x.Again + 1
theorem cells27 : Tryz.prog.cellsOf 27 = 8 := by kernel_rfl
theorem rd27 {H : Type} {enc : TypeId × Value → H} {w : World} {spare : Nat → Bool} {held : Bool} {fuel : Nat} {cs : List Value} {x : DataW H × List MemPlace} (h : DataW.trod enc Tryz.prog w 0 spare held fuel 27 cs = some x) : ∃ v : KvOnceIn, RepL w cs (encKvOnceIn v) ∧ (okKvOnceIn v) ∧ bkKvOnceIn v ≤ bulk x.1 := by
  obtain ⟨xs, n, hb, hc, hx, hf⟩ := fields_of Tryz.underlying27 h
  rw [cells27] at hc
  obtain ⟨y0, y1, y2, y3, rfl⟩ : ∃ y0 y1 y2 y3, xs = [y0, y1, y2, y3] := by
    match xs, hx with
    | [y0, y1, y2, y3], _ => exact ⟨_, _, _, _, rfl⟩
  have f0 : DataW.trod enc Tryz.prog w 0 spare held n 3 ((cs.drop 0).take (Tryz.prog.cellsOf 3)) = some y0 := hf 0 _ rfl
  rw [cells3] at f0
  obtain ⟨v0, r0, o0, b0⟩ := rd3 f0
  have f1 : DataW.trod enc Tryz.prog w 0 spare held n 22 ((cs.drop 1).take (Tryz.prog.cellsOf 22)) = some y1 := hf 1 _ rfl
  rw [cells22] at f1
  obtain ⟨v1, r1, o1, b1⟩ := rd22 f1
  have f2 : DataW.trod enc Tryz.prog w 0 spare held n 25 ((cs.drop 2).take (Tryz.prog.cellsOf 25)) = some y2 := hf 2 _ rfl
  rw [cells25] at f2
  obtain ⟨v2, r2, o2, b2⟩ := rd25 f2
  have f3 : DataW.trod enc Tryz.prog w 0 spare held n 25 ((cs.drop 5).take (Tryz.prog.cellsOf 25)) = some y3 := hf 3 _ rfl
  rw [cells25] at f3
  obtain ⟨v3, r3, o3, b3⟩ := rd25 f3
  have z := RepL.nil (w := w) (cs := cs)
  rw [hc] at z
  have g := (RepL.app (o := 0) (k := 1) rfl r0 (RepL.app (o := 1) (k := 1) rfl r1 (RepL.app (o := 2) (k := 3) rfl r2 (RepL.app (o := 5) (k := 3) rfl r3 z))))
  refine ⟨⟨v0, v1, v2, v3⟩, g, ⟨o0, o1, o2, o3⟩, ?_⟩
  simp only [List.map, bulkAll] at hb
  unfold bkKvOnceIn
  try dsimp only
  omega
def okAct (x : Act) : Prop := (okK .i64 x.Kind) ∧ (okK .i64 x.N) ∧ (okBatch x.B)
def bkAct (x : Act) : Nat := 1 + 1 + bkBatch x.B + 1
theorem cells72 : Tryz.prog.cellsOf 72 = 5 := by kernel_rfl
theorem rd72 {H : Type} {enc : TypeId × Value → H} {w : World} {spare : Nat → Bool} {held : Bool} {fuel : Nat} {cs : List Value} {x : DataW H × List MemPlace} (h : DataW.trod enc Tryz.prog w 0 spare held fuel 72 cs = some x) : ∃ v : Act, RepL w cs (encAct v) ∧ (okAct v) ∧ bkAct v ≤ bulk x.1 := by
  obtain ⟨xs, n, hb, hc, hx, hf⟩ := fields_of Tryz.underlying72 h
  rw [cells72] at hc
  obtain ⟨y0, y1, y2, rfl⟩ : ∃ y0 y1 y2, xs = [y0, y1, y2] := by
    match xs, hx with
    | [y0, y1, y2], _ => exact ⟨_, _, _, rfl⟩
  have f0 : DataW.trod enc Tryz.prog w 0 spare held n 3 ((cs.drop 0).take (Tryz.prog.cellsOf 3)) = some y0 := hf 0 _ rfl
  rw [cells3] at f0
  obtain ⟨v0, r0, o0, b0⟩ := rd3 f0
  have f1 : DataW.trod enc Tryz.prog w 0 spare held n 3 ((cs.drop 1).take (Tryz.prog.cellsOf 3)) = some y1 := hf 1 _ rfl
  rw [cells3] at f1
  obtain ⟨v1, r1, o1, b1⟩ := rd3 f1
  have f2 : DataW.trod enc Tryz.prog w 0 spare held n 25 ((cs.drop 2).take (Tryz.prog.cellsOf 25)) = some y2 := hf 2 _ rfl
  rw [cells25] at f2
  obtain ⟨v2, r2, o2, b2⟩ := rd25 f2
  have z := RepL.nil (w := w) (cs := cs)
  rw [hc] at z
  have g := (RepL.app (o := 0) (k := 1) rfl r0 (RepL.app (o := 1) (k := 1) rfl r1 (RepL.app (o := 2) (k := 3) rfl r2 z)))
  refine ⟨⟨v0, v1, v2⟩, g, ⟨o0, o1, o2⟩, ?_⟩
  simp only [List.map, bulkAll] at hb
  unfold bkAct
  try dsimp only
  omega
theorem rd68 {H : Type} {enc : TypeId × Value → H} {w : World} {spare : Nat → Bool} {held : Bool} {fuel : Nat} {cs : List Value} {x : DataW H × List MemPlace} (h : DataW.trod enc Tryz.prog w 0 spare held fuel 68 cs = some x) : ∃ v : (List Act), RepL w cs [sL encAct v] ∧ (∀ u14 ∈ v, okAct u14) ∧ (sumOf (fun u15 => bkAct u15) v + 1) ≤ bulk x.1 := by
  obtain ⟨v, h1, h2, h3⟩ := rd_slice (encα := encAct) (ok := fun v => okAct v) (bk := fun v => bkAct v) Tryz.underlying68 cells72 (by decide) (fun _ => rfl) (fun _ => rfl) (fun fuel cs x h => rd72 h) h
  exact ⟨v, h1, h2, h3⟩
theorem rd74 {H : Type} {enc : TypeId × Value → H} {w : World} {spare : Nat → Bool} {held : Bool} {fuel : Nat} {cs : List Value} {x : DataW H × List MemPlace} (h : DataW.trod enc Tryz.prog w 0 spare held fuel 74 cs = some x) : ∃ v : (List Int), RepL w cs [sL (encI .i64) v] ∧ (∀ u18 ∈ v, okK .i64 u18) ∧ (sumOf (fun u19 => 1) v + 1) ≤ bulk x.1 := by
  obtain ⟨v, h1, h2, h3⟩ := rd_slice (encα := (encI .i64)) (ok := fun v => okK .i64 v) (bk := fun v => 1) Tryz.underlying74 cells3 (by decide) (fun _ => rfl) (fun _ => rfl) (fun fuel cs x h => rd3 h) h
  exact ⟨v, h1, h2, h3⟩
theorem cells74 : Tryz.prog.cellsOf 74 = 1 := by kernel_rfl
def okKvChecksIn (x : KvChecksIn) : Prop := (okK .i64 x.Room) ∧ (∀ u21 ∈ x.L, okBatch u21) ∧ (okK .i64 x.Fuse) ∧ (∀ u22 ∈ x.Keeps, okK .i64 u22)
def bkKvChecksIn (x : KvChecksIn) : Nat := 1 + (sumOf (fun u23 => bkBatch u23) x.L + 1) + 1 + (sumOf (fun u24 => 1) x.Keeps + 1) + 1
theorem cells78 : Tryz.prog.cellsOf 78 = 4 := by kernel_rfl
theorem rd78 {H : Type} {enc : TypeId × Value → H} {w : World} {spare : Nat → Bool} {held : Bool} {fuel : Nat} {cs : List Value} {x : DataW H × List MemPlace} (h : DataW.trod enc Tryz.prog w 0 spare held fuel 78 cs = some x) : ∃ v : KvChecksIn, RepL w cs (encKvChecksIn v) ∧ (okKvChecksIn v) ∧ bkKvChecksIn v ≤ bulk x.1 := by
  obtain ⟨xs, n, hb, hc, hx, hf⟩ := fields_of Tryz.underlying78 h
  rw [cells78] at hc
  obtain ⟨y0, y1, y2, y3, rfl⟩ : ∃ y0 y1 y2 y3, xs = [y0, y1, y2, y3] := by
    match xs, hx with
    | [y0, y1, y2, y3], _ => exact ⟨_, _, _, _, rfl⟩
  have f0 : DataW.trod enc Tryz.prog w 0 spare held n 3 ((cs.drop 0).take (Tryz.prog.cellsOf 3)) = some y0 := hf 0 _ rfl
  rw [cells3] at f0
  obtain ⟨v0, r0, o0, b0⟩ := rd3 f0
  have f1 : DataW.trod enc Tryz.prog w 0 spare held n 22 ((cs.drop 1).take (Tryz.prog.cellsOf 22)) = some y1 := hf 1 _ rfl
  rw [cells22] at f1
  obtain ⟨v1, r1, o1, b1⟩ := rd22 f1
  have f2 : DataW.trod enc Tryz.prog w 0 spare held n 3 ((cs.drop 2).take (Tryz.prog.cellsOf 3)) = some y2 := hf 2 _ rfl
  rw [cells3] at f2
  obtain ⟨v2, r2, o2, b2⟩ := rd3 f2
  have f3 : DataW.trod enc Tryz.prog w 0 spare held n 74 ((cs.drop 3).take (Tryz.prog.cellsOf 74)) = some y3 := hf 3 _ rfl
  rw [cells74] at f3
  obtain ⟨v3, r3, o3, b3⟩ := rd74 f3
  have z := RepL.nil (w := w) (cs := cs)
  rw [hc] at z
  have g := (RepL.app (o := 0) (k := 1) rfl r0 (RepL.app (o := 1) (k := 1) rfl r1 (RepL.app (o := 2) (k := 1) rfl r2 (RepL.app (o := 3) (k := 1) rfl r3 z))))
  refine ⟨⟨v0, v1, v2, v3⟩, g, ⟨o0, o1, o2, o3⟩, ?_⟩
  simp only [List.map, bulkAll] at hb
  unfold bkKvChecksIn
  try dsimp only
  omega
end Go.Ab
