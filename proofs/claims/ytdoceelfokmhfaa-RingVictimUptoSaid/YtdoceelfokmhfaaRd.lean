/- Plain data out of readings. Printed by a program of this session. -/
import Derived.Test.YtdoceelfokmhfaaTy
import Derived.Test.YtdoceelfokmhfaaStFwD
import Derived.KernelRfl
namespace Go.Ab
open Go.Proofs
set_option linter.unusedVariables false
set_option maxRecDepth 100000
theorem rd3 {H : Type} {enc : TypeId × Value → H} {w : World} {spare : Nat → Bool} {held : Bool} {fuel : Nat} {cs : List Value} {x : DataW H × List MemPlace} (h : DataW.trod enc Try.prog w 0 spare held fuel 3 cs = some x) : ∃ v : Int, RepL w cs [.v (.int .i64 v)] ∧ (okK .i64 v) ∧ 1 ≤ bulk x.1 := by
  exact rd_int Try.underlying3 h
theorem cells3 : Try.prog.cellsOf 3 = 1 := by kernel_rfl
theorem rd9 {H : Type} {enc : TypeId × Value → H} {w : World} {spare : Nat → Bool} {held : Bool} {fuel : Nat} {cs : List Value} {x : DataW H × List MemPlace} (h : DataW.trod enc Try.prog w 0 spare held fuel 9 cs = some x) : ∃ v : Str, RepL w cs [.v (.string (bs v))] ∧ (True) ∧ (v.length + 1) ≤ bulk x.1 := by
  obtain ⟨v, h1, h2⟩ := rd_str Try.underlying9 h
  exact ⟨v, h1, trivial, h2⟩
theorem cells9 : Try.prog.cellsOf 9 = 1 := by kernel_rfl
def okWant (x : Want) : Prop := (okK .i64 x.Mode)
def bkWant (x : Want) : Nat := 1 + (x.Lo.length + 1) + (x.Hi.length + 1) + 1
theorem cells44 : Try.prog.cellsOf 44 = 3 := by kernel_rfl
theorem rd44 {H : Type} {enc : TypeId × Value → H} {w : World} {spare : Nat → Bool} {held : Bool} {fuel : Nat} {cs : List Value} {x : DataW H × List MemPlace} (h : DataW.trod enc Try.prog w 0 spare held fuel 44 cs = some x) : ∃ v : Want, RepL w cs (encWant v) ∧ (okWant v) ∧ bkWant v ≤ bulk x.1 := by
  obtain ⟨xs, n, hb, hc, hx, hf⟩ := fields_of Try.underlying44 h
  rw [cells44] at hc
  obtain ⟨y0, y1, y2, rfl⟩ : ∃ y0 y1 y2, xs = [y0, y1, y2] := by
    match xs, hx with
    | [y0, y1, y2], _ => exact ⟨_, _, _, rfl⟩
  have f0 : DataW.trod enc Try.prog w 0 spare held n 3 ((cs.drop 0).take (Try.prog.cellsOf 3)) = some y0 := hf 0 _ rfl
  rw [cells3] at f0
  obtain ⟨v0, r0, o0, b0⟩ := rd3 f0
  have f1 : DataW.trod enc Try.prog w 0 spare held n 9 ((cs.drop 1).take (Try.prog.cellsOf 9)) = some y1 := hf 1 _ rfl
  rw [cells9] at f1
  obtain ⟨v1, r1, o1, b1⟩ := rd9 f1
  have f2 : DataW.trod enc Try.prog w 0 spare held n 9 ((cs.drop 2).take (Try.prog.cellsOf 9)) = some y2 := hf 2 _ rfl
  rw [cells9] at f2
  obtain ⟨v2, r2, o2, b2⟩ := rd9 f2
  have z := RepL.nil (w := w) (cs := cs)
  rw [hc] at z
  have g := (RepL.app (o := 0) (k := 1) rfl r0 (RepL.app (o := 1) (k := 1) rfl r1 (RepL.app (o := 2) (k := 1) rfl r2 z)))
  refine ⟨⟨v0, v1, v2⟩, g, o0, ?_⟩
  simp only [List.map, bulkAll] at hb
  unfold bkWant
  try dsimp only
  omega
def okHold (x : Hold) : Prop := (okK .i64 x.Txn) ∧ (okWant x.W)
def bkHold (x : Hold) : Nat := 1 + bkWant x.W + 1
theorem cells46 : Try.prog.cellsOf 46 = 4 := by kernel_rfl
theorem rd46 {H : Type} {enc : TypeId × Value → H} {w : World} {spare : Nat → Bool} {held : Bool} {fuel : Nat} {cs : List Value} {x : DataW H × List MemPlace} (h : DataW.trod enc Try.prog w 0 spare held fuel 46 cs = some x) : ∃ v : Hold, RepL w cs (encHold v) ∧ (okHold v) ∧ bkHold v ≤ bulk x.1 := by
  obtain ⟨xs, n, hb, hc, hx, hf⟩ := fields_of Try.underlying46 h
  rw [cells46] at hc
  obtain ⟨y0, y1, rfl⟩ : ∃ y0 y1, xs = [y0, y1] := by
    match xs, hx with
    | [y0, y1], _ => exact ⟨_, _, rfl⟩
  have f0 : DataW.trod enc Try.prog w 0 spare held n 3 ((cs.drop 0).take (Try.prog.cellsOf 3)) = some y0 := hf 0 _ rfl
  rw [cells3] at f0
  obtain ⟨v0, r0, o0, b0⟩ := rd3 f0
  have f1 : DataW.trod enc Try.prog w 0 spare held n 44 ((cs.drop 1).take (Try.prog.cellsOf 44)) = some y1 := hf 1 _ rfl
  rw [cells44] at f1
  obtain ⟨v1, r1, o1, b1⟩ := rd44 f1
  have z := RepL.nil (w := w) (cs := cs)
  rw [hc] at z
  have g := (RepL.app (o := 0) (k := 1) rfl r0 (RepL.app (o := 1) (k := 3) rfl r1 z))
  refine ⟨⟨v0, v1⟩, g, ⟨o0, o1⟩, ?_⟩
  simp only [List.map, bulkAll] at hb
  unfold bkHold
  try dsimp only
  omega
theorem rd22 {H : Type} {enc : TypeId × Value → H} {w : World} {spare : Nat → Bool} {held : Bool} {fuel : Nat} {cs : List Value} {x : DataW H × List MemPlace} (h : DataW.trod enc Try.prog w 0 spare held fuel 22 cs = some x) : ∃ v : (List Hold), RepL w cs [.sl (List.map encHold v)] ∧ (∀ u2 ∈ v, okHold u2) ∧ (sumOf (fun u3 => bkHold u3) v + 1) ≤ bulk x.1 := by
  obtain ⟨v, h1, h2, h3⟩ := rd_slice (encα := encHold) (ok := fun v => okHold v) (bk := fun v => bkHold v) Try.underlying22 cells46 (by decide) (fun _ => rfl) (fun _ => rfl) (fun fuel cs x h => rd46 h) h
  exact ⟨v, h1, h2, h3⟩
theorem cells22 : Try.prog.cellsOf 22 = 1 := by kernel_rfl
theorem rd49 {H : Type} {enc : TypeId × Value → H} {w : World} {spare : Nat → Bool} {held : Bool} {fuel : Nat} {cs : List Value} {x : DataW H × List MemPlace} (h : DataW.trod enc Try.prog w 0 spare held fuel 49 cs = some x) : ∃ v : Int, RepL w cs [.v (.int .u64 v)] ∧ (okK .u64 v) ∧ 1 ≤ bulk x.1 := by
  exact rd_int Try.underlying49 h
theorem cells49 : Try.prog.cellsOf 49 = 1 := by kernel_rfl
def okClaim (x : Claim) : Prop := (okK .i64 x.Txn) ∧ (okWant x.W) ∧ (okK .u64 x.Until)
def bkClaim (x : Claim) : Nat := 1 + bkWant x.W + 1 + 1
theorem cells51 : Try.prog.cellsOf 51 = 5 := by kernel_rfl
theorem rd51 {H : Type} {enc : TypeId × Value → H} {w : World} {spare : Nat → Bool} {held : Bool} {fuel : Nat} {cs : List Value} {x : DataW H × List MemPlace} (h : DataW.trod enc Try.prog w 0 spare held fuel 51 cs = some x) : ∃ v : Claim, RepL w cs (encClaim v) ∧ (okClaim v) ∧ bkClaim v ≤ bulk x.1 := by
  obtain ⟨xs, n, hb, hc, hx, hf⟩ := fields_of Try.underlying51 h
  rw [cells51] at hc
  obtain ⟨y0, y1, y2, rfl⟩ : ∃ y0 y1 y2, xs = [y0, y1, y2] := by
    match xs, hx with
    | [y0, y1, y2], _ => exact ⟨_, _, _, rfl⟩
  have f0 : DataW.trod enc Try.prog w 0 spare held n 3 ((cs.drop 0).take (Try.prog.cellsOf 3)) = some y0 := hf 0 _ rfl
  rw [cells3] at f0
  obtain ⟨v0, r0, o0, b0⟩ := rd3 f0
  have f1 : DataW.trod enc Try.prog w 0 spare held n 44 ((cs.drop 1).take (Try.prog.cellsOf 44)) = some y1 := hf 1 _ rfl
  rw [cells44] at f1
  obtain ⟨v1, r1, o1, b1⟩ := rd44 f1
  have f2 : DataW.trod enc Try.prog w 0 spare held n 49 ((cs.drop 4).take (Try.prog.cellsOf 49)) = some y2 := hf 2 _ rfl
  rw [cells49] at f2
  obtain ⟨v2, r2, o2, b2⟩ := rd49 f2
  have z := RepL.nil (w := w) (cs := cs)
  rw [hc] at z
  have g := (RepL.app (o := 0) (k := 1) rfl r0 (RepL.app (o := 1) (k := 3) rfl r1 (RepL.app (o := 4) (k := 1) rfl r2 z)))
  refine ⟨⟨v0, v1, v2⟩, g, ⟨o0, o1, o2⟩, ?_⟩
  simp only [List.map, bulkAll] at hb
  unfold bkClaim
  try dsimp only
  omega
theorem rd23 {H : Type} {enc : TypeId × Value → H} {w : World} {spare : Nat → Bool} {held : Bool} {fuel : Nat} {cs : List Value} {x : DataW H × List MemPlace} (h : DataW.trod enc Try.prog w 0 spare held fuel 23 cs = some x) : ∃ v : (List Claim), RepL w cs [.sl (List.map encClaim v)] ∧ (∀ u5 ∈ v, okClaim u5) ∧ (sumOf (fun u6 => bkClaim u6) v + 1) ≤ bulk x.1 := by
  obtain ⟨v, h1, h2, h3⟩ := rd_slice (encα := encClaim) (ok := fun v => okClaim v) (bk := fun v => bkClaim v) Try.underlying23 cells51 (by decide) (fun _ => rfl) (fun _ => rfl) (fun fuel cs x h => rd51 h) h
  exact ⟨v, h1, h2, h3⟩
theorem cells23 : Try.prog.cellsOf 23 = 1 := by kernel_rfl
def okLocks (x : Locks) : Prop := (∀ u8 ∈ x.Held, okHold u8) ∧ (∀ u9 ∈ x.Queue, okClaim u9)
def bkLocks (x : Locks) : Nat := (sumOf (fun u10 => bkHold u10) x.Held + 1) + (sumOf (fun u11 => bkClaim u11) x.Queue + 1) + 1
theorem cells25 : Try.prog.cellsOf 25 = 2 := by kernel_rfl
theorem rd25 {H : Type} {enc : TypeId × Value → H} {w : World} {spare : Nat → Bool} {held : Bool} {fuel : Nat} {cs : List Value} {x : DataW H × List MemPlace} (h : DataW.trod enc Try.prog w 0 spare held fuel 25 cs = some x) : ∃ v : Locks, RepL w cs (encLocks v) ∧ (okLocks v) ∧ bkLocks v ≤ bulk x.1 := by
  obtain ⟨xs, n, hb, hc, hx, hf⟩ := fields_of Try.underlying25 h
  rw [cells25] at hc
  obtain ⟨y0, y1, rfl⟩ : ∃ y0 y1, xs = [y0, y1] := by
    match xs, hx with
    | [y0, y1], _ => exact ⟨_, _, rfl⟩
  have f0 : DataW.trod enc Try.prog w 0 spare held n 22 ((cs.drop 0).take (Try.prog.cellsOf 22)) = some y0 := hf 0 _ rfl
  rw [cells22] at f0
  obtain ⟨v0, r0, o0, b0⟩ := rd22 f0
  have f1 : DataW.trod enc Try.prog w 0 spare held n 23 ((cs.drop 1).take (Try.prog.cellsOf 23)) = some y1 := hf 1 _ rfl
  rw [cells23] at f1
  obtain ⟨v1, r1, o1, b1⟩ := rd23 f1
  have z := RepL.nil (w := w) (cs := cs)
  rw [hc] at z
  have g := (RepL.app (o := 0) (k := 1) rfl r0 (RepL.app (o := 1) (k := 1) rfl r1 z))
  refine ⟨⟨v0, v1⟩, g, ⟨o0, o1⟩, ?_⟩
  simp only [List.map, bulkAll] at hb
  unfold bkLocks
  try dsimp only
  omega
def okLockAsksIn (x : LockAsksIn) : Prop := (okLocks x.L) ∧ (okK .i64 x.Txn) ∧ (okWant x.W) ∧ (okK .u64 x.Until) ∧ (okK .i64 x.N) ∧ (okLocks x.Other)
def bkLockAsksIn (x : LockAsksIn) : Nat := bkLocks x.L + 1 + bkWant x.W + 1 + 1 + bkLocks x.Other + 1
theorem cells60 : Try.prog.cellsOf 60 = 10 := by kernel_rfl
theorem rd60 {H : Type} {enc : TypeId × Value → H} {w : World} {spare : Nat → Bool} {held : Bool} {fuel : Nat} {cs : List Value} {x : DataW H × List MemPlace} (h : DataW.trod enc Try.prog w 0 spare held fuel 60 cs = some x) : ∃ v : LockAsksIn, RepL w cs (encLockAsksIn v) ∧ (okLockAsksIn v) ∧ bkLockAsksIn v ≤ bulk x.1 := by
  obtain ⟨xs, n, hb, hc, hx, hf⟩ := fields_of Try.underlying60 h
  rw [cells60] at hc
  obtain ⟨y0, y1, y2, y3, y4, y5, rfl⟩ : ∃ y0 y1 y2 y3 y4 y5, xs = [y0, y1, y2, y3, y4, y5] := by
    match xs, hx with
    | [y0, y1, y2, y3, y4, y5], _ => exact ⟨_, _, _, _, _, _, rfl⟩
  have f0 : DataW.trod enc Try.prog w 0 spare held n 25 ((cs.drop 0).take (Try.prog.cellsOf 25)) = some y0 := hf 0 _ rfl
  rw [cells25] at f0
  obtain ⟨v0, r0, o0, b0⟩ := rd25 f0
  have f1 : DataW.trod enc Try.prog w 0 spare held n 3 ((cs.drop 2).take (Try.prog.cellsOf 3)) = some y1 := hf 1 _ rfl
  rw [cells3] at f1
  obtain ⟨v1, r1, o1, b1⟩ := rd3 f1
  have f2 : DataW.trod enc Try.prog w 0 spare held n 44 ((cs.drop 3).take (Try.prog.cellsOf 44)) = some y2 := hf 2 _ rfl
  rw [cells44] at f2
  obtain ⟨v2, r2, o2, b2⟩ := rd44 f2
  have f3 : DataW.trod enc Try.prog w 0 spare held n 49 ((cs.drop 6).take (Try.prog.cellsOf 49)) = some y3 := hf 3 _ rfl
  rw [cells49] at f3
  obtain ⟨v3, r3, o3, b3⟩ := rd49 f3
  have f4 : DataW.trod enc Try.prog w 0 spare held n 3 ((cs.drop 7).take (Try.prog.cellsOf 3)) = some y4 := hf 4 _ rfl
  rw [cells3] at f4
  obtain ⟨v4, r4, o4, b4⟩ := rd3 f4
  have f5 : DataW.trod enc Try.prog w 0 spare held n 25 ((cs.drop 8).take (Try.prog.cellsOf 25)) = some y5 := hf 5 _ rfl
  rw [cells25] at f5
  obtain ⟨v5, r5, o5, b5⟩ := rd25 f5
  have z := RepL.nil (w := w) (cs := cs)
  rw [hc] at z
  have g := (RepL.app (o := 0) (k := 2) rfl r0 (RepL.app (o := 2) (k := 1) rfl r1 (RepL.app (o := 3) (k := 3) rfl r2 (RepL.app (o := 6) (k := 1) rfl r3 (RepL.app (o := 7) (k := 1) rfl r4 (RepL.app (o := 8) (k := 2) rfl r5 z))))))
  refine ⟨⟨v0, v1, v2, v3, v4, v5⟩, g, ⟨o0, o1, o2, o3, o4, o5⟩, ?_⟩
  simp only [List.map, bulkAll] at hb
  unfold bkLockAsksIn
  try dsimp only
  omega
def okAct (x : Act) : Prop := (okK .i64 x.Kind) ∧ (okK .i64 x.Txn) ∧ (okWant x.W)
def bkAct (x : Act) : Nat := 1 + 1 + bkWant x.W + 1
theorem cells87 : Try.prog.cellsOf 87 = 5 := by kernel_rfl
theorem rd87 {H : Type} {enc : TypeId × Value → H} {w : World} {spare : Nat → Bool} {held : Bool} {fuel : Nat} {cs : List Value} {x : DataW H × List MemPlace} (h : DataW.trod enc Try.prog w 0 spare held fuel 87 cs = some x) : ∃ v : Act, RepL w cs (encAct v) ∧ (okAct v) ∧ bkAct v ≤ bulk x.1 := by
  obtain ⟨xs, n, hb, hc, hx, hf⟩ := fields_of Try.underlying87 h
  rw [cells87] at hc
  obtain ⟨y0, y1, y2, rfl⟩ : ∃ y0 y1 y2, xs = [y0, y1, y2] := by
    match xs, hx with
    | [y0, y1, y2], _ => exact ⟨_, _, _, rfl⟩
  have f0 : DataW.trod enc Try.prog w 0 spare held n 3 ((cs.drop 0).take (Try.prog.cellsOf 3)) = some y0 := hf 0 _ rfl
  rw [cells3] at f0
  obtain ⟨v0, r0, o0, b0⟩ := rd3 f0
  have f1 : DataW.trod enc Try.prog w 0 spare held n 3 ((cs.drop 1).take (Try.prog.cellsOf 3)) = some y1 := hf 1 _ rfl
  rw [cells3] at f1
  obtain ⟨v1, r1, o1, b1⟩ := rd3 f1
  have f2 : DataW.trod enc Try.prog w 0 spare held n 44 ((cs.drop 2).take (Try.prog.cellsOf 44)) = some y2 := hf 2 _ rfl
  rw [cells44] at f2
  obtain ⟨v2, r2, o2, b2⟩ := rd44 f2
  have z := RepL.nil (w := w) (cs := cs)
  rw [hc] at z
  have g := (RepL.app (o := 0) (k := 1) rfl r0 (RepL.app (o := 1) (k := 1) rfl r1 (RepL.app (o := 2) (k := 3) rfl r2 z)))
  refine ⟨⟨v0, v1, v2⟩, g, ⟨o0, o1, o2⟩, ?_⟩
  simp only [List.map, bulkAll] at hb
  unfold bkAct
  try dsimp only
  omega
theorem rd40 {H : Type} {enc : TypeId × Value → H} {w : World} {spare : Nat → Bool} {held : Bool} {fuel : Nat} {cs : List Value} {x : DataW H × List MemPlace} (h : DataW.trod enc Try.prog w 0 spare held fuel 40 cs = some x) : ∃ v : (List Act), RepL w cs [.sl (List.map encAct v)] ∧ (∀ u21 ∈ v, okAct u21) ∧ (sumOf (fun u22 => bkAct u22) v + 1) ≤ bulk x.1 := by
  obtain ⟨v, h1, h2, h3⟩ := rd_slice (encα := encAct) (ok := fun v => okAct v) (bk := fun v => bkAct v) Try.underlying40 cells87 (by decide) (fun _ => rfl) (fun _ => rfl) (fun fuel cs x h => rd87 h) h
  exact ⟨v, h1, h2, h3⟩
def okLockFairIn (x : LockFairIn) : Prop := (okLocks x.L) ∧ (okK .i64 x.Txn) ∧ (okWant x.W) ∧ (okK .i64 x.I)
def bkLockFairIn (x : LockFairIn) : Nat := bkLocks x.L + 1 + bkWant x.W + 1 + 1
theorem cells57 : Try.prog.cellsOf 57 = 7 := by kernel_rfl
theorem rd57 {H : Type} {enc : TypeId × Value → H} {w : World} {spare : Nat → Bool} {held : Bool} {fuel : Nat} {cs : List Value} {x : DataW H × List MemPlace} (h : DataW.trod enc Try.prog w 0 spare held fuel 57 cs = some x) : ∃ v : LockFairIn, RepL w cs (encLockFairIn v) ∧ (okLockFairIn v) ∧ bkLockFairIn v ≤ bulk x.1 := by
  obtain ⟨xs, n, hb, hc, hx, hf⟩ := fields_of Try.underlying57 h
  rw [cells57] at hc
  obtain ⟨y0, y1, y2, y3, rfl⟩ : ∃ y0 y1 y2 y3, xs = [y0, y1, y2, y3] := by
    match xs, hx with
    | [y0, y1, y2, y3], _ => exact ⟨_, _, _, _, rfl⟩
  have f0 : DataW.trod enc Try.prog w 0 spare held n 25 ((cs.drop 0).take (Try.prog.cellsOf 25)) = some y0 := hf 0 _ rfl
  rw [cells25] at f0
  obtain ⟨v0, r0, o0, b0⟩ := rd25 f0
  have f1 : DataW.trod enc Try.prog w 0 spare held n 3 ((cs.drop 2).take (Try.prog.cellsOf 3)) = some y1 := hf 1 _ rfl
  rw [cells3] at f1
  obtain ⟨v1, r1, o1, b1⟩ := rd3 f1
  have f2 : DataW.trod enc Try.prog w 0 spare held n 44 ((cs.drop 3).take (Try.prog.cellsOf 44)) = some y2 := hf 2 _ rfl
  rw [cells44] at f2
  obtain ⟨v2, r2, o2, b2⟩ := rd44 f2
  have f3 : DataW.trod enc Try.prog w 0 spare held n 3 ((cs.drop 6).take (Try.prog.cellsOf 3)) = some y3 := hf 3 _ rfl
  rw [cells3] at f3
  obtain ⟨v3, r3, o3, b3⟩ := rd3 f3
  have z := RepL.nil (w := w) (cs := cs)
  rw [hc] at z
  have g := (RepL.app (o := 0) (k := 2) rfl r0 (RepL.app (o := 2) (k := 1) rfl r1 (RepL.app (o := 3) (k := 3) rfl r2 (RepL.app (o := 6) (k := 1) rfl r3 z))))
  refine ⟨⟨v0, v1, v2, v3⟩, g, ⟨o0, o1, o2, o3⟩, ?_⟩
  simp only [List.map, bulkAll] at hb
  unfold bkLockFairIn
  try dsimp only
  omega
end Go.Ab
