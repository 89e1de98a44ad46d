/- The laws of chapter 03, plainly. -/
import Derived.Test.YtclmbdacfijifaaPD7
import Derived.Test.YtclmbdacfijifaaRd
namespace Go.Ab
set_option linter.unusedVariables false
set_option linter.unusedSimpArgs false

theorem sumOf_len {α : Type} {f : α → Nat} (hf : ∀ x, 1 ≤ f x) : ∀ l : List α, l.length ≤ sumOf f l
  | [] => Nat.le_refl _
  | x :: r => by have := sumOf_len hf r; have := hf x; simp only [List.length_cons, sumOf]; omega
theorem sumOf_mem {α : Type} {f : α → Nat} : ∀ {l : List α} {x : α}, x ∈ l → f x ≤ sumOf f l
  | y :: r, x, h => by
    rcases List.mem_cons.1 h with rfl | h
    · simp only [sumOf]; omega
    · have := sumOf_mem (f := f) h; simp only [sumOf]; omega
theorem i64_of {n : Int} (h : okK .i64 n) : -9223372036854775808 ≤ n ∧ n ≤ 9223372036854775807 := h
theorem dok_of {d : Disk} (o : okDisk d) (b : bkDisk d ≤ 1048576) : DOk d := by
  unfold bkDisk at b
  refine ⟨?_, fun f hf => ?_, i64_of o.1, i64_of o.2⟩
  · have := sumOf_len (f := fun v => bkFile v) (fun x => by unfold bkFile; omega) d.Files
    omega
  · have := sumOf_mem (f := fun v => bkFile v) hf
    have e : fsize f + 4 ≤ bkFile f := by unfold fsize bkFile; omega
    omega
theorem law03_DiskTwice_true (x : DiskTwiceIn) (o : okDiskTwiceIn x) (b : bkDiskTwiceIn x ≤ 1048576) : law03_DiskTwice x = some true := by
  unfold bkDiskTwiceIn at b
  exact twice_true x (dok_of o.1 (by omega))
theorem str_le {s : Str} {b : Nat} (h : b ≤ 1048576) (hs : s.length ≤ b) : s.length ≤ 1099511627776 := by omega
theorem law03_DiskActs_true (x : DiskActsIn) (o : okDiskActsIn x) (b : bkDiskActsIn x ≤ 1048576) : law03_DiskActs x = some true := by
  unfold bkDiskActsIn at b
  exact acts_true x (dok_of o.1 (by omega)) (by omega)
theorem law03_DiskMoves_true (x : DiskMovesIn) (o : okDiskMovesIn x) (b : bkDiskMovesIn x ≤ 1048576) : law03_DiskMoves x = some true := by
  unfold bkDiskMovesIn at b
  exact moves_true x (dok_of o.1 (by omega)) (i64_of o.2.2.1)
theorem law03_DiskWhole_true (d : Disk) (f t : Str) (o : okDisk d) (b : bkDisk d + (f.length + 1) + (t.length + 1) ≤ 1048576) : law03_DiskWhole d f t = some true := whole_true d f t (dok_of o (by omega))
theorem append_len (d : Disk) (name s : Str) : (appendM d name s).1.Files.length ≤ d.Files.length + 1 := by
  have := with_len d.Files name
  unfold appendM
  split
  · simp only; omega
  split
  · simp only; omega
  split
  · simp only; omega
  split
  · simp only; omega
  · simp only [setF_len]; omega
theorem does_len {d : Disk} (h : DOk d) (a : Act) : (doesM d a).1.Files.length ≤ 2000000000 := by
  have := h.lenS
  unfold doesM
  split
  · have := append_len d a.Name a.S; omega
  split
  · exact (sync_ok h _).len
  split
  · exact (rename_ok h _ _).len
  split
  · exact (delete_ok h _).len
  split
  · exact (crash_ok h _).len
  split
  · exact h.len
  · exact h.len
theorem law03_DiskApart_true (d : Disk) (a : Act) (n : Str) (o : okDisk d) (o1 : okAct a) (b : bkDisk d + bkAct a + (n.length + 1) ≤ 1048576) : law03_DiskApart d a n = some true := by
  unfold bkAct at b
  exact apart_true d a n (dok_of o (by omega)) (by omega) (fun x hx => by rw [← hx]; exact does_len (dok_of o (by omega)) a)
end Go.Ab
