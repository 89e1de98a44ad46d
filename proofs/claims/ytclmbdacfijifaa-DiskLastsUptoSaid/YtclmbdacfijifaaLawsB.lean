/- The laws of chapter 03 over many acts, plainly. -/
import Derived.Test.YtclmbdacfijifaaPD9
import Derived.Test.YtclmbdacfijifaaLaws
namespace Go.Ab
set_option linter.unusedVariables false
set_option linter.unusedSimpArgs false

theorem acts_ok {l : List Act} {n : Nat} (o : ∀ a ∈ l, okAct a) (b : sumOf (fun a => bkAct a) l ≤ n) (hn : n ≤ 1048576) : (∀ a ∈ l, ActOk a) ∧ l.length ≤ 2000000000 := by
  constructor
  · intro a ha
    have h1 := sumOf_mem (f := fun a => bkAct a) ha
    have h2 := o a ha
    have e : a.S.length ≤ bkAct a := by unfold bkAct; omega
    exact ⟨by omega, i64_of h2.2⟩
  · have := sumOf_len (f := fun a => bkAct a) (fun x => by unfold bkAct; omega) l
    omega
theorem law03_DiskRoom_true (room : Int) (l : List Act) (o0 : okK .i64 room) (o1 : ∀ a ∈ l, okAct a) (b : 1 + (sumOf (fun a => bkAct a) l + 1) ≤ 1048576) : law03_DiskRoom room l = some true :=
  room_true room l (acts_ok o1 (Nat.le_refl _) (by omega)).1 (acts_ok o1 (Nat.le_refl _) (by omega)).2
theorem law03_DiskLasts_true (x : DiskLastsIn) (o : okDiskLastsIn x) (b : bkDiskLastsIn x ≤ 1048576) : law03_DiskLasts x = some true := by
  unfold bkDiskLastsIn at b
  exact lasts_true x (i64_of o.1).2 (acts_ok o.2.1 (Nat.le_refl _) (by omega)).1 (acts_ok o.2.2 (Nat.le_refl _) (by omega)).1
theorem law03_DiskArms_true (fuse : Int) (l : List Str) (o : okK .i64 fuse) (b : 1 + (sumOf (fun u => (u.length + 1)) l + 1) ≤ 1048576) : law03_DiskArms fuse l = some true := arms_true fuse l
end Go.Ab
