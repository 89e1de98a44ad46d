/- The laws of chapter 10, as the rows want them (plain). -/
import Derived.Test.YtdoceelfokmhfaaPLk16
namespace Go.Ab
set_option linter.unusedVariables false
set_option linter.unusedSimpArgs false

theorem law10_LockAsks_true (v : LockAsksIn) (o : okLockAsksIn v) (b : bkLockAsksIn v ≤ 1048576) : law10_LockAsks v = some true := by
  unfold bkLockAsksIn at b
  obtain ⟨o1, o2, o3, o4, o5, o6⟩ := o
  obtain ⟨h1, h2⟩ := lok_of o1 (by omega)
  exact lockAsks h1 (by omega) o2 (wok_of (by omega)) o5.2
theorem law10_LockGoes_true (l : Locks) (txn : Int) (o : okLocks l) (ot : okK .i64 txn) (b : bkLocks l + 1 ≤ 1048576) : law10_LockGoes l txn = some true := by
  obtain ⟨h1, h2⟩ := lok_of o (by omega)
  exact lockGoes h1 (by omega) txn
theorem law10_LockCovered_true (l : Locks) (i : Int) (w : Want) (o : okLocks l) (oi : okK .i64 i) (ow : okWant w) (b : bkLocks l + 1 + bkWant w ≤ 1048576) : law10_LockCovered l i w = some true := by
  obtain ⟨h1, h2⟩ := lok_of o (by omega)
  exact lockCovered h1 (by omega) i (wok_of (by omega))
theorem law10_LockFair_true (v : LockFairIn) (o : okLockFairIn v) (b : bkLockFairIn v ≤ 1048576) : law10_LockFair v = some true := by
  unfold bkLockFairIn at b
  obtain ⟨o1, o2, o3, o4⟩ := o
  obtain ⟨h1, h2⟩ := lok_of o1 (by omega)
  exact lockFair h1 (by omega) o2 (wok_of (by omega))
theorem acts_of {l : List Act} (o : ∀ u ∈ l, okAct u) (b : sumOf (fun u => bkAct u) l + 1 ≤ 1048576) : ∀ a ∈ l, In64 a.Txn ∧ wOk a.W := by
  intro a ha
  have h1 := sumL_mem (f := fun u => bkAct u) ha
  have e : bkAct a = 1 + 1 + bkWant a.W + 1 := rfl
  exact ⟨(o a ha).2.1, wok_of (by omega)⟩
theorem law10_LockApart_true (l : List Act) (o : ∀ u ∈ l, okAct u) (b : sumOf (fun u => bkAct u) l + 1 ≤ 1048576) : law10_LockApart l = some true := lockApart (acts_of o b)
theorem law10_LockWaits_true (l : List Act) (o : ∀ u ∈ l, okAct u) (b : sumOf (fun u => bkAct u) l + 1 ≤ 1048576) : law10_LockWaits l = some true := lockWaits (acts_of o b)
end Go.Ab
