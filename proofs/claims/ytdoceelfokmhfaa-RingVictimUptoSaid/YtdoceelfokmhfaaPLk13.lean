/- Laws of chapter 10, as the rows want them (plain). -/
import Derived.Test.YtdoceelfokmhfaaPLk12
import Derived.Test.YtdoceelfokmhfaaRd
namespace Go.Ab
set_option linter.unusedVariables false
set_option linter.unusedSimpArgs false

theorem sumL_len {α : Type} {f : α → Nat} (hf : ∀ x, 1 ≤ f x) : ∀ l : List α, l.length ≤ sumOf f l
  | [] => Nat.le_refl _
  | x :: r => by have := sumL_len hf r; have := hf x; simp only [List.length_cons, sumOf]; omega
theorem sumL_mem {α : Type} {f : α → Nat} : ∀ {l : List α} {x : α}, x ∈ l → f x ≤ sumOf f l
  | y :: r, x, h => by
    rcases List.mem_cons.1 h with rfl | h
    · simp only [sumOf]; omega
    · have := sumL_mem (f := f) h; simp only [sumOf]; omega
theorem wok_of {w : Want} (b : bkWant w ≤ 1048576) : wOk w := by
  unfold bkWant at b
  exact ⟨by omega, by omega⟩
theorem lok_of {l : Locks} (o : okLocks l) (b : bkLocks l ≤ 1048576) : LOk l ∧ l.Held.length + l.Queue.length ≤ 1048576 := by
  unfold bkLocks at b
  have h1 := sumL_len (f := fun u => bkHold u) (fun x => by unfold bkHold; omega) l.Held
  have h2 := sumL_len (f := fun u => bkClaim u) (fun x => by unfold bkClaim; omega) l.Queue
  refine ⟨⟨by omega, by omega, fun h hm => ?_, fun c hm => ?_⟩, by omega⟩
  · have := sumL_mem (f := fun u => bkHold u) hm
    refine ⟨(o.1 h hm).1, wok_of ?_⟩
    have e : bkHold h = 1 + bkWant h.W + 1 := rfl
    omega
  · have := sumL_mem (f := fun u => bkClaim u) hm
    refine ⟨(o.2 c hm).1, wok_of ?_⟩
    have e : bkClaim c = 1 + bkWant c.W + 1 + 1 := rfl
    omega
theorem law10_LockFrees_true (l : Locks) (txn : Int) (o : okLocks l) (ot : okK .i64 txn) (b : bkLocks l + 1 ≤ 1048576) : law10_LockFrees l txn = some true := by
  obtain ⟨h1, h2⟩ := lok_of o (by omega)
  exact lockFrees h1 (by omega) txn
end Go.Ab
