/- Bounds out of what is read of the arguments (plain). -/
import Derived.Test.YtgmejofagmfcfaaGreatDoorPWal3
import Derived.Test.YtgmejofagmfcfaaGreatDoorRd
namespace Go.Ab
set_option linter.unusedVariables false
set_option linter.unusedSimpArgs false

theorem sumOf_len {α : Type} {f : α → Nat} (hf : ∀ x, 1 ≤ f x) : ∀ l : List α, l.length ≤ sumOf f l
  | [] => Nat.le_refl _
  | x :: r => by have := sumOf_len hf r; have := hf x; simp only [List.length_cons, sumOf]; omega
theorem sumOf_mem {α : Type} {f : α → Nat} : ∀ {l : List α} {x : α}, x ∈ l → f x ≤ sumOf f l
  | y :: r, x, h => by
    rcases List.mem_cons.1 h with rfl | h
    · simp only [sumOf]; omega
    · have := sumOf_mem (f := f) h; simp only [sumOf]; omega
theorem i64_of {n : Int} (h : okK .i64 n) : -9223372036854775808 ≤ n ∧ n ≤ 9223372036854775807 := h
theorem new_db {room : Int} (h : In64 room) : DB (newM room).1 := by
  unfold newM
  split
  · exact ⟨⟨by simp, fun f hf => (by cases hf), (by decide), (by decide)⟩, fun f hf => by cases hf⟩
  · exact ⟨⟨by simp, fun f hf => (by cases hf), h, (by simp)⟩, fun f hf => by cases hf⟩
end Go.Ab
