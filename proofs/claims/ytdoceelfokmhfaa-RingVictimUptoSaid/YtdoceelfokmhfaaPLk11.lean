/- The laws of chapter 10: what is shown; asks and frees (plain). -/
import Derived.Test.YtdoceelfokmhfaaPLk10
namespace Go.Ab
set_option linter.unusedVariables false
set_option linter.unusedSimpArgs false

theorem blockM_nil (l : Locks) (t : Int) (w : Want) (n : Nat) : blockM l t w n = [] ↔ blockS l t w n = [] := by
  unfold blockM
  constructor
  · intro h
    have := congrArg List.length h
    rw [List.length_mergeSort] at this
    exact List.length_eq_zero_iff.1 this
  · intro h; rw [h]; simp
def wx : Want := ⟨2, [97], [97, 0]⟩
def ws : Want := ⟨1, [97], [97, 0]⟩
theorem shown_a : askM ⟨[], []⟩ 1 wx 9 = (⟨[⟨1, wx⟩], []⟩, 0) := by
  unfold askM
  simp only [blockM_nil]
  decide
theorem shown_b : askM ⟨[⟨1, wx⟩], []⟩ 2 ws 9 = (⟨[⟨1, wx⟩], [⟨2, ws, 9⟩]⟩, 12) := by
  unfold askM
  simp only [blockM_nil]
  decide
theorem shown_c : (freeM ⟨[⟨1, wx⟩], [⟨2, ws, 9⟩]⟩ 1).2 = [2] := by
  have e : lessL ⟨[⟨1, wx⟩], [⟨2, ws, 9⟩]⟩ 1 = ⟨[], [⟨2, ws, 9⟩]⟩ := by decide
  have f : freeI ⟨[], [⟨2, ws, 9⟩]⟩ 0 = true := by
    rw [freeI_at (by decide)]
    simp only [blockM_nil]
    decide
  unfold freeM settleM
  rw [e]
  show (settleF (0 + 1 + 1) ⟨[], [⟨2, ws, 9⟩]⟩ []).2 = [2]
  unfold settleF
  have h1 : (List.range (⟨[], [⟨2, ws, 9⟩]⟩ : Locks).Queue.length).find? (freeI ⟨[], [⟨2, ws, 9⟩]⟩) = some 0 := by
    show [0].find? _ = some 0
    simp [f]
  rw [h1]
  rfl
theorem lok_small {l : Locks} (h1 : l.Held.length ≤ 2000000) (h2 : l.Queue.length ≤ 2000000) (h3 : ∀ h ∈ l.Held, In64 h.Txn ∧ wOk h.W) (h4 : ∀ c ∈ l.Queue, In64 c.Txn ∧ wOk c.W) : LOk l := ⟨h1, h2, h3, h4⟩
theorem shown10 : law10_shown = some true := by
  have o1 : LOk ⟨[], []⟩ := ⟨by simp, by simp, fun h hm => by (cases hm), fun c hm => by (cases hm)⟩
  have o2 : LOk ⟨[⟨1, wx⟩], []⟩ := ⟨by simp, by simp, fun h hm => by (simp at hm; subst hm; exact ⟨by decide, ⟨by decide, by decide⟩⟩), fun c hm => by (cases hm)⟩
  have o3 : LOk ⟨[⟨1, wx⟩], [⟨2, ws, 9⟩]⟩ := ⟨by simp, by simp, fun h hm => by (simp at hm; subst hm; exact ⟨by decide, ⟨by decide, by decide⟩⟩), fun c hm => by (simp at hm; subst hm; exact ⟨by decide, ⟨by decide, by decide⟩⟩)⟩
  have k1 : ref09_Key 2 [97] = some wx := by unfold ref09_Key; rw [need_pos (by decide)]; rfl
  have k2 : ref09_Key 1 [97] = some ws := by unfold ref09_Key; rw [need_pos (by decide)]; rfl
  unfold law10_shown
  rw [k1]
  simp only [Option.bind_some]
  rw [ask_eq o1, shown_a, k2]
  simp only [Option.bind_some]
  rw [ask_eq o2, shown_b]
  simp only [Option.bind_some]
  rw [free_eq o3 (by decide)]
  simp only [Option.bind_some]
  rw [shown_c]
  rfl
theorem small_eq (l : Locks) : law10_small l = some (decide (l.Held.length ≤ 200) && decide (l.Queue.length ≤ 40)) := by
  unfold law10_small
  by_cases h : l.Held.length ≤ 200
  · rw [if_pos (by simp; omega)]; simp [h]; omega
  · rw [if_neg (by simp; omega)]; simp [h]
end Go.Ab
