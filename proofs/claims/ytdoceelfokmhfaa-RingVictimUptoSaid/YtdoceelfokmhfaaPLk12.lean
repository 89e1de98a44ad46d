/- Two laws of chapter 10, plainly: asks and frees are alike. -/
import Derived.Test.YtdoceelfokmhfaaPLk11
namespace Go.Ab
set_option linter.unusedVariables false
set_option linter.unusedSimpArgs false

theorem settleF_len (n : Nat) : ∀ (l : Locks) (out : List Int), (settleF n l out).2.length ≤ out.length + n := by
  induction n with
  | zero => intro l out; exact Nat.le_refl _
  | succ n ih =>
    intro l out
    unfold settleF
    split
    · simp only; omega
    · have := ih (grantM l ‹Nat›) (out ++ [(claimAt l ‹Nat›).Txn])
      simp only [List.length_append, List.length_cons, List.length_nil] at this
      omega
theorem settleF_ok (n : Nat) : ∀ (l : Locks) (out : List Int), LOk l → l.Held.length + l.Queue.length ≤ 2000000 → LOk (settleF n l out).1 := by
  induction n with
  | zero => intro l out h _; exact h
  | succ n ih =>
    intro l out h hb
    unfold settleF
    cases hf : (List.range l.Queue.length).find? (freeI l) with
    | none => exact h
    | some k =>
      have hk : k < l.Queue.length := by have := List.mem_of_find?_eq_some hf; simpa using this
      obtain ⟨g1, g2, g3⟩ := grant_ok h hk hb
      exact ih _ _ g1 (by omega)
theorem lockFrees {l : Locks} (hl : LOk l) (hb : l.Held.length + l.Queue.length ≤ 2000000) (txn : Int) : law10_LockFrees l txn = some true := by
  obtain ⟨k1, k2, k3⟩ := less_ok2 hl txn
  have hsz : (lessL l txn).Held.length + (lessL l txn).Queue.length ≤ 2000000 := by omega
  have o1 : LOk (settleM l).1 := settleF_ok _ _ _ hl hb
  have o2 : LOk (freeM l txn).1 := settleF_ok _ _ _ k1 hsz
  have l1 : (settleM l).2.length ≤ 0 + (l.Queue.length + 1) := settleF_len _ _ _
  have l2 : (freeM l txn).2.length ≤ 0 + ((lessL l txn).Queue.length + 1) := settleF_len _ _ _
  unfold law10_LockFrees
  rw [shown10, small_eq]
  simp only [Option.bind_some]
  by_cases hs : (decide (l.Held.length ≤ 200) && decide (l.Queue.length ≤ 40)) = true
  · rw [if_neg (by rw [hs]; simp), settle_eq hl hb, rsettle_eq hl hb, free_eq hl hb, rfree_eq hl hb]
    simp only [Option.bind_some]
    rw [rlsame_eq o1, rlsame_eq o2, ints_eq _ _ (by omega), ints_eq _ _ (by omega)]
    simp
  · rw [if_pos (by simp only [Bool.not_true, Bool.false_or, Bool.not_eq_true']; simpa using hs)]
end Go.Ab
