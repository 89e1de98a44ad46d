/- Regions whose order is drawn: the head's operations in whatever order, then the tail's in a row. -/
import Derived.Test.YthhddlhgkejhbaaStAbsPf
import Derived.Scope
import Derived.OrdersHeld
import Derived.StillTail
namespace Go.Ab
set_option linter.unusedVariables false
section
variable {P : Program} {ops : Array Oper} {Q : Exit → Act → World → Prop} {S : World → Prop} {n : Nat} {L : Act → World → Prop}

/-- Whatever order the head's operations (f of them are left) are picked in, S holds behind each; then the tail comes. -/
def Mix (P : Program) (ops : Array Oper) (Q : Exit → Act → World → Prop) (S : World → Prop) (n : Nat) (L : Act → World → Prop) : Nat → Array Bool → Act → World → Prop
  | 0, had, a, w => Region.seqB .any ops (ops.size - n) n had = true ∧ L a w
  | f + 1, had, a, w => Region.ready .any ops had ≠ [] ∧ ∀ i ∈ Region.ready .any ops had, i < n ∧ wpOp P ops Q i (fun a' w' => S w' ∧ Mix P ops Q S n L f (had.setIfInBounds i true) a' w') a w

theorem mix_any (hL : ∀ had a w, Region.seqB .any ops (ops.size - n) n had = true → L a w → wpAny P .any ops Q (ops.size - n) had a w) :
    ∀ (f : Nat) (had : Array Bool) (a : Act) (w : World), Mix P ops Q S n L f had a w → wpAny P .any ops Q (f + (ops.size - n)) had a w := by
  intro f
  induction f with
  | zero => intro had a w h; rw [Nat.zero_add]; exact hL _ _ _ h.1 h.2
  | succ f ih =>
    intro had a w h
    have e : f + 1 + (ops.size - n) = (f + (ops.size - n)) + 1 := by omega
    rw [e]
    exact ⟨fun h0 => absurd h0 h.1, fun i hi => wpOp_mono (fun a' w' h' => ih _ a' w' h'.2) (h.2 i hi).2⟩

/-- While one of the head is left, only the head's come up. -/
def HeadOnly (ops : Array Oper) (n : Nat) : Prop := ∀ (had : Array Bool), HeadInv .any ops n had → ∀ i, i < n → had.getD i true = false → ∀ j ∈ Region.ready .any ops had, j < n

theorem headOnly_of {n : Nat} (h : (decide (n = ops.size) || (decide (n < ops.size) && Region.sinkB .any ops n && Region.chainB .any ops n)) = true) : HeadOnly ops n := by
  intro had inv i hi hun j hj
  simp only [Bool.or_eq_true, Bool.and_eq_true, decide_eq_true_eq] at h
  rcases h with rfl | ⟨⟨hn, hs⟩, hc⟩
  · obtain ⟨_, oj, hoj, _⟩ := mem_ready.1 hj
    exact (Array.getElem?_eq_some_iff.1 hoj).1
  · exact (Nat.lt_or_ge j n).resolve_right fun h => tail_waits hs hc hn inv _ i rfl hi hun j h hj

theorem mix_take {i : Nat} {oi : Oper} {v : Value} (hi : ops[i]? = some oi) (hsel : Region.noSelect ops = true) (hh : HeadOnly ops n) (hin : i < n)
    (hQ : ∀ c a w, Q (.panic c) (a.put oi.dst v) w → Q (.panic c) a w) :
    ∀ (f : Nat) (had : Array Bool) (a : Act) (w : World), HeadInv .any ops n had →
      (∀ j oj, ops[j]? = some oj → j ≠ i → had.getD j true = false → (∀ e ∈ oj.after, Region.binds .any e = true → e.on ≠ i) → oi.apart ops oj = true) →
      i ∈ Region.ready .any ops had → YieldsIf P ops S oi v a → S w → Mix P ops Q S n L f (had.setIfInBounds i true) (a.put oi.dst v) w → Mix P ops Q S n L (f + 1) had a w := by
  have sel := Region.noSelect_spec hsel
  intro f
  induction f with
  | zero =>
    intro had a w inv _ hr hy hS H
    have hun := (mem_ready.1 hr).1
    refine ⟨fun h => (by rw [h] at hr; cases hr), fun j hj => ?_⟩
    have hjn := hh had inv i hin hun j hj
    refine ⟨hjn, ?_⟩
    by_cases hji : j = i
    · subst hji; exact hy.wpOp hi hS ⟨hS, H⟩
    · have := seqB_ready H.1 j (ready_mono hj hji)
      omega
  | succ f ih =>
    intro had a w inv hfree hr hy hS H
    have hun := (mem_ready.1 hr).1
    refine ⟨fun h => (by rw [h] at hr; cases hr), fun j hj => ?_⟩
    have hjn := hh had inv i hin hun j hj
    refine ⟨hjn, ?_⟩
    by_cases hji : j = i
    · subst hji; exact hy.wpOp hi hS ⟨hS, H⟩
    obtain ⟨hjun, oj, hoj, hall⟩ := mem_ready.1 hj
    have hnot : ∀ e ∈ oj.after, Region.binds .any e = true → e.on ≠ i := by
      intro e he hb heq
      have k := hall e he hb
      rw [heq, getD_both hun] at k
      cases k
    have moved := wpOp_putIf hoj (hfree j oj hoj hji hjun hnot) (fun cs b => sel i oi cs b hi) (fun cs b => sel j oj cs b hoj) hQ hy (H.2 j (ready_mono hj hji)).2
    refine wpOp_mono (fun a' w' h3 => ⟨h3.2.1, ih (had.setIfInBounds j true) a' w' (inv.set hj hjn) ?_ (ready_mono hr (Ne.symm hji)) h3.1 h3.2.1 ?_⟩) moved
    · intro k ok hk hki hku hno
      refine hfree k ok hk hki ?_ hno
      by_cases hjk : j = k
      · subst hjk; exact hjun
      · rwa [getD_set_ne true hjk] at hku
    · rw [Array.setIfInBounds_comm _ _ hji]
      exact h3.2.2

/-- An end without a panic. -/
def Calm (R : Act → World → Prop) : Exit → Act → World → Prop := fun x a w => x = .normal ∧ R a w
theorem Calm.noPanic {R : Act → World → Prop} {d : Option Tmp} {v : Value} : ∀ c a w, Calm R (.panic c) (a.put d v) w → Calm R (.panic c) a w := fun c a w h => by cases h.1
end
end Go.Ab
