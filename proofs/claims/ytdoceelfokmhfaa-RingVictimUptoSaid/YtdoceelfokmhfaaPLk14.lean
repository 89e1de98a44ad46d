/- The law on asks, plainly  . -/
import Derived.Test.YtdoceelfokmhfaaPLk13
namespace Go.Ab
set_option linter.unusedVariables false
set_option linter.unusedSimpArgs false

theorem ask_ok {l : Locks} (hl : LOk l) (h1 : l.Held.length + l.Queue.length ≤ 1999999) {txn : Int} (ht : In64 txn) {w : Want} (hw : wOk w) (u : Int) : LOk (askM l txn w u).1 := by
  unfold askM
  split
  · exact hl
  split
  · exact hl
  split
  · exact hl
  split
  · refine ⟨by simp only [List.length_append, List.length_cons, List.length_nil]; omega, hl.queL, fun h hm => ?_, hl.que⟩
    rcases List.mem_append.1 hm with hm | hm
    · exact hl.held h hm
    · simp at hm; subst hm; exact ⟨ht, hw⟩
  split
  · exact hl
  · refine ⟨hl.heldL, by simp only [List.length_append, List.length_cons, List.length_nil]; omega, hl.held, fun c hm => ?_⟩
    rcases List.mem_append.1 hm with hm | hm
    · exact hl.que c hm
    · simp at hm; subst hm; exact ⟨ht, hw⟩
theorem blockM_len (l : Locks) (t : Int) (w : Want) (n : Nat) : (blockM l t w n).length ≤ l.Held.length + l.Queue.length := by
  have gen : ∀ {α : Type} (T : α → Int) (W : α → Want) (l : List α) (b : List Int), (l.foldl (fun ks y => addB t w ks (T y) (W y)) b).length ≤ b.length + l.length := by
    intro α T W l
    induction l with
    | nil => intro b; simp
    | cons y r ih =>
      intro b
      rw [List.foldl_cons]
      have h1 := ih (addB t w b (T y) (W y))
      have h2 := addB_len t w b (T y) (W y)
      simp only [List.length_cons]; omega
  have h1 := gen (fun x : Hold => x.Txn) (fun x => x.W) l.Held []
  have h2 := gen (fun x : Claim => x.Txn) (fun x => x.W) (l.Queue.take n) (heldB t w l.Held [])
  have h3 : (l.Queue.take n).length ≤ l.Queue.length := by rw [List.length_take]; omega
  have h4 : (heldB t w l.Held []).length ≤ 0 + l.Held.length := h1
  have h5 : (queB t w (l.Queue.take n) (heldB t w l.Held [])).length ≤ (heldB t w l.Held []).length + (l.Queue.take n).length := h2
  unfold blockM blockS
  rw [List.length_mergeSort]; omega
theorem lateM_len (l : Locks) (now : Int) : (lateM l now).length ≤ l.Queue.length := by
  have gen : ∀ (q : List Claim) (b : List Int), (q.foldl (fun out c => if c.Until ≤ now then out ++ [c.Txn] else out) b).length ≤ b.length + q.length := by
    intro q
    induction q with
    | nil => intro b; simp
    | cons y r ih =>
      intro b
      rw [List.foldl_cons]
      refine Nat.le_trans (ih _) ?_
      simp only [List.length_cons]
      split
      · simp only [List.length_append, List.length_cons, List.length_nil]; omega
      · omega
  have := gen l.Queue []
  unfold lateM
  simpa using this
end Go.Ab
