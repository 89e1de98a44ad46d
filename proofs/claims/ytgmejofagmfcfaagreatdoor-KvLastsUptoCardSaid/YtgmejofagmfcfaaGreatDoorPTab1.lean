/- Tables and batches as plain lists: models, and what they keep (plain). -/
import Derived.Test.YtgmejofagmfcfaaGreatDoorPOrd1
import Derived.Test.YtgmejofagmfcfaaGreatDoorPDec4
namespace Go.Ab
set_option linter.unusedVariables false
set_option linter.unusedSimpArgs false

/-! ### Tables -/
def rightM : List Pair → Bool
  | [] => true
  | [_] => true
  | a :: b :: r => ltS a.Key b.Key && rightM (b :: r)
def hasK (l : List Pair) (k : Str) : Bool := l.any (fun p => decide (p.Key = k))
def findM (l : List Pair) (k : Str) : Str × Bool := match l.find? (fun p => decide (p.Key = k)) with | some p => (p.Val, true) | none => ([], false)
def replP (k v : Str) : List Pair → List Pair
  | [] => []
  | p :: r => if p.Key = k then ⟨k, v⟩ :: r else p :: replP k v r
def insP (k v : Str) : List Pair → List Pair
  | [] => [⟨k, v⟩]
  | p :: r => if ltS k p.Key = true then ⟨k, v⟩ :: p :: r else p :: insP k v r
def putP (l : List Pair) (k v : Str) : List Pair := if hasK l k = true then replP k v l else insP k v l
def dropP (l : List Pair) (k : Str) : List Pair := l.filter (fun p => !decide (p.Key = k))
def doW (l : List Pair) (w : Write) : List Pair := if w.Del = true then dropP l w.Key else putP l w.Key w.Val
def applyM (l : List Pair) (w : List Write) : List Pair := w.foldl doW l
theorem findM_has (l : List Pair) (k : Str) : (findM l k).2 = hasK l k := by
  unfold findM hasK
  cases h : l.find? (fun p => decide (p.Key = k)) with
  | none =>
    have := List.find?_eq_none.1 h
    simp only
    rw [eq_comm, List.any_eq_false]
    exact this
  | some p =>
    simp only
    rw [eq_comm, List.any_eq_true]
    exact ⟨p, List.mem_of_find?_eq_some h, (List.find?_some (p := fun p : Pair => decide (p.Key = k)) h)⟩
theorem insP_len (k v : Str) (l : List Pair) : (insP k v l).length = l.length + 1 := by
  induction l with
  | nil => rfl
  | cons p r ih => unfold insP; split <;> simp [ih]
theorem replP_len (k v : Str) (l : List Pair) : (replP k v l).length = l.length := by
  induction l with
  | nil => rfl
  | cons p r ih => unfold replP; split <;> simp [ih]
theorem putP_len (l : List Pair) (k v : Str) : (putP l k v).length ≤ l.length + 1 := by
  unfold putP; split
  · rw [replP_len]; omega
  · rw [insP_len]; omega
theorem insP_mem (k v : Str) (l : List Pair) (x : Pair) : x ∈ insP k v l ↔ x = ⟨k, v⟩ ∨ x ∈ l := by
  induction l with
  | nil => simp [insP]
  | cons p r ih =>
    unfold insP; split
    · simp
    · simp only [List.mem_cons, ih]
      constructor
      · rintro (h | h | h) <;> simp [h]
      · rintro (h | h | h) <;> simp [h]
theorem replP_mem {k v : Str} {l : List Pair} {x : Pair} (h : x ∈ replP k v l) : x = ⟨k, v⟩ ∨ x ∈ l := by
  induction l with
  | nil => simp [replP] at h
  | cons p r ih =>
    unfold replP at h
    split at h
    · rcases List.mem_cons.1 h with h | h
      · exact .inl h
      · exact .inr (List.mem_cons_of_mem _ h)
    · rcases List.mem_cons.1 h with h | h
      · exact .inr (by rw [h]; exact List.mem_cons_self ..)
      · exact (ih h).imp id (List.mem_cons_of_mem _)
theorem putP_mem {l : List Pair} {k v : Str} {x : Pair} (h : x ∈ putP l k v) : x = ⟨k, v⟩ ∨ x ∈ l := by
  unfold putP at h
  split at h
  · exact replP_mem h
  · exact (insP_mem _ _ _ _).1 h
theorem putP_has (l : List Pair) (k v : Str) (n : Str) : hasK (putP l k v) n = (decide (k = n) || hasK l n) := by
  unfold putP
  split
  · rename_i h
    have gen : ∀ l : List Pair, hasK l k = true → hasK (replP k v l) n = (decide (k = n) || hasK l n) := by
      intro l
      induction l with
      | nil => intro h; simp [hasK] at h
      | cons p r ih =>
        intro h
        unfold replP
        by_cases hp : p.Key = k
        · rw [if_pos hp]
          unfold hasK
          rw [List.any_cons, List.any_cons]
          simp only [hp]
          by_cases hk : k = n <;> simp [hk]
        · rw [if_neg hp]
          have hr : hasK r k = true := by unfold hasK at h ⊢; rw [List.any_cons] at h; simpa [hp] using h
          have := ih hr
          unfold hasK at this ⊢
          rw [List.any_cons, List.any_cons, this]
          by_cases h1 : p.Key = n <;> by_cases h2 : k = n <;> simp [h1, h2]
    exact gen l h
  · have gen : ∀ l : List Pair, hasK (insP k v l) n = (decide (k = n) || hasK l n) := by
      intro l
      rw [Bool.eq_iff_iff]
      unfold hasK
      rw [Bool.or_eq_true, List.any_eq_true, List.any_eq_true]
      constructor
      · rintro ⟨x, hx, hq⟩
        rcases (insP_mem _ _ _ _).1 hx with rfl | hx
        · exact .inl hq
        · exact .inr ⟨x, hx, hq⟩
      · rintro (h | ⟨x, hx, hq⟩)
        · exact ⟨⟨k, v⟩, (insP_mem _ _ _ _).2 (.inl rfl), h⟩
        · exact ⟨x, (insP_mem _ _ _ _).2 (.inr hx), hq⟩
    exact gen l
theorem dropP_len (l : List Pair) (k : Str) : (dropP l k).length ≤ l.length := List.length_filter_le _ _
theorem doW_len (l : List Pair) (w : Write) : (doW l w).length ≤ l.length + 1 := by
  unfold doW; split
  · have := dropP_len l w.Key; omega
  · exact putP_len ..
theorem applyM_len (w : List Write) : ∀ l : List Pair, (applyM l w).length ≤ l.length + w.length := by
  induction w with
  | nil => intro l; exact Nat.le_refl _
  | cons x r ih =>
    intro l
    have h1 := doW_len l x
    have h2 := ih (doW l x)
    have e : applyM l (x :: r) = applyM (doW l x) r := rfl
    rw [e]
    simp only [List.length_cons]; omega
end Go.Ab
