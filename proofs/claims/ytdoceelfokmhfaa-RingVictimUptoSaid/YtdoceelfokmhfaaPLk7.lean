/- Rows of which some are deleted (plain). -/
import Derived.Test.YtdoceelfokmhfaaPLk6
namespace Go.Ab
set_option linter.unusedVariables false
set_option linter.unusedSimpArgs false

theorem find_first {α ρ : Type} (l : List α) (q : α → Bool) (g : Nat → ρ) (e : ρ) (step : Int → Option (Int ⊕ ρ))
    (hstep : ∀ (k : Nat) x, l[k]? = some x → step k = if q x = true then some (.inr (g k)) else some (.inl ((k + 1 : Nat) : Int))) (hend : step l.length = some (.inr e)) :
    (∃ k x, l[k]? = some x ∧ loop step 0 = some (g k) ∧ q x = true ∧ ∀ y ∈ l.take k, q y = false) ∨ (loop step 0 = some e ∧ ∀ y ∈ l, q y = false) := by
  have key : ∀ (m k : Nat), k + m = l.length → (∀ y ∈ l.take k, q y = false) → (∃ j x, l[j]? = some x ∧ loop step (k : Int) = some (g j) ∧ q x = true ∧ ∀ y ∈ l.take j, q y = false) ∨ (loop step (k : Int) = some e ∧ ∀ y ∈ l, q y = false) := by
    intro m
    induction m with
    | zero =>
      intro k hk hy
      have : k = l.length := by omega
      subst this
      rw [List.take_length] at hy
      exact .inr ⟨loop_inr hend, hy⟩
    | succ m ih =>
      intro k hk hy
      have hlt : k < l.length := by omega
      have hg := List.getElem?_eq_getElem hlt
      have hs := hstep k _ hg
      cases hq : q l[k] with
      | true =>
        rw [hq, if_pos rfl] at hs
        exact .inl ⟨k, _, hg, loop_inr hs, hq, hy⟩
      | false =>
        rw [hq, if_neg (by simp)] at hs
        rw [loop_inl hs]
        refine ih (k + 1) (by omega) (fun y h => ?_)
        rw [List.take_succ_eq_append_getElem hlt] at h
        rcases List.mem_append.1 h with h | h
        · exact hy y h
        · simp at h; subst h; exact hq
  exact key l.length 0 (by omega) (by simp)
theorem del_loop {α : Type} (l : List α) (q : α → Bool) (step : (Int × Int × List α) → Option ((Int × Int × List α) ⊕ (Int × List α)))
    (hstep : ∀ (i j : Nat) (a : List α) x, i < j → a.length = l.length → a[j]? = some x → step ((i : Int), (j : Int), a) = if q x = true then some (.inl ((i : Int), ((j + 1 : Nat) : Int), a)) else some (.inl (((i + 1 : Nat) : Int), ((j + 1 : Nat) : Int), a.set i x)))
    (hend : ∀ (i : Int) (a : List α), a.length = l.length → step (i, (l.length : Int), a) = some (.inr (i, a))) :
    ∀ (m i j : Nat) (a : List α), j + m = l.length → i < j → a.length = l.length → a.drop j = l.drop j → a.take i = (l.take j).filter (fun x => !q x) →
      ∃ (i2 : Nat) (a2 : List α), loop step ((i : Int), (j : Int), a) = some ((i2 : Int), a2) ∧ a2.length = l.length ∧ i2 ≤ l.length ∧ a2.take i2 = l.filter (fun x => !q x) := by
  intro m
  induction m with
  | zero =>
    intro i j a hj hij ha hd ht
    have : j = l.length := by omega
    subst this
    rw [List.take_length] at ht
    exact ⟨i, a, loop_inr (hend _ a ha), ha, by omega, ht⟩
  | succ m ih =>
    intro i j a hj hij ha hd ht
    have hlt : j < l.length := by omega
    have hx : a[j]? = some l[j] := by
      have h1 := congrArg (fun x => x[0]?) hd
      simp only [List.getElem?_drop, Nat.add_zero] at h1
      rw [h1, List.getElem?_eq_getElem hlt]
    have hs := hstep i j a _ hij ha hx
    have hd2 : a.drop (j + 1) = l.drop (j + 1) := by
      have := congrArg (List.drop 1) hd
      rwa [List.drop_drop, List.drop_drop] at this
    have hf : (l.take (j + 1)).filter (fun x => !q x) = (l.take j).filter (fun x => !q x) ++ (if q l[j] = true then [] else [l[j]]) := by
      rw [List.take_succ_eq_append_getElem hlt, List.filter_append]
      by_cases hql : q l[j] = true <;> simp [List.filter_cons, hql]
    cases hq : q l[j] with
    | true =>
      rw [hq, if_pos rfl] at hs
      rw [loop_inl hs]
      refine ih i (j + 1) a (by omega) (by omega) ha hd2 ?_
      rw [hf, hq, if_pos rfl, List.append_nil]; exact ht
    | false =>
      rw [hq, if_neg (by simp)] at hs
      rw [loop_inl hs]
      refine ih (i + 1) (j + 1) (a.set i l[j]) (by omega) (by omega) (by rw [List.length_set]; exact ha) ?_ ?_
      · rw [List.drop_set_of_lt (by omega)]; exact hd2
      · rw [hf, hq, if_neg (by simp), ← ht]
        rw [List.take_succ_eq_append_getElem (by rw [List.length_set]; omega)]
        simp
        apply List.ext_getElem?
        intro n
        rw [List.getElem?_take, List.getElem?_take]
        split
        · rw [List.getElem?_set_ne (by omega)]
        · rfl
end Go.Ab
