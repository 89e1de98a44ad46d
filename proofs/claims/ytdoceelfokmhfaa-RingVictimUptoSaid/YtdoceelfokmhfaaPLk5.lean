/- Searches, rows that are the same; waits, asks: program and document alike (plain). -/
import Derived.Test.YtdoceelfokmhfaaPLk4
namespace Go.Ab
set_option linter.unusedVariables false
set_option linter.unusedSimpArgs false

theorem find_loop {α ρ : Type} (l : List α) (q : α → Bool) (g : Nat → ρ) (e : ρ) (step : Int → Option (Int ⊕ ρ)) (hl : l.length ≤ 1099511627776)
    (hstep : ∀ (k : Nat) x, l[k]? = some x → step k = if q x = true then some (.inr (g k)) else some (.inl ((k + 1 : Nat) : Int))) (hend : step l.length = some (.inr e)) :
    (∃ k, k < l.length ∧ loop step 0 = some (g k) ∧ l.any q = true) ∨ (loop step 0 = some e ∧ l.any q = false) := by
  have key : ∀ (m k : Nat), k + m = l.length → (∃ j, j < l.length ∧ loop step (k : Int) = some (g j) ∧ (l.drop k).any q = true) ∨ (loop step (k : Int) = some e ∧ (l.drop k).any q = false) := by
    intro m
    induction m with
    | zero =>
      intro k hk
      have : k = l.length := by omega
      subst this
      rw [List.drop_length]
      exact .inr ⟨loop_inr hend, rfl⟩
    | succ m ih =>
      intro k hk
      have hlt : k < l.length := by omega
      have hs := hstep k _ (List.getElem?_eq_getElem hlt)
      rw [List.drop_eq_getElem_cons hlt, List.any_cons]
      cases hq : q l[k] with
      | true =>
        rw [hq, if_pos rfl] at hs
        exact .inl ⟨k, hlt, loop_inr hs, rfl⟩
      | false =>
        rw [hq, if_neg (by simp)] at hs
        rw [loop_inl hs]
        simp only [Bool.false_or]
        exact ih (k + 1) (by omega)
  have := key l.length 0 (by omega)
  rwa [List.drop_zero] at this
theorem zip_any {α : Type} [DecidableEq α] : ∀ (a b : List α), a.length = b.length → ((a.zip b).any (fun p => !decide (p.1 = p.2)) = !decide (a = b))
  | [], [], _ => rfl
  | x :: r, y :: s, h => by
    rw [List.zip_cons_cons, List.any_cons, zip_any r s (by simpa using h)]
    by_cases h1 : x = y <;> by_cases h2 : r = s <;> simp [h1, h2]
  | [], y :: s, h => by simp at h
  | x :: r, [], h => by simp at h
theorem same_rows {α : Type} [DecidableEq α] (a b : List α) (hl : a.length = b.length) (hm : a.length ≤ 1099511627776) (step : Int → Option (Int ⊕ (Unit ⊕ Unit)))
    (hstep : ∀ (k : Nat) x y, a[k]? = some x → b[k]? = some y → step k = if x = y then some (.inl ((k + 1 : Nat) : Int)) else some (.inr (.inl ()))) (hend : step a.length = some (.inr (.inr ()))) :
    loop step 0 = some (if a = b then .inr () else .inl ()) := by
  have hz : (a.zip b).length = a.length := by rw [List.length_zip]; omega
  rcases find_loop (a.zip b) (fun p => !decide (p.1 = p.2)) (fun _ => (.inl () : Unit ⊕ Unit)) (.inr ()) step (by omega) (fun k x hk => by
    rw [List.getElem?_zip_eq_some] at hk
    rw [hstep k _ _ hk.1 hk.2]
    by_cases h : x.1 = x.2 <;> simp [h]) (by rw [hz]; exact hend) with ⟨k, _, h1, h2⟩ | ⟨h1, h2⟩
  · rw [zip_any a b hl] at h2
    rw [h1, if_neg (by simpa using h2)]
  · rw [zip_any a b hl] at h2
    rw [h1, if_pos (by simpa using h2)]
theorem ints_eq (a b : List Int) (ha : a.length ≤ 1099511627776) : ref10_Ints a b = some (decide (a = b)) := by
  unfold ref10_Ints
  by_cases hl : a.length = b.length
  · rw [if_neg (by simp [hl]), same_rows a b hl ha _ (fun k x y h1 h2 => by
      have hlt := (List.getElem?_eq_some_iff.1 h1).1
      have hlt2 := (List.getElem?_eq_some_iff.1 h2).1
      unfold ref10_Ints_l2
      rw [if_pos (by simpa using hlt), ix_in hlt, ix_in hlt2, (List.getElem?_eq_some_iff.1 h1).2, (List.getElem?_eq_some_iff.1 h2).2, IntWalk.i64_in _ ⟨by omega, by omega⟩]
      by_cases h : x = y <;> simp [h]) (by unfold ref10_Ints_l2; rw [if_neg (by simp)])]
    by_cases h : a = b <;> simp [h]
  · rw [if_pos (by simp; omega)]
    have : a ≠ b := fun h => hl (by rw [h])
    simp [this]
theorem holds_eq (a b : List Hold) (ha : a.length ≤ 1099511627776) : slices_Equal_Hold a b = some (decide (a = b)) := by
  unfold slices_Equal_Hold
  by_cases hl : a.length = b.length
  · rw [if_neg (by simp [hl]), same_rows a b hl ha _ (fun k x y h1 h2 => by
      have hlt := (List.getElem?_eq_some_iff.1 h1).1
      have hlt2 := (List.getElem?_eq_some_iff.1 h2).1
      unfold slices_Equal_Hold_l2
      rw [if_pos (by simpa using hlt), ix_in hlt, ix_in hlt2, (List.getElem?_eq_some_iff.1 h1).2, (List.getElem?_eq_some_iff.1 h2).2, IntWalk.i64_in _ ⟨by omega, by omega⟩]
      by_cases h : x = y <;> simp [h]) (by unfold slices_Equal_Hold_l2; rw [if_neg (by simp)])]
    by_cases h : a = b <;> simp [h]
  · rw [if_pos (by simp; omega)]
    have : a ≠ b := fun h => hl (by rw [h])
    simp [this]
theorem claims_eq (a b : List Claim) (ha : a.length ≤ 1099511627776) : slices_Equal_Claim a b = some (decide (a = b)) := by
  unfold slices_Equal_Claim
  by_cases hl : a.length = b.length
  · rw [if_neg (by simp [hl]), same_rows a b hl ha _ (fun k x y h1 h2 => by
      have hlt := (List.getElem?_eq_some_iff.1 h1).1
      have hlt2 := (List.getElem?_eq_some_iff.1 h2).1
      unfold slices_Equal_Claim_l2
      rw [if_pos (by simpa using hlt), ix_in hlt, ix_in hlt2, (List.getElem?_eq_some_iff.1 h1).2, (List.getElem?_eq_some_iff.1 h2).2, IntWalk.i64_in _ ⟨by omega, by omega⟩]
      by_cases h : x = y <;> simp [h]) (by unfold slices_Equal_Claim_l2; rw [if_neg (by simp)])]
    by_cases h : a = b <;> simp [h]
  · rw [if_pos (by simp; omega)]
    have : a ≠ b := fun h => hl (by rw [h])
    simp [this]
theorem locks_iff (a b : Locks) : a = b ↔ a.Held = b.Held ∧ a.Queue = b.Queue := by cases a; cases b; simp
theorem lsame_eq {a b : Locks} (ha : LOk a) : lock_Same a b = some (decide (a = b)) := by
  have h1 := ha.heldL
  have h2 := ha.queL
  unfold lock_Same
  rw [holds_eq _ _ (by omega)]
  simp only [Option.bind_some]
  by_cases e1 : a.Held = b.Held
  · rw [if_pos (by simpa using e1), claims_eq _ _ (by omega)]
    simp [locks_iff, e1]
  · rw [if_neg (by simpa using e1)]
    simp [locks_iff, e1]
theorem rlsame_eq {a b : Locks} (ha : LOk a) : ref10_Same a b = some (decide (a = b)) := by
  have h1 := ha.heldL
  have h2 := ha.queL
  unfold ref10_Same
  by_cases hl : a.Held.length = b.Held.length ∧ a.Queue.length = b.Queue.length
  · rw [if_neg (by simp [hl.1, hl.2]), same_rows a.Held b.Held hl.1 (by omega) _ (fun k x y h1 h2 => by
      have hlt := (List.getElem?_eq_some_iff.1 h1).1
      have hlt2 := (List.getElem?_eq_some_iff.1 h2).1
      unfold ref10_Same_l2
      rw [if_pos (by simpa using hlt), ix_in hlt, ix_in hlt2, (List.getElem?_eq_some_iff.1 h1).2, (List.getElem?_eq_some_iff.1 h2).2, IntWalk.i64_in _ ⟨by omega, by omega⟩]
      by_cases h : x = y <;> simp [h]) (by unfold ref10_Same_l2; rw [if_neg (by simp)]),
      same_rows a.Queue b.Queue hl.2 (by omega) _ (fun k x y h1 h2 => by
      have hlt := (List.getElem?_eq_some_iff.1 h1).1
      have hlt2 := (List.getElem?_eq_some_iff.1 h2).1
      unfold ref10_Same_l4
      rw [if_pos (by simpa using hlt), ix_in hlt, ix_in hlt2, (List.getElem?_eq_some_iff.1 h1).2, (List.getElem?_eq_some_iff.1 h2).2, IntWalk.i64_in _ ⟨by omega, by omega⟩]
      by_cases h : x = y <;> simp [h]) (by unfold ref10_Same_l4; rw [if_neg (by simp)])]
    by_cases e1 : a.Held = b.Held <;> by_cases e2 : a.Queue = b.Queue <;> simp [locks_iff, e1, e2]
  · rw [if_pos (by simp; omega)]
    have : a ≠ b := fun h => hl (by rw [h]; exact ⟨rfl, rfl⟩)
    simp [this]
def waitsM (l : Locks) (txn : Int) : Bool := l.Queue.any (fun c => decide (c.Txn = txn))
theorem waits_eq {l : Locks} (hl : LOk l) (txn : Int) : lock_Waits l txn = some (waitsM l txn) := by
  have h2 := hl.queL
  unfold lock_Waits slices_ContainsFunc_Claim__lock_Waits_1 slices_IndexFunc_Claim__lock_Waits_1 waitsM
  rcases find_loop l.Queue (fun c => decide (c.Txn = txn)) (fun k => (.inl (k : Int) : Int ⊕ Unit)) (.inr ()) (fun (s169 : Int) => slices_IndexFunc_Claim__lock_Waits_1_l4 l.Queue txn s169) (by omega) (fun k x hk => by
    have hlt := (List.getElem?_eq_some_iff.1 hk).1
    unfold slices_IndexFunc_Claim__lock_Waits_1_l4 lock_Waits_1
    rw [if_pos (by simpa using hlt), ix_in hlt, (List.getElem?_eq_some_iff.1 hk).2, IntWalk.i64_in _ ⟨by omega, by omega⟩]
    by_cases h : x.Txn = txn <;> simp [h]) (by unfold slices_IndexFunc_Claim__lock_Waits_1_l4; rw [if_neg (by simp)]) with ⟨k, _, h1, h2⟩ | ⟨h1, h2⟩
  · rw [h1, h2]; simp
  · rw [h1, h2]; simp
theorem rwaits_eq {l : Locks} (hl : LOk l) (txn : Int) : ref10_Waits l txn = some (waitsM l txn) := by
  have h2 := hl.queL
  unfold ref10_Waits waitsM
  rcases find_loop l.Queue (fun c => decide (c.Txn = txn)) (fun _ => (.inl () : Unit ⊕ Unit)) (.inr ()) (fun (s57 : Int) => ref10_Waits_l2 l txn s57) (by omega) (fun k x hk => by
    have hlt := (List.getElem?_eq_some_iff.1 hk).1
    unfold ref10_Waits_l2
    rw [if_pos (by simpa using hlt), ix_in hlt, (List.getElem?_eq_some_iff.1 hk).2, IntWalk.i64_in _ ⟨by omega, by omega⟩]
    by_cases h : x.Txn = txn <;> simp [h]) (by unfold ref10_Waits_l2; rw [if_neg (by simp)]) with ⟨k, _, h1, h2⟩ | ⟨h1, h2⟩
  · rw [h1, h2]; rfl
  · rw [h1, h2]; rfl
end Go.Ab
