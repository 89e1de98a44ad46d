/- Loops over lists (plain). -/
import Derived.Test.YtgmejofagmfcfaaGreatDoorPOrd1
namespace Go.Ab
set_option linter.unusedVariables false
set_option linter.unusedSimpArgs false

theorem fold_loop {α σ ρ τ : Type} (l : List α) (st : Nat → σ → τ) (step : τ → Option (τ ⊕ ρ)) (f : σ → α → σ) (fin : σ → ρ) (Inv : Nat → σ → Prop)
    (hstep : ∀ k x s, l[k]? = some x → Inv k s → step (st k s) = some (.inl (st (k + 1) (f s x))) ∧ Inv (k + 1) (f s x)) (hend : ∀ s, Inv l.length s → step (st l.length s) = some (.inr (fin s))) (s : σ) (h0 : Inv 0 s) :
    loop step (st 0 s) = some (fin (l.foldl f s)) ∧ Inv l.length (l.foldl f s) := by
  have key : ∀ (m k : Nat) (s : σ), k + m = l.length → Inv k s → loop step (st k s) = some (fin ((l.drop k).foldl f s)) ∧ Inv l.length ((l.drop k).foldl f s) := by
    intro m
    induction m with
    | zero =>
      intro k s hk hi
      have : k = l.length := by omega
      subst this
      rw [List.drop_length, List.foldl_nil]
      exact ⟨loop_inr (hend s hi), hi⟩
    | succ m ih =>
      intro k s hk hi
      have hlt : k < l.length := by omega
      obtain ⟨h1, h2⟩ := hstep k _ s (List.getElem?_eq_getElem hlt) hi
      rw [loop_inl h1, List.drop_eq_getElem_cons hlt, List.foldl_cons]
      exact ih (k + 1) _ (by omega) h2
  have := key l.length 0 s (by omega) h0
  rwa [List.drop_zero] at this

theorem find_loop {α ρ : Type} (l : List α) (q : α → Bool) (g : Nat → ρ) (e : ρ) (step : Int → Option (Int ⊕ ρ)) (hl : l.length ≤ 4398046511104)
    (hstep : ∀ (k : Nat) x, l[k]? = some x → step k = if q x = true then some (.inr (g k)) else some (.inl ((k + 1 : Nat) : Int))) (hend : step l.length = some (.inr e)) :
    (∃ k, k < l.length ∧ loop step 0 = some (g k) ∧ l.any q = true) ∨ (loop step 0 = some e ∧ l.any q = false) := by
  have key : ∀ (m k : Nat), k + m = l.length → (∃ j, j < l.length ∧ loop step (k : Int) = some (g j) ∧ (l.drop k).any q = true) ∨ (loop step (k : Int) = some e ∧ (l.drop k).any q = false) := by
    intro m
    induction m with
    | zero =>
      intro k hk
      have : k = l.length := by omega
      subst this
      rw [List.drop_length]
      exact .inr ⟨loop_inr hend, rfl⟩
    | succ m ih =>
      intro k hk
      have hlt : k < l.length := by omega
      have hs := hstep k _ (List.getElem?_eq_getElem hlt)
      rw [List.drop_eq_getElem_cons hlt, List.any_cons]
      cases hq : q l[k] with
      | true =>
        rw [hq, if_pos rfl] at hs
        exact .inl ⟨k, hlt, loop_inr hs, rfl⟩
      | false =>
        rw [hq, if_neg (by simp)] at hs
        rw [loop_inl hs]
        simp only [Bool.false_or]
        exact ih (k + 1) (by omega)
  have := key l.length 0 (by omega)
  rwa [List.drop_zero] at this
theorem zip_any {α : Type} [DecidableEq α] : ∀ (a b : List α), a.length = b.length → ((a.zip b).any (fun p => !decide (p.1 = p.2)) = !decide (a = b))
  | [], [], _ => rfl
  | x :: r, y :: s, h => by
    rw [List.zip_cons_cons, List.any_cons, zip_any r s (by simpa using h)]
    by_cases h1 : x = y <;> by_cases h2 : r = s <;> simp [h1, h2]
  | [], y :: s, h => by simp at h
  | x :: r, [], h => by simp at h
theorem same_rows {α : Type} [DecidableEq α] (a b : List α) (hl : a.length = b.length) (hm : a.length ≤ 4398046511104) (step : Int → Option (Int ⊕ (Unit ⊕ Unit)))
    (hstep : ∀ (k : Nat) x y, a[k]? = some x → b[k]? = some y → step k = if x = y then some (.inl ((k + 1 : Nat) : Int)) else some (.inr (.inl ()))) (hend : step a.length = some (.inr (.inr ()))) :
    loop step 0 = some (if a = b then .inr () else .inl ()) := by
  have hz : (a.zip b).length = a.length := by rw [List.length_zip]; omega
  rcases find_loop (a.zip b) (fun p => !decide (p.1 = p.2)) (fun _ => (.inl () : Unit ⊕ Unit)) (.inr ()) step (by omega) (fun k x hk => by
    rw [List.getElem?_zip_eq_some] at hk
    rw [hstep k _ _ hk.1 hk.2]
    by_cases h : x.1 = x.2 <;> simp [h]) (by rw [hz]; exact hend) with ⟨k, _, h1, h2⟩ | ⟨h1, h2⟩
  · rw [zip_any a b hl] at h2
    rw [h1, if_neg (by simpa using h2)]
  · rw [zip_any a b hl] at h2
    rw [h1, if_pos (by simpa using h2)]
theorem find_first {α ρ : Type} (l : List α) (q : α → Bool) (g : Nat → ρ) (e : ρ) (step : Int → Option (Int ⊕ ρ))
    (hstep : ∀ (k : Nat) x, l[k]? = some x → step k = if q x = true then some (.inr (g k)) else some (.inl ((k + 1 : Nat) : Int))) (hend : step l.length = some (.inr e)) :
    (∃ k x, l[k]? = some x ∧ loop step 0 = some (g k) ∧ q x = true ∧ ∀ y ∈ l.take k, q y = false) ∨ (loop step 0 = some e ∧ ∀ y ∈ l, q y = false) := by
  have key : ∀ (m k : Nat), k + m = l.length → (∀ y ∈ l.take k, q y = false) → (∃ j x, l[j]? = some x ∧ loop step (k : Int) = some (g j) ∧ q x = true ∧ ∀ y ∈ l.take j, q y = false) ∨ (loop step (k : Int) = some e ∧ ∀ y ∈ l, q y = false) := by
    intro m
    induction m with
    | zero =>
      intro k hk hy
      have : k = l.length := by omega
      subst this
      rw [List.take_length] at hy
      exact .inr ⟨loop_inr hend, hy⟩
    | succ m ih =>
      intro k hk hy
      have hlt : k < l.length := by omega
      have hg := List.getElem?_eq_getElem hlt
      have hs := hstep k _ hg
      cases hq : q l[k] with
      | true =>
        rw [hq, if_pos rfl] at hs
        exact .inl ⟨k, _, hg, loop_inr hs, hq, hy⟩
      | false =>
        rw [hq, if_neg (by simp)] at hs
        rw [loop_inl hs]
        refine ih (k + 1) (by omega) (fun y h => ?_)
        rw [List.take_succ_eq_append_getElem hlt] at h
        rcases List.mem_append.1 h with h | h
        · exact hy y h
        · simp at h; subst h; exact hq
  exact key l.length 0 (by omega) (by simp)
theorem del_loop {α : Type} (l : List α) (q : α → Bool) (step : (Int × Int × List α) → Option ((Int × Int × List α) ⊕ (Int × List α)))
    (hstep : ∀ (i j : Nat) (a : List α) x, i < j → a.length = l.length → a[j]? = some x → step ((i : Int), (j : Int), a) = if q x = true then some (.inl ((i : Int), ((j + 1 : Nat) : Int), a)) else some (.inl (((i + 1 : Nat) : Int), ((j + 1 : Nat) : Int), a.set i x)))
    (hend : ∀ (i : Int) (a : List α), a.length = l.length → step (i, (l.length : Int), a) = some (.inr (i, a))) :
    ∀ (m i j : Nat) (a : List α), j + m = l.length → i < j → a.length = l.length → a.drop j = l.drop j → a.take i = (l.take j).filter (fun x => !q x) →
      ∃ (i2 : Nat) (a2 : List α), loop step ((i : Int), (j : Int), a) = some ((i2 : Int), a2) ∧ a2.length = l.length ∧ i2 ≤ l.length ∧ a2.take i2 = l.filter (fun x => !q x) := by
  intro m
  induction m with
  | zero =>
    intro i j a hj hij ha hd ht
    have : j = l.length := by omega
    subst this
    rw [List.take_length] at ht
    exact ⟨i, a, loop_inr (hend _ a ha), ha, by omega, ht⟩
  | succ m ih =>
    intro i j a hj hij ha hd ht
    have hlt : j < l.length := by omega
    have hx : a[j]? = some l[j] := by
      have h1 := congrArg (fun x => x[0]?) hd
      simp only [List.getElem?_drop, Nat.add_zero] at h1
      rw [h1, List.getElem?_eq_getElem hlt]
    have hs := hstep i j a _ hij ha hx
    have hd2 : a.drop (j + 1) = l.drop (j + 1) := by
      have := congrArg (List.drop 1) hd
      rwa [List.drop_drop, List.drop_drop] at this
    have hf : (l.take (j + 1)).filter (fun x => !q x) = (l.take j).filter (fun x => !q x) ++ (if q l[j] = true then [] else [l[j]]) := by
      rw [List.take_succ_eq_append_getElem hlt, List.filter_append]
      by_cases hql : q l[j] = true <;> simp [List.filter_cons, hql]
    cases hq : q l[j] with
    | true =>
      rw [hq, if_pos rfl] at hs
      rw [loop_inl hs]
      refine ih i (j + 1) a (by omega) (by omega) ha hd2 ?_
      rw [hf, hq, if_pos rfl, List.append_nil]; exact ht
    | false =>
      rw [hq, if_neg (by simp)] at hs
      rw [loop_inl hs]
      refine ih (i + 1) (j + 1) (a.set i l[j]) (by omega) (by omega) (by rw [List.length_set]; exact ha) ?_ ?_
      · rw [List.drop_set_of_lt (by omega)]; exact hd2
      · rw [hf, hq, if_neg (by simp), ← ht]
        rw [List.take_succ_eq_append_getElem (by rw [List.length_set]; omega)]
        simp
        apply List.ext_getElem?
        intro n
        rw [List.getElem?_take, List.getElem?_take]
        split
        · rw [List.getElem?_set_ne (by omega)]
        · rfl
theorem del_end {α : Type} (a x y : List α) (i : Nat) (h : i ≤ a.length) : List.drop 0 (List.take i (a.take i ++ x ++ y)) = a.take i := by
  rw [List.drop_zero, List.append_assoc, List.take_append_of_le_length (by rw [List.length_take]; omega), List.take_take, Nat.min_self]
theorem filt_loop {α : Type} (l : List α) (q : α → Bool) (b : Nat) (step : (Int × List α) → Option ((Int × List α) ⊕ List α))
    (hstep : ∀ (k : Nat) (a : List α) x, l[k]? = some x → a.length ≤ k → step ((k : Int), a) = some (.inl (((k + 1 : Nat) : Int), if q x = true then a ++ [x] else a))) (hend : ∀ a : List α, step ((l.length : Int), a) = some (.inr a)) :
    loop step ((0 : Int), ([] : List α)) = some (l.filter q) := by
  have h := fold_loop (ρ := List α) l (fun k (a : List α) => ((k : Int), a)) step (fun a x => if q x = true then a ++ [x] else a) (fun a => a) (fun k a => a.length ≤ k)
    (fun k x a hk hi => ⟨hstep k a x hk hi, by split
                                               · simp only [List.length_append, List.length_cons, List.length_nil]; omega
                                               · omega⟩) (fun a _ => hend a) [] (by simp)
  have e : ∀ (l : List α) (a : List α), l.foldl (fun a x => if q x = true then a ++ [x] else a) a = a ++ l.filter q := by
    intro l
    induction l with
    | nil => intro a; simp
    | cons y r ih =>
      intro a
      rw [List.foldl_cons, ih]
      by_cases hq : q y = true <;> simp [hq, List.filter_cons]
  have h1 := h.1
  rw [e, List.nil_append] at h1
  exact h1
theorem invl_loop {α σ ρ τ : Type} (l : List α) (st : Nat → σ → τ) (step : τ → Option (τ ⊕ ρ)) (fin : σ → ρ) (P : Nat → σ → Prop)
    (hstep : ∀ k x s, l[k]? = some x → P k s → ∃ s', step (st k s) = some (.inl (st (k + 1) s')) ∧ P (k + 1) s')
    (hend : ∀ s, P l.length s → step (st l.length s) = some (.inr (fin s))) (s : σ) (h0 : P 0 s) :
    ∃ s', loop step (st 0 s) = some (fin s') ∧ P l.length s' := by
  have key : ∀ (m k : Nat) (s : σ), k + m = l.length → P k s → ∃ s', loop step (st k s) = some (fin s') ∧ P l.length s' := by
    intro m
    induction m with
    | zero =>
      intro k s hk hi
      have : k = l.length := by omega
      subst this
      exact ⟨s, loop_inr (hend s hi), hi⟩
    | succ m ih =>
      intro k s hk hi
      have hlt : k < l.length := by omega
      obtain ⟨s', h1, h2⟩ := hstep k _ s (List.getElem?_eq_getElem hlt) hi
      rw [loop_inl h1]
      exact ih (k + 1) s' (by omega) h2
  exact key l.length 0 s (by omega) h0
theorem all_loop {ρ : Type} (n : Nat) (e : ρ) (step : Int → Option (Int ⊕ ρ)) (hstep : ∀ k : Nat, k < n → step k = some (.inl ((k + 1 : Nat) : Int))) (hend : step n = some (.inr e)) : loop step 0 = some e := by
  have key : ∀ (m k : Nat), k + m = n → loop step (k : Int) = some e := by
    intro m
    induction m with
    | zero => intro k hk; have : k = n := by omega
              subst this; exact loop_inr hend
    | succ m ih => intro k hk; rw [loop_inl (hstep k (by omega))]; exact ih (k + 1) (by omega)
  exact key n 0 (by omega)
end Go.Ab
