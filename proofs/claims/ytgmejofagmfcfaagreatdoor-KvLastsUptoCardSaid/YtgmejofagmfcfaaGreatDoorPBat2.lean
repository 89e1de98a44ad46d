/- Batches: may they be, are they decided, what they do: program and document are the models (plain). -/
import Derived.Test.YtgmejofagmfcfaaGreatDoorPBat1
import Derived.Test.YtgmejofagmfcfaaGreatDoorPTab3
namespace Go.Ab
set_option linter.unusedVariables false
set_option linter.unusedSimpArgs false

theorem bad_loop (s n : Nat) (ok : Nat → Bool) (step : Int → Option (Int ⊕ (Unit ⊕ Unit))) (hstep : ∀ k : Nat, s ≤ k → k < n → step k = if ok k = true then some (.inl ((k + 1 : Nat) : Int)) else some (.inr (.inl ())))
    (hend : ∀ k : Nat, n ≤ k → step k = some (.inr (.inr ()))) :
    (loop step (s : Int) = some (.inr ()) ∧ ∀ k, s ≤ k → k < n → ok k = true) ∨ (loop step (s : Int) = some (.inl ()) ∧ ∃ k, s ≤ k ∧ k < n ∧ ok k = false) := by
  have key : ∀ (m k : Nat), n ≤ k + m → s ≤ k → (∀ j, s ≤ j → j < k → j < n → ok j = true) →
      (loop step (k : Int) = some (.inr ()) ∧ ∀ k, s ≤ k → k < n → ok k = true) ∨ (loop step (k : Int) = some (.inl ()) ∧ ∃ k, s ≤ k ∧ k < n ∧ ok k = false) := by
    intro m
    induction m with
    | zero =>
      intro k hk hs hj
      exact .inl ⟨loop_inr (hend k (by omega)), fun j h1 h2 => hj j h1 (by omega) h2⟩
    | succ m ih =>
      intro k hk hs hj
      by_cases hn : k < n
      · have h := hstep k hs hn
        cases ho : ok k with
        | true =>
          rw [ho, if_pos rfl] at h
          rw [loop_inl h]
          refine ih (k + 1) (by omega) (by omega) (fun j h1 h2 h3 => ?_)
          by_cases e : j = k
          · rw [e]; exact ho
          · exact hj j h1 (by omega) h3
        | false =>
          rw [ho, if_neg (by simp)] at h
          exact .inr ⟨loop_inr h, k, hs, hn, ho⟩
      · exact .inl ⟨loop_inr (hend k (by omega)), fun j h1 h2 => hj j h1 (by omega) h2⟩
  exact key n s (by omega) (Nat.le_refl _) (fun j h1 h2 _ => by omega)
theorem riseW_iff (l : List Write) : riseW l = true ↔ ∀ k (h : k + 1 < l.length), ltS l[k].Key l[k + 1].Key = true := by
  induction l with
  | nil => simp [riseW]
  | cons a r ih =>
    cases r with
    | nil => simp [riseW]
    | cons b r =>
      unfold riseW
      rw [Bool.and_eq_true, ih]
      constructor
      · rintro ⟨h1, h2⟩ k hk
        cases k with
        | zero => exact h1
        | succ k => exact h2 k (by simpa using hk)
      · intro h
        exact ⟨h 0 (by simp), fun k hk => h (k + 1) (by simpa using hk)⟩
theorem rightM_iff (l : List Pair) : rightM l = true ↔ ∀ k (h : k + 1 < l.length), ltS l[k].Key l[k + 1].Key = true := by
  induction l with
  | nil => simp [rightM]
  | cons a r ih =>
    cases r with
    | nil => simp [rightM]
    | cons b r =>
      unfold rightM
      rw [Bool.and_eq_true, ih]
      constructor
      · rintro ⟨h1, h2⟩ k hk
        cases k with
        | zero => exact h1
        | succ k => exact h2 k (by simpa using hk)
      · intro h
        exact ⟨h 0 (by simp), fun k hk => h (k + 1) (by simpa using hk)⟩
theorem wrap_pred {k : Nat} (h1 : 1 ≤ k) (h2 : k ≤ 1099511627776) : IntKind.i64.wrap ((k : Int) - 1) = ((k - 1 : Nat) : Int) := by
  rw [IntWalk.i64_in _ ⟨by omega, by omega⟩]; omega
theorem right_eq {l : List Pair} (hl : l.length ≤ 1099511627776) : table_Right l = some (rightM l) := by
  unfold table_Right
  rcases bad_loop 1 l.length (fun k => if h : k < l.length then ltS l[k - 1].Key l[k].Key else true) (fun (s117 : Int) => table_Right_l2 l s117) (fun k h1 h2 => by
    unfold table_Right_l2
    rw [if_pos (by simpa using h2), wrap_pred h1 (by omega), ix_in (show k - 1 < l.length by omega), ix_in h2, IntWalk.i64_in _ ⟨by omega, by omega⟩]
    simp only [Option.bind_some, dif_pos h2]
    cases h : ltS l[k - 1].Key l[k].Key <;> simp) (fun k hk => by unfold table_Right_l2; rw [if_neg (by simp; omega)]) with ⟨h1, h2⟩ | ⟨h1, k, h2, h3, h4⟩
  · rw [show ((1 : Int)) = ((1 : Nat) : Int) from rfl, h1]
    have : rightM l = true := (rightM_iff l).2 (fun k hk => by
      have := h2 (k + 1) (by omega) hk
      simpa [hk] using this)
    rw [this]; rfl
  · rw [show ((1 : Int)) = ((1 : Nat) : Int) from rfl, h1]
    have : rightM l = false := by
      cases hr : rightM l with
      | false => rfl
      | true =>
        have := (rightM_iff l).1 hr (k - 1) (by omega)
        simp only [dif_pos h3] at h4
        have e : k - 1 + 1 = k := by omega
        simp only [e] at this
        rw [this] at h4; cases h4
    rw [this]; rfl
/-- A batch of texts that can be gone through. -/
def BOk (b : Batch) : Prop := ∀ w ∈ b.Writes, w.Key.length ≤ 1099511627776
theorem may1_eq (w : Write) : batch_May_1 w = some (!goodW w) := by
  unfold batch_May_1 goodW
  by_cases h1 : w.Key.length < 1
  · rw [if_pos (by simp; omega)]
    have : ¬ 1 ≤ w.Key.length := by omega
    simp [this]
  rw [if_neg (by simp; omega)]
  by_cases h2 : w.Key.length ≤ 32
  · rw [if_neg (by simp; omega)]
    by_cases h3 : w.Val.length ≤ 64
    · rw [if_neg (by simp; omega)]
      have h1' : 1 ≤ w.Key.length := by omega
      cases hd : w.Del <;> simp [h1', h2, h3]
    · rw [if_pos (by simp; omega)]; simp [h3]
  · rw [if_pos (by simp; omega)]; simp [h2]
theorem bcontains_eq {s : List Write} (hl : s.length ≤ 2000000000000) : slices_ContainsFunc_Write__batch_May_1 s = some (!s.all goodW) := by
  unfold slices_ContainsFunc_Write__batch_May_1 slices_IndexFunc_Write__batch_May_1
  rcases find_first s (fun w => !goodW w) (fun k => (.inl (k : Int) : Int ⊕ Unit)) (.inr ()) (fun (s169 : Int) => slices_IndexFunc_Write__batch_May_1_l4 s s169) (fun k x hk => by
    have hlt := (List.getElem?_eq_some_iff.1 hk).1
    unfold slices_IndexFunc_Write__batch_May_1_l4
    rw [if_pos (by simpa using hlt), ix_in hlt, (List.getElem?_eq_some_iff.1 hk).2, IntWalk.i64_in _ ⟨by omega, by omega⟩]
    simp only [Option.bind_some, may1_eq]
    cases h : goodW x <;> simp) (by unfold slices_IndexFunc_Write__batch_May_1_l4; rw [if_neg (by simp)]) with ⟨k, x, hk, h1, h2, h3⟩ | ⟨h1, h3⟩
  · rw [h1]
    have : s.all goodW = false := List.all_eq_false.2 ⟨x, List.mem_of_getElem? hk, by simpa using h2⟩
    rw [this]; simp
  · rw [h1]
    have : s.all goodW = true := List.all_eq_true.2 (fun x hx => by simpa using h3 x hx)
    rw [this]; simp
theorem headM_iff (b : Batch) : ((decide (b.Kind = 1) || decide (b.Kind = 2)) && (decide (1 ≤ b.Token.length) && decide (b.Token.length ≤ 16)) && decide (b.Writes.length ≤ 24) && !(decide (b.Kind = 2) && decide (b.Writes ≠ []))) = true ↔ (b.Kind = 1 ∨ b.Kind = 2) ∧ 1 ≤ b.Token.length ∧ b.Token.length ≤ 16 ∧ b.Writes.length ≤ 24 ∧ (b.Kind = 2 → b.Writes.length = 0) := by
  have e : b.Writes = [] ↔ b.Writes.length = 0 := List.length_eq_zero_iff.symm
  simp only [Bool.and_eq_true, Bool.or_eq_true, decide_eq_true_eq, Bool.not_eq_true', Bool.and_eq_false_iff, decide_eq_false_iff_not, ne_eq, Classical.not_not, e]
  constructor
  · rintro ⟨⟨⟨h1, h2, h3⟩, h4⟩, h5⟩
    exact ⟨h1, h2, h3, h4, fun hk => by rcases h5 with h5 | h5; exact absurd hk h5; exact h5⟩
  · rintro ⟨h1, h2, h3, h4, h5⟩
    refine ⟨⟨⟨h1, h2, h3⟩, h4⟩, ?_⟩
    by_cases hk : b.Kind = 2
    · exact .inr (h5 hk)
    · exact .inl hk
theorem mayB_iff (b : Batch) : mayB b = true ↔ ((b.Kind = 1 ∨ b.Kind = 2) ∧ 1 ≤ b.Token.length ∧ b.Token.length ≤ 16 ∧ b.Writes.length ≤ 24 ∧ (b.Kind = 2 → b.Writes.length = 0)) ∧ riseW b.Writes = true ∧ b.Writes.all goodW = true := by
  have e := headM_iff b
  unfold mayB
  constructor
  · intro h
    rw [Bool.and_eq_true] at h
    obtain ⟨ha, hb⟩ := h
    rw [Bool.and_eq_true] at hb
    exact ⟨e.1 ha, hb⟩
  · rintro ⟨ha, hb1, hb2⟩
    rw [Bool.and_eq_true]
    exact ⟨e.2 ha, by rw [hb1, hb2]; rfl⟩
theorem bmay_eq {b : Batch} : batch_May b = some (mayB b) := by
  unfold batch_May
  by_cases hh : (b.Kind = 1 ∨ b.Kind = 2) ∧ 1 ≤ b.Token.length ∧ b.Token.length ≤ 16 ∧ b.Writes.length ≤ 24 ∧ (b.Kind = 2 → b.Writes.length = 0)
  · obtain ⟨h1, h2, h3, h4, h5⟩ := hh
    rw [if_neg (by
      by_cases k2 : b.Kind = 2
      · have hz : b.Writes = [] := List.length_eq_zero_iff.1 (h5 k2)
        simp [k2, hz]; omega
      · have k1 : b.Kind = 1 := by rcases h1 with h | h; exact h; exact absurd h k2
        simp [k1]; omega)]
    rcases bad_loop 1 b.Writes.length (fun k => if h : k < b.Writes.length then ltS b.Writes[k - 1].Key b.Writes[k].Key else true) (fun (s201 : Int) => batch_May_l2 b s201) (fun k h1 h2 => by
      unfold batch_May_l2
      rw [if_pos (by simpa using h2), wrap_pred h1 (by omega), ix_in (show k - 1 < b.Writes.length by omega), ix_in h2, IntWalk.i64_in _ ⟨by omega, by omega⟩]
      simp only [Option.bind_some, dif_pos h2]
      cases h : ltS b.Writes[k - 1].Key b.Writes[k].Key <;> simp) (fun k hk => by unfold batch_May_l2; rw [if_neg (by simp; omega)]) with ⟨e1, e2⟩ | ⟨e1, k, e2, e3, e4⟩
    · rw [show ((1 : Int)) = ((1 : Nat) : Int) from rfl, e1]
      have hr : riseW b.Writes = true := (riseW_iff _).2 (fun k hk => by
        have := e2 (k + 1) (by omega) hk
        simpa [hk] using this)
      simp only [Option.bind_some]
      rw [bcontains_eq (by omega)]
      simp only [Option.bind_some, Bool.not_not]
      congr 1
      rw [Bool.eq_iff_iff, mayB_iff]
      exact ⟨fun h => ⟨⟨h1, h2, h3, h4, h5⟩, hr, h⟩, fun h => h.2.2⟩
    · rw [show ((1 : Int)) = ((1 : Nat) : Int) from rfl, e1]
      have hf : mayB b = false := by
        cases hm : mayB b with
        | false => rfl
        | true =>
          have := (riseW_iff _).1 ((mayB_iff b).1 hm).2.1 (k - 1) (by omega)
          simp only [dif_pos e3] at e4
          have e : k - 1 + 1 = k := by omega
          simp only [e] at this
          rw [this] at e4; cases e4
      rw [hf]; rfl
  · have hf : mayB b = false := by
      cases hm : mayB b with
      | false => rfl
      | true => exact absurd ((mayB_iff b).1 hm).1 hh
    rw [hf, if_pos]
    by_cases k1 : b.Kind = 1
    · simp [k1] at hh ⊢; omega
    · by_cases k2 : b.Kind = 2
      · by_cases hz : b.Writes = []
        · simp [k2, hz] at hh ⊢; omega
        · have := List.length_pos_iff.2 hz
          simp [k2, hz]; omega
      · simp [k1, k2]
theorem good_odd (w : Write) : ((decide ((w.Key.length : Int) < 1)) || ((decide ((w.Key.length : Int) > 32)) || ((decide ((w.Val.length : Int) > 64)) || (w.Del && (!decide (w.Val = [])))))) = !goodW w := by
  have d1 : decide ((w.Key.length : Int) < 1) = !decide (1 ≤ w.Key.length) := by rw [Bool.eq_iff_iff]; simp only [decide_eq_true_eq, Bool.not_eq_true', decide_eq_false_iff_not]; omega
  have d2 : decide ((w.Key.length : Int) > 32) = !decide (w.Key.length ≤ 32) := by rw [Bool.eq_iff_iff]; simp only [decide_eq_true_eq, Bool.not_eq_true', decide_eq_false_iff_not]; omega
  have d3 : decide ((w.Val.length : Int) > 64) = !decide (w.Val.length ≤ 64) := by rw [Bool.eq_iff_iff]; simp only [decide_eq_true_eq, Bool.not_eq_true', decide_eq_false_iff_not]; omega
  have d4 : decide (w.Val ≠ []) = !decide (w.Val = []) := by by_cases h : w.Val = [] <;> simp [h]
  unfold goodW
  rw [d1, d2, d3, d4]
  generalize decide (1 ≤ w.Key.length) = a
  generalize decide (w.Key.length ≤ 32) = b
  generalize decide (w.Val.length ≤ 64) = c
  generalize decide (w.Val = []) = e
  cases a <;> cases b <;> cases c <;> cases e <;> cases w.Del <;> rfl
theorem rbmay_eq {b : Batch} (hb : BOk b) : ref07_May b = some (mayB b) := by
  unfold ref07_May
  by_cases hh : (b.Kind = 1 ∨ b.Kind = 2) ∧ 1 ≤ b.Token.length ∧ b.Token.length ≤ 16 ∧ b.Writes.length ≤ 24 ∧ (b.Kind = 2 → b.Writes.length = 0)
  · obtain ⟨h1, h2, h3, h4, h5⟩ := hh
    rw [if_neg (by simp; omega), if_neg (by
      by_cases k2 : b.Kind = 2
      · have hz : b.Writes = [] := List.length_eq_zero_iff.1 (h5 k2)
        simp [hz]
      · simp [k2])]
    rcases bad_loop 0 b.Writes.length (fun k => if h : k < b.Writes.length then goodW b.Writes[k] && (decide (k = 0) || ltS b.Writes[k - 1].Key b.Writes[k].Key) else true) (fun (s674 : Int) => ref07_May_l2 b s674) (fun k h1 h2 => by
      have hlt := rless_eq (b := b.Writes[k].Key) (hb b.Writes[k - 1] (List.getElem_mem (by omega)))
      have hg := good_odd b.Writes[k]
      unfold ref07_May_l2
      rw [if_pos (by simpa using h2), ix_in h2, IntWalk.i64_in ((k : Int) + 1) ⟨by omega, by omega⟩]
      simp only [Option.bind_some, dif_pos h2, hg]
      cases hgk : goodW b.Writes[k] with
      | false => simp
      | true =>
        by_cases k0 : k = 0
        · subst k0; simp
        · rw [if_neg (by simp), if_pos (by simp; omega), wrap_pred (by omega) (by omega), ix_in (show k - 1 < b.Writes.length by omega)]
          simp only [Option.bind_some, hlt]
          cases h : ltS b.Writes[k - 1].Key b.Writes[k].Key <;> simp [k0]) (fun k hk => by unfold ref07_May_l2; rw [if_neg (by simp; omega)]) with ⟨e1, e2⟩ | ⟨e1, k, e2, e3, e4⟩
    · rw [show ((0 : Int)) = ((0 : Nat) : Int) from rfl, e1]
      have hm : mayB b = true := (mayB_iff b).2 ⟨⟨h1, h2, h3, h4, h5⟩, (riseW_iff _).2 (fun k hk => by
        have := e2 (k + 1) (by omega) hk
        simp [hk] at this
        exact this.2), List.all_eq_true.2 (fun x hx => by
        obtain ⟨k, hk, rfl⟩ := List.getElem_of_mem hx
        have := e2 k (by omega) hk
        simp [hk] at this
        exact this.1)⟩
      rw [hm]; rfl
    · rw [show ((0 : Int)) = ((0 : Nat) : Int) from rfl, e1]
      have hf : mayB b = false := by
        cases hm : mayB b with
        | false => rfl
        | true =>
          obtain ⟨_, hr, hg⟩ := (mayB_iff b).1 hm
          have hgk := List.all_eq_true.1 hg _ (List.getElem_mem e3)
          simp only [dif_pos e3, hgk, Bool.true_and] at e4
          by_cases k0 : k = 0
          · simp [k0] at e4
          · have := (riseW_iff _).1 hr (k - 1) (by omega)
            have e : k - 1 + 1 = k := by omega
            simp only [e] at this
            rw [this] at e4; simp at e4
      rw [hf]; rfl
  · have hf : mayB b = false := by
      cases hm : mayB b with
      | false => rfl
      | true => exact absurd ((mayB_iff b).1 hm).1 hh
    rw [hf]
    by_cases hc : b.Kind < 1 ∨ b.Kind > 2 ∨ b.Token.length < 1 ∨ b.Token.length > 16 ∨ b.Writes.length > 24
    · rw [if_pos (by simp; omega)]
    · rw [if_neg (by simp; omega), if_pos (by simp; omega)]
end Go.Ab
