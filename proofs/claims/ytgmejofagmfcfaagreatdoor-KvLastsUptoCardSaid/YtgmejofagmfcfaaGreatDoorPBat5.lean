/- Batches out of bytes: program and document are the model (plain). -/
import Derived.Test.YtgmejofagmfcfaaGreatDoorPBat4
namespace Go.Ab
set_option linter.unusedVariables false
set_option linter.unusedSimpArgs false

theorem bnum_eq {s : Str} (hl : s.length ≤ 1099511627776) (ok : Bool) (most : Int) : batch_num s ok most = some (if (ok && ((decide ((takeNumM s).2.2 = 0)) && (decide ((takeNumM s).1 ≤ most)))) = true then ((takeNumM s).1, (takeNumM s).2.1, true) else (0, (takeNumM s).2.1, false)) := by
  unfold batch_num
  rw [takeNum_eq hl]
  simp only [Option.bind_some]
  generalize (ok && ((decide ((takeNumM s).2.2 = 0)) && (decide ((takeNumM s).1 ≤ most)))) = c
  cases c <;> rfl
theorem btext_eq {s : Str} (hl : s.length ≤ 1099511627776) (ok : Bool) {most : Int} (hm : -9223372036854775808 ≤ most ∧ most ≤ 9223372036854775807) : batch_text s ok most = some ((takeTextM s most).1, (takeTextM s most).2.1, (ok && decide ((takeTextM s most).2.2 = 0))) := by
  unfold batch_text
  rw [takeText_eq hl hm]; rfl
theorem takeW_len {s r : Str} {w : Write} (h : takeW s = some (w, r)) : r.length ≤ s.length ∧ w.Key.length ≤ s.length ∧ w.Val.length ≤ s.length := by
  have h1 := takeNumM_rest s
  have h2 := takeTextM_len (takeNumM s).2.1 32
  have h3 := takeTextM_len (takeTextM (takeNumM s).2.1 32).2.1 64
  unfold takeW at h
  split at h
  · cases h
  split at h
  · cases h
  split at h
  · cases h
  cases h
  simp only
  omega
theorem takeWs_mem (n : Nat) : ∀ {s r : Str} {l : List Write}, takeWs n s = some (l, r) → l.length = n ∧ ∀ w ∈ l, w.Key.length ≤ s.length := by
  induction n with
  | zero => intro s r l h; unfold takeWs at h; cases h; exact ⟨rfl, by simp⟩
  | succ n ih =>
    intro s r l h
    unfold takeWs at h
    cases hw : takeW s with
    | none => rw [hw] at h; cases h
    | some p =>
      rw [hw] at h
      obtain ⟨w, r1⟩ := p
      simp only at h
      cases hq : takeWs n r1 with
      | none => rw [hq] at h; cases h
      | some p2 =>
        rw [hq] at h
        obtain ⟨l1, q⟩ := p2
        simp only at h
        cases h
        obtain ⟨h1, h2⟩ := ih hq
        have hwl := takeW_len hw
        refine ⟨by simp [h1], fun x hx => ?_⟩
        rcases List.mem_cons.1 hx with rfl | hx
        · exact hwl.2.1
        · exact Nat.le_trans (h2 x hx) hwl.1
theorem take_round {s : Str} (hl : s.length ≤ 1099511627776) {n : Int} {y : Int × Str × Bool} (hy : y.1 = n) {k : Nat} (hk : (k : Int) < n) (hn : n ≤ 24) (ok : Bool) (acc : List Write) (ha : acc.length ≤ k) :
    ∃ s' ok' w, batch_Take_l2 y (k : Int) s ok acc = some (.inl (((k + 1 : Nat) : Int), s', ok', acc ++ [w])) ∧ s'.length ≤ s.length ∧ (ok = false → ok' = false) ∧ (takeW s = none → ok' = false) ∧ (ok = true → ∀ v r, takeW s = some (v, r) → s' = r ∧ ok' = true ∧ w = v) := by
  have h1 := takeNumM_rest s
  have h2 := takeTextM_len (takeNumM s).2.1 32
  have h3 := takeTextM_len (takeTextM (takeNumM s).2.1 32).2.1 64
  have hn0 := takeNumM_nat s
  unfold batch_Take_l2
  rw [if_pos (by simpa [hy] using hk), u64_in (by omega) (by omega), bnum_eq hl]
  simp only [Option.bind_some]
  have n1 : (acc.length + 1) * 40 ≤ 140737488355328 := by omega
  unfold takeW
  by_cases c1 : (takeNumM s).2.2 = 0 ∧ (takeNumM s).1 ≤ 1
  · cases ok with
    | true =>
      rw [if_pos (by simp [c1.1, c1.2])]
      simp only
      rw [btext_eq (by omega) _ (by omega)]
      simp only [Option.bind_some]
      rw [btext_eq (by omega) _ (by omega)]
      simp only [Option.bind_some]
      rw [need_pos n1]
      refine ⟨_, _, _, rfl, by omega, fun h => (by cases h), fun h => ?_, fun _ v r h => ?_⟩
      · rw [if_neg (by omega)] at h
        split at h
        · rename_i h'; simp [h']
        · split at h
          · rename_i h'; simp [h']
          · cases h
      · rw [if_neg (by omega)] at h
        split at h
        · cases h
        · split at h
          · cases h
          · rename_i g1 g2
            cases h
            have e1 : (takeTextM (takeNumM s).2.1 32).2.2 = 0 := by simpa using g1
            have e2 : (takeTextM (takeTextM (takeNumM s).2.1 32).2.1 64).2.2 = 0 := by simpa using g2
            exact ⟨rfl, by simp [e1, e2], rfl⟩
    | false =>
      rw [if_neg (by simp)]
      simp only
      rw [btext_eq (by omega) _ (by omega)]
      simp only [Option.bind_some]
      rw [btext_eq (by omega) _ (by omega)]
      simp only [Option.bind_some]
      rw [need_pos n1]
      exact ⟨_, _, _, rfl, by omega, fun _ => by simp, fun h => by simp, fun h => by cases h⟩
  · rw [if_neg (by simp; intro _ h; omega)]
    simp only
    rw [btext_eq (by omega) _ (by omega)]
    simp only [Option.bind_some]
    rw [btext_eq (by omega) _ (by omega)]
    simp only [Option.bind_some]
    rw [need_pos n1]
    refine ⟨_, _, _, rfl, by omega, fun _ => by simp, fun h => by simp, fun _ v r h => ?_⟩
    rw [if_pos (by omega)] at h
    cases h
theorem take_loop {n : Int} {y : Int × Str × Bool} (hy : y.1 = n) (hn : n ≤ 24) : ∀ (m k : Nat) (s : Str) (ok : Bool) (acc : List Write), (k : Int) + m = n → s.length ≤ 1099511627776 → acc.length = k →
    (∃ s' acc', loop (fun (s96 : Int × Str × Bool × (List Write)) => batch_Take_l2 y s96.1 s96.2.1 s96.2.2.1 s96.2.2.2) ((k : Int), s, ok, acc) = some (s', false, acc') ∧ (ok = true → takeWs m s = none)) ∨
    (∃ q l, ok = true ∧ takeWs m s = some (l, q) ∧ loop (fun (s96 : Int × Str × Bool × (List Write)) => batch_Take_l2 y s96.1 s96.2.1 s96.2.2.1 s96.2.2.2) ((k : Int), s, ok, acc) = some (q, true, acc ++ l)) := by
  intro m
  induction m with
  | zero =>
    intro k s ok acc hk hl ha
    have he : loop (fun (s96 : Int × Str × Bool × (List Write)) => batch_Take_l2 y s96.1 s96.2.1 s96.2.2.1 s96.2.2.2) ((k : Int), s, ok, acc) = some (s, ok, acc) := loop_inr (by simp only; unfold batch_Take_l2; rw [if_neg (by simp; omega)])
    cases ok with
    | true => exact .inr ⟨s, [], rfl, rfl, by rw [he, List.append_nil]⟩
    | false => exact .inl ⟨s, acc, he, fun h => by cases h⟩
  | succ m ih =>
    intro k s ok acc hk hl ha
    obtain ⟨s', ok', w, h1, h2, h3, h4, h5⟩ := take_round hl hy (k := k) (by omega) hn ok acc (by omega)
    have hs := @loop_inl _ _ (fun (s96 : Int × Str × Bool × (List Write)) => batch_Take_l2 y s96.1 s96.2.1 s96.2.2.1 s96.2.2.2) ((k : Int), s, ok, acc) _ h1
    rw [hs]
    have hi := ih (k + 1) s' ok' (acc ++ [w]) (by omega) (by omega) (by simp [ha])
    cases hw : takeW s with
    | none =>
      have hf := h4 hw
      rcases hi with ⟨a, b, e1, _⟩ | ⟨q, l, e1, _, _⟩
      · exact .inl ⟨a, b, e1, fun _ => by unfold takeWs; rw [hw]⟩
      · rw [hf] at e1; cases e1
    | some p =>
      obtain ⟨v, r⟩ := p
      cases ok with
      | false =>
        have hf := h3 rfl
        rcases hi with ⟨a, b, e1, _⟩ | ⟨q, l, e1, _, _⟩
        · exact .inl ⟨a, b, e1, fun h => by cases h⟩
        · rw [hf] at e1; cases e1
      | true =>
        obtain ⟨rfl, rfl, rfl⟩ := h5 rfl v r hw
        rcases hi with ⟨a, b, e1, e2⟩ | ⟨q, l, e1, e2, e3⟩
        · exact .inl ⟨a, b, e1, fun _ => by unfold takeWs; rw [hw]; simp only; rw [e2 rfl]⟩
        · exact .inr ⟨q, w :: l, rfl, by unfold takeWs; rw [hw]; simp only; rw [e2], by rw [e3]; simp⟩
theorem takeB_eq {s : Str} (hl : s.length ≤ 1099511627776) : batch_Take s = some (takeBt s) := by
  have r1 := takeNumM_rest s
  have n1 := takeNumM_nat s
  have r2 := takeTextM_len (takeNumM s).2.1 16
  have r3 := takeNumM_rest (takeTextM (takeNumM s).2.1 16).2.1
  have n3 := takeNumM_nat (takeTextM (takeNumM s).2.1 16).2.1
  have nos : (({ Kind := 0, Token := [], Writes := [] } : Batch), (3 : Int)) = (noBatch, 3) := rfl
  have bad : ∀ (a : Int) (t : Str) (y : Int × Str × Bool), y.1 = 0 → y.2.2 = false →
      ((loop (fun (s96 : Int × Str × Bool × (List Write)) => batch_Take_l2 y s96.1 s96.2.1 s96.2.2.1 s96.2.2.2) ((0 : Int), y.2.1, y.2.2, ([] : (List Write)))).bind fun (y94 : Str × Bool × (List Write)) =>
        (if (!y94.2.1) then some true else if (!decide (y94.1 = [])) then some true else (batch_May ({ Kind := a, Token := t, Writes := y94.2.2 } : Batch)).bind fun y137 => some (!y137)).bind fun (y133 : Bool) =>
        if y133 then some (({ Kind := 0, Token := [], Writes := [] } : Batch), (3 : Int)) else some (({ Kind := a, Token := t, Writes := y94.2.2 } : Batch), 0)) = some (noBatch, 3) := by
    intro a t y hy hf
    rw [loop_inr (r := (y.2.1, y.2.2, ([] : List Write))) (by simp only; unfold batch_Take_l2; rw [if_neg (by rw [hy]; simp)])]
    simp [hf, noBatch]
  unfold batch_Take takeBt
  rw [bnum_eq hl]
  simp only [Option.bind_some]
  by_cases c1 : (takeNumM s).2.2 = 0 ∧ (takeNumM s).1 ≤ 2
  · rw [if_pos (by simp [c1.1, c1.2]), if_neg (show ¬ ((takeNumM s).2.2 ≠ 0 ∨ (takeNumM s).1 > 2) by omega)]
    simp only
    rw [btext_eq (by omega) _ (by omega)]
    simp only [Option.bind_some]
    rw [bnum_eq (by omega)]
    simp only [Option.bind_some]
    by_cases c2 : (takeTextM (takeNumM s).2.1 16).2.2 = 0
    · rw [if_neg (show ¬ ((takeTextM (takeNumM s).2.1 16).2.2 ≠ 0) by omega)]
      by_cases c3 : (takeNumM (takeTextM (takeNumM s).2.1 16).2.1).2.2 = 0 ∧ (takeNumM (takeTextM (takeNumM s).2.1 16).2.1).1 ≤ 24
      · rw [if_pos (by simp [c2, c3.1, c3.2]), if_neg (show ¬ ((takeNumM (takeTextM (takeNumM s).2.1 16).2.1).2.2 ≠ 0 ∨ (takeNumM (takeTextM (takeNumM s).2.1 16).2.1).1 > 24) by omega)]
        have hw1 : IntKind.i64.wrap (takeNumM s).1 = (takeNumM s).1 := IntWalk.i64_in _ ⟨by omega, by omega⟩
        rw [hw1]
        have hlp := take_loop (n := (takeNumM (takeTextM (takeNumM s).2.1 16).2.1).1) (y := ((takeNumM (takeTextM (takeNumM s).2.1 16).2.1).1, (takeNumM (takeTextM (takeNumM s).2.1 16).2.1).2.1, true)) rfl c3.2 (takeNumM (takeTextM (takeNumM s).2.1 16).2.1).1.toNat 0 (takeNumM (takeTextM (takeNumM s).2.1 16).2.1).2.1 true [] (by omega) (by omega) rfl
        simp only [Int.natCast_zero, Int.ofNat_eq_natCast] at hlp
        rcases hlp with ⟨s', acc', e1, e2⟩ | ⟨q, l, _, e2, e1⟩
        · rw [e2 trivial]
          simp only at e1 ⊢
          rw [e1]
          simp [noBatch]
        · rw [e2]
          simp only at e1 ⊢
          rw [e1]
          simp only [Option.bind_some, List.nil_append, Bool.not_true, Bool.false_eq_true, if_false]
          by_cases hq : q = []
          · subst hq
            rw [if_neg (by simp), bmay_eq]
            simp only [Option.bind_some]
            cases hm : mayB ⟨(takeNumM s).1, (takeTextM (takeNumM s).2.1 16).1, l⟩ <;> simp [noBatch]
          · rw [if_pos (by simpa using hq), if_pos (.inl hq)]
            simp [noBatch]
      · rw [if_neg (by simp [c2]; intro h; omega), if_pos (show (takeNumM (takeTextM (takeNumM s).2.1 16).2.1).2.2 ≠ 0 ∨ (takeNumM (takeTextM (takeNumM s).2.1 16).2.1).1 > 24 by omega)]
        exact bad _ _ (0, _, false) rfl rfl
    · rw [if_pos (show (takeTextM (takeNumM s).2.1 16).2.2 ≠ 0 from c2), if_neg (by simp [c2])]
      exact bad _ _ (0, _, false) rfl rfl
  · rw [if_neg (by simp; intro h; omega), if_pos (show (takeNumM s).2.2 ≠ 0 ∨ (takeNumM s).1 > 2 by omega)]
    simp only
    rw [btext_eq (by omega) _ (by omega)]
    simp only [Option.bind_some]
    rw [bnum_eq (by omega), if_neg (by simp)]
    simp only [Option.bind_some]
    exact bad _ _ (0, _, false) rfl rfl
end Go.Ab
