/- Batches out of bytes, by the document (plain). -/
import Derived.Test.YtgmejofagmfcfaaGreatDoorPBat5
namespace Go.Ab
set_option linter.unusedVariables false
set_option linter.unusedSimpArgs false

theorem rtake_loop {n : Int} {y : Int × Str × Int} (hy : y.1 = n) (hn : n ≤ 24) : ∀ (m k : Nat) (s : Str) (acc : List Write), (k : Int) + m = n → s.length ≤ 1099511627776 → acc.length = k →
    loop (fun (s393 : Str × Int × (List Write)) => ref07_Take_l2 y s393.1 s393.2.1 s393.2.2) (s, (k : Int), acc) = some (match takeWs m s with | none => .inl () | some (l, q) => .inr (q, acc ++ l)) := by
  intro m
  induction m with
  | zero =>
    intro k s acc hk hl ha
    refine loop_inr ?_
    simp only
    unfold ref07_Take_l2
    rw [if_neg (by simp; omega)]
    simp [takeWs]
  | succ m ih =>
    intro k s acc hk hl ha
    have h1 := takeNumM_rest s
    have h2 := takeTextM_len (takeNumM s).2.1 32
    have h3 := takeTextM_len (takeTextM (takeNumM s).2.1 32).2.1 64
    have hn0 := takeNumM_nat s
    have n1 : (acc.length + 1) * 40 ≤ 140737488355328 := by omega
    have hs : ref07_Take_l2 y s (k : Int) acc = (match takeW s with | none => some (.inr (.inl ())) | some (w, r) => some (.inl (r, ((k + 1 : Nat) : Int), acc ++ [w]))) := by
      unfold ref07_Take_l2 takeW
      rw [if_pos (by simp; omega), u64_in (by omega) (by omega), rtakeNum_eq hl]
      simp only [Option.bind_some]
      by_cases c1 : (takeNumM s).2.2 ≠ 0 ∨ (takeNumM s).1 > 1
      · rw [if_pos c1, if_pos (by simpa using c1)]
      · rw [if_neg c1, if_neg (by simpa using c1), rtakeText_eq (by omega) (by omega)]
        simp only [Option.bind_some]
        by_cases c2 : (takeTextM (takeNumM s).2.1 32).2.2 ≠ 0
        · rw [if_pos c2, if_pos (by simpa using c2)]
        · rw [if_neg c2, if_neg (by simpa using c2), rtakeText_eq (by omega) (by omega)]
          simp only [Option.bind_some]
          by_cases c3 : (takeTextM (takeTextM (takeNumM s).2.1 32).2.1 64).2.2 ≠ 0
          · rw [if_pos c3, if_pos (by simpa using c3)]
          · rw [if_neg c3, if_neg (by simpa using c3), need_pos n1]; rfl
    unfold takeWs
    cases hw : takeW s with
    | none =>
      rw [hw] at hs
      rw [loop_inr (by simpa using hs)]
    | some p =>
      obtain ⟨w, r⟩ := p
      rw [hw] at hs
      have hwl := takeW_len hw
      rw [loop_inl (by simpa using hs)]
      have hi := ih (k + 1) r (acc ++ [w]) (by omega) (by omega) (by simp [ha])
      simp only at hi ⊢
      rw [show ((k : Int) + 1) = ((k + 1 : Nat) : Int) from rfl] at *
      rw [hi]
      cases takeWs m r with
      | none => rfl
      | some p2 => simp
theorem rtakeB_eq {s : Str} (hl : s.length ≤ 1099511627776) : ref07_Take s = some (takeBt s) := by
  have r1 := takeNumM_rest s
  have n1 := takeNumM_nat s
  have r2 := takeTextM_len (takeNumM s).2.1 16
  have r3 := takeNumM_rest (takeTextM (takeNumM s).2.1 16).2.1
  have n3 := takeNumM_nat (takeTextM (takeNumM s).2.1 16).2.1
  unfold ref07_Take takeBt
  rw [rtakeNum_eq hl]
  simp only [Option.bind_some]
  by_cases c1 : (takeNumM s).2.2 ≠ 0 ∨ (takeNumM s).1 > 2
  · rw [if_pos c1, if_pos (by simpa using c1)]; rfl
  rw [if_neg c1, if_neg (by simpa using c1), rtakeText_eq (by omega) (by omega)]
  simp only [Option.bind_some]
  by_cases c2 : (takeTextM (takeNumM s).2.1 16).2.2 ≠ 0
  · rw [if_pos c2, if_pos (by simpa using c2)]; rfl
  rw [if_neg c2, if_neg (by simpa using c2), rtakeNum_eq (by omega)]
  simp only [Option.bind_some]
  by_cases c3 : (takeNumM (takeTextM (takeNumM s).2.1 16).2.1).2.2 ≠ 0 ∨ (takeNumM (takeTextM (takeNumM s).2.1 16).2.1).1 > 24
  · rw [if_pos c3, if_pos (by simpa using c3)]; rfl
  rw [if_neg c3, if_neg (by simpa using c3)]
  have hlp := rtake_loop (n := (takeNumM (takeTextM (takeNumM s).2.1 16).2.1).1) (y := takeNumM (takeTextM (takeNumM s).2.1 16).2.1) rfl (by omega) (takeNumM (takeTextM (takeNumM s).2.1 16).2.1).1.toNat 0 (takeNumM (takeTextM (takeNumM s).2.1 16).2.1).2.1 [] (by omega) (by omega) rfl
  simp only [Int.natCast_zero, Int.ofNat_eq_natCast] at hlp
  rw [hlp]
  simp only [Option.bind_some]
  cases hq : takeWs (takeNumM (takeTextM (takeNumM s).2.1 16).2.1).1.toNat (takeNumM (takeTextM (takeNumM s).2.1 16).2.1).2.1 with
  | none => rfl
  | some p =>
    obtain ⟨l, q⟩ := p
    have hm := takeWs_mem _ hq
    simp only [List.nil_append]
    have hw1 : IntKind.i64.wrap (takeNumM s).1 = (takeNumM s).1 := IntWalk.i64_in _ ⟨by omega, by omega⟩
    rw [hw1, rbmay_eq (fun w hw => by have := hm.2 w hw; omega)]
    simp only [Option.bind_some]
    by_cases hq : q = []
    · subst hq
      cases hmb : mayB ⟨(takeNumM s).1, (takeTextM (takeNumM s).2.1 16).1, l⟩ <;> simp [noBatch]
    · have hp : 0 < q.length := List.length_pos_iff.2 hq
      rw [if_pos (by simp; exact .inl (by omega)), if_pos (.inl hq)]; rfl
end Go.Ab
