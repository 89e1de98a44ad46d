/- Numbers in figures, plainly. -/
import Derived.Test.YtgmejofagmfcfaaGreatDoorW
import Derived.IntWalk
namespace Go.Ab
set_option linter.unusedVariables false
set_option linter.unusedSimpArgs false

/-- The figures of a number; none of naught. -/
def fg (n : Nat) : Str := if n = 0 then [] else fg (n / 10) ++ [UInt8.ofNat (48 + n % 10)]
decreasing_by omega
theorem fg_zero : fg 0 = [] := by unfold fg; rfl
theorem fg_pos {n : Nat} (h : 0 < n) : fg n = fg (n / 10) ++ [UInt8.ofNat (48 + n % 10)] := by
  conv => lhs; unfold fg
  rw [if_neg (by omega)]
def numS (n : Nat) : Str := fg (n / 10) ++ [UInt8.ofNat (48 + n % 10), 59]
theorem fg_len : ∀ (k n : Nat), n < 10 ^ k → (fg n).length ≤ k
  | 0, n, h => by have : n = 0 := by simp at h; omega
                  subst this; rw [fg_zero]; simp
  | k + 1, n, h => by
    rcases Nat.eq_zero_or_pos n with h0 | h0
    · subst h0; rw [fg_zero]; simp
    · rw [fg_pos h0, List.length_append]
      have := fg_len k (n / 10) (by rw [Nat.div_lt_iff_lt_mul (by decide)]; rwa [Nat.pow_succ] at h)
      simp; omega
theorem u64_in {n : Int} (h0 : 0 ≤ n) (h1 : n ≤ 18446744073709551615) : IntKind.u64.wrap n = n := by
  simp only [IntKind.wrap, IntKind.signed, IntKind.bits]
  simp; omega
theorem u8_in {n : Int} (h0 : 0 ≤ n) (h1 : n ≤ 255) : IntKind.u8.wrap n = n := by
  simp only [IntKind.wrap, IntKind.signed, IntKind.bits]
  simp; omega
theorem fig_eq (n : Nat) : u8 (IntKind.u8.wrap (48 + (IntKind.u8.wrap (Int.tmod (n : Int) 10)))) = UInt8.ofNat (48 + n % 10) := by
  have h : Int.tmod (n : Int) 10 = ((n % 10 : Nat) : Int) := by rw [Int.tmod_eq_emod_of_nonneg (by omega)]; omega
  rw [h, u8_in (n := ((n % 10 : Nat) : Int)) (by omega) (by omega), u8_in (by omega) (by omega)]
  unfold u8
  congr 1
theorem quo_eq {n : Nat} (h : n ≤ 18446744073709551615) : IntKind.u64.wrap (Int.tdiv (n : Int) 10) = ((n / 10 : Nat) : Int) := by
  have e : Int.tdiv (n : Int) 10 = ((n / 10 : Nat) : Int) := by rw [Int.tdiv_eq_ediv_of_nonneg (by omega)]; omega
  rw [e, u64_in (by omega) (by omega)]
theorem rnum_loop : ∀ (k n : Nat) (acc : Str), n < 10 ^ k → n ≤ 18446744073709551615 → acc.length + k ≤ 1000 →
    loop (fun (s : Int × Str) => ref01_Num_l2 s.1 s.2) ((n : Int), acc) = some (fg n ++ acc) := by
  intro k
  induction k with
  | zero =>
    intro n acc h h2 h3
    have : n = 0 := by simp at h; omega
    subst this
    rw [loop_inr (r := acc)]
    · rw [fg_zero]; rfl
    · unfold ref01_Num_l2; rfl
  | succ k ih =>
    intro n acc h h2 h3
    rcases Nat.eq_zero_or_pos n with h0 | h0
    · subst h0
      rw [loop_inr (r := acc)]
      · rw [fg_zero]; rfl
      · unfold ref01_Num_l2; rfl
    · rw [loop_inl (s' := (((n / 10 : Nat) : Int), UInt8.ofNat (48 + n % 10) :: acc))]
      · rw [ih (n / 10) _ (by rw [Nat.div_lt_iff_lt_mul (by decide)]; rwa [Nat.pow_succ] at h) (by omega) (by simp; omega), fg_pos h0]
        simp
      · unfold ref01_Num_l2
        simp only
        rw [if_pos (show decide ((n : Int) > 0) = true by simp; omega), need_pos (by simp; omega), quo_eq h2]
        simp only [List.map_cons, List.map_nil, List.cons_append, List.nil_append]
        rw [fig_eq]
theorem rnum_eq {n : Nat} (h : n ≤ 18446744073709551615) : ref01_Num (n : Int) = some (numS n) := by
  unfold ref01_Num
  rw [need_pos (by simp), quo_eq h]
  simp only [List.map_cons, List.map_nil, List.cons_append, List.nil_append]
  rw [fig_eq, rnum_loop 20 (n / 10) _ (by omega) (by omega) (by simp)]
  rfl

/-- The program's: figures from the right, in a row of 21 places. -/
theorem num_loop : ∀ (k n : Nat) (l : List Int) (at_ : Nat), n < 10 ^ (k + 1) → n ≤ 18446744073709551615 → l.length = 21 → k + 1 ≤ at_ → at_ ≤ 20 →
    loop (fun (s : Int × Int × (List Int)) => dec_Num_l1 s.1 s.2.1 s.2.2) ((n : Int), (at_ : Int), l) = some (fg (n / 10) ++ [UInt8.ofNat (48 + n % 10)] ++ (l.drop at_).map u8) := by
  have base : ∀ (n : Nat) (l : List Int) (at_ : Nat), n ≤ 18446744073709551615 → l.length = 21 → 1 ≤ at_ → at_ ≤ 20 →
      dec_Num_l1 (n : Int) (at_ : Int) l = if n / 10 = 0 then some (.inr (UInt8.ofNat (48 + n % 10) :: (l.drop at_).map u8)) else some (.inl (((n / 10 : Nat) : Int), ((at_ - 1 : Nat) : Int), l.set (at_ - 1) (IntKind.u8.wrap (48 + (IntKind.u8.wrap (Int.tmod (n : Int) 10)))))) := by
    intro n l at_ h hl h1 h2
    have e : IntKind.i64.wrap ((at_ : Int) - 1) = ((at_ - 1 : Nat) : Int) := by rw [IntWalk.i64_in _ ⟨by omega, by omega⟩]; omega
    have et : (((at_ - 1 : Nat) : Int)).toNat = at_ - 1 := by omega
    unfold dec_Num_l1
    rw [need_pos hl, e, quo_eq h, et, ix_get (by omega)]
    simp only [Option.bind_some]
    by_cases h0 : n / 10 = 0
    · rw [if_pos (show decide (((n / 10 : Nat) : Int) = 0) = true by simp; omega), if_pos h0, need_pos (by simpa using hl), need_pos (by omega)]
      congr 2
      unfold cut
      rw [et, List.take_of_length_le (by simp; omega), List.drop_eq_getElem_cons (by simp; omega)]
      simp only [List.map_cons, List.getElem_set_self]
      rw [fig_eq]
      congr 2
      have : at_ - 1 + 1 = at_ := by omega
      rw [this, List.drop_set_of_lt (by omega)]
    · rw [if_neg (show ¬ decide (((n / 10 : Nat) : Int) = 0) = true by simp; omega), if_neg h0]
  intro k
  induction k with
  | zero =>
    intro n l at_ h h2 hl h3 h4
    have h0 : n / 10 = 0 := by simp at h; omega
    rw [loop_inr (r := UInt8.ofNat (48 + n % 10) :: (l.drop at_).map u8)]
    · rw [h0, fg_zero]; simp
    · simp only; rw [base n l at_ h2 hl (by omega) h4, if_pos h0]
  | succ k ih =>
    intro n l at_ h h2 hl h3 h4
    by_cases h0 : n / 10 = 0
    · rw [loop_inr (r := UInt8.ofNat (48 + n % 10) :: (l.drop at_).map u8)]
      · rw [h0, fg_zero]; simp
      · simp only; rw [base n l at_ h2 hl (by omega) h4, if_pos h0]
    · rw [loop_inl (s' := (((n / 10 : Nat) : Int), ((at_ - 1 : Nat) : Int), l.set (at_ - 1) (IntKind.u8.wrap (48 + (IntKind.u8.wrap (Int.tmod (n : Int) 10))))))]
      · rw [ih (n / 10) _ (at_ - 1) (by rw [Nat.div_lt_iff_lt_mul (by decide)]; rwa [Nat.pow_succ] at h) (by omega) (by simpa using hl) (by omega) (by omega)]
        rw [List.drop_eq_getElem_cons (by simp; omega)]
        simp only [List.map_cons, List.getElem_set_self]
        rw [fig_eq, ← fg_pos (by omega)]
        have : at_ - 1 + 1 = at_ := by omega
        rw [this, List.drop_set_of_lt (by omega)]
        simp
      · simp only; rw [base n l at_ h2 hl (by omega) h4, if_neg h0]
theorem num_eq {n : Nat} (h : n ≤ 18446744073709551615) : dec_Num (n : Int) = some (numS n) := by
  unfold dec_Num
  rw [need_pos (by simp), show (20 : Int) = ((20 : Nat) : Int) from rfl, ix_get (by simp)]
  simp only [Option.bind_some]
  rw [num_loop 19 n _ 20 (by omega) h (by simp) (by omega) (by omega)]
  simp [numS]
  rfl
end Go.Ab
