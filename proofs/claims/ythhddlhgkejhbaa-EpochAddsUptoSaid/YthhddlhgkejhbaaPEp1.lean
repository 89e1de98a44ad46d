/- The number of a beginning: program and document alike, and what lasts of it (plain). -/
import Derived.Test.YthhddlhgkejhbaaPLay1
namespace Go.Ab
set_option linter.unusedVariables false
set_option linter.unusedSimpArgs false

def bytesE (n : Int) : Str × Int := if n < 0 ∨ 1073741824 < n then ([], 1) else (sealM (numS n.toNat), 0)
def takeE (s : Str) : Int × Int :=
  if (openM s 65536).2.2 ≠ 0 ∨ (openM s 65536).2.1 ≠ [] ∨ (takeNumM (openM s 65536).1).2.2 ≠ 0 ∨ (takeNumM (openM s 65536).1).2.1 ≠ [] ∨ 1073741824 < (takeNumM (openM s 65536).1).1 then (0, 3) else ((takeNumM (openM s 65536).1).1, 0)
def readE (d : Disk) : Int × Int := if (readM d [101]).2 ≠ 0 then (0, 0) else takeE (readM d [101]).1
def nextE (d : Disk) : Disk × Int × Int :=
  if (readE d).2 ≠ 0 then (d, 0, (readE d).2) else if 1073741824 ≤ (readE d).1 then (d, 0, 4) else
  if (layM d [101] (sealM (numS ((readE d).1 + 1).toNat))).2 ≠ 0 then ((layM d [101] (sealM (numS ((readE d).1 + 1).toNat))).1, 0, (layM d [101] (sealM (numS ((readE d).1 + 1).toNat))).2) else
  ((layM d [101] (sealM (numS ((readE d).1 + 1).toNat))).1, (readE d).1 + 1, 0)

theorem numE_len {n : Nat} (h : n ≤ 2147483648) : (numS n).length ≤ 22 := numS_len (by omega)
theorem sealE_len {n : Nat} (h : n ≤ 2147483648) : (sealM (numS n)).length ≤ 66 := by
  have := numE_len h
  have := sealM_len (s := numS n) (by omega)
  omega
theorem bytes_eq (n : Int) (hn : -9223372036854775808 ≤ n ∧ n ≤ 9223372036854775807) : epoch_Bytes n = some (bytesE n) := by
  unfold epoch_Bytes bytesE
  by_cases h : n < 0 ∨ 1073741824 < n
  · rw [if_pos h, if_pos (by simpa using h)]
  · have hl := numE_len (n := n.toNat) (by omega)
    have e : n = (n.toNat : Int) := by omega
    rw [if_neg h, if_neg (by simpa using h), u64_in (by omega) (by omega)]
    conv => lhs; rw [e]
    rw [num_eq (by omega)]
    simp only [Option.bind_some]
    rw [seal_eq (by omega)]
    rfl
theorem rbytes_eq (n : Int) (hn : -9223372036854775808 ≤ n ∧ n ≤ 9223372036854775807) : ref18_Bytes n = some (bytesE n) := by
  unfold ref18_Bytes bytesE
  by_cases h : n < 0 ∨ 1073741824 < n
  · rw [if_pos h, if_pos (by simpa using h)]
  · have hl := numE_len (n := n.toNat) (by omega)
    have e : n = (n.toNat : Int) := by omega
    rw [if_neg h, if_neg (by simpa using h), u64_in (by omega) (by omega)]
    conv => lhs; rw [e]
    rw [rnum_eq (by omega)]
    simp only [Option.bind_some]
    rw [rseal_eq (by omega)]
    rfl
theorem take_eq {s : Str} (hl : s.length ≤ 1099511627776) : epoch_Take s = some (takeE s) := by
  have h1 := openM_len s 65536
  have h2 := takeNumM_nat (openM s 65536).1
  unfold epoch_Take epoch_take takeE
  rw [open_eq hl (by omega)]
  simp only [Option.bind_some]
  rw [takeNum_eq (by omega)]
  simp only [Option.bind_some]
  by_cases h : (openM s 65536).2.2 ≠ 0 ∨ (openM s 65536).2.1 ≠ [] ∨ (takeNumM (openM s 65536).1).2.2 ≠ 0 ∨ (takeNumM (openM s 65536).1).2.1 ≠ [] ∨ 1073741824 < (takeNumM (openM s 65536).1).1
  · rw [if_pos h, if_pos]
    · rfl
    · simp only [Bool.or_eq_true, Bool.not_eq_true', decide_eq_false_iff_not, decide_eq_true_eq]
      rcases h with h | h | h | h | h
      · exact .inl h
      · exact .inr (.inr (.inl h))
      · exact .inr (.inl h)
      · exact .inr (.inr (.inr (.inl h)))
      · exact .inr (.inr (.inr (.inr h)))
  · rw [if_neg h, if_neg]
    · simp only [Option.bind_some]
      have : ¬ 1073741824 < (takeNumM (openM s 65536).1).1 := fun x => h (.inr (.inr (.inr (.inr x))))
      rw [IntWalk.i64_in _ ⟨by omega, by omega⟩]
    · simp only [Bool.or_eq_true, Bool.not_eq_true', decide_eq_false_iff_not, decide_eq_true_eq]
      rintro (x | x | x | x | x)
      · exact h (.inl x)
      · exact h (.inr (.inr (.inl x)))
      · exact h (.inr (.inl x))
      · exact h (.inr (.inr (.inr (.inl x))))
      · exact h (.inr (.inr (.inr (.inr x))))
theorem len_ne {α : Type} (l : List α) : ((l.length : Int) > 0) ↔ l ≠ [] := by cases l <;> simp
theorem rtake_eq {s : Str} (hl : s.length ≤ 1099511627776) : ref18_Take s = some (takeE s) := by
  have h1 := openM_len s 65536
  have h2 := takeNumM_nat (openM s 65536).1
  unfold ref18_Take takeE
  rw [ropen_eq hl (by omega)]
  simp only [Option.bind_some]
  by_cases h : (openM s 65536).2.2 ≠ 0 ∨ (openM s 65536).2.1 ≠ []
  · rw [if_pos (show _ ∨ _ from by rcases h with h | h; exact .inl h; exact .inr (.inl h)), if_pos]
    simp only [Bool.or_eq_true, Bool.not_eq_true', decide_eq_false_iff_not, decide_eq_true_eq, len_ne]
    exact h
  · rw [if_neg (c := (!decide ((openM s 65536).2.2 = 0) || decide (((openM s 65536).2.1.length : Int) > 0)) = true) (by
      simp only [Bool.or_eq_true, Bool.not_eq_true', decide_eq_false_iff_not, decide_eq_true_eq, len_ne]
      exact h), rtakeNum_eq (by omega)]
    simp only [Option.bind_some]
    by_cases h3 : (takeNumM (openM s 65536).1).2.2 ≠ 0 ∨ (takeNumM (openM s 65536).1).2.1 ≠ [] ∨ 1073741824 < (takeNumM (openM s 65536).1).1
    · rw [if_pos (show _ ∨ _ from .inr (.inr h3)), if_pos]
      simp only [Bool.or_eq_true, Bool.not_eq_true', decide_eq_false_iff_not, decide_eq_true_eq, len_ne]
      exact h3
    · rw [if_neg (c := (openM s 65536).2.2 ≠ 0 ∨ _) (fun x => by
        rcases x with x | x | x
        · exact h (.inl x)
        · exact h (.inr x)
        · exact h3 x), if_neg (by
        simp only [Bool.or_eq_true, Bool.not_eq_true', decide_eq_false_iff_not, decide_eq_true_eq, len_ne]
        exact h3)]
      have : ¬ 1073741824 < (takeNumM (openM s 65536).1).1 := fun x => h3 (.inr (.inr x))
      rw [IntWalk.i64_in _ ⟨by omega, by omega⟩]
theorem takeE_in (s : Str) : 0 ≤ (takeE s).1 ∧ (takeE s).1 ≤ 1073741824 := by
  have h2 := takeNumM_nat (openM s 65536).1
  unfold takeE
  split
  · exact ⟨Int.le_refl _, by omega⟩
  · rename_i h
    have : ¬ 1073741824 < (takeNumM (openM s 65536).1).1 := fun x => h (.inr (.inr (.inr (.inr x))))
    simp only; omega
theorem takeE_no {s : Str} (h : (takeE s).2 ≠ 0) : takeE s = (0, 3) := by
  unfold takeE at h ⊢
  split
  · rfl
  · rename_i c; rw [if_neg c] at h; exact absurd rfl h
theorem readM_len {d : Disk} (h : DOk d) (n : Str) : (readM d n).1.length ≤ 1099511627776 := by
  have := fsize_at h n
  unfold fsize at this
  unfold readM
  split
  · simp only [List.length_append]; exact this
  · simp
theorem readE_eq {d : Disk} (h : DOk d) : epoch_Read d = some (readE d) := by
  unfold epoch_Read readE
  rw [read_eq h]
  simp only [Option.bind_some]
  by_cases hz : (readM d [101]).2 = 0
  · rw [if_neg (show ¬ (readM d [101]).2 ≠ 0 by simpa using hz), if_neg (by simp [hz]), take_eq (readM_len h _)]; rfl
  · rw [if_pos (show (readM d [101]).2 ≠ 0 from hz), if_pos (by simp [hz])]
theorem rreadE_eq {d : Disk} (h : DOk d) : ref18_Read d = some (readE d) := by
  unfold ref18_Read readE
  rw [rread_eq h]
  simp only [Option.bind_some]
  by_cases hz : (readM d [101]).2 = 0
  · rw [if_neg (show ¬ (readM d [101]).2 ≠ 0 by simpa using hz), if_neg (by simp [hz]), rtake_eq (readM_len h _)]; rfl
  · rw [if_pos (show (readM d [101]).2 ≠ 0 from hz), if_pos (by simp [hz])]
theorem readE_in (d : Disk) : 0 ≤ (readE d).1 ∧ (readE d).1 ≤ 1073741824 := by
  unfold readE
  split
  · exact ⟨Int.le_refl _, by omega⟩
  · exact takeE_in _
theorem next_eq {d : Disk} (h : DOk d) : epoch_Next d = some (nextE d) := by
  have hr := readE_in d
  unfold epoch_Next nextE
  rw [readE_eq h]
  simp only [Option.bind_some]
  unfold epoch_Next_1
  by_cases hz : (readE d).2 = 0
  · rw [if_neg (show ¬ (readE d).2 ≠ 0 by simpa using hz), if_neg (show ¬ (!decide ((readE d).2 = 0)) = true by simp [hz])]
    by_cases hb : 1073741824 ≤ (readE d).1
    · rw [if_pos hb, if_pos (show decide ((readE d).1 ≥ 1073741824) = true by simpa using hb)]; rfl
    · have hl := sealE_len (n := ((readE d).1 + 1).toNat) (by omega)
      have e : bytesE ((readE d).1 + 1) = (sealM (numS ((readE d).1 + 1).toNat), 0) := by unfold bytesE; rw [if_neg (by omega)]
      rw [if_neg hb, if_neg (show ¬ decide ((readE d).1 ≥ 1073741824) = true by simpa using hb), IntWalk.i64_in _ ⟨by omega, by omega⟩, bytes_eq _ ⟨by omega, by omega⟩, e]
      simp only [Option.bind_some]
      rw [lay_eq h _ _ (by simp) (by omega)]
      simp only [Option.bind_some]
      by_cases hk : (layM d [101] (sealM (numS ((readE d).1 + 1).toNat))).2 = 0
      · rw [if_neg (show ¬ (layM d [101] (sealM (numS ((readE d).1 + 1).toNat))).2 ≠ 0 by simpa using hk), if_neg (by simp [hk])]
      · rw [if_pos (show (layM d [101] (sealM (numS ((readE d).1 + 1).toNat))).2 ≠ 0 from hk), if_pos (by simp [hk])]
  · rw [if_pos (show (readE d).2 ≠ 0 from hz), if_pos (by simp [hz])]; rfl
theorem rnext_eq {d : Disk} (h : DOk d) : ref18_Next d = some (nextE d) := by
  have hr := readE_in d
  unfold ref18_Next nextE
  rw [rreadE_eq h]
  simp only [Option.bind_some]
  by_cases hz : (readE d).2 = 0
  · rw [if_neg (show ¬ (readE d).2 ≠ 0 by simpa using hz), if_neg (show ¬ (!decide ((readE d).2 = 0)) = true by simp [hz])]
    by_cases hb : 1073741824 ≤ (readE d).1
    · rw [if_pos hb, if_pos (show decide ((readE d).1 = 1073741824) = true by simp; omega)]
    · have hl := sealE_len (n := ((readE d).1 + 1).toNat) (by omega)
      have e : bytesE ((readE d).1 + 1) = (sealM (numS ((readE d).1 + 1).toNat), 0) := by unfold bytesE; rw [if_neg (by omega)]
      rw [if_neg hb, if_neg (show ¬ decide ((readE d).1 = 1073741824) = true by simp; omega), IntWalk.i64_in _ ⟨by omega, by omega⟩, rbytes_eq _ ⟨by omega, by omega⟩, e]
      simp only [Option.bind_some]
      rw [rlay_eq h _ _ (by simp) (by omega)]
      simp only [Option.bind_some]
      by_cases hk : (layM d [101] (sealM (numS ((readE d).1 + 1).toNat))).2 = 0
      · rw [if_neg (show ¬ (layM d [101] (sealM (numS ((readE d).1 + 1).toNat))).2 ≠ 0 by simpa using hk), if_neg (by simp [hk])]
      · rw [if_pos (show (layM d [101] (sealM (numS ((readE d).1 + 1).toNat))).2 ≠ 0 from hk), if_pos (by simp [hk])]
  · rw [if_pos (show (readE d).2 ≠ 0 from hz), if_pos (by simp [hz])]

/-! ### What is taken is as it was -/
theorem takeE_bytes {n : Nat} (h : n ≤ 1073741824) : takeE (sealM (numS n)) = ((n : Int), 0) := by
  have hl := numE_len (n := n) (by omega)
  have hm := m64
  have e := open_seal (t := numS n) (most := 65536) (by omega) (by omega) []
  rw [List.append_nil] at e
  have e2 := takeNum_num (n := n) (by omega) []
  rw [List.append_nil] at e2
  unfold takeE
  rw [e]
  simp only
  rw [e2]
  simp only
  rw [if_neg (by simp; omega)]
theorem takeE_cut {n : Nat} (h : n ≤ 1073741824) {k : Nat} (hk : k < (sealM (numS n)).length) : takeE ((sealM (numS n)).take k) = (0, 3) := by
  have hl := numE_len (n := n) (by omega)
  have hm := m64
  unfold takeE
  rw [open_cut (by omega) (by omega) hk]
  rw [if_pos (.inl (by simp))]
end Go.Ab
