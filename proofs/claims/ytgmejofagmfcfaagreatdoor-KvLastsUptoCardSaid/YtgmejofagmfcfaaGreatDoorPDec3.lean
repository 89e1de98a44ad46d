/- Texts, sums, sealed texts: program and document alike (plain). -/
import Derived.Test.YtgmejofagmfcfaaGreatDoorPDec2
namespace Go.Ab
set_option linter.unusedVariables false
set_option linter.unusedSimpArgs false

theorem takeNumM_nat (s : Str) : 0 ≤ (takeNumM s).1 ∧ (takeNumM s).1 ≤ 18446744073709551615 := by
  have hm := m64
  unfold takeNumM
  split
  · exact ⟨Int.le_refl _, by omega⟩
  · rename_i h
    split
    · exact ⟨Int.le_refl _, by omega⟩
    · split
      · exact ⟨Int.le_refl _, by omega⟩
      · simp only; omega
theorem takeNumM_rest (s : Str) : (takeNumM s).2.1.length ≤ s.length := by
  unfold takeNumM
  split
  · simp
  · split
    · simp
    · rename_i c r h
      split
      · simp
      · have := congrArg List.length h
        simp at this ⊢
        omega

/-! ### Texts -/
def takeTextM (s : Str) (most : Int) : Str × Str × Int :=
  if (takeNumM s).2.2 ≠ 0 then ([], [], (takeNumM s).2.2) else
  if most < 0 ∨ most < (takeNumM s).1 then ([], [], 4) else
  if ((takeNumM s).2.1.length : Int) < (takeNumM s).1 then ([], [], 2) else
  ((takeNumM s).2.1.take (takeNumM s).1.toNat, (takeNumM s).2.1.drop (takeNumM s).1.toNat, 0)
def textM (t : Str) : Str := numS t.length ++ t

theorem numS_len {n : Nat} (h : n ≤ 18446744073709551615) : (numS n).length ≤ 22 := by
  unfold numS
  have := fg_len 20 (n / 10) (by omega)
  rw [List.length_append]
  simp; omega
theorem text_eq {t : Str} (h : t.length ≤ 1099511627776) : dec_Text t = some (textM t) := by
  have hl := numS_len (n := t.length) (by omega)
  unfold dec_Text
  rw [u64_in (by omega) (by omega), num_eq (by omega)]
  simp only [Option.bind_some]
  rw [need_pos (by omega)]
  rfl
theorem takeText_eq {s : Str} (hl : s.length ≤ 1099511627776) {most : Int} (hm : -9223372036854775808 ≤ most ∧ most ≤ 9223372036854775807) : dec_TakeText s most = some (takeTextM s most) := by
  have h1 := takeNumM_nat s
  have h2 := takeNumM_rest s
  unfold dec_TakeText takeTextM
  rw [takeNum_eq hl]
  simp only [Option.bind_some]
  by_cases he : (takeNumM s).2.2 = 0
  · rw [if_neg (show ¬ (takeNumM s).2.2 ≠ 0 by simpa using he), if_neg (show ¬ (!decide ((takeNumM s).2.2 = 0)) = true by simp [he])]
    by_cases hmost : most < 0 ∨ most < (takeNumM s).1
    · rw [if_pos hmost, if_pos (show (decide (most < 0) || decide ((takeNumM s).1 > IntKind.u64.wrap most)) = true by
        by_cases h0 : most < 0
        · simp [h0]
        · rw [u64_in (by omega) (by omega)]; simp; omega)]
    · rw [if_neg hmost, u64_in (n := most) (by omega) (by omega), if_neg (show ¬ (decide (most < 0) || decide ((takeNumM s).1 > most)) = true by simp; omega), u64_in (by omega) (by omega)]
      by_cases hr : ((takeNumM s).2.1.length : Int) < (takeNumM s).1
      · rw [if_pos hr, if_pos (show decide ((takeNumM s).1 > ((takeNumM s).2.1.length : Int)) = true by simpa using hr)]
      · rw [if_neg hr, if_neg (show ¬ decide ((takeNumM s).1 > ((takeNumM s).2.1.length : Int)) = true by simpa using hr), need_pos (by omega), need_pos (by omega), cut_head, cut_tail (by omega) (by omega)]
  · rw [if_pos (show (takeNumM s).2.2 ≠ 0 from he), if_pos (show (!decide ((takeNumM s).2.2 = 0)) = true by simp [he])]
theorem takeTextM_len (s : Str) (most : Int) : (takeTextM s most).1.length + (takeTextM s most).2.1.length ≤ s.length := by
  have h2 := takeNumM_rest s
  unfold takeTextM
  split
  · simp
  · split
    · simp
    · split
      · simp
      · simp; omega

/-! ### Sums -/
def sumAB (a b : Nat) : Str → Nat × Nat
  | [] => (a, b)
  | c :: r => sumAB ((a + c.toNat) % 65521) ((b + (a + c.toNat) % 65521) % 65521) r
def sumN (s : Str) : Nat := 65536 * (sumAB 1 0 s).2 + (sumAB 1 0 s).1
theorem sumAB_lt (s : Str) : ∀ (a b : Nat), a < 65521 → b < 65521 → (sumAB a b s).1 < 65521 ∧ (sumAB a b s).2 < 65521 := by
  induction s with
  | nil => intro a b ha hb; exact ⟨ha, hb⟩
  | cons c r ih => intro a b ha hb; unfold sumAB; exact ih _ _ (by omega) (by omega)
theorem sumN_lt (s : Str) : sumN s ≤ 4294967295 := by
  have := sumAB_lt s 1 0 (by omega) (by omega)
  unfold sumN; omega
theorem sum_each (s : Str) : ∀ (k a b : Nat), eachF (fun k (p : Nat × Nat) (c : UInt8) => (.inl ((p.1 + c.toNat) % 65521, (p.2 + (p.1 + c.toNat) % 65521) % 65521) : (Nat × Nat) ⊕ (Int × Int))) (fun _ p => ((p.1 : Int), (p.2 : Int))) k s (a, b) = (((sumAB a b s).1 : Int), ((sumAB a b s).2 : Int)) := by
  induction s with
  | nil => intro k a b; rfl
  | cons c r ih => intro k a b; unfold eachF sumAB; exact ih (k + 1) _ _
theorem u32_in {n : Int} (h0 : 0 ≤ n) (h1 : n ≤ 4294967295) : IntKind.u32.wrap n = n := by
  simp only [IntKind.wrap, IntKind.signed, IntKind.bits]
  simp; omega
theorem tmod_nat (a b : Nat) : Int.tmod (a : Int) (b : Int) = ((a % b : Nat) : Int) := by
  rw [Int.tmod_eq_emod_of_nonneg (by omega)]; omega
theorem u8_lt (c : UInt8) : c.toNat < 256 := c.toNat_lt
theorem sum_loop {s : Str} (hl : s.length ≤ 1099511627776) : loop (fun (s51 : Int × Int × Int) => sum_Of_l2 s s51.1 s51.2.1 s51.2.2) ((0 : Int), (1 : Int), (0 : Int)) = some (((sumAB 1 0 s).1 : Int), ((sumAB 1 0 s).2 : Int)) := by
  have := each_loop (σ := Nat × Nat) s (fun k p => ((k : Int), (p.1 : Int), (p.2 : Int))) (fun (s51 : Int × Int × Int) => sum_Of_l2 s s51.1 s51.2.1 s51.2.2)
    (fun k (p : Nat × Nat) (c : UInt8) => (.inl ((p.1 + c.toNat) % 65521, (p.2 + (p.1 + c.toNat) % 65521) % 65521) : (Nat × Nat) ⊕ (Int × Int))) (fun _ p => ((p.1 : Int), (p.2 : Int))) (fun _ p => p.1 < 65521 ∧ p.2 < 65521)
    (fun k c p hk hp => by
      have hlt := lt_of_at hk
      have hc := u8_lt c
      simp only
      unfold sum_Of_l2
      rw [if_pos (show decide ((k : Int) < (s.length : Int)) = true by simpa using hlt), ix_at hk]
      simp only [Option.bind_some]
      unfold sum_Of_1
      simp only [Option.bind_some]
      rw [IntWalk.i64_in _ ⟨by omega, by omega⟩, u32_in (n := (c.toNat : Int)) (by omega) (by omega), u32_in (n := (p.1 : Int) + (c.toNat : Int)) (by omega) (by omega)]
      have e1 : Int.tmod ((p.1 : Int) + (c.toNat : Int)) 65521 = (((p.1 + c.toNat) % 65521 : Nat) : Int) := tmod_nat (p.1 + c.toNat) 65521
      rw [e1, u32_in (by omega) (by omega)]
      have e2 : Int.tmod ((p.2 : Int) + (((p.1 + c.toNat) % 65521 : Nat) : Int)) 65521 = (((p.2 + (p.1 + c.toNat) % 65521) % 65521 : Nat) : Int) := tmod_nat (p.2 + (p.1 + c.toNat) % 65521) 65521
      rw [e2]
      rfl)
    (fun k c p p' _ hp he => by injection he with he; subst he; exact ⟨Nat.mod_lt _ (by omega), Nat.mod_lt _ (by omega)⟩)
    (fun p _ => by
      simp only
      unfold sum_Of_l2
      rw [if_neg (by simp)]) (1, 0) ⟨by omega, by omega⟩
  simp only [Int.natCast_zero, Int.ofNat_eq_natCast] at this
  exact this.trans (by rw [sum_each])
theorem or_sum {a b : Nat} (ha : a < 65536) (hb : b < 65536) : (BitVec.ofInt 32 ((b : Int) * 65536) ||| BitVec.ofInt 32 (a : Int)).toNat = 65536 * b + a := by
  have e1 : (BitVec.ofInt 32 ((b : Int) * 65536)).toNat = b * 65536 := by rw [BitVec.toNat_ofInt]; omega
  have e2 : (BitVec.ofInt 32 (a : Int)).toNat = a := by rw [BitVec.toNat_ofInt]; omega
  rw [BitVec.toNat_or, e1, e2]
  have := Nat.shiftLeft_add_eq_or_of_lt (i := 16) (b := a) (by omega) b
  rw [Nat.shiftLeft_eq] at this
  rw [← this]
  omega
theorem of_eq {s : Str} (hl : s.length ≤ 1099511627776) : sum_Of s = some (sumN s : Int) := by
  have hb := sumAB_lt s 1 0 (by omega) (by omega)
  unfold sum_Of
  rw [sum_loop hl]
  simp only [Option.bind_some]
  have e1 : (min (16 : Int).toNat IntKind.u32.bits) = 16 := rfl
  have e2 : ((sumAB 1 0 s).2 : Int) * 2 ^ 16 = ((sumAB 1 0 s).2 : Int) * 65536 := by congr 1
  have e3 : IntKind.u32.bits = 32 := rfl
  rw [e1, e2, u32_in (n := ((sumAB 1 0 s).2 : Int) * 65536) (by omega) (by omega), e3, or_sum (by omega) (by omega), u32_in (by omega) (by omega)]
  rfl
/-! ### Sealed texts -/
def sealM (s : Str) : Str := textM s ++ numS (sumN s)
def openM (f : Str) (most : Int) : Str × Str × Int :=
  if (takeTextM f most).2.2 ≠ 0 then ([], [], (takeTextM f most).2.2) else
  if (takeNumM (takeTextM f most).2.1).2.2 ≠ 0 then ([], [], (takeNumM (takeTextM f most).2.1).2.2) else
  if (takeNumM (takeTextM f most).2.1).1 ≠ (sumN (takeTextM f most).1 : Int) then ([], [], 10) else
  ((takeTextM f most).1, (takeNumM (takeTextM f most).2.1).2.1, 0)
theorem textM_len {s : Str} (h : s.length ≤ 1099511627776) : (textM s).length ≤ s.length + 22 := by
  have := numS_len (n := s.length) (by omega)
  unfold textM; rw [List.length_append]; omega
theorem sealM_len {s : Str} (h : s.length ≤ 1099511627776) : (sealM s).length ≤ s.length + 44 := by
  have := textM_len h
  have := numS_len (n := sumN s) (by have := sumN_lt s; omega)
  unfold sealM; rw [List.length_append]; omega
theorem seal_eq {s : Str} (hl : s.length ≤ 1099511627776) : sum_Seal s = some (sealM s) := by
  have h0 := sumN_lt s
  have h1 := textM_len hl
  have h2 := numS_len (n := sumN s) (by omega)
  unfold sum_Seal
  rw [text_eq hl]
  simp only [Option.bind_some]
  rw [of_eq hl]
  simp only [Option.bind_some]
  rw [u64_in (by omega) (by omega), num_eq (by omega)]
  simp only [Option.bind_some]
  rw [need_pos (by omega)]
  rfl
theorem open_eq {f : Str} (hl : f.length ≤ 1099511627776) {most : Int} (hm : -9223372036854775808 ≤ most ∧ most ≤ 9223372036854775807) : sum_Open f most = some (openM f most) := by
  have h1 := takeTextM_len f most
  have h3 := takeNumM_nat (takeTextM f most).2.1
  have h4 := sumN_lt (takeTextM f most).1
  unfold sum_Open openM
  rw [takeText_eq hl hm]
  simp only [Option.bind_some]
  by_cases he : (takeTextM f most).2.2 = 0
  · rw [if_neg (show ¬ (takeTextM f most).2.2 ≠ 0 by simpa using he), if_neg (show ¬ (!decide ((takeTextM f most).2.2 = 0)) = true by simp [he]), takeNum_eq (by omega)]
    simp only [Option.bind_some]
    by_cases he2 : (takeNumM (takeTextM f most).2.1).2.2 = 0
    · rw [if_neg (show ¬ (takeNumM (takeTextM f most).2.1).2.2 ≠ 0 by simpa using he2), if_neg (show ¬ (!decide ((takeNumM (takeTextM f most).2.1).2.2 = 0)) = true by simp [he2]), of_eq (by omega)]
      simp only [Option.bind_some]
      rw [u64_in (by omega) (by omega)]
      by_cases he3 : (takeNumM (takeTextM f most).2.1).1 = (sumN (takeTextM f most).1 : Int)
      · rw [if_neg (show ¬ (takeNumM (takeTextM f most).2.1).1 ≠ (sumN (takeTextM f most).1 : Int) by simpa using he3), if_neg (show ¬ (!decide ((takeNumM (takeTextM f most).2.1).1 = (sumN (takeTextM f most).1 : Int))) = true by simp [he3])]
      · rw [if_pos (show (takeNumM (takeTextM f most).2.1).1 ≠ (sumN (takeTextM f most).1 : Int) from he3), if_pos (show (!decide ((takeNumM (takeTextM f most).2.1).1 = (sumN (takeTextM f most).1 : Int))) = true by simp [he3])]
    · rw [if_pos (show (takeNumM (takeTextM f most).2.1).2.2 ≠ 0 from he2), if_pos (show (!decide ((takeNumM (takeTextM f most).2.1).2.2 = 0)) = true by simp [he2])]
  · rw [if_pos (show (takeTextM f most).2.2 ≠ 0 from he), if_pos (show (!decide ((takeTextM f most).2.2 = 0)) = true by simp [he])]
theorem openM_len (f : Str) (most : Int) : (openM f most).1.length + (openM f most).2.1.length ≤ f.length := by
  have h1 := takeTextM_len f most
  have h2 := takeNumM_rest (takeTextM f most).2.1
  unfold openM
  split
  · simp
  · split
    · simp
    · split
      · simp
      · simp; omega
end Go.Ab
