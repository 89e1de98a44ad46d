/- Numbers and texts taken from bytes: program and document alike (plain). -/
import Derived.Test.YtgmejofagmfcfaaGreatDoorPDec1
namespace Go.Ab
set_option linter.unusedVariables false
set_option linter.unusedSimpArgs false

theorem head_at (s : Str) : s[0]? = s.head? := by cases s <;> rfl
theorem drop_at {s : Str} {n : Nat} (h : n < s.length) : s.drop n = s[n] :: s.drop (n + 1) := List.drop_eq_getElem_cons h
theorem cut_tail {s : Str} {n : Int} (h0 : 0 ≤ n) (h : n ≤ s.length) : cut s n (s.length : Int) = s.drop n.toNat := by
  unfold cut; rw [List.take_of_length_le (by omega)]
theorem cut_head (s : Str) (n : Int) : cut s 0 n = s.take n.toNat := by simp [cut]

theorem figs_loop {s : Str} (hl : s.length ≤ 1099511627776) : loop (fun (s153 : Int) => dec_TakeNum_l2 s s153) (0 : Int) = some ((figs s).length : Int) := by
  have := each_loop (σ := Unit) s (fun k _ => (k : Int)) (fun (s153 : Int) => dec_TakeNum_l2 s s153)
    (fun k (_ : Unit) (x : UInt8) => if isFig x then .inl () else .inr (k : Int)) (fun k _ => (k : Int)) (fun _ _ => True)
    (fun k c _ hk _ => by
      have hlt := lt_of_at hk
      unfold dec_TakeNum_l2
      rw [if_pos (show decide ((k : Int) < (s.length : Int)) = true by simpa using hlt), ix_at hk]
      simp only [Option.bind_some]
      rw [IntWalk.i64_in _ ⟨by omega, by omega⟩]
      cases hf : isFig c with
      | true =>
        rw [isFig_iff] at hf
        rw [if_neg (by simp; omega)]
        simp only [Option.bind_some]
        rw [if_neg (by simp; omega)]
        rfl
      | false =>
        have hn : ¬ (48 ≤ c.toNat ∧ c.toNat ≤ 57) := fun h => by rw [← isFig_iff, hf] at h; cases h
        by_cases h1 : (c.toNat : Int) < 48
        · rw [if_pos (by simpa using h1)]
          simp only [Option.bind_some]
          rfl
        · rw [if_neg (by simpa using h1)]
          simp only [Option.bind_some]
          rw [if_pos (by simp; omega)]
          rfl)
    (fun _ _ _ _ _ _ _ => trivial)
    (fun _ _ => by
      unfold dec_TakeNum_l2
      rw [if_neg (by simp)]) () trivial
  simp only [Int.natCast_zero, Int.ofNat_eq_natCast] at this
  rw [this, figs_each s 0]
  simp
theorem big_form {s : Str} (h : 20 < (figs s).length) : takeNumM s = (0, [], 3) := by unfold takeNumM; rw [if_pos (.inl h)]
theorem zero_form {s : Str} (h : 1 < (figs s).length ∧ s[0]? = some 48) : takeNumM s = (0, [], 3) := by unfold takeNumM; rw [if_pos (.inr (.inl h))]
theorem over_form {s : Str} (h : M64 ≤ valF 0 (figs s)) : takeNumM s = (0, [], 3) := by unfold takeNumM; rw [if_pos (.inr (.inr h))]
theorem more_form {s : Str} (h : ¬ (20 < (figs s).length ∨ (1 < (figs s).length ∧ s[0]? = some 48) ∨ M64 ≤ valF 0 (figs s))) (h2 : (figs s).length = s.length) : takeNumM s = (0, [], 2) := by
  unfold takeNumM; rw [if_neg h, h2, List.drop_length]
theorem odd_form {s : Str} {c : UInt8} (h : ¬ (20 < (figs s).length ∨ (1 < (figs s).length ∧ s[0]? = some 48) ∨ M64 ≤ valF 0 (figs s))) (h2 : s[(figs s).length]? = some c) (h3 : c ≠ 59 ∨ figs s = []) : takeNumM s = (0, [], 3) := by
  obtain ⟨hlt, he⟩ := List.getElem?_eq_some_iff.1 h2
  unfold takeNumM; rw [if_neg h, drop_at hlt, he]; simp only; rw [if_pos h3]
theorem good_form {s : Str} (h : ¬ (20 < (figs s).length ∨ (1 < (figs s).length ∧ s[0]? = some 48) ∨ M64 ≤ valF 0 (figs s))) (h2 : s[(figs s).length]? = some 59) (h3 : figs s ≠ []) : takeNumM s = ((valF 0 (figs s) : Int), s.drop ((figs s).length + 1), 0) := by
  obtain ⟨hlt, he⟩ := List.getElem?_eq_some_iff.1 h2
  unfold takeNumM; rw [if_neg h, drop_at hlt, he]; simp only; rw [if_neg (by simpa using h3)]

theorem takeNum_eq {s : Str} (hl : s.length ≤ 1099511627776) : dec_TakeNum s = some (takeNumM s) := by
  have hle := figs_le s
  have hm := m64
  unfold dec_TakeNum
  rw [figs_loop hl]
  simp only [Option.bind_some]
  by_cases h20 : 20 < (figs s).length
  · rw [if_pos (by simp; omega), big_form h20]
  · rw [if_neg (by simp; omega), need_pos (by omega), cut_head, Int.toNat_natCast, figs_take, told_eq figs_all (by omega)]
    have e48 : (if decide (((figs s).length : Int) > 1) = true then (ix s 0).bind fun x906 => some (decide ((x906.toNat : Int) = 48)) else some false) = some (decide (1 < (figs s).length ∧ s[0]? = some 48)) := by
      by_cases h1 : 1 < (figs s).length
      · rw [if_pos (by simp; omega), show (0 : Int) = ((0 : Nat) : Int) from rfl, ix_get (by omega)]
        simp only [Option.bind_some]
        congr 1
        rw [Bool.eq_iff_iff, decide_eq_true_iff, decide_eq_true_iff, toNat48, List.getElem?_eq_getElem (by omega)]
        simp [h1]
      · rw [if_neg (by simp; omega)]
        simp [h1]
    by_cases hv : valF 0 (figs s) < M64
    · rw [if_pos hv]
      simp only [Option.bind_some]
      rw [e48]
      simp only [Option.bind_some]
      by_cases hz : 1 < (figs s).length ∧ s[0]? = some 48
      · rw [if_pos (by simpa using hz), zero_form hz]; rfl
      · rw [if_neg (by simpa using hz), if_neg (by simp)]
        have hno : ¬ (20 < (figs s).length ∨ (1 < (figs s).length ∧ s[0]? = some 48) ∨ M64 ≤ valF 0 (figs s)) := by
          rintro (h | h | h)
          · exact h20 h
          · exact hz h
          · omega
        by_cases hend : (figs s).length = s.length
        · rw [if_neg (show ¬ decide (((figs s).length : Int) < (s.length : Int)) = true by simp; omega), more_form hno hend]
          simp only [Option.bind_some]
          rw [if_neg (by simp), if_pos (by simp; omega)]
          rfl
        · have hlt : (figs s).length < s.length := by omega
          have hg := List.getElem?_eq_getElem hlt
          rw [if_pos (show decide (((figs s).length : Int) < (s.length : Int)) = true by simp; omega)]
          by_cases h0 : figs s = []
          · rw [odd_form hno hg (.inr h0), if_pos (by simp [h0])]
            simp only [Option.bind_some]
            rfl
          · have hpos : 0 < (figs s).length := List.length_pos_iff.2 h0
            rw [if_neg (by simp; omega), ix_get hlt]
            simp only [Option.bind_some]
            by_cases hc : s[(figs s).length] = 59
            · rw [hc] at hg
              rw [good_form hno hg h0, if_neg (by simp [hc])]
              rw [if_neg (by simp; omega)]
              simp only [Option.bind_some]
              rw [IntWalk.i64_in _ ⟨by omega, by omega⟩, need_pos (by omega), cut_tail (by omega) (by omega)]
              rfl
            · rw [odd_form hno hg (.inl hc), if_pos (by simp [toNat59, hc])]
              simp only [Option.bind_some, if_true]
    · rw [if_neg hv]
      simp only [Option.bind_some]
      rw [e48, over_form (by omega)]
      simp only [Option.bind_some]
      by_cases hz : 1 < (figs s).length ∧ s[0]? = some 48
      · rw [if_pos (by simpa using hz)]; rfl
      · rw [if_neg (by simpa using hz), if_pos (by simp)]; rfl

end Go.Ab
