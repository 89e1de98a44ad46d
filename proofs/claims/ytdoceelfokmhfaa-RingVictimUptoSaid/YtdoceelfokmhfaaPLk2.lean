/- Spans that overlap, clash, cover: program and document alike (plain). -/
import Derived.Test.YtdoceelfokmhfaaPLk1
namespace Go.Ab
set_option linter.unusedVariables false
set_option linter.unusedSimpArgs false

theorem leS_refl (a : Str) : leS a a = true := by unfold leS; simp
theorem lt_not {a b : Str} (h : ltS a b = true) : ltS b a = false := by
  cases hb : ltS b a with
  | false => rfl
  | true => have := ltS_trans a h hb; rw [ltS_irr] at this; cases this
theorem lt_of_le {a b c : Str} (h : ltS b a = false) (k : ltS b c = true) : ltS a c = true := by
  rcases ltS_tri a b with h2 | rfl | h2
  · exact ltS_trans a h2 k
  · exact k
  · rw [h2] at h; cases h
theorem not_empty (w : Want) : emptyM w = false ↔ (w.Hi = [] ∨ ltS w.Lo w.Hi = true) := by
  unfold emptyM
  by_cases h : w.Hi = []
  · simp [h]
  · have h3 : leS w.Hi w.Lo = !ltS w.Lo w.Hi := by rw [Bool.eq_iff_iff, leS_iff]; simp
    rw [h3]; simp [h]
theorem inM_iff (w : Want) (k : Str) : inM w k = true ↔ ltS k w.Lo = false ∧ (w.Hi = [] ∨ ltS k w.Hi = true) := by
  unfold inM; simp
theorem in_ne {w : Want} {k : Str} (h : inM w k = true) : emptyM w = false := by
  rw [inM_iff] at h
  rw [not_empty]
  rcases h.2 with h2 | h2
  · exact .inl h2
  · exact .inr (lt_of_le h.1 h2)
theorem in_self (w : Want) : inM w w.Lo = !emptyM w := by
  rw [Bool.eq_iff_iff, inM_iff]
  simp only [Bool.not_eq_true']
  rw [not_empty, ltS_irr]
  simp
theorem rover_eq {a b : Want} (ha : wOk a) (hb : wOk b) : ref09_Overlap a b = some (overM a b) := by
  have key : (inM a (if ltS a.Lo b.Lo then b.Lo else a.Lo) && inM b (if ltS a.Lo b.Lo then b.Lo else a.Lo)) = overM a b := by
    unfold overM
    cases hl : ltS a.Lo b.Lo with
    | true =>
      simp only [if_true]
      rw [in_self b]
      have h2 : inM b a.Lo = false := by
        cases hi : inM b a.Lo with
        | false => rfl
        | true => rw [inM_iff] at hi; rw [hl] at hi; cases hi.1
      rw [h2]
      cases hi : inM a b.Lo with
      | false => simp
      | true => rw [in_ne hi]; simp
    | false =>
      simp only [Bool.false_eq_true, if_false]
      rw [in_self a]
      cases hi : inM b a.Lo with
      | true => rw [in_ne hi]; simp
      | false =>
        cases hj : inM a b.Lo with
        | false => simp
        | true =>
          rw [inM_iff] at hj
          rcases ltS_tri a.Lo b.Lo with h | h | h
          · rw [hl] at h; cases h
          · have : inM b a.Lo = !emptyM b := by rw [h, in_self]
            rw [hi] at this
            cases he : emptyM b with
            | true => simp
            | false => rw [he] at this; cases this
          · rw [h] at hj; cases hj.1
  unfold ref09_Overlap
  have hlen : (if ltS a.Lo b.Lo = true then b.Lo else a.Lo).length ≤ 1099511627776 := by split; exact hb.1; exact ha.1
  rw [less_eq ha.1]
  simp only [Option.bind_some]
  rw [rin_eq ha hlen, rin_eq hb hlen]
  simp only [Option.bind_some]
  rw [← key]
  cases inM a (if ltS a.Lo b.Lo = true then b.Lo else a.Lo) <;> simp
theorem rclash_eq {a b : Want} (ha : wOk a) (hb : wOk b) : ref09_Clash a b = some (clashM a b) := by
  unfold ref09_Clash clashM
  rw [rover_eq ha hb]
  cases overM a b <;> by_cases h1 : a.Mode = 2 <;> by_cases h2 : b.Mode = 2 <;> simp [h1, h2]
theorem over_comm (a b : Want) : overM a b = overM b a := by
  unfold overM
  cases emptyM a <;> cases emptyM b <;> cases inM a b.Lo <;> cases inM b a.Lo <;> rfl
theorem clash_comm (a b : Want) : clashM a b = clashM b a := by
  unfold clashM
  rw [over_comm a b, Bool.or_comm (decide (a.Mode = 2))]

def covM (a b : Want) : Bool := mayM2 b && !(decide (a.Mode ≠ 2) && decide (b.Mode = 2)) && (leS a.Lo b.Lo && (decide (a.Hi = []) || (decide (b.Hi ≠ []) && leS b.Hi a.Hi)))
theorem cov_eq (a b : Want) : span_Covers a b = some (covM a b) := by
  have hs : a = b → (leS a.Lo b.Lo && (decide (a.Hi = []) || (decide (b.Hi ≠ []) && leS b.Hi a.Hi))) = true := by
    rintro rfl
    rw [leS_refl, leS_refl]
    by_cases h : a.Hi = [] <;> simp [h]
  unfold span_Covers covM
  rw [smay_eq]
  simp only [Option.bind_some]
  cases hm : mayM2 b with
  | false => rfl
  | true =>
    rw [if_neg (by simp)]
    by_cases h1 : a.Mode ≠ 2 ∧ b.Mode = 2
    · rw [if_pos (by simpa using h1)]; simp [h1]
    · rw [if_neg (by simpa using h1)]
      have h1' : (decide (a.Mode ≠ 2) && decide (b.Mode = 2)) = false := by
        rw [Bool.eq_false_iff]; simpa using h1
      rw [h1']
      by_cases he : a = b
      · rw [if_pos (by simpa using he), hs he]; rfl
      · rw [if_neg (by simpa using he)]
        simp only [Option.bind_some]
        change (if leS a.Lo b.Lo = true then _ else _) = _
        cases leS a.Lo b.Lo with
        | false => simp
        | true =>
          rw [if_pos rfl]
          by_cases h : a.Hi = []
          · simp [h]
          · by_cases h2 : b.Hi = []
            · simp [h, h2]
            · rw [if_neg (by simpa using h), if_pos (by simpa using h2)]
              change some (leS b.Hi a.Hi) = _
              simp [h, h2]
theorem rcov_eq {a b : Want} (ha : wOk a) (hb : wOk b) : ref09_Covers a b = some (covM a b) := by
  unfold ref09_Covers covM
  rw [rmay_eq hb]
  simp only [Option.bind_some]
  cases hm : mayM2 b with
  | false => simp
  | true =>
    by_cases h1 : a.Mode ≠ 2 ∧ b.Mode = 2
    · rw [if_pos (by simpa using h1)]; simp [h1]
    · have h1' : (decide (a.Mode ≠ 2) && decide (b.Mode = 2)) = false := by
        rw [Bool.eq_false_iff]; simpa using h1
      rw [h1', if_neg (by simpa using h1), rin_eq ha hb.1]
      simp only [Option.bind_some]
      have hle : leS a.Lo b.Lo = !ltS b.Lo a.Lo := by rw [Bool.eq_iff_iff, leS_iff]; simp
      have hne : emptyM b = false := by
        unfold mayM2 at hm
        cases he : emptyM b with
        | false => rfl
        | true => rw [he] at hm; simp at hm
      rw [not_empty] at hne
      rw [hle]
      unfold inM
      cases hl : ltS b.Lo a.Lo with
      | true => simp
      | false =>
        by_cases h : a.Hi = []
        · simp [h]
        · by_cases h2 : b.Hi = []
          · simp [h, h2, less_eq ha.2]
          · have h4 : leS b.Hi a.Hi = !ltS a.Hi b.Hi := by rw [Bool.eq_iff_iff, leS_iff]; simp
            have h5 : ltS b.Lo b.Hi = true := by
              rcases hne with h | h
              · exact absurd h h2
              · exact h
            rw [h4]
            cases h6 : ltS a.Hi b.Hi with
            | true =>
              cases ltS b.Lo a.Hi <;> simp [h, h2, less_eq ha.2, h6]
            | false =>
              have h7 : ltS b.Lo a.Hi = true := by
                rcases ltS_tri b.Hi a.Hi with h8 | h8 | h8
                · exact ltS_trans b.Lo h5 h8
                · rw [← h8]; exact h5
                · rw [h8] at h6; cases h6
              simp [h, h2, less_eq ha.2, h6, h7]
end Go.Ab
