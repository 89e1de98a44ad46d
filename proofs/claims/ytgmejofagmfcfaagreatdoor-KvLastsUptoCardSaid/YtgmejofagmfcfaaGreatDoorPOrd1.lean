/- Texts in order (plain). -/
import Derived.Test.YtgmejofagmfcfaaGreatDoorW
namespace Go.Ab
set_option linter.unusedVariables false
set_option linter.unusedSimpArgs false

theorem ix_in {α : Type} {l : List α} {k : Nat} (h : k < l.length) : ix l (k : Int) = some l[k] := by unfold ix; simp [h]
theorem ltS_nil (a : Str) : ltS a [] = false := by cases a <;> rfl
theorem ltS_cons (a b : UInt8) (x y : Str) : ltS (a :: x) (b :: y) = (decide (a < b) || (a == b && ltS x y)) := rfl
theorem ltS_irr (a : Str) : ltS a a = false := by
  induction a with
  | nil => rfl
  | cons c r ih => rw [ltS_cons, ih]; simp
theorem ltS_tri (a : Str) : ∀ b, ltS a b = true ∨ a = b ∨ ltS b a = true := by
  induction a with
  | nil => intro b; cases b with
    | nil => exact .inr (.inl rfl)
    | cons c r => exact .inl rfl
  | cons c r ih =>
    intro b
    cases b with
    | nil => exact .inr (.inr rfl)
    | cons d s =>
      rw [ltS_cons, ltS_cons]
      rcases Nat.lt_trichotomy c.toNat d.toNat with h | h | h
      · exact .inl (by simp [UInt8.lt_iff_toNat_lt, h])
      · have : c = d := UInt8.toNat_inj.1 h
        subst this
        rcases ih s with h | h | h
        · exact .inl (by simp [h])
        · exact .inr (.inl (by rw [h]))
        · exact .inr (.inr (by simp [h]))
      · exact .inr (.inr (by simp [UInt8.lt_iff_toNat_lt, h]))
theorem ltS_trans (a : Str) : ∀ {b c : Str}, ltS a b = true → ltS b c = true → ltS a c = true := by
  induction a with
  | nil =>
    intro b c h1 h2
    cases c with
    | nil => rw [ltS_nil] at h2; cases h2
    | cons d s => rfl
  | cons x r ih =>
    intro b c h1 h2
    cases b with
    | nil => rw [ltS_nil] at h1; cases h1
    | cons y s =>
      cases c with
      | nil => rw [ltS_nil] at h2; cases h2
      | cons z t =>
        rw [ltS_cons] at *
        simp only [Bool.or_eq_true, Bool.and_eq_true, decide_eq_true_eq, beq_iff_eq, UInt8.lt_iff_toNat_lt] at *
        rcases h1 with h1 | ⟨rfl, h1⟩ <;> rcases h2 with h2 | ⟨rfl, h2⟩
        · exact .inl (by omega)
        · exact .inl h1
        · exact .inl h2
        · exact .inr ⟨rfl, ih h1 h2⟩
theorem less_loop (a b : Str) (ha : a.length ≤ 1099511627776) : ∀ (m k : Nat), k + m = a.length → k ≤ b.length →
    ((loop (fun (s167 : Int) => ref01_Less_l2 a b s167) (k : Int)).bind fun (y163 : (Bool) ⊕ (Unit)) =>
      match y163 with
      | (.inl v165) => some v165
      | (.inr v166) => some (decide ((a.length : Int) < (b.length : Int)))) = some (ltS (a.drop k) (b.drop k)) := by
  intro m
  induction m with
  | zero =>
    intro k hk hb
    have e : a.drop k = [] := List.drop_eq_nil_of_le (by omega)
    rw [loop_inr (r := .inr ())]
    · simp only [Option.bind_some]
      rw [e]
      by_cases hl : k < b.length
      · rw [List.drop_eq_getElem_cons hl]
        simp [ltS, Op.bytesLess]; omega
      · rw [List.drop_eq_nil_of_le (by omega), ltS_nil]
        simp; omega
    · unfold ref01_Less_l2
      rw [if_neg (by simp; omega)]
  | succ m ih =>
    intro k hk hb
    have hka : k < a.length := by omega
    by_cases hl : k < b.length
    · have hstep : ref01_Less_l2 a b (k : Int) = if a[k] = b[k] then some (.inl ((k + 1 : Nat) : Int)) else some (.inr (.inl (decide ((a[k].toNat : Int) < (b[k].toNat : Int))))) := by
        unfold ref01_Less_l2
        rw [if_pos (by simp; omega), ix_in hka]
        simp only [Option.bind_some]
        rw [ix_in hl]
        simp only [Option.bind_some]
        by_cases he : a[k] = b[k]
        · rw [if_neg (by simp [he]), if_pos he, IntWalk.i64_in _ ⟨by omega, by omega⟩]; rfl
        · rw [if_pos (by
            simp only [Bool.not_eq_true', decide_eq_false_iff_not]
            intro h; exact he (UInt8.toNat_inj.1 (by omega))), if_neg he]
      rw [List.drop_eq_getElem_cons hka, List.drop_eq_getElem_cons hl, ltS_cons]
      by_cases he : a[k] = b[k]
      · rw [if_pos he] at hstep
        rw [loop_inl hstep, ih (k + 1) (by omega) (by omega), he]
        simp
      · rw [if_neg he] at hstep
        rw [loop_inr hstep]
        simp only [Option.bind_some]
        congr 1
        have : (a[k] == b[k]) = false := by simpa using he
        rw [this]
        simp [UInt8.lt_iff_toNat_lt]
    · rw [loop_inr (r := .inr ())]
      · simp only [Option.bind_some]
        rw [List.drop_eq_nil_of_le (show b.length ≤ k by omega), ltS_nil]
        simp; omega
      · unfold ref01_Less_l2
        rw [if_neg (by simp; omega)]
theorem rless_eq {a b : Str} (ha : a.length ≤ 1099511627776) : ref01_Less a b = some (ltS a b) := by
  have := less_loop a b ha a.length 0 (by omega) (by omega)
  unfold ref01_Less
  simp only [Int.natCast_zero, Int.ofNat_eq_natCast, List.drop_zero] at this
  exact this
end Go.Ab
