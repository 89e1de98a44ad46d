/- What is opened of a disk, by the document; stores that are the same (plain). -/
import Derived.Test.YtgmejofagmfcfaaGreatDoorPKv3
namespace Go.Ab
set_option linter.unusedVariables false
set_option linter.unusedSimpArgs false

theorem rsamesto_eq {a b : Store} (hd : a.D.Files.length ≤ 2000000000) (hs : SOk a.S) : ref08_Same a b = some (decide (a = b)) := by
  unfold ref08_Same
  rw [rsame_eq hd]
  simp only [Option.bind_some]
  rw [rsamest_eq hs]
  simp only [Option.bind_some]
  obtain ⟨aD, aF, aSg, aR, aS, aDn⟩ := a
  obtain ⟨bD, bF, bSg, bR, bS, bDn⟩ := b
  simp only [Store.mk.injEq]
  by_cases h1 : aD = bD
  · by_cases h2 : aS = bS
    · by_cases h3 : aF = bF
      · by_cases h4 : aSg = bSg
        · by_cases h5 : aR = bR
          · simp [h1, h2, h3, h4, h5]; cases aDn <;> cases bDn <;> rfl
          · simp [h1, h2, h3, h4, h5]
        · simp [h1, h2, h3, h4]
      · simp [h1, h2, h3]
    · simp [h1, h2]
  · simp [h1]
theorem recs_len (l : List Str) : ∀ {s t : State}, recsM l s = some t → t.Data.length ≤ s.Data.length + sumL l ∧ t.Toks.length ≤ s.Toks.length + l.length := by
  induction l with
  | nil => intro s t h; unfold recsM at h; cases h; simp [sumL]
  | cons r l ih =>
    intro s t h
    unfold recsM at h
    split at h
    · cases h
    · have h1 := ih h
      have h2 := doB_len s (takeBt r).1
      have h3 := takeBt_facts r
      rw [sumL_cons, List.length_cons]; omega
theorem openK_ok {d : Disk} (h : DB d) : DB (openK d).1.D ∧ SOk (openK d).1.S := by
  have n0 : DB noStore.D ∧ SOk noStore.S := ⟨⟨⟨by decide, fun f hf => (by cases hf), by decide, by decide⟩, fun f hf => by cases hf⟩, ⟨by simp [noStore, noState], by simp [noStore, noState]⟩⟩
  unfold openK
  split
  · exact n0
  split
  · exact n0
  split
  · exact n0
  · have hb := basedM_len h (manOf d).2.1
    have hsum := recover_sum h (manOf d).1
    have hlen := recover_len h (manOf d).1
    cases hq : recsM (recoverM d (manOf d).1).2.1 (basedM d (manOf d).2.1).1 with
    | none => exact n0
    | some s =>
      have hl := recs_len _ hq
      exact ⟨recover_db h _, ⟨by simp only; omega, by simp only; omega⟩⟩
end Go.Ab
