/- The law of openings (plain). -/
import Derived.Test.YtgmejofagmfcfaaGreatDoorPKv4
import Derived.Test.YtgmejofagmfcfaaGreatDoorPBnd
namespace Go.Ab
set_option linter.unusedVariables false
set_option linter.unusedSimpArgs false

theorem recs_len (l : List Str) : ∀ {s t : State}, recsM l s = some t → t.Data.length ≤ s.Data.length + sumL l ∧ t.Toks.length ≤ s.Toks.length + l.length := by
  induction l with
  | nil => intro s t h; unfold recsM at h; cases h; simp [sumL]
  | cons r l ih =>
    intro s t h
    unfold recsM at h
    split at h
    · cases h
    · have h1 := ih h
      have h2 := doB_len s (takeBt r).1
      have h3 := takeBt_facts r
      rw [sumL_cons, List.length_cons]; omega
theorem openK_ok {d : Disk} (h : DB d) : DB (openK d).1.D ∧ SOk (openK d).1.S := by
  have n0 : DB noStore.D ∧ SOk noStore.S := ⟨⟨⟨by decide, fun f hf => (by cases hf), by decide, by decide⟩, fun f hf => by cases hf⟩, ⟨by simp [noStore, noState], by simp [noStore, noState]⟩⟩
  unfold openK
  split
  · exact n0
  split
  · exact n0
  split
  · exact n0
  · have hb := basedM_len h (manOf d).2.1
    have hsum := recover_sum h (manOf d).1
    have hlen := recover_len h (manOf d).1
    cases hq : recsM (recoverM d (manOf d).1).2.1 (basedM d (manOf d).2.1).1 with
    | none => exact n0
    | some s =>
      have hl := recs_len _ hq
      exact ⟨recover_db h _, ⟨by simp only; omega, by simp only; omega⟩⟩
theorem law08_KvOpens_true (w : KvOpensIn) (o : okKvOpensIn w) (hb : bkKvOpensIn w ≤ 1048576) : law08_KvOpens w = some true := by
  unfold okKvOpensIn at o
  obtain ⟨o1, o2, o3⟩ := o
  unfold bkKvOpensIn at hb
  have hd := db_of o1 (by omega)
  have hk := openK_ok hd
  unfold law08_KvOpens
  rw [shown08]
  simp only [Option.bind_some]
  rw [open_eqK hd]
  simp only [Option.bind_some]
  rw [ropen_eqK hd]
  simp only [Option.bind_some]
  rw [rsamesto_eq hk.1.ok.len hk.2]
  simp only [Option.bind_some]
  rw [takeman_eq (by omega)]
  simp only [Option.bind_some]
  rw [rtakeman_eq (by omega)]
  simp only [Option.bind_some]
  rw [runnm_eq, rrunnm_eq, manif_eq o2 o3, rmanif_eq o2 o3]
  simp
end Go.Ab
