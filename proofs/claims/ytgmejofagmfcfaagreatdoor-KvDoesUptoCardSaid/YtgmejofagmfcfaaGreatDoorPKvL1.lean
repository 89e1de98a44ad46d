/- The law of commits (plain). -/
import Derived.Test.YtgmejofagmfcfaaGreatDoorPKv3
import Derived.Test.YtgmejofagmfcfaaGreatDoorPBnd
namespace Go.Ab
set_option linter.unusedVariables false
set_option linter.unusedSimpArgs false

theorem pairs_bk {l : List Pair} {n : Nat} (h : sumOf (fun v => bkPair v) l + 1 ≤ n) : l.length ≤ n ∧ KeysOk l ∨ 1099511627776 < n := by
  by_cases hn : n ≤ 1099511627776
  · refine .inl ⟨?_, fun p hp => ?_⟩
    · have := sumOf_len (f := fun v => bkPair v) (fun x => by unfold bkPair; omega) l
      omega
    · have := sumOf_mem (f := fun v => bkPair v) hp
      have e : p.Key.length ≤ bkPair p := by unfold bkPair; omega
      omega
  · exact .inr (by omega)
theorem store_ok {x : Store} (o : okStore x) (b : bkStore x ≤ 1048576) : StoOk x ∧ x.S.Data.length ≤ 1048576 ∧ x.S.Toks.length ≤ 1048576 ∧ KeysOk x.S.Data ∧ KeysOk x.S.Toks := by
  have o' := o
  unfold okStore at o'
  obtain ⟨o1, o2, o3, o4⟩ := o'
  unfold bkStore at b
  have bs : bkState x.S ≤ 1048576 := by omega
  unfold bkState at bs
  have h1 := pairs_bk (l := x.S.Data) (n := 1048576) (by omega)
  have h2 := pairs_bk (l := x.S.Toks) (n := 1048576) (by omega)
  rcases h1 with h1 | h1
  · rcases h2 with h2 | h2
    · exact ⟨⟨db_of o1 (by omega), ⟨by omega, by omega⟩, o3⟩, h1.1, h2.1, h1.2, h2.2⟩
    · omega
  · omega
theorem batch_ok {b : Batch} (h : bkBatch b ≤ 1048576) : BOk b := by
  unfold bkBatch at h
  intro w hw
  have := sumOf_mem (f := fun v => bkWrite v) hw
  have e : w.Key.length ≤ bkWrite w := by unfold bkWrite; omega
  omega
theorem law08_KvCommits_true (x : Store) (b : Batch) (o : okStore x) (ob : okBatch b) (hb : bkStore x + bkBatch b ≤ 1048576) : law08_KvCommits x b = some true := by
  obtain ⟨hx, hd, ht, _, _⟩ := store_ok o (by omega)
  have hbo := batch_ok (b := b) (by omega)
  have hst := commit_state x b
  have hso : SOk (doB x.S b).1 := by
    have := doB_ok hd ht b
    exact ⟨by omega, by omega⟩
  unfold law08_KvCommits
  rw [shown08, commit_eqK hx]
  simp only [Option.bind_some]
  by_cases h0 : (commitK x b).2 = 0
  · rw [if_neg (by simpa using h0), rdo_eq hx.s hbo]
    simp only [Option.bind_some]
    obtain ⟨h1, h2⟩ := hst.2 h0
    rw [if_pos trivial, if_pos (by simpa using h2), rsamest_eq hso, h1]
    simp
  · rw [if_pos (by simpa using h0), if_pos trivial, rsamest_eq hx.s, hst.1 h0]
    simp
end Go.Ab
