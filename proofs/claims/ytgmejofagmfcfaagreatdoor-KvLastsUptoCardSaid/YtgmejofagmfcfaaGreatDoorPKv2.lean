/- What a commit, a crash and a fuse make of a store: the program is the model; what is shown (plain). -/
import Derived.Test.YtgmejofagmfcfaaGreatDoorPKv1
namespace Go.Ab
set_option linter.unusedVariables false
set_option linter.unusedSimpArgs false

def commitK (x : Store) (b : Batch) : Store × Int :=
  if x.Down = true then (x, 6) else
  if (bytesB b).2 ≠ 0 then (x, (bytesB b).2) else
  if hasK x.S.Toks b.Token = true then (x, 8) else
  if (wputM x.D x.Seg (bytesB b).1).2.2 ≠ 0 then (⟨(wputM x.D x.Seg (bytesB b).1).1, x.From, (wputM x.D x.Seg (bytesB b).1).2.1, x.Run, x.S, decide ((wputM x.D x.Seg (bytesB b).1).2.2 = 6)⟩, (wputM x.D x.Seg (bytesB b).1).2.2) else
  if (wsyncM (wputM x.D x.Seg (bytesB b).1).1 (wputM x.D x.Seg (bytesB b).1).2.1).2 ≠ 0 then (⟨(wsyncM (wputM x.D x.Seg (bytesB b).1).1 (wputM x.D x.Seg (bytesB b).1).2.1).1, x.From, (wputM x.D x.Seg (bytesB b).1).2.1, x.Run, x.S, decide ((wsyncM (wputM x.D x.Seg (bytesB b).1).1 (wputM x.D x.Seg (bytesB b).1).2.1).2 = 6)⟩, (wsyncM (wputM x.D x.Seg (bytesB b).1).1 (wputM x.D x.Seg (bytesB b).1).2.1).2) else
  (⟨(wsyncM (wputM x.D x.Seg (bytesB b).1).1 (wputM x.D x.Seg (bytesB b).1).2.1).1, x.From, (wputM x.D x.Seg (bytesB b).1).2.1, x.Run, (doB x.S b).1, false⟩, 0)
theorem wput_seg {d : Disk} {seg : Int} (hs : In64 seg) (rec : Str) : In64 (wputM d seg rec).2.1 := by
  unfold In64 at *
  unfold wputM
  split
  · exact hs
  rename_i hm
  have hb := mayM_iff.1 (show mayM seg = true by simpa using hm)
  split
  · exact hs
  split
  · split
    · exact hs
    split
    · exact hs
    · simp only; omega
  · exact hs
theorem fails_ways (e : Int) : kv_fails e = some (if e = 0 then .inl () else if e = 6 then .inr (.inl e) else .inr (.inr e)) := by
  unfold kv_fails
  by_cases h0 : e = 0
  · simp [h0]
  · by_cases h6 : e = 6
    · simp [h6]
    · simp [h0, h6]
/-- A store that is within the bounds. -/
structure StoOk (x : Store) : Prop where
  d : DB x.D
  s : SOk x.S
  seg : In64 x.Seg
theorem bytesB_err (b : Batch) : (bytesB b).2 = 0 ∨ (bytesB b).2 = 1 := by unfold bytesB; split <;> simp
theorem commit_eqK {x : Store} (h : StoOk x) (b : Batch) : kv_Commit x b = some (commitK x b) := by
  have hseg := wput_seg (d := x.D) h.seg (bytesB b).1
  unfold kv_Commit commitK
  rw [bbytes_eq]
  simp only [Option.bind_some]
  cases hd : x.Down with
  | true => rfl
  | false =>
    simp only [Bool.false_eq_true, if_false]
    by_cases c1 : (bytesB b).2 ≠ 0
    · rw [if_pos c1, if_pos (by simpa using c1)]
    rw [if_neg c1, if_neg (by simpa using c1), decided_eq h.s]
    simp only [Option.bind_some, findM_has]
    cases hk : hasK x.S.Toks b.Token with
    | true => rfl
    | false =>
      simp only [Bool.false_eq_true, if_false]
      rw [put_eq h.d.ok h.seg]
      simp only [Option.bind_some]
      rw [fails_ways]
      simp only [Option.bind_some]
      generalize hp : wputM x.D x.Seg (bytesB b).1 = p at hseg ⊢
      by_cases c2 : p.2.2 = 0
      · have hpd : DOk p.1 := by rw [← hp]; exact (put_db h.d x.Seg _).ok
        rw [if_pos c2, if_neg (by simp [c2])]
        simp only
        rw [wsync_eq hpd hseg]
        simp only [Option.bind_some]
        rw [fails_ways]
        simp only [Option.bind_some]
        generalize hq : wsyncM p.1 p.2.1 = q
        by_cases c3 : q.2 = 0
        · rw [if_pos c3, if_neg (by simp [c3])]
          simp only
          rw [do_eq h.s]; rfl
        · rw [if_neg c3, if_pos c3]
          by_cases c4 : q.2 = 6
          · rw [if_pos c4]
            simp [kv_told, c4]
          · rw [if_neg c4]
            simp [kv_told_2, c4]
      · rw [if_neg c2, if_pos c2]
        by_cases c4 : p.2.2 = 6
        · rw [if_pos c4]
          simp [kv_told, c4]
        · rw [if_neg c4]
          simp [kv_told_2, c4]
def crashK (x : Store) (keeps : List Int) : Store × Int := openK (crashM x.D keeps)
theorem crash_eqK {x : Store} (h : DB x.D) (keeps : List Int) : kv_Crash x keeps = some (crashK x keeps) := by
  unfold kv_Crash crashK
  rw [crash_eq h.ok]
  simp only [Option.bind_some]
  rw [open_eqK (crash_db h keeps)]; rfl
def armK (x : Store) (fuse : Int) : Store := ⟨armM x.D fuse, x.From, x.Seg, x.Run, x.S, x.Down⟩
theorem arm_eqK (x : Store) (fuse : Int) : kv_Arm x fuse = some (armK x fuse) := rfl
/-- What a commit leaves of the state. -/
theorem commit_state (x : Store) (b : Batch) : ((commitK x b).2 ≠ 0 → (commitK x b).1.S = x.S) ∧ ((commitK x b).2 = 0 → (commitK x b).1.S = (doB x.S b).1 ∧ (doB x.S b).2 = 0) := by
  unfold commitK
  split
  · simp
  split
  · rename_i h; exact ⟨fun _ => rfl, fun h2 => absurd h2 h⟩
  split
  · simp
  split
  · rename_i h; exact ⟨fun _ => rfl, fun h2 => absurd h2 h⟩
  split
  · rename_i h; exact ⟨fun _ => rfl, fun h2 => absurd h2 h⟩
  · rename_i h1 h2 h3 _ _
    refine ⟨fun h => absurd rfl h, fun _ => ⟨rfl, ?_⟩⟩
    have hm : mayB b = true := by
      cases hm : mayB b with
      | true => rfl
      | false => exfalso; apply h2; unfold bytesB; rw [hm]; simp
    unfold doB
    rw [if_neg (by rw [hm]; simp), if_neg h3]
end Go.Ab
