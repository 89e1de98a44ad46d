/- The log: what a put, a sync, a recovery and a drop come to: program and document alike (plain). -/
import Derived.Test.YtgmejofagmfcfaaGreatDoorPWal1
namespace Go.Ab
set_option linter.unusedVariables false
set_option linter.unusedSimpArgs false

/-- A disk that is not beyond the bounds of the statements. -/
structure DB (d : Disk) : Prop where
  ok : DOk d
  small : ∀ f ∈ d.Files, fsize f ≤ 1048576
theorem db_at {d : Disk} (h : DB d) (name : Str) : fsize (fileAt d.Files name) ≤ 1048576 := by
  cases hh : has d.Files name with
  | true => exact h.small _ (fileAt_mem hh)
  | false => rw [fileAt_none hh]; simp [noFile, fsize]
theorem db_read {d : Disk} (h : DB d) (n : Str) : (readM d n).1.length ≤ 1048576 := by
  have := db_at h n
  unfold fsize at this
  unfold readM
  split
  · simp only [List.length_append]; exact this
  · simp
theorem append_db {d : Disk} (h : DB d) (name s : Str) (hs : s.length ≤ 1099511627776) : DB (appendM d name s).1 := by
  refine ⟨append_ok2 h.ok name s hs, ?_⟩
  unfold appendM
  split
  · exact h.small
  split
  · exact h.small
  split
  · exact h.small
  split
  · exact h.small
  rename_i c4
  have t1 := torn_le d.Fuse s
  intro f hm
  rcases setF_mem hm with hm | rfl
  · unfold withF at hm
    split at hm
    · exact h.small f hm
    · rcases List.mem_append.1 hm with hm | hm
      · exact h.small f hm
      · simp at hm; subst hm; simp [fsize]
  · unfold fsize at *
    simp only [List.length_append]
    omega
theorem sync_db {d : Disk} (h : DB d) (name : Str) : DB (syncM d name).1 := by
  refine ⟨sync_ok h.ok name, ?_⟩
  unfold syncM
  split
  · exact h.small
  split
  · exact h.small
  · rename_i h1 h2
    have hh : has d.Files name = true := by simpa using h2
    intro f hm
    rcases setF_mem hm with hm | rfl
    · exact h.small f hm
    · have := db_at h name
      unfold fsize at *
      simp only [List.length_append, List.length_nil]; omega
theorem delete_db {d : Disk} (h : DB d) (name : Str) : DB (deleteM d name).1 := by
  refine ⟨delete_ok h.ok name, ?_⟩
  unfold deleteM
  split
  · exact h.small
  split
  · exact h.small
  split
  · rw [power_files]; exact h.small
  · intro f hm
    simp only [lessM, power_files] at hm
    exact h.small f (del_mem hm)
theorem lost_small {d : Disk} (h : ∀ f ∈ d.Files, fsize f ≤ 1048576) (name : Str) : ∀ f ∈ (lostM d name).Files, fsize f ≤ 1048576 := by
  unfold lostM
  split
  · intro f hm; exact h f (del_mem hm)
  · exact h
theorem rename_db {d : Disk} (h : DB d) (a b : Str) : DB (renameM d a b).1 := by
  refine ⟨rename_ok h.ok a b, ?_⟩
  unfold renameM
  split
  · exact h.small
  split
  · exact h.small
  split
  · exact h.small
  split
  · exact h.small
  split
  · rw [power_files]; exact h.small
  · intro f hm
    rcases setF_mem hm with hm | rfl
    · exact lost_small (by rw [power_files]; exact h.small) b f hm
    · have := db_at h a
      unfold fsize at *
      simp only; omega
theorem crash_db {d : Disk} (h : DB d) (keeps : List Int) : DB (crashM d keeps) := by
  refine ⟨crash_ok h.ok keeps, fun f hm => ?_⟩
  unfold crashM at hm
  simp only at hm
  obtain ⟨i, hi, rfl⟩ := List.mem_mapIdx.1 hm
  have := h.small _ (List.getElem_mem hi)
  have hk := keep_le keeps i d.Files[i]
  unfold fsize at *
  simp only [crashF, List.length_append, List.length_take, List.length_nil]
  omega
theorem arm_db {d : Disk} (h : DB d) {fuse : Int} (hf : -9223372036854775808 ≤ fuse ∧ fuse ≤ 9223372036854775807) : DB (armM d fuse) := ⟨arm_ok h.ok hf, h.small⟩
theorem clear_db {d : Disk} (h : DB d) (fr : Str) : DB (clearM d fr).1 := by
  unfold clearM; split
  · exact delete_db h fr
  · exact h
theorem lay2_db {d : Disk} (h : DB d) (fr s : Str) (hs : s.length ≤ 1099511627776) : DB (lay2 d fr s).1 := by
  unfold lay2; split
  · exact clear_db h fr
  · exact append_db (clear_db h fr) fr s hs
theorem lay3_db {d : Disk} (h : DB d) (fr s : Str) (hs : s.length ≤ 1099511627776) : DB (lay3 d fr s).1 := by
  unfold lay3; split
  · exact lay2_db h fr s hs
  · exact sync_db (lay2_db h fr s hs) fr
theorem lay_db {d : Disk} (h : DB d) (name s : Str) (hs : s.length ≤ 1099511627776) : DB (layM d name s).1 := by
  unfold layM; split
  · exact lay3_db h _ s hs
  · exact rename_db (lay3_db h _ s hs) _ _

/-! ### Puts and syncs -/
def wputM (d : Disk) (seg : Int) (rec : Str) : Disk × Int × Int :=
  if mayM seg = false then (d, seg, 1) else if 2048 < rec.length then (d, seg, 4) else
  if 256 ≤ (readM d (nameM seg)).1.length then
    if (syncM d (nameM seg)).2 ≠ 0 then ((syncM d (nameM seg)).1, seg, (syncM d (nameM seg)).2) else
    if mayM (seg + 1) = false then ((syncM d (nameM seg)).1, seg, 5) else
    ((appendM (syncM d (nameM seg)).1 (nameM (seg + 1)) (sealM rec)).1, seg + 1, (appendM (syncM d (nameM seg)).1 (nameM (seg + 1)) (sealM rec)).2)
  else ((appendM d (nameM seg) (sealM rec)).1, seg, (appendM d (nameM seg) (sealM rec)).2)
def wsyncM (d : Disk) (seg : Int) : Disk × Int := if has d.Files (nameM seg) = false then (d, 0) else syncM d (nameM seg)
abbrev In64 (n : Int) : Prop := -9223372036854775808 ≤ n ∧ n ≤ 9223372036854775807
theorem put_eq {d : Disk} (h : DOk d) {seg : Int} (hs : In64 seg) (rec : Str) : wal_Put d seg rec = some (wputM d seg rec) := by
  unfold wal_Put wputM
  rw [may_eq]
  simp only [Option.bind_some]
  cases hm : mayM seg with
  | false => rfl
  | true =>
    rw [if_neg (by simp), if_neg (show ¬ true = false by simp)]
    by_cases hr : 2048 < rec.length
    · rw [if_pos (show decide ((rec.length : Int) > 2048) = true by simp; omega), if_pos hr]
    · have hsl := sealM_len (s := rec) (by omega)
      rw [if_neg (show ¬ decide ((rec.length : Int) > 2048) = true by simp; omega), if_neg hr, name_eq hs]
      simp only [Option.bind_some]
      rw [read_eq h]
      simp only [Option.bind_some]
      have hb := mayM_iff.1 hm
      by_cases h6 : 256 ≤ (readM d (nameM seg)).1.length
      · rw [if_pos (show decide (((readM d (nameM seg)).1.length : Int) ≥ 256) = true by simp; omega), if_pos h6, sync_eq h]
        simp only [Option.bind_some]
        by_cases hz : (syncM d (nameM seg)).2 = 0
        · rw [if_pos (show decide ((syncM d (nameM seg)).2 = 0) = true by simp [hz]), IntWalk.i64_in (seg + 1) ⟨by omega, by omega⟩, may_eq]
          simp only [Option.bind_some]
          rw [if_neg (show ¬ (syncM d (nameM seg)).2 ≠ 0 by simpa using hz)]
          cases hm2 : mayM (seg + 1) with
          | true =>
            rw [if_pos rfl]
            simp only [Option.bind_some]
            rw [name_eq ⟨by omega, by omega⟩]
            simp only [Option.bind_some]
            rw [seal_eq (by omega)]
            simp only [Option.bind_some]
            rw [append_eq (sync_ok h _) _ _ (by omega)]
            rfl
          | false =>
            rw [if_neg (by simp), if_pos (show decide ((syncM d (nameM seg)).2 = 0) = true by simp [hz])]
            rfl
        · rw [if_neg (show ¬ decide ((syncM d (nameM seg)).2 = 0) = true by simp [hz]), if_pos (show (syncM d (nameM seg)).2 ≠ 0 from hz)]
          simp only [Option.bind_some]
          rw [if_neg (by simp), if_neg (show ¬ decide ((syncM d (nameM seg)).2 = 0) = true by simp [hz])]
          rfl
      · rw [if_neg (show ¬ decide (((readM d (nameM seg)).1.length : Int) ≥ 256) = true by simp; omega), if_neg h6]
        simp only [Option.bind_some]
        rw [name_eq hs]
        simp only [Option.bind_some]
        rw [seal_eq (by omega)]
        simp only [Option.bind_some]
        rw [append_eq h _ _ (by omega)]
        rfl
theorem wsync_eq {d : Disk} (h : DOk d) {seg : Int} (hs : In64 seg) : wal_Sync d seg = some (wsyncM d seg) := by
  unfold wal_Sync wsyncM
  rw [name_eq hs]
  simp only [Option.bind_some]
  rw [find_eq h.len]
  simp only [Option.bind_some]
  cases hh : has d.Files (nameM seg) with
  | false => rfl
  | true => rw [if_neg (by simp), if_neg (by simp), sync_eq h]; rfl
theorem put_db {d : Disk} (h : DB d) (seg : Int) (rec : Str) : DB (wputM d seg rec).1 := by
  unfold wputM
  split
  · exact h
  split
  · exact h
  rename_i hr
  have hsl := sealM_len (s := rec) (by omega)
  split
  · split
    · exact sync_db h _
    split
    · exact sync_db h _
    · exact append_db (sync_db h _) _ _ (by omega)
  · exact append_db h _ _ (by omega)
theorem wsync_db {d : Disk} (h : DB d) (seg : Int) : DB (wsyncM d seg).1 := by
  unfold wsyncM
  split
  · exact h
  · exact sync_db h _

/-! ### Cutting -/
def cutTail : Nat → Disk → Int → Disk × Int
  | 0, d, _ => (d, 0)
  | n + 1, d, k => if has d.Files (nameM k) = false then (d, 0) else if (deleteM d (nameM k)).2 ≠ 0 then deleteM d (nameM k) else cutTail n (deleteM d (nameM k)).1 (k + 1)
def wcutM (d : Disk) (seg : Int) (s : Str) : Disk × Int :=
  if (lay3 d newN s).2 ≠ 0 then lay3 d newN s else
  if (renameM (lay3 d newN s).1 newN (nameM seg)).2 ≠ 0 then renameM (lay3 d newN s).1 newN (nameM seg) else
  cutTail (1000000 - seg).toNat (renameM (lay3 d newN s).1 newN (nameM seg)).1 (seg + 1)
theorem tail_db (n : Nat) : ∀ {d : Disk} (h : DB d) (k : Int), DB (cutTail n d k).1 := by
  induction n with
  | zero => intro d h k; exact h
  | succ n ih =>
    intro d h k
    unfold cutTail
    split
    · exact h
    split
    · exact delete_db h _
    · exact ih (delete_db h _) _
theorem cut_db {d : Disk} (h : DB d) (seg : Int) (s : Str) (hs : s.length ≤ 1099511627776) : DB (wcutM d seg s).1 := by
  unfold wcutM
  split
  · exact lay3_db h _ _ hs
  split
  · exact rename_db (lay3_db h _ _ hs) _ _
  · exact tail_db _ (rename_db (lay3_db h _ _ hs) _ _) _
theorem cut_stop (e k : Int) (d : Disk) (he : e ≠ 0) : loop (fun (s765 : Int × Int × (List File) × Int × Int × Bool) => wal_cut_l2 s765.1 s765.2.1 s765.2.2.1 s765.2.2.2.1 s765.2.2.2.2.1 s765.2.2.2.2.2) (e, k, d.Files, d.Room, d.Fuse, d.Off) = some (e, d.Files, d.Room, d.Fuse, d.Off) := by
  refine loop_inr ?_
  simp only
  unfold wal_cut_l2
  rw [if_neg (show ¬ decide (e = 0) = true by simpa using he)]
  rfl
theorem cut_loop (n : Nat) : ∀ (d : Disk) (k : Int), DOk d → 1 ≤ k → k + n = 1000001 →
    loop (fun (s765 : Int × Int × (List File) × Int × Int × Bool) => wal_cut_l2 s765.1 s765.2.1 s765.2.2.1 s765.2.2.2.1 s765.2.2.2.2.1 s765.2.2.2.2.2) (0, k, d.Files, d.Room, d.Fuse, d.Off) = some ((cutTail n d k).2, (cutTail n d k).1.Files, (cutTail n d k).1.Room, (cutTail n d k).1.Fuse, (cutTail n d k).1.Off) := by
  induction n with
  | zero =>
    intro d k h h1 hk
    refine loop_inr ?_
    simp only
    unfold wal_cut_l2
    have : mayM k = false := by unfold mayM; simp; omega
    rw [if_pos (show decide ((0 : Int) = 0) = true from rfl), may_eq, this]
    rfl
  | succ n ih =>
    intro d k h h1 hk
    have hm : mayM k = true := by rw [mayM_iff]; omega
    have hs : wal_cut_l2 0 k d.Files d.Room d.Fuse d.Off = if has d.Files (nameM k) = false then some (.inr (0, d.Files, d.Room, d.Fuse, d.Off)) else
        some (.inl ((deleteM d (nameM k)).2, k + 1, (deleteM d (nameM k)).1.Files, (deleteM d (nameM k)).1.Room, (deleteM d (nameM k)).1.Fuse, (deleteM d (nameM k)).1.Off)) := by
      unfold wal_cut_l2
      rw [if_pos (show decide ((0 : Int) = 0) = true from rfl), may_eq, hm]
      simp only [Option.bind_some]
      rw [if_pos trivial, name_eq ⟨by omega, by omega⟩]
      simp only [Option.bind_some]
      rw [find_eq h.len]
      simp only [Option.bind_some]
      cases hh : has d.Files (nameM k) with
      | false => rfl
      | true =>
        rw [if_neg (by simp), if_neg (by simp), delete_eq h, IntWalk.i64_in _ ⟨by omega, by omega⟩]
        rfl
    unfold cutTail
    by_cases hh : has d.Files (nameM k) = false
    · rw [if_pos hh] at hs ⊢
      exact loop_inr hs
    · rw [if_neg hh] at hs ⊢
      rw [loop_inl hs]
      by_cases hz : (deleteM d (nameM k)).2 = 0
      · rw [if_neg (by simpa using hz), hz]
        exact ih _ _ (delete_ok h _) (by omega) (by omega)
      · rw [if_pos hz]
        exact cut_stop _ _ _ hz
theorem cut_eq {d : Disk} (h : DOk d) {seg : Int} (hm : mayM seg = true) (s : Str) (hs : s.length ≤ 1099511627776) : wal_cut d seg s = some (wcutM d seg s) := by
  have hb := mayM_iff.1 hm
  unfold wal_cut wcutM
  rw [find_eq h.len]
  simp only [Option.bind_some]
  have e1 : (if has d.Files [119, 46, 110, 101, 119] = true then (disk_Delete d [119, 46, 110, 101, 119]).bind fun y23 =>
      if (!(decide (y23.2 = 0))) = true then some ((.inr (y23.2, y23.1.Files, y23.1.Room, y23.1.Fuse, y23.1.Off)) : ((List File) × Int × Int × Bool) ⊕ (Int × (List File) × Int × Int × Bool))
      else some (.inl (y23.1.Files, y23.1.Room, y23.1.Fuse, y23.1.Off))
    else some (.inl (d.Files, d.Room, d.Fuse, d.Off))) =
    some (if (clearM d newN).2 ≠ 0 then .inr ((clearM d newN).2, (clearM d newN).1.Files, (clearM d newN).1.Room, (clearM d newN).1.Fuse, (clearM d newN).1.Off) else .inl ((clearM d newN).1.Files, (clearM d newN).1.Room, (clearM d newN).1.Fuse, (clearM d newN).1.Off)) := by
    unfold clearM
    change (if has d.Files newN = true then _ else _) = _
    cases hh : has d.Files newN with
    | true =>
      rw [if_pos rfl, if_pos rfl]
      change ((disk_Delete d newN).bind _) = _
      rw [delete_eq h]
      simp only [Option.bind_some]
      by_cases hz : (deleteM d newN).2 = 0
      · rw [if_neg (by simp [hz]), if_neg (by simp [hz])]
      · rw [if_pos (by simp [hz]), if_pos hz]
    | false => rfl
  rw [e1]
  simp only [Option.bind_some]
  unfold lay3 lay2
  by_cases hz : (clearM d newN).2 = 0
  · rw [if_neg (show ¬ (clearM d newN).2 ≠ 0 by simpa using hz), if_neg (show ¬ (clearM d newN).2 ≠ 0 by simpa using hz)]
    simp only
    change ((disk_Append (clearM d newN).1 newN s).bind _) = _
    have k1 := clear_ok h newN
    rw [append_eq k1 _ s hs]
    simp only [Option.bind_some]
    by_cases hz2 : (appendM (clearM d newN).1 newN s).2 = 0
    · rw [if_neg (show ¬ (!decide ((appendM (clearM d newN).1 newN s).2 = 0)) = true by simp [hz2]), if_neg (show ¬ (appendM (clearM d newN).1 newN s).2 ≠ 0 by simpa using hz2)]
      change ((disk_Sync (appendM (clearM d newN).1 newN s).1 newN).bind _) = _
      have k2 := append_ok2 k1 newN s hs
      rw [sync_eq k2]
      simp only [Option.bind_some]
      by_cases hz3 : (syncM (appendM (clearM d newN).1 newN s).1 newN).2 = 0
      · rw [if_neg (show ¬ (!decide ((syncM (appendM (clearM d newN).1 newN s).1 newN).2 = 0)) = true by simp [hz3]), if_neg (show ¬ (syncM (appendM (clearM d newN).1 newN s).1 newN).2 ≠ 0 by simpa using hz3), name_eq ⟨by omega, by omega⟩]
        simp only [Option.bind_some]
        change ((disk_Rename (syncM (appendM (clearM d newN).1 newN s).1 newN).1 newN (nameM seg)).bind _) = _
        have k3 := sync_ok k2 newN
        rw [rename_eq k3]
        simp only [Option.bind_some]
        rw [IntWalk.i64_in _ ⟨by omega, by omega⟩]
        by_cases hz4 : (renameM (syncM (appendM (clearM d newN).1 newN s).1 newN).1 newN (nameM seg)).2 = 0
        · rw [if_neg (show ¬ (renameM (syncM (appendM (clearM d newN).1 newN s).1 newN).1 newN (nameM seg)).2 ≠ 0 by simpa using hz4), hz4, cut_loop (1000000 - seg).toNat _ _ (rename_ok k3 _ _) (by omega) (by omega)]
          rfl
        · rw [if_pos (show (renameM (syncM (appendM (clearM d newN).1 newN s).1 newN).1 newN (nameM seg)).2 ≠ 0 from hz4), cut_stop _ _ _ hz4]
          rfl
      · rw [if_pos (show (!decide ((syncM (appendM (clearM d newN).1 newN s).1 newN).2 = 0)) = true by simp [hz3]), if_pos (show (syncM (appendM (clearM d newN).1 newN s).1 newN).2 ≠ 0 from hz3)]
    · rw [if_pos (show (!decide ((appendM (clearM d newN).1 newN s).2 = 0)) = true by simp [hz2]), if_pos (show (appendM (clearM d newN).1 newN s).2 ≠ 0 from hz2), if_pos (show (appendM (clearM d newN).1 newN s).2 ≠ 0 from hz2)]
  · rw [if_pos (show (clearM d newN).2 ≠ 0 from hz), if_pos (show (clearM d newN).2 ≠ 0 from hz), if_pos (show (clearM d newN).2 ≠ 0 from hz), if_pos (show (clearM d newN).2 ≠ 0 from hz)]
end Go.Ab
