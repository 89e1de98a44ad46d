/- Disks, plainly: the laws of acts, of what is apart and of what is whole. -/
import Derived.Test.YtgmejofagmfcfaaGreatDoorPD5
namespace Go.Ab
set_option linter.unusedVariables false
set_option linter.unusedSimpArgs false

/-! ### One act -/
/-! ### What is done with one file changes no other one -/
theorem with_other {fs : List File} {name n : Str} (hn : n ≠ name) : has (withF fs name) n = has fs n ∧ fileAt (withF fs name) n = fileAt fs n := by
  unfold withF
  split
  · exact ⟨rfl, rfl⟩
  · have hf : isF n (⟨name, [], []⟩ : File) = false := by unfold isF; simpa using fun x => hn x.symm
    constructor
    · unfold has; rw [List.any_append]; simp [hf]
    · unfold fileAt; rw [List.find?_append]; simp [List.find?_cons, hf]
theorem set_split {fs : List File} {name : Str} (h : has fs name = true) (f : File) : ∃ l r, fs = l ++ fileAt fs name :: r ∧ setF fs name f = l ++ f :: r := by
  obtain ⟨l, r, e1, e2, e3⟩ := del_split h
  refine ⟨l, r, e1, ?_⟩
  unfold setF
  rw [e3]
  conv => lhs; rw [e1]
  rw [List.set_append_right _ _ (Nat.le_refl _), Nat.sub_self]
  rfl
theorem setF_apart {fs : List File} {name n : Str} {f : File} (h : has fs name = true) (hn : n ≠ name) (hf : f.Name ≠ n) : has (setF fs name f) n = has fs n ∧ fileAt (setF fs name f) n = fileAt fs n := by
  obtain ⟨l, r, e1, e2⟩ := set_split h f
  have h1 : isF n (fileAt fs name) = false := by unfold isF; rw [(idxI_get h).2.2.2]; simpa using fun x => hn x.symm
  have h2 : isF n f = false := by unfold isF; simpa using hf
  generalize fileAt fs name = x at e1 h1
  rw [e2, e1]
  constructor
  · unfold has; rw [List.any_append, List.any_append, List.any_cons, List.any_cons, h1, h2]
  · unfold fileAt; rw [List.find?_append, List.find?_append, List.find?_cons, List.find?_cons, h1, h2]
theorem append_apart {d : Disk} {name s n : Str} (hn : n ≠ name) : has (appendM d name s).1.Files n = has d.Files n ∧ fileAt (appendM d name s).1.Files n = fileAt d.Files n := by
  unfold appendM
  split
  · exact ⟨rfl, rfl⟩
  split
  · exact ⟨rfl, rfl⟩
  split
  · exact ⟨rfl, rfl⟩
  split
  · exact ⟨rfl, rfl⟩
  simp only
  have a := setF_apart (f := ⟨name, (fileAt d.Files name).Safe, (fileAt d.Files name).Wait ++ torn d.Fuse s⟩) (has_with d.Files name) hn (fun x => hn x.symm)
  have b := with_other (fs := d.Files) hn
  rw [a.1, a.2]
  exact b
theorem sync_apart {d : Disk} {name n : Str} (hn : n ≠ name) : has (syncM d name).1.Files n = has d.Files n ∧ fileAt (syncM d name).1.Files n = fileAt d.Files n := by
  unfold syncM
  split
  · exact ⟨rfl, rfl⟩
  split
  · exact ⟨rfl, rfl⟩
  · rename_i h1 h2
    have hh : has d.Files name = true := by simpa using h2
    simp only
    exact setF_apart hh hn (by simp only; rw [(idxI_get hh).2.2.2]; exact fun x => hn x.symm)
theorem rename_apart {d : Disk} {a b n : Str} (ha : n ≠ a) (hb : n ≠ b) : has (renameM d a b).1.Files n = has d.Files n ∧ fileAt (renameM d a b).1.Files n = fileAt d.Files n := by
  unfold renameM
  split
  · exact ⟨rfl, rfl⟩
  split
  · exact ⟨rfl, rfl⟩
  split
  · exact ⟨rfl, rfl⟩
  rename_i c1 c2 c3
  split
  · exact ⟨rfl, rfl⟩
  rename_i c4
  split
  · rw [power_files]; exact ⟨rfl, rfl⟩
  simp only
  have hh : has (lostM (powerM d).1 b).Files a = true := by rw [lost_has c4, power_files]; simpa using c3
  have e := setF_apart (f := ⟨b, (fileAt d.Files a).Safe, (fileAt d.Files a).Wait⟩) hh ha (fun x => hb x.symm)
  rw [e.1, e.2, lost_has hb, lost_at hb, power_files]
  exact ⟨rfl, rfl⟩
theorem delete_apart {d : Disk} {name n : Str} (hn : n ≠ name) : has (deleteM d name).1.Files n = has d.Files n ∧ fileAt (deleteM d name).1.Files n = fileAt d.Files n := by
  unfold deleteM
  split
  · exact ⟨rfl, rfl⟩
  split
  · exact ⟨rfl, rfl⟩
  rename_i c1 c3
  split
  · rw [power_files]; exact ⟨rfl, rfl⟩
  simp only [lessM, power_files]
  have hh : has d.Files name = true := by simpa using c3
  exact ⟨del_has hh hn, del_at hh hn⟩
end Go.Ab
