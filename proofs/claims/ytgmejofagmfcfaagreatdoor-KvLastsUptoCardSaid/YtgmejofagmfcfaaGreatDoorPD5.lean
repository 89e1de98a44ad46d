/- Disks, plainly: renames, deletes, fuses. -/
import Derived.Test.YtgmejofagmfcfaaGreatDoorPD4
namespace Go.Ab
set_option linter.unusedVariables false
set_option linter.unusedSimpArgs false

/-! ### One file less -/
def delF (fs : List File) (name : Str) : List File := fs.eraseIdx (idxI fs name).toNat
theorem del_split {fs : List File} {name : Str} (h : has fs name = true) : ∃ l r, fs = l ++ fileAt fs name :: r ∧ delF fs name = l ++ r ∧ (idxI fs name).toNat = l.length := by
  obtain ⟨g1, g2, g3, g4⟩ := idxI_get h
  refine ⟨fs.take (idxI fs name).toNat, fs.drop ((idxI fs name).toNat + 1), ?_, ?_, ?_⟩
  · have e : fs[(idxI fs name).toNat] = fileAt fs name := by rw [List.getElem?_eq_getElem g2] at g3; exact Option.some.inj g3
    rw [← e, ← List.drop_eq_getElem_cons g2, List.take_append_drop]
  · unfold delF; rw [List.eraseIdx_eq_take_drop_succ]
  · rw [List.length_take]; omega
theorem del_has {fs : List File} {name n : Str} (h : has fs name = true) (hn : n ≠ name) : has (delF fs name) n = has fs n := by
  obtain ⟨l, r, e1, e2, _⟩ := del_split h
  have hf := (idxI_get h).2.2.2
  have : isF n (fileAt fs name) = false := by unfold isF; rw [hf]; simpa using fun x => hn x.symm
  rw [e2]
  conv => rhs; rw [e1]
  unfold has
  rw [List.any_append, List.any_append, List.any_cons, this]
  simp
theorem del_at {fs : List File} {name n : Str} (h : has fs name = true) (hn : n ≠ name) : fileAt (delF fs name) n = fileAt fs n := by
  obtain ⟨l, r, e1, e2, _⟩ := del_split h
  have hf := (idxI_get h).2.2.2
  have : isF n (fileAt fs name) = false := by unfold isF; rw [hf]; simpa using fun x => hn x.symm
  rw [e2]
  have key : (l ++ r).find? (isF n) = (l ++ fileAt fs name :: r).find? (isF n) := by
    rw [List.find?_append, List.find?_append, List.find?_cons, this]
  unfold fileAt at key ⊢
  rw [key]
  have e3 : List.find? (isF n) (l ++ (List.find? (isF name) fs).getD noFile :: r) = List.find? (isF n) fs := by
    have := e1
    unfold fileAt at this
    rw [← this]
  rw [e3]
theorem del_len {fs : List File} {name : Str} (h : has fs name = true) : (delF fs name).length + 1 = fs.length := by
  have g := (idxI_get h).2.1
  unfold delF
  rw [List.length_eraseIdx_of_lt g]; omega
theorem del_mem {fs : List File} {name : Str} {f : File} (h : f ∈ delF fs name) : f ∈ fs := List.mem_of_mem_eraseIdx h

def lessM (d : Disk) (name : Str) : Disk := { d with Files := delF d.Files name, Room := IntKind.i64.wrap (d.Room + fsize (fileAt d.Files name)) }
theorem without_eq {d : Disk} (h : DOk d) {name : Str} (hh : has d.Files name = true) : disk_without d (idxI d.Files name) = some (lessM d name) := by
  obtain ⟨g1, g2, g3, g4⟩ := idxI_get hh
  have hl := h.lenS
  have hi : ((idxI d.Files name).toNat : Int) = idxI d.Files name := Int.toNat_of_nonneg g1
  unfold disk_without lessM delF
  rw [idxI_ix hh]
  simp only [Option.bind_some]
  rw [size_eq (fsize_at h name)]
  simp only [Option.bind_some]
  have e : IntKind.i64.wrap (idxI d.Files name + 1) = idxI d.Files name + 1 := w64_in (by omega) (by omega)
  rw [e, need_pos (by omega), need_pos (by omega), List.eraseIdx_eq_take_drop_succ]
  have e2 : (idxI d.Files name + 1).toNat = (idxI d.Files name).toNat + 1 := by omega
  rw [e2]
theorem less_ok {d : Disk} (h : DOk d) {name : Str} (hh : has d.Files name = true) : DOk (lessM d name) := by
  refine ⟨?_, fun f hf => h.size f (del_mem hf), wrap_in _, h.fuse⟩
  have := del_len hh
  have := h.lenS
  simp only [lessM]
  omega

/-! ### The power for a change -/
def powerM (d : Disk) : Disk × Bool := if d.Fuse = 0 then ({ d with Off := true }, false) else ({ d with Fuse := if 0 < d.Fuse then d.Fuse - 1 else d.Fuse }, true)
theorem power_files (d : Disk) : (powerM d).1.Files = d.Files := by unfold powerM; split <;> rfl
theorem power_room (d : Disk) : (powerM d).1.Room = d.Room := by unfold powerM; split <;> rfl
theorem power_ok {d : Disk} (h : DOk d) : DOk (powerM d).1 := by
  refine ⟨by rw [power_files]; exact h.lenS, by rw [power_files]; exact h.size, by rw [power_room]; exact h.room, ?_⟩
  have := h.fuse
  unfold powerM
  split
  · exact h.fuse
  · simp only; split <;> omega
theorem change_eq {d : Disk} (h : DOk d) : disk_change d = some (powerM d) := by
  have hf := h.fuse
  unfold disk_change powerM
  by_cases h0 : d.Fuse = 0
  · simp [h0]
  · by_cases h1 : 0 < d.Fuse
    · rw [w64_in (by omega) (by omega)]; simp [h0, h1]
    · simp [h0, h1]
/-! ### Renames -/
def lostM (d : Disk) (name : Str) : Disk := if has d.Files name then lessM d name else d
def renameM (d : Disk) (a b : Str) : Disk × Int :=
  if d.Off then (d, 6) else if named b = false then (d, 1) else if has d.Files a = false then (d, 7) else if a = b then (d, 0) else
  if (powerM d).2 = false then ((powerM d).1, 6) else
  ({ lostM (powerM d).1 b with Files := setF (lostM (powerM d).1 b).Files a ⟨b, (fileAt d.Files a).Safe, (fileAt d.Files a).Wait⟩ }, 0)
def deleteM (d : Disk) (name : Str) : Disk × Int :=
  if d.Off then (d, 6) else if has d.Files name = false then (d, 7) else if (powerM d).2 = false then ((powerM d).1, 6) else (lessM (powerM d).1 name, 0)
def armM (d : Disk) (fuse : Int) : Disk := { d with Fuse := if fuse < -1 then -1 else fuse }

theorem lost_ok {d : Disk} (h : DOk d) (name : Str) : DOk (lostM d name) := by
  unfold lostM
  split
  · rename_i hh; exact less_ok h hh
  · exact h
theorem lost_has {d : Disk} {name n : Str} (hn : n ≠ name) : has (lostM d name).Files n = has d.Files n := by
  unfold lostM
  split
  · rename_i hh; exact del_has hh hn
  · rfl
theorem lost_at {d : Disk} {name n : Str} (hn : n ≠ name) : fileAt (lostM d name).Files n = fileAt d.Files n := by
  unfold lostM
  split
  · rename_i hh; exact del_at hh hn
  · rfl
theorem lost_fuse (d : Disk) (name : Str) : (lostM d name).Fuse = d.Fuse ∧ (lostM d name).Off = d.Off := by
  unfold lostM
  split <;> exact ⟨rfl, rfl⟩
theorem disk_eta (d : Disk) : ({ Files := d.Files, Room := d.Room, Fuse := d.Fuse, Off := d.Off } : Disk) = d := rfl

theorem rename_eq {d : Disk} (h : DOk d) (a b : Str) : disk_Rename d a b = some (renameM d a b) := by
  unfold disk_Rename renameM
  rw [named_eq, at_eq h.len, change_eq h]
  simp only [Option.bind_some]
  by_cases c1 : d.Off = true
  · rw [if_pos c1, if_pos c1]
  · rw [if_neg c1, if_neg c1]
    cases c2 : named b with
    | false => rfl
    | true =>
      rw [if_neg (show ¬ (!true) = true by simp), if_neg (show ¬ true = false by simp)]
      cases c3 : has d.Files a with
      | false => rw [if_pos (show decide (idxI d.Files a < 0) = true by have := idxI_neg.2 c3; simpa using this)]; rfl
      | true =>
        rw [if_neg (show ¬ decide (idxI d.Files a < 0) = true by have := idxI_pos c3; simpa using this), if_neg (show ¬ true = false by simp)]
        by_cases c4 : a = b
        · rw [if_pos (show decide (a = b) = true by simpa using c4), if_pos c4]
        · rw [if_neg (show ¬ decide (a = b) = true by simpa using c4), if_neg c4]
          cases c5 : (powerM d).2 with
          | false => rfl
          | true =>
            rw [if_neg (show ¬ (!true) = true by simp), if_neg (show ¬ true = false by simp)]
            have ho := power_ok h
            have hl := lost_ok ho b
            rw [at_eq ho.len]
            simp only [Option.bind_some]
            have e : (if decide (idxI (powerM d).1.Files b ≥ 0) = true then (disk_without (powerM d).1 (idxI (powerM d).1.Files b)).bind fun y36 => some (y36.Files, y36.Room, y36.Fuse, y36.Off)
                else some ((powerM d).1.Files, (powerM d).1.Room, (powerM d).1.Fuse, (powerM d).1.Off)) = some ((lostM (powerM d).1 b).Files, (lostM (powerM d).1 b).Room, (lostM (powerM d).1 b).Fuse, (lostM (powerM d).1 b).Off) := by
              unfold lostM
              cases hb : has (powerM d).1.Files b with
              | true => rw [if_pos (show decide (idxI (powerM d).1.Files b ≥ 0) = true by have := (idxI_get hb).1; simpa using this), without_eq ho hb]; rfl
              | false => rw [if_neg (show ¬ decide (idxI (powerM d).1.Files b ≥ 0) = true by have := idxI_neg.2 hb; simpa using this)]; rfl
            rw [e]
            simp only [Option.bind_some]
            rw [at_eq (d := { Files := (lostM (powerM d).1 b).Files, Room := (lostM (powerM d).1 b).Room, Fuse := (lostM (powerM d).1 b).Fuse, Off := (lostM (powerM d).1 b).Off }) hl.len]
            simp only [Option.bind_some]
            have hh : has (lostM (powerM d).1 b).Files a = true := by rw [lost_has c4, power_files]; exact c3
            have g := idxI_get hh
            have hf : fileAt (lostM (powerM d).1 b).Files a = fileAt d.Files a := by rw [lost_at c4, power_files]
            rw [idxI_ix hh]
            simp only [Option.bind_some]
            rw [set_eq hl.len g.1 g.2.1, hf]
            rfl
theorem delete_eq {d : Disk} (h : DOk d) (name : Str) : disk_Delete d name = some (deleteM d name) := by
  unfold disk_Delete deleteM
  rw [at_eq h.len, change_eq h]
  simp only [Option.bind_some]
  by_cases c1 : d.Off = true
  · rw [if_pos c1, if_pos c1]
  · rw [if_neg c1, if_neg c1]
    cases c3 : has d.Files name with
    | false => rw [if_pos (show decide (idxI d.Files name < 0) = true by have := idxI_neg.2 c3; simpa using this)]; rfl
    | true =>
      rw [if_neg (show ¬ decide (idxI d.Files name < 0) = true by have := idxI_pos c3; simpa using this), if_neg (show ¬ true = false by simp)]
      cases c5 : (powerM d).2 with
      | false => rfl
      | true =>
        rw [if_neg (show ¬ (!true) = true by simp), if_neg (show ¬ true = false by simp)]
        have ho := power_ok h
        rw [at_eq ho.len]
        simp only [Option.bind_some]
        rw [without_eq ho (by rw [power_files]; exact c3)]
        rfl
theorem arm_eq (d : Disk) (fuse : Int) : disk_Arm d fuse = some (armM d fuse) := rfl
theorem rename_ok {d : Disk} (h : DOk d) (a b : Str) : DOk (renameM d a b).1 := by
  unfold renameM
  by_cases c1 : d.Off = true
  · rw [if_pos c1]; exact h
  rw [if_neg c1]
  by_cases c2 : named b = false
  · rw [if_pos c2]; exact h
  rw [if_neg c2]
  by_cases c3 : has d.Files a = false
  · rw [if_pos c3]; exact h
  rw [if_neg c3]
  by_cases c4 : a = b
  · rw [if_pos c4]; exact h
  rw [if_neg c4]
  by_cases c5 : (powerM d).2 = false
  · rw [if_pos c5]; exact power_ok h
  rw [if_neg c5]
  have hl := lost_ok (power_ok h) b
  refine ⟨by simpa [setF_len] using hl.lenS, fun f hf => ?_, hl.room, hl.fuse⟩
  rcases setF_mem hf with hf | rfl
  · exact hl.size f hf
  · exact fsize_at h a
theorem delete_ok {d : Disk} (h : DOk d) (name : Str) : DOk (deleteM d name).1 := by
  unfold deleteM
  by_cases c1 : d.Off = true
  · rw [if_pos c1]; exact h
  rw [if_neg c1]
  by_cases c3 : has d.Files name = false
  · rw [if_pos c3]; exact h
  rw [if_neg c3]
  by_cases c5 : (powerM d).2 = false
  · rw [if_pos c5]; exact power_ok h
  rw [if_neg c5]
  exact less_ok (power_ok h) (by rw [power_files]; simpa using c3)
theorem arm_ok {d : Disk} (h : DOk d) {fuse : Int} (hf : -9223372036854775808 ≤ fuse ∧ fuse ≤ 9223372036854775807) : DOk (armM d fuse) := by
  refine ⟨h.lenS, h.size, h.room, ?_⟩
  simp only [armM]
  split <;> omega

/-! ### The law of moves -/
end Go.Ab
