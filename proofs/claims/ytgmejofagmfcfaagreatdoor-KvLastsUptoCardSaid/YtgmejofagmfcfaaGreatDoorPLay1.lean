/- Files told by how many bear a name; a file that is laid in one step: program and document alike (plain). -/
import Derived.Test.YtgmejofagmfcfaaGreatDoorPD7
import Derived.Test.YtgmejofagmfcfaaGreatDoorPDec4
namespace Go.Ab
set_option linter.unusedVariables false
set_option linter.unusedSimpArgs false

theorem append_ok2 {d : Disk} (h : DOk d) (name s : Str) (hs : s.length ≤ 1099511627776) : DOk (appendM d name s).1 := by
  unfold appendM
  split
  · exact h
  split
  · exact h
  split
  · exact h
  rename_i c1 c2 c3
  split
  · exact h
  rename_i c4
  have t1 := torn_le d.Fuse s
  have hroom : ¬ d.Room < s.length := fun x => c3 (.inr x)
  have hr := h.room
  have hf := h.fuse
  have hll := h.lenS
  have hwl : (withF d.Files name).length ≤ 1073741824 := by
    unfold withF
    cases hh : has d.Files name with
    | true => simpa using hll
    | false =>
      have : ¬ 64 ≤ d.Files.length := fun x => c3 (.inl ⟨hh, x⟩)
      simp; omega
  refine ⟨by simp only [setF_len]; exact hwl, fun f hm => ?_, ⟨by simp only; omega, by simp only; omega⟩, ?_⟩
  · rcases setF_mem hm with hm | rfl
    · unfold withF at hm
      split at hm
      · exact h.size f hm
      · rcases List.mem_append.1 hm with hm | hm
        · exact h.size f hm
        · simp at hm; subst hm; simp [fsize]
    · have := fsize_at h name
      unfold fsize at *
      simp only [List.length_append]
      omega
  · simp only
    split <;> omega

/-! ### How many files bear a name -/
def cnt (fs : List File) (n : Str) : Nat := (fs.map (·.Name)).count n
theorem has_cnt {fs : List File} {n : Str} : has fs n = false ↔ cnt fs n = 0 := by
  unfold cnt
  rw [List.count_eq_zero, has_false]
  simp
theorem cnt_cons (f : File) (r : List File) (n : Str) : cnt (f :: r) n = (if f.Name = n then 1 else 0) + cnt r n := by
  unfold cnt
  rw [List.map_cons, List.count_cons]
  by_cases h : f.Name = n <;> simp [h, Nat.add_comm]
theorem cnt_append (l r : List File) (n : Str) : cnt (l ++ r) n = cnt l n + cnt r n := by
  unfold cnt; rw [List.map_append, List.count_append]
theorem cnt_names {fs gs : List File} (h : fs.map (·.Name) = gs.map (·.Name)) (n : Str) : cnt fs n = cnt gs n := by unfold cnt; rw [h]
theorem del_cnt {fs : List File} {name : Str} (h : has fs name = true) (n : Str) : cnt (delF fs name) n + (if name = n then 1 else 0) = cnt fs n := by
  obtain ⟨l, r, e1, e2, _⟩ := del_split h
  have hn := (idxI_get h).2.2.2
  rw [e2]
  conv => rhs; rw [e1]
  rw [cnt_append, cnt_append, cnt_cons, hn]; omega
theorem set_cnt {fs : List File} {name : Str} (h : has fs name = true) (f : File) (n : Str) : cnt (setF fs name f) n + (if name = n then 1 else 0) = cnt fs n + (if f.Name = n then 1 else 0) := by
  obtain ⟨l, r, e1, e2⟩ := set_split h f
  have hn := (idxI_get h).2.2.2
  rw [e2]
  conv => rhs; rw [e1]
  rw [cnt_append, cnt_append, cnt_cons, cnt_cons, hn]; omega
theorem with_cnt (fs : List File) (name n : Str) : cnt (withF fs name) n = if has fs name = false ∧ name = n then 1 else cnt fs n := by
  unfold withF
  cases hh : has fs name with
  | true => simp
  | false =>
    simp only [Bool.false_eq_true, if_false, true_and]
    rw [cnt_append, cnt_cons]
    by_cases hn : name = n
    · subst hn
      rw [has_cnt.1 hh]; simp [cnt]
    · simp [hn, cnt]
theorem append_cnt (d : Disk) (name s n : Str) : cnt (appendM d name s).1.Files n ≤ max (cnt d.Files n) 1 ∧ (n ≠ name → cnt (appendM d name s).1.Files n = cnt d.Files n) := by
  unfold appendM
  split
  · exact ⟨Nat.le_max_left _ _, fun _ => rfl⟩
  split
  · exact ⟨Nat.le_max_left _ _, fun _ => rfl⟩
  split
  · exact ⟨Nat.le_max_left _ _, fun _ => rfl⟩
  split
  · exact ⟨Nat.le_max_left _ _, fun _ => rfl⟩
  simp only
  have := set_cnt (has_with d.Files name) ⟨name, (fileAt d.Files name).Safe, (fileAt d.Files name).Wait ++ torn d.Fuse s⟩ n
  simp only [Nat.add_right_cancel_iff] at this
  rw [this, with_cnt]
  constructor
  · split <;> omega
  · intro hn
    rw [if_neg (fun x => hn x.2.symm)]
theorem sync_names (d : Disk) (name : Str) : (syncM d name).1.Files.map (·.Name) = d.Files.map (·.Name) := by
  unfold syncM
  split
  · rfl
  split
  · rfl
  · rename_i h1 h2
    have hh : has d.Files name = true := by simpa using h2
    exact setF_names hh (idxI_get hh).2.2.2
theorem sync_cnt (d : Disk) (name n : Str) : cnt (syncM d name).1.Files n = cnt d.Files n := cnt_names (sync_names d name) n
theorem crash_cnt (d : Disk) (keeps : List Int) (n : Str) : cnt (crashM d keeps).Files n = cnt d.Files n := by
  refine cnt_names ?_ n
  unfold crashM
  simp only
  apply List.ext_getElem?
  intro i
  rw [List.getElem?_map, List.getElem?_mapIdx, List.getElem?_map]
  cases d.Files[i]? <;> rfl
theorem delete_cnt (d : Disk) (name n : Str) : cnt (deleteM d name).1.Files n ≤ cnt d.Files n ∧ ((deleteM d name).2 = 0 → n = name → cnt (deleteM d name).1.Files n + 1 = cnt d.Files n) := by
  unfold deleteM
  split
  · exact ⟨Nat.le_refl _, fun h => by simp at h⟩
  split
  · exact ⟨Nat.le_refl _, fun h => by simp at h⟩
  rename_i c1 c2
  split
  · rw [power_files]; exact ⟨Nat.le_refl _, fun h => by simp at h⟩
  simp only [lessM, power_files]
  have := del_cnt (fs := d.Files) (name := name) (by simpa using c2) n
  refine ⟨by omega, fun _ hn => ?_⟩
  subst hn
  simpa using this
theorem lost_cnt (d : Disk) (name n : Str) : cnt (lostM d name).Files n = cnt d.Files n - (if name = n then 1 else 0) := by
  unfold lostM
  split
  · rename_i h
    have := del_cnt h n
    simp only [lessM]; omega
  · rename_i h
    split
    · rename_i hn
      subst hn
      have := has_cnt.1 (show has d.Files name = false by simpa using h)
      omega
    · rfl
theorem rename_cnt (d : Disk) (a b n : Str) (hb : cnt d.Files b ≤ 1) (hn : cnt d.Files n ≤ 1) : cnt (renameM d a b).1.Files n ≤ 1 := by
  unfold renameM
  split
  · exact hn
  split
  · exact hn
  split
  · exact hn
  rename_i c1 c2 c3
  split
  · exact hn
  rename_i c4
  split
  · rw [power_files]; exact hn
  simp only
  have hh : has (lostM (powerM d).1 b).Files a = true := by rw [lost_has c4, power_files]; simpa using c3
  have e := set_cnt hh ⟨b, (fileAt d.Files a).Safe, (fileAt d.Files a).Wait⟩ n
  rw [lost_cnt, power_files] at e
  simp only at e
  by_cases hbn : b = n
  · subst hbn
    rw [if_pos rfl, if_neg c4] at e
    omega
  · rw [if_neg hbn] at e
    omega

theorem cnt_le {l : List File} {fs : List File} (h : ∃ r, fs = l ++ r) (n : Str) : cnt l n ≤ cnt fs n := by
  obtain ⟨r, rfl⟩ := h
  rw [cnt_append]; omega
theorem fileAt_split {l r : List File} {f : File} {n : Str} (hl : has l n = false) (hf : f.Name = n) : fileAt (l ++ f :: r) n = f ∧ has (l ++ f :: r) n = true := by
  have i2 : isF n f = true := by unfold isF; simpa using hf
  constructor
  · unfold fileAt
    unfold has at hl
    rw [List.any_eq_false] at hl
    rw [List.find?_append, List.find?_eq_none.2 (fun x hx => hl x hx), List.find?_cons, i2]
    rfl
  · unfold has; rw [List.any_append, List.any_cons, i2]; simp
/-- A rename that is OK: the one file's bytes bear the other name. -/
theorem rename_good {d : Disk} {a b : Str} (hab : a ≠ b) (hb : cnt d.Files b ≤ 1) (hok : (renameM d a b).2 = 0) :
    has (renameM d a b).1.Files b = true ∧ fileAt (renameM d a b).1.Files b = ⟨b, (fileAt d.Files a).Safe, (fileAt d.Files a).Wait⟩ := by
  unfold renameM at hok ⊢
  by_cases c1 : d.Off = true
  · rw [if_pos c1] at hok; cases hok
  rw [if_neg c1] at hok ⊢
  by_cases c2 : named b = false
  · rw [if_pos c2] at hok; cases hok
  rw [if_neg c2] at hok ⊢
  by_cases c3 : has d.Files a = false
  · rw [if_pos c3] at hok; cases hok
  rw [if_neg c3, if_neg hab] at hok ⊢
  by_cases c5 : (powerM d).2 = false
  · rw [if_pos c5] at hok; cases hok
  rw [if_neg c5]
  simp only
  have hh : has (lostM (powerM d).1 b).Files a = true := by rw [lost_has hab, power_files]; simpa using c3
  have h0 : cnt (lostM (powerM d).1 b).Files b = 0 := by rw [lost_cnt, power_files, if_pos rfl]; omega
  obtain ⟨l, r, e1, e2⟩ := set_split hh ⟨b, (fileAt d.Files a).Safe, (fileAt d.Files a).Wait⟩
  have hl : has l b = false := has_cnt.2 (by have := cnt_le ⟨_, e1⟩ b; omega)
  rw [e2]
  exact ⟨(fileAt_split hl rfl).2, (fileAt_split hl rfl).1⟩
theorem rename_same {d : Disk} {a b : Str} (hno : (renameM d a b).2 ≠ 0) : (renameM d a b).1.Files = d.Files := by
  have := rename_fails a b hno
  have h2 := congrArg Disk.Files this
  exact h2
theorem torn_full {fuse : Int} {s : Str} (h : ¬ (torn fuse s).length < s.length) : torn fuse s = s := by
  unfold torn at h ⊢
  split at h
  · rename_i c; rw [List.length_take] at h; omega
  · rename_i c; rw [if_neg c]
/-- An append that is OK. -/
theorem append_good {d : Disk} {name s : Str} (hok : (appendM d name s).2 = 0) : has (appendM d name s).1.Files name = true ∧ fileAt (appendM d name s).1.Files name = ⟨name, (fileAt d.Files name).Safe, (fileAt d.Files name).Wait ++ s⟩ ∧ (appendM d name s).1.Off = false := by
  unfold appendM at hok ⊢
  by_cases c1 : d.Off = true
  · rw [if_pos c1] at hok; cases hok
  rw [if_neg c1] at hok ⊢
  by_cases c2 : named name = false
  · rw [if_pos c2] at hok; cases hok
  rw [if_neg c2] at hok ⊢
  by_cases c3 : (has d.Files name = false ∧ 64 ≤ d.Files.length) ∨ d.Room < s.length
  · rw [if_pos c3] at hok; cases hok
  rw [if_neg c3] at hok ⊢
  by_cases c4 : 65536 < (fsize (fileAt d.Files name) : Int) + s.length
  · rw [if_pos c4] at hok; cases hok
  rw [if_neg c4] at hok ⊢
  simp only at hok ⊢
  by_cases c5 : (torn d.Fuse s).length < s.length
  · rw [if_pos c5] at hok; cases hok
  rw [torn_full c5]
  refine ⟨?_, setF_at (has_with d.Files name) rfl, by simp⟩
  rw [setF_has (has_with d.Files name) rfl]; exact has_with _ _
theorem sync_good {d : Disk} {name : Str} (hok : (syncM d name).2 = 0) : has (syncM d name).1.Files name = true ∧ fileAt (syncM d name).1.Files name = ⟨name, (fileAt d.Files name).Safe ++ (fileAt d.Files name).Wait, []⟩ := by
  unfold syncM at hok ⊢
  by_cases c1 : d.Off = true
  · rw [if_pos c1] at hok; cases hok
  rw [if_neg c1] at hok ⊢
  by_cases c2 : has d.Files name = false
  · rw [if_pos c2] at hok; cases hok
  rw [if_neg c2]
  have hh : has d.Files name = true := by simpa using c2
  have hn := (idxI_get hh).2.2.2
  simp only
  rw [hn]
  exact ⟨by rw [setF_has hh rfl]; exact hh, setF_at hh rfl⟩

/-! ### A file that is laid in one step -/
def clearM (d : Disk) (fr : Str) : Disk × Int := if has d.Files fr = true then deleteM d fr else (d, 0)
def lay2 (d : Disk) (fr s : Str) : Disk × Int := if (clearM d fr).2 ≠ 0 then clearM d fr else appendM (clearM d fr).1 fr s
def lay3 (d : Disk) (fr s : Str) : Disk × Int := if (lay2 d fr s).2 ≠ 0 then lay2 d fr s else syncM (lay2 d fr s).1 fr
def frN (name : Str) : Str := [110, 46] ++ name
def layM (d : Disk) (name s : Str) : Disk × Int := if (lay3 d (frN name) s).2 ≠ 0 then lay3 d (frN name) s else renameM (lay3 d (frN name) s).1 (frN name) name
theorem frN_ne (name : Str) : frN name ≠ name := fun h => by
  have := congrArg List.length h
  unfold frN at this
  simp at this
  omega

theorem clear_ok {d : Disk} (h : DOk d) (fr : Str) : DOk (clearM d fr).1 := by
  unfold clearM; split
  · exact delete_ok h fr
  · exact h
theorem lay2_ok {d : Disk} (h : DOk d) (fr s : Str) (hs : s.length ≤ 1099511627776) : DOk (lay2 d fr s).1 := by
  unfold lay2; split
  · exact clear_ok h fr
  · exact append_ok2 (clear_ok h fr) fr s hs
theorem lay3_ok {d : Disk} (h : DOk d) (fr s : Str) (hs : s.length ≤ 1099511627776) : DOk (lay3 d fr s).1 := by
  unfold lay3; split
  · exact lay2_ok h fr s hs
  · exact sync_ok (lay2_ok h fr s hs) fr
theorem lay_ok {d : Disk} (h : DOk d) (name s : Str) (hs : s.length ≤ 1099511627776) : DOk (layM d name s).1 := by
  unfold layM; split
  · exact lay3_ok h _ s hs
  · exact rename_ok (lay3_ok h _ s hs) _ _
theorem clear_apart {d : Disk} {fr n : Str} (hn : n ≠ fr) : has (clearM d fr).1.Files n = has d.Files n ∧ fileAt (clearM d fr).1.Files n = fileAt d.Files n := by
  unfold clearM; split
  · exact delete_apart hn
  · exact ⟨rfl, rfl⟩
theorem lay2_apart {d : Disk} {fr s n : Str} (hn : n ≠ fr) : has (lay2 d fr s).1.Files n = has d.Files n ∧ fileAt (lay2 d fr s).1.Files n = fileAt d.Files n := by
  have := clear_apart (d := d) hn
  unfold lay2; split
  · exact this
  · rw [(append_apart hn).1, (append_apart hn).2]; exact this
theorem lay3_apart {d : Disk} {fr s n : Str} (hn : n ≠ fr) : has (lay3 d fr s).1.Files n = has d.Files n ∧ fileAt (lay3 d fr s).1.Files n = fileAt d.Files n := by
  have := lay2_apart (d := d) (s := s) hn
  unfold lay3; split
  · exact this
  · rw [(sync_apart hn).1, (sync_apart hn).2]; exact this
theorem lay_apart {d : Disk} {name s n : Str} (hn : n ≠ name) (hf : n ≠ frN name) : has (layM d name s).1.Files n = has d.Files n ∧ fileAt (layM d name s).1.Files n = fileAt d.Files n := by
  have := lay3_apart (d := d) (s := s) hf
  unfold layM; split
  · exact this
  · rw [(rename_apart hf hn).1, (rename_apart hf hn).2]; exact this
theorem lay_bad {d : Disk} {name s n : Str} (hf : n ≠ frN name) (hno : (layM d name s).2 ≠ 0) : has (layM d name s).1.Files n = has d.Files n ∧ fileAt (layM d name s).1.Files n = fileAt d.Files n := by
  have := lay3_apart (d := d) (s := s) hf
  unfold layM at hno ⊢; split at hno
  · rename_i c; rw [if_pos c]; exact this
  · rename_i c; rw [if_neg c, rename_same hno]; exact this
theorem clear_cnt {d : Disk} {fr : Str} (h1 : cnt d.Files fr ≤ 1) (n : Str) : cnt (clearM d fr).1.Files n ≤ cnt d.Files n ∧ ((clearM d fr).2 = 0 → cnt (clearM d fr).1.Files fr = 0) := by
  unfold clearM
  cases hh : has d.Files fr with
  | true =>
    rw [if_pos rfl]
    refine ⟨(delete_cnt d fr n).1, fun ho => ?_⟩
    have := (delete_cnt d fr fr).2 ho rfl
    omega
  | false =>
    rw [if_neg (by simp)]
    exact ⟨Nat.le_refl _, fun _ => has_cnt.1 hh⟩
theorem lay2_cnt {d : Disk} {fr : Str} (s : Str) (h1 : cnt d.Files fr ≤ 1) {n : Str} (hn : cnt d.Files n ≤ 1) : cnt (lay2 d fr s).1.Files n ≤ 1 := by
  have h := (clear_cnt h1 n).1
  unfold lay2; split
  · omega
  · have := (append_cnt (clearM d fr).1 fr s n).1; omega
theorem lay3_cnt {d : Disk} {fr : Str} (s : Str) (h1 : cnt d.Files fr ≤ 1) {n : Str} (hn : cnt d.Files n ≤ 1) : cnt (lay3 d fr s).1.Files n ≤ 1 := by
  have h := lay2_cnt s h1 hn
  unfold lay3; split
  · exact h
  · rw [sync_cnt]; exact h
theorem lay_cnt {d : Disk} {name : Str} (s : Str) (h1 : cnt d.Files (frN name) ≤ 1) (h2 : cnt d.Files name ≤ 1) {n : Str} (hn : cnt d.Files n ≤ 1) : cnt (layM d name s).1.Files n ≤ 1 := by
  have h := lay3_cnt s h1 hn
  unfold layM; split
  · exact h
  · exact rename_cnt _ _ _ _ (lay3_cnt s h1 h2) h
/-- One that is OK: the file has just these bytes, and all are safe. -/
theorem lay_good {d : Disk} {name s : Str} (h1 : cnt d.Files (frN name) ≤ 1) (h2 : cnt d.Files name ≤ 1) (hok : (layM d name s).2 = 0) :
    has (layM d name s).1.Files name = true ∧ fileAt (layM d name s).1.Files name = ⟨name, s, []⟩ := by
  have hc3 := lay3_cnt (fr := frN name) s h1 h2
  unfold layM at hok ⊢
  by_cases c3 : (lay3 d (frN name) s).2 ≠ 0
  · rw [if_pos c3] at hok; exact absurd hok c3
  rw [if_neg c3] at hok ⊢
  have hr := rename_good (frN_ne name) hc3 hok
  refine ⟨hr.1, hr.2.trans ?_⟩
  have g3 : (lay3 d (frN name) s).2 = 0 := by simpa using c3
  unfold lay3 at g3 ⊢
  by_cases c2 : (lay2 d (frN name) s).2 ≠ 0
  · rw [if_pos c2] at g3; exact absurd g3 c2
  rw [if_neg c2] at g3 ⊢
  have hs := sync_good g3
  rw [hs.2]
  have g2 : (lay2 d (frN name) s).2 = 0 := by simpa using c2
  unfold lay2 at g2 ⊢
  by_cases c1 : (clearM d (frN name)).2 ≠ 0
  · rw [if_pos c1] at g2; exact absurd g2 c1
  rw [if_neg c1] at g2 ⊢
  have ha := append_good g2
  rw [ha.2.1]
  have h0 := (clear_cnt h1 (frN name)).2 (by simpa using c1)
  rw [fileAt_none (has_cnt.2 h0)]
  rfl

theorem lay_eq {d : Disk} (h : DOk d) (name s : Str) (hn : name.length ≤ 1099511627776) (hs : s.length ≤ 1099511627776) : run_Lay d name s = some (layM d name s) := by
  unfold run_Lay
  rw [need_pos (by simp; omega), find_eq h.len]
  simp only [Option.bind_some]
  have e1 : (if has d.Files ([110, 46] ++ name) = true then (disk_Delete d ([110, 46] ++ name)).bind fun y23 =>
      if (!(decide (y23.2 = 0))) = true then some ((.inr (y23.2, y23.1.Files, y23.1.Room, y23.1.Fuse, y23.1.Off)) : ((List File) × Int × Int × Bool) ⊕ (Int × (List File) × Int × Int × Bool))
      else some (.inl (y23.1.Files, y23.1.Room, y23.1.Fuse, y23.1.Off))
    else some (.inl (d.Files, d.Room, d.Fuse, d.Off))) =
    some (if (clearM d (frN name)).2 ≠ 0 then .inr ((clearM d (frN name)).2, (clearM d (frN name)).1.Files, (clearM d (frN name)).1.Room, (clearM d (frN name)).1.Fuse, (clearM d (frN name)).1.Off) else .inl ((clearM d (frN name)).1.Files, (clearM d (frN name)).1.Room, (clearM d (frN name)).1.Fuse, (clearM d (frN name)).1.Off)) := by
    unfold clearM
    change (if has d.Files (frN name) = true then _ else _) = _
    cases hh : has d.Files (frN name) with
    | true =>
      rw [if_pos rfl, if_pos rfl]
      change ((disk_Delete d (frN name)).bind _) = _
      rw [delete_eq h]
      simp only [Option.bind_some]
      by_cases hz : (deleteM d (frN name)).2 = 0
      · rw [if_neg (by simp [hz]), if_neg (by simp [hz])]
      · rw [if_pos (by simp [hz]), if_pos hz]
    | false => rfl
  rw [e1]
  simp only [Option.bind_some]
  unfold layM lay3 lay2
  by_cases hz : (clearM d (frN name)).2 = 0
  · rw [if_neg (show ¬ (clearM d (frN name)).2 ≠ 0 by simpa using hz), if_neg (show ¬ (clearM d (frN name)).2 ≠ 0 by simpa using hz)]
    simp only
    change ((disk_Append (clearM d (frN name)).1 (frN name) s).bind _) = _
    have k1 := clear_ok h (frN name)
    rw [append_eq k1 _ s hs]
    simp only [Option.bind_some]
    by_cases hz2 : (appendM (clearM d (frN name)).1 (frN name) s).2 = 0
    · rw [if_neg (show ¬ (!decide ((appendM (clearM d (frN name)).1 (frN name) s).2 = 0)) = true by simp [hz2]), if_neg (show ¬ (appendM (clearM d (frN name)).1 (frN name) s).2 ≠ 0 by simpa using hz2)]
      change ((disk_Sync (appendM (clearM d (frN name)).1 (frN name) s).1 (frN name)).bind _) = _
      have k2 := append_ok2 k1 (frN name) s hs
      rw [sync_eq k2]
      simp only [Option.bind_some]
      by_cases hz3 : (syncM (appendM (clearM d (frN name)).1 (frN name) s).1 (frN name)).2 = 0
      · rw [if_neg (show ¬ (!decide ((syncM (appendM (clearM d (frN name)).1 (frN name) s).1 (frN name)).2 = 0)) = true by simp [hz3]), if_neg (show ¬ (syncM (appendM (clearM d (frN name)).1 (frN name) s).1 (frN name)).2 ≠ 0 by simpa using hz3)]
        change ((disk_Rename (syncM (appendM (clearM d (frN name)).1 (frN name) s).1 (frN name)).1 (frN name) name).bind _) = _
        rw [rename_eq (sync_ok k2 _)]
        rfl
      · rw [if_pos (show (!decide ((syncM (appendM (clearM d (frN name)).1 (frN name) s).1 (frN name)).2 = 0)) = true by simp [hz3]), if_pos (show (syncM (appendM (clearM d (frN name)).1 (frN name) s).1 (frN name)).2 ≠ 0 from hz3)]
    · rw [if_pos (show (!decide ((appendM (clearM d (frN name)).1 (frN name) s).2 = 0)) = true by simp [hz2]), if_pos (show (appendM (clearM d (frN name)).1 (frN name) s).2 ≠ 0 from hz2), if_pos (show (appendM (clearM d (frN name)).1 (frN name) s).2 ≠ 0 from hz2)]
  · rw [if_pos (show (clearM d (frN name)).2 ≠ 0 from hz), if_pos (show (clearM d (frN name)).2 ≠ 0 from hz), if_pos (show (clearM d (frN name)).2 ≠ 0 from hz), if_pos (show (clearM d (frN name)).2 ≠ 0 from hz)]
theorem pair_eta (x : Disk × Int) : (({ Files := x.1.Files, Room := x.1.Room, Fuse := x.1.Fuse, Off := x.1.Off } : Disk), x.2) = x := rfl
end Go.Ab
