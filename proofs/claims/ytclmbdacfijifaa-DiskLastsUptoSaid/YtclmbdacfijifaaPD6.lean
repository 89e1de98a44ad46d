/- Disks, plainly: the laws of acts, of what is apart and of what is whole. -/
import Derived.Test.YtclmbdacfijifaaPD5
namespace Go.Ab
set_option linter.unusedVariables false
set_option linter.unusedSimpArgs false

theorem acts_true (w : DiskActsIn) (h : DOk w.D) (hs : w.S.length ≤ 1099511627776) : law03_DiskActs w = some true := by
  unfold law03_DiskActs
  rw [shown_eq, search_loop w.D.Files (fun f => decide ((f.Safe.length : Int) > 131072) || decide ((f.Wait.length : Int) > 131072)) (fun _ => .inl ()) (.inr ()) _ (by have := h.lenS; omega) ?_ ?_]
  · simp only [Option.bind_some]
    cases w.D.Files.findIdx? (fun f => decide ((f.Safe.length : Int) > 131072) || decide ((f.Wait.length : Int) > 131072)) with
    | some k => rfl
    | none =>
      simp only
      rw [append_eq h _ _ hs, rappend_eq h _ _ hs, sync_eq h, rsync_eq h, read_eq h, rread_eq h, find_eq h.len, rfind_eq h.len, new_eq, rnew_eq]
      simp only [Option.bind_some]
      have ha : (appendM w.D w.Name w.S).1.Files.length ≤ 2000000000 := by
        have := h.lenS
        have := with_len w.D.Files w.Name
        unfold appendM
        split
        · simp only; omega
        split
        · simp only; omega
        split
        · simp only; omega
        split
        · simp only; omega
        · simp only [setF_len]; omega
      have hn : (newM w.Room).1.Files.length ≤ 2000000000 := by unfold newM; split <;> simp
      rw [rsame_eq ha, rsame_eq (sync_ok h _).len, rsame_eq hn]
      simp
  · intro k x hx
    have hlt := (List.getElem?_eq_some_iff.1 hx).1
    unfold law03_DiskActs_l2
    rw [if_pos (show decide ((k : Int) < (w.D.Files.length : Int)) = true by simpa using hlt), ix_nat, hx]
    simp only [Option.bind_some]
    by_cases c : (x.Safe.length : Int) > 131072
    · simp [c]
    · simp only [c, decide_false, Bool.false_eq_true, if_false, Option.bind_some, Bool.false_or]
  · unfold law03_DiskActs_l2
    rw [if_neg (by simp)]

/-! ### One act -/
def doesM (d : Disk) (a : Act) : Disk × Int :=
  if a.Kind = 1 then appendM d a.Name a.S else if a.Kind = 2 then syncM d a.Name else if a.Kind = 3 then renameM d a.Name a.S else if a.Kind = 4 then deleteM d a.Name else
  if a.Kind = 5 then (crashM d (List.replicate d.Files.length a.N), 0) else if a.Kind = 6 then (armM d a.N, 0) else (d, 0)
theorem does_eq {d : Disk} (h : DOk d) (a : Act) (hs : a.S.length ≤ 1099511627776) : law03_does d a = some (doesM d a) := by
  unfold law03_does doesM
  rw [append_eq h _ _ hs, sync_eq h, rename_eq h, delete_eq h, arm_eq]
  have hl := h.lenS
  have key : loop (fun (s113 : Int × (List Int)) => law03_does_l4 d a s113.1 s113.2) ((0 : Int), ([] : (List Int))) = some (List.replicate d.Files.length a.N) := by
    have := count_loop (fun (s113 : Int × (List Int)) => law03_does_l4 d a s113.1 s113.2) (fun k => ((k : Int), List.replicate k a.N)) d.Files.length (List.replicate d.Files.length a.N) ?_ ?_
    · simpa using this
    · intro k hk
      unfold law03_does_l4
      simp only
      rw [if_pos (by simpa using hk), need_pos (by rw [List.length_replicate]; omega), w64_in (by omega) (by omega), ← List.replicate_succ']
      rfl
    · unfold law03_does_l4
      simp only
      rw [if_neg (by simp)]
  rw [key]
  simp only [Option.bind_some]
  rw [crash_eq h]
  simp only [Option.bind_some, decide_eq_true_eq]
  split
  · rfl
  split
  · rfl
  split
  · rfl
  split
  · rfl
  split
  · rfl
  split <;> rfl

/-! ### What is done with one file changes no other one -/
theorem with_other {fs : List File} {name n : Str} (hn : n ≠ name) : has (withF fs name) n = has fs n ∧ fileAt (withF fs name) n = fileAt fs n := by
  unfold withF
  split
  · exact ⟨rfl, rfl⟩
  · have hf : isF n (⟨name, [], []⟩ : File) = false := by unfold isF; simpa using fun x => hn x.symm
    constructor
    · unfold has; rw [List.any_append]; simp [hf]
    · unfold fileAt; rw [List.find?_append]; simp [List.find?_cons, hf]
theorem set_split {fs : List File} {name : Str} (h : has fs name = true) (f : File) : ∃ l r, fs = l ++ fileAt fs name :: r ∧ setF fs name f = l ++ f :: r := by
  obtain ⟨l, r, e1, e2, e3⟩ := del_split h
  refine ⟨l, r, e1, ?_⟩
  unfold setF
  rw [e3]
  conv => lhs; rw [e1]
  rw [List.set_append_right _ _ (Nat.le_refl _), Nat.sub_self]
  rfl
theorem setF_apart {fs : List File} {name n : Str} {f : File} (h : has fs name = true) (hn : n ≠ name) (hf : f.Name ≠ n) : has (setF fs name f) n = has fs n ∧ fileAt (setF fs name f) n = fileAt fs n := by
  obtain ⟨l, r, e1, e2⟩ := set_split h f
  have h1 : isF n (fileAt fs name) = false := by unfold isF; rw [(idxI_get h).2.2.2]; simpa using fun x => hn x.symm
  have h2 : isF n f = false := by unfold isF; simpa using hf
  generalize fileAt fs name = x at e1 h1
  rw [e2, e1]
  constructor
  · unfold has; rw [List.any_append, List.any_append, List.any_cons, List.any_cons, h1, h2]
  · unfold fileAt; rw [List.find?_append, List.find?_append, List.find?_cons, List.find?_cons, h1, h2]
theorem append_apart {d : Disk} {name s n : Str} (hn : n ≠ name) : has (appendM d name s).1.Files n = has d.Files n ∧ fileAt (appendM d name s).1.Files n = fileAt d.Files n := by
  unfold appendM
  split
  · exact ⟨rfl, rfl⟩
  split
  · exact ⟨rfl, rfl⟩
  split
  · exact ⟨rfl, rfl⟩
  split
  · exact ⟨rfl, rfl⟩
  simp only
  have a := setF_apart (f := ⟨name, (fileAt d.Files name).Safe, (fileAt d.Files name).Wait ++ torn d.Fuse s⟩) (has_with d.Files name) hn (fun x => hn x.symm)
  have b := with_other (fs := d.Files) hn
  rw [a.1, a.2]
  exact b
theorem sync_apart {d : Disk} {name n : Str} (hn : n ≠ name) : has (syncM d name).1.Files n = has d.Files n ∧ fileAt (syncM d name).1.Files n = fileAt d.Files n := by
  unfold syncM
  split
  · exact ⟨rfl, rfl⟩
  split
  · exact ⟨rfl, rfl⟩
  · rename_i h1 h2
    have hh : has d.Files name = true := by simpa using h2
    simp only
    exact setF_apart hh hn (by simp only; rw [(idxI_get hh).2.2.2]; exact fun x => hn x.symm)
theorem rename_apart {d : Disk} {a b n : Str} (ha : n ≠ a) (hb : n ≠ b) : has (renameM d a b).1.Files n = has d.Files n ∧ fileAt (renameM d a b).1.Files n = fileAt d.Files n := by
  unfold renameM
  split
  · exact ⟨rfl, rfl⟩
  split
  · exact ⟨rfl, rfl⟩
  split
  · exact ⟨rfl, rfl⟩
  rename_i c1 c2 c3
  split
  · exact ⟨rfl, rfl⟩
  rename_i c4
  split
  · rw [power_files]; exact ⟨rfl, rfl⟩
  simp only
  have hh : has (lostM (powerM d).1 b).Files a = true := by rw [lost_has c4, power_files]; simpa using c3
  have e := setF_apart (f := ⟨b, (fileAt d.Files a).Safe, (fileAt d.Files a).Wait⟩) hh ha (fun x => hb x.symm)
  rw [e.1, e.2, lost_has hb, lost_at hb, power_files]
  exact ⟨rfl, rfl⟩
theorem delete_apart {d : Disk} {name n : Str} (hn : n ≠ name) : has (deleteM d name).1.Files n = has d.Files n ∧ fileAt (deleteM d name).1.Files n = fileAt d.Files n := by
  unfold deleteM
  split
  · exact ⟨rfl, rfl⟩
  split
  · exact ⟨rfl, rfl⟩
  rename_i c1 c3
  split
  · rw [power_files]; exact ⟨rfl, rfl⟩
  simp only [lessM, power_files]
  have hh : has d.Files name = true := by simpa using c3
  exact ⟨del_has hh hn, del_at hh hn⟩
theorem does_apart {d : Disk} {a : Act} {n : Str} (h5 : a.Kind ≠ 5) (hn : n ≠ a.Name) (hs : a.Kind = 3 → n ≠ a.S) : has (doesM d a).1.Files n = has d.Files n ∧ fileAt (doesM d a).1.Files n = fileAt d.Files n := by
  unfold doesM
  split
  · exact append_apart hn
  split
  · exact sync_apart hn
  split
  · rename_i h3; exact rename_apart hn (hs h3)
  split
  · exact delete_apart hn
  split <;> exact ⟨rfl, rfl⟩
theorem apart_true (d : Disk) (a : Act) (other : Str) (h : DOk d) (hs : a.S.length ≤ 1099511627776) (hd : ∀ x : Disk × Int, doesM d a = x → x.1.Files.length ≤ 2000000000) : law03_DiskApart d a other = some true := by
  unfold law03_DiskApart
  rw [shown_eq]
  simp only [Option.bind_some]
  split
  · rfl
  · rename_i c
    simp at c
    obtain ⟨c1, c2, c3⟩ := c
    rw [rfind_eq h.len, does_eq h a hs]
    simp only [Option.bind_some]
    rw [rfind_eq (hd _ rfl)]
    have := does_apart (d := d) (n := other) c1 c2 c3
    rw [this.1, this.2]
    simp
end Go.Ab
