/- Disks, plainly: what a rename leaves whole. -/
import Derived.Test.YtgmejofagmfcfaaGreatDoorPD6
namespace Go.Ab
set_option linter.unusedVariables false
set_option linter.unusedSimpArgs false

/-- No two files bear one name. -/
def Uniq (fs : List File) : Prop := fs.Pairwise (fun x y => x.Name ≠ y.Name)
theorem has_false {l : List File} {n : Str} : has l n = false ↔ ∀ f ∈ l, f.Name ≠ n := by
  unfold has
  rw [List.any_eq_false]
  simp [isF]
theorem uniq_split {l r : List File} {x : File} (h : Uniq (l ++ x :: r)) : has l x.Name = false ∧ has r x.Name = false ∧ Uniq (l ++ r) := by
  unfold Uniq at *
  rw [List.pairwise_append, List.pairwise_cons] at h
  obtain ⟨h1, ⟨h2, h3⟩, h4⟩ := h
  refine ⟨has_false.2 (fun f hf => h4 f hf x (List.mem_cons_self ..)), has_false.2 (fun f hf => (h2 f hf).symm), ?_⟩
  rw [List.pairwise_append]
  exact ⟨h1, h3, fun a ha b hb => h4 a ha b (List.mem_cons_of_mem _ hb)⟩
theorem has_append (l r : List File) (n : Str) : has (l ++ r) n = (has l n || has r n) := by unfold has; rw [List.any_append]
theorem uniq_del {fs : List File} {name : Str} (h : Uniq fs) (hh : has fs name = true) : has (delF fs name) name = false ∧ Uniq (delF fs name) := by
  obtain ⟨l, r, e1, e2, _⟩ := del_split hh
  have hn := (idxI_get hh).2.2.2
  rw [e1] at h
  obtain ⟨a, b, c⟩ := uniq_split h
  rw [hn] at a b
  rw [e2]
  exact ⟨by rw [has_append, a, b]; rfl, c⟩
theorem uniq_set {fs : List File} {a b : Str} {f : File} (h : Uniq fs) (hh : has fs a = true) (hf : f.Name = b) (hab : a ≠ b) (hb : has fs b = false) :
    has (setF fs a f) a = false ∧ has (setF fs a f) b = true ∧ fileAt (setF fs a f) b = f := by
  obtain ⟨l, r, e1, e2⟩ := set_split hh f
  have hn := (idxI_get hh).2.2.2
  rw [e1] at h hb
  obtain ⟨u1, u2, _⟩ := uniq_split h
  rw [hn] at u1 u2
  rw [has_append] at hb
  have hl : has l b = false := by simp at hb; exact hb.1
  rw [e2]
  have i1 : isF a f = false := by unfold isF; rw [hf]; simpa using fun x => hab x.symm
  have i2 : isF b f = true := by unfold isF; rw [hf]; simp
  refine ⟨?_, ?_, ?_⟩
  · rw [has_append, u1]
    unfold has at u2 ⊢
    rw [List.any_cons, i1, u2]; rfl
  · rw [has_append]
    unfold has
    rw [List.any_cons, i2]; simp
  · unfold fileAt
    unfold has at hl
    rw [List.any_eq_false] at hl
    rw [List.find?_append, List.find?_eq_none.2 (fun x hx => hl x hx), List.find?_cons, i2]
    rfl
theorem rename_whole {d : Disk} (hu : Uniq d.Files) (a b : Str) (hok : (renameM d a b).2 = 0) : has d.Files a = true ∧ readM (renameM d a b).1 b = readM d a ∧ (a = b ∨ (readM (renameM d a b).1 a).2 = 7) := by
  unfold renameM at hok ⊢
  by_cases c1 : d.Off = true
  · rw [if_pos c1] at hok; cases hok
  rw [if_neg c1] at hok ⊢
  by_cases c2 : named b = false
  · rw [if_pos c2] at hok; cases hok
  rw [if_neg c2] at hok ⊢
  by_cases c3 : has d.Files a = false
  · rw [if_pos c3] at hok; cases hok
  rw [if_neg c3] at hok ⊢
  have h3 : has d.Files a = true := by simpa using c3
  by_cases c4 : a = b
  · rw [if_pos c4]; exact ⟨h3, by rw [c4], .inl c4⟩
  rw [if_neg c4] at hok ⊢
  by_cases c5 : (powerM d).2 = false
  · rw [if_pos c5] at hok; cases hok
  rw [if_neg c5]
  have hl : has (lostM (powerM d).1 b).Files b = false ∧ Uniq (lostM (powerM d).1 b).Files := by
    unfold lostM
    rw [power_files]
    split
    · rename_i hb
      have := uniq_del hu hb
      simp only [lessM, power_files]
      exact this
    · rename_i hb
      rw [power_files]
      exact ⟨by simpa using hb, hu⟩
  have hh : has (lostM (powerM d).1 b).Files a = true := by rw [lost_has c4, power_files]; exact h3
  have u := uniq_set (f := ⟨b, (fileAt d.Files a).Safe, (fileAt d.Files a).Wait⟩) hl.2 hh rfl c4 hl.1
  refine ⟨h3, ?_, .inr ?_⟩
  · unfold readM
    simp only
    rw [u.2.1, u.2.2, h3]
  · unfold readM
    simp only
    rw [u.1]
    simp
theorem rename_fails {d : Disk} (a b : Str) (hno : (renameM d a b).2 ≠ 0) : ({ Files := (renameM d a b).1.Files, Room := (renameM d a b).1.Room, Fuse := d.Fuse, Off := d.Off } : Disk) = d := by
  unfold renameM at hno ⊢
  by_cases c1 : d.Off = true
  · rw [if_pos c1]
  rw [if_neg c1] at hno ⊢
  by_cases c2 : named b = false
  · rw [if_pos c2]
  rw [if_neg c2] at hno ⊢
  by_cases c3 : has d.Files a = false
  · rw [if_pos c3]
  rw [if_neg c3] at hno ⊢
  by_cases c4 : a = b
  · rw [if_pos c4]
  rw [if_neg c4] at hno ⊢
  by_cases c5 : (powerM d).2 = false
  · rw [if_pos c5]; simp only [power_files, power_room]
  rw [if_neg c5] at hno
  exact absurd rfl hno

theorem uniq_of {fs : List File} (h : ∀ (i j : Nat) x y, j < i → fs[i]? = some x → fs[j]? = some y → x.Name ≠ y.Name) : Uniq fs := by
  unfold Uniq
  rw [List.pairwise_iff_getElem]
  intro i j hi hj hij
  exact (h j i _ _ hij (List.getElem?_eq_getElem hj) (List.getElem?_eq_getElem hi)).symm
end Go.Ab
