/- Disks, plainly: names, and the law that twice is as once. -/
import Derived.Test.YtgmejofagmfcfaaGreatDoorPD3
namespace Go.Ab
set_option linter.unusedVariables false
set_option linter.unusedSimpArgs false

/-! ### Names alone say where a file is -/
theorem idx_names {fs gs : List File} (h : fs.map (·.Name) = gs.map (·.Name)) (n : Str) : idxOf fs n = idxOf gs n := by
  have e : ∀ l : List File, idxOf l n = (l.map (·.Name)).findIdx? (fun x => decide (x = n)) := by
    intro l
    rw [List.findIdx?_map]
    rfl
  rw [e, e, h]
theorem idxI_names {fs gs : List File} (h : fs.map (·.Name) = gs.map (·.Name)) (n : Str) : idxI fs n = idxI gs n := by unfold idxI; rw [idx_names h]
theorem has_names {fs gs : List File} (h : fs.map (·.Name) = gs.map (·.Name)) (n : Str) : has fs n = has gs n := by
  have e : ∀ l : List File, has l n = (l.map (·.Name)).any (fun x => decide (x = n)) := by
    intro l
    rw [List.any_map]
    rfl
  rw [e, e, h]
theorem fileAt_get {fs : List File} {n : Str} : fileAt fs n = (fs[(idxI fs n).toNat]?).getD noFile ∨ has fs n = false := by
  cases h : has fs n with
  | false => exact .inr rfl
  | true => exact .inl (by rw [(idxI_get h).2.2.1]; rfl)

theorem setF_names {fs : List File} {name : Str} {f : File} (h : has fs name = true) (hf : f.Name = name) : (setF fs name f).map (·.Name) = fs.map (·.Name) := by
  obtain ⟨g1, g2, g3, g4⟩ := idxI_get h
  apply List.ext_getElem?
  intro i
  simp only [setF, List.getElem?_map, List.getElem?_set]
  by_cases hi : (idxI fs name).toNat = i
  · subst hi
    rw [if_pos rfl, if_pos g2, g3]
    simp [hf, g4]
  · rw [if_neg hi]
theorem setF_has {fs : List File} {name : Str} {f : File} (h : has fs name = true) (hf : f.Name = name) (n : Str) : has (setF fs name f) n = has fs n := has_names (setF_names h hf) n
theorem setF_idx {fs : List File} {name : Str} {f : File} (h : has fs name = true) (hf : f.Name = name) (n : Str) : idxI (setF fs name f) n = idxI fs n := idxI_names (setF_names h hf) n
theorem setF_at {fs : List File} {name : Str} {f : File} (h : has fs name = true) (hf : f.Name = name) : fileAt (setF fs name f) name = f := by
  have h1 := setF_has h hf name
  rw [h] at h1
  have := (idxI_get h1).2.2.1
  rw [setF_idx h hf] at this
  unfold setF at this
  rw [List.getElem?_set_self (idxI_get h).2.1] at this
  exact (Option.some.inj this).symm
theorem setF_other {fs : List File} {name : Str} {f : File} (h : has fs name = true) (hf : f.Name = name) {n : Str} (hn : n ≠ name) : fileAt (setF fs name f) n = fileAt fs n := by
  cases h2 : has fs n with
  | false => rw [fileAt_none (by rw [setF_has h hf]; exact h2), fileAt_none h2]
  | true =>
    have h1 := setF_has h hf n
    rw [h2] at h1
    have a := (idxI_get h1).2.2.1
    have b := (idxI_get h2).2.2.1
    rw [setF_idx h hf] at a
    unfold setF at a
    rw [List.getElem?_set_ne, b] at a
    · exact (Option.some.inj a).symm
    · intro he
      have c := idxI_get h
      rw [he, b] at c
      have := Option.some.inj c.2.2.1
      have d := (idxI_get h2).2.2.2
      rw [this, c.2.2.2] at d
      exact hn d.symm
theorem setF_len (fs : List File) (name : Str) (f : File) : (setF fs name f).length = fs.length := by simp [setF]
theorem setF_mem {fs : List File} {name : Str} {f x : File} (h : x ∈ setF fs name f) : x ∈ fs ∨ x = f := List.mem_or_eq_of_mem_set h
theorem setF_same {fs : List File} {name : Str} (h : has fs name = true) : setF fs name (fileAt fs name) = fs := by
  obtain ⟨g1, g2, g3, g4⟩ := idxI_get h
  apply List.ext_getElem?
  intro i
  simp only [setF, List.getElem?_set]
  by_cases hi : (idxI fs name).toNat = i
  · subst hi; rw [if_pos rfl, if_pos g2, g3]
  · rw [if_neg hi]

/-! ### What stays within bounds -/
theorem sync_ok {d : Disk} (h : DOk d) (name : Str) : DOk (syncM d name).1 := by
  unfold syncM
  split
  · exact h
  · split
    · exact h
    · rename_i h1 h2
      have hh : has d.Files name = true := by simpa using h2
      refine ⟨by simpa [setF_len] using h.lenS, fun f hf => ?_, h.room, h.fuse⟩
      rcases setF_mem hf with hf | rfl
      · exact h.size f hf
      · have := fsize_at h name
        unfold fsize at *
        simp only [List.length_append, List.length_nil]
        omega
theorem wrap_in (n : Int) : -9223372036854775808 ≤ IntKind.i64.wrap n ∧ IntKind.i64.wrap n ≤ 9223372036854775807 := by
  rw [IntKind.wrap_i64]; omega
theorem crashR_in {room : Int} (h : -9223372036854775808 ≤ room ∧ room ≤ 9223372036854775807) (keeps : List Int) (fs : List File) : ∀ k, -9223372036854775808 ≤ crashR keeps fs room k ∧ crashR keeps fs room k ≤ 9223372036854775807
  | 0 => h
  | k + 1 => by
    unfold crashR
    split
    · exact wrap_in _
    · exact crashR_in h keeps fs k
theorem crash_ok {d : Disk} (h : DOk d) (keeps : List Int) : DOk (crashM d keeps) := by
  refine ⟨by simpa [crashM] using h.lenS, fun f hf => ?_, crashR_in h.room _ _ _, by simp [crashM]⟩
  simp only [crashM] at hf
  obtain ⟨i, hi, rfl⟩ := List.mem_mapIdx.1 hf
  have := h.size _ (List.getElem_mem hi)
  unfold fsize crashF at *
  simp only [List.length_append, List.length_take, List.length_nil]
  omega

theorem crash_dry (d : Disk) (h : DOk d) (h1 : ∀ f ∈ d.Files, f.Wait = []) (h2 : d.Fuse = -1) (h3 : d.Off = false) (keeps : List Int) : crashM d keeps = d := by
  have e : ∀ (i : Nat) f, d.Files[i]? = some f → crashF keeps i f = f := by
    intro i f hf
    have := h1 f (List.mem_of_getElem? hf)
    unfold crashF
    cases f
    simp only at this
    subst this
    simp
  have e1 : d.Files.mapIdx (crashF keeps) = d.Files := by
    apply List.ext_getElem?
    intro i
    rw [List.getElem?_mapIdx]
    cases hi : d.Files[i]? with
    | none => rfl
    | some f => simp [e i f hi]
  have e2 : ∀ k, crashR keeps d.Files d.Room k = d.Room := by
    intro k
    induction k with
    | zero => rfl
    | succ k ih =>
      unfold crashR
      split
      · rename_i f hf
        have hw := h1 f (List.mem_of_getElem? hf)
        have hk : keepOf keeps k f = 0 := by have := keep_le keeps k f; rw [hw] at this; simpa using this
        have hr := h.room
        rw [ih, hk, hw, w64_in (by simp; omega) (by simp; omega)]
        simp
      · exact ih
  unfold crashM
  rw [e1, e2]
  cases d
  simp only at h2 h3
  subst h2 h3
  rfl
theorem crash_twice {d : Disk} (h : DOk d) (keeps more : List Int) : crashM (crashM d keeps) more = crashM d keeps := by
  refine crash_dry _ (crash_ok h keeps) (fun f hf => ?_) rfl rfl more
  simp only [crashM] at hf
  obtain ⟨i, hi, rfl⟩ := List.mem_mapIdx.1 hf
  rfl
theorem sync_twice (d : Disk) (name : Str) : syncM (syncM d name).1 name = syncM d name := by
  by_cases ho : d.Off = true
  · simp [syncM, ho]
  · cases hh : has d.Files name with
    | false => simp [syncM, ho, hh]
    | true =>
      have hn := (idxI_get hh).2.2.2
      have e : syncM d name = ({ d with Files := setF d.Files name ⟨(fileAt d.Files name).Name, (fileAt d.Files name).Safe ++ (fileAt d.Files name).Wait, []⟩ }, 0) := by
        simp [syncM, ho, hh]
      rw [e]
      have e2 := setF_at (f := ⟨(fileAt d.Files name).Name, (fileAt d.Files name).Safe ++ (fileAt d.Files name).Wait, []⟩) hh hn
      have e3 : has (setF d.Files name ⟨(fileAt d.Files name).Name, (fileAt d.Files name).Safe ++ (fileAt d.Files name).Wait, []⟩) name = true := (setF_has hh (by exact hn) name).trans hh
      have e4 := setF_same e3
      rw [e2] at e4
      unfold syncM
      simp only
      rw [if_neg ho, if_neg (by rw [e3]; simp), e2]
      simp only [List.append_nil]
      rw [e4]

end Go.Ab
