/- Disks, plainly: appends, crashes, sameness. -/
import Derived.Test.YtgmejofagmfcfaaGreatDoorPD1
namespace Go.Ab
set_option linter.unusedVariables false
set_option linter.unusedSimpArgs false

theorem count_loop {σ ρ : Type} (step : σ → Option (σ ⊕ ρ)) (st : Nat → σ) (n : Nat) (r : ρ) (h : ∀ k, k < n → step (st k) = some (.inl (st (k + 1)))) (hend : step (st n) = some (.inr r)) : loop step (st 0) = some r := by
  have key : ∀ d k, k + d = n → loop step (st k) = some r := by
    intro d
    induction d with
    | zero =>
      intro k hk
      have : k = n := by omega
      subst this
      exact loop_inr hend
    | succ d ih =>
      intro k hk
      rw [loop_inl (h k (by omega))]
      exact ih (k + 1) (by omega)
  exact key n 0 (by omega)

/-! ### Appends -/
def torn (fuse : Int) (s : Str) : Str := if 0 ≤ fuse ∧ fuse < s.length then s.take fuse.toNat else s
theorem torn_le (fuse : Int) (s : Str) : (torn fuse s).length ≤ s.length := by
  unfold torn
  split
  · rw [List.length_take]; omega
  · exact Nat.le_refl _
def withF (fs : List File) (name : Str) : List File := if has fs name then fs else fs ++ [⟨name, [], []⟩]
def appendM (d : Disk) (name s : Str) : Disk × Int :=
  if d.Off then (d, 6) else
  if named name = false then (d, 1) else
  if (has d.Files name = false ∧ 64 ≤ d.Files.length) ∨ d.Room < s.length then (d, 5) else
  if 65536 < (fsize (fileAt d.Files name) : Int) + s.length then (d, 4) else
  (⟨setF (withF d.Files name) name ⟨name, (fileAt d.Files name).Safe, (fileAt d.Files name).Wait ++ torn d.Fuse s⟩, d.Room - (torn d.Fuse s).length, if 0 ≤ d.Fuse then d.Fuse - (torn d.Fuse s).length else d.Fuse, decide ((torn d.Fuse s).length < s.length)⟩,
    if (torn d.Fuse s).length < s.length then 6 else 0)

theorem has_with (fs : List File) (name : Str) : has (withF fs name) name = true := by
  unfold withF
  cases h : has fs name with
  | true => rw [if_pos rfl]; exact h
  | false => rw [if_neg (by simp)]; unfold has; simp [isF]
theorem new_idx {fs : List File} {name : Str} (h : has fs name = false) : idxI (fs ++ [⟨name, [], []⟩]) name = fs.length ∧ fileAt (fs ++ [⟨name, [], []⟩]) name = ⟨name, [], []⟩ := by
  have hn := h
  unfold has at hn
  rw [List.any_eq_false] at hn
  constructor
  · have : idxOf (fs ++ [⟨name, [], []⟩]) name = some fs.length := by
      unfold idxOf
      rw [List.findIdx?_eq_some_iff_getElem]
      refine ⟨by simp, by simp [isF], fun j hj => ?_⟩
      rw [List.getElem_append_left hj]
      exact hn _ (List.getElem_mem hj)
    unfold idxI
    rw [this]
  · unfold fileAt
    rw [List.find?_append, List.find?_eq_none.2 (fun f hf => hn f hf)]
    simp [isF]
theorem fileAt_with (fs : List File) (name : Str) : fileAt (withF fs name) name = ⟨name, (fileAt fs name).Safe, (fileAt fs name).Wait⟩ := by
  unfold withF
  cases h : has fs name with
  | true =>
    rw [if_pos rfl]
    have := (idxI_get h).2.2.2
    cases hf : fileAt fs name
    rw [hf] at this
    simp only at this
    subst this
    rfl
  | false => rw [if_neg (by simp), (new_idx h).2, fileAt_none h]; rfl
theorem with_len (fs : List File) (name : Str) : (withF fs name).length ≤ fs.length + 1 := by
  unfold withF; split <;> simp
theorem cut_zero {s : Str} {n : Int} : cut s 0 n = s.take n.toNat := by simp [cut]
theorem cut_full (s : Str) : cut s 0 (s.length : Int) = s := by simp [cut]

/-- How many bytes are taken. -/
def taken (fuse : Int) (s : Str) : Int := if ((decide (fuse ≥ 0)) && (decide (fuse < (s.length : Int)))) then fuse else (s.length : Int)
theorem taken_eq (fuse : Int) (s : Str) : taken fuse s = ((torn fuse s).length : Int) := by
  unfold taken torn
  by_cases h : 0 ≤ fuse ∧ fuse < s.length
  · rw [if_pos (by simpa using h), if_pos h, List.length_take]; omega
  · rw [if_neg (by simpa using h), if_neg h]
theorem cut_taken (fuse : Int) (s : Str) : cut s 0 (taken fuse s) = torn fuse s := by
  unfold taken torn
  by_cases h : 0 ≤ fuse ∧ fuse < s.length
  · rw [if_pos (by simpa using h), if_pos h, cut_zero]
  · rw [if_neg (by simpa using h), if_neg h, cut_full]

theorem app_off {d : Disk} {name s : Str} (h : d.Off = true) : appendM d name s = (d, 6) := by simp [appendM, h]
theorem app_name {d : Disk} {name s : Str} (h : d.Off = false) (h1 : named name = false) : appendM d name s = (d, 1) := by simp [appendM, h, h1]
theorem app_full {d : Disk} {name s : Str} (h : d.Off = false) (h1 : named name = true) (h2 : (has d.Files name = false ∧ 64 ≤ d.Files.length) ∨ d.Room < s.length) : appendM d name s = (d, 5) := by
  unfold appendM; simp only [h, h1]; rw [if_neg (by simp), if_neg (by simp), if_pos h2]
theorem app_big {d : Disk} {name s : Str} (h : d.Off = false) (h1 : named name = true) (h2 : ¬ ((has d.Files name = false ∧ 64 ≤ d.Files.length) ∨ d.Room < s.length)) (h3 : 65536 < (fsize (fileAt d.Files name) : Int) + s.length) : appendM d name s = (d, 4) := by
  unfold appendM; simp only [h, h1]; rw [if_neg (by simp), if_neg (by simp), if_neg h2, if_pos h3]
theorem app_main {d : Disk} {name s : Str} (h : d.Off = false) (h1 : named name = true) (h2 : ¬ ((has d.Files name = false ∧ 64 ≤ d.Files.length) ∨ d.Room < s.length)) (h3 : ¬ 65536 < (fsize (fileAt d.Files name) : Int) + s.length) : appendM d name s =
    (⟨setF (withF d.Files name) name ⟨name, (fileAt d.Files name).Safe, (fileAt d.Files name).Wait ++ torn d.Fuse s⟩, d.Room - (torn d.Fuse s).length, if 0 ≤ d.Fuse then d.Fuse - (torn d.Fuse s).length else d.Fuse, decide ((torn d.Fuse s).length < s.length)⟩,
    if (torn d.Fuse s).length < s.length then 6 else 0) := by
  unfold appendM; simp only [h, h1]; rw [if_neg (by simp), if_neg (by simp), if_neg h2, if_neg h3]
theorem tail_eq (fs : List File) (room fuse : Int) (s : Str) (hr : -9223372036854775808 ≤ room ∧ room ≤ 9223372036854775807) (hf : -9223372036854775808 ≤ fuse ∧ fuse ≤ 9223372036854775807) (h2 : ¬ room < s.length) :
    (if decide (((torn fuse s).length : Int) < (s.length : Int)) = true then
      some (({ Files := fs, Room := (IntKind.i64.wrap (room - ((torn fuse s).length : Int))), Fuse := (if (decide (fuse ≥ 0)) = true then (IntKind.i64.wrap (fuse - ((torn fuse s).length : Int))) else fuse), Off := true } : Disk), (6 : Int))
    else
      some (({ Files := fs, Room := (IntKind.i64.wrap (room - ((torn fuse s).length : Int))), Fuse := (if (decide (fuse ≥ 0)) = true then (IntKind.i64.wrap (fuse - ((torn fuse s).length : Int))) else fuse), Off := false } : Disk), 0)) =
    some (⟨fs, room - (torn fuse s).length, if 0 ≤ fuse then fuse - (torn fuse s).length else fuse, decide ((torn fuse s).length < s.length)⟩, if (torn fuse s).length < s.length then 6 else 0) := by
  have htl := torn_le fuse s
  have e1 : IntKind.i64.wrap (room - ((torn fuse s).length : Int)) = room - ((torn fuse s).length : Int) := w64_in (by omega) (by omega)
  have e2 : (if decide (fuse ≥ 0) = true then IntKind.i64.wrap (fuse - ((torn fuse s).length : Int)) else fuse) = if 0 ≤ fuse then fuse - ((torn fuse s).length : Int) else fuse := by
    have hle : 0 ≤ fuse → ((torn fuse s).length : Int) ≤ fuse ∨ True := fun _ => .inr trivial
    by_cases hp : 0 ≤ fuse
    · have hlen : ((torn fuse s).length : Int) ≤ s.length := by omega
      rw [if_pos (show decide (fuse ≥ 0) = true by simpa using hp), if_pos hp, w64_in (by omega) (by omega)]
    · rw [if_neg (show ¬ decide (fuse ≥ 0) = true by simpa using hp), if_neg hp]
  rw [e1, e2]
  by_cases ht : (torn fuse s).length < s.length
  · rw [if_pos (show decide (((torn fuse s).length : Int) < (s.length : Int)) = true by simpa using ht)]; simp [ht]
  · rw [if_neg (show ¬ decide (((torn fuse s).length : Int) < (s.length : Int)) = true by simpa using ht)]; simp [ht]

theorem append_eq {d : Disk} (h : DOk d) (name s : Str) (hs : s.length ≤ 1099511627776) : disk_Append d name s = some (appendM d name s) := by
  have hl := h.lenS
  have hr := h.room
  have hf := h.fuse
  have hz := fsize_at h name
  have htl := torn_le d.Fuse s
  unfold disk_Append
  rw [find_eq h.len]
  simp only [Option.bind_some]
  cases ho : d.Off with
  | true => rw [app_off ho]; rfl
  | false =>
    rw [named_eq]
    simp only [Option.bind_some]
    cases hn : named name with
    | false => rw [app_name ho hn]; rfl
    | true =>
      rw [if_neg (show ¬ false = true by simp), if_neg (show ¬ (!true) = true by simp)]
      by_cases hfull : (has d.Files name = false ∧ 64 ≤ d.Files.length) ∨ d.Room < s.length
      · rw [app_full ho hn hfull]
        by_cases h1 : has d.Files name = false ∧ 64 ≤ d.Files.length
        · rw [if_pos (show (!has d.Files name && decide ((d.Files.length : Int) ≥ 64)) = true by rw [h1.1]; simp; omega)]; rfl
        · rw [if_neg (show ¬ (!has d.Files name && decide ((d.Files.length : Int) ≥ 64)) = true by simp; intro x; have : ¬ 64 ≤ d.Files.length := fun y => h1 ⟨x, y⟩; omega),
            if_pos (show decide ((s.length : Int) > d.Room) = true by have := hfull.resolve_left h1; simpa using this)]; rfl
      · have h1 : ¬ (has d.Files name = false ∧ 64 ≤ d.Files.length) := fun x => hfull (.inl x)
        have h2 : ¬ d.Room < s.length := fun x => hfull (.inr x)
        rw [if_neg (show ¬ (!has d.Files name && decide ((d.Files.length : Int) ≥ 64)) = true by simp; intro x; have : ¬ 64 ≤ d.Files.length := fun y => h1 ⟨x, y⟩; omega),
          if_neg (show ¬ decide ((s.length : Int) > d.Room) = true by simpa using h2), size_eq hz]
        simp only [Option.bind_some]
        rw [w64_in (n := (fsize (fileAt d.Files name) : Int) + _) (by omega) (by omega)]
        by_cases h3 : 65536 < (fsize (fileAt d.Files name) : Int) + s.length
        · rw [app_big ho hn hfull h3, if_pos (show decide ((fsize (fileAt d.Files name) : Int) + s.length > 65536) = true by simpa using h3)]; rfl
        · rw [app_main ho hn hfull h3, if_neg (show ¬ decide ((fsize (fileAt d.Files name) : Int) + s.length > 65536) = true by simpa using h3)]
          simp only [Option.bind_some]
          have e1 : (if (!has d.Files name) = true then need (d.Files.length * 48 ≤ 140737488355328) (need ((d.Files.length + 1) * 48 ≤ 140737488355328) (some (d.Files ++ [({ Name := name, Safe := [], Wait := [] } : File)]))) else some d.Files) = some (withF d.Files name) := by
            unfold withF
            cases hh : has d.Files name with
            | true => rfl
            | false => simp only [Bool.not_false, if_true]; rw [need_pos (by omega), need_pos (by omega)]; rfl
          have e2 : (if (decide (d.Fuse ≥ 0) && decide (d.Fuse < (s.length : Int))) = true then need (0 ≤ (0 : Int) ∧ 0 ≤ d.Fuse ∧ d.Fuse ≤ (s.length : Int)) (some (cut s 0 d.Fuse)) else some s) = some (torn d.Fuse s) := by
            unfold torn
            by_cases hc : 0 ≤ d.Fuse ∧ d.Fuse < s.length
            · rw [if_pos (by simpa using hc), if_pos hc, need_pos (by omega), cut_zero]
            · rw [if_neg (by simpa using hc), if_neg hc]
          rw [e1]
          simp only [Option.bind_some]
          rw [e2]
          simp only [Option.bind_some]
          have hwl := with_len d.Files name
          rw [at_eq (d := { Files := withF d.Files name, Room := d.Room, Fuse := d.Fuse, Off := false }) (by simp only; have := h.lenS; omega)]
          simp only [Option.bind_some]
          have g := idxI_get (has_with d.Files name)
          rw [idxI_ix (has_with d.Files name)]
          simp only [Option.bind_some]
          unfold fsize at hz
          rw [fileAt_with]
          simp only
          rw [need_pos (by omega), set_eq (by omega) g.1 g.2.1]
          simp only [Option.bind_some]
          exact tail_eq _ d.Room d.Fuse s hr hf h2

end Go.Ab
