/- Disks, plainly: crashes, sameness, what is shown, and the law that twice is as once. -/
import Derived.Test.YtgmejofagmfcfaaGreatDoorPD2
import Derived.KernelRfl
namespace Go.Ab
set_option linter.unusedVariables false
set_option linter.unusedSimpArgs false

/-! ### Crashes -/
def keepOf (keeps : List Int) (i : Nat) (f : File) : Nat := (min (max (keeps.getD i 0) 0) (f.Wait.length : Int)).toNat
def crashF (keeps : List Int) (i : Nat) (f : File) : File := ⟨f.Name, f.Safe ++ f.Wait.take (keepOf keeps i f), []⟩
def crashR (keeps : List Int) (fs : List File) (room : Int) : Nat → Int
  | 0 => room
  | k + 1 => match fs[k]? with
    | some f => IntKind.i64.wrap (crashR keeps fs room k + ((f.Wait.length : Int) - keepOf keeps k f))
    | none => crashR keeps fs room k
def crashTo (keeps : List Int) (fs : List File) (k : Nat) : List File := fs.mapIdx (fun i f => if i < k then crashF keeps i f else f)
def crashM (d : Disk) (keeps : List Int) : Disk := ⟨d.Files.mapIdx (crashF keeps), crashR keeps d.Files d.Room d.Files.length, -1, false⟩

theorem keep_le (keeps : List Int) (i : Nat) (f : File) : keepOf keeps i f ≤ f.Wait.length := by unfold keepOf; omega
theorem wrapR (a b c : Int) : IntKind.i64.wrap (a + IntKind.i64.wrap (b - c)) = IntKind.i64.wrap (a + (b - c)) := by
  rw [IntKind.wrap_i64, IntKind.wrap_i64, IntKind.wrap_i64]; omega
theorem wrapL (a b c : Int) : IntKind.i64.wrap (IntKind.i64.wrap (a + b) - c) = IntKind.i64.wrap (a + (b - c)) := by
  rw [IntKind.wrap_i64, IntKind.wrap_i64, IntKind.wrap_i64]; omega
theorem crashTo_len (keeps : List Int) (fs : List File) (k : Nat) : (crashTo keeps fs k).length = fs.length := by simp [crashTo]
theorem crashTo_zero (keeps : List Int) (fs : List File) : crashTo keeps fs 0 = fs := by
  apply List.ext_getElem?
  intro i
  simp [crashTo]
theorem crashTo_all (keeps : List Int) (fs : List File) : crashTo keeps fs fs.length = fs.mapIdx (crashF keeps) := by
  apply List.ext_getElem?
  intro i
  simp only [crashTo, List.getElem?_mapIdx]
  cases h : fs[i]? with
  | none => rfl
  | some f =>
    have := (List.getElem?_eq_some_iff.1 h).1
    simp [this]
theorem crashTo_at {keeps : List Int} {fs : List File} {k : Nat} {f : File} (h : fs[k]? = some f) : (crashTo keeps fs k)[k]? = some f := by
  simp [crashTo, h]
theorem crashTo_succ {keeps : List Int} {fs : List File} {k : Nat} {f : File} (h : fs[k]? = some f) : (crashTo keeps fs k).set k (crashF keeps k f) = crashTo keeps fs (k + 1) := by
  apply List.ext_getElem?
  intro i
  rw [List.getElem?_set]
  by_cases hi : k = i
  · subst hi
    have := (List.getElem?_eq_some_iff.1 h).1
    rw [if_pos rfl, if_pos (by rw [crashTo_len]; exact this)]
    simp [crashTo, h]
  · rw [if_neg hi]
    simp only [crashTo, List.getElem?_mapIdx]
    cases fs[i]? with
    | none => rfl
    | some g =>
      by_cases h1 : i < k
      · simp [h1, show i < k + 1 by omega]
      · simp [h1, show ¬ i < k + 1 by omega]
theorem crashTo_take {keeps : List Int} {fs : List File} {k : Nat} {f : File} (h : fs[k]? = some f) : (fs.take k).mapIdx (crashF keeps) ++ [crashF keeps k f] = (fs.take (k + 1)).mapIdx (crashF keeps) := by
  have hlt := (List.getElem?_eq_some_iff.1 h).1
  rw [List.take_add_one, h]
  simp only [Option.toList, List.mapIdx_append, List.mapIdx_cons, List.mapIdx_nil, List.length_take, Nat.zero_add]
  rw [Nat.min_eq_left (Nat.le_of_lt hlt)]
theorem crashR_succ {keeps : List Int} {fs : List File} {room : Int} {k : Nat} {f : File} (h : fs[k]? = some f) : crashR keeps fs room (k + 1) = IntKind.i64.wrap (crashR keeps fs room k + ((f.Wait.length : Int) - keepOf keeps k f)) := by
  simp only [crashR, h]

theorem keep_prog (keeps : List Int) (k : Nat) (f : File) :
    (if (decide ((k : Int) < (keeps.length : Int))) = true then
      (ix keeps (k : Int)).bind fun x318 => some (if (f.Wait.length : Int) < (if x318 < 0 then 0 else x318) then (f.Wait.length : Int) else (if x318 < 0 then 0 else x318))
    else some (0 : Int)) = some (keepOf keeps k f : Int) := by
  by_cases h : k < keeps.length
  · rw [if_pos (by simpa using h), ix_get h]
    simp only [Option.bind_some]
    unfold keepOf
    rw [List.getD_eq_getElem?_getD, List.getElem?_eq_getElem h]
    simp only [Option.getD_some]
    congr 1
    split <;> split <;> omega
  · rw [if_neg (by simpa using h)]
    unfold keepOf
    rw [List.getD_eq_getElem?_getD, List.getElem?_eq_none (by omega)]
    simp
    omega
theorem crash_eq {d : Disk} (h : DOk d) (keeps : List Int) : disk_Crash d keeps = some (crashM d keeps) := by
  have hl := h.lenS
  unfold disk_Crash crashM
  rw [need_pos (by omega)]
  have := count_loop (fun (s272 : Int × Int × (List File)) => disk_Crash_l2 d keeps s272.1 s272.2.1 s272.2.2) (fun k => ((k : Int), crashR keeps d.Files d.Room k, crashTo keeps d.Files k)) d.Files.length
    (crashR keeps d.Files d.Room d.Files.length, crashTo keeps d.Files d.Files.length) ?_ ?_
  · simp only [crashTo_zero, crashR] at this
    rw [show ((0 : Nat) : Int) = 0 from rfl] at this
    rw [this]
    simp only [Option.bind_some]
    rw [crashTo_all]
  · intro k hk
    have hg : d.Files[k]? = some d.Files[k] := List.getElem?_eq_getElem hk
    unfold disk_Crash_l2
    simp only
    rw [if_pos (by simpa using hk), ix_nat, crashTo_at hg]
    simp only [Option.bind_some]
    rw [keep_prog]
    simp only [Option.bind_some]
    have hk2 := keep_le keeps k d.Files[k]
    have hsz := h.size _ (List.getElem_mem hk)
    unfold fsize at hsz
    rw [cut_zero, need_pos (by omega), need_pos (by rw [List.length_take]; omega), w64_in (n := (k : Int) + 1) (by omega) (by omega), wrapR, crashR_succ hg, Int.toNat_natCast, Int.toNat_natCast]
    have := crashTo_succ (keeps := keeps) hg
    unfold crashF at this
    rw [this]
    rfl
  · unfold disk_Crash_l2
    simp only
    rw [if_neg (by simp)]

theorem keep_ref (keeps : List Int) (k : Nat) (f : File) :
    ((if (decide ((k : Int) < (keeps.length : Int))) = true then
          (ix keeps (k : Int)).bind fun x998 => some (decide (x998 > 0))
        else some false).bind fun (y995 : Bool) =>
      if y995 = true then (ix keeps (k : Int)).bind fun x1002 => some x1002 else some (0 : Int)) = some (max (keeps.getD k 0) 0) := by
  by_cases h : k < keeps.length
  · rw [if_pos (by simpa using h), ix_get h]
    simp only [Option.bind_some]
    rw [List.getD_eq_getElem?_getD, List.getElem?_eq_getElem h]
    simp only [Option.getD_some]
    by_cases h0 : keeps[k] > 0
    · rw [if_pos (by simpa using h0)]; congr 1; omega
    · rw [if_neg (by simpa using h0)]; congr 1; omega
  · rw [if_neg (by simpa using h)]
    rw [List.getD_eq_getElem?_getD, List.getElem?_eq_none (by omega)]
    simp
theorem keep_ref2 (keeps : List Int) (k : Nat) (f : File) : (if decide (max (keeps.getD k 0) 0 > (f.Wait.length : Int)) = true then (f.Wait.length : Int) else max (keeps.getD k 0) 0) = (keepOf keeps k f : Int) := by
  unfold keepOf
  by_cases h : max (keeps.getD k 0) 0 > (f.Wait.length : Int)
  · rw [if_pos (by simpa using h)]; omega
  · rw [if_neg (by simpa using h)]; omega
/-! ### Sameness -/
theorem eq_loop (a b : List File) (hl : a.length = b.length) (hb : a.length ≤ 2000000000) (step : Int → Option (Int ⊕ (Unit ⊕ Unit)))
    (hstep : ∀ (k : Nat) x y, a[k]? = some x → b[k]? = some y → step k = if (!(decide (x = y))) = true then some (.inr (.inl ())) else some (.inl (IntKind.i64.wrap ((k : Int) + 1)))) (hend : step a.length = some (.inr (.inr ()))) :
    loop step 0 = some (if a = b then .inr () else .inl ()) := by
  have hz : (a.zip b).length = a.length := by rw [List.length_zip]; omega
  rw [search_loop (a.zip b) (fun p => !(decide (p.1 = p.2))) (fun _ => .inl ()) (.inr ()) step (by omega) ?_ (by rw [hz]; exact hend)]
  · congr 1
    cases hf : (a.zip b).findIdx? (fun p => !(decide (p.1 = p.2))) with
    | none =>
      rw [List.findIdx?_eq_none_iff] at hf
      have : a = b := by
        apply List.ext_getElem hl
        intro i h1 h2
        have hm : (a[i], b[i]) ∈ a.zip b := by
          have : (a.zip b)[i]'(by omega) = (a[i], b[i]) := by simp
          rw [← this]; exact List.getElem_mem _
        simpa using hf _ hm
      rw [if_pos this]
    | some k =>
      rw [List.findIdx?_eq_some_iff_getElem] at hf
      obtain ⟨h1, h2, _⟩ := hf
      have : a ≠ b := by
        rintro rfl
        simp at h2
      rw [if_neg this]
  · intro k p hp
    have hk : k < a.length := by have := (List.getElem?_eq_some_iff.1 hp).1; omega
    have h1 : a[k]? = some a[k] := List.getElem?_eq_getElem hk
    have h2 : b[k]? = some b[k] := List.getElem?_eq_getElem (by omega)
    have : p = (a[k], b[k]) := by
      have := (List.getElem?_eq_some_iff.1 hp).2
      rw [← this]; simp
    subst this
    exact hstep k _ _ h1 h2

theorem disk_iff (a b : Disk) : a = b ↔ (a.Room = b.Room ∧ a.Fuse = b.Fuse ∧ a.Off = b.Off ∧ a.Files = b.Files) := by
  constructor
  · rintro rfl; exact ⟨rfl, rfl, rfl, rfl⟩
  · rintro ⟨h1, h2, h3, h4⟩; cases a; cases b; simp only at h1 h2 h3 h4; subst h1 h2 h3 h4; rfl
theorem rsame_eq {a b : Disk} (ha : a.Files.length ≤ 2000000000) : ref03_Same a b = some (decide (a = b)) := by
  unfold ref03_Same
  by_cases h : a.Room = b.Room ∧ a.Fuse = b.Fuse ∧ a.Off = b.Off ∧ a.Files.length = b.Files.length
  · obtain ⟨h1, h2, h3, h4⟩ := h
    rw [if_neg (by simp [h1, h2, h3, h4]), eq_loop a.Files b.Files h4 ha _ ?_ ?_]
    · by_cases he : a.Files = b.Files
      · rw [if_pos he]
        simp [disk_iff, h1, h2, h3, he]
      · rw [if_neg he]
        simp [disk_iff, he]
    · intro k x y hx hy
      have hlt := (List.getElem?_eq_some_iff.1 hx).1
      unfold ref03_Same_l2
      rw [if_pos (by simpa using hlt), ix_nat, ix_nat, hx, hy]
      rfl
    · unfold ref03_Same_l2
      rw [if_neg (by simp)]
  · rw [if_pos]
    · congr 1
      symm
      rw [decide_eq_false_iff_not]
      rintro rfl
      exact h ⟨rfl, rfl, rfl, rfl⟩
    · apply Classical.byContradiction
      intro hc
      apply h
      simp at hc
      obtain ⟨h1, h2, h3, h4⟩ := hc
      refine ⟨h1, h2, h3, ?_⟩
      omega
/-! ### What is shown -/
end Go.Ab
