/- Disks, plainly: what the program's and the document's functions of chapter 03 come to. -/
import Derived.Test.YtgmejofagmfcfaaGreatDoorW
import Derived.IntWalk
namespace Go.Ab
set_option linter.unusedVariables false
set_option linter.unusedSimpArgs false

abbrev w64 (n : Int) : Int := IntKind.i64.wrap n
theorem w64_in {n : Int} (h0 : -9223372036854775808 ≤ n) (h1 : n ≤ 9223372036854775807) : IntKind.i64.wrap n = n := IntWalk.i64_in n ⟨by omega, by omega⟩

/-- A search, as a loop over places. -/
theorem search_loop {α ρ : Type} (l : List α) (q : α → Bool) (g : Int → ρ) (e : ρ) (step : Int → Option (Int ⊕ ρ)) (hl : (l.length : Int) ≤ 9223372036854775807)
    (hstep : ∀ (k : Nat) x, l[k]? = some x → step k = if q x = true then some (.inr (g k)) else some (.inl (IntKind.i64.wrap (k + 1)))) (hend : step l.length = some (.inr e)) :
    loop step 0 = some (match l.findIdx? q with | some k => g (k : Int) | none => e) := by
  have key : ∀ (d k : Nat), k + d = l.length → (∀ j x, j < k → l[j]? = some x → q x = false) → loop step (k : Int) = some (match l.findIdx? q with | some k => g (k : Int) | none => e) := by
    intro d
    induction d with
    | zero =>
      intro k hk hno
      have hk' : k = l.length := by omega
      subst hk'
      rw [loop_inr hend]
      have : l.findIdx? q = none := by
        rw [List.findIdx?_eq_none_iff]
        intro x hx
        obtain ⟨j, hj, rfl⟩ := List.getElem_of_mem hx
        exact hno j _ hj (List.getElem?_eq_getElem hj)
      rw [this]
    | succ d ih =>
      intro k hk hno
      have hlt : k < l.length := by omega
      have hg := List.getElem?_eq_getElem hlt
      have hs := hstep k _ hg
      cases hq : q l[k] with
      | true =>
        rw [hq, if_pos rfl] at hs
        rw [loop_inr hs]
        have : l.findIdx? q = some k := by
          rw [List.findIdx?_eq_some_iff_getElem]
          exact ⟨hlt, hq, fun j hj => by have := hno j _ hj (List.getElem?_eq_getElem (by omega)); simpa using this⟩
        rw [this]
      | false =>
        rw [hq, if_neg (by simp)] at hs
        rw [loop_inl hs, w64_in (by omega) (by omega)]
        have := ih (k + 1) (by omega) (fun j x hj hx => by
          rcases Nat.lt_or_ge j k with h | h
          · exact hno j x h hx
          · have : j = k := by omega
            subst this
            rw [hg] at hx
            injection hx with hx
            rw [← hx]; exact hq)
        simpa using this
  have := key l.length 0 (by omega) (fun j x hj => by omega)
  simpa using this

/-! ### Files -/
def isF (name : Str) (f : File) : Bool := decide (f.Name = name)
def idxOf (fs : List File) (name : Str) : Option Nat := fs.findIdx? (isF name)
def idxI (fs : List File) (name : Str) : Int := match idxOf fs name with | some k => (k : Int) | none => -1
def noFile : File := ⟨[], [], []⟩
def fileAt (fs : List File) (name : Str) : File := (fs.find? (isF name)).getD noFile
def has (fs : List File) (name : Str) : Bool := fs.any (isF name)

theorem idxI_neg {fs : List File} {name : Str} : idxI fs name < 0 ↔ has fs name = false := by
  unfold idxI idxOf has
  cases h : fs.findIdx? (isF name) with
  | none =>
    rw [List.findIdx?_eq_none_iff] at h
    simp only [List.any_eq_false]
    exact ⟨fun _ f hf => by simpa using h f hf, fun _ => by omega⟩
  | some k =>
    rw [List.findIdx?_eq_some_iff_getElem] at h
    obtain ⟨hlt, h1, _⟩ := h
    constructor
    · intro h; simp only at h; omega
    · intro h
      rw [List.any_eq_false] at h
      exact absurd h1 (h _ (List.getElem_mem hlt))
theorem idxI_get {fs : List File} {name : Str} (h : has fs name = true) : 0 ≤ idxI fs name ∧ (idxI fs name).toNat < fs.length ∧ fs[(idxI fs name).toNat]? = some (fileAt fs name) ∧ (fileAt fs name).Name = name := by
  unfold idxI idxOf fileAt
  cases hi : fs.findIdx? (isF name) with
  | none =>
    rw [List.findIdx?_eq_none_iff] at hi
    unfold has at h
    rw [List.any_eq_true] at h
    obtain ⟨f, hf, h1⟩ := h
    have := hi f hf
    rw [this] at h1; cases h1
  | some k =>
    rw [List.findIdx?_eq_some_iff_getElem] at hi
    obtain ⟨hlt, h1, h3⟩ := hi
    have hf : fs.find? (isF name) = some fs[k] := by
      rw [List.find?_eq_some_iff_getElem]
      exact ⟨h1, k, hlt, rfl, fun j hj => by have := h3 j hj; simpa using this⟩
    simp only [hf, Option.getD]
    exact ⟨by omega, by simpa using hlt, by simp [hlt], by simpa [isF] using h1⟩
theorem idxI_ix {fs : List File} {name : Str} (h : has fs name = true) : ix fs (idxI fs name) = some (fileAt fs name) := by
  obtain ⟨h1, h2, h3, _⟩ := idxI_get h
  unfold ix; rw [if_pos h1, h3]
theorem idxI_pos {fs : List File} {name : Str} (h : has fs name = true) : ¬ idxI fs name < 0 := by rw [idxI_neg, h]; simp
theorem fileAt_none {fs : List File} {name : Str} (h : has fs name = false) : fileAt fs name = noFile := by
  unfold fileAt
  unfold has at h
  rw [List.any_eq_false] at h
  rw [List.find?_eq_none.2 (fun f hf => h f hf)]
  rfl
theorem fileAt_mem {fs : List File} {name : Str} (h : has fs name = true) : fileAt fs name ∈ fs := List.mem_of_getElem? (idxI_get h).2.2.1

def fsize (f : File) : Nat := f.Safe.length + f.Wait.length
/-- A disk that is not beyond all bounds. -/
structure DOk (d : Disk) : Prop where
  lenS : d.Files.length ≤ 1073741824
  size : ∀ f ∈ d.Files, fsize f ≤ 1099511627776
  room : -9223372036854775808 ≤ d.Room ∧ d.Room ≤ 9223372036854775807
  fuse : -9223372036854775808 ≤ d.Fuse ∧ d.Fuse ≤ 9223372036854775807

theorem DOk.len {d : Disk} (h : DOk d) : d.Files.length ≤ 2000000000 := Nat.le_trans h.lenS (by decide)
theorem fsize_at {d : Disk} (h : DOk d) (name : Str) : fsize (fileAt d.Files name) ≤ 1099511627776 := by
  cases hh : has d.Files name with
  | true => exact h.size _ (fileAt_mem hh)
  | false => rw [fileAt_none hh]; simp [noFile, fsize]

/-! ### The program's -/
theorem at_eq {d : Disk} (hl : d.Files.length ≤ 2000000000) (name : Str) : disk_at d name = some (idxI d.Files name) := by
  unfold disk_at slices_IndexFunc_File__disk_at_1
  rw [search_loop d.Files (isF name) (fun k => .inl k) (.inr ()) _ (by omega) ?_ ?_]
  · unfold idxI idxOf
    cases d.Files.findIdx? (isF name) <;> rfl
  · intro k x hx
    have hlt := (List.getElem?_eq_some_iff.1 hx).1
    unfold slices_IndexFunc_File__disk_at_1_l4
    rw [if_pos (by simpa using hlt), ix_nat, hx]
    rfl
  · unfold slices_IndexFunc_File__disk_at_1_l4
    rw [if_neg (by simp)]
theorem rat_eq {d : Disk} (hl : d.Files.length ≤ 2000000000) (name : Str) : ref03_at d name = some (idxI d.Files name) := by
  unfold ref03_at
  rw [search_loop d.Files (isF name) (fun k => .inl k) (.inr ()) _ (by omega) ?_ ?_]
  · unfold idxI idxOf
    cases d.Files.findIdx? (isF name) <;> rfl
  · intro k x hx
    have hlt := (List.getElem?_eq_some_iff.1 hx).1
    unfold ref03_at_l2
    rw [if_pos (by simpa using hlt), ix_nat, hx]
    rfl
  · unfold ref03_at_l2
    rw [if_neg (by simp)]

theorem find_eq {d : Disk} (hl : d.Files.length ≤ 2000000000) (name : Str) : disk_Find d name = some (fileAt d.Files name, has d.Files name) := by
  unfold disk_Find
  rw [at_eq hl]
  simp only [Option.bind_some]
  cases hh : has d.Files name with
  | true => rw [if_neg (by simpa using idxI_pos hh), idxI_ix hh]; rfl
  | false => rw [if_pos (by simpa using idxI_neg.2 hh), fileAt_none hh]; rfl
theorem rfind_eq {d : Disk} (hl : d.Files.length ≤ 2000000000) (name : Str) : ref03_Find d name = some (fileAt d.Files name, has d.Files name) := by
  unfold ref03_Find
  rw [rat_eq hl]
  simp only [Option.bind_some]
  cases hh : has d.Files name with
  | true => rw [if_neg (by simpa using idxI_pos hh), idxI_ix hh]; rfl
  | false => rw [if_pos (by simpa using idxI_neg.2 hh), fileAt_none hh]; rfl

def readM (d : Disk) (name : Str) : Str × Int := if has d.Files name then ((fileAt d.Files name).Safe ++ (fileAt d.Files name).Wait, 0) else ([], 7)
theorem read_eq {d : Disk} (h : DOk d) (name : Str) : disk_Read d name = some (readM d name) := by
  unfold disk_Read readM
  rw [find_eq h.len]
  have := fsize_at h name
  unfold fsize at this
  simp only [Option.bind_some]
  cases hh : has d.Files name with
  | true => simp [need_pos (show (fileAt d.Files name).Safe.length + (fileAt d.Files name).Wait.length ≤ 9223372036854775807 by omega)]
  | false => simp
def newM (room : Int) : Disk × Int := if room < 0 then (⟨[], 0, 0, false⟩, 1) else (⟨[], room, -1, false⟩, 0)
theorem rnew_eq (room : Int) : ref03_New room = some (newM room) := by
  unfold ref03_New newM
  by_cases h : room < 0 <;> simp [h]

def named (name : Str) : Bool := decide (1 ≤ name.length) && decide (name.length ≤ 16)
theorem named_eq (name : Str) : disk_named name = some (named name) := by
  unfold disk_named named
  by_cases h : 1 ≤ name.length
  · rw [if_pos (by simp; omega)]; simp [h]; omega
  · rw [if_neg (by simp; omega)]; simp [h]
theorem rnamed_eq (name : Str) : (decide ((name.length : Int) < 1) || decide ((name.length : Int) > 16)) = !named name := by
  unfold named
  by_cases h : 1 ≤ name.length <;> by_cases k : name.length ≤ 16 <;> simp [h, k] <;> omega
theorem size_eq {f : File} (h : fsize f ≤ 1099511627776) : disk_size f = some (fsize f : Int) := by
  unfold disk_size fsize at *
  rw [w64_in (by omega) (by omega)]
  simp
theorem set_eq {l : List File} (hl : l.length ≤ 2000000000) {i : Int} (h0 : 0 ≤ i) (h1 : i.toNat < l.length) (x : File) : disk_set_File l i x = some (l.set i.toNat x) := by
  unfold disk_set_File
  rw [need_pos (by omega)]
  unfold ix
  rw [if_pos h0, List.getElem?_eq_getElem h1]
  rfl
def setF (fs : List File) (name : Str) (f : File) : List File := fs.set (idxI fs name).toNat f
def syncM (d : Disk) (name : Str) : Disk × Int :=
  if d.Off then (d, 6) else if has d.Files name = false then (d, 7) else
  ({ d with Files := setF d.Files name ⟨(fileAt d.Files name).Name, (fileAt d.Files name).Safe ++ (fileAt d.Files name).Wait, []⟩ }, 0)
theorem sync_eq {d : Disk} (h : DOk d) (name : Str) : disk_Sync d name = some (syncM d name) := by
  unfold disk_Sync syncM
  rw [at_eq h.len]
  have := fsize_at h name
  unfold fsize at this
  simp only [Option.bind_some]
  cases ho : d.Off with
  | true => simp
  | false =>
    cases hh : has d.Files name with
    | false => simp [idxI_neg.2 hh]
    | true =>
      have g := idxI_get hh
      rw [if_neg (by simp), if_neg (by simpa using idxI_pos hh), idxI_ix hh]
      simp only [Option.bind_some]
      rw [need_pos (by omega), set_eq h.len g.1 g.2.1]
      simp [setF, ho]
end Go.Ab
