/- Disks, plainly: the laws of what lasts and of fuses. -/
import Derived.Test.YtclmbdacfijifaaPD8
namespace Go.Ab
set_option linter.unusedVariables false
set_option linter.unusedSimpArgs false

theorem lasts_true (w : DiskLastsIn) (hr : w.Room ≤ 9223372036854775807) (hl : ∀ a ∈ w.L, ActOk a) (hm : ∀ a ∈ w.More, ActOk a) : law03_DiskLasts w = some true := by
  unfold law03_DiskLasts
  rw [shown_eq, new_eq]
  simp only [Option.bind_some]
  by_cases c0 : w.Room < 0
  · have : (newM w.Room).2 = 1 := by unfold newM; rw [if_pos c0]
    rw [if_pos (show (!decide ((newM w.Room).2 = 0)) = true by simp [this])]
  obtain ⟨n1, n2⟩ := new_inv (room := w.Room) (by omega)
  rw [if_neg (show ¬ (!decide ((newM w.Room).2 = 0)) = true by simp [n1])]
  have L1 := inv_loop (fun (s : Int × (List File) × Int × Int × Bool) => law03_DiskLasts_l2 w s.1 s.2.1 s.2.2.1 s.2.2.2.1 s.2.2.2.2)
    (fun k s => s.1 = (k : Int) ∧ RInv w.Room ⟨s.2.1, s.2.2.1, s.2.2.2.1, s.2.2.2.2⟩) (fun r => RInv w.Room ⟨r.1, r.2.1, r.2.2.1, r.2.2.2⟩) (min w.L.length 300) ((0 : Int), (newM w.Room).1.Files, (newM w.Room).1.Room, (newM w.Room).1.Fuse, (newM w.Room).1.Off) ⟨rfl, n2⟩ ?_ ?_
  rotate_left
  · rintro k ⟨i, fs, ro, fu, off⟩ hk ⟨rfl, hi⟩
    simp only at hi
    left
    have hk1 : k < w.L.length := by omega
    have hg : w.L[k]? = some w.L[k] := List.getElem?_eq_getElem hk1
    have ha := hl _ (List.getElem_mem hk1)
    have hd := does_inv hr hi ha
    unfold law03_DiskLasts_l2
    simp only
    rw [if_pos (show (decide ((k : Int) < (w.L.length : Int)) && decide ((k : Int) < 300)) = true by simp; omega), ix_nat, hg]
    simp only [Option.bind_some]
    rw [does_eq (hi.ok hr) _ ha.1]
    simp only [Option.bind_some]
    rw [w64_in (by omega) (by omega)]
    exact ⟨_, rfl, by simp, hd⟩
  · rintro ⟨i, fs, ro, fu, off⟩ ⟨rfl, hi⟩
    refine ⟨_, ?_, hi⟩
    unfold law03_DiskLasts_l2
    simp only
    rw [if_neg (by simp; omega)]
  obtain ⟨r, h1, h2⟩ := L1
  rw [h1]
  simp only [Option.bind_some]
  rw [sync_eq (h2.ok hr)]
  simp only [Option.bind_some]
  generalize hd0 : (⟨r.1, r.2.1, r.2.2.1, r.2.2.2⟩ : Disk) = d0 at h2 ⊢
  rcases Decidable.em ((syncM d0 w.Name).2 = 0) with c1 | c1
  rotate_left
  · rw [if_pos (show (!decide ((syncM d0 w.Name).2 = 0)) = true by simp [c1])]
  rw [if_neg (show ¬ (!decide ((syncM d0 w.Name).2 = 0)) = true by simp [c1])]
  have h3 := sync_inv h2 w.Name
  -- what is safe
  have hs : has (syncM d0 w.Name).1.Files w.Name = true ∧ (fileAt (syncM d0 w.Name).1.Files w.Name).Wait = [] := by
    unfold syncM at c1 ⊢
    by_cases e1 : d0.Off = true
    · rw [if_pos e1] at c1; cases c1
    rw [if_neg e1] at c1 ⊢
    by_cases e2 : has d0.Files w.Name = false
    · rw [if_pos e2] at c1; cases c1
    rw [if_neg e2]
    have e3 : has d0.Files w.Name = true := by simpa using e2
    have hf := (idxI_get e3).2.2.2
    refine ⟨by simp only; exact (setF_has e3 (by exact hf) w.Name).trans e3, ?_⟩
    simp only
    rw [setF_at e3 (by exact hf)]
  generalize hd1 : (syncM d0 w.Name).1 = d1 at h3 hs ⊢
  rw [read_eq (h3.ok hr)]
  simp only [Option.bind_some]
  have hwas : (readM d1 w.Name).1 = (fileAt d1.Files w.Name).Safe := by
    unfold readM
    rw [hs.1, hs.2]; simp
  rw [hwas]
  generalize hw : (fileAt d1.Files w.Name).Safe = was at hwas ⊢
  have k0 : SafeKept w.Name was d1 := ⟨hs.1, [], by rw [hw]; simp⟩
  have L2 := inv_loop (fun (s : Int × (List File) × Int × Int × Bool) => law03_DiskLasts_l4 w s.1 s.2.1 s.2.2.1 s.2.2.2.1 s.2.2.2.2)
    (fun k s => s.1 = (k : Int) ∧ RInv w.Room ⟨s.2.1, s.2.2.1, s.2.2.2.1, s.2.2.2.2⟩ ∧ SafeKept w.Name was ⟨s.2.1, s.2.2.1, s.2.2.2.1, s.2.2.2.2⟩) (fun r => RInv w.Room ⟨r.1, r.2.1, r.2.2.1, r.2.2.2⟩ ∧ SafeKept w.Name was ⟨r.1, r.2.1, r.2.2.1, r.2.2.2⟩) (min w.More.length 300)
    ((0 : Int), d1.Files, d1.Room, d1.Fuse, d1.Off) ⟨rfl, h3, k0⟩ ?_ ?_
  rotate_left
  · rintro k ⟨i, fs, ro, fu, off⟩ hk ⟨rfl, hi, hkp⟩
    simp only at hi hkp
    left
    have hk1 : k < w.More.length := by omega
    have hg : w.More[k]? = some w.More[k] := List.getElem?_eq_getElem hk1
    have ha := hm _ (List.getElem_mem hk1)
    have hd := does_inv hr hi ha
    unfold law03_DiskLasts_l4
    simp only
    rw [if_pos (show (decide ((k : Int) < (w.More.length : Int)) && decide ((k : Int) < 300)) = true by simp; omega), ix_nat, hg]
    simp only [Option.bind_some]
    rw [does_eq (hi.ok hr) _ ha.1, w64_in (n := (k : Int) + 1) (by omega) (by omega)]
    simp only [Option.bind_some]
    by_cases e3 : w.More[k].Kind = 3
    · simp only [e3, decide_true, Bool.not_true, Bool.false_eq_true, if_false, Option.bind_some]
      exact ⟨_, rfl, by simp, hi, hkp⟩
    · by_cases e4 : w.More[k].Kind = 4
      · simp only [e4, decide_true, Bool.not_true, Bool.false_eq_true, if_false, Option.bind_some, show ((4 : Int) = 3) = False by simp, decide_false, Bool.not_false, if_true]
        exact ⟨_, rfl, by simp, hi, hkp⟩
      · simp only [e3, e4, decide_false, Bool.not_false, if_true, Option.bind_some]
        exact ⟨_, rfl, by simp, hd, keeps_does hkp e3 e4⟩
  · rintro ⟨i, fs, ro, fu, off⟩ ⟨rfl, hi, hkp⟩
    refine ⟨_, ?_, hi, hkp⟩
    unfold law03_DiskLasts_l4
    simp only
    rw [if_neg (by simp; omega)]
  obtain ⟨r2, g1, g2⟩ := L2
  rw [g1]
  simp only [Option.bind_some]
  rw [read_eq (g2.1.ok hr)]
  simp only [Option.bind_some, if_true]
  generalize (⟨r2.1, r2.2.1, r2.2.2.1, r2.2.2.2⟩ : Disk) = d2 at g2 ⊢
  obtain ⟨g2, kh, t, kt⟩ := g2
  have hread : readM d2 w.Name = (was ++ (t ++ (fileAt d2.Files w.Name).Wait), 0) := by
    unfold readM
    rw [kh, if_pos rfl, kt, List.append_assoc]
  rw [hread]
  simp only
  rw [if_pos (by simp), if_pos (by simp; omega), need_pos (by simp; omega)]
  simp [cut]

/-! ### Fuses -/
theorem append_ok {d : Disk} (h : DOk d) (hl : d.Files.length ≤ 1000) (name s : Str) (hs : s.length ≤ 1099511627776) : DOk (appendM d name s).1 := by
  unfold appendM
  split
  · exact h
  split
  · exact h
  split
  · exact h
  rename_i c1 c2 c3
  split
  · exact h
  rename_i c4
  have t1 := torn_le d.Fuse s
  have hwl := with_len d.Files name
  have hroom : ¬ d.Room < s.length := fun x => c3 (.inr x)
  have hr := h.room
  have hf := h.fuse
  refine ⟨by simp only [setF_len]; omega, fun f hm => ?_, ⟨by simp only; omega, by simp only; omega⟩, ?_⟩
  · rcases setF_mem hm with hm | rfl
    · unfold withF at hm
      split at hm
      · exact h.size f hm
      · rcases List.mem_append.1 hm with hm | hm
        · exact h.size f hm
        · simp at hm; subst hm; simp [fsize]
    · have := fsize_at h name
      unfold fsize at *
      simp only [List.length_append]
      omega
  · simp only
    split <;> omega
/-- How things stand when k texts are appended. -/
structure AInv (k : Nat) (left : Int) (d : Disk) : Prop where
  off : d.Off = false
  fuse : d.Fuse = left
  le0 : 0 ≤ left
  le1 : left ≤ 10000
  room0 : 1048576 - 1000 * (k : Int) ≤ d.Room
  room1 : d.Room ≤ 1048576
  sa : fsize (fileAt d.Files [97]) ≤ 1000 * ((k + 1) / 2)
  sb : fsize (fileAt d.Files [98]) ≤ 1000 * (k / 2)
  len : d.Files.length ≤ min k 2
  ha : 1 ≤ k → has d.Files [97] = true
  hb : 2 ≤ k → has d.Files [98] = true
theorem arms_step {k : Nat} {left : Int} {d : Disk} (h : AInv k left d) (hk : k < 100) (s : Str) (hs : s.length ≤ 1000) :
    ((left < s.length ∧ (appendM d (if k % 2 = 0 then [97] else [98]) s).2 = 6 ∧ (appendM d (if k % 2 = 0 then [97] else [98]) s).1.Off = true) ∨
     (s.length ≤ left ∧ (appendM d (if k % 2 = 0 then [97] else [98]) s).2 = 0 ∧ AInv (k + 1) (left - s.length) (appendM d (if k % 2 = 0 then [97] else [98]) s).1)) := by
  obtain ⟨off, fuse, le0, le1, room0, room1, sa, sb, len, ha, hb⟩ := h
  generalize hnm : (if k % 2 = 0 then [97] else [98] : Str) = nm
  have hn : named nm = true := by rw [← hnm]; split <;> decide
  have hfs : fsize (fileAt d.Files nm) ≤ 50000 := by
    rw [← hnm]; split
    · omega
    · omega
  have h2 : ¬ ((has d.Files nm = false ∧ 64 ≤ d.Files.length) ∨ d.Room < s.length) := by
    rintro (⟨_, x⟩ | x)
    · omega
    · omega
  have h3 : ¬ 65536 < (fsize (fileAt d.Files nm) : Int) + s.length := by omega
  rw [app_main off hn h2 h3]
  by_cases hc : left < s.length
  · left
    have ht : (torn d.Fuse s).length < s.length := by
      unfold torn
      rw [if_pos (by omega), List.length_take]; omega
    rw [if_pos ht]
    exact ⟨hc, rfl, by simp [ht]⟩
  · right
    have ht : torn d.Fuse s = s := by unfold torn; rw [if_neg (by omega)]
    rw [ht, if_neg (Nat.lt_irrefl _)]
    have hw := has_with d.Files nm
    have other : ∀ n, n ≠ nm → has (setF (withF d.Files nm) nm ⟨nm, (fileAt d.Files nm).Safe, (fileAt d.Files nm).Wait ++ s⟩) n = has d.Files n ∧ fileAt (setF (withF d.Files nm) nm ⟨nm, (fileAt d.Files nm).Safe, (fileAt d.Files nm).Wait ++ s⟩) n = fileAt d.Files n := by
      intro n hn
      have a := setF_apart (f := ⟨nm, (fileAt d.Files nm).Safe, (fileAt d.Files nm).Wait ++ s⟩) hw hn (fun x => hn x.symm)
      have b := with_other (fs := d.Files) hn
      rw [a.1, a.2]; exact b
    have self : has (setF (withF d.Files nm) nm ⟨nm, (fileAt d.Files nm).Safe, (fileAt d.Files nm).Wait ++ s⟩) nm = true ∧ fileAt (setF (withF d.Files nm) nm ⟨nm, (fileAt d.Files nm).Safe, (fileAt d.Files nm).Wait ++ s⟩) nm = ⟨nm, (fileAt d.Files nm).Safe, (fileAt d.Files nm).Wait ++ s⟩ :=
      ⟨(setF_has hw (by rfl) nm).trans hw, setF_at hw (by rfl)⟩
    have sz : fsize (⟨nm, (fileAt d.Files nm).Safe, (fileAt d.Files nm).Wait ++ s⟩ : File) = fsize (fileAt d.Files nm) + s.length := by
      unfold fsize; simp only [List.length_append]; omega
    have hlen : (withF d.Files nm).length ≤ min (k + 1) 2 := by
      unfold withF
      cases hh : has d.Files nm with
      | true => rw [if_pos rfl]; omega
      | false =>
        rw [if_neg (by simp)]
        have : k < 2 := by
          rcases Nat.lt_or_ge k 2 with x | x
          · exact x
          · exfalso
            rw [← hnm] at hh
            split at hh
            · rw [ha (by omega)] at hh; cases hh
            · rw [hb x] at hh; cases hh
        simp; omega
    refine ⟨by omega, rfl, ⟨by simp, ?_, by omega, by omega, by simp only; omega, by simp only; omega, ?_, ?_, by simp only [setF_len]; exact hlen, ?_, ?_⟩⟩
    · simp only; rw [if_pos (show 0 ≤ d.Fuse by omega)]; omega
    · simp only
      by_cases hp : k % 2 = 0
      · rw [if_pos hp] at hnm; subst hnm
        rw [self.2, sz]; omega
      · rw [if_neg hp] at hnm; subst hnm
        rw [(other [97] (by decide)).2]; omega
    · simp only
      by_cases hp : k % 2 = 0
      · rw [if_pos hp] at hnm; subst hnm
        rw [(other [98] (by decide)).2]; omega
      · rw [if_neg hp] at hnm; subst hnm
        rw [self.2, sz]; omega
    · intro _
      simp only
      by_cases hp : k % 2 = 0
      · rw [if_pos hp] at hnm; subst hnm; exact self.1
      · rw [if_neg hp] at hnm; subst hnm
        rw [(other [97] (by decide)).1]; exact ha (by omega)
    · intro _
      simp only
      by_cases hp : k % 2 = 0
      · rw [if_pos hp] at hnm; subst hnm
        rw [(other [98] (by decide)).1]; exact hb (by omega)
      · rw [if_neg hp] at hnm; subst hnm; exact self.1
theorem AInv.ok {k : Nat} {left : Int} {d : Disk} (h : AInv k left d) (hk : k ≤ 100) (hz : ∀ f ∈ d.Files, fsize f ≤ 1099511627776) : DOk d := by
  have := h.len; have := h.room0; have := h.room1; have := h.fuse; have := h.le0; have := h.le1
  exact ⟨by omega, hz, ⟨by omega, by omega⟩, ⟨by omega, by omega⟩⟩
theorem arms_true (fuse : Int) (l : List Str) : law03_DiskArms fuse l = some true := by
  unfold law03_DiskArms
  rw [shown_eq]
  simp only [Option.bind_some]
  split
  · rfl
  rename_i c
  simp at c
  obtain ⟨c1, c2⟩ := c
  rw [new_eq, show newM 1048576 = (⟨[], 1048576, -1, false⟩, 0) by decide]
  simp only [Option.bind_some]
  rw [arm_eq]
  simp only [Option.bind_some]
  have ea : armM ⟨[], 1048576, -1, false⟩ fuse = ⟨[], 1048576, fuse, false⟩ := by unfold armM; rw [if_neg (by omega)]
  rw [ea]
  have L1 := inv_loop (fun (s815 : Int × Int × (List File) × Int × Int × Bool) => law03_DiskArms_l2 l true s815.1 s815.2.1 s815.2.2.1 s815.2.2.2.1 s815.2.2.2.2.1 s815.2.2.2.2.2)
    (fun k s => s.2.1 = (k : Int) ∧ DOk ⟨s.2.2.1, s.2.2.2.1, s.2.2.2.2.1, s.2.2.2.2.2⟩ ∧ (s.2.2.2.2.2 = true ∨ AInv k s.1 ⟨s.2.2.1, s.2.2.2.1, s.2.2.2.2.1, s.2.2.2.2.2⟩)) (fun r => r = .inl true ∨ r = .inr ()) (min l.length 100)
    (fuse, (0 : Int), ([] : List File), (1048576 : Int), fuse, false) ⟨rfl, ⟨by simp, by simp, ⟨by simp, by simp⟩, ⟨by simp only; omega, by simp only; omega⟩⟩, .inr ⟨rfl, rfl, c1, c2, by simp, by simp, by simp [fileAt, noFile, fsize], by simp [fileAt, noFile, fsize], by simp, by simp, by simp⟩⟩ ?_ ?_
  · obtain ⟨r, h1, h2⟩ := L1
    rw [h1]
    rcases h2 with h2 | h2 <;> rw [h2] <;> rfl
  · rintro k ⟨left, i, fs, ro, fu, off⟩ hk ⟨rfl, hok, hi⟩
    simp only at hok hi
    have hk1 : k < l.length := by omega
    have hg : l[k]? = some l[k] := List.getElem?_eq_getElem hk1
    unfold law03_DiskArms_l2
    simp only
    rw [if_pos (show (decide ((k : Int) < (l.length : Int)) && decide ((k : Int) < 100)) = true by simp; omega), ix_nat, hg]
    simp only [Option.bind_some]
    by_cases c3 : (l[k].length : Int) > 1000
    · right
      rw [if_pos (by simpa using c3)]
      exact ⟨_, rfl, .inl rfl⟩
    rw [if_neg (by simpa using c3)]
    have ex : ix ([[97], [98]] : List Str) (Int.tmod (k : Int) 2) = some (if k % 2 = 0 then [97] else [98]) := by
      have : Int.tmod (k : Int) 2 = ((k % 2 : Nat) : Int) := by rw [Int.tmod_eq_emod_of_nonneg (by omega)]; omega
      rw [this, ix_nat]
      rcases Nat.mod_two_eq_zero_or_one k with e | e <;> rw [e] <;> rfl
    rw [ex]
    simp only [Option.bind_some]
    rw [append_eq hok _ _ (by omega)]
    simp only [Option.bind_some]
    cases off with
    | true =>
      right
      rw [app_off rfl, same_eq hok.len]
      simp
    | false =>
      left
      have hi' := hi.resolve_left (by simp)
      have hl := hi'.len
      simp only at hl
      have hok2 := append_ok hok (by simp only; omega) (if k % 2 = 0 then [97] else [98]) l[k] (by omega)
      rw [if_neg (by simp), w64_in (n := (k : Int) + 1) (by omega) (by omega)]
      have b0 := hi'.le0
      have b1 := hi'.le1
      rw [w64_in (n := left - _) (by omega) (by omega)]
      rcases arms_step hi' (by omega) l[k] (by omega) with ⟨s1, s2, s3⟩ | ⟨s1, s2, s3⟩
      · rw [s2, s3]
        rw [if_neg (by simp; omega)]
        exact ⟨_, rfl, by simp, by rw [← s3]; exact hok2, .inl rfl⟩
      · rw [s2]
        rw [if_neg (by simp; omega)]
        exact ⟨_, rfl, by simp, hok2, .inr s3⟩
  · rintro ⟨left, i, fs, ro, fu, off⟩ ⟨rfl, hok, hi⟩
    refine ⟨_, ?_, .inr rfl⟩
    unfold law03_DiskArms_l2
    simp only
    rw [if_neg (by simp; omega)]
end Go.Ab
