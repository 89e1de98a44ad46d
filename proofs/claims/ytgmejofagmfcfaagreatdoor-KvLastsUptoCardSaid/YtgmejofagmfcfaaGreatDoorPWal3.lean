/- The log: recoveries and drops: program and document alike; and what the laws on scans, puts, rooms and drops say (plain). -/
import Derived.Test.YtgmejofagmfcfaaGreatDoorPWal2
namespace Go.Ab
set_option linter.unusedVariables false
set_option linter.unusedSimpArgs false

/-! ### Recoveries -/
def rdM (d : Disk) (seg : Int) : Str := (readM d (nameM seg)).1
def recM (d : Disk) (from_ : Int) : Nat → Int → Int → List Str → Disk × List Str × Int × Int
  | 0, last, _, out => (d, out, last, 0)
  | n + 1, last, seg, out =>
    if (readM d (nameM seg)).2 ≠ 0 then (d, out, last, 0) else
    if scanP (rdM d seg) < (rdM d seg).length then
      if (wcutM d seg ((rdM d seg).take (scanP (rdM d seg)))).2 ≠ 0 then ((wcutM d seg ((rdM d seg).take (scanP (rdM d seg)))).1, [], from_, (wcutM d seg ((rdM d seg).take (scanP (rdM d seg)))).2)
      else ((wcutM d seg ((rdM d seg).take (scanP (rdM d seg)))).1, out ++ scanL (rdM d seg), seg, 0)
    else recM d from_ n seg (seg + 1) (out ++ scanL (rdM d seg))
def recoverM (d : Disk) (from_ : Int) : Disk × List Str × Int × Int :=
  if mayM from_ = false then (d, [], from_, 1) else recM d from_ (1000001 - from_).toNat from_ from_ []
theorem rec_loop {d : Disk} (h : DB d) (from_ : Int) (n : Nat) : ∀ (last seg : Int) (out : List Str), 1 ≤ seg → seg + n = 1000001 → out.length + n * 1048576 ≤ 1048577000000 →
    ((loop (fun (s593 : Int × Int × (List Str)) => wal_Recover_l2 d s593.1 s593.2.1 s593.2.2) (last, seg, out)).bind fun (y589 : (Int × (List File) × Int × Int × Bool × (List Str)) ⊕ (Int × (List File) × Int × Int × Bool)) =>
    match y589 with
    | (.inl v591) =>
      some (({ Files := v591.2.1, Room := v591.2.2.1, Fuse := v591.2.2.2.1, Off := v591.2.2.2.2.1 } : Disk), v591.2.2.2.2.2, v591.1, (0 : Int))
    | (.inr v592) =>
      some (({ Files := v592.2.1, Room := v592.2.2.1, Fuse := v592.2.2.2.1, Off := v592.2.2.2.2 } : Disk), ([] : List Str), from_, v592.1)) = some (recM d from_ n last seg out) := by
  induction n with
  | zero =>
    intro last seg out h1 hk hb
    have hm : mayM seg = false := by unfold mayM; simp; omega
    rw [loop_inr (r := .inl (last, d.Files, d.Room, d.Fuse, d.Off, out))]
    · rfl
    · simp only
      unfold wal_Recover_l2
      rw [may_eq, hm]
      rfl
  | succ n ih =>
    intro last seg out h1 hk hb
    have hm : mayM seg = true := by rw [mayM_iff]; omega
    have hrl : (rdM d seg).length ≤ 1048576 := db_read h _
    have hsl := scanL_len (rdM d seg)
    have hpl := scanP_le (rdM d seg)
    unfold recM
    by_cases hz : (readM d (nameM seg)).2 ≠ 0
    · rw [if_pos hz, loop_inr (r := .inl (last, d.Files, d.Room, d.Fuse, d.Off, out))]
      · rfl
      · simp only
        unfold wal_Recover_l2
        rw [may_eq, hm]
        simp only [Option.bind_some]
        rw [if_pos trivial, name_eq ⟨by omega, by omega⟩]
        simp only [Option.bind_some]
        rw [read_eq h.ok]
        simp only [Option.bind_some]
        rw [if_pos (by simp [hz])]
    · rw [if_neg hz]
      have hz0 : (readM d (nameM seg)).2 = 0 := by simpa using hz
      have hstep : wal_Recover_l2 d last seg out = if scanP (rdM d seg) < (rdM d seg).length then
          (if (wcutM d seg ((rdM d seg).take (scanP (rdM d seg)))).2 ≠ 0 then some (.inr (.inr ((wcutM d seg ((rdM d seg).take (scanP (rdM d seg)))).2, (wcutM d seg ((rdM d seg).take (scanP (rdM d seg)))).1.Files, (wcutM d seg ((rdM d seg).take (scanP (rdM d seg)))).1.Room, (wcutM d seg ((rdM d seg).take (scanP (rdM d seg)))).1.Fuse, (wcutM d seg ((rdM d seg).take (scanP (rdM d seg)))).1.Off)))
            else some (.inr (.inl (seg, (wcutM d seg ((rdM d seg).take (scanP (rdM d seg)))).1.Files, (wcutM d seg ((rdM d seg).take (scanP (rdM d seg)))).1.Room, (wcutM d seg ((rdM d seg).take (scanP (rdM d seg)))).1.Fuse, (wcutM d seg ((rdM d seg).take (scanP (rdM d seg)))).1.Off, out ++ scanL (rdM d seg)))))
          else some (.inl (seg, seg + 1, out ++ scanL (rdM d seg))) := by
        unfold wal_Recover_l2
        rw [may_eq, hm]
        simp only [Option.bind_some]
        rw [if_pos trivial, name_eq ⟨by omega, by omega⟩]
        simp only [Option.bind_some]
        rw [read_eq h.ok]
        simp only [Option.bind_some]
        rw [if_neg (by simp [hz0])]
        change ((wal_Scan (rdM d seg)).bind _) = _
        rw [scan_eq (by omega)]
        simp only [Option.bind_some]
        rw [need_pos (by omega)]
        change (if decide ((scanP (rdM d seg) : Int) < ((rdM d seg).length : Int)) = true then need (0 ≤ (0 : Int) ∧ 0 ≤ (scanP (rdM d seg) : Int) ∧ (scanP (rdM d seg) : Int) ≤ ((rdM d seg).length : Int)) ((wal_cut d seg (cut (rdM d seg) 0 (scanP (rdM d seg) : Int))).bind _) else _) = _
        by_cases hc : scanP (rdM d seg) < (rdM d seg).length
        · rw [if_pos (show decide ((scanP (rdM d seg) : Int) < ((rdM d seg).length : Int)) = true by simp; omega), if_pos hc, need_pos (by omega), cut_head, Int.toNat_natCast, cut_eq h.ok hm _ (by rw [List.length_take]; omega)]
          simp only [Option.bind_some]
          by_cases hw : (wcutM d seg ((rdM d seg).take (scanP (rdM d seg)))).2 ≠ 0
          · rw [if_pos hw, if_pos (by simp [hw])]
          · rw [if_neg hw, if_neg (by simpa using hw)]
        · rw [if_neg (show ¬ decide ((scanP (rdM d seg) : Int) < ((rdM d seg).length : Int)) = true by simp; omega), if_neg hc, IntWalk.i64_in _ ⟨by omega, by omega⟩]
      by_cases hc : scanP (rdM d seg) < (rdM d seg).length
      · rw [if_pos hc] at hstep ⊢
        by_cases hw : (wcutM d seg ((rdM d seg).take (scanP (rdM d seg)))).2 ≠ 0
        · rw [if_pos hw] at hstep ⊢
          rw [loop_inr hstep]; rfl
        · rw [if_neg hw] at hstep ⊢
          rw [loop_inr hstep]; rfl
      · rw [if_neg hc] at hstep ⊢
        rw [loop_inl hstep]
        exact ih seg (seg + 1) _ (by omega) (by omega) (by rw [List.length_append]; omega)
theorem recover_eq {d : Disk} (h : DB d) (from_ : Int) : wal_Recover d from_ = some (recoverM d from_) := by
  unfold wal_Recover recoverM
  rw [may_eq]
  simp only [Option.bind_some]
  cases hm : mayM from_ with
  | false => rfl
  | true =>
    have hb := mayM_iff.1 hm
    rw [if_neg (by simp), if_neg (by simp)]
    exact rec_loop h from_ (1000001 - from_).toNat from_ from_ [] (by omega) (by omega) (by simp; omega)
theorem rec_db {d : Disk} (h : DB d) (from_ : Int) (n : Nat) : ∀ (last seg : Int) (out : List Str), DB (recM d from_ n last seg out).1 := by
  induction n with
  | zero => intro _ _ _; exact h
  | succ n ih =>
    intro last seg out
    have hrl : (rdM d seg).length ≤ 1048576 := db_read h _
    have hc := cut_db h seg ((rdM d seg).take (scanP (rdM d seg))) (by rw [List.length_take]; omega)
    unfold recM
    split
    · exact h
    split
    · split
      · exact hc
      · exact hc
    · exact ih _ _ _
theorem recover_db {d : Disk} (h : DB d) (from_ : Int) : DB (recoverM d from_).1 := by
  unfold recoverM
  split
  · exact h
  · exact rec_db h _ _ _ _ _
theorem rec_len {d : Disk} (h : DB d) (from_ : Int) (n : Nat) : ∀ (last seg : Int) (out : List Str), (recM d from_ n last seg out).2.1.length ≤ out.length + n * 1048576 := by
  induction n with
  | zero => intro _ _ out; simp [recM]
  | succ n ih =>
    intro last seg out
    have hrl : (rdM d seg).length ≤ 1048576 := db_read h _
    have hsl := scanL_len (rdM d seg)
    unfold recM
    split
    · simp only; omega
    split
    · split
      · simp
      · simp only [List.length_append]; omega
    · have := ih seg (seg + 1) (out ++ scanL (rdM d seg))
      rw [List.length_append] at this
      omega
theorem recover_len {d : Disk} (h : DB d) (from_ : Int) : (recoverM d from_).2.1.length ≤ 1048577000000 := by
  unfold recoverM
  split
  · simp
  · rename_i hm
    have hb := mayM_iff.1 (show mayM from_ = true by simpa using hm)
    have := rec_len h from_ (1000001 - from_).toNat from_ from_ []
    simp only [List.length_nil] at this
    omega

/-! ### Drops -/
def dropT (to : Int) : Nat → Disk → Int → Disk × Int
  | 0, d, _ => (d, 0)
  | n + 1, d, k => if to ≤ k then (d, 0) else if has d.Files (nameM k) = false then dropT to n d (k + 1) else
    if (deleteM d (nameM k)).2 ≠ 0 then deleteM d (nameM k) else dropT to n (deleteM d (nameM k)).1 (k + 1)
def wdropM (d : Disk) (from_ to : Int) : Disk × Int := dropT to (1000001 - (if from_ < 1 then 1 else from_)).toNat d (if from_ < 1 then 1 else from_)
theorem drop_loop (to : Int) (n : Nat) : ∀ (d : Disk) (k : Int), DOk d → 1 ≤ k → (k + n = 1000001 ∨ (n = 0 ∧ 1000001 ≤ k ∧ k ≤ 9223372036854775807)) →
    ((loop (fun (s1103 : Int × (List File) × Int × Int × Bool) => wal_Drop_l2 to s1103.1 s1103.2.1 s1103.2.2.1 s1103.2.2.2.1 s1103.2.2.2.2) (k, d.Files, d.Room, d.Fuse, d.Off)).bind fun (y1099 : (Int × (List File) × Int × Int × Bool) ⊕ ((List File) × Int × Int × Bool)) =>
    match y1099 with
    | (.inl v1101) =>
      some (({ Files := v1101.2.1, Room := v1101.2.2.1, Fuse := v1101.2.2.2.1, Off := v1101.2.2.2.2 } : Disk), v1101.1)
    | (.inr v1102) =>
      some (({ Files := v1102.1, Room := v1102.2.1, Fuse := v1102.2.2.1, Off := v1102.2.2.2 } : Disk), 0)) = some (dropT to n d k) := by
  induction n with
  | zero =>
    intro d k h h1 hk
    have hm : mayM k = false := by unfold mayM; simp; omega
    rw [loop_inr (r := .inr (d.Files, d.Room, d.Fuse, d.Off))]
    · rfl
    · simp only
      unfold wal_Drop_l2
      by_cases ht : k < to
      · rw [if_pos (by simpa using ht), may_eq, hm]; rfl
      · rw [if_neg (by simpa using ht)]; rfl
  | succ n ih =>
    intro d k h h1 hk
    have hkk : k + ((n + 1 : Nat) : Int) = 1000001 := by rcases hk with h | h; exact h; omega
    have hm : mayM k = true := by rw [mayM_iff]; omega
    unfold dropT
    by_cases ht : to ≤ k
    · rw [if_pos ht, loop_inr (r := .inr (d.Files, d.Room, d.Fuse, d.Off))]
      · rfl
      · simp only
        unfold wal_Drop_l2
        rw [if_neg (by simp; omega)]; rfl
    · rw [if_neg ht]
      have hstep : wal_Drop_l2 to k d.Files d.Room d.Fuse d.Off = if has d.Files (nameM k) = false then some (.inl (k + 1, d.Files, d.Room, d.Fuse, d.Off)) else
          if (deleteM d (nameM k)).2 ≠ 0 then some (.inr (.inl ((deleteM d (nameM k)).2, (deleteM d (nameM k)).1.Files, (deleteM d (nameM k)).1.Room, (deleteM d (nameM k)).1.Fuse, (deleteM d (nameM k)).1.Off)))
          else some (.inl (k + 1, (deleteM d (nameM k)).1.Files, (deleteM d (nameM k)).1.Room, (deleteM d (nameM k)).1.Fuse, (deleteM d (nameM k)).1.Off)) := by
        unfold wal_Drop_l2
        rw [if_pos (show decide (k < to) = true by simp; omega), may_eq, hm]
        simp only [Option.bind_some]
        rw [if_pos trivial, name_eq ⟨by omega, by omega⟩, IntWalk.i64_in (k + 1) ⟨by omega, by omega⟩]
        simp only [Option.bind_some]
        rw [find_eq h.len]
        simp only [Option.bind_some]
        cases hh : has d.Files (nameM k) with
        | false => rfl
        | true =>
          rw [if_neg (by simp), if_neg (show ¬ true = false by simp), delete_eq h]
          simp only [Option.bind_some]
          by_cases hz : (deleteM d (nameM k)).2 ≠ 0
          · rw [if_pos hz, if_pos (by simp [hz])]; rfl
          · rw [if_neg hz, if_neg (by simpa using hz)]; rfl
      by_cases hh : has d.Files (nameM k) = false
      · rw [if_pos hh] at hstep ⊢
        rw [loop_inl hstep]
        exact ih d (k + 1) h (by omega) (by omega)
      · rw [if_neg hh] at hstep ⊢
        by_cases hz : (deleteM d (nameM k)).2 ≠ 0
        · rw [if_pos hz] at hstep ⊢
          rw [loop_inr hstep]; rfl
        · rw [if_neg hz] at hstep ⊢
          rw [loop_inl hstep]
          exact ih _ (k + 1) (delete_ok h _) (by omega) (by omega)
theorem drop_eq {d : Disk} (h : DOk d) {from_ : Int} (hf : In64 from_) (to : Int) : wal_Drop d from_ to = some (wdropM d from_ to) := by
  unfold wal_Drop wdropM
  refine drop_loop to _ d _ h ?_ ?_
  · split <;> omega
  · split <;> omega
theorem dropT_db (to : Int) (n : Nat) : ∀ {d : Disk} (h : DB d) (k : Int), DB (dropT to n d k).1 := by
  induction n with
  | zero => intro d h k; exact h
  | succ n ih =>
    intro d h k
    unfold dropT
    split
    · exact h
    split
    · exact ih h _
    split
    · exact delete_db h _
    · exact ih (delete_db h _) _
theorem drop_db {d : Disk} (h : DB d) (from_ to : Int) : DB (wdropM d from_ to).1 := dropT_db _ _ h _

/-! ### Two rows of texts -/
end Go.Ab
