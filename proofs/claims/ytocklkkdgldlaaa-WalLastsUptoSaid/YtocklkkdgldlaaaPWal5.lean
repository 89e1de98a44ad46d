/- The last law of chapter 04, plainly: what was synced is there after a crash. -/
import Derived.Test.YtocklkkdgldlaaaPWal4
namespace Go.Ab
set_option linter.unusedVariables false
set_option linter.unusedSimpArgs false

/-! ### Names, appends, and what is kept of bytes -/
abbrev nm (k : Nat) : Str := nameM (k : Int)
theorem nm_ne {a b : Nat} (ha : 1 ≤ a ∧ a ≤ 1000000) (hb : 1 ≤ b ∧ b ≤ 1000000) (h : a ≠ b) : nm a ≠ nm b := fun e => by
  have := nameM_inj (mayM_iff.2 (by omega)) (mayM_iff.2 (by omega)) e
  omega
theorem named_seg {k : Nat} (h : 1 ≤ k ∧ k ≤ 1000000) : named (nm k) = true := by
  have hm : mayM (k : Int) = true := by rw [mayM_iff]; omega
  have hl := fg_len 6 (k / 10) (by show k / 10 < 1000000; omega)
  unfold nm nameM named
  rw [if_pos hm, Int.toNat_natCast]
  unfold figS
  simp
  omega
theorem append_cases (d : Disk) (name s : Str) (hoff : d.Off = false) :
    ((appendM d name s).1 = d ∧ (appendM d name s).2 ≠ 0 ∧ (appendM d name s).2 ≠ 6) ∨
    (∃ k, k ≤ s.length ∧ has (appendM d name s).1.Files name = true ∧ fileAt (appendM d name s).1.Files name = ⟨name, (fileAt d.Files name).Safe, (fileAt d.Files name).Wait ++ s.take k⟩ ∧
      (appendM d name s).1.Off = decide (k < s.length) ∧ (appendM d name s).2 = (if k < s.length then 6 else 0) ∧ fsize (fileAt d.Files name) + s.length ≤ 65536) := by
  have ht : ∃ k, k ≤ s.length ∧ torn d.Fuse s = s.take k := by
    unfold torn; split
    · rename_i h; exact ⟨d.Fuse.toNat, by omega, rfl⟩
    · exact ⟨s.length, Nat.le_refl _, by rw [List.take_length]⟩
  obtain ⟨k, hk, e⟩ := ht
  have el : (torn d.Fuse s).length = k := by rw [e, List.length_take]; omega
  unfold appendM
  rw [if_neg (by simp [hoff])]
  by_cases c2 : named name = false
  · rw [if_pos c2]; exact .inl ⟨rfl, by simp, by simp⟩
  rw [if_neg c2]
  by_cases c3 : (has d.Files name = false ∧ 64 ≤ d.Files.length) ∨ d.Room < s.length
  · rw [if_pos c3]; exact .inl ⟨rfl, by simp, by simp⟩
  rw [if_neg c3]
  by_cases c4 : 65536 < (fsize (fileAt d.Files name) : Int) + s.length
  · rw [if_pos c4]; exact .inl ⟨rfl, by simp, by simp⟩
  rw [if_neg c4]
  refine .inr ⟨k, hk, ?_, ?_, ?_, ?_, by omega⟩
  · simp only
    rw [setF_has (has_with d.Files name) rfl]; exact has_with _ _
  · simp only
    rw [setF_at (has_with d.Files name) rfl, e]
  · simp only
    rw [el]
  · simp only
    rw [el]
/-- What may stand behind the whole records: nothing, or the beginning of one. -/
def Torn (s : Str) : Prop := s = [] ∨ ∃ t k, t.length ≤ 2048 ∧ k < (sealM t).length ∧ s = (sealM t).take k
theorem torn_take {s : Str} (h : Torn s) (m : Nat) : Torn (s.take m) := by
  rcases h with rfl | ⟨t, k, h1, h2, rfl⟩
  · exact .inl (by simp)
  · rw [List.take_take]; exact .inr ⟨t, min m k, h1, by omega, rfl⟩
theorem torn_open {s : Str} (h : Torn s) : (openM s 2048).2.2 ≠ 0 := by
  rcases h with rfl | ⟨t, k, h1, h2, rfl⟩
  · exact open_nil
  · exact open_part (by omega) h2
theorem scan_torn {l : List Str} {r : Str} (h : ∀ t ∈ l, t.length ≤ 2048) (hr : Torn r) : scanL (sealAll l ++ r) = l ∧ scanP (sealAll l ++ r) = (sealAll l).length := by
  have e := scanL_of (scanned_of l _ r rfl h (torn_open hr))
  exact ⟨e, by unfold scanP; rw [e]⟩
theorem kept (cur : List Str) : ∀ (tl : Str) (m : Nat), (∀ t ∈ cur, t.length ≤ 2048) → Torn tl → ∃ j r, j ≤ cur.length ∧ Torn r ∧ (sealAll cur ++ tl).take m = sealAll (cur.take j) ++ r ∧ ∀ i, i ≤ cur.length → (sealAll (cur.take i)).length ≤ m → i ≤ j := by
  induction cur with
  | nil => intro tl m _ ht; exact ⟨0, tl.take m, Nat.le_refl _, torn_take ht m, by simp [sealAll], fun i hi _ => hi⟩
  | cons t cur ih =>
    intro tl m hs ht
    by_cases hm : m < (sealM t).length
    · refine ⟨0, (sealM t).take m, Nat.zero_le _, .inr ⟨t, m, hs t (List.mem_cons_self ..), hm, rfl⟩, ?_, fun i hi hl => ?_⟩
      · simp only [sealAll, List.take_zero, List.nil_append, List.append_assoc]
        rw [List.take_append_of_le_length (by omega)]
      · cases i with
        | zero => exact Nat.le_refl _
        | succ i => rw [List.take_succ_cons] at hl; simp only [sealAll, List.length_append] at hl; omega
    · obtain ⟨j, r, h1, h2, h3, h4⟩ := ih tl (m - (sealM t).length) (fun x hx => hs x (List.mem_cons_of_mem _ hx)) ht
      refine ⟨j + 1, r, by simp only [List.length_cons]; omega, h2, ?_, fun i hi hl => ?_⟩
      · rw [List.take_succ_cons]
        simp only [sealAll, List.append_assoc]
        rw [← h3, List.take_append, List.take_of_length_le (by omega)]
      · cases i with
        | zero => omega
        | succ i =>
          rw [List.take_succ_cons] at hl
          simp only [sealAll, List.length_append] at hl
          simp only [List.length_cons] at hi
          have := h4 i (by omega) (by omega)
          omega

/-! ### The files of a log -/
structure Log (d : Disk) (pre : List (List Str)) (cur : List Str) (tl : Str) : Prop where
  db : DB d
  few : pre.length + 2 ≤ 1000000
  one : ∀ n, cnt d.Files n ≤ 1
  new : has d.Files newN = false
  none : ∀ k : Nat, pre.length + 1 < k → k ≤ 1000000 → has d.Files (nm k) = false
  old : ∀ (i : Nat) s, pre[i]? = some s → has d.Files (nm (i + 1)) = true ∧ fileAt d.Files (nm (i + 1)) = ⟨nm (i + 1), sealAll s, []⟩ ∧ (sealAll s).length ≤ 65536
  now : (fileAt d.Files (nm (pre.length + 1))).Safe ++ (fileAt d.Files (nm (pre.length + 1))).Wait = sealAll cur ++ tl
  size : fsize (fileAt d.Files (nm (pre.length + 1))) ≤ 65536
  tail : Torn tl
  small : ∀ s ∈ pre, ∀ t ∈ s, t.length ≤ 2048
  small2 : ∀ t ∈ cur, t.length ≤ 2048
theorem Log.seg {d : Disk} {pre : List (List Str)} {cur : List Str} {tl : Str} (h : Log d pre cur tl) : 1 ≤ pre.length + 1 ∧ pre.length + 1 ≤ 1000000 := by have := h.few; omega
theorem Log.may {d : Disk} {pre : List (List Str)} {cur : List Str} {tl : Str} (h : Log d pre cur tl) : mayM ((pre.length + 1 : Nat) : Int) = true := by have := h.few; rw [mayM_iff]; omega
theorem Log.files {d d2 : Disk} {pre : List (List Str)} {cur : List Str} {tl : Str} (h : Log d pre cur tl) (hd : DB d2) (e : d2.Files = d.Files) : Log d2 pre cur tl := by
  refine ⟨hd, h.few, ?_, ?_, ?_, ?_, ?_, ?_, h.tail, h.small, h.small2⟩
  · rw [e]; exact h.one
  · rw [e]; exact h.new
  · rw [e]; exact h.none
  · rw [e]; exact h.old
  · rw [e]; exact h.now
  · rw [e]; exact h.size
theorem Log.out {d : Disk} {pre : List (List Str)} {cur : List Str} {tl : Str} (h : Log d pre cur tl) (hh : has d.Files (nm (pre.length + 1)) = false) : cur = [] ∧ tl = [] := by
  have e := h.now
  rw [fileAt_none hh] at e
  have e2 := congrArg List.length e
  have hl := sealAll_len cur
  simp only [noFile, List.append_nil, List.length_nil, List.length_append] at e2
  exact ⟨List.length_eq_zero_iff.1 (by omega), List.length_eq_zero_iff.1 (by omega)⟩
/-- Only the file that is written has changed. -/
theorem Log.moved {d d2 : Disk} {pre : List (List Str)} {cur cur2 : List Str} {tl tl2 : Str} (h : Log d pre cur tl) (hd : DB d2) (h1 : ∀ n, cnt d2.Files n ≤ 1) (h2 : has d2.Files newN = false)
    (h3 : ∀ n, n ≠ nm (pre.length + 1) → n ≠ newN → has d2.Files n = has d.Files n ∧ fileAt d2.Files n = fileAt d.Files n)
    (h4 : (fileAt d2.Files (nm (pre.length + 1))).Safe ++ (fileAt d2.Files (nm (pre.length + 1))).Wait = sealAll cur2 ++ tl2) (h5 : fsize (fileAt d2.Files (nm (pre.length + 1))) ≤ 65536) (h6 : Torn tl2) (h7 : ∀ t ∈ cur2, t.length ≤ 2048) : Log d2 pre cur2 tl2 := by
  have hf := h.few
  refine ⟨hd, hf, h1, h2, fun k hk hk2 => ?_, fun i s hi => ?_, h4, h5, h6, h.small, h7⟩
  · rw [(h3 _ (nm_ne (by omega) (by omega) (by omega)) (nameM_new _)).1]; exact h.none k hk hk2
  · have hlt := lt_of_at hi
    have := h3 (nm (i + 1)) (nm_ne (by omega) (by omega) (by omega)) (nameM_new _)
    rw [this.1, this.2]; exact h.old i s hi
theorem Log.sync {d : Disk} {pre : List (List Str)} {cur : List Str} {tl : Str} (h : Log d pre cur tl) (hoff : d.Off = false) (hh : has d.Files (nm (pre.length + 1)) = true) :
    (syncM d (nm (pre.length + 1))).2 = 0 ∧ Log (syncM d (nm (pre.length + 1))).1 pre cur tl ∧ (syncM d (nm (pre.length + 1))).1.Off = false ∧ has (syncM d (nm (pre.length + 1))).1.Files (nm (pre.length + 1)) = true ∧
    fileAt (syncM d (nm (pre.length + 1))).1.Files (nm (pre.length + 1)) = ⟨nm (pre.length + 1), sealAll cur ++ tl, []⟩ := by
  have hz : (syncM d (nm (pre.length + 1))).2 = 0 := by
    unfold syncM; rw [if_neg (by simp [hoff]), if_neg (by simp [hh])]
  have ho : (syncM d (nm (pre.length + 1))).1.Off = false := by
    unfold syncM; rw [if_neg (by simp [hoff]), if_neg (by simp [hh])]; exact hoff
  obtain ⟨g1, g2⟩ := sync_good hz
  rw [h.now] at g2
  have hs := h.size
  have hn := congrArg List.length h.now
  unfold fsize at hs
  rw [List.length_append] at hn
  refine ⟨hz, h.moved (sync_db h.db _) (fun n => by rw [sync_cnt]; exact h.one n) ?_ (fun n hn _ => sync_apart hn) (by rw [g2, List.append_nil]) (by rw [g2]; unfold fsize; simp only [List.length_nil]; omega) h.tail h.small2, ho, g1, g2⟩
  rw [(sync_apart (fun e => nameM_new _ e.symm)).1]; exact h.new
theorem Log.next {d : Disk} {pre : List (List Str)} {cur : List Str} (h : Log d pre cur []) (hh : has d.Files (nm (pre.length + 1)) = true) (hw : (fileAt d.Files (nm (pre.length + 1))).Wait = []) (hf : pre.length + 3 ≤ 1000000) : Log d (pre ++ [cur]) [] [] ∧ fileAt d.Files (nm ((pre ++ [cur]).length + 1)) = noFile := by
  have hl : (pre ++ [cur]).length + 1 = pre.length + 2 := by simp
  have hno := h.none (pre.length + 2) (by omega) (by omega)
  have hnf := fileAt_none hno
  have hs := h.size
  refine ⟨⟨h.db, by omega, h.one, h.new, fun k hk hk2 => h.none k (by omega) hk2, fun i s hi => ?_, ?_, ?_, .inl rfl, fun s hs => ?_, fun t ht => by (cases ht)⟩, by rw [hl]; exact hnf⟩
  · by_cases hi2 : i < pre.length
    · rw [List.getElem?_append_left hi2] at hi; exact h.old i s hi
    · have hlt := lt_of_at hi
      have : i = pre.length := by omega
      subst this
      rw [List.getElem?_append_right (Nat.le_refl _), Nat.sub_self] at hi
      simp only [List.getElem?_cons_zero] at hi
      injection hi with hi
      subst hi
      have e := h.now
      rw [hw, List.append_nil, List.append_nil] at e
      unfold fsize at hs
      rw [hw, e] at hs
      refine ⟨hh, ?_, by simpa using hs⟩
      have e3 := (idxI_get hh).2.2.2
      generalize fileAt d.Files (nm (pre.length + 1)) = f at *
      obtain ⟨a, b, c⟩ := f
      simp only at e3 e hw
      rw [e3, e, hw]
  · rw [hl, hnf]; rfl
  · rw [hl, hnf]; decide
  · rcases List.mem_append.1 hs with hs | hs
    · exact h.small s hs
    · simp at hs; subst hs; exact h.small2
theorem Log.back {d : Disk} {pre : List (List Str)} {cur : List Str} (h : Log d (pre ++ [cur]) [] []) (hh : has d.Files (nm (pre.length + 2)) = false) : Log d pre cur [] ∧ fileAt d.Files (nm (pre.length + 1)) = ⟨nm (pre.length + 1), sealAll cur, []⟩ := by
  have hl : (pre ++ [cur]).length = pre.length + 1 := by simp
  have hf := h.few
  have ho := h.old pre.length cur (by rw [List.getElem?_append_right (Nat.le_refl _), Nat.sub_self]; rfl)
  refine ⟨⟨h.db, by omega, h.one, h.new, fun k hk hk2 => ?_, fun i s hi => ?_, ?_, ?_, .inl rfl, fun s hs => h.small s (List.mem_append_left _ hs), h.small cur (List.mem_append_right _ (List.mem_cons_self ..))⟩, ho.2.1⟩
  · by_cases hk3 : k = pre.length + 2
    · subst hk3; exact hh
    · exact h.none k (by omega) hk2
  · exact h.old i s (by rw [List.getElem?_append_left (lt_of_at hi)]; exact hi)
  · rw [ho.2.1]
  · rw [ho.2.1]; unfold fsize; simp only [List.length_nil]; omega
/-- A record that is put into the file that is written. -/
theorem Log.append {d : Disk} {pre : List (List Str)} {cur : List Str} (h : Log d pre cur []) (hoff : d.Off = false) {s : Str} (hs : s.length ≤ 2048) :
    ((appendM d (nm (pre.length + 1)) (sealM s)).1 = d ∧ (appendM d (nm (pre.length + 1)) (sealM s)).2 ≠ 0 ∧ (appendM d (nm (pre.length + 1)) (sealM s)).2 ≠ 6) ∨
    ((fileAt (appendM d (nm (pre.length + 1)) (sealM s)).1.Files (nm (pre.length + 1))).Safe = (fileAt d.Files (nm (pre.length + 1))).Safe ∧
      (((appendM d (nm (pre.length + 1)) (sealM s)).2 = 0 ∧ Log (appendM d (nm (pre.length + 1)) (sealM s)).1 pre (cur ++ [s]) [] ∧ (appendM d (nm (pre.length + 1)) (sealM s)).1.Off = false) ∨
      ((appendM d (nm (pre.length + 1)) (sealM s)).2 = 6 ∧ (∃ tl, Log (appendM d (nm (pre.length + 1)) (sealM s)).1 pre cur tl) ∧ (appendM d (nm (pre.length + 1)) (sealM s)).1.Off = true))) := by
  have hsl := sealM_len (s := s) (by omega)
  rcases append_cases d (nm (pre.length + 1)) (sealM s) hoff with h1 | ⟨k, hk, g1, g2, g3, g4, g5⟩
  · exact .inl h1
  refine .inr ⟨by rw [g2], ?_⟩
  have hn := h.now
  rw [List.append_nil] at hn
  have hdb := append_db h.db (nm (pre.length + 1)) (sealM s) (by omega)
  have hone : ∀ n, cnt (appendM d (nm (pre.length + 1)) (sealM s)).1.Files n ≤ 1 := fun n => by
    have := (append_cnt d (nm (pre.length + 1)) (sealM s) n).1
    have := h.one n
    omega
  have hnew : has (appendM d (nm (pre.length + 1)) (sealM s)).1.Files newN = false := by
    rw [(append_apart (fun e => nameM_new _ e.symm)).1]; exact h.new
  have hsz : fsize (fileAt (appendM d (nm (pre.length + 1)) (sealM s)).1.Files (nm (pre.length + 1))) ≤ 65536 := by
    rw [g2]; unfold fsize at g5 ⊢; simp only [List.length_append, List.length_take]; omega
  by_cases hlt : k < (sealM s).length
  · rw [if_pos hlt] at g4
    rw [decide_eq_true hlt] at g3
    refine .inr ⟨g4, ⟨(sealM s).take k, h.moved hdb hone hnew (fun n hn _ => append_apart hn) ?_ hsz (.inr ⟨s, k, hs, hlt, rfl⟩) h.small2⟩, g3⟩
    rw [g2, ← hn, List.append_assoc]
  · rw [if_neg hlt] at g4
    rw [decide_eq_false hlt] at g3
    refine .inl ⟨g4, h.moved hdb hone hnew (fun n hn _ => append_apart hn) ?_ hsz (.inl rfl) (fun t ht => ?_), g3⟩
    · rw [g2, List.take_of_length_le (by omega), sealAll_append, ← hn]
      simp only [sealAll, List.append_nil, List.append_assoc]
    · rcases List.mem_append.1 ht with ht | ht
      · exact h.small2 t ht
      · simp at ht; subst ht; exact hs
end Go.Ab
