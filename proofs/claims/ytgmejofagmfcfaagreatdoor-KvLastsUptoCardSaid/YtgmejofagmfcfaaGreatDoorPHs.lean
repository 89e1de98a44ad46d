/- A store's disk: the log that begins at any segment, the manifest and the run; what each act leaves of it (plain). -/
import Derived.Test.YtgmejofagmfcfaaGreatDoorPKv5
import Derived.Test.YtgmejofagmfcfaaGreatDoorPBnd
namespace Go.Ab
set_option linter.unusedVariables false
set_option linter.unusedSimpArgs false

theorem open_part {t : Str} (ht : t.length < 1099511627776) {k : Nat} (hk : k < (sealM t).length) : (openM ((sealM t).take k) 2048).2.2 ≠ 0 := by
  intro h
  have hm := m64
  obtain ⟨e1, e2, e3⟩ := open_inv (most := 2048) h
  have a1 := open_seal (t := t) (most := 9223372036854775807) (by omega) (by omega) []
  rw [List.append_nil, ← List.take_append_drop k (sealM t)] at a1
  generalize hq : (sealM t).drop k = q at a1
  have hql : 0 < q.length := by rw [← hq, List.length_drop]; omega
  rw [e1, List.append_assoc, open_seal (most := 9223372036854775807) e3 (by omega)] at a1
  have := congrArg (fun x => x.2.1.length) a1
  simp only [List.length_append, List.length_nil] at this
  omega
/-! ### Names, appends, and what is kept of bytes -/
abbrev nm (k : Nat) : Str := nameM (k : Int)
theorem nm_ne {a b : Nat} (ha : 1 ≤ a ∧ a ≤ 1000000) (hb : 1 ≤ b ∧ b ≤ 1000000) (h : a ≠ b) : nm a ≠ nm b := fun e => by
  have := nameM_inj (mayM_iff.2 (by omega)) (mayM_iff.2 (by omega)) e
  omega
theorem named_seg {k : Nat} (h : 1 ≤ k ∧ k ≤ 1000000) : named (nm k) = true := by
  have hm : mayM (k : Int) = true := by rw [mayM_iff]; omega
  have hl := fg_len 6 (k / 10) (by show k / 10 < 1000000; omega)
  unfold nm nameM named
  rw [if_pos hm, Int.toNat_natCast]
  unfold figS
  simp
  omega
theorem append_cases (d : Disk) (name s : Str) (hoff : d.Off = false) :
    ((appendM d name s).1 = d ∧ (appendM d name s).2 ≠ 0 ∧ (appendM d name s).2 ≠ 6) ∨
    (∃ k, k ≤ s.length ∧ has (appendM d name s).1.Files name = true ∧ fileAt (appendM d name s).1.Files name = ⟨name, (fileAt d.Files name).Safe, (fileAt d.Files name).Wait ++ s.take k⟩ ∧
      (appendM d name s).1.Off = decide (k < s.length) ∧ (appendM d name s).2 = (if k < s.length then 6 else 0) ∧ fsize (fileAt d.Files name) + s.length ≤ 65536) := by
  have ht : ∃ k, k ≤ s.length ∧ torn d.Fuse s = s.take k := by
    unfold torn; split
    · rename_i h; exact ⟨d.Fuse.toNat, by omega, rfl⟩
    · exact ⟨s.length, Nat.le_refl _, by rw [List.take_length]⟩
  obtain ⟨k, hk, e⟩ := ht
  have el : (torn d.Fuse s).length = k := by rw [e, List.length_take]; omega
  unfold appendM
  rw [if_neg (by simp [hoff])]
  by_cases c2 : named name = false
  · rw [if_pos c2]; exact .inl ⟨rfl, by simp, by simp⟩
  rw [if_neg c2]
  by_cases c3 : (has d.Files name = false ∧ 64 ≤ d.Files.length) ∨ d.Room < s.length
  · rw [if_pos c3]; exact .inl ⟨rfl, by simp, by simp⟩
  rw [if_neg c3]
  by_cases c4 : 65536 < (fsize (fileAt d.Files name) : Int) + s.length
  · rw [if_pos c4]; exact .inl ⟨rfl, by simp, by simp⟩
  rw [if_neg c4]
  refine .inr ⟨k, hk, ?_, ?_, ?_, ?_, by omega⟩
  · simp only
    rw [setF_has (has_with d.Files name) rfl]; exact has_with _ _
  · simp only
    rw [setF_at (has_with d.Files name) rfl, e]
  · simp only
    rw [el]
  · simp only
    rw [el]
/-- What may stand behind the whole records: nothing, or the beginning of one. -/
def Torn (s : Str) : Prop := s = [] ∨ ∃ t k, t.length ≤ 2048 ∧ k < (sealM t).length ∧ s = (sealM t).take k
theorem torn_take {s : Str} (h : Torn s) (m : Nat) : Torn (s.take m) := by
  rcases h with rfl | ⟨t, k, h1, h2, rfl⟩
  · exact .inl (by simp)
  · rw [List.take_take]; exact .inr ⟨t, min m k, h1, by omega, rfl⟩
theorem torn_open {s : Str} (h : Torn s) : (openM s 2048).2.2 ≠ 0 := by
  rcases h with rfl | ⟨t, k, h1, h2, rfl⟩
  · exact open_nil
  · exact open_part (by omega) h2
theorem scan_torn {l : List Str} {r : Str} (h : ∀ t ∈ l, t.length ≤ 2048) (hr : Torn r) : scanL (sealAll l ++ r) = l ∧ scanP (sealAll l ++ r) = (sealAll l).length := by
  have e := scanL_of (scanned_of l _ r rfl h (torn_open hr))
  exact ⟨e, by unfold scanP; rw [e]⟩
theorem kept (cur : List Str) : ∀ (tl : Str) (m : Nat), (∀ t ∈ cur, t.length ≤ 2048) → Torn tl → ∃ j r, j ≤ cur.length ∧ Torn r ∧ (sealAll cur ++ tl).take m = sealAll (cur.take j) ++ r ∧ ∀ i, i ≤ cur.length → (sealAll (cur.take i)).length ≤ m → i ≤ j := by
  induction cur with
  | nil => intro tl m _ ht; exact ⟨0, tl.take m, Nat.le_refl _, torn_take ht m, by simp [sealAll], fun i hi _ => hi⟩
  | cons t cur ih =>
    intro tl m hs ht
    by_cases hm : m < (sealM t).length
    · refine ⟨0, (sealM t).take m, Nat.zero_le _, .inr ⟨t, m, hs t (List.mem_cons_self ..), hm, rfl⟩, ?_, fun i hi hl => ?_⟩
      · simp only [sealAll, List.take_zero, List.nil_append, List.append_assoc]
        rw [List.take_append_of_le_length (by omega)]
      · cases i with
        | zero => exact Nat.le_refl _
        | succ i => rw [List.take_succ_cons] at hl; simp only [sealAll, List.length_append] at hl; omega
    · obtain ⟨j, r, h1, h2, h3, h4⟩ := ih tl (m - (sealM t).length) (fun x hx => hs x (List.mem_cons_of_mem _ hx)) ht
      refine ⟨j + 1, r, by simp only [List.length_cons]; omega, h2, ?_, fun i hi hl => ?_⟩
      · rw [List.take_succ_cons]
        simp only [sealAll, List.append_assoc]
        rw [← h3, List.take_append, List.take_of_length_le (by omega)]
      · cases i with
        | zero => omega
        | succ i =>
          rw [List.take_succ_cons] at hl
          simp only [sealAll, List.length_append] at hl
          simp only [List.length_cons] at hi
          have := h4 i (by omega) (by omega)
          omega

/-! ### The files of a log -/
structure KLog (b : Nat) (d : Disk) (pre : List (List Str)) (cur : List Str) (tl : Str) : Prop where
  db : DB d
  few : b + pre.length + 1 ≤ 1000000
  one : ∀ n, cnt d.Files n ≤ 1
  new : has d.Files newN = false
  none : ∀ k : Nat, b + pre.length + 1 < k → k ≤ 1000000 → has d.Files (nm k) = false
  old : ∀ (i : Nat) s, pre[i]? = some s → has d.Files (nm (b + i + 1)) = true ∧ fileAt d.Files (nm (b + i + 1)) = ⟨nm (b + i + 1), sealAll s, []⟩ ∧ (sealAll s).length ≤ 65536
  now : (fileAt d.Files (nm (b + pre.length + 1))).Safe ++ (fileAt d.Files (nm (b + pre.length + 1))).Wait = sealAll cur ++ tl
  size : fsize (fileAt d.Files (nm (b + pre.length + 1))) ≤ 65536
  tail : Torn tl
  small : ∀ s ∈ pre, ∀ t ∈ s, t.length ≤ 2048
  small2 : ∀ t ∈ cur, t.length ≤ 2048
theorem KLog.seg {b : Nat} {d : Disk} {pre : List (List Str)} {cur : List Str} {tl : Str} (h : KLog b d pre cur tl) : 1 ≤ b + pre.length + 1 ∧ b + pre.length + 1 ≤ 1000000 := by have := h.few; omega
theorem KLog.may {b : Nat} {d : Disk} {pre : List (List Str)} {cur : List Str} {tl : Str} (h : KLog b d pre cur tl) : mayM ((b + pre.length + 1 : Nat) : Int) = true := by have := h.few; rw [mayM_iff]; omega
theorem KLog.files {b : Nat} {d d2 : Disk} {pre : List (List Str)} {cur : List Str} {tl : Str} (h : KLog b d pre cur tl) (hd : DB d2) (e : d2.Files = d.Files) : KLog b d2 pre cur tl := by
  refine ⟨hd, h.few, ?_, ?_, ?_, ?_, ?_, ?_, h.tail, h.small, h.small2⟩
  · rw [e]; exact h.one
  · rw [e]; exact h.new
  · rw [e]; exact h.none
  · rw [e]; exact h.old
  · rw [e]; exact h.now
  · rw [e]; exact h.size
theorem KLog.out {b : Nat} {d : Disk} {pre : List (List Str)} {cur : List Str} {tl : Str} (h : KLog b d pre cur tl) (hh : has d.Files (nm (b + pre.length + 1)) = false) : cur = [] ∧ tl = [] := by
  have e := h.now
  rw [fileAt_none hh] at e
  have e2 := congrArg List.length e
  have hl := sealAll_len cur
  simp only [noFile, List.append_nil, List.length_nil, List.length_append] at e2
  exact ⟨List.length_eq_zero_iff.1 (by omega), List.length_eq_zero_iff.1 (by omega)⟩
/-- Only the file that is written has changed. -/
theorem KLog.moved {b : Nat} {d d2 : Disk} {pre : List (List Str)} {cur cur2 : List Str} {tl tl2 : Str} (h : KLog b d pre cur tl) (hd : DB d2) (h1 : ∀ n, cnt d2.Files n ≤ 1) (h2 : has d2.Files newN = false)
    (h3 : ∀ n, n ≠ nm (b + pre.length + 1) → n ≠ newN → has d2.Files n = has d.Files n ∧ fileAt d2.Files n = fileAt d.Files n)
    (h4 : (fileAt d2.Files (nm (b + pre.length + 1))).Safe ++ (fileAt d2.Files (nm (b + pre.length + 1))).Wait = sealAll cur2 ++ tl2) (h5 : fsize (fileAt d2.Files (nm (b + pre.length + 1))) ≤ 65536) (h6 : Torn tl2) (h7 : ∀ t ∈ cur2, t.length ≤ 2048) : KLog b d2 pre cur2 tl2 := by
  have hf := h.few
  refine ⟨hd, hf, h1, h2, fun k hk hk2 => ?_, fun i s hi => ?_, h4, h5, h6, h.small, h7⟩
  · rw [(h3 _ (nm_ne (by omega) (by omega) (by omega)) (nameM_new _)).1]; exact h.none k hk hk2
  · have hlt := lt_of_at hi
    have := h3 (nm (b + i + 1)) (nm_ne (by omega) (by omega) (by omega)) (nameM_new _)
    rw [this.1, this.2]; exact h.old i s hi
theorem KLog.sync {b : Nat} {d : Disk} {pre : List (List Str)} {cur : List Str} {tl : Str} (h : KLog b d pre cur tl) (hoff : d.Off = false) (hh : has d.Files (nm (b + pre.length + 1)) = true) :
    (syncM d (nm (b + pre.length + 1))).2 = 0 ∧ KLog b (syncM d (nm (b + pre.length + 1))).1 pre cur tl ∧ (syncM d (nm (b + pre.length + 1))).1.Off = false ∧ has (syncM d (nm (b + pre.length + 1))).1.Files (nm (b + pre.length + 1)) = true ∧
    fileAt (syncM d (nm (b + pre.length + 1))).1.Files (nm (b + pre.length + 1)) = ⟨nm (b + pre.length + 1), sealAll cur ++ tl, []⟩ := by
  have hz : (syncM d (nm (b + pre.length + 1))).2 = 0 := by
    unfold syncM; rw [if_neg (by simp [hoff]), if_neg (by simp [hh])]
  have ho : (syncM d (nm (b + pre.length + 1))).1.Off = false := by
    unfold syncM; rw [if_neg (by simp [hoff]), if_neg (by simp [hh])]; exact hoff
  obtain ⟨g1, g2⟩ := sync_good hz
  rw [h.now] at g2
  have hs := h.size
  have hn := congrArg List.length h.now
  unfold fsize at hs
  rw [List.length_append] at hn
  refine ⟨hz, h.moved (sync_db h.db _) (fun n => by rw [sync_cnt]; exact h.one n) ?_ (fun n hn _ => sync_apart hn) (by rw [g2, List.append_nil]) (by rw [g2]; unfold fsize; simp only [List.length_nil]; omega) h.tail h.small2, ho, g1, g2⟩
  rw [(sync_apart (fun e => nameM_new _ e.symm)).1]; exact h.new
theorem KLog.next {b : Nat} {d : Disk} {pre : List (List Str)} {cur : List Str} (h : KLog b d pre cur []) (hh : has d.Files (nm (b + pre.length + 1)) = true) (hw : (fileAt d.Files (nm (b + pre.length + 1))).Wait = []) (hf : b + pre.length + 2 ≤ 1000000) : KLog b d (pre ++ [cur]) [] [] ∧ fileAt d.Files (nm (b + (pre ++ [cur]).length + 1)) = noFile := by
  have hl : b + (pre ++ [cur]).length + 1 = b + pre.length + 2 := by simp; omega
  have hno := h.none (b + pre.length + 2) (by omega) (by omega)
  have hnf := fileAt_none hno
  have hs := h.size
  refine ⟨⟨h.db, by omega, h.one, h.new, fun k hk hk2 => h.none k (by omega) hk2, fun i s hi => ?_, ?_, ?_, .inl rfl, fun s hs => ?_, fun t ht => by (cases ht)⟩, by rw [hl]; exact hnf⟩
  · by_cases hi2 : i < pre.length
    · rw [List.getElem?_append_left hi2] at hi; exact h.old i s hi
    · have hlt := lt_of_at hi
      have : i = pre.length := by omega
      subst this
      rw [List.getElem?_append_right (Nat.le_refl _), Nat.sub_self] at hi
      simp only [List.getElem?_cons_zero] at hi
      injection hi with hi
      subst hi
      have e := h.now
      rw [hw, List.append_nil, List.append_nil] at e
      unfold fsize at hs
      rw [hw, e] at hs
      refine ⟨hh, ?_, by simpa using hs⟩
      have e3 := (idxI_get hh).2.2.2
      generalize fileAt d.Files (nm (b + pre.length + 1)) = f at *
      obtain ⟨a, b, c⟩ := f
      simp only at e3 e hw
      rw [e3, e, hw]
  · rw [hl, hnf]; rfl
  · rw [hl, hnf]; decide
  · rcases List.mem_append.1 hs with hs | hs
    · exact h.small s hs
    · simp at hs; subst hs; exact h.small2
theorem KLog.back {b : Nat} {d : Disk} {pre : List (List Str)} {cur : List Str} (h : KLog b d (pre ++ [cur]) [] []) (hh : has d.Files (nm (b + pre.length + 2)) = false) : KLog b d pre cur [] ∧ fileAt d.Files (nm (b + pre.length + 1)) = ⟨nm (b + pre.length + 1), sealAll cur, []⟩ := by
  have hl : (pre ++ [cur]).length = pre.length + 1 := by simp
  have hf := h.few
  have ho := h.old pre.length cur (by rw [List.getElem?_append_right (Nat.le_refl _), Nat.sub_self]; rfl)
  refine ⟨⟨h.db, by omega, h.one, h.new, fun k hk hk2 => ?_, fun i s hi => ?_, ?_, ?_, .inl rfl, fun s hs => h.small s (List.mem_append_left _ hs), h.small cur (List.mem_append_right _ (List.mem_cons_self ..))⟩, ho.2.1⟩
  · by_cases hk3 : k = b + pre.length + 2
    · subst hk3; exact hh
    · exact h.none k (by omega) hk2
  · exact h.old i s (by rw [List.getElem?_append_left (lt_of_at hi)]; exact hi)
  · rw [ho.2.1]
  · rw [ho.2.1]; unfold fsize; simp only [List.length_nil]; omega
/-- A record that is put into the file that is written. -/
theorem KLog.append {b : Nat} {d : Disk} {pre : List (List Str)} {cur : List Str} (h : KLog b d pre cur []) (hoff : d.Off = false) {s : Str} (hs : s.length ≤ 2048) :
    ((appendM d (nm (b + pre.length + 1)) (sealM s)).1 = d ∧ (appendM d (nm (b + pre.length + 1)) (sealM s)).2 ≠ 0 ∧ (appendM d (nm (b + pre.length + 1)) (sealM s)).2 ≠ 6) ∨
    ((fileAt (appendM d (nm (b + pre.length + 1)) (sealM s)).1.Files (nm (b + pre.length + 1))).Safe = (fileAt d.Files (nm (b + pre.length + 1))).Safe ∧
      (((appendM d (nm (b + pre.length + 1)) (sealM s)).2 = 0 ∧ KLog b (appendM d (nm (b + pre.length + 1)) (sealM s)).1 pre (cur ++ [s]) [] ∧ (appendM d (nm (b + pre.length + 1)) (sealM s)).1.Off = false) ∨
      ((appendM d (nm (b + pre.length + 1)) (sealM s)).2 = 6 ∧ (∃ tl, KLog b (appendM d (nm (b + pre.length + 1)) (sealM s)).1 pre cur tl) ∧ (appendM d (nm (b + pre.length + 1)) (sealM s)).1.Off = true))) := by
  have hsl := sealM_len (s := s) (by omega)
  rcases append_cases d (nm (b + pre.length + 1)) (sealM s) hoff with h1 | ⟨k, hk, g1, g2, g3, g4, g5⟩
  · exact .inl h1
  refine .inr ⟨by rw [g2], ?_⟩
  have hn := h.now
  rw [List.append_nil] at hn
  have hdb := append_db h.db (nm (b + pre.length + 1)) (sealM s) (by omega)
  have hone : ∀ n, cnt (appendM d (nm (b + pre.length + 1)) (sealM s)).1.Files n ≤ 1 := fun n => by
    have := (append_cnt d (nm (b + pre.length + 1)) (sealM s) n).1
    have := h.one n
    omega
  have hnew : has (appendM d (nm (b + pre.length + 1)) (sealM s)).1.Files newN = false := by
    rw [(append_apart (fun e => nameM_new _ e.symm)).1]; exact h.new
  have hsz : fsize (fileAt (appendM d (nm (b + pre.length + 1)) (sealM s)).1.Files (nm (b + pre.length + 1))) ≤ 65536 := by
    rw [g2]; unfold fsize at g5 ⊢; simp only [List.length_append, List.length_take]; omega
  by_cases hlt : k < (sealM s).length
  · rw [if_pos hlt] at g4
    rw [decide_eq_true hlt] at g3
    refine .inr ⟨g4, ⟨(sealM s).take k, h.moved hdb hone hnew (fun n hn _ => append_apart hn) ?_ hsz (.inr ⟨s, k, hs, hlt, rfl⟩) h.small2⟩, g3⟩
    rw [g2, ← hn, List.append_assoc]
  · rw [if_neg hlt] at g4
    rw [decide_eq_false hlt] at g3
    refine .inl ⟨g4, h.moved hdb hone hnew (fun n hn _ => append_apart hn) ?_ hsz (.inl rfl) (fun t ht => ?_), g3⟩
    · rw [g2, List.take_of_length_le (by omega), sealAll_append, ← hn]
      simp only [sealAll, List.append_nil, List.append_assoc]
    · rcases List.mem_append.1 ht with ht | ht
      · exact h.small2 t ht
      · simp at ht; subst ht; exact hs

theorem rename_gone {d : Disk} {a b : Str} (hab : a ≠ b) (ha : cnt d.Files a ≤ 1) (hok : (renameM d a b).2 = 0) : has (renameM d a b).1.Files a = false := by
  unfold renameM at hok ⊢
  by_cases c1 : d.Off = true
  · rw [if_pos c1] at hok; cases hok
  rw [if_neg c1] at hok ⊢
  by_cases c2 : named b = false
  · rw [if_pos c2] at hok; cases hok
  rw [if_neg c2] at hok ⊢
  by_cases c3 : has d.Files a = false
  · rw [if_pos c3] at hok; cases hok
  rw [if_neg c3, if_neg hab] at hok ⊢
  by_cases c5 : (powerM d).2 = false
  · rw [if_pos c5] at hok; cases hok
  rw [if_neg c5]
  simp only
  have hh : has (lostM (powerM d).1 b).Files a = true := by rw [lost_has hab, power_files]; simpa using c3
  have e := set_cnt hh ⟨b, (fileAt d.Files a).Safe, (fileAt d.Files a).Wait⟩ a
  rw [lost_cnt, power_files, if_pos rfl, if_neg (fun x => hab x.symm)] at e
  exact has_cnt.2 (by omega)
theorem rename_done {d : Disk} {a b : Str} (hoff : d.Off = false) (hn : named b = true) (hh : has d.Files a = true) (hab : a ≠ b) (hf : d.Fuse = -1) : (renameM d a b).2 = 0 ∧ (renameM d a b).1.Off = false := by
  have hp : (powerM d).2 = true := by unfold powerM; rw [if_neg (by omega)]
  have hp2 : (powerM d).1.Off = false := by unfold powerM; rw [if_neg (by omega)]; exact hoff
  unfold renameM
  rw [if_neg (by simp [hoff]), if_neg (by simp [hn]), if_neg (by simp [hh]), if_neg hab, if_neg (by simp [hp])]
  exact ⟨rfl, by rw [← hp2]; exact (lost_fuse _ _).2⟩
theorem cutTail_zero (d : Disk) (k : Int) : cutTail 0 d k = (d, 0) := rfl
theorem tail_none {d : Disk} (n : Nat) {k : Int} (h : has d.Files (nameM k) = false) : cutTail n d k = (d, 0) := by
  cases n with
  | zero => rfl
  | succ n => unfold cutTail; rw [if_pos h]
theorem KLog.cut {b : Nat} {d : Disk} {pre : List (List Str)} {cur : List Str} {tl : Str} (h : KLog b d pre cur tl) (hoff : d.Off = false) (hfuse : d.Fuse = -1) :
    (wcutM d ((b + pre.length + 1 : Nat) : Int) (sealAll cur)).2 = 5 ∨ ((wcutM d ((b + pre.length + 1 : Nat) : Int) (sealAll cur)).2 = 0 ∧ KLog b (wcutM d ((b + pre.length + 1 : Nat) : Int) (sealAll cur)).1 pre cur [] ∧ (wcutM d ((b + pre.length + 1 : Nat) : Int) (sealAll cur)).1.Off = false ∧
      has (wcutM d ((b + pre.length + 1 : Nat) : Int) (sealAll cur)).1.Files (nm (b + pre.length + 1)) = true ∧ (fileAt (wcutM d ((b + pre.length + 1 : Nat) : Int) (sealAll cur)).1.Files (nm (b + pre.length + 1))).Wait = []) := by
  have hsz := h.size
  have hnow := congrArg List.length h.now
  have hfew := h.few
  have hseg := named_seg h.seg
  have hne : newN ≠ nm (b + pre.length + 1) := fun e => nameM_new _ e.symm
  unfold fsize at hsz
  rw [List.length_append, List.length_append] at hnow
  have hc : clearM d newN = (d, 0) := by unfold clearM; rw [if_neg (by simp [h.new])]
  have h2 : lay2 d newN (sealAll cur) = appendM d newN (sealAll cur) := by unfold lay2; rw [hc]; rfl
  have ha : appendM d newN (sealAll cur) = (d, 5) ∨ ((appendM d newN (sealAll cur)).2 = 0 ∧ (appendM d newN (sealAll cur)).1.Fuse = -1) := by
    have ht : torn d.Fuse (sealAll cur) = sealAll cur := by unfold torn; rw [if_neg (by omega)]
    unfold appendM
    rw [if_neg (by simp [hoff]), if_neg (show ¬ named newN = false by decide)]
    by_cases c3 : (has d.Files newN = false ∧ 64 ≤ d.Files.length) ∨ d.Room < (sealAll cur).length
    · rw [if_pos c3]; exact .inl rfl
    rw [if_neg c3, if_neg (by rw [fileAt_none h.new]; unfold fsize noFile; simp only [List.length_nil]; omega), ht]
    refine .inr ⟨by simp only; rw [if_neg (by omega)], ?_⟩
    simp only
    rw [if_neg (by omega)]; exact hfuse
  have hcut := cut_db h.db ((b + pre.length + 1 : Nat) : Int) (sealAll cur) (by omega)
  rcases ha with ha | ⟨ha, hfz⟩
  · refine .inl ?_
    unfold wcutM lay3
    rw [h2, ha]
    rfl
  obtain ⟨g1, g2, g3⟩ := append_good ha
  rw [fileAt_none h.new] at g2
  have hz : (syncM (appendM d newN (sealAll cur)).1 newN).2 = 0 := by
    unfold syncM; rw [if_neg (by simp [g3]), if_neg (by simp [g1])]
  obtain ⟨k1, k2⟩ := sync_good hz
  rw [g2] at k2
  have ko : (syncM (appendM d newN (sealAll cur)).1 newN).1.Off = false := by
    unfold syncM; rw [if_neg (by simp [g3]), if_neg (by simp [g1])]; exact g3
  have kf : (syncM (appendM d newN (sealAll cur)).1 newN).1.Fuse = -1 := by
    unfold syncM; rw [if_neg (by simp [g3]), if_neg (by simp [g1])]; exact hfz
  have h3 : lay3 d newN (sealAll cur) = syncM (appendM d newN (sealAll cur)).1 newN := by unfold lay3; rw [h2, if_neg (by simp [ha])]
  have h1 : ∀ n, cnt (syncM (appendM d newN (sealAll cur)).1 newN).1.Files n ≤ 1 := fun n => by
    rw [sync_cnt]
    have := (append_cnt d newN (sealAll cur) n).1
    have := h.one n
    omega
  have hap : ∀ n, n ≠ newN → has (syncM (appendM d newN (sealAll cur)).1 newN).1.Files n = has d.Files n ∧ fileAt (syncM (appendM d newN (sealAll cur)).1 newN).1.Files n = fileAt d.Files n := fun n hn => by
    rw [(sync_apart hn).1, (sync_apart hn).2, (append_apart hn).1, (append_apart hn).2]; exact ⟨rfl, rfl⟩
  generalize syncM (appendM d newN (sealAll cur)).1 newN = y at *
  obtain ⟨r1, r2⟩ := rename_done (b := nm (b + pre.length + 1)) ko hseg k1 hne kf
  obtain ⟨s1, s2⟩ := rename_good hne (h1 _) r1
  rw [k2] at s2
  simp only [noFile, List.nil_append, List.append_nil] at s2
  have s3 := rename_gone hne (h1 _) r1
  have hlast : cutTail (1000000 - ((b + pre.length + 1 : Nat) : Int)).toNat (renameM y.1 newN (nm (b + pre.length + 1))).1 (((b + pre.length + 1 : Nat) : Int) + 1) = ((renameM y.1 newN (nm (b + pre.length + 1))).1, 0) := by
    by_cases hb : b + pre.length + 2 ≤ 1000000
    · refine tail_none _ ?_
      have hn := h.none (b + pre.length + 2) (by omega) hb
      have e : (((b + pre.length + 1 : Nat) : Int) + 1) = ((b + pre.length + 2 : Nat) : Int) := by omega
      rw [e, (rename_apart (nameM_new _) (nm_ne (by omega) (by omega) (by omega))).1, (hap _ (nameM_new _)).1]
      exact hn
    · have e : (1000000 - ((b + pre.length + 1 : Nat) : Int)).toNat = 0 := Int.toNat_of_nonpos (by omega)
      rw [e, cutTail_zero]
  have hw : wcutM d ((b + pre.length + 1 : Nat) : Int) (sealAll cur) = renameM y.1 newN (nm (b + pre.length + 1)) := by
    unfold wcutM
    rw [h3, if_neg (by simp [hz]), if_neg (show ¬ (renameM y.1 newN (nameM ((b + pre.length + 1 : Nat) : Int))).2 ≠ 0 from fun x => x r1), hlast]
    exact Prod.ext rfl r1.symm
  rw [hw] at hcut ⊢
  refine .inr ⟨r1, h.moved hcut (fun n => rename_cnt _ _ _ _ (h1 _) (h1 n)) s3 (fun n hn hn2 => ?_) (by rw [s2]) (by rw [s2]; unfold fsize; simp only [List.length_nil]; omega) (.inl rfl) h.small2, r2, s1, by rw [s2]⟩
  rw [(rename_apart hn2 hn).1, (rename_apart hn2 hn).2]; exact hap n hn2

/-! ### A crash -/
theorem crash_at (d : Disk) (keeps : List Int) (n : Str) : has (crashM d keeps).Files n = has d.Files n ∧ (has d.Files n = true → ∃ k, fileAt (crashM d keeps).Files n = ⟨n, (fileAt d.Files n).Safe ++ (fileAt d.Files n).Wait.take k, []⟩) := by
  have hnames : (crashM d keeps).Files.map (·.Name) = d.Files.map (·.Name) := by
    unfold crashM
    simp only
    apply List.ext_getElem?
    intro i
    rw [List.getElem?_map, List.getElem?_mapIdx, List.getElem?_map]
    cases d.Files[i]? <;> rfl
  have hh := has_names hnames n
  refine ⟨hh, fun h1 => ?_⟩
  have g := (idxI_get (hh.trans h1)).2.2.1
  have g0 := (idxI_get h1).2.2.1
  have gn := (idxI_get h1).2.2.2
  rw [idxI_names hnames] at g
  unfold crashM at g ⊢
  simp only at g ⊢
  rw [List.getElem?_mapIdx, g0] at g
  simp only [Option.map_some] at g
  injection g with g
  rw [← g]
  exact ⟨_, by unfold crashF; rw [gn]⟩
theorem KLog.crash {b : Nat} {d : Disk} {pre : List (List Str)} {cur : List Str} {tl : Str} (h : KLog b d pre cur tl) (keeps : List Int) :
    ∃ j r, j ≤ cur.length ∧ KLog b (crashM d keeps) pre (cur.take j) r ∧ (fileAt (crashM d keeps).Files (nm (b + pre.length + 1))).Wait = [] ∧ ∀ i, i ≤ cur.length → (sealAll (cur.take i)).length ≤ (fileAt d.Files (nm (b + pre.length + 1))).Safe.length → i ≤ j := by
  have key : ∃ m, (fileAt d.Files (nm (b + pre.length + 1))).Safe.length ≤ m ∧ (fileAt (crashM d keeps).Files (nm (b + pre.length + 1))).Safe = (sealAll cur ++ tl).take m ∧ (fileAt (crashM d keeps).Files (nm (b + pre.length + 1))).Wait = [] := by
    obtain ⟨c1, c2⟩ := crash_at d keeps (nm (b + pre.length + 1))
    cases hh : has d.Files (nm (b + pre.length + 1)) with
    | true =>
      obtain ⟨k, e⟩ := c2 hh
      refine ⟨(fileAt d.Files (nm (b + pre.length + 1))).Safe.length + k, by omega, ?_, by rw [e]⟩
      rw [e, ← h.now, List.take_append, List.take_of_length_le (show (fileAt d.Files (nm (b + pre.length + 1))).Safe.length ≤ (fileAt d.Files (nm (b + pre.length + 1))).Safe.length + k by omega)]
      simp only
      rw [Nat.add_sub_cancel_left]
    | false =>
      obtain ⟨rfl, rfl⟩ := h.out hh
      rw [hh] at c1
      rw [fileAt_none hh, fileAt_none c1]
      exact ⟨0, by simp [noFile], by simp [noFile, sealAll], rfl⟩
  obtain ⟨m, hm, e1, e2⟩ := key
  obtain ⟨j, r, h1, h2, h3, h4⟩ := kept cur tl m h.small2 h.tail
  rw [h3] at e1
  have hnow := h.now
  have hsz := h.size
  unfold fsize at hsz
  have hl := congrArg List.length h.now
  have hl3 := congrArg List.length h3
  rw [List.length_append] at hl
  rw [List.length_take] at hl3
  refine ⟨j, r, h1, ⟨crash_db h.db keeps, h.few, fun n => by rw [crash_cnt]; exact h.one n, by rw [(crash_at d keeps newN).1]; exact h.new, fun k hk hk2 => by rw [(crash_at d keeps (nm k)).1]; exact h.none k hk hk2, fun i s hi => ?_, by rw [e1, e2, List.append_nil], ?_, h2, h.small, fun t ht => h.small2 t (List.mem_of_mem_take ht)⟩, e2, fun i hi hl => h4 i hi (by omega)⟩
  · obtain ⟨o1, o2, o3⟩ := h.old i s hi
    obtain ⟨c1, c2⟩ := crash_at d keeps (nm (b + i + 1))
    obtain ⟨k, e⟩ := c2 o1
    rw [o2] at e
    refine ⟨c1.trans o1, ?_, o3⟩
    rw [e]; simp
  · unfold fsize
    rw [e1, e2]
    simp only [List.length_nil]
    omega

/-! ### A recovery -/
theorem read_has {d : Disk} {n : Str} (h : has d.Files n = true) : readM d n = ((fileAt d.Files n).Safe ++ (fileAt d.Files n).Wait, 0) := by unfold readM; rw [if_pos h]
theorem read_not {d : Disk} {n : Str} (h : has d.Files n = false) : readM d n = ([], 7) := by unfold readM; rw [if_neg (by simp [h])]
theorem rec_not {f : Int} {d : Disk} {n : Nat} {last seg : Int} {out : List Str} (h : has d.Files (nameM seg) = false) : recM d f n last seg out = (d, out, last, 0) := by
  cases n with
  | zero => rfl
  | succ n => unfold recM; rw [read_not h, if_pos (by simp)]
theorem rec_one {f : Int} {d : Disk} {n k : Nat} {last : Int} {out l : List Str} {r : Str} (h : has d.Files (nm k) = true) (e : (fileAt d.Files (nm k)).Safe ++ (fileAt d.Files (nm k)).Wait = sealAll l ++ r) (hs : ∀ t ∈ l, t.length ≤ 2048) (hr : Torn r) :
    recM d f (n + 1) last (k : Int) out = if r = [] then recM d f n (k : Int) ((k + 1 : Nat) : Int) (out ++ l) else
      if (wcutM d (k : Int) (sealAll l)).2 ≠ 0 then ((wcutM d (k : Int) (sealAll l)).1, [], f, (wcutM d (k : Int) (sealAll l)).2) else ((wcutM d (k : Int) (sealAll l)).1, out ++ l, (k : Int), 0) := by
  have hrd : rdM d (k : Int) = sealAll l ++ r := by unfold rdM; rw [read_has h, e]
  obtain ⟨s1, s2⟩ := scan_torn hs hr
  have ht : (sealAll l ++ r).take (sealAll l).length = sealAll l := List.take_left ..
  conv => lhs; unfold recM
  rw [hrd, s1, s2, ht, read_has h, if_neg (by simp)]
  by_cases hn : r = []
  · subst hn
    rw [if_neg (by simp), if_pos rfl]
    rfl
  · have hp : 0 < r.length := List.length_pos_iff.2 hn
    rw [if_pos (by rw [List.length_append]; omega), if_neg hn]
theorem rec_pre {f : Int} {b : Nat} {d : Disk} {pre : List (List Str)} {cur : List Str} {tl : Str} (h : KLog b d pre cur tl) : ∀ (m i n : Nat) (last : Int) (out : List Str), i + m = pre.length →
    recM d f (n + m) last ((b + i + 1 : Nat) : Int) out = recM d f n (if m = 0 then last else ((b + pre.length : Nat) : Int)) ((b + pre.length + 1 : Nat) : Int) (out ++ (pre.drop i).flatten) := by
  intro m
  induction m with
  | zero =>
    intro i n last out hi
    have : i = pre.length := by omega
    subst this
    rw [List.drop_length, List.flatten_nil, List.append_nil, if_pos rfl]
    rfl
  | succ m ih =>
    intro i n last out hi
    have hlt : i < pre.length := by omega
    have hg := List.getElem?_eq_getElem hlt
    obtain ⟨o1, o2, o3⟩ := h.old i _ hg
    rw [show n + (m + 1) = (n + m) + 1 by omega, rec_one (l := pre[i]) (r := []) o1 (by rw [o2]) (h.small _ (List.getElem_mem hlt)) (.inl rfl), if_pos rfl, show b + i + 1 + 1 = b + (i + 1) + 1 by omega, ih (i + 1) n _ _ (by omega), List.drop_eq_getElem_cons hlt, List.flatten_cons, List.append_assoc, if_neg (show ¬ m + 1 = 0 by omega)]
    by_cases hm : m = 0
    · rw [if_pos hm]
      have : ((b + i + 1 : Nat) : Int) = ((b + pre.length : Nat) : Int) := by omega
      rw [this]
    · rw [if_neg hm]
theorem recover_log {b : Nat} {d : Disk} {pre : List (List Str)} {cur : List Str} {tl : Str} (h : KLog b d pre cur tl) : recoverM d ((b + 1 : Nat) : Int) =
    if has d.Files (nm (b + pre.length + 1)) = false then (d, pre.flatten, (if pre.length = 0 then ((b + 1 : Nat) : Int) else ((b + pre.length : Nat) : Int)), 0) else
    if tl = [] then (d, pre.flatten ++ cur, ((b + pre.length + 1 : Nat) : Int), 0) else
    if (wcutM d ((b + pre.length + 1 : Nat) : Int) (sealAll cur)).2 ≠ 0 then ((wcutM d ((b + pre.length + 1 : Nat) : Int) (sealAll cur)).1, [], ((b + 1 : Nat) : Int), (wcutM d ((b + pre.length + 1 : Nat) : Int) (sealAll cur)).2) else ((wcutM d ((b + pre.length + 1 : Nat) : Int) (sealAll cur)).1, pre.flatten ++ cur, ((b + pre.length + 1 : Nat) : Int), 0) := by
  have hf := h.few
  have e0 : ((1000001 : Int) - ((b + 1 : Nat) : Int)).toNat = (999999 - b - pre.length + 1) + pre.length := by omega
  have hp := rec_pre (f := ((b + 1 : Nat) : Int)) h pre.length 0 (999999 - b - pre.length + 1) ((b + 1 : Nat) : Int) [] (by omega)
  have hm : mayM ((b + 1 : Nat) : Int) = true := by rw [mayM_iff]; omega
  unfold recoverM
  rw [if_neg (by rw [hm]; simp), e0]
  rw [List.drop_zero, List.nil_append, Nat.add_zero] at hp
  rw [hp]
  cases hh : has d.Files (nm (b + pre.length + 1)) with
  | false => rw [if_pos rfl, rec_not hh]
  | true =>
    rw [if_neg (show ¬ (true = false) by simp), rec_one hh h.now h.small2 h.tail]
    by_cases ht : tl = []
    · rw [if_pos ht, if_pos ht]
      by_cases hb : b + pre.length + 2 ≤ 1000000
      · rw [rec_not (h.none _ (by omega) (by omega))]
      · rw [show 999999 - b - pre.length = 0 by omega]; rfl
    · rw [if_neg ht, if_neg ht]
theorem tail_apart {n : Str} (h2 : ∀ k : Int, n ≠ nameM k) (m : Nat) : ∀ (d : Disk) (k : Int), has (cutTail m d k).1.Files n = has d.Files n ∧ fileAt (cutTail m d k).1.Files n = fileAt d.Files n := by
  induction m with
  | zero => intro d k; exact ⟨rfl, rfl⟩
  | succ m ih =>
    intro d k
    unfold cutTail
    split
    · exact ⟨rfl, rfl⟩
    split
    · exact delete_apart (h2 k)
    · have h := ih (deleteM d (nameM k)).1 (k + 1)
      have g := delete_apart (d := d) (h2 k)
      exact ⟨h.1.trans g.1, h.2.trans g.2⟩
theorem tail_cnt (n : Str) (m : Nat) : ∀ (d : Disk) (k : Int), cnt (cutTail m d k).1.Files n ≤ cnt d.Files n := by
  induction m with
  | zero => intro d k; exact Nat.le_refl _
  | succ m ih =>
    intro d k
    have g := (delete_cnt d (nameM k) n).1
    unfold cutTail
    split
    · exact Nat.le_refl _
    split
    · exact g
    · exact Nat.le_trans (ih _ _) g
theorem wcut_apart {d : Disk} {seg : Int} {s n : Str} (h1 : n ≠ newN) (h2 : ∀ k : Int, n ≠ nameM k) : has (wcutM d seg s).1.Files n = has d.Files n ∧ fileAt (wcutM d seg s).1.Files n = fileAt d.Files n := by
  have a := lay3_apart (d := d) (s := s) h1
  have b := rename_apart (d := (lay3 d newN s).1) h1 (h2 seg)
  unfold wcutM
  split
  · exact a
  split
  · exact ⟨b.1.trans a.1, b.2.trans a.2⟩
  · have c := tail_apart h2 (1000000 - seg).toNat (renameM (lay3 d newN s).1 newN (nameM seg)).1 (seg + 1)
    exact ⟨c.1.trans (b.1.trans a.1), c.2.trans (b.2.trans a.2)⟩
theorem wcut_nil {d : Disk} {seg : Int} {s : Str} (hs : ([] : Str) ≠ nameM seg) (h : has d.Files [] = false) : has (wcutM d seg s).1.Files [] = false := by
  have h1 : ([] : Str) ≠ newN := by decide
  have a := lay3_apart (d := d) (s := s) h1
  have b := rename_apart (d := (lay3 d newN s).1) h1 hs
  unfold wcutM
  split
  · rw [a.1]; exact h
  split
  · rw [b.1, a.1]; exact h
  · have c := tail_cnt [] (1000000 - seg).toNat (renameM (lay3 d newN s).1 newN (nameM seg)).1 (seg + 1)
    have e := has_cnt.1 (show has (renameM (lay3 d newN s).1 newN (nameM seg)).1.Files [] = false by rw [b.1, a.1]; exact h)
    exact has_cnt.2 (by omega)
/-- A recovery after a crash: there is no room, or all is whole then, and a second one changes nothing. -/
theorem recover_lasts {b : Nat} {d : Disk} {pre : List (List Str)} {cur : List Str} {tl : Str} (h : KLog b d pre cur tl) (hoff : d.Off = false) (hfuse : d.Fuse = -1) (hw : (fileAt d.Files (nm (b + pre.length + 1))).Wait = []) :
    (tl ≠ [] ∧ (recoverM d ((b + 1 : Nat) : Int)).2.2.2 = 5) ∨ ∃ (d2 : Disk) (pre2 : List (List Str)) (cur2 : List Str), recoverM d ((b + 1 : Nat) : Int) = (d2, pre.flatten ++ cur, ((b + pre2.length + 1 : Nat) : Int), 0) ∧ recoverM d2 ((b + 1 : Nat) : Int) = (d2, pre.flatten ++ cur, ((b + pre2.length + 1 : Nat) : Int), 0) ∧
      KLog b d2 pre2 cur2 [] ∧ pre2.flatten ++ cur2 = pre.flatten ++ cur ∧ pre2.length ≤ pre.length ∧ d2.Off = false ∧ (fileAt d2.Files (nm (b + pre2.length + 1))).Wait = [] ∧ (∀ n, n ≠ newN → (∀ k : Int, n ≠ nameM k) → has d2.Files n = has d.Files n ∧ fileAt d2.Files n = fileAt d.Files n) ∧ (has d.Files [] = false → has d2.Files [] = false) := by
  have hr := recover_log h
  cases hh : has d.Files (nm (b + pre.length + 1)) with
  | false =>
    rw [if_pos hh] at hr
    obtain ⟨rfl, rfl⟩ := h.out hh
    refine .inr ?_
    rcases List.eq_nil_or_concat pre with rfl | ⟨p, c, rfl⟩
    · rw [List.append_nil]
      exact ⟨d, [], [], hr, hr, h, rfl, Nat.le_refl _, hoff, hw, fun _ _ _ => ⟨rfl, rfl⟩, id⟩
    · rw [List.concat_eq_append] at h hh hr hw ⊢
      have hl : b + (p ++ [c]).length + 1 = b + p.length + 2 := by simp; omega
      have hl2 : b + (p ++ [c]).length = b + p.length + 1 := by simp; omega
      rw [hl] at hh
      rw [hl2, if_neg (by simp)] at hr
      obtain ⟨b1, b2⟩ := h.back hh
      rw [List.append_nil]
      refine ⟨d, p, c, hr, hr, b1, by simp, by omega, hoff, by rw [b2], fun _ _ _ => ⟨rfl, rfl⟩, id⟩
  | true =>
    rw [if_neg (by simp [hh])] at hr
    by_cases ht : tl = []
    · subst ht
      rw [if_pos rfl] at hr
      exact .inr ⟨d, pre, cur, hr, hr, h, rfl, Nat.le_refl _, hoff, hw, fun _ _ _ => ⟨rfl, rfl⟩, id⟩
    · rw [if_neg ht] at hr
      rcases h.cut hoff hfuse with hc | ⟨c1, c2, c3, c4, c5⟩
      · rw [if_pos (show (wcutM d ((b + pre.length + 1 : Nat) : Int) (sealAll cur)).2 ≠ 0 from fun x => by rw [hc] at x; cases x)] at hr
        exact .inl ⟨ht, by rw [hr]; exact hc⟩
      · rw [if_neg (show ¬ (wcutM d ((b + pre.length + 1 : Nat) : Int) (sealAll cur)).2 ≠ 0 from fun x => x c1)] at hr
        have hr2 := recover_log c2
        rw [if_neg (show ¬ has (wcutM d ((b + pre.length + 1 : Nat) : Int) (sealAll cur)).1.Files (nm (b + pre.length + 1)) = false from fun x => by rw [c4] at x; cases x), if_pos rfl] at hr2
        exact .inr ⟨_, pre, cur, hr, hr2, c2, rfl, Nat.le_refl _, c3, c5, fun n h1 h2 => wcut_apart h1 h2, fun hn => wcut_nil (fun e => by have hm := h.may; unfold nameM at e; rw [if_pos hm] at e; cases e) hn⟩

/-! ### Names -/
theorem nm_head (k : Nat) : nm k = [] ∨ ∃ l, nm k = 119 :: l := by
  unfold nm nameM; split
  · exact .inr ⟨_, rfl⟩
  · exact .inl rfl
theorem run_head (n : Int) : runNm n = [] ∨ ∃ l, runNm n = 114 :: l := by
  unfold runNm; split
  · exact .inr ⟨_, rfl⟩
  · exact .inl rfl
theorem nm_m (k : Nat) : ([109] : Str) ≠ nm k := by
  rcases nm_head k with h | ⟨l, h⟩ <;> rw [h] <;> simp
theorem run_m (n : Int) : ([109] : Str) ≠ runNm n := by
  rcases run_head n with h | ⟨l, h⟩ <;> rw [h] <;> simp
theorem run_some {n : Nat} (h : 1 ≤ n ∧ n ≤ 1000000) : runNm (n : Int) = 114 :: figS n := by unfold runNm; rw [if_pos (by omega), Int.toNat_natCast]
theorem run_nm {n : Nat} (h : 1 ≤ n ∧ n ≤ 1000000) (k : Nat) : runNm (n : Int) ≠ nm k := by
  rw [run_some h]
  rcases nm_head k with h | ⟨l, h⟩ <;> rw [h] <;> simp
theorem run_inj {a b : Nat} (ha : 1 ≤ a ∧ a ≤ 1000000) (hb : 1 ≤ b ∧ b ≤ 1000000) (h : a ≠ b) : runNm (a : Int) ≠ runNm (b : Int) := by
  rw [run_some ha, run_some hb]
  intro e
  exact h (figS_inj (List.cons.inj e).2)
theorem run_new {n : Nat} (h : 1 ≤ n ∧ n ≤ 1000000) : runNm (n : Int) ≠ newN := by rw [run_some h]; simp [newN]
theorem fr_m (x : Str) : ([109] : Str) ≠ frN x := by unfold frN; simp
theorem fr_nm (x : Str) (k : Nat) : nm k ≠ frN x := by
  unfold frN
  rcases nm_head k with h | ⟨l, h⟩ <;> rw [h] <;> simp
theorem fr_run (x : Str) (n : Int) : runNm n ≠ frN x := by
  unfold frN
  rcases run_head n with h | ⟨l, h⟩ <;> rw [h] <;> simp
theorem fr_new (x : Str) : newN ≠ frN x := by unfold frN newN; simp
theorem fr_nil (x : Str) : ([] : Str) ≠ frN x := by unfold frN; simp
theorem nm_nil {k : Nat} (h : 1 ≤ k ∧ k ≤ 1000000) : ([] : Str) ≠ nm k := by
  unfold nm nameM
  rw [if_pos (by rw [mayM_iff]; omega)]; simp
theorem run_nil {n : Nat} (h : 1 ≤ n ∧ n ≤ 1000000) : ([] : Str) ≠ runNm (n : Int) := by rw [run_some h]; simp
/-- A file is as it was. -/
def Stays (d d2 : Disk) (n : Str) : Prop := has d2.Files n = has d.Files n ∧ fileAt d2.Files n = fileAt d.Files n
theorem Stays.refl (d : Disk) (n : Str) : Stays d d n := ⟨rfl, rfl⟩
theorem Stays.trans {a b c : Disk} {n : Str} (h : Stays a b n) (k : Stays b c n) : Stays a c n := ⟨k.1.trans h.1, k.2.trans h.2⟩

/-! ### The manifest and the run -/
structure KBase (d : Disk) (f r : Nat) (B : State) : Prop where
  f1 : 1 ≤ f ∧ f ≤ 1000000
  r1 : r ≤ 1000000
  zero : r = 0 → f = 1 ∧ has d.Files [109] = false ∧ B = noState
  man : r ≠ 0 → has d.Files [109] = true ∧ fileAt d.Files [109] = ⟨[109], manifM f r, []⟩ ∧ has d.Files (runNm r) = true ∧ fileAt d.Files (runNm r) = ⟨runNm r, (bytesR (pairsM B)).1, []⟩ ∧ mayR (pairsM B) = true
  tok : TokOk B
theorem KBase.stays {d d2 : Disk} {f r : Nat} {B : State} (h : KBase d f r B) (h1 : Stays d d2 [109]) (h2 : r ≠ 0 → Stays d d2 (runNm r)) : KBase d2 f r B := by
  refine ⟨h.f1, h.r1, fun h0 => ?_, fun h0 => ?_, h.tok⟩
  · rw [h1.1]; exact h.zero h0
  · obtain ⟨a1, a2, a3, a4, a5⟩ := h.man h0
    rw [h1.1, h1.2, (h2 h0).1, (h2 h0).2]
    exact ⟨a1, a2, a3, a4, a5⟩
theorem crash_dryF {d : Disk} {n s : Str} (keeps : List Int) (h1 : has d.Files n = true) (h2 : fileAt d.Files n = ⟨n, s, []⟩) : Stays d (crashM d keeps) n := by
  obtain ⟨c1, c2⟩ := crash_at d keeps n
  obtain ⟨k, e⟩ := c2 h1
  rw [h2] at e
  exact ⟨c1, by rw [e, h2]; simp⟩
theorem crash_none {d : Disk} {n : Str} (keeps : List Int) (h : has d.Files n = false) : Stays d (crashM d keeps) n := by
  have c1 := (crash_at d keeps n).1
  exact ⟨c1, by rw [fileAt_none h, fileAt_none (c1.trans h)]⟩
theorem KBase.crash {d : Disk} {f r : Nat} {B : State} (h : KBase d f r B) (keeps : List Int) : KBase (crashM d keeps) f r B := by
  by_cases h0 : r = 0
  · exact h.stays (crash_none keeps (h.zero h0).2.1) (fun x => absurd h0 x)
  · obtain ⟨a1, a2, a3, a4, a5⟩ := h.man h0
    exact h.stays (crash_dryF keeps a1 a2) (fun _ => crash_dryF keeps a3 a4)
theorem seal_le (t : Str) : t.length ≤ (sealM t).length := by unfold sealM textM; simp only [List.length_append]; omega
theorem KBase.open {d : Disk} {f r : Nat} {B : State} (h : KBase d f r B) (hdb : DB d) : manOf d = ((f : Int), (r : Int), 0) ∧ basedM d (r : Int) = (B, 0) := by
  have hf := h.f1
  have hr := h.r1
  by_cases h0 : r = 0
  · obtain ⟨a1, a2, a3⟩ := h.zero h0
    subst a1 h0 a3
    unfold manOf basedM
    rw [read_not a2]
    exact ⟨rfl, rfl⟩
  · obtain ⟨a1, a2, a3, a4, a5⟩ := h.man h0
    have hsz := db_at hdb (runNm r)
    constructor
    · unfold manOf
      rw [read_has a1, a2, if_pos rfl]
      simp only [List.append_nil]
      exact takeMan_manif (by omega) (by omega)
    · unfold basedM loadM
      rw [if_neg (by omega), read_has a3, a4]
      rw [a4] at hsz
      unfold fsize at hsz
      have hb : (bytesR (pairsM B)).1 = sealM (numS (pairsM B).length ++ pBytes (pairsM B)) := by unfold bytesR; rw [if_pos a5]
      have hl := seal_le (numS (pairsM B).length ++ pBytes (pairsM B))
      rw [← hb] at hl
      have ht := takeR_bytes a5 (by simp only [List.length_nil] at hsz; omega)
      simp only [List.append_nil, ne_eq, not_true_eq_false, if_false]
      rw [ht]
      simp only [ne_eq, not_true_eq_false, if_false]
      exact back_pairs h.tok

/-! ### The disk of a store -/
structure KDisk (d : Disk) (b r : Nat) (pre : List (List Str)) (cur : List Str) (tl : Str) (S : State) : Prop where
  base : ∃ B, KBase d (b + 1) r B ∧ recsM (pre.flatten ++ cur) B = some S
  log : KLog b d pre cur tl
  safe : (sealAll cur).length ≤ (fileAt d.Files (nm (b + pre.length + 1))).Safe.length
  tok : TokOk S
  nil : has d.Files [] = false
theorem recs_app (l m : List Str) : ∀ s : State, recsM (l ++ m) s = (recsM l s).bind fun t => recsM m t := by
  induction l with
  | nil => intro s; rfl
  | cons r l ih =>
    intro s
    show (if (takeBt r).2 ≠ 0 then none else recsM (l ++ m) (doB s (takeBt r).1).1) = (if (takeBt r).2 ≠ 0 then none else recsM l (doB s (takeBt r).1).1).bind fun t => recsM m t
    split
    · rfl
    · exact ih _
theorem recs_one {s : State} {b : Batch} (h : mayB b = true) : recsM [(bytesB b).1] s = some (doB s b).1 := by
  unfold recsM
  rw [takeB_bytes h]
  rfl
/-- A record that is appended to the segment that is written. -/
theorem KDisk.append {d : Disk} {b r : Nat} {pre : List (List Str)} {cur : List Str} {S : State} (h : KDisk d b r pre cur [] S) (hoff : d.Off = false) {s : Str} (hs : s.length ≤ 2048) {S2 : State} (hS : recsM [s] S = some S2) (ht : TokOk S2) :
    let p := appendM d (nm (b + pre.length + 1)) (sealM s)
    (p.2 = 0 → p.1.Off = false ∧ has p.1.Files (nm (b + pre.length + 1)) = true ∧ KLog b p.1 pre (cur ++ [s]) [] ∧ (∃ B, KBase p.1 (b + 1) r B ∧ recsM (pre.flatten ++ (cur ++ [s])) B = some S2) ∧ has p.1.Files [] = false) ∧
    (p.2 ≠ 0 → ∃ tl, KDisk p.1 b r pre cur tl S ∧ (p.2 ≠ 6 → tl = [] ∧ p.1.Off = false)) := by
  intro p
  have hap : ∀ n, n ≠ nm (b + pre.length + 1) → Stays d p.1 n := fun n hn => append_apart hn
  have hsg := h.log.seg
  have hnil : has p.1.Files [] = false := by rw [(hap _ (nm_nil hsg)).1]; exact h.nil
  obtain ⟨B, hB, hr⟩ := h.base
  have hB2 : KBase p.1 (b + 1) r B := hB.stays (hap _ (nm_m _)) (fun h0 => hap _ (run_nm (by have := hB.r1; omega) _))
  rcases h.log.append hoff hs with ⟨a1, a2, a3⟩ | ⟨a0, ⟨a1, a2, a3⟩ | ⟨a1, ⟨tl, a2⟩, a3⟩⟩
  · exact ⟨fun h0 => absurd h0 a2, fun _ => ⟨[], by rw [show p.1 = d from a1]; exact h, fun _ => ⟨rfl, by rw [show p.1 = d from a1]; exact hoff⟩⟩⟩
  · refine ⟨fun _ => ⟨a3, (append_good a1).1, a2, ⟨B, hB2, ?_⟩, hnil⟩, fun h0 => absurd a1 h0⟩
    rw [← List.append_assoc, recs_app, hr]
    exact hS
  · exact ⟨fun h0 => absurd (a1.symm.trans h0) (by decide), fun _ => ⟨tl, ⟨⟨B, hB2, hr⟩, a2, by rw [a0]; exact h.safe, h.tok, hnil⟩, fun h6 => absurd a1 h6⟩⟩
/-- Nothing waits, where no tail is. -/
theorem KDisk.dry {d : Disk} {b r : Nat} {pre : List (List Str)} {cur : List Str} {S : State} (h : KDisk d b r pre cur [] S) : (fileAt d.Files (nm (b + pre.length + 1))).Wait = [] := by
  have e := congrArg List.length h.log.now
  have := h.safe
  rw [List.length_append, List.append_nil] at e
  exact List.length_eq_zero_iff.1 (by omega)
theorem KDisk.synced {d : Disk} {b r : Nat} {pre : List (List Str)} {cur : List Str} {S : State} (hl : KLog b d pre cur []) (hB : ∃ B, KBase d (b + 1) r B ∧ recsM (pre.flatten ++ cur) B = some S) (ht : TokOk S) (hn : has d.Files [] = false) (hoff : d.Off = false) (hh : has d.Files (nm (b + pre.length + 1)) = true) :
    (syncM d (nm (b + pre.length + 1))).2 = 0 ∧ KDisk (syncM d (nm (b + pre.length + 1))).1 b r pre cur [] S ∧ (syncM d (nm (b + pre.length + 1))).1.Off = false ∧ has (syncM d (nm (b + pre.length + 1))).1.Files (nm (b + pre.length + 1)) = true := by
  obtain ⟨y1, y2, y3, y4, y5⟩ := hl.sync hoff hh
  obtain ⟨B, hB, hr⟩ := hB
  have hap : ∀ n, n ≠ nm (b + pre.length + 1) → Stays d (syncM d (nm (b + pre.length + 1))).1 n := fun n hn => sync_apart hn
  refine ⟨y1, ⟨⟨B, hB.stays (hap _ (nm_m _)) (fun h0 => hap _ (run_nm (by have := hB.r1; omega) _)), hr⟩, y2, by rw [y5]; simp, ht, ?_⟩, y3, y4⟩
  rw [(hap _ (nm_nil hl.seg)).1]; exact hn
theorem KDisk.next {d : Disk} {b r : Nat} {pre : List (List Str)} {cur : List Str} {S : State} (h : KDisk d b r pre cur [] S) (hh : has d.Files (nm (b + pre.length + 1)) = true) (hf : b + pre.length + 2 ≤ 1000000) : KDisk d b r (pre ++ [cur]) [] [] S := by
  have hn := h.log.next hh h.dry hf
  obtain ⟨B, hB, hr⟩ := h.base
  exact ⟨⟨B, hB, by simpa using hr⟩, hn.1, by simp [sealAll], h.tok, h.nil⟩
theorem KDisk.put {d : Disk} {b r : Nat} {pre : List (List Str)} {cur : List Str} {S : State} (h : KDisk d b r pre cur [] S) (hoff : d.Off = false) (s : Str) {S2 : State} (hS : recsM [s] S = some S2) (ht : TokOk S2) :
    let p := wputM d ((b + pre.length + 1 : Nat) : Int) s
    (p.2.2 = 0 → (wsyncM p.1 p.2.1).2 = 0 ∧ ∃ pre2 cur2, KDisk (wsyncM p.1 p.2.1).1 b r pre2 cur2 [] S2 ∧ p.2.1 = ((b + pre2.length + 1 : Nat) : Int) ∧ (wsyncM p.1 p.2.1).1.Off = false) ∧
    (p.2.2 ≠ 0 → ∃ pre2 cur2 tl, KDisk p.1 b r pre2 cur2 tl S ∧ (p.2.2 ≠ 6 → tl = [] ∧ p.2.1 = ((b + pre2.length + 1 : Nat) : Int) ∧ p.1.Off = false)) := by
  have hmay := h.log.may
  have hsg := h.log.seg
  -- the append itself
  have app : ∀ {d : Disk} {pre : List (List Str)} {cur : List Str}, KDisk d b r pre cur [] S → d.Off = false → s.length ≤ 2048 →
      let p := appendM d (nm (b + pre.length + 1)) (sealM s)
      (p.2 = 0 → (wsyncM p.1 ((b + pre.length + 1 : Nat) : Int)).2 = 0 ∧ ∃ pre2 cur2, KDisk (wsyncM p.1 ((b + pre.length + 1 : Nat) : Int)).1 b r pre2 cur2 [] S2 ∧ b + pre.length + 1 = b + pre2.length + 1 ∧ (wsyncM p.1 ((b + pre.length + 1 : Nat) : Int)).1.Off = false) ∧
      (p.2 ≠ 0 → ∃ pre2 cur2 tl, KDisk p.1 b r pre2 cur2 tl S ∧ (p.2 ≠ 6 → tl = [] ∧ b + pre.length + 1 = b + pre2.length + 1 ∧ p.1.Off = false)) := by
    intro d pre cur h hoff hs p
    obtain ⟨g1, g2⟩ := h.append hoff hs hS ht
    constructor
    · intro h0
      obtain ⟨k1, k2, k3, k4, k5⟩ := g1 h0
      obtain ⟨s1, s2, s3, s4⟩ := KDisk.synced k3 k4 ht k5 k1 k2
      have e : wsyncM p.1 ((b + pre.length + 1 : Nat) : Int) = syncM p.1 (nm (b + pre.length + 1)) := by unfold wsyncM; rw [if_neg (by simp; exact k2)]
      rw [e]
      exact ⟨s1, pre, cur ++ [s], s2, rfl, s3⟩
    · intro h0
      obtain ⟨tl, k1, k2⟩ := g2 h0
      exact ⟨pre, cur, tl, k1, fun h6 => ⟨(k2 h6).1, rfl, (k2 h6).2⟩⟩
  intro p
  have hp : p = wputM d ((b + pre.length + 1 : Nat) : Int) s := rfl
  clear_value p
  unfold wputM at hp
  rw [if_neg (by rw [hmay]; simp)] at hp
  by_cases hr : 2048 < s.length
  · rw [if_pos hr] at hp
    subst hp
    exact ⟨fun h0 => absurd h0 (by simp), fun _ => ⟨pre, cur, [], h, fun _ => ⟨rfl, rfl, hoff⟩⟩⟩
  rw [if_neg hr] at hp
  have hs : s.length ≤ 2048 := by omega
  by_cases h9 : 256 ≤ (readM d (nameM ((b + pre.length + 1 : Nat) : Int))).1.length
  · rw [if_pos h9] at hp
    have hh : has d.Files (nm (b + pre.length + 1)) = true := by
      cases hx : has d.Files (nm (b + pre.length + 1)) with
      | true => rfl
      | false => rw [read_not hx] at h9; simp at h9
    obtain ⟨s1, s2, s3, s4⟩ := KDisk.synced h.log h.base h.tok h.nil hoff hh
    rw [if_neg (show ¬ (syncM d (nameM ((b + pre.length + 1 : Nat) : Int))).2 ≠ 0 from fun x => x s1)] at hp
    by_cases hm2 : mayM (((b + pre.length + 1 : Nat) : Int) + 1) = false
    · rw [if_pos hm2] at hp
      subst hp
      exact ⟨fun h0 => absurd h0 (by simp), fun _ => ⟨pre, cur, [], s2, fun _ => ⟨rfl, rfl, s3⟩⟩⟩
    · rw [if_neg hm2] at hp
      have hm3 := mayM_iff.1 (show mayM (((b + pre.length + 1 : Nat) : Int) + 1) = true by simpa using hm2)
      have hn := s2.next s4 (by omega)
      have hl : b + (pre ++ [cur]).length + 1 = b + pre.length + 2 := by simp; omega
      have e : (((b + pre.length + 1 : Nat) : Int) + 1) = ((b + (pre ++ [cur]).length + 1 : Nat) : Int) := by rw [hl]; omega
      rw [e] at hp
      subst hp
      obtain ⟨g1, g2⟩ := app hn s3 hs
      constructor
      · intro h0
        obtain ⟨k1, p2, c2, k2, k3, k4⟩ := g1 h0
        exact ⟨k1, p2, c2, k2, by simp only; rw [k3], k4⟩
      · intro h0
        obtain ⟨p2, c2, tl, k1, k2⟩ := g2 h0
        exact ⟨p2, c2, tl, k1, fun h6 => ⟨(k2 h6).1, by simp only; rw [(k2 h6).2.1], (k2 h6).2.2⟩⟩
  · rw [if_neg h9] at hp
    subst hp
    obtain ⟨g1, g2⟩ := app h hoff hs
    constructor
    · intro h0
      obtain ⟨k1, p2, c2, k2, k3, k4⟩ := g1 h0
      exact ⟨k1, p2, c2, k2, by simp only; rw [k3], k4⟩
    · intro h0
      obtain ⟨p2, c2, tl, k1, k2⟩ := g2 h0
      exact ⟨p2, c2, tl, k1, fun h6 => ⟨(k2 h6).1, by simp only; rw [(k2 h6).2.1], (k2 h6).2.2⟩⟩

theorem KDisk.crash {d : Disk} {b r : Nat} {pre : List (List Str)} {cur : List Str} {tl : Str} {S : State} (h : KDisk d b r pre cur tl S) (keeps : List Int) :
    ∃ tl2, KDisk (crashM d keeps) b r pre cur tl2 S ∧ (tl = [] → tl2 = []) ∧ (fileAt (crashM d keeps).Files (nm (b + pre.length + 1))).Wait = [] := by
  obtain ⟨j, q, h1, h2, h3, h4⟩ := h.log.crash keeps
  have hj : j = cur.length := by
    have := h4 cur.length (Nat.le_refl _) (by rw [List.take_length]; exact h.safe)
    omega
  subst hj
  rw [List.take_length] at h2
  obtain ⟨B, hB, hr⟩ := h.base
  refine ⟨q, ⟨⟨B, hB.crash keeps, hr⟩, h2, ?_, h.tok, by rw [(crash_at d keeps []).1]; exact h.nil⟩, fun ht => ?_, h3⟩
  · have e := congrArg List.length h2.now
    rw [h3, List.append_nil, List.length_append] at e
    omega
  · subst ht
    have e := h2.now
    rw [h3, List.append_nil] at e
    cases hh : has d.Files (nm (b + pre.length + 1)) with
    | true =>
      obtain ⟨k, c2⟩ := (crash_at d keeps (nm (b + pre.length + 1))).2 hh
      have e0 := h.log.now
      rw [h.dry, List.append_nil, List.append_nil] at e0
      rw [c2, h.dry, e0] at e
      simpa using e.symm
    | false =>
      obtain ⟨rfl, _⟩ := h.log.out hh
      have c1 := (crash_at d keeps (nm (b + pre.length + 1))).1
      rw [hh] at c1
      rw [fileAt_none c1] at e
      simpa [noFile, sealAll] using e.symm
theorem nmI (k : Int) : nameM k = [] ∨ ∃ l, nameM k = 119 :: l := by
  unfold nameM; split
  · exact .inr ⟨_, rfl⟩
  · exact .inl rfl
theorem m_nmI (k : Int) : ([109] : Str) ≠ nameM k := by
  rcases nmI k with h | ⟨l, h⟩ <;> rw [h] <;> simp
theorem run_nmI {n : Nat} (h : 1 ≤ n ∧ n ≤ 1000000) (k : Int) : runNm (n : Int) ≠ nameM k := by
  rw [run_some h]
  rcases nmI k with h | ⟨l, h⟩ <;> rw [h] <;> simp
/-- What a store's disk is opened to. -/
theorem KDisk.open {d : Disk} {b r : Nat} {pre : List (List Str)} {cur : List Str} {tl : Str} {S : State} (h : KDisk d b r pre cur tl S) (hoff : d.Off = false) (hfuse : d.Fuse = -1) (hw : (fileAt d.Files (nm (b + pre.length + 1))).Wait = []) :
    (tl ≠ [] ∧ (openK d).2 = 5) ∨ ∃ (d2 : Disk) (pre2 : List (List Str)) (cur2 : List Str), openK d = (⟨d2, ((b + 1 : Nat) : Int), ((b + pre2.length + 1 : Nat) : Int), (r : Int), S, false⟩, 0) ∧
      openK d2 = (⟨d2, ((b + 1 : Nat) : Int), ((b + pre2.length + 1 : Nat) : Int), (r : Int), S, false⟩, 0) ∧ KDisk d2 b r pre2 cur2 [] S ∧ d2.Off = false := by
  obtain ⟨B, hB, hr⟩ := h.base
  have op : ∀ (x y : Disk) (l : List Str) (seg : Int), KBase x (b + 1) r B → DB x → recsM l B = some S → recoverM x ((b + 1 : Nat) : Int) = (y, l, seg, 0) → openK x = (⟨y, ((b + 1 : Nat) : Int), seg, (r : Int), S, false⟩, 0) := by
    intro x y l seg kx dx hl hrec
    obtain ⟨o1, o2⟩ := kx.open dx
    unfold openK
    simp only [o1, o2, hrec, hl]
    simp
  rcases recover_lasts h.log hoff hfuse hw with ⟨ht, h5⟩ | ⟨d2, pre2, cur2, r1, r2, r3, r4, r5, r6, r7, r8, r9⟩
  · refine .inl ⟨ht, ?_⟩
    obtain ⟨o1, o2⟩ := hB.open h.log.db
    unfold openK
    simp only [o1, o2, h5]
    simp
  · have hB2 : KBase d2 (b + 1) r B := hB.stays (r8 _ (by decide) m_nmI) (fun h0 => r8 _ (run_new (by have := hB.r1; omega)) (run_nmI (by have := hB.r1; omega)))
    refine .inr ⟨d2, pre2, cur2, op d d2 _ _ hB h.log.db hr r1, op d2 d2 _ _ hB2 r3.db hr r2, ⟨⟨B, hB2, by rw [r4]; exact hr⟩, r3, ?_, h.tok, r9 h.nil⟩, r6⟩
    have e := congrArg List.length r3.now
    rw [r7, List.append_nil, List.append_nil] at e
    omega

/-! ### Power -/
/-- Whether it is said that the power is gone is whether it is. -/
structure Pw (p : Disk × Int) : Prop where
  eq : p.1.Off = decide (p.2 = 6)
theorem Pw.off {p : Disk × Int} (h : Pw p) (h6 : p.2 ≠ 6) : p.1.Off = false := by rw [h.eq, decide_eq_false h6]
theorem pw_append {d : Disk} (name s : Str) (hoff : d.Off = false) : Pw (appendM d name s) := by
  rcases append_cases d name s hoff with ⟨h1, h2, h3⟩ | ⟨k, _, _, _, h3, h4, _⟩
  · exact ⟨by rw [h1, hoff, decide_eq_false h3]⟩
  · refine ⟨?_⟩
    rw [h3, h4]
    by_cases c : k < s.length
    · rw [if_pos c, decide_eq_true c]; rfl
    · rw [if_neg c, decide_eq_false c]; rfl
theorem pw_sync {d : Disk} (name : Str) (hoff : d.Off = false) : Pw (syncM d name) := by
  unfold syncM
  rw [if_neg (by simp [hoff])]
  split
  · exact ⟨by simp [hoff]⟩
  · exact ⟨by simp [hoff]⟩
theorem pw_delete {d : Disk} (name : Str) (hoff : d.Off = false) : Pw (deleteM d name) := by
  unfold deleteM
  rw [if_neg (by simp [hoff])]
  split
  · exact ⟨by simp [hoff]⟩
  · unfold powerM
    by_cases hf : d.Fuse = 0
    · rw [if_pos hf]; exact ⟨by simp⟩
    · rw [if_neg hf]; exact ⟨by simp [lessM, hoff]⟩
theorem pw_rename {d : Disk} (a c : Str) (hoff : d.Off = false) : Pw (renameM d a c) := by
  unfold renameM
  rw [if_neg (by simp [hoff])]
  split
  · exact ⟨by simp [hoff]⟩
  split
  · exact ⟨by simp [hoff]⟩
  split
  · exact ⟨by simp [hoff]⟩
  · unfold powerM
    by_cases hf : d.Fuse = 0
    · rw [if_pos hf]; exact ⟨by simp⟩
    · rw [if_neg hf]
      refine ⟨?_⟩
      simp only [Bool.true_eq_false, if_false]
      rw [(lost_fuse _ _).2]
      simp [hoff]
theorem pw_clear {d : Disk} (fr : Str) (hoff : d.Off = false) : Pw (clearM d fr) := by
  unfold clearM; split
  · exact pw_delete fr hoff
  · exact ⟨by simp [hoff]⟩
theorem pw_gone {d : Disk} (n : Str) (hoff : d.Off = false) : Pw (goneK d n) := by
  unfold goneK; split
  · exact pw_delete n hoff
  · exact ⟨by simp [hoff]⟩
theorem pw_lay {d : Disk} (name s : Str) (hoff : d.Off = false) : Pw (layM d name s) := by
  have h1 := pw_clear (frN name) hoff
  have h2 : Pw (lay2 d (frN name) s) := by
    unfold lay2; split
    · exact h1
    · rename_i c; exact pw_append _ _ (h1.off (by have : (clearM d (frN name)).2 = 0 := by simpa using c
                                                  rw [this]; decide))
  have h3 : Pw (lay3 d (frN name) s) := by
    unfold lay3; split
    · exact h2
    · rename_i c; exact pw_sync _ (h2.off (by have : (lay2 d (frN name) s).2 = 0 := by simpa using c
                                              rw [this]; decide))
  unfold layM; split
  · exact h3
  · rename_i c; exact pw_rename _ _ (h3.off (by have : (lay3 d (frN name) s).2 = 0 := by simpa using c
                                                rw [this]; decide))
theorem pw_drop (to : Int) (m : Nat) : ∀ {d : Disk} (hoff : d.Off = false) (k : Int), Pw (dropT to m d k) := by
  induction m with
  | zero => intro d hoff k; exact ⟨by simp [dropT, hoff]⟩
  | succ m ih =>
    intro d hoff k
    have h := pw_delete (nameM k) hoff
    unfold dropT
    split
    · exact ⟨by simp [hoff]⟩
    split
    · exact ih hoff _
    split
    · exact h
    · rename_i c; exact ih (h.off (by have : (deleteM d (nameM k)).2 = 0 := by simpa using c
                                      rw [this]; decide)) _

theorem KLog.stays {d d2 : Disk} {b : Nat} {pre : List (List Str)} {cur : List Str} {tl : Str} (h : KLog b d pre cur tl) (hd : DB d2) (h1 : ∀ n, cnt d2.Files n ≤ 1) (h2 : Stays d d2 newN) (h3 : ∀ k, b < k → k ≤ 1000000 → Stays d d2 (nm k)) : KLog b d2 pre cur tl := by
  have hf := h.few
  have hc := h3 (b + pre.length + 1) (by omega) (by omega)
  refine ⟨hd, hf, h1, by rw [h2.1]; exact h.new, fun k hk hk2 => ?_, fun i s hi => ?_, by rw [hc.2]; exact h.now, by rw [hc.2]; exact h.size, h.tail, h.small, h.small2⟩
  · rw [(h3 k (by omega) hk2).1]; exact h.none k hk hk2
  · have hlt := lt_of_at hi
    have := h3 (b + i + 1) (by omega) (by omega)
    rw [this.1, this.2]; exact h.old i s hi
theorem KDisk.stays {d d2 : Disk} {b r : Nat} {pre : List (List Str)} {cur : List Str} {tl : Str} {S : State} (h : KDisk d b r pre cur tl S) (hd : DB d2) (h1 : ∀ n, cnt d2.Files n ≤ 1) (h2 : Stays d d2 newN) (h3 : ∀ k, b < k → k ≤ 1000000 → Stays d d2 (nm k))
    (h4 : Stays d d2 [109]) (h5 : r ≠ 0 → Stays d d2 (runNm (r : Int))) (h6 : has d2.Files [] = false) : KDisk d2 b r pre cur tl S := by
  obtain ⟨B, hB, hr⟩ := h.base
  have hf := h.log.few
  exact ⟨⟨B, hB.stays h4 h5, hr⟩, h.log.stays hd h1 h2 h3, by rw [(h3 (b + pre.length + 1) (by omega) (by omega)).2]; exact h.safe, h.tok, h6⟩
theorem dropT_apart2 (to : Int) (n : Str) (m : Nat) : ∀ (d : Disk) (k : Int), (∀ j, k ≤ j → j < to → nameM j ≠ n) → Stays d (dropT to m d k).1 n := by
  induction m with
  | zero => intro d k h; exact ⟨rfl, rfl⟩
  | succ m ih =>
    intro d k h
    unfold dropT
    split
    · exact ⟨rfl, rfl⟩
    · rename_i hk
      have hne : n ≠ nameM k := fun e => h k (by omega) (by omega) e.symm
      have hd : Stays d (deleteM d (nameM k)).1 n := delete_apart hne
      split
      · exact ih d (k + 1) (fun j h1 h2 => h j (by omega) h2)
      · split
        · exact hd
        · exact hd.trans (ih (deleteM d (nameM k)).1 (k + 1) (fun j h1 h2 => h j (by omega) h2))
theorem dropT_cnt (to : Int) (n : Str) (m : Nat) : ∀ (d : Disk) (k : Int), cnt (dropT to m d k).1.Files n ≤ cnt d.Files n := by
  induction m with
  | zero => intro d k; exact Nat.le_refl _
  | succ m ih =>
    intro d k
    have g := (delete_cnt d (nameM k) n).1
    unfold dropT
    split
    · exact Nat.le_refl _
    split
    · exact ih _ _
    split
    · exact g
    · exact Nat.le_trans (ih _ _) g
theorem dropT_gone (to : Int) (m : Nat) : ∀ (d : Disk) (k : Int), (∀ n, cnt d.Files n ≤ 1) → to ≤ k + m → (dropT to m d k).2 = 0 → ∀ j, k ≤ j → j < to → has (dropT to m d k).1.Files (nameM j) = false := by
  induction m with
  | zero => intro d k h1 h2 h3 j h4 h5; omega
  | succ m ih =>
    intro d k h1 h2 h3 j h4 h5
    unfold dropT at h3 ⊢
    rw [if_neg (by omega)] at h3 ⊢
    by_cases c : has d.Files (nameM k) = false
    · rw [if_pos c] at h3 ⊢
      by_cases hj : j = k
      · subst hj
        have := dropT_cnt to (nameM j) m d (j + 1)
        rw [has_cnt.1 c] at this
        exact has_cnt.2 (by omega)
      · exact ih d (k + 1) h1 (by omega) h3 j (by omega) h5
    · rw [if_neg c] at h3 ⊢
      by_cases c2 : (deleteM d (nameM k)).2 ≠ 0
      · rw [if_pos c2] at h3; exact absurd h3 c2
      · rw [if_neg c2] at h3 ⊢
        have hd := delete_cnt d (nameM k)
        have h1' : ∀ n, cnt (deleteM d (nameM k)).1.Files n ≤ 1 := fun n => Nat.le_trans (hd n).1 (h1 n)
        by_cases hj : j = k
        · subst hj
          have e := (hd (nameM j)).2 (by simpa using c2) rfl
          have := dropT_cnt to (nameM j) m (deleteM d (nameM j)).1 (j + 1)
          have := h1 (nameM j)
          exact has_cnt.2 (by omega)
        · exact ih _ (k + 1) h1' (by omega) h3 j (by omega) h5
theorem KDisk.old {d : Disk} {b r : Nat} {from_ : Nat} {S : State} {pre : List (List Str)} {cur : List Str} (h : KDisk d b (r + 1) pre cur [] S) (hoff : d.Off = false) (hr : r + 1 ≤ 1000000) (hf : 1 ≤ from_) (hb : b + 1 ≤ 1000000) :
    let p := oldK d (r : Int) (from_ : Int) ((b + 1 : Nat) : Int)
    KDisk p.1 b (r + 1) pre cur [] S ∧ Pw p ∧ (p.2 = 0 → has p.1.Files (runNm (r : Int)) = false ∧ ∀ j : Int, (from_ : Int) ≤ j → j < ((b + 1 : Nat) : Int) → has p.1.Files (nameM j) = false) := by
  intro p
  have hgs : ∀ n, n ≠ runNm (r : Int) → Stays d (goneK d (runNm (r : Int))).1 n := by
    intro n hn
    unfold goneK; split
    · exact delete_apart hn
    · exact Stays.refl _ _
  have hgc : ∀ n, cnt (goneK d (runNm (r : Int))).1.Files n ≤ cnt d.Files n := by
    intro n
    unfold goneK; split
    · exact (delete_cnt d _ n).1
    · exact Nat.le_refl _
  have hr0 : r = 0 → runNm (r : Int) = [] := by
    intro h0; subst h0; rfl
  have hnil : has (goneK d (runNm (r : Int))).1.Files [] = false := has_cnt.2 (by have := hgc []; rw [has_cnt.1 h.nil] at this; omega)
  have hrr : ∀ n : Str, n ≠ [] → (∀ l, n ≠ 114 :: l) → n ≠ runNm (r : Int) := by
    intro n h1 h2 e
    rcases run_head (r : Int) with g | ⟨l, g⟩
    · exact h1 (e.trans g)
    · exact h2 l (e.trans g)
  have hne : runNm ((r + 1 : Nat) : Int) ≠ runNm (r : Int) := by
    by_cases h0 : r = 0
    · rw [hr0 h0]; exact (run_nil (by omega)).symm
    · exact run_inj (by omega) (by omega) (by omega)
  have k1 : KDisk (goneK d (runNm (r : Int))).1 b (r + 1) pre cur [] S := by
    refine h.stays (gone_db h.log.db _) (fun n => Nat.le_trans (hgc n) (h.log.one n)) (hgs _ (hrr _ (by decide) (by intro l; simp [newN]))) (fun k h1 h2 => hgs _ ?_) (hgs _ (run_m _)) (fun _ => hgs _ hne) hnil
    refine hrr _ (nm_nil (by omega)).symm (fun l => ?_)
    rcases nm_head k with g | ⟨l2, g⟩ <;> rw [g] <;> simp
  have p1 := pw_gone (runNm (r : Int)) hoff
  have hp : p = oldK d (r : Int) (from_ : Int) ((b + 1 : Nat) : Int) := rfl
  clear_value p
  unfold oldK at hp
  by_cases c : (goneK d (runNm (r : Int))).2 ≠ 0
  · rw [if_pos c] at hp
    subst hp
    exact ⟨k1, p1, fun h0 => absurd h0 c⟩
  rw [if_neg c] at hp
  have c0 : (goneK d (runNm (r : Int))).2 = 0 := by simpa using c
  have o1 := p1.off (by rw [c0]; decide)
  have hg : has (goneK d (runNm (r : Int))).1.Files (runNm (r : Int)) = false := by
    unfold goneK at c0 ⊢
    by_cases hh : has d.Files (runNm (r : Int)) = true
    · rw [if_pos hh] at c0 ⊢
      have := (delete_cnt d (runNm (r : Int)) (runNm (r : Int))).2 c0 rfl
      have := h.log.one (runNm (r : Int))
      exact has_cnt.2 (by omega)
    · rw [if_neg hh]; simpa using hh
  generalize (goneK d (runNm (r : Int))).1 = e at *
  unfold wdropM at hp
  rw [if_neg (show ¬ (from_ : Int) < 1 by omega)] at hp
  have hcn := fun n => dropT_cnt ((b + 1 : Nat) : Int) n (1000001 - (from_ : Int)).toNat e (from_ : Int)
  have hap := fun n => dropT_apart2 ((b + 1 : Nat) : Int) n (1000001 - (from_ : Int)).toNat e (from_ : Int)
  have hdb := dropT_db ((b + 1 : Nat) : Int) (1000001 - (from_ : Int)).toNat k1.log.db (from_ : Int)
  have hpw := pw_drop ((b + 1 : Nat) : Int) (1000001 - (from_ : Int)).toNat o1 (from_ : Int)
  have hgn := dropT_gone ((b + 1 : Nat) : Int) (1000001 - (from_ : Int)).toNat e (from_ : Int) k1.log.one (by omega)
  rw [← hp] at hcn hap hdb hpw hgn
  refine ⟨k1.stays hdb (fun n => Nat.le_trans (hcn n) (k1.log.one n)) (hap _ fun j _ _ => nameM_new j) (fun k h1 h2 => hap _ fun j h3 h4 => ?_) (hap _ fun j _ _ => (m_nmI j).symm) (fun _ => hap _ fun j _ _ => (run_nmI (by omega) j).symm) ?_, hpw, fun h0 => ⟨?_, hgn h0⟩⟩
  · intro e2
    have := nameM_inj (mayM_iff.2 (by omega)) (mayM_iff.2 (by omega)) e2
    omega
  · have := hcn []
    rw [has_cnt.1 k1.nil] at this
    exact has_cnt.2 (by omega)
  · have := hcn (runNm (r : Int))
    rw [has_cnt.1 hg] at this
    exact has_cnt.2 (by omega)
theorem lay_stays {d : Disk} {name s n : Str} (h1 : n ≠ frN name) (h2 : n ≠ name ∨ (layM d name s).2 ≠ 0) : Stays d (layM d name s).1 n := by
  by_cases c : (layM d name s).2 ≠ 0
  · exact lay_bad h1 c
  · rcases h2 with h2 | h2
    · exact lay_apart h2 h1
    · exact absurd h2 c
theorem nil_stays {d d2 : Disk} (h : Stays d d2 []) (hn : has d.Files [] = false) : has d2.Files [] = false := by rw [h.1]; exact hn
/-- The first of what is laid: the run. -/
theorem KDisk.lay1 {d : Disk} {b r : Nat} {pre : List (List Str)} {cur : List Str} {tl : Str} {S : State} (h : KDisk d b r pre cur tl S) (hr : r + 1 ≤ 1000000) {s : Str} (hs : s.length ≤ 1099511627776) : KDisk (layM d (runNm ((r + 1 : Nat) : Int)) s).1 b r pre cur tl S := by
  have h1 := h.log.one
  refine h.stays (lay_db h.log.db _ _ hs) (fun n => lay_cnt s (h1 _) (h1 _) (h1 n)) (lay_stays (fr_new _) (.inl (run_new (by omega)).symm)) (fun k a1 a2 => lay_stays (fr_nm _ k) (.inl (run_nm (by omega) k).symm)) (lay_stays (fr_m _) (.inl (run_m _)))
    (fun h0 => lay_stays (fr_run _ _) (.inl (run_inj (by omega) (by omega) (by omega)))) (nil_stays (lay_stays (fr_nil _) (.inl (run_nil (by omega)))) h.nil)
/-- The second, where it fails. -/
theorem KDisk.lay2 {d : Disk} {b r : Nat} {pre : List (List Str)} {cur : List Str} {tl : Str} {S : State} (h : KDisk d b r pre cur tl S) {s : Str} (hs : s.length ≤ 1099511627776) (hno : (layM d [109] s).2 ≠ 0) : KDisk (layM d [109] s).1 b r pre cur tl S := by
  have h1 := h.log.one
  exact h.stays (lay_db h.log.db _ _ hs) (fun n => lay_cnt s (h1 _) (h1 _) (h1 n)) (lay_stays (fr_new _) (.inr hno)) (fun k a1 a2 => lay_stays (fr_nm _ k) (.inr hno)) (lay_stays (fr_m _) (.inr hno))
    (fun h0 => lay_stays (fr_run _ _) (.inr hno)) (nil_stays (lay_stays (fr_nil _) (.inr hno)) h.nil)
/-- The second, where it is done: the log begins anew. -/
theorem KDisk.lay3 {d : Disk} {b r : Nat} {pre : List (List Str)} {cur : List Str} {S : State} (h : KDisk d b r pre cur [] S) (hr : r + 1 ≤ 1000000) (hf : b + pre.length + 2 ≤ 1000000) (hm : mayR (pairsM S) = true)
    (hrun : has d.Files (runNm ((r + 1 : Nat) : Int)) = true ∧ fileAt d.Files (runNm ((r + 1 : Nat) : Int)) = ⟨runNm ((r + 1 : Nat) : Int), (bytesR (pairsM S)).1, []⟩)
    (hok : (layM d [109] (manifM ((b + pre.length + 2 : Nat) : Int) ((r + 1 : Nat) : Int))).2 = 0) : KDisk (layM d [109] (manifM ((b + pre.length + 2 : Nat) : Int) ((r + 1 : Nat) : Int))).1 (b + pre.length + 1) (r + 1) [] [] [] S := by
  have h1 := h.log.one
  have hml := manifM_len (f := ((b + pre.length + 2 : Nat) : Int)) (r := ((r + 1 : Nat) : Int)) ⟨by omega, by omega⟩ ⟨by omega, by omega⟩
  have hg := lay_good (h1 _) (h1 _) hok
  have st : ∀ n, n ≠ [109] → n ≠ frN [109] → Stays d (layM d [109] (manifM ((b + pre.length + 2 : Nat) : Int) ((r + 1 : Nat) : Int))).1 n := fun n a1 a2 => lay_stays a2 (.inl a1)
  have hdb := lay_db h.log.db [109] (manifM ((b + pre.length + 2 : Nat) : Int) ((r + 1 : Nat) : Int)) (by omega)
  have hcn : ∀ n, cnt (layM d [109] (manifM ((b + pre.length + 2 : Nat) : Int) ((r + 1 : Nat) : Int))).1.Files n ≤ 1 := fun n => lay_cnt _ (h1 _) (h1 _) (h1 n)
  have sr := st (runNm ((r + 1 : Nat) : Int)) (run_m _).symm (fr_run _ _)
  have sn := fun k => st (nm k) (nm_m k).symm (fr_nm _ k)
  have snw := st newN (by decide) (fr_new _)
  have snil := st [] (by decide) (fr_nil _)
  generalize (layM d [109] (manifM ((b + pre.length + 2 : Nat) : Int) ((r + 1 : Nat) : Int))).1 = e at *
  have hno : has e.Files (nm (b + pre.length + 2)) = false := by rw [(sn _).1]; exact h.log.none _ (by omega) hf
  have hnf := fileAt_none hno
  refine ⟨⟨S, ⟨by omega, by omega, fun h0 => by omega, fun _ => ⟨hg.1, ?_, by rw [sr.1]; exact hrun.1, by rw [sr.2]; exact hrun.2, hm⟩, h.tok⟩, rfl⟩, ⟨hdb, ?_, hcn, by rw [snw.1]; exact h.log.new, fun k a1 a2 => ?_, fun i s hi => by (simp at hi), ?_, ?_, .inl rfl, fun s hs => by (cases hs), fun t ht => by (cases ht)⟩, ?_, h.tok, nil_stays snil h.nil⟩
  · rw [hg.2]
  · simp only [List.length_nil]; omega
  · simp only [List.length_nil] at a1
    rw [(sn k).1]; exact h.log.none k (by omega) a2
  · show (fileAt e.Files (nm (b + pre.length + 2))).Safe ++ (fileAt e.Files (nm (b + pre.length + 2))).Wait = _
    rw [hnf]; rfl
  · show fsize (fileAt e.Files (nm (b + pre.length + 2))) ≤ 65536
    rw [hnf]; decide
  · simp [sealAll]
theorem bytesR_may {l : List Pair} (h : (bytesR l).2 = 0) : mayR l = true := by
  unfold bytesR at h
  split at h
  · assumption
  · simp at h
/-- A CHECK. -/
theorem KDisk.check {x : Store} {b r : Nat} {pre : List (List Str)} {cur : List Str} (h : KDisk x.D b r pre cur [] x.S) (hdn : x.Down = false) (hoff : x.D.Off = false) (hF : x.From = ((b + 1 : Nat) : Int)) (hSg : x.Seg = ((b + pre.length + 1 : Nat) : Int)) (hR : x.Run = (r : Int)) (hl : (pairsM x.S).length ≤ 6100000) :
    (∃ b2 r2 pre2 cur2, KDisk (checkK x).1.D b2 r2 pre2 cur2 [] x.S ∧ ((checkK x).1.Down = false → (checkK x).1.From = ((b2 + 1 : Nat) : Int) ∧ (checkK x).1.Seg = ((b2 + pre2.length + 1 : Nat) : Int) ∧ (checkK x).1.Run = (r2 : Int) ∧ (checkK x).1.D.Off = false)) ∧
    ((checkK x).2 = 0 → (checkK x).1.From = x.Seg + 1 ∧ (checkK x).1.Seg = x.Seg + 1 ∧ (checkK x).1.Run = x.Run + 1 ∧ (checkK x).1.Down = false ∧ has (checkK x).1.D.Files (nameM x.Seg) = false ∧ has (checkK x).1.D.Files (runNm x.Run) = false) := by
  have same : ∀ e : Int, e ≠ 0 → (∃ b2 r2 pre2 cur2, KDisk x.D b2 r2 pre2 cur2 [] x.S ∧ (x.Down = false → x.From = ((b2 + 1 : Nat) : Int) ∧ x.Seg = ((b2 + pre2.length + 1 : Nat) : Int) ∧ x.Run = (r2 : Int) ∧ x.D.Off = false)) :=
    fun e _ => ⟨b, r, pre, cur, h, fun _ => ⟨hF, hSg, hR, hoff⟩⟩
  have hf := h.log.few
  obtain ⟨B, hB, _⟩ := h.base
  have hr1 := hB.r1
  unfold checkK
  rw [if_neg (by simp [hdn])]
  by_cases c2 : 1000000 ≤ x.Seg ∨ 1000000 ≤ x.Run
  · rw [if_pos c2]; exact ⟨same 5 (by decide), fun h0 => absurd h0 (by simp)⟩
  rw [if_neg c2]
  by_cases c3 : (bytesR (pairsM x.S)).2 ≠ 0
  · rw [if_pos c3]; exact ⟨same _ c3, fun h0 => absurd h0 c3⟩
  rw [if_neg c3]
  have hr2 : r + 1 ≤ 1000000 := by omega
  have hf2 : b + pre.length + 2 ≤ 1000000 := by omega
  have hbl := bytesR_len hl
  have eR : x.Run + 1 = ((r + 1 : Nat) : Int) := by omega
  have eS : x.Seg + 1 = ((b + pre.length + 2 : Nat) : Int) := by omega
  have k1 := h.lay1 hr2 hbl
  have p1 := pw_lay (runNm ((r + 1 : Nat) : Int)) (bytesR (pairsM x.S)).1 hoff
  have g1 := lay_good (name := runNm ((r + 1 : Nat) : Int)) (s := (bytesR (pairsM x.S)).1) (h.log.one _) (h.log.one _)
  have hml := manifM_len (f := ((b + pre.length + 2 : Nat) : Int)) (r := ((r + 1 : Nat) : Int)) ⟨by omega, by omega⟩ ⟨by omega, by omega⟩
  unfold lay2K twoL
  rw [eR, eS]
  by_cases c4 : (layM x.D (runNm ((r + 1 : Nat) : Int)) (bytesR (pairsM x.S)).1).2 ≠ 0
  · rw [if_pos c4, if_pos c4]
    exact ⟨⟨b, r, pre, cur, k1, fun hd => ⟨hF, hSg, hR, p1.off (by simpa using hd)⟩⟩, fun h0 => absurd h0 c4⟩
  rw [if_neg c4]
  have c4' : (layM x.D (runNm ((r + 1 : Nat) : Int)) (bytesR (pairsM x.S)).1).2 = 0 := by simpa using c4
  have o1 := p1.off (by rw [c4']; decide)
  have g1 := g1 c4'
  generalize (layM x.D (runNm ((r + 1 : Nat) : Int)) (bytesR (pairsM x.S)).1).1 = d1 at *
  have p2 := pw_lay [109] (manifM ((b + pre.length + 2 : Nat) : Int) ((r + 1 : Nat) : Int)) o1
  by_cases c5 : (layM d1 [109] (manifM ((b + pre.length + 2 : Nat) : Int) ((r + 1 : Nat) : Int))).2 ≠ 0
  · rw [if_pos c5]
    exact ⟨⟨b, r, pre, cur, k1.lay2 (by omega) c5, fun hd => ⟨hF, hSg, hR, p2.off (by simpa using hd)⟩⟩, fun h0 => absurd h0 c5⟩
  rw [if_neg c5]
  have c5' : (layM d1 [109] (manifM ((b + pre.length + 2 : Nat) : Int) ((r + 1 : Nat) : Int))).2 = 0 := by simpa using c5
  have k2 := k1.lay3 hr2 hf2 (bytesR_may (by simpa using c3)) g1 c5'
  have o2 := p2.off (by rw [c5']; decide)
  generalize (layM d1 [109] (manifM ((b + pre.length + 2 : Nat) : Int) ((r + 1 : Nat) : Int))).1 = d2 at *
  obtain ⟨k3, p3, g3⟩ := k2.old (from_ := b + 1) o2 hr2 (by omega) (by omega)
  rw [hR, hF]
  refine ⟨⟨b + pre.length + 1, r + 1, [], [], k3, fun hd => ⟨rfl, by simp; omega, rfl, p3.off (of_decide_eq_false hd)⟩⟩, fun h0 => ?_⟩
  obtain ⟨a1, a2⟩ := g3 h0
  exact ⟨rfl, rfl, rfl, decide_eq_false (fun e6 => absurd (h0.symm.trans e6) (by decide)), by rw [hSg]; exact a2 _ (by omega) (by omega), a1⟩

/-- A loop, by what holds at each round. -/
theorem rounds_loop {σ ρ : Type} (step : σ → Option (σ ⊕ ρ)) (I : Nat → σ → Prop) (Q : ρ → Prop) (N : Nat)
    (hs : ∀ k s, k < N → I k s → (∃ s', step s = some (.inl s') ∧ I (k + 1) s') ∨ (∃ r, step s = some (.inr r) ∧ Q r)) (hend : ∀ s, I N s → ∃ r, step s = some (.inr r) ∧ Q r) {s : σ} (h : I 0 s) : ∃ r, loop step s = some r ∧ Q r := by
  have key : ∀ (m k : Nat) (s : σ), k + m = N → I k s → ∃ r, loop step s = some r ∧ Q r := by
    intro m
    induction m with
    | zero =>
      intro k s hk h
      have : k = N := by omega
      subst this
      obtain ⟨r, h1, h2⟩ := hend s h
      exact ⟨r, loop_inr h1, h2⟩
    | succ m ih =>
      intro k s hk h
      rcases hs k s (by omega) h with ⟨s', h1, h2⟩ | ⟨r, h1, h2⟩
      · obtain ⟨r, h3, h4⟩ := ih (k + 1) s' (by omega) h2
        exact ⟨r, by rw [loop_inl h1]; exact h3, h4⟩
      · exact ⟨r, loop_inr h1, h2⟩
  exact key N 0 s (by omega) h

/-! ### How large a state is -/
structure SBd (s : State) (n : Nat) : Prop where
  data : s.Data.length ≤ 24 * n
  toks : s.Toks.length ≤ n
  kd : ∀ p ∈ s.Data, p.Key.length ≤ 32
  kt : ∀ p ∈ s.Toks, p.Key.length ≤ 32
theorem SBd.mono {s : State} {n m : Nat} (h : SBd s n) (hm : n ≤ m) : SBd s m := ⟨Nat.le_trans h.data (by omega), Nat.le_trans h.toks hm, h.kd, h.kt⟩
theorem apply_keys (w : List Write) (hw : ∀ x ∈ w, x.Key.length ≤ 32) : ∀ l : List Pair, (∀ p ∈ l, p.Key.length ≤ 32) → ∀ p ∈ applyM l w, p.Key.length ≤ 32 := by
  induction w with
  | nil => intro l hl; exact hl
  | cons x r ih =>
    intro l hl
    have e : applyM l (x :: r) = applyM (doW l x) r := rfl
    rw [e]
    refine ih (fun y hy => hw y (List.mem_cons_of_mem _ hy)) _ (fun p hp => ?_)
    unfold doW at hp
    split at hp
    · exact hl p (List.mem_filter.1 hp).1
    · rcases putP_mem hp with rfl | hp
      · exact hw x (List.mem_cons_self ..)
      · exact hl p hp
theorem good_keys {b : Batch} (h : mayB b = true) : (∀ x ∈ b.Writes, x.Key.length ≤ 32) ∧ b.Token.length ≤ 32 ∧ b.Writes.length ≤ 24 := by
  obtain ⟨⟨_, h2, h3, h4, _⟩, _, h6⟩ := (mayB_iff b).1 h
  refine ⟨fun x hx => ?_, by omega, h4⟩
  have := List.all_eq_true.1 h6 x hx
  unfold goodW at this
  simp only [Bool.and_eq_true, decide_eq_true_eq] at this
  omega
theorem SBd.step {s : State} {n : Nat} (h : SBd s n) (b : Batch) : SBd (doB s b).1 (n + 1) := by
  unfold doB
  split
  · exact h.mono (by omega)
  split
  · exact h.mono (by omega)
  · rename_i hm _
    obtain ⟨g1, g2, g3⟩ := good_keys (b := b) (by simpa using hm)
    have l1 := applyM_len b.Writes s.Data
    have l2 := putP_len s.Toks b.Token (gaveUp b)
    have := h.data
    have := h.toks
    refine ⟨by simp only; omega, by simp only; omega, apply_keys _ g1 _ h.kd, fun p hp => ?_⟩
    rcases putP_mem hp with rfl | hp
    · exact g2
    · exact h.kt p hp
theorem SBd.ok {s : State} {n : Nat} (h : SBd s n) (hn : n ≤ 200000) : SOk s ∧ SK s ∧ (pairsM s).length ≤ 6100000 := by
  have := h.data
  have := h.toks
  have hs : SOk s := ⟨by omega, by omega⟩
  exact ⟨hs, ⟨hs, fun p hp => by have := h.kd p hp; omega, fun p hp => by have := h.kt p hp; omega⟩, by unfold pairsM; simp only [List.length_append, List.length_map]; omega⟩
theorem no_SBd : SBd noState 0 := ⟨by simp [noState], by simp [noState], by simp [noState], by simp [noState]⟩

/-! ### Stores -/
structure KOk (x : Store) (tl : Str) : Prop where
  disk : ∃ b r pre cur, KDisk x.D b r pre cur tl x.S ∧ (x.Down = false → tl = [] ∧ x.From = ((b + 1 : Nat) : Int) ∧ x.Seg = ((b + pre.length + 1 : Nat) : Int) ∧ x.Run = (r : Int) ∧ x.D.Off = false)
  from_ : In64 x.From
  seg : In64 x.Seg
  run : In64 x.Run
theorem KOk.db {x : Store} {tl : Str} (h : KOk x tl) : DB x.D := by obtain ⟨b, r, pre, cur, h1, _⟩ := h.disk; exact h1.log.db
theorem KOk.commit {x : Store} {tl : Str} (h : KOk x tl) (bt : Batch) : ∃ tl2, KOk (commitK x bt).1 tl2 := by
  have hall := h
  obtain ⟨⟨b, r, pre, cur, h1, h2⟩, hf, hsg, hr⟩ := h
  have hw := wput_seg (d := x.D) hsg (bytesB bt).1
  unfold commitK
  by_cases c1 : x.Down = true
  · rw [if_pos c1]; exact ⟨tl, hall⟩
  rw [if_neg c1]
  by_cases c2 : (bytesB bt).2 ≠ 0
  · rw [if_pos c2]; exact ⟨tl, hall⟩
  rw [if_neg c2]
  by_cases c3 : hasK x.S.Toks bt.Token = true
  · rw [if_pos c3]; exact ⟨tl, hall⟩
  rw [if_neg c3]
  obtain ⟨rfl, e1, e2, e3, e4⟩ := h2 (by simpa using c1)
  have hm : mayB bt = true := by
    cases hm : mayB bt with
    | true => rfl
    | false => exfalso; apply c2; unfold bytesB; rw [hm]; simp
  obtain ⟨g1, g2⟩ := h1.put e4 (bytesB bt).1 (recs_one hm) (doB_toks h1.tok)
  rw [← e2] at g1 g2
  by_cases c4 : (wputM x.D x.Seg (bytesB bt).1).2.2 ≠ 0
  · rw [if_pos c4]
    obtain ⟨p2, u2, t2, k1, k2⟩ := g2 c4
    refine ⟨t2, ⟨⟨b, r, p2, u2, k1, fun hd => ?_⟩, hf, hw, hr⟩⟩
    obtain ⟨a1, a2, a3⟩ := k2 (of_decide_eq_false hd)
    exact ⟨a1, e1, a2, e3, a3⟩
  rw [if_neg c4]
  obtain ⟨q1, p2, u2, k1, k2, k3⟩ := g1 (by simpa using c4)
  rw [if_neg (fun x => x q1)]
  exact ⟨[], ⟨⟨b, r, p2, u2, k1, fun _ => ⟨rfl, e1, k2, e3, k3⟩⟩, hf, hw, hr⟩⟩
theorem KOk.check {x : Store} {tl : Str} (h : KOk x tl) (hl : (pairsM x.S).length ≤ 6100000) : (∃ tl2, KOk (checkK x).1 tl2 ∧ (x.Down = false → tl2 = [])) ∧
    ((checkK x).2 = 0 → (checkK x).1.From = x.Seg + 1 ∧ (checkK x).1.Seg = x.Seg + 1 ∧ (checkK x).1.Run = x.Run + 1 ∧ (checkK x).1.Down = false ∧ 1 ≤ x.Seg ∧ x.Seg < 1000000 ∧ has (checkK x).1.D.Files (nameM x.Seg) = false ∧ has (checkK x).1.D.Files (runNm x.Run) = false) := by
  have hall := h
  obtain ⟨⟨b, r, pre, cur, h1, h2⟩, hf, hsg, hr⟩ := h
  have hw : In64 (checkK x).1.From ∧ In64 (checkK x).1.Seg ∧ In64 (checkK x).1.Run := by
    unfold checkK
    split
    · exact ⟨hf, hsg, hr⟩
    split
    · exact ⟨hf, hsg, hr⟩
    rename_i c
    split
    · exact ⟨hf, hsg, hr⟩
    split
    · exact ⟨hf, hsg, hr⟩
    · exact ⟨⟨by simp only; omega, by simp only; omega⟩, ⟨by simp only; omega, by simp only; omega⟩, ⟨by simp only; omega, by simp only; omega⟩⟩
  by_cases c1 : x.Down = true
  · have e : checkK x = (x, 6) := by unfold checkK; rw [if_pos c1]
    rw [e]
    exact ⟨⟨tl, hall, fun hd => by rw [c1] at hd; cases hd⟩, fun h0 => by simp at h0⟩
  have hd : x.Down = false := by simpa using c1
  obtain ⟨rfl, e1, e2, e3, e4⟩ := h2 hd
  obtain ⟨⟨b2, r2, p2, u2, k1, k2⟩, k3⟩ := h1.check hd e4 e1 e2 e3 hl
  have hS := check_S x
  refine ⟨⟨[], ⟨⟨b2, r2, p2, u2, by rw [hS]; exact k1, fun hd2 => ?_⟩, hw.1, hw.2.1, hw.2.2⟩, fun _ => rfl⟩, fun h0 => ?_⟩
  · obtain ⟨a1, a2, a3, a4⟩ := k2 hd2
    exact ⟨rfl, a1, a2, a3, a4⟩
  · obtain ⟨a1, a2, a3, a4, a5, a6⟩ := k3 h0
    refine ⟨a1, a2, a3, a4, by omega, ?_, a5, a6⟩
    unfold checkK at h0
    rw [if_neg c1] at h0
    by_cases c2 : 1000000 ≤ x.Seg ∨ 1000000 ≤ x.Run
    · rw [if_pos c2] at h0; simp at h0
    · omega
theorem KDisk.arm {d : Disk} {b r : Nat} {pre : List (List Str)} {cur : List Str} {tl : Str} {S : State} (h : KDisk d b r pre cur tl S) {n : Int} (hn : In64 n) : KDisk (armM d n) b r pre cur tl S :=
  h.stays (arm_db h.log.db hn) h.log.one ⟨rfl, rfl⟩ (fun _ _ _ => ⟨rfl, rfl⟩) ⟨rfl, rfl⟩ (fun _ => ⟨rfl, rfl⟩) h.nil
theorem KOk.arm {x : Store} {tl : Str} (h : KOk x tl) {n : Int} (hn : In64 n) : KOk (armK x n) tl := by
  obtain ⟨⟨b, r, pre, cur, h1, h2⟩, hf, hsg, hr⟩ := h
  exact ⟨⟨b, r, pre, cur, h1.arm hn, h2⟩, hf, hsg, hr⟩
theorem KOk.opened {d : Disk} {b r : Nat} {pre : List (List Str)} {cur : List Str} {tl : Str} {S : State} (h : KDisk d b r pre cur tl S) (hoff : d.Off = false) (hfuse : d.Fuse = -1) (hw : (fileAt d.Files (nm (b + pre.length + 1))).Wait = []) :
    (tl ≠ [] ∧ (openK d).2 = 5) ∨ ∃ y, openK d = (y, 0) ∧ openK y.D = (y, 0) ∧ KOk y [] ∧ y.S = S ∧ y.Down = false := by
  rcases h.open hoff hfuse hw with h5 | ⟨d2, p2, u2, o1, o2, k1, k2⟩
  · exact .inl h5
  · obtain ⟨B, hB, _⟩ := h.base
    have hr1 := hB.r1
    have hf2 := k1.log.few
    exact .inr ⟨_, o1, o2, ⟨⟨b, r, p2, u2, k1, fun _ => ⟨rfl, rfl, rfl, rfl, k2⟩⟩, ⟨by simp only; omega, by simp only; omega⟩, ⟨by simp only; omega, by simp only; omega⟩, ⟨by simp only; omega, by simp only; omega⟩⟩, rfl, rfl⟩
theorem KOk.crash {x : Store} {tl : Str} (h : KOk x tl) (keeps : List Int) : (tl ≠ [] ∧ (crashK x keeps).2 = 5) ∨ ∃ y, crashK x keeps = (y, 0) ∧ openK y.D = (y, 0) ∧ KOk y [] ∧ y.S = x.S ∧ y.Down = false := by
  obtain ⟨⟨b, r, pre, cur, h1, h2⟩, hf, hsg, hr⟩ := h
  obtain ⟨t2, k1, k2, k3⟩ := h1.crash keeps
  rcases KOk.opened k1 rfl rfl k3 with ⟨g1, g2⟩ | g
  · exact .inl ⟨fun ht => g1 (k2 ht), g2⟩
  · exact .inr g
theorem KOk.new {room : Int} (h : In64 room) (h0 : 0 ≤ room) : ∃ y, openK (newM room).1 = (y, 0) ∧ KOk y [] ∧ y.S = noState ∧ y.Down = false ∧ y.D = (newM room).1 := by
  have hdb := new_db h
  have e : (newM room).1 = ⟨[], room, -1, false⟩ := by unfold newM; rw [if_neg (by omega)]
  rw [e] at hdb ⊢
  have k : KDisk ⟨[], room, -1, false⟩ 0 0 [] [] [] noState := ⟨⟨noState, ⟨by omega, by omega, fun _ => ⟨rfl, rfl, rfl⟩, fun h => absurd rfl h, fun p hp => by (cases hp)⟩, rfl⟩,
    ⟨hdb, by decide, fun n => by simp [cnt], rfl, fun k _ _ => rfl, fun i s hi => by (simp at hi), rfl, by simp [fileAt, noFile, fsize], .inl rfl, fun s hs => by (cases hs), fun t ht => by (cases ht)⟩, by simp [sealAll], fun p hp => by (cases hp), rfl⟩
  have o : openK ⟨[], room, -1, false⟩ = (⟨⟨[], room, -1, false⟩, 1, 1, 0, noState, false⟩, 0) := by
    have hr := recover_log k.log
    obtain ⟨B, hB, hb⟩ := k.base
    obtain ⟨o1, o2⟩ := hB.open hdb
    obtain rfl : B = noState := (hB.zero rfl).2.2
    unfold openK
    simp only [o1, o2, hr]
    rfl
  exact ⟨_, o, ⟨⟨0, 0, [], [], k, fun _ => ⟨rfl, rfl, rfl, rfl, rfl⟩⟩, ⟨by simp, by simp⟩, ⟨by simp, by simp⟩, ⟨by simp, by simp⟩⟩, rfl, rfl, rfl⟩

/-! ### No fuse -/
structure NoFuse (d : Disk) : Prop where
  f : d.Fuse = -1
  o : d.Off = false
theorem nf_append {d : Disk} (h : NoFuse d) (name s : Str) : NoFuse (appendM d name s).1 ∧ (appendM d name s).2 ≠ 6 := by
  have ht : torn d.Fuse s = s := by unfold torn; rw [if_neg (by have := h.f; omega)]
  unfold appendM
  rw [if_neg (by simp [h.o])]
  split
  · exact ⟨h, by simp⟩
  split
  · exact ⟨h, by simp⟩
  split
  · exact ⟨h, by simp⟩
  · rw [ht]
    refine ⟨⟨?_, by simp⟩, by simp⟩
    simp only
    rw [if_neg (by have := h.f; omega)]; exact h.f
theorem nf_sync {d : Disk} (h : NoFuse d) (name : Str) : NoFuse (syncM d name).1 ∧ (syncM d name).2 ≠ 6 := by
  unfold syncM
  rw [if_neg (by simp [h.o])]
  split
  · exact ⟨h, by simp⟩
  · exact ⟨⟨h.f, h.o⟩, by simp⟩
theorem nf_put {d : Disk} (h : NoFuse d) (seg : Int) (s : Str) : NoFuse (wputM d seg s).1 ∧ (wputM d seg s).2.2 ≠ 6 := by
  unfold wputM
  split
  · exact ⟨h, by simp⟩
  split
  · exact ⟨h, by simp⟩
  split
  · have g := nf_sync h (nameM seg)
    split
    · exact g
    split
    · exact ⟨g.1, by simp⟩
    · exact nf_append g.1 _ _
  · exact nf_append h _ _
theorem nf_wsync {d : Disk} (h : NoFuse d) (seg : Int) : NoFuse (wsyncM d seg).1 ∧ (wsyncM d seg).2 ≠ 6 := by
  unfold wsyncM
  split
  · exact ⟨h, by simp⟩
  · exact nf_sync h _
theorem nf_commit {x : Store} (h : NoFuse x.D) (hd : x.Down = false) (b : Batch) : NoFuse (commitK x b).1.D ∧ (commitK x b).1.Down = false := by
  have p := nf_put h x.Seg (bytesB b).1
  have q := nf_wsync p.1 (wputM x.D x.Seg (bytesB b).1).2.1
  unfold commitK
  split
  · exact ⟨h, hd⟩
  split
  · exact ⟨h, hd⟩
  split
  · exact ⟨h, hd⟩
  split
  · exact ⟨p.1, decide_eq_false p.2⟩
  split
  · exact ⟨q.1, decide_eq_false q.2⟩
  · exact ⟨q.1, rfl⟩
theorem commit_bd {x : Store} {n : Nat} (h : SBd x.S n) (b : Batch) : SBd (commitK x b).1.S (n + 1) := by
  have := commit_state x b
  by_cases c : (commitK x b).2 = 0
  · rw [(this.2 c).1]; exact h.step b
  · rw [this.1 c]; exact h.mono (by omega)
theorem KOk.sto {x : Store} {tl : Str} (h : KOk x tl) {n : Nat} (hs : SBd x.S n) (hn : n ≤ 200000) : StoOk x := ⟨h.db, (hs.ok hn).1, h.seg⟩
theorem store_eta (x : Store) : (⟨⟨x.D.Files, x.D.Room, x.D.Fuse, x.D.Off⟩, x.From, x.Seg, x.Run, ⟨x.S.Data, x.S.Toks⟩, x.Down⟩ : Store) = x := rfl
end Go.Ab
