/- Disks, plainly: what is kept over many acts. -/
import Derived.Test.YtclmbdacfijifaaPD7
namespace Go.Ab
set_option linter.unusedVariables false
set_option linter.unusedSimpArgs false

theorem inv_loop {σ ρ : Type} (step : σ → Option (σ ⊕ ρ)) (I : Nat → σ → Prop) (Q : ρ → Prop) (n : Nat) (s0 : σ) (h0 : I 0 s0)
    (hs : ∀ k s, k < n → I k s → (∃ s', step s = some (.inl s') ∧ I (k + 1) s') ∨ (∃ r, step s = some (.inr r) ∧ Q r)) (hend : ∀ s, I n s → ∃ r, step s = some (.inr r) ∧ Q r) : ∃ r, loop step s0 = some r ∧ Q r := by
  have key : ∀ d k s, k + d = n → I k s → ∃ r, loop step s = some r ∧ Q r := by
    intro d
    induction d with
    | zero =>
      intro k s hk hi
      have : k = n := by omega
      subst this
      obtain ⟨r, h1, h2⟩ := hend s hi
      exact ⟨r, loop_inr h1, h2⟩
    | succ d ih =>
      intro k s hk hi
      rcases hs k s (by omega) hi with ⟨s', h1, h2⟩ | ⟨r, h1, h2⟩
      · rw [loop_inl h1]; exact ih (k + 1) s' (by omega) h2
      · exact ⟨r, loop_inr h1, h2⟩
  exact key n 0 s0 (by omega) h0

/-! ### All bytes together -/
def tot : List File → Nat
  | [] => 0
  | f :: r => fsize f + tot r
theorem tot_append (l r : List File) : tot (l ++ r) = tot l + tot r := by
  induction l with
  | nil => simp [tot]
  | cons x l ih => simp only [List.cons_append, tot, ih]; omega
theorem tot_mem {l : List File} {f : File} (h : f ∈ l) : fsize f ≤ tot l := by
  induction l with
  | nil => cases h
  | cons x l ih =>
    rcases List.mem_cons.1 h with rfl | h
    · simp only [tot]; omega
    · have := ih h; simp only [tot]; omega
theorem tot_set {l : List File} {k : Nat} {f g : File} (h : l[k]? = some f) : tot (l.set k g) + fsize f = tot l + fsize g := by
  induction l generalizing k with
  | nil => simp at h
  | cons x l ih =>
    cases k with
    | zero => simp at h; subst h; simp only [List.set_cons_zero, tot]; omega
    | succ k => simp at h; have := ih h; simp only [List.set_cons_succ, tot]; omega
theorem tot_setF {fs : List File} {name : Str} (h : has fs name = true) (f : File) : tot (setF fs name f) + fsize (fileAt fs name) = tot fs + fsize f := tot_set (idxI_get h).2.2.1
theorem tot_del {fs : List File} {name : Str} (h : has fs name = true) : tot (delF fs name) + fsize (fileAt fs name) = tot fs := by
  obtain ⟨l, r, e1, e2, _⟩ := del_split h
  rw [e2]
  have : tot fs = tot l + (fsize (fileAt fs name) + tot r) := by
    conv => lhs; rw [e1]
    rw [tot_append]; rfl
  rw [this, tot_append]; omega
theorem tot_with (fs : List File) (name : Str) : tot (withF fs name) = tot fs := by
  unfold withF
  split
  · rfl
  · rw [tot_append]; simp [tot, fsize]

/-- What holds of a disk that came of a new one of this room. -/
structure RInv (R : Int) (d : Disk) : Prop where
  sum : d.Room + (tot d.Files : Int) = R
  room : 0 ≤ d.Room
  len : d.Files.length ≤ 64
  size : ∀ f ∈ d.Files, fsize f ≤ 65536
  fuse : -9223372036854775808 ≤ d.Fuse ∧ d.Fuse ≤ 9223372036854775807
theorem RInv.ok {R : Int} {d : Disk} (h : RInv R d) (hR : R ≤ 9223372036854775807) : DOk d := by
  have := h.sum
  have := h.room
  exact ⟨by have := h.len; omega, fun f hf => by have := h.size f hf; omega, ⟨by omega, by omega⟩, h.fuse⟩
theorem new_inv {room : Int} (h : 0 ≤ room) : (newM room).2 = 0 ∧ RInv room (newM room).1 := by
  unfold newM
  rw [if_neg (by omega)]
  exact ⟨rfl, ⟨by simp [tot], h, by simp, by simp, by simp⟩⟩
theorem append_inv {R : Int} {d : Disk} (h : RInv R d) (name s : Str) (hs : s.length ≤ 1099511627776) : RInv R (appendM d name s).1 := by
  unfold appendM
  split
  · exact h
  split
  · exact h
  split
  · exact h
  rename_i c1 c2 c3
  split
  · exact h
  rename_i c4
  have t1 := torn_le d.Fuse s
  have hw := has_with d.Files name
  have hfw := fileAt_with d.Files name
  have e := tot_setF hw ⟨name, (fileAt d.Files name).Safe, (fileAt d.Files name).Wait ++ torn d.Fuse s⟩
  rw [tot_with, hfw] at e
  have e2 : fsize (⟨name, (fileAt d.Files name).Safe, (fileAt d.Files name).Wait ++ torn d.Fuse s⟩ : File) = fsize (fileAt d.Files name) + (torn d.Fuse s).length := by
    unfold fsize; simp only [List.length_append]; omega
  have e3 : fsize (⟨name, (fileAt d.Files name).Safe, (fileAt d.Files name).Wait⟩ : File) = fsize (fileAt d.Files name) := rfl
  have hsum := h.sum
  have hroom : ¬ d.Room < s.length := fun x => c3 (.inr x)
  refine ⟨?_, ?_, ?_, fun f hf => ?_, ?_⟩
  · simp only; omega
  · simp only; omega
  · simp only [setF_len]
    unfold withF
    cases hh : has d.Files name with
    | true => rw [if_pos rfl]; exact h.len
    | false =>
      have : ¬ 64 ≤ d.Files.length := fun x => c3 (.inl ⟨hh, x⟩)
      rw [if_neg (by simp)]; simp; omega
  · rcases setF_mem hf with hf | rfl
    · unfold withF at hf
      split at hf
      · exact h.size f hf
      · rcases List.mem_append.1 hf with hf | hf
        · exact h.size f hf
        · simp at hf; subst hf; simp [fsize]
    · omega
  · have := h.fuse
    simp only
    split <;> omega
theorem sync_inv {R : Int} {d : Disk} (h : RInv R d) (name : Str) : RInv R (syncM d name).1 := by
  unfold syncM
  split
  · exact h
  split
  · exact h
  rename_i c1 c2
  have hh : has d.Files name = true := by simpa using c2
  have e := tot_setF hh ⟨(fileAt d.Files name).Name, (fileAt d.Files name).Safe ++ (fileAt d.Files name).Wait, []⟩
  have e2 : fsize (⟨(fileAt d.Files name).Name, (fileAt d.Files name).Safe ++ (fileAt d.Files name).Wait, []⟩ : File) = fsize (fileAt d.Files name) := by unfold fsize; simp
  have hsum := h.sum
  refine ⟨?_, h.room, by simpa [setF_len] using h.len, fun f hf => ?_, h.fuse⟩
  · simp only; omega
  · rcases setF_mem hf with hf | rfl
    · exact h.size f hf
    · rw [e2]; exact h.size _ (fileAt_mem hh)
theorem power_inv {R : Int} {d : Disk} (h : RInv R d) : RInv R (powerM d).1 := by
  refine ⟨by rw [power_files, power_room]; exact h.sum, by rw [power_room]; exact h.room, by rw [power_files]; exact h.len, by rw [power_files]; exact h.size, ?_⟩
  have := h.fuse
  unfold powerM
  split
  · exact h.fuse
  · simp only; split <;> omega
theorem less_inv {R : Int} (hR : R ≤ 9223372036854775807) {d : Disk} (h : RInv R d) {name : Str} (hh : has d.Files name = true) : RInv R (lessM d name) := by
  have e := tot_del hh
  have hsum := h.sum
  have hroom := h.room
  have hw : IntKind.i64.wrap (d.Room + (fsize (fileAt d.Files name) : Int)) = d.Room + fsize (fileAt d.Files name) := w64_in (by omega) (by omega)
  refine ⟨?_, ?_, ?_, fun f hf => h.size f (del_mem hf), h.fuse⟩
  · simp only [lessM]; rw [hw]; omega
  · simp only [lessM]; rw [hw]; omega
  · have := del_len hh; have := h.len; simp only [lessM]; omega
theorem lost_inv {R : Int} (hR : R ≤ 9223372036854775807) {d : Disk} (h : RInv R d) (name : Str) : RInv R (lostM d name) := by
  unfold lostM
  split
  · rename_i hh; exact less_inv hR h hh
  · exact h
theorem rename_inv {R : Int} (hR : R ≤ 9223372036854775807) {d : Disk} (h : RInv R d) (a b : Str) : RInv R (renameM d a b).1 := by
  unfold renameM
  by_cases c1 : d.Off = true
  · rw [if_pos c1]; exact h
  rw [if_neg c1]
  by_cases c2 : named b = false
  · rw [if_pos c2]; exact h
  rw [if_neg c2]
  by_cases c3 : has d.Files a = false
  · rw [if_pos c3]; exact h
  rw [if_neg c3]
  by_cases c4 : a = b
  · rw [if_pos c4]; exact h
  rw [if_neg c4]
  by_cases c5 : (powerM d).2 = false
  · rw [if_pos c5]; exact power_inv h
  rw [if_neg c5]
  have hl := lost_inv hR (power_inv h) b
  have hh : has (lostM (powerM d).1 b).Files a = true := by rw [lost_has c4, power_files]; simpa using c3
  have hf : fileAt (lostM (powerM d).1 b).Files a = fileAt d.Files a := by rw [lost_at c4, power_files]
  have e := tot_setF hh ⟨b, (fileAt d.Files a).Safe, (fileAt d.Files a).Wait⟩
  rw [hf] at e
  have e2 : fsize (⟨b, (fileAt d.Files a).Safe, (fileAt d.Files a).Wait⟩ : File) = fsize (fileAt d.Files a) := rfl
  have hsum := hl.sum
  refine ⟨by simp only; omega, hl.room, by simpa [setF_len] using hl.len, fun f hm => ?_, hl.fuse⟩
  rcases setF_mem hm with hm | rfl
  · exact hl.size f hm
  · rw [e2]; exact h.size _ (fileAt_mem (by simpa using c3))
theorem delete_inv {R : Int} (hR : R ≤ 9223372036854775807) {d : Disk} (h : RInv R d) (name : Str) : RInv R (deleteM d name).1 := by
  unfold deleteM
  by_cases c1 : d.Off = true
  · rw [if_pos c1]; exact h
  rw [if_neg c1]
  by_cases c3 : has d.Files name = false
  · rw [if_pos c3]; exact h
  rw [if_neg c3]
  by_cases c5 : (powerM d).2 = false
  · rw [if_pos c5]; exact power_inv h
  rw [if_neg c5]
  exact less_inv hR (power_inv h) (by rw [power_files]; simpa using c3)
theorem crash_fsize (keeps : List Int) (k : Nat) (f : File) : (fsize (crashF keeps k f) : Int) = fsize f - ((f.Wait.length : Int) - keepOf keeps k f) := by
  have := keep_le keeps k f
  unfold fsize crashF
  simp only [List.length_append, List.length_take, List.length_nil]
  omega
theorem crash_inv {R : Int} (hR : R ≤ 9223372036854775807) {d : Disk} (h : RInv R d) (keeps : List Int) : RInv R (crashM d keeps) := by
  have hsum := h.sum
  have hroom := h.room
  have key : ∀ k, k ≤ d.Files.length → crashR keeps d.Files d.Room k + (tot (crashTo keeps d.Files k) : Int) = R ∧ 0 ≤ crashR keeps d.Files d.Room k := by
    intro k
    induction k with
    | zero => intro _; rw [crashTo_zero]; exact ⟨hsum, hroom⟩
    | succ k ih =>
      intro hk
      obtain ⟨h1, h2⟩ := ih (by omega)
      have hg : d.Files[k]? = some d.Files[k] := List.getElem?_eq_getElem (by omega)
      have e := tot_set (g := crashF keeps k d.Files[k]) (crashTo_at (keeps := keeps) hg)
      rw [crashTo_succ hg] at e
      have e2 := crash_fsize keeps k d.Files[k]
      have e3 := keep_le keeps k d.Files[k]
      have e4 : IntKind.i64.wrap (crashR keeps d.Files d.Room k + ((d.Files[k].Wait.length : Int) - keepOf keeps k d.Files[k])) = crashR keeps d.Files d.Room k + ((d.Files[k].Wait.length : Int) - keepOf keeps k d.Files[k]) := w64_in (by omega) (by omega)
      rw [crashR_succ hg, e4]
      constructor <;> omega
  obtain ⟨h1, h2⟩ := key d.Files.length (Nat.le_refl _)
  rw [crashTo_all] at h1
  refine ⟨h1, h2, by simpa [crashM] using h.len, fun f hf => ?_, by simp [crashM]⟩
  simp only [crashM] at hf
  obtain ⟨i, hi, rfl⟩ := List.mem_mapIdx.1 hf
  have a := crash_fsize keeps i d.Files[i]
  have b := keep_le keeps i d.Files[i]
  have c := h.size _ (List.getElem_mem hi)
  omega
theorem arm_inv {R : Int} {d : Disk} (h : RInv R d) {fuse : Int} (hf : -9223372036854775808 ≤ fuse ∧ fuse ≤ 9223372036854775807) : RInv R (armM d fuse) := by
  refine ⟨h.sum, h.room, h.len, h.size, ?_⟩
  simp only [armM]
  split <;> omega
def ActOk (a : Act) : Prop := a.S.length ≤ 1099511627776 ∧ -9223372036854775808 ≤ a.N ∧ a.N ≤ 9223372036854775807
theorem does_inv {R : Int} (hR : R ≤ 9223372036854775807) {d : Disk} (h : RInv R d) {a : Act} (ha : ActOk a) : RInv R (doesM d a).1 := by
  unfold doesM
  split
  · exact append_inv h _ _ ha.1
  split
  · exact sync_inv h _
  split
  · exact rename_inv hR h _ _
  split
  · exact delete_inv hR h _
  split
  · exact crash_inv hR h _
  split
  · exact arm_inv h ha.2
  · exact h

/-! ### The law of room -/
theorem tot_take {fs : List File} {k : Nat} {f : File} (h : fs[k]? = some f) : tot (fs.take (k + 1)) = tot (fs.take k) + fsize f := by
  rw [List.take_add_one, h, tot_append]; simp [tot]
theorem tot_take_le (fs : List File) (k : Nat) : tot (fs.take k) ≤ tot fs := by
  have : tot fs = tot (fs.take k) + tot (fs.drop k) := by rw [← tot_append, List.take_append_drop]
  omega
theorem room_sum {R : Int} (hR : R ≤ 9223372036854775807) (y : Disk × Int) (h : RInv R y.1) :
    loop (fun (s950 : Int × Int) => law03_DiskRoom_l26 y s950.1 s950.2) (y.1.Room, (0 : Int)) = some R := by
  have hsum := h.sum
  have hroom := h.room
  have hlen := h.len
  have := count_loop (fun (s950 : Int × Int) => law03_DiskRoom_l26 y s950.1 s950.2) (fun k => (y.1.Room + (tot (y.1.Files.take k) : Int), (k : Int))) y.1.Files.length R ?_ ?_
  · simpa [tot] using this
  · intro k hk
    have hg : y.1.Files[k]? = some y.1.Files[k] := List.getElem?_eq_getElem hk
    have e := tot_take hg
    have e1 := tot_take_le y.1.Files (k + 1)
    have e2 : fsize y.1.Files[k] = y.1.Files[k].Safe.length + y.1.Files[k].Wait.length := rfl
    unfold law03_DiskRoom_l26
    simp only
    rw [if_pos (by simpa using hk), ix_nat, hg]
    simp only [Option.bind_some]
    rw [w64_in (n := y.1.Room + (tot (y.1.Files.take k) : Int) + (y.1.Files[k].Safe.length : Int)) (by omega) (by omega), w64_in (by omega) (by omega), w64_in (by omega) (by omega)]
    congr 3
    omega
  · unfold law03_DiskRoom_l26
    simp only
    rw [if_neg (by simp), List.take_length, hsum]
theorem room_true (room : Int) (l : List Act) (hl : ∀ a ∈ l, ActOk a) (hn : l.length ≤ 2000000000) : law03_DiskRoom room l = some true := by
  unfold law03_DiskRoom
  rw [shown_eq]
  simp only [Option.bind_some]
  split
  · rfl
  rename_i c
  simp at c
  obtain ⟨c1, c2⟩ := c
  rw [new_eq]
  simp only [Option.bind_some]
  obtain ⟨n1, n2⟩ := new_inv c1
  rw [if_neg (show ¬ (!decide ((newM room).2 = 0)) = true by simp [n1])]
  have L1 := inv_loop (fun (s811 : Int × (List File) × Int × Int × Bool) => law03_DiskRoom_l22 room l s811.1 s811.2.1 s811.2.2.1 s811.2.2.2.1 s811.2.2.2.2)
    (fun k s => s.1 = (k : Int) ∧ RInv room ⟨s.2.1, s.2.2.1, s.2.2.2.1, s.2.2.2.2⟩) (fun r => r = .inr ()) (min l.length 300) ((0 : Int), (newM room).1.Files, (newM room).1.Room, (newM room).1.Fuse, (newM room).1.Off) ⟨rfl, n2⟩ ?_ ?_
  · obtain ⟨r, h1, h2⟩ := L1
    rw [h1, h2]; rfl
  · rintro k ⟨i, fs, ro, fu, off⟩ hk ⟨rfl, hi⟩
    simp only at hi
    left
    have hk1 : k < l.length := by omega
    have hg : l[k]? = some l[k] := List.getElem?_eq_getElem hk1
    have hR : room ≤ 9223372036854775807 := by omega
    have ha := hl _ (List.getElem_mem hk1)
    have hd := does_inv hR hi ha
    unfold law03_DiskRoom_l22
    simp only
    rw [if_pos (show (decide ((k : Int) < (l.length : Int)) && decide ((k : Int) < 300)) = true by simp; omega), ix_nat, hg]
    simp only [Option.bind_some]
    rw [does_eq (hi.ok hR) _ ha.1]
    simp only [Option.bind_some]
    rw [room_sum hR _ hd]
    simp only [Option.bind_some]
    rw [if_neg (by have := hd.room; simp; omega), w64_in (by omega) (by omega)]
    exact ⟨_, rfl, by simp, hd⟩
  · rintro ⟨i, fs, ro, fu, off⟩ ⟨rfl, hi⟩
    refine ⟨_, ?_, rfl⟩
    unfold law03_DiskRoom_l22
    simp only
    rw [if_neg (by simp; omega)]

/-! ### What is safe stays -/
def SafeKept (name was : Str) (d : Disk) : Prop := has d.Files name = true ∧ ∃ t, (fileAt d.Files name).Safe = was ++ t
theorem keeps_append {d : Disk} {name was : Str} (h : SafeKept name was d) (n s : Str) : SafeKept name was (appendM d n s).1 := by
  by_cases hn : name = n
  · subst hn
    unfold appendM
    split
    · exact h
    split
    · exact h
    split
    · exact h
    split
    · exact h
    have hw := has_with d.Files name
    refine ⟨by simp only; rw [setF_has hw rfl]; exact hw, ?_⟩
    simp only
    rw [setF_at hw rfl]
    exact h.2
  · have := append_apart (d := d) (s := s) hn
    unfold SafeKept
    rw [this.1, this.2]; exact h
theorem keeps_sync {d : Disk} {name was : Str} (h : SafeKept name was d) (n : Str) : SafeKept name was (syncM d n).1 := by
  by_cases hn : name = n
  · subst hn
    unfold syncM
    split
    · exact h
    rw [if_neg (by rw [h.1]; simp)]
    have hf := (idxI_get h.1).2.2.2
    refine ⟨by simp only; exact (setF_has h.1 (by exact hf) name).trans h.1, ?_⟩
    simp only
    rw [setF_at h.1 (by exact hf)]
    obtain ⟨t, ht⟩ := h.2
    exact ⟨t ++ (fileAt d.Files name).Wait, by simp only; rw [ht, List.append_assoc]⟩
  · have := sync_apart (d := d) hn
    unfold SafeKept
    rw [this.1, this.2]; exact h
theorem keeps_crash {d : Disk} {name was : Str} (h : SafeKept name was d) (keeps : List Int) : SafeKept name was (crashM d keeps) := by
  have hnm : (d.Files.mapIdx (crashF keeps)).map (·.Name) = d.Files.map (·.Name) := by
    apply List.ext_getElem?
    intro i
    simp only [List.getElem?_map, List.getElem?_mapIdx]
    cases d.Files[i]? <;> rfl
  have hh : has (d.Files.mapIdx (crashF keeps)) name = true := by rw [has_names hnm]; exact h.1
  refine ⟨hh, ?_⟩
  have a := (idxI_get h.1).2.2.1
  have b := (idxI_get hh).2.2.1
  rw [idxI_names hnm, List.getElem?_mapIdx, a] at b
  have b := Option.some.inj b
  obtain ⟨t, ht⟩ := h.2
  simp only [crashM]
  rw [← b]
  exact ⟨_, by simp only [crashF]; rw [ht, List.append_assoc]⟩
theorem keeps_does {d : Disk} {name was : Str} (h : SafeKept name was d) {a : Act} (h3 : a.Kind ≠ 3) (h4 : a.Kind ≠ 4) : SafeKept name was (doesM d a).1 := by
  unfold doesM
  split
  · exact keeps_append h _ _
  split
  · exact keeps_sync h _
  split
  · exact keeps_crash h _
  split
  · exact h
  · exact h
end Go.Ab
