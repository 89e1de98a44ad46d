/- The laws of chapter 18, plainly. -/
import Derived.Test.YthhddlhgkejhbaaPEp1
import Derived.Test.YthhddlhgkejhbaaRd
namespace Go.Ab
set_option linter.unusedVariables false
set_option linter.unusedSimpArgs false

theorem numS_val {l : Str} {n : Nat} (hv : valF 0 l = n) (hne : l ≠ []) (h0 : 1 < l.length → l[0]? ≠ some 48) (hf : ∀ c ∈ l, isFig c = true) : numS n = l ++ [59] := by
  rw [numS_fig, ← hv, figS_val hne h0 hf]
def d18 : Disk := ⟨[], 100, -1, false⟩
def s18 : Str := [50, 59, 49, 59, 49, 48, 52, 50, 48, 51, 51, 51, 59]
def t18 : Str := [50, 59, 50, 59, 49, 48, 53, 53, 49, 52, 48, 54, 59]
def e18 : Disk := ⟨[⟨[101], s18, []⟩], 87, -1, false⟩
theorem num1 : numS 1 = [49, 59] := numS_val (l := [49]) rfl (by simp) (by simp) (by decide)
theorem num2 : numS 2 = [50, 59] := numS_val (l := [50]) rfl (by simp) (by simp) (by decide)
theorem seal1 : sealM (numS 1) = s18 := by
  unfold sealM textM
  rw [num1, show ([49, 59] : Str).length = 2 from rfl, num2, show sumN [49, 59] = 10420333 from by decide, numS_val (l := [49, 48, 52, 50, 48, 51, 51, 51]) (n := 10420333) (by decide) (by simp) (by simp) (by decide)]
  rfl
theorem seal2 : sealM (numS 2) = t18 := by
  unfold sealM textM
  rw [num2, show ([50, 59] : Str).length = 2 from rfl, num2, show sumN [50, 59] = 10551406 from by decide, numS_val (l := [49, 48, 53, 53, 49, 52, 48, 54]) (n := 10551406) (by decide) (by simp) (by simp) (by decide)]
  rfl
theorem lay1 : layM d18 [101] s18 = (e18, 0) := by decide
theorem lay2a : (layM e18 [101] t18).2 = 0 := by decide
theorem next1 : nextE d18 = (e18, 1, 0) := by
  have e : readE d18 = (0, 0) := by decide
  unfold nextE
  rw [e]
  simp only
  rw [if_neg (by simp), if_neg (by simp)]
  rw [show ((0 : Int) + 1).toNat = 1 from rfl, seal1, lay1]
  rw [if_neg (by simp)]
  rfl
theorem next2 : (nextE e18).2 = (2, 0) := by
  have e : readE e18 = (1, 0) := by
    have h1 : readM e18 [101] = (s18, 0) := by decide
    unfold readE
    rw [h1]
    simp only
    rw [if_neg (by simp), ← seal1]
    exact takeE_bytes (n := 1) (by omega)
  unfold nextE
  rw [e]
  simp only
  rw [if_neg (by simp), if_neg (by simp)]
  rw [show ((1 : Int) + 1).toNat = 2 from rfl, seal2, lay2a]
  rw [if_neg (by simp)]
  rfl
theorem d18_ok : DOk d18 := ⟨by decide, fun f hf => (by cases hf), by decide, by decide⟩
theorem e18_ok : DOk e18 := ⟨by decide, fun f hf => (by simp [e18] at hf; subst hf; decide), by decide, by decide⟩
theorem shown18 : law18_shown = some true := by
  unfold law18_shown
  rw [rnew_eq]
  simp only [Option.bind_some]
  rw [show (newM 100).1 = d18 from rfl, next_eq d18_ok, next1]
  simp only [Option.bind_some]
  rw [next_eq e18_ok]
  simp only [Option.bind_some]
  rw [next2]
  rfl

theorem sumOf_len {α : Type} {f : α → Nat} (hf : ∀ x, 1 ≤ f x) : ∀ l : List α, l.length ≤ sumOf f l
  | [] => Nat.le_refl _
  | x :: r => by have := sumOf_len hf r; have := hf x; simp only [List.length_cons, sumOf]; omega
theorem sumOf_mem {α : Type} {f : α → Nat} : ∀ {l : List α} {x : α}, x ∈ l → f x ≤ sumOf f l
  | y :: r, x, h => by
    rcases List.mem_cons.1 h with rfl | h
    · simp only [sumOf]; omega
    · have := sumOf_mem (f := f) h; simp only [sumOf]; omega
theorem i64_of {n : Int} (h : okK .i64 n) : -9223372036854775808 ≤ n ∧ n ≤ 9223372036854775807 := h
theorem dok_of {d : Disk} (o : okDisk d) (b : bkDisk d ≤ 1048576) : DOk d := by
  unfold bkDisk at b
  refine ⟨?_, fun f hf => ?_, i64_of o.1, i64_of o.2⟩
  · have := sumOf_len (f := fun v => bkFile v) (fun x => by unfold bkFile; omega) d.Files
    omega
  · have := sumOf_mem (f := fun v => bkFile v) hf
    have e : fsize f + 4 ≤ bkFile f := by unfold fsize bkFile; omega
    omega

theorem next_ok {d : Disk} (h : DOk d) : DOk (nextE d).1 := by
  have hr := readE_in d
  have hl := sealE_len (n := ((readE d).1 + 1).toNat) (by omega)
  have := lay_ok h [101] (sealM (numS ((readE d).1 + 1).toNat)) (by omega)
  unfold nextE
  split
  · exact h
  split
  · exact h
  split
  · exact this
  · exact this

theorem law18_EpochBytes_true (n : Int) (s : Str) (d : Disk) (on : okK .i64 n) (od : okDisk d) (b : 1 + (s.length + 1) + bkDisk d ≤ 1048576) : law18_EpochBytes n s d = some true := by
  have hn := i64_of on
  have hd := dok_of od (by omega)
  unfold law18_EpochBytes
  rw [shown18, bytes_eq n hn, rbytes_eq n hn, take_eq (by omega), rtake_eq (by omega), readE_eq hd, rreadE_eq hd]
  simp
theorem law18_EpochNext_true (d : Disk) (od : okDisk d) (b : bkDisk d ≤ 1048576) : law18_EpochNext d = some true := by
  have hd := dok_of od b
  unfold law18_EpochNext
  rw [shown18, next_eq hd, rnext_eq hd]
  simp only [Option.bind_some]
  rw [rsame_eq (next_ok hd).len]
  simp
theorem law18_EpochBack_true (n : Int) (c : Int) (on : okK .i64 n) (oc : okK .i64 c) (b : 1 + 1 ≤ 1048576) : law18_EpochBack n c = some true := by
  have hn := i64_of on
  have hc := i64_of oc
  unfold law18_EpochBack
  rw [shown18, bytes_eq n hn]
  simp only [Option.bind_some]
  unfold bytesE
  by_cases h : n < 0 ∨ 1073741824 < n
  · rw [if_pos h]
    simp only
    rw [if_pos (by simp), if_pos trivial]
    by_cases h0 : n < 0
    · rw [if_pos (by simpa using h0)]
    · rw [if_neg (by simpa using h0)]; congr 1; simp; omega
  · rw [if_neg h]
    simp only
    have hl := sealE_len (n := n.toNat) (by omega)
    have e : ((n.toNat : Nat) : Int) = n := by omega
    rw [if_neg (by simp), take_eq (by omega), takeE_bytes (by omega), e]
    simp only [Option.bind_some]
    rw [if_neg (by simp)]
    by_cases hcut : c < 0 ∨ ((sealM (numS n.toNat)).length : Int) ≤ c
    · rw [if_pos (by simpa using hcut)]
    · rw [if_neg (by simpa using hcut), need_pos (by omega), cut_head, take_eq (by rw [List.length_take]; omega), takeE_cut (by omega) (by omega)]
      rfl
theorem frE : frN [101] = [110, 46, 101] := rfl
theorem next_apart {d : Disk} {n : Str} (h1 : n ≠ [101]) (h2 : n ≠ [110, 46, 101]) : has (nextE d).1.Files n = has d.Files n ∧ fileAt (nextE d).1.Files n = fileAt d.Files n := by
  have := lay_apart (d := d) (s := sealM (numS ((readE d).1 + 1).toNat)) h1 (by rw [frE]; exact h2)
  unfold nextE
  split
  · exact ⟨rfl, rfl⟩
  split
  · exact ⟨rfl, rfl⟩
  split
  · exact this
  · exact this
theorem law18_EpochApart_true (d : Disk) (n : Str) (od : okDisk d) (b : bkDisk d + (n.length + 1) ≤ 1048576) : law18_EpochApart d n = some true := by
  have hd := dok_of od (by omega)
  unfold law18_EpochApart
  rw [shown18]
  simp only [Option.bind_some]
  by_cases h : n = [101] ∨ n = [110, 46, 101]
  · rw [if_pos (by simpa using h)]
  · rw [if_neg (by simpa using h), next_eq hd, rfind_eq hd.len]
    simp only [Option.bind_some]
    rw [rfind_eq (next_ok hd).len]
    have := next_apart (d := d) (fun x => h (.inl x)) (fun x => h (.inr x))
    rw [this.1, this.2]
    simp

/-- A beginning that is OK. -/
theorem next_good {d : Disk} (h1 : cnt d.Files [110, 46, 101] ≤ 1) (h2 : cnt d.Files [101] ≤ 1) (hok : (nextE d).2.2 = 0) :
    (readE d).2 = 0 ∧ (readE d).1 < 1073741824 ∧ (nextE d).2.1 = (readE d).1 + 1 ∧ has (nextE d).1.Files [101] = true ∧ fileAt (nextE d).1.Files [101] = ⟨[101], sealM (numS ((readE d).1 + 1).toNat), []⟩ := by
  unfold nextE at hok ⊢
  by_cases c1 : (readE d).2 ≠ 0
  · rw [if_pos c1] at hok; exact absurd hok c1
  rw [if_neg c1] at hok ⊢
  by_cases c2 : 1073741824 ≤ (readE d).1
  · rw [if_pos c2] at hok; cases hok
  rw [if_neg c2] at hok ⊢
  by_cases c3 : (layM d [101] (sealM (numS ((readE d).1 + 1).toNat))).2 ≠ 0
  · rw [if_pos c3] at hok; exact absurd hok c3
  rw [if_neg c3]
  have g := lay_good (d := d) (name := [101]) (s := sealM (numS ((readE d).1 + 1).toNat)) (by rw [frE]; exact h1) h2 (by simpa using c3)
  exact ⟨by simpa using c1, by omega, rfl, g.1, g.2⟩
theorem next_bad {d : Disk} (hno : (nextE d).2.2 ≠ 0) : has (nextE d).1.Files [101] = has d.Files [101] ∧ fileAt (nextE d).1.Files [101] = fileAt d.Files [101] ∧ (nextE d).2.1 = 0 := by
  unfold nextE at hno ⊢
  by_cases c1 : (readE d).2 ≠ 0
  · rw [if_pos c1]; exact ⟨rfl, rfl, rfl⟩
  rw [if_neg c1] at hno ⊢
  by_cases c2 : 1073741824 ≤ (readE d).1
  · rw [if_pos c2]; exact ⟨rfl, rfl, rfl⟩
  rw [if_neg c2] at hno ⊢
  by_cases c3 : (layM d [101] (sealM (numS ((readE d).1 + 1).toNat))).2 ≠ 0
  · rw [if_pos c3]
    have := lay_bad (n := [101]) (by rw [frE]; simp) c3
    exact ⟨this.1, this.2, rfl⟩
  rw [if_neg c3] at hno
  exact absurd rfl hno
theorem next_cnt {d : Disk} (h1 : cnt d.Files [110, 46, 101] ≤ 1) (h2 : cnt d.Files [101] ≤ 1) {n : Str} (hn : cnt d.Files n ≤ 1) : cnt (nextE d).1.Files n ≤ 1 := by
  have := lay_cnt (d := d) (name := [101]) (sealM (numS ((readE d).1 + 1).toNat)) (by rw [frE]; exact h1) h2 hn
  unfold nextE
  split
  · exact hn
  split
  · exact hn
  split
  · exact this
  · exact this
theorem readE_file {d : Disk} {n : Nat} (hn : n ≤ 1073741824) (h1 : has d.Files [101] = true) (h2 : fileAt d.Files [101] = ⟨[101], sealM (numS n), []⟩) : readE d = ((n : Int), 0) := by
  unfold readE readM
  rw [h1, h2]
  simp only [if_true, List.append_nil]
  rw [if_neg (by simp)]
  exact takeE_bytes hn

/-! ### EpochAdds -/
theorem cnt_take {fs : List File} {k : Nat} {f : File} (h : fs[k]? = some f) (n : Str) : cnt (fs.take (k + 1)) n = cnt (fs.take k) n + (if f.Name = n then 1 else 0) := by
  obtain ⟨hlt, he⟩ := List.getElem?_eq_some_iff.1 h
  rw [List.take_succ_eq_append_getElem hlt, cnt_append, cnt_cons, he]; simp [cnt]
theorem cnt_len (fs : List File) (n : Str) : cnt fs n ≤ fs.length := by
  unfold cnt; have := List.count_le_length (l := fs.map (·.Name)) (a := n); simpa using this
theorem adds_loop {d : Disk} (hd : DOk d) : loop (fun (s281 : Int × Int × Int) => law18_EpochAdds_l2 d s281.1 s281.2.1 s281.2.2) ((0 : Int), (0 : Int), (0 : Int)) = some ((cnt d.Files [101] : Int), (cnt d.Files [110, 46, 101] : Int)) := by
  have hl := hd.lenS
  have := count_loop (fun (s281 : Int × Int × Int) => law18_EpochAdds_l2 d s281.1 s281.2.1 s281.2.2) (fun k => ((cnt (d.Files.take k) [101] : Int), (cnt (d.Files.take k) [110, 46, 101] : Int), (k : Int))) d.Files.length ((cnt d.Files [101] : Int), (cnt d.Files [110, 46, 101] : Int)) (fun k hk => by
    have hg := List.getElem?_eq_getElem hk
    have c1 := cnt_take hg [101]
    have c2 := cnt_take hg [110, 46, 101]
    have l1 := cnt_len (d.Files.take k) [101]
    have l2 := cnt_len (d.Files.take k) [110, 46, 101]
    rw [List.length_take] at l1 l2
    simp only
    unfold law18_EpochAdds_l2
    rw [if_pos (by simpa using hk), ix_at hg]
    simp only [Option.bind_some]
    rw [IntWalk.i64_in ((cnt (d.Files.take k) [101] : Int) + 1) ⟨by omega, by omega⟩, IntWalk.i64_in ((cnt (d.Files.take k) [110, 46, 101] : Int) + 1) ⟨by omega, by omega⟩, IntWalk.i64_in ((k : Int) + 1) ⟨by omega, by omega⟩, c1, c2]
    by_cases e1 : d.Files[k].Name = [101]
    · have e2 : ¬ d.Files[k].Name = [110, 46, 101] := by rw [e1]; simp
      rw [if_pos (by simpa using e1)]
      simp only [Option.bind_some]
      rw [if_neg (by simpa using e2), if_pos e1, if_neg e2]
      rfl
    · rw [if_neg (by simpa using e1)]
      simp only [Option.bind_some]
      by_cases e2 : d.Files[k].Name = [110, 46, 101]
      · rw [if_pos (by simpa using e2), if_neg e1, if_pos e2]
        rfl
      · rw [if_neg (by simpa using e2), if_neg e1, if_neg e2]
        rfl) (by
    simp only
    unfold law18_EpochAdds_l2
    rw [if_neg (by simp), List.take_length])
  simpa [cnt] using this
theorem law18_EpochAdds_true (d : Disk) (od : okDisk d) (b : bkDisk d ≤ 1048576) : law18_EpochAdds d = some true := by
  have hd := dok_of od b
  unfold law18_EpochAdds
  rw [shown18, readE_eq hd, next_eq hd]
  simp only [Option.bind_some]
  by_cases hok : (nextE d).2.2 = 0
  · rw [if_neg (by simp [hok]), adds_loop hd]
    simp only [Option.bind_some]
    by_cases hc : 1 < cnt d.Files [101] ∨ 1 < cnt d.Files [110, 46, 101]
    · rw [if_pos (by simp; omega)]
    · rw [if_neg (by simp; omega)]
      obtain ⟨g1, g2, g3, g4, g5⟩ := next_good (d := d) (by omega) (by omega) hok
      have hr := readE_in d
      rw [readE_eq (next_ok hd), readE_file (n := ((readE d).1 + 1).toNat) (by omega) g4 g5]
      simp only [Option.bind_some]
      rw [g1, g3, IntWalk.i64_in _ ⟨by omega, by omega⟩]
      have e : (((readE d).1 + 1).toNat : Int) = (readE d).1 + 1 := by omega
      rw [e]
      simp
  · rw [if_pos (by simp [hok]), if_pos trivial, (next_bad hok).2.2]; rfl

/-! ### EpochRises -/
structure EInv (last : Int) (d : Disk) : Prop where
  ok : DOk d
  c1 : cnt d.Files [110, 46, 101] ≤ 1
  c2 : cnt d.Files [101] ≤ 1
  is : (last = 0 ∧ has d.Files [101] = false) ∨ ∃ n : Nat, last = n ∧ 1 ≤ n ∧ n ≤ 1073741824 ∧ has d.Files [101] = true ∧ fileAt d.Files [101] = ⟨[101], sealM (numS n), []⟩
theorem EInv.read {last : Int} {d : Disk} (h : EInv last d) : readE d = (last, 0) := by
  rcases h.is with ⟨rfl, hh⟩ | ⟨n, rfl, h1, h2, h3, h4⟩
  · unfold readE readM; rw [hh]; rfl
  · exact readE_file h2 h3 h4
theorem EInv.arm {last : Int} {d : Disk} (h : EInv last d) {fuse : Int} (hf : -9223372036854775808 ≤ fuse ∧ fuse ≤ 9223372036854775807) : EInv last (armM d fuse) :=
  ⟨arm_ok h.ok hf, h.c1, h.c2, h.is⟩
theorem EInv.next {last : Int} {d : Disk} (h : EInv last d) : (nextE d).2.2 ≠ 3 ∧ EInv (if (nextE d).2.2 = 0 then (nextE d).2.1 else last) (nextE d).1 ∧ ((nextE d).2.2 = 0 → last < (nextE d).2.1) := by
  have hr := h.read
  have hk := readE_in d
  by_cases hok : (nextE d).2.2 = 0
  · obtain ⟨g1, g2, g3, g4, g5⟩ := next_good h.c1 h.c2 hok
    rw [hr] at g2 g3 g5 hk
    simp only at g2 g3 g5 hk
    refine ⟨by rw [hok]; simp, ?_, fun _ => by omega⟩
    rw [if_pos hok, g3]
    exact ⟨next_ok h.ok, next_cnt h.c1 h.c2 h.c1, next_cnt h.c1 h.c2 h.c2, .inr ⟨(last + 1).toNat, by omega, by omega, by omega, g4, g5⟩⟩
  · have g := next_bad hok
    refine ⟨?_, ?_, fun x => absurd x hok⟩
    · unfold nextE
      rw [hr]
      simp only
      rw [if_neg (by simp)]
      split
      · simp
      · split
        · simp only
          -- no step of the laying is refused by a form
          have key : ∀ (x : Disk) (a s : Str), (layM x a s).2 ≠ 3 := by
            intro x a s
            have hdel : ∀ (x : Disk) (a : Str), (deleteM x a).2 ≠ 3 := by intro x a; unfold deleteM; split; simp; split; simp; split <;> simp
            have hap : ∀ (x : Disk) (a s : Str), (appendM x a s).2 ≠ 3 := by
              intro x a s; unfold appendM; split; simp; split; simp; split; simp; split; simp; simp only; split <;> simp
            have hsy : ∀ (x : Disk) (a : Str), (syncM x a).2 ≠ 3 := by intro x a; unfold syncM; split; simp; split <;> simp
            have hre : ∀ (x : Disk) (a b : Str), (renameM x a b).2 ≠ 3 := by intro x a b; unfold renameM; split; simp; split; simp; split; simp; split; simp; split <;> simp
            have hcl : ∀ (x : Disk) (a : Str), (clearM x a).2 ≠ 3 := by intro x a; unfold clearM; split; exact hdel x a; simp
            have h2 : ∀ (x : Disk) (a s : Str), (lay2 x a s).2 ≠ 3 := by intro x a s; unfold lay2; split; exact hcl x a; exact hap _ _ _
            have h3 : ∀ (x : Disk) (a s : Str), (lay3 x a s).2 ≠ 3 := by intro x a s; unfold lay3; split; exact h2 x a s; exact hsy _ _
            unfold layM; split; exact h3 _ _ _; exact hre _ _ _
          exact key _ _ _
        · simp
    · rw [if_neg hok]
      refine ⟨next_ok h.ok, next_cnt h.c1 h.c2 h.c1, next_cnt h.c1 h.c2 h.c2, ?_⟩
      rw [g.1, g.2.1]; exact h.is
theorem crash_file {d : Disk} {keeps : List Int} {n s : Str} (h1 : has d.Files n = true) (h2 : fileAt d.Files n = ⟨n, s, []⟩) : has (crashM d keeps).Files n = true ∧ fileAt (crashM d keeps).Files n = ⟨n, s, []⟩ := by
  have hnames : (crashM d keeps).Files.map (·.Name) = d.Files.map (·.Name) := by
    unfold crashM
    simp only
    apply List.ext_getElem?
    intro i
    rw [List.getElem?_map, List.getElem?_mapIdx, List.getElem?_map]
    cases d.Files[i]? <;> rfl
  have hh : has (crashM d keeps).Files n = true := by rw [has_names hnames]; exact h1
  refine ⟨hh, ?_⟩
  have g := (idxI_get hh).2.2.1
  have g0 := (idxI_get h1).2.2.1
  rw [idxI_names hnames] at g
  unfold crashM at g ⊢
  simp only at g ⊢
  rw [List.getElem?_mapIdx, g0] at g
  simp only [Option.map_some] at g
  injection g with g
  rw [← g, h2]
  simp [crashF]
theorem EInv.crash {last : Int} {d : Disk} (h : EInv last d) (keeps : List Int) : EInv last (crashM d keeps) := by
  refine ⟨crash_ok h.ok keeps, by rw [crash_cnt]; exact h.c1, by rw [crash_cnt]; exact h.c2, ?_⟩
  rcases h.is with ⟨h1, hh⟩ | ⟨n, h0, h1, h2, h3, h4⟩
  · exact .inl ⟨h1, by rw [has_cnt, crash_cnt, ← has_cnt]; exact hh⟩
  · obtain ⟨a, b⟩ := crash_file (keeps := keeps) h3 h4
    exact .inr ⟨n, h0, h1, h2, a, b⟩
theorem keeps_loop {d : Disk} (hl : d.Files.length ≤ 2000000000) (x : Turn) (y : Disk × Int × Int) (hy : y.1 = d) : ∃ r, loop (fun (s1213 : Int × (List Int)) => law18_EpochRises_l26 x y s1213.1 s1213.2) ((0 : Int), ([] : (List Int))) = some r := by
  have := count_loop (fun (s1213 : Int × (List Int)) => law18_EpochRises_l26 x y s1213.1 s1213.2) (fun k => ((k : Int), List.replicate k x.N)) d.Files.length (List.replicate d.Files.length x.N) (fun k hk => by
    simp only
    unfold law18_EpochRises_l26
    rw [hy, if_pos (by simpa using hk), need_pos (by simp; omega), IntWalk.i64_in _ ⟨by omega, by omega⟩, List.replicate_succ']
    rfl) (by
    simp only
    unfold law18_EpochRises_l26
    rw [hy, if_neg (by simp)])
  exact ⟨_, by simpa using this⟩
theorem law18_EpochRises_true (room : Int) (l : List Turn) (orr : okK .i64 room) (ol : ∀ t ∈ l, okTurn t) (b : 1 + (sumOf (fun t => bkTurn t) l + 1) ≤ 1048576) : law18_EpochRises room l = some true := by
  have hr := i64_of orr
  have hlen := sumOf_len (f := fun v => bkTurn v) (fun x => by unfold bkTurn; omega) l
  unfold law18_EpochRises
  rw [shown18, rnew_eq]
  simp only [Option.bind_some]
  unfold newM
  by_cases h0 : room < 0
  · rw [if_pos h0]; rfl
  · rw [if_neg h0]
    simp only
    rw [if_neg (by simp)]
    have key : ∀ (m k : Nat) (last : Int) (d : Disk), k + m = 200 → EInv last d →
        loop (fun (s1023 : Int × Int × (List File) × Int × Int × Bool) => law18_EpochRises_l22 l s1023.1 s1023.2.1 s1023.2.2.1 s1023.2.2.2.1 s1023.2.2.2.2.1 s1023.2.2.2.2.2) (last, (k : Int), d.Files, d.Room, d.Fuse, d.Off) = some (.inr ()) := by
      intro m
      induction m with
      | zero =>
        intro k last d hk hi
        refine loop_inr ?_
        simp only
        unfold law18_EpochRises_l22
        rw [if_neg (by simp; omega)]
      | succ m ih =>
        intro k last d hk hi
        by_cases hkl : k < l.length
        · have hg := List.getElem?_eq_getElem hkl
          have ha := (hi.arm (i64_of (ol _ (List.mem_of_getElem? hg)).1)).next
          have hd2 := (hi.arm (fuse := l[k].Fuse) (i64_of (ol _ (List.mem_of_getElem? hg)).1)).ok
          have hn2 := next_ok hd2
          obtain ⟨rr, hrr⟩ := keeps_loop hn2.len l[k] (nextE (armM d l[k].Fuse)) rfl
          obtain ⟨a1, a2, a3⟩ := ha
          have hs : law18_EpochRises_l22 l last (k : Int) d.Files d.Room d.Fuse d.Off = some (.inl ((if (nextE (armM d l[k].Fuse)).2.2 = 0 then (nextE (armM d l[k].Fuse)).2.1 else last), ((k + 1 : Nat) : Int), (crashM (nextE (armM d l[k].Fuse)).1 rr).Files, (crashM (nextE (armM d l[k].Fuse)).1 rr).Room, (crashM (nextE (armM d l[k].Fuse)).1 rr).Fuse, (crashM (nextE (armM d l[k].Fuse)).1 rr).Off)) := by
            unfold law18_EpochRises_l22
            rw [if_pos (by simp; omega), ix_at hg]
            simp only [Option.bind_some]
            change ((ref03_Arm d l[k].Fuse).bind _) = _
            rw [rarm_eq]
            simp only [Option.bind_some]
            rw [next_eq hd2]
            simp only [Option.bind_some]
            rw [if_neg (by
              simp only [Bool.and_eq_true, decide_eq_true_eq]
              rintro ⟨x, y⟩
              have := a3 x; omega), if_neg (by simpa using a1), hrr]
            simp only [Option.bind_some]
            rw [rcrash_eq hn2]
            simp only [Option.bind_some, decide_eq_true_eq]
            rw [IntWalk.i64_in _ ⟨by omega, by omega⟩]
            rfl
          rw [loop_inl hs]
          exact ih (k + 1) _ _ (by omega) (a2.crash rr)
        · refine loop_inr ?_
          simp only
          unfold law18_EpochRises_l22
          rw [if_neg (by simp; omega)]
    have := key 200 0 0 ⟨[], room, -1, false⟩ (by omega) ⟨⟨by simp, fun f hf => (by cases hf), hr, (by simp)⟩, by simp [cnt], by simp [cnt], .inl ⟨rfl, rfl⟩⟩
    simp only [Int.natCast_zero, Int.ofNat_eq_natCast] at this
    rw [this]
    rfl
end Go.Ab
