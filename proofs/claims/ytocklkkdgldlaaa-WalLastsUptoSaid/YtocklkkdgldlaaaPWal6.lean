/- The last law of chapter 04: crashes and recoveries (plain). -/
import Derived.Test.YtocklkkdgldlaaaPWal5
namespace Go.Ab
set_option linter.unusedVariables false
set_option linter.unusedSimpArgs false

theorem rename_gone {d : Disk} {a b : Str} (hab : a ≠ b) (ha : cnt d.Files a ≤ 1) (hok : (renameM d a b).2 = 0) : has (renameM d a b).1.Files a = false := by
  unfold renameM at hok ⊢
  by_cases c1 : d.Off = true
  · rw [if_pos c1] at hok; cases hok
  rw [if_neg c1] at hok ⊢
  by_cases c2 : named b = false
  · rw [if_pos c2] at hok; cases hok
  rw [if_neg c2] at hok ⊢
  by_cases c3 : has d.Files a = false
  · rw [if_pos c3] at hok; cases hok
  rw [if_neg c3, if_neg hab] at hok ⊢
  by_cases c5 : (powerM d).2 = false
  · rw [if_pos c5] at hok; cases hok
  rw [if_neg c5]
  simp only
  have hh : has (lostM (powerM d).1 b).Files a = true := by rw [lost_has hab, power_files]; simpa using c3
  have e := set_cnt hh ⟨b, (fileAt d.Files a).Safe, (fileAt d.Files a).Wait⟩ a
  rw [lost_cnt, power_files, if_pos rfl, if_neg (fun x => hab x.symm)] at e
  exact has_cnt.2 (by omega)
theorem rename_done {d : Disk} {a b : Str} (hoff : d.Off = false) (hn : named b = true) (hh : has d.Files a = true) (hab : a ≠ b) (hf : d.Fuse = -1) : (renameM d a b).2 = 0 ∧ (renameM d a b).1.Off = false := by
  have hp : (powerM d).2 = true := by unfold powerM; rw [if_neg (by omega)]
  have hp2 : (powerM d).1.Off = false := by unfold powerM; rw [if_neg (by omega)]; exact hoff
  unfold renameM
  rw [if_neg (by simp [hoff]), if_neg (by simp [hn]), if_neg (by simp [hh]), if_neg hab, if_neg (by simp [hp])]
  exact ⟨rfl, by rw [← hp2]; exact (lost_fuse _ _).2⟩
theorem tail_none {d : Disk} (n : Nat) {k : Int} (h : has d.Files (nameM k) = false) : cutTail n d k = (d, 0) := by
  cases n with
  | zero => rfl
  | succ n => unfold cutTail; rw [if_pos h]
theorem Log.cut {d : Disk} {pre : List (List Str)} {cur : List Str} {tl : Str} (h : Log d pre cur tl) (hoff : d.Off = false) (hfuse : d.Fuse = -1) :
    (wcutM d ((pre.length + 1 : Nat) : Int) (sealAll cur)).2 = 5 ∨ ((wcutM d ((pre.length + 1 : Nat) : Int) (sealAll cur)).2 = 0 ∧ Log (wcutM d ((pre.length + 1 : Nat) : Int) (sealAll cur)).1 pre cur [] ∧ (wcutM d ((pre.length + 1 : Nat) : Int) (sealAll cur)).1.Off = false ∧
      has (wcutM d ((pre.length + 1 : Nat) : Int) (sealAll cur)).1.Files (nm (pre.length + 1)) = true ∧ (fileAt (wcutM d ((pre.length + 1 : Nat) : Int) (sealAll cur)).1.Files (nm (pre.length + 1))).Wait = []) := by
  have hsz := h.size
  have hnow := congrArg List.length h.now
  have hfew := h.few
  have hseg := named_seg h.seg
  have hne : newN ≠ nm (pre.length + 1) := fun e => nameM_new _ e.symm
  unfold fsize at hsz
  rw [List.length_append, List.length_append] at hnow
  have hc : clearM d newN = (d, 0) := by unfold clearM; rw [if_neg (by simp [h.new])]
  have h2 : lay2 d newN (sealAll cur) = appendM d newN (sealAll cur) := by unfold lay2; rw [hc]; rfl
  have ha : appendM d newN (sealAll cur) = (d, 5) ∨ ((appendM d newN (sealAll cur)).2 = 0 ∧ (appendM d newN (sealAll cur)).1.Fuse = -1) := by
    have ht : torn d.Fuse (sealAll cur) = sealAll cur := by unfold torn; rw [if_neg (by omega)]
    unfold appendM
    rw [if_neg (by simp [hoff]), if_neg (show ¬ named newN = false by decide)]
    by_cases c3 : (has d.Files newN = false ∧ 64 ≤ d.Files.length) ∨ d.Room < (sealAll cur).length
    · rw [if_pos c3]; exact .inl rfl
    rw [if_neg c3, if_neg (by rw [fileAt_none h.new]; unfold fsize noFile; simp only [List.length_nil]; omega), ht]
    refine .inr ⟨by simp only; rw [if_neg (by omega)], ?_⟩
    simp only
    rw [if_neg (by omega)]; exact hfuse
  have hcut := cut_db h.db ((pre.length + 1 : Nat) : Int) (sealAll cur) (by omega)
  rcases ha with ha | ⟨ha, hfz⟩
  · refine .inl ?_
    unfold wcutM lay3
    rw [h2, ha]
    rfl
  obtain ⟨g1, g2, g3⟩ := append_good ha
  rw [fileAt_none h.new] at g2
  have hz : (syncM (appendM d newN (sealAll cur)).1 newN).2 = 0 := by
    unfold syncM; rw [if_neg (by simp [g3]), if_neg (by simp [g1])]
  obtain ⟨k1, k2⟩ := sync_good hz
  rw [g2] at k2
  have ko : (syncM (appendM d newN (sealAll cur)).1 newN).1.Off = false := by
    unfold syncM; rw [if_neg (by simp [g3]), if_neg (by simp [g1])]; exact g3
  have kf : (syncM (appendM d newN (sealAll cur)).1 newN).1.Fuse = -1 := by
    unfold syncM; rw [if_neg (by simp [g3]), if_neg (by simp [g1])]; exact hfz
  have h3 : lay3 d newN (sealAll cur) = syncM (appendM d newN (sealAll cur)).1 newN := by unfold lay3; rw [h2, if_neg (by simp [ha])]
  have h1 : ∀ n, cnt (syncM (appendM d newN (sealAll cur)).1 newN).1.Files n ≤ 1 := fun n => by
    rw [sync_cnt]
    have := (append_cnt d newN (sealAll cur) n).1
    have := h.one n
    omega
  have hap : ∀ n, n ≠ newN → has (syncM (appendM d newN (sealAll cur)).1 newN).1.Files n = has d.Files n ∧ fileAt (syncM (appendM d newN (sealAll cur)).1 newN).1.Files n = fileAt d.Files n := fun n hn => by
    rw [(sync_apart hn).1, (sync_apart hn).2, (append_apart hn).1, (append_apart hn).2]; exact ⟨rfl, rfl⟩
  generalize syncM (appendM d newN (sealAll cur)).1 newN = y at *
  obtain ⟨r1, r2⟩ := rename_done (b := nm (pre.length + 1)) ko hseg k1 hne kf
  obtain ⟨s1, s2⟩ := rename_good hne (h1 _) r1
  rw [k2] at s2
  simp only [noFile, List.nil_append, List.append_nil] at s2
  have s3 := rename_gone hne (h1 _) r1
  have hlast : has (renameM y.1 newN (nm (pre.length + 1))).1.Files (nameM (((pre.length + 1 : Nat) : Int) + 1)) = false := by
    have hn := h.none (pre.length + 2) (by omega) (by omega)
    have e : (((pre.length + 1 : Nat) : Int) + 1) = ((pre.length + 2 : Nat) : Int) := by omega
    rw [e, (rename_apart (nameM_new _) (nm_ne (by omega) (by omega) (by omega))).1, (hap _ (nameM_new _)).1]
    exact hn
  have hw : wcutM d ((pre.length + 1 : Nat) : Int) (sealAll cur) = renameM y.1 newN (nm (pre.length + 1)) := by
    unfold wcutM
    rw [h3, if_neg (by simp [hz]), if_neg (show ¬ (renameM y.1 newN (nameM ((pre.length + 1 : Nat) : Int))).2 ≠ 0 from fun x => x r1), tail_none _ hlast]
    exact Prod.ext rfl r1.symm
  rw [hw] at hcut ⊢
  refine .inr ⟨r1, h.moved hcut (fun n => rename_cnt _ _ _ _ (h1 _) (h1 n)) s3 (fun n hn hn2 => ?_) (by rw [s2]) (by rw [s2]; unfold fsize; simp only [List.length_nil]; omega) (.inl rfl) h.small2, r2, s1, by rw [s2]⟩
  rw [(rename_apart hn2 hn).1, (rename_apart hn2 hn).2]; exact hap n hn2

/-! ### A crash -/
theorem crash_at (d : Disk) (keeps : List Int) (n : Str) : has (crashM d keeps).Files n = has d.Files n ∧ (has d.Files n = true → ∃ k, fileAt (crashM d keeps).Files n = ⟨n, (fileAt d.Files n).Safe ++ (fileAt d.Files n).Wait.take k, []⟩) := by
  have hnames : (crashM d keeps).Files.map (·.Name) = d.Files.map (·.Name) := by
    unfold crashM
    simp only
    apply List.ext_getElem?
    intro i
    rw [List.getElem?_map, List.getElem?_mapIdx, List.getElem?_map]
    cases d.Files[i]? <;> rfl
  have hh := has_names hnames n
  refine ⟨hh, fun h1 => ?_⟩
  have g := (idxI_get (hh.trans h1)).2.2.1
  have g0 := (idxI_get h1).2.2.1
  have gn := (idxI_get h1).2.2.2
  rw [idxI_names hnames] at g
  unfold crashM at g ⊢
  simp only at g ⊢
  rw [List.getElem?_mapIdx, g0] at g
  simp only [Option.map_some] at g
  injection g with g
  rw [← g]
  exact ⟨_, by unfold crashF; rw [gn]⟩
theorem Log.crash {d : Disk} {pre : List (List Str)} {cur : List Str} {tl : Str} (h : Log d pre cur tl) (keeps : List Int) :
    ∃ j r, j ≤ cur.length ∧ Log (crashM d keeps) pre (cur.take j) r ∧ (fileAt (crashM d keeps).Files (nm (pre.length + 1))).Wait = [] ∧ ∀ i, i ≤ cur.length → (sealAll (cur.take i)).length ≤ (fileAt d.Files (nm (pre.length + 1))).Safe.length → i ≤ j := by
  have key : ∃ m, (fileAt d.Files (nm (pre.length + 1))).Safe.length ≤ m ∧ (fileAt (crashM d keeps).Files (nm (pre.length + 1))).Safe = (sealAll cur ++ tl).take m ∧ (fileAt (crashM d keeps).Files (nm (pre.length + 1))).Wait = [] := by
    obtain ⟨c1, c2⟩ := crash_at d keeps (nm (pre.length + 1))
    cases hh : has d.Files (nm (pre.length + 1)) with
    | true =>
      obtain ⟨k, e⟩ := c2 hh
      refine ⟨(fileAt d.Files (nm (pre.length + 1))).Safe.length + k, by omega, ?_, by rw [e]⟩
      rw [e, ← h.now, List.take_append, List.take_of_length_le (show (fileAt d.Files (nm (pre.length + 1))).Safe.length ≤ (fileAt d.Files (nm (pre.length + 1))).Safe.length + k by omega)]
      simp only
      rw [Nat.add_sub_cancel_left]
    | false =>
      obtain ⟨rfl, rfl⟩ := h.out hh
      rw [hh] at c1
      rw [fileAt_none hh, fileAt_none c1]
      exact ⟨0, by simp [noFile], by simp [noFile, sealAll], rfl⟩
  obtain ⟨m, hm, e1, e2⟩ := key
  obtain ⟨j, r, h1, h2, h3, h4⟩ := kept cur tl m h.small2 h.tail
  rw [h3] at e1
  have hnow := h.now
  have hsz := h.size
  unfold fsize at hsz
  have hl := congrArg List.length h.now
  have hl3 := congrArg List.length h3
  rw [List.length_append] at hl
  rw [List.length_take] at hl3
  refine ⟨j, r, h1, ⟨crash_db h.db keeps, h.few, fun n => by rw [crash_cnt]; exact h.one n, by rw [(crash_at d keeps newN).1]; exact h.new, fun k hk hk2 => by rw [(crash_at d keeps (nm k)).1]; exact h.none k hk hk2, fun i s hi => ?_, by rw [e1, e2, List.append_nil], ?_, h2, h.small, fun t ht => h.small2 t (List.mem_of_mem_take ht)⟩, e2, fun i hi hl => h4 i hi (by omega)⟩
  · obtain ⟨o1, o2, o3⟩ := h.old i s hi
    obtain ⟨c1, c2⟩ := crash_at d keeps (nm (i + 1))
    obtain ⟨k, e⟩ := c2 o1
    rw [o2] at e
    refine ⟨c1.trans o1, ?_, o3⟩
    rw [e]; simp
  · unfold fsize
    rw [e1, e2]
    simp only [List.length_nil]
    omega

/-! ### A recovery -/
theorem read_has {d : Disk} {n : Str} (h : has d.Files n = true) : readM d n = ((fileAt d.Files n).Safe ++ (fileAt d.Files n).Wait, 0) := by unfold readM; rw [if_pos h]
theorem read_not {d : Disk} {n : Str} (h : has d.Files n = false) : readM d n = ([], 7) := by unfold readM; rw [if_neg (by simp [h])]
theorem rec_not {d : Disk} {n : Nat} {last seg : Int} {out : List Str} (h : has d.Files (nameM seg) = false) : recM d 1 n last seg out = (d, out, last, 0) := by
  cases n with
  | zero => rfl
  | succ n => unfold recM; rw [read_not h, if_pos (by simp)]
theorem rec_one {d : Disk} {n k : Nat} {last : Int} {out l : List Str} {r : Str} (h : has d.Files (nm k) = true) (e : (fileAt d.Files (nm k)).Safe ++ (fileAt d.Files (nm k)).Wait = sealAll l ++ r) (hs : ∀ t ∈ l, t.length ≤ 2048) (hr : Torn r) :
    recM d 1 (n + 1) last (k : Int) out = if r = [] then recM d 1 n (k : Int) ((k + 1 : Nat) : Int) (out ++ l) else
      if (wcutM d (k : Int) (sealAll l)).2 ≠ 0 then ((wcutM d (k : Int) (sealAll l)).1, [], 1, (wcutM d (k : Int) (sealAll l)).2) else ((wcutM d (k : Int) (sealAll l)).1, out ++ l, (k : Int), 0) := by
  have hrd : rdM d (k : Int) = sealAll l ++ r := by unfold rdM; rw [read_has h, e]
  obtain ⟨s1, s2⟩ := scan_torn hs hr
  have ht : (sealAll l ++ r).take (sealAll l).length = sealAll l := List.take_left ..
  conv => lhs; unfold recM
  rw [hrd, s1, s2, ht, read_has h, if_neg (by simp)]
  by_cases hn : r = []
  · subst hn
    rw [if_neg (by simp), if_pos rfl]
    rfl
  · have hp : 0 < r.length := List.length_pos_iff.2 hn
    rw [if_pos (by rw [List.length_append]; omega), if_neg hn]
theorem rec_pre {d : Disk} {pre : List (List Str)} {cur : List Str} {tl : Str} (h : Log d pre cur tl) : ∀ (m i n : Nat) (last : Int) (out : List Str), i + m = pre.length →
    recM d 1 (n + m) last ((i + 1 : Nat) : Int) out = recM d 1 n (if m = 0 then last else (pre.length : Int)) ((pre.length + 1 : Nat) : Int) (out ++ (pre.drop i).flatten) := by
  intro m
  induction m with
  | zero =>
    intro i n last out hi
    have : i = pre.length := by omega
    subst this
    rw [List.drop_length, List.flatten_nil, List.append_nil, if_pos rfl]
    rfl
  | succ m ih =>
    intro i n last out hi
    have hlt : i < pre.length := by omega
    have hg := List.getElem?_eq_getElem hlt
    obtain ⟨o1, o2, o3⟩ := h.old i _ hg
    rw [show n + (m + 1) = (n + m) + 1 by omega, rec_one (l := pre[i]) (r := []) o1 (by rw [o2]) (h.small _ (List.getElem_mem hlt)) (.inl rfl), if_pos rfl, ih (i + 1) n _ _ (by omega), List.drop_eq_getElem_cons hlt, List.flatten_cons, List.append_assoc, if_neg (show ¬ m + 1 = 0 by omega)]
    by_cases hm : m = 0
    · rw [if_pos hm]
      have : ((i + 1 : Nat) : Int) = (pre.length : Int) := by omega
      rw [this]
    · rw [if_neg hm]
theorem recover_log {d : Disk} {pre : List (List Str)} {cur : List Str} {tl : Str} (h : Log d pre cur tl) : recoverM d 1 =
    if has d.Files (nm (pre.length + 1)) = false then (d, pre.flatten, (if pre.length = 0 then 1 else (pre.length : Int)), 0) else
    if tl = [] then (d, pre.flatten ++ cur, ((pre.length + 1 : Nat) : Int), 0) else
    if (wcutM d ((pre.length + 1 : Nat) : Int) (sealAll cur)).2 ≠ 0 then ((wcutM d ((pre.length + 1 : Nat) : Int) (sealAll cur)).1, [], 1, (wcutM d ((pre.length + 1 : Nat) : Int) (sealAll cur)).2) else ((wcutM d ((pre.length + 1 : Nat) : Int) (sealAll cur)).1, pre.flatten ++ cur, ((pre.length + 1 : Nat) : Int), 0) := by
  have hf := h.few
  have e0 : ((1000001 : Int) - 1).toNat = (999999 - pre.length + 1) + pre.length := by omega
  have hp := rec_pre h pre.length 0 (999999 - pre.length + 1) 1 [] (by omega)
  unfold recoverM
  rw [if_neg (by decide), e0]
  have e1 : ((0 + 1 : Nat) : Int) = 1 := rfl
  rw [e1, List.drop_zero, List.nil_append] at hp
  rw [hp]
  cases hh : has d.Files (nm (pre.length + 1)) with
  | false => rw [if_pos rfl, rec_not hh]
  | true =>
    rw [if_neg (show ¬ (true = false) by simp), rec_one hh h.now h.small2 h.tail]
    by_cases ht : tl = []
    · rw [if_pos ht, if_pos ht, rec_not (h.none _ (by omega) (by omega))]
    · rw [if_neg ht, if_neg ht]
/-- A recovery after a crash: there is no room, or all is whole then, and a second one changes nothing. -/
theorem recover_lasts {d : Disk} {pre : List (List Str)} {cur : List Str} {tl : Str} (h : Log d pre cur tl) (hoff : d.Off = false) (hfuse : d.Fuse = -1) (hw : (fileAt d.Files (nm (pre.length + 1))).Wait = []) :
    (recoverM d 1).2.2.2 = 5 ∨ ∃ d2 pre2 cur2, recoverM d 1 = (d2, pre.flatten ++ cur, ((pre2.length + 1 : Nat) : Int), 0) ∧ recoverM d2 1 = (d2, pre.flatten ++ cur, ((pre2.length + 1 : Nat) : Int), 0) ∧
      Log d2 pre2 cur2 [] ∧ pre2.flatten ++ cur2 = pre.flatten ++ cur ∧ pre2.length ≤ pre.length ∧ d2.Off = false ∧ (fileAt d2.Files (nm (pre2.length + 1))).Wait = [] := by
  have hr := recover_log h
  cases hh : has d.Files (nm (pre.length + 1)) with
  | false =>
    rw [if_pos hh] at hr
    obtain ⟨rfl, rfl⟩ := h.out hh
    refine .inr ?_
    rcases List.eq_nil_or_concat pre with rfl | ⟨p, c, rfl⟩
    · rw [List.append_nil]
      exact ⟨d, [], [], hr, hr, h, rfl, Nat.le_refl _, hoff, hw⟩
    · rw [List.concat_eq_append] at h hh hr hw ⊢
      have hl : (p ++ [c]).length = p.length + 1 := by simp
      rw [hl] at hh hr
      rw [if_neg (by omega)] at hr
      obtain ⟨b1, b2⟩ := h.back hh
      rw [List.append_nil]
      refine ⟨d, p, c, hr, hr, b1, by simp, by omega, hoff, by rw [b2]⟩
  | true =>
    rw [if_neg (by simp [hh])] at hr
    by_cases ht : tl = []
    · subst ht
      rw [if_pos rfl] at hr
      exact .inr ⟨d, pre, cur, hr, hr, h, rfl, Nat.le_refl _, hoff, hw⟩
    · rw [if_neg ht] at hr
      rcases h.cut hoff hfuse with hc | ⟨c1, c2, c3, c4, c5⟩
      · rw [if_pos (show (wcutM d ((pre.length + 1 : Nat) : Int) (sealAll cur)).2 ≠ 0 from fun x => by rw [hc] at x; cases x)] at hr
        exact .inl (by rw [hr]; exact hc)
      · rw [if_neg (show ¬ (wcutM d ((pre.length + 1 : Nat) : Int) (sealAll cur)).2 ≠ 0 from fun x => x c1)] at hr
        have hr2 := recover_log c2
        rw [if_neg (show ¬ has (wcutM d ((pre.length + 1 : Nat) : Int) (sealAll cur)).1.Files (nm (pre.length + 1)) = false from fun x => by rw [c4] at x; cases x), if_pos rfl] at hr2
        exact .inr ⟨_, pre, cur, hr, hr2, c2, rfl, Nat.le_refl _, c3, c5⟩
end Go.Ab
