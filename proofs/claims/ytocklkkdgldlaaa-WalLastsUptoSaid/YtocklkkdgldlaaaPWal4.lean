/- The laws of chapter 04, but for the last one, plainly. -/
import Derived.Test.YtocklkkdgldlaaaPBnd
namespace Go.Ab
set_option linter.unusedVariables false
set_option linter.unusedSimpArgs false

theorem numS_val {l : Str} {n : Nat} (hv : valF 0 l = n) (hne : l ≠ []) (h0 : 1 < l.length → l[0]? ≠ some 48) (hf : ∀ c ∈ l, isFig c = true) : numS n = l ++ [59] := by
  rw [numS_fig, ← hv, figS_val hne h0 hf]
theorem nameM_val {l : Str} {n : Int} (hm : mayM n = true) (hv : valF 0 l = n.toNat) (hne : l ≠ []) (h0 : 1 < l.length → l[0]? ≠ some 48) (hf : ∀ c ∈ l, isFig c = true) : nameM n = 119 :: l := by
  unfold nameM; rw [if_pos hm, ← hv, figS_val hne h0 hf]
theorem name1 : nameM 1 = [119, 49] := nameM_val (l := [49]) rfl rfl (by simp) (by simp) (by decide)
theorem name2 : nameM 2 = [119, 50] := nameM_val (l := [50]) rfl rfl (by simp) (by simp) (by decide)
theorem num1 : numS 1 = [49, 59] := numS_val (l := [49]) rfl (by simp) (by simp) (by decide)
def sa : Str := [49, 59, 97, 54, 52, 50, 50, 54, 50, 54, 59]
def sb : Str := [49, 59, 98, 54, 52, 56, 56, 49, 54, 51, 59]
theorem seal_a : sealM [97] = sa := by
  unfold sealM textM
  rw [show ([97] : Str).length = 1 from rfl, num1, show sumN [97] = 6422626 from by decide, numS_val (l := [54, 52, 50, 50, 54, 50, 54]) (n := 6422626) (by decide) (by simp) (by simp) (by decide)]
  rfl
theorem seal_b : sealM [98] = sb := by
  unfold sealM textM
  rw [show ([98] : Str).length = 1 from rfl, num1, show sumN [98] = 6488163 from by decide, numS_val (l := [54, 52, 56, 56, 49, 54, 51]) (n := 6488163) (by decide) (by simp) (by simp) (by decide)]
  rfl
def k0 : Disk := ⟨[], 100, -1, false⟩
def k1 : Disk := ⟨[⟨[119, 49], [], sa⟩], 89, -1, false⟩
def k2 : Disk := ⟨[⟨[119, 49], sa, []⟩], 89, -1, false⟩
def k3 : Disk := ⟨[⟨[119, 49], sa, sb⟩], 78, -1, false⟩
def k4 : Disk := ⟨[⟨[119, 49], sa ++ [49, 59, 98], []⟩], 86, -1, false⟩
def k5 : Disk := ⟨[⟨[119, 49], sa, []⟩], 89, -1, false⟩
theorem put_a : wputM k0 1 [97] = (k1, 1, 0) := by
  unfold wputM
  rw [name1, seal_a]
  decide
theorem sync_a : wsyncM k1 1 = (k2, 0) := by
  unfold wsyncM
  rw [name1]
  decide
theorem put_b : wputM k2 1 [98] = (k3, 1, 0) := by
  unfold wputM
  rw [name1, seal_b]
  decide
theorem crash_b : crashM k3 [3] = k4 := by decide
theorem scan_b : scanL (sa ++ [49, 59, 98]) = [[97]] := by
  have e : sa ++ [49, 59, 98] = sealAll [[97]] ++ [49, 59, 98] := by
    simp only [sealAll, seal_a, List.append_nil]
  refine scanL_of (r := [49, 59, 98]) (scanned_of _ _ _ e (fun t ht => ?_) (by decide))
  simp at ht; subst ht; simp
theorem scanP_b : scanP (sa ++ [49, 59, 98]) = 11 := by
  unfold scanP
  rw [scan_b]
  simp only [sealAll, seal_a, List.append_nil]
  rfl
theorem cut_b : (wcutM k4 1 sa).2 = 0 := by
  unfold wcutM
  rw [name1]
  have e1 : lay3 k4 newN sa = (⟨[⟨[119, 49], sa ++ [49, 59, 98], []⟩, ⟨newN, sa, []⟩], 75, -1, false⟩, 0) := by decide
  rw [e1]
  have e2 : renameM ⟨[⟨[119, 49], sa ++ [49, 59, 98], []⟩, ⟨newN, sa, []⟩], 75, -1, false⟩ newN [119, 49] = (k5, 0) := by decide
  simp only
  rw [e2, if_neg (by simp), if_neg (by simp)]
  show (cutTail (999998 + 1) k5 (1 + 1)).2 = 0
  unfold cutTail
  rw [show (1 + 1 : Int) = 2 from rfl, name2, if_pos (by decide)]
theorem recover_b : (recoverM k4 1).2 = ([[97]], 1, 0) := by
  have hr : readM k4 (nameM 1) = (sa ++ [49, 59, 98], 0) := by rw [name1]; decide
  have hr2 : rdM k4 1 = sa ++ [49, 59, 98] := by unfold rdM; rw [hr]
  have ht : (sa ++ [49, 59, 98]).take 11 = sa := by decide
  unfold recoverM
  rw [if_neg (by decide)]
  show (recM k4 1 (999999 + 1) 1 1 []).2 = _
  unfold recM
  rw [hr2, scanP_b, ht, hr, if_neg (by simp), if_pos (by decide), cut_b, if_neg (by simp), scan_b]
  rfl
theorem shown04 : law04_shown = some true := by
  have d0 : DB k0 := ⟨⟨by decide, fun f hf => (by cases hf), by decide, by decide⟩, fun f hf => by cases hf⟩
  have b1 := put_db d0 1 [97]
  rw [put_a] at b1
  have b2 := wsync_db b1 1
  rw [sync_a] at b2
  have b3 := put_db b2 1 [98]
  rw [put_b] at b3
  have b4 := crash_db b3 [3]
  rw [crash_b] at b4
  unfold law04_shown
  rw [rnew_eq]
  simp only [Option.bind_some]
  rw [show (newM 100).1 = k0 from rfl, put_eq d0.ok (by decide), put_a]
  simp only [Option.bind_some]
  rw [wsync_eq b1.ok (by decide), sync_a]
  simp only [Option.bind_some]
  rw [put_eq b2.ok (by decide), put_b]
  simp only [Option.bind_some]
  rw [rcrash_eq b3.ok, crash_b]
  simp only [Option.bind_some]
  rw [recover_eq b4]
  simp only [Option.bind_some]
  rw [recover_b]
  rfl

theorem law04_WalScans_true (seg : Int) (s : Str) (os : okK .i64 seg) (b : 1 + (s.length + 1) ≤ 1048576) : law04_WalScans seg s = some true := by
  have hs := i64_of os
  have hl := scanL_len s
  unfold law04_WalScans
  rw [shown04, scan_eq (by omega), rscan_eq (by omega)]
  simp only [Option.bind_some]
  rw [rows_eq _ _ (by omega), name_eq hs, rname_eq hs]
  simp
theorem law04_WalPuts_true (d : Disk) (seg : Int) (rec : Str) (od : okDisk d) (os : okK .i64 seg) (b : bkDisk d + 1 + (rec.length + 1) ≤ 1048576) : law04_WalPuts d seg rec = some true := by
  have hd := db_of od (by omega)
  have hs := i64_of os
  unfold law04_WalPuts
  rw [shown04, put_eq hd.ok hs, rput_eq hd.ok hs, wsync_eq hd.ok hs, rwsync_eq hd.ok hs]
  simp only [Option.bind_some]
  rw [rsame_eq (put_db hd seg rec).ok.len, rsame_eq (wsync_db hd seg).ok.len]
  simp
theorem law04_WalRecovers_true (d : Disk) (f t : Int) (od : okDisk d) (of_ : okK .i64 f) (ot : okK .i64 t) (b : bkDisk d + 1 + 1 ≤ 1048576) : law04_WalRecovers d f t = some true := by
  have hd := db_of od (by omega)
  have hl := recover_len hd f
  unfold law04_WalRecovers
  rw [shown04, recover_eq hd, rrecover_eq hd]
  simp only [Option.bind_some]
  rw [rsame_eq (recover_db hd f).ok.len, rows_eq _ _ (by omega), drop_eq hd.ok (i64_of of_), rdrop_eq hd.ok (i64_of of_)]
  simp only [Option.bind_some]
  rw [rsame_eq (drop_db hd f t).ok.len]
  simp

/-! ### Scans of whole records, and of beginnings -/
theorem scanned_app {l : List Str} (h : ∀ t ∈ l, t.length ≤ 2048) (x : Str) : scanL (sealAll l ++ x) = l ++ scanL x ∧ scanP (sealAll l ++ x) = (sealAll l).length + scanP x := by
  obtain ⟨r, hr, e⟩ := scanned x
  obtain ⟨_, e2, e3⟩ := hr.eq
  have k : scanL (sealAll l ++ x) = l ++ scanL x := by
    refine scanL_of (r := r) (scanned_of _ _ _ ?_ (fun t ht => ?_) e3)
    · rw [sealAll_append, List.append_assoc, ← e]
    · rcases List.mem_append.1 ht with ht | ht
      · exact h t ht
      · exact e2 t ht
  refine ⟨k, ?_⟩
  unfold scanP
  rw [k, sealAll_append, List.length_append]
theorem scanL_small (s : Str) : ∀ t ∈ scanL s, t.length ≤ 2048 := by
  obtain ⟨r, hr, _⟩ := scanned s
  exact hr.eq.2.1
theorem open_part {t : Str} (ht : t.length < 1099511627776) {k : Nat} (hk : k < (sealM t).length) : (openM ((sealM t).take k) 2048).2.2 ≠ 0 := by
  intro h
  have hm := m64
  obtain ⟨e1, e2, e3⟩ := open_inv (most := 2048) h
  have a1 := open_seal (t := t) (most := 9223372036854775807) (by omega) (by omega) []
  rw [List.append_nil, ← List.take_append_drop k (sealM t)] at a1
  generalize hq : (sealM t).drop k = q at a1
  have hql : 0 < q.length := by rw [← hq, List.length_drop]; omega
  rw [e1, List.append_assoc, open_seal (most := 9223372036854775807) e3 (by omega)] at a1
  have := congrArg (fun x => x.2.1.length) a1
  simp only [List.length_append, List.length_nil] at this
  omega
theorem scan_part {t : Str} (ht : t.length < 1099511627776) {k : Nat} (hk : k < (sealM t).length) : scanL ((sealM t).take k) = [] :=
  scanL_of (.stop (open_part ht hk))
theorem cuts_loop {l : List Str} (hl : ∀ t ∈ l, t.length ≤ 1048576) (hn : l.length ≤ 1048576) : loop (fun (s123 : Str × Int) => law04_WalCut_l2 l s123.1 s123.2) (([] : Str), (0 : Int)) = some (if ∀ t ∈ l, t.length ≤ 2048 then .inr (sealAll l) else .inl ()) := by
  have key : ∀ (m k : Nat), k + m = l.length → (∀ t ∈ l.take k, t.length ≤ 2048) → (sealAll (l.take k)).length ≤ k * 2092 →
      loop (fun (s123 : Str × Int) => law04_WalCut_l2 l s123.1 s123.2) (sealAll (l.take k), (k : Int)) = some (if ∀ t ∈ l, t.length ≤ 2048 then .inr (sealAll l) else .inl ()) := by
    intro m
    induction m with
    | zero =>
      intro k hk h1 h2
      have hkl : k = l.length := by omega
      subst hkl
      rw [List.take_length] at h1 ⊢
      rw [if_pos h1]
      refine loop_inr ?_
      simp only
      unfold law04_WalCut_l2
      rw [if_neg (by simp)]
    | succ m ih =>
      intro k hk h1 h2
      have hlt : k < l.length := by omega
      have hg := List.getElem?_eq_getElem hlt
      have htk : l.take (k + 1) = l.take k ++ [l[k]] := List.take_succ_eq_append_getElem hlt
      by_cases hb : l[k].length ≤ 2048
      · have hsl := sealM_len (s := l[k]) (by omega)
        rw [loop_inl (s' := (sealAll (l.take (k + 1)), ((k + 1 : Nat) : Int)))]
        · refine ih (k + 1) (by omega) (fun t ht => ?_) ?_
          · rw [htk] at ht
            rcases List.mem_append.1 ht with ht | ht
            · exact h1 t ht
            · simp at ht; subst ht; exact hb
          · rw [htk, sealAll_append, List.length_append]
            simp only [sealAll, List.append_nil]
            omega
        · simp only
          unfold law04_WalCut_l2
          rw [if_pos (by simpa using hlt), ix_at hg]
          simp only [Option.bind_some]
          rw [if_neg (by simp; omega), rseal_eq (by omega)]
          simp only [Option.bind_some]
          rw [need_pos (by omega), IntWalk.i64_in _ ⟨by omega, by omega⟩, htk, sealAll_append]
          simp only [sealAll, List.append_nil]
          rfl
      · rw [if_neg (fun h => hb (h _ (List.getElem_mem hlt)))]
        refine loop_inr ?_
        simp only
        unfold law04_WalCut_l2
        rw [if_pos (by simpa using hlt), ix_at hg]
        simp only [Option.bind_some]
        rw [if_pos (by simp; omega)]
  have := key l.length 0 (by omega) (by simp) (by simp [sealAll])
  simpa [sealAll] using this
theorem sealAll_bound {l : List Str} (h : ∀ t ∈ l, t.length ≤ 2048) : (sealAll l).length ≤ l.length * 2092 := by
  induction l with
  | nil => simp [sealAll]
  | cons t l ih =>
    have h1 := h t (List.mem_cons_self ..)
    have := sealM_len (s := t) (by omega)
    have := ih (fun x hx => h x (List.mem_cons_of_mem _ hx))
    simp only [sealAll, List.length_append, List.length_cons]; omega
theorem law04_WalCut_true (l : List Str) (rec : Str) (c : Int) (oc : okK .i64 c) (b : (sumOf (fun t => (t.length + 1)) l + 1) + (rec.length + 1) + 1 ≤ 1048576) : law04_WalCut l rec c = some true := by
  have hn := sumOf_len (f := fun t : Str => (t.length + 1)) (fun x => by omega) l
  have hm : ∀ t ∈ l, t.length ≤ 1048576 := fun t ht => by have := sumOf_mem (f := fun t : Str => (t.length + 1)) ht; omega
  have hrl := sealM_len (s := rec) (by omega)
  unfold law04_WalCut
  rw [shown04]
  simp only [Option.bind_some]
  rw [cuts_loop hm (by omega)]
  simp only [Option.bind_some]
  by_cases hs : ∀ t ∈ l, t.length ≤ 2048
  · have hb := sealAll_bound hs
    rw [if_pos hs]
    simp only
    rw [rseal_eq (by omega)]
    simp only [Option.bind_some]
    by_cases hc : c < 0 ∨ ((sealM rec).length : Int) ≤ c
    · rw [if_pos (by simpa using hc)]
    · rw [if_neg (by simpa using hc), need_pos (by omega), cut_head, need_pos (by rw [List.length_take]; omega), scan_eq (by rw [List.length_append, List.length_take]; omega)]
      simp only [Option.bind_some]
      have k := scanned_app hs ((sealM rec).take c.toNat)
      have e := scan_part (t := rec) (by omega) (k := c.toNat) (by omega)
      have e2 : scanP ((sealM rec).take c.toNat) = 0 := by unfold scanP; rw [e]; rfl
      rw [k.1, k.2, e, e2, List.append_nil, rows_eq _ _ (by omega)]
      simp
  · rw [if_neg hs]
theorem law04_WalJoins_true (a b : Str) (hb : (a.length + 1) + (b.length + 1) ≤ 1048576) : law04_WalJoins a b = some true := by
  have l1 := scanL_len a
  have l2 := scanL_len b
  have p1 := scanP_le a
  have p2 := scanP_le b
  obtain ⟨r, hr, e⟩ := scanned a
  have hsm := scanL_small a
  have hel := congrArg List.length e
  rw [List.length_append] at hel
  have hpe : scanP a = (sealAll (scanL a)).length := rfl
  unfold law04_WalJoins
  rw [shown04, scan_eq (by omega), scan_eq (s := b) (by omega)]
  simp only [Option.bind_some]
  rw [need_pos (by omega), scan_eq (by rw [List.length_append]; omega)]
  simp only [Option.bind_some]
  by_cases hc : scanP a < a.length
  · rw [if_pos (by simp; omega)]
    have k := scanned_app hsm (r ++ b)
    rw [← List.append_assoc, ← e] at k
    rw [k.1, k.2, if_pos trivial, if_pos (decide_eq_true (by rw [List.length_append]; omega)), decide_eq_true (by omega)]
  · rw [if_neg (by simp; omega)]
    have hr0 : r = [] := List.length_eq_zero_iff.1 (by omega)
    subst hr0
    rw [List.append_nil] at e
    have k := scanned_app hsm b
    rw [← e] at k
    rw [need_pos (by simp; omega), need_pos (by simp; omega), k.1, k.2, rows_eq _ _ (by rw [List.length_append]; omega)]
    simp only [if_true, Option.bind_some, List.nil_append, decide_true]
    rw [IntWalk.i64_in _ ⟨by omega, by omega⟩]
    simp
    omega

/-! ### Rooms -/
theorem law04_WalRooms_true (room : Int) (l : List Str) (orr : okK .i64 room) (b : 1 + (sumOf (fun t => (t.length + 1)) l + 1) ≤ 1048576) : law04_WalRooms room l = some true := by
  have hr := i64_of orr
  unfold law04_WalRooms
  rw [shown04, rnew_eq]
  simp only [Option.bind_some]
  by_cases h0 : (newM room).2 = 0
  · rw [if_neg (by simp [h0])]
    have key : ∀ (m k : Nat) (seg : Int) (d : Disk), k + m = 100 → 1 ≤ seg → seg ≤ k + 1 → DB d →
        loop (fun (s563 : Int × Int × (List File) × Int × Int × Bool) => law04_WalRooms_l2 l s563.1 s563.2.1 s563.2.2.1 s563.2.2.2.1 s563.2.2.2.2.1 s563.2.2.2.2.2) (seg, (k : Int), d.Files, d.Room, d.Fuse, d.Off) = some (.inr ()) := by
      intro m
      induction m with
      | zero =>
        intro k seg d hk h1 h2 hd
        refine loop_inr ?_
        simp only
        unfold law04_WalRooms_l2
        rw [if_neg (by simp; omega)]
      | succ m ih =>
        intro k seg d hk h1 h2 hd
        by_cases hkl : k < l.length
        · have hg := List.getElem?_eq_getElem hkl
          have hm : mayM seg = true := by rw [mayM_iff]; omega
          have hm2 : mayM (seg + 1) = true := by rw [mayM_iff]; omega
          have hp : ((wputM d seg l[k]).2.1 = seg ∨ (wputM d seg l[k]).2.1 = seg + 1) ∧ ((wputM d seg l[k]).2.2 = 0 → ((wputM d seg l[k]).2.1 = seg ↔ (readM d (nameM seg)).1.length < 256)) := by
            unfold wputM
            rw [if_neg (by simp [hm])]
            split
            · exact ⟨.inl rfl, fun h => by simp at h⟩
            split
            · rename_i h6
              split
              · rename_i hz; exact ⟨.inl rfl, fun h => absurd h hz⟩
              · rw [if_neg (by simp [hm2])]
                refine ⟨.inr rfl, fun _ => ⟨fun h => ?_, fun h => ?_⟩⟩
                · simp only at h; omega
                · omega
            · rename_i h6
              exact ⟨.inl rfl, fun _ => ⟨fun _ => by omega, fun _ => rfl⟩⟩
          have hs : law04_WalRooms_l2 l seg (k : Int) d.Files d.Room d.Fuse d.Off = some (.inl ((wputM d seg l[k]).2.1, ((k + 1 : Nat) : Int), (wputM d seg l[k]).1.Files, (wputM d seg l[k]).1.Room, (wputM d seg l[k]).1.Fuse, (wputM d seg l[k]).1.Off)) := by
            unfold law04_WalRooms_l2
            rw [if_pos (by simp; omega), name_eq ⟨by omega, by omega⟩]
            simp only [Option.bind_some]
            rw [rread_eq hd.ok]
            simp only [Option.bind_some]
            rw [ix_at hg]
            simp only [Option.bind_some]
            rw [put_eq hd.ok ⟨by omega, by omega⟩]
            simp only [Option.bind_some]
            rw [if_neg (by
              simp only [Bool.and_eq_true, decide_eq_true_eq, Bool.not_eq_true', beq_eq_false_iff_ne, ne_eq, decide_eq_decide]
              rintro ⟨x, y⟩
              refine y ((hp.2 x).trans ?_)
              omega), IntWalk.i64_in (seg + 1) ⟨by omega, by omega⟩, if_neg (by
              simp only [Bool.and_eq_true, Bool.not_eq_true', decide_eq_false_iff_not]
              rintro ⟨x, y⟩
              rcases hp.1 with h | h
              · exact x h
              · exact y h), IntWalk.i64_in _ ⟨by omega, by omega⟩]
            rfl
          rw [loop_inl hs]
          exact ih (k + 1) _ _ (by omega) (by rcases hp.1 with h | h <;> omega) (by rcases hp.1 with h | h <;> omega) (put_db hd _ _)
        · refine loop_inr ?_
          simp only
          unfold law04_WalRooms_l2
          rw [if_neg (by simp; omega)]
    have := key 100 0 1 (newM room).1 (by omega) (by omega) (by omega) (new_db hr)
    simp only [Int.natCast_zero, Int.ofNat_eq_natCast] at this
    rw [this]
    rfl
  · rw [if_pos (by simp [h0])]

/-! ### Drops -/
theorem dropT_apart (to : Int) (n : Str) (m : Nat) : ∀ (d : Disk) (k : Int), (∀ j, k ≤ j → j < to → nameM j ≠ n) → has (dropT to m d k).1.Files n = has d.Files n ∧ fileAt (dropT to m d k).1.Files n = fileAt d.Files n := by
  induction m with
  | zero => intro d k h; exact ⟨rfl, rfl⟩
  | succ m ih =>
    intro d k h
    unfold dropT
    split
    · exact ⟨rfl, rfl⟩
    · rename_i hk
      have hne : n ≠ nameM k := fun e => h k (by omega) (by omega) e.symm
      have hd := delete_apart (d := d) hne
      split
      · exact ih d (k + 1) (fun j h1 h2 => h j (by omega) h2)
      · split
        · exact hd
        · have := ih (deleteM d (nameM k)).1 (k + 1) (fun j h1 h2 => h j (by omega) h2)
          rw [this.1, this.2]; exact hd
theorem names_loop (w : WalDropsIn) (m : Nat) : ∀ (k : Int), In64 k → 1 ≤ k → (w.To ≤ k ∨ k + m = w.To) → w.To ≤ 2000 →
    loop (fun (s79 : Int) => law04_WalDrops_l2 w s79) k = some (.inl () : Unit ⊕ Unit) ∨ (loop (fun (s79 : Int) => law04_WalDrops_l2 w s79) k = some (.inr () : Unit ⊕ Unit) ∧ ∀ j, k ≤ j → j < w.To → nameM j ≠ w.Name) := by
  induction m with
  | zero =>
    intro k hk h1 h2 h3
    refine .inr ⟨loop_inr ?_, fun j a b => by omega⟩
    unfold law04_WalDrops_l2
    rw [if_neg (by simp; omega)]
  | succ m ih =>
    intro k hk h1 h2 h3
    by_cases ht : w.To ≤ k
    · refine .inr ⟨loop_inr ?_, fun j a b => by omega⟩
      unfold law04_WalDrops_l2
      rw [if_neg (by simp; omega)]
    · by_cases he : nameM k = w.Name
      · refine .inl (loop_inr ?_)
        unfold law04_WalDrops_l2
        rw [if_pos (by simp; omega), name_eq hk]
        simp only [Option.bind_some]
        rw [if_pos (by simpa using he)]
      · have hs : law04_WalDrops_l2 w k = some (.inl (k + 1)) := by
          unfold law04_WalDrops_l2
          rw [if_pos (by simp; omega), name_eq hk]
          simp only [Option.bind_some]
          rw [if_neg (by simpa using he), IntWalk.i64_in _ ⟨by omega, by omega⟩]
        rw [loop_inl hs]
        rcases ih (k + 1) ⟨by omega, by omega⟩ (by omega) (by omega) h3 with h | ⟨h, hj⟩
        · exact .inl h
        · refine .inr ⟨h, fun j a b => ?_⟩
          by_cases hjk : j = k
          · subst hjk; exact he
          · exact hj j (by omega) b
theorem law04_WalDrops_true (w : WalDropsIn) (o : okWalDropsIn w) (b : bkWalDropsIn w ≤ 1048576) : law04_WalDrops w = some true := by
  unfold bkWalDropsIn at b
  have hd := db_of o.1 (by omega)
  have hf := i64_of o.2.1
  have ht := i64_of o.2.2
  unfold law04_WalDrops
  rw [shown04]
  simp only [Option.bind_some]
  by_cases hc : 2000 < w.To ∨ w.From < 1
  · rw [if_pos (by simpa using hc)]
  · rw [if_neg (by simpa using hc), drop_eq hd.ok hf]
    simp only [Option.bind_some]
    by_cases hz : (wdropM w.D w.From w.To).2 = 0
    · rw [if_neg (by simp [hz]), rfind_eq hd.ok.len]
      simp only [Option.bind_some]
      rw [rfind_eq (drop_db hd w.From w.To).ok.len]
      simp only [Option.bind_some]
      rcases names_loop w (w.To - w.From).toNat w.From hf (by omega) (by omega) (by omega) with h | ⟨h, hj⟩
      · rw [h]; rfl
      · rw [h]
        have hif : (if w.From < 1 then 1 else w.From) = w.From := if_neg (by omega)
        have := dropT_apart w.To w.Name (1000001 - w.From).toNat w.D w.From hj
        unfold wdropM
        rw [hif, this.1, this.2]
        simp
    · rw [if_pos (by simp [hz])]
end Go.Ab
