/- The last law of chapter 04: the world of the statement, step by step (plain). -/
import Derived.Test.YtocklkkdgldlaaaPWal6
namespace Go.Ab
set_option linter.unusedVariables false
set_option linter.unusedSimpArgs false

def Inv (k : Nat) (w : World_) : Prop := ∃ pre cur tl, Log w.D pre cur tl ∧ w.Seg = ((pre.length + 1 : Nat) : Int) ∧ w.Put = pre.flatten ++ cur ∧ w.D.Off = w.Dead ∧ (w.Dead = false → tl = []) ∧
  (∃ j, j ≤ cur.length ∧ (sealAll (cur.take j)).length ≤ (fileAt w.D.Files (nm (pre.length + 1))).Safe.length ∧ w.Safe ≤ ((pre.flatten.length + j : Nat) : Int)) ∧ pre.length ≤ k ∧ w.Put.length ≤ k
theorem Inv.mono {k : Nat} {w : World_} (h : Inv k w) : Inv (k + 1) w := by
  obtain ⟨pre, cur, tl, h1, h2, h3, h4, h5, h6, h7, h8⟩ := h
  exact ⟨pre, cur, tl, h1, h2, h3, h4, h5, h6, by omega, by omega⟩
theorem inv_append {k : Nat} {d : Disk} {pre : List (List Str)} {cur : List Str} {s : Str} {safe : Int} (h : Log d pre cur []) (hoff : d.Off = false) (hs : s.length ≤ 2048)
    (hput : (pre.flatten ++ cur).length ≤ k) (hpre : pre.length ≤ k + 1)
    (hsafe : ∃ j, j ≤ cur.length ∧ (sealAll (cur.take j)).length ≤ (fileAt d.Files (nm (pre.length + 1))).Safe.length ∧ safe ≤ ((pre.flatten.length + j : Nat) : Int)) :
    Inv (k + 1) ⟨(appendM d (nm (pre.length + 1)) (sealM s)).1, ((pre.length + 1 : Nat) : Int), if (appendM d (nm (pre.length + 1)) (sealM s)).2 = 0 then (pre.flatten ++ cur) ++ [s] else pre.flatten ++ cur, safe, decide ((appendM d (nm (pre.length + 1)) (sealM s)).2 = 6)⟩ := by
  rcases h.append hoff hs with ⟨a1, a2, a3⟩ | ⟨a0, ⟨a1, a2, a3⟩ | ⟨a1, ⟨tl, a2⟩, a3⟩⟩
  · rw [a1, if_neg a2, decide_eq_false a3]
    exact ⟨pre, cur, [], h, rfl, rfl, hoff, fun _ => rfl, hsafe, hpre, by simp only; omega⟩
  · rw [if_pos a1, a1]
    obtain ⟨j, j1, j2, j3⟩ := hsafe
    refine ⟨pre, cur ++ [s], [], a2, rfl, by simp only; rw [List.append_assoc], a3, fun _ => rfl, ⟨j, by simp; omega, ?_, j3⟩, hpre, by simp only [List.length_append, List.length_cons, List.length_nil] at hput ⊢; omega⟩
    simp only
    rw [a0, List.take_append_of_le_length j1]; exact j2
  · rw [a1, if_neg (by decide)]
    refine ⟨pre, cur, tl, a2, rfl, rfl, a3, fun hx => by (cases hx), ?_, hpre, by simp only; omega⟩
    simp only
    rw [a0]; exact hsafe
theorem inv_put {k : Nat} {w : World_} (h : Inv k w) (hk : k < 1000) (hd : w.Dead = false) (s : Str) : Inv (k + 1) ⟨(wputM w.D w.Seg s).1, (wputM w.D w.Seg s).2.1, if (wputM w.D w.Seg s).2.2 = 0 then w.Put ++ [s] else w.Put,
    if (wputM w.D w.Seg s).2.1 = w.Seg then w.Safe else (w.Put.length : Int), decide ((wputM w.D w.Seg s).2.2 = 6)⟩ := by
  have hall := h
  obtain ⟨pre, cur, tl, h1, h2, h3, h4, h5, h6, h7, h8⟩ := h
  obtain ⟨D, Seg, Put, Safe, Dead⟩ := w
  simp only at h1 h2 h3 h4 h5 h6 h7 h8 hd ⊢
  subst hd
  obtain rfl := h5 rfl
  subst h2 h3
  have hm2 : mayM (((pre.length + 1 : Nat) : Int) + 1) = true := by rw [mayM_iff]; omega
  unfold wputM
  rw [if_neg (show ¬ mayM ((pre.length + 1 : Nat) : Int) = false from fun x => by rw [h1.may] at x; cases x)]
  by_cases hr : 2048 < s.length
  · rw [if_pos hr]
    simp only [if_true]
    rw [if_neg (by decide), decide_eq_false (by decide)]
    exact hall.mono
  rw [if_neg hr]
  by_cases h9 : 256 ≤ (readM D (nameM ((pre.length + 1 : Nat) : Int))).1.length
  · rw [if_pos h9]
    have hh : has D.Files (nm (pre.length + 1)) = true := by
      cases hx : has D.Files (nm (pre.length + 1)) with
      | true => rfl
      | false => rw [read_not hx] at h9; simp at h9
    obtain ⟨y1, y2, y3, y4, y5⟩ := h1.sync h4 hh
    rw [if_neg (show ¬ (syncM D (nameM ((pre.length + 1 : Nat) : Int))).2 ≠ 0 from fun x => x y1), if_neg (show ¬ mayM (((pre.length + 1 : Nat) : Int) + 1) = false from fun x => by rw [hm2] at x; cases x)]
    have hn := y2.next y4 (by rw [y5]) (by omega)
    have e : (((pre.length + 1 : Nat) : Int) + 1) = (((pre ++ [cur]).length + 1 : Nat) : Int) := by simp
    simp only
    rw [if_neg (show ¬ (((pre.length + 1 : Nat) : Int) + 1) = ((pre.length + 1 : Nat) : Int) by omega), e]
    have := inv_append (k := k) (s := s) (safe := (((pre.flatten ++ cur).length : Nat) : Int)) hn.1 y3 (by omega) (by simpa using h8) (by simp; omega) ⟨0, Nat.le_refl _, by simp [sealAll], by simp⟩
    simp only [List.flatten_append, List.flatten_cons, List.flatten_nil, List.append_nil] at this
    exact this
  · rw [if_neg h9]
    simp only [if_true]
    exact inv_append h1 h4 (by omega) h8 (by omega) h6
theorem inv_sync {k : Nat} {w : World_} (h : Inv k w) : Inv (k + 1) ⟨(wsyncM w.D w.Seg).1, w.Seg, w.Put, if (wsyncM w.D w.Seg).2 = 0 ∧ w.Dead = false then (w.Put.length : Int) else w.Safe, w.Dead⟩ := by
  have hall := h
  obtain ⟨pre, cur, tl, h1, h2, h3, h4, h5, h6, h7, h8⟩ := h
  obtain ⟨D, Seg, Put, Safe, Dead⟩ := w
  simp only at h1 h2 h3 h4 h5 h6 h7 h8 ⊢
  subst h2 h3
  unfold wsyncM
  cases hh : has D.Files (nameM ((pre.length + 1 : Nat) : Int)) with
  | false =>
    obtain ⟨rfl, rfl⟩ := h1.out hh
    rw [if_pos rfl]
    refine ⟨pre, [], [], h1, rfl, rfl, h4, fun _ => rfl, ⟨0, Nat.le_refl _, by simp [sealAll], ?_⟩, by omega, by simp only; omega⟩
    obtain ⟨j, j1, j2, j3⟩ := h6
    simp only [List.length_nil] at j1
    simp only [List.append_nil]
    split <;> omega
  | true =>
    rw [if_neg (by simp)]
    cases hd : Dead with
    | true =>
      subst hd
      have e : syncM D (nameM ((pre.length + 1 : Nat) : Int)) = (D, 6) := by unfold syncM; rw [if_pos h4]
      rw [e, if_neg (by simp)]
      exact hall.mono
    | false =>
      subst hd
      obtain rfl := h5 rfl
      obtain ⟨y1, y2, y3, y4, y5⟩ := h1.sync h4 hh
      rw [if_pos ⟨y1, rfl⟩]
      refine ⟨pre, cur, [], y2, rfl, rfl, y3, fun _ => rfl, ⟨cur.length, Nat.le_refl _, ?_, by simp⟩, by omega, by simp only; omega⟩
      simp only
      rw [List.take_length, y5]; simp
theorem inv_arm {k : Nat} {w : World_} (h : Inv k w) {n : Int} (hn : In64 n) : Inv (k + 1) ⟨armM w.D n, w.Seg, w.Put, w.Safe, w.Dead⟩ := by
  obtain ⟨pre, cur, tl, h1, h2, h3, h4, h5, h6, h7, h8⟩ := h
  exact ⟨pre, cur, tl, h1.files (arm_db h1.db hn) rfl, h2, h3, h4, h5, h6, by omega, by simp only; omega⟩
theorem inv_crash {k : Nat} {w : World_} (h : Inv k w) (keeps : List Int) : (recoverM (crashM w.D keeps) 1).2.2.2 = 5 ∨ ∃ d2 out seg, recoverM (crashM w.D keeps) 1 = (d2, out, seg, 0) ∧ recoverM d2 1 = (d2, out, seg, 0) ∧ (∃ rest, w.Put = out ++ rest) ∧ w.Safe ≤ (out.length : Int) ∧
    Inv (k + 1) ⟨d2, seg, out, w.Safe, false⟩ := by
  obtain ⟨pre, cur, tl, h1, h2, h3, h4, h5, h6, h7, h8⟩ := h
  obtain ⟨j, r, j1, l1, l2, l3⟩ := h1.crash keeps
  rcases recover_lasts l1 rfl rfl l2 with hr | ⟨d2, pre2, cur2, r1, r2, r3, r4, r5, r6, r7⟩
  · exact .inl hr
  obtain ⟨i, i1, i2, i3⟩ := h6
  have hij := l3 i i1 i2
  have hl := congrArg List.length r4
  have hl3 := congrArg List.length h3
  simp only [List.length_append, List.length_take] at hl hl3
  refine .inr ⟨d2, _, _, r1, r2, ⟨cur.drop j, by rw [h3, List.append_assoc, List.take_append_drop]⟩, by simp only [List.length_append, List.length_take]; omega, pre2, cur2, [], r3, rfl, r4.symm, r6, fun _ => rfl, ⟨cur2.length, Nat.le_refl _, ?_, ?_⟩, by omega, ?_⟩
  · have e := r3.now
    rw [r7, List.append_nil, List.append_nil] at e
    simp only
    rw [List.take_length, e]; omega
  · simp only; omega
  · simp only [List.length_append, List.length_take]; omega

theorem does_step {k : Nat} {w : World_} (h : Inv k w) (hk : k < 1000) (a : Act) (ha : In64 a.N) : ∃ w2, law04_does w a = some w2 ∧ Inv (k + 1) w2 := by
  have hdb : DB w.D := by obtain ⟨pre, cur, tl, h1, _⟩ := h; exact h1.db
  have hseg : In64 w.Seg := by obtain ⟨pre, cur, tl, h1, h2, h3, h4, h5, h6, h7, h8⟩ := h; rw [h2]; exact ⟨by omega, by omega⟩
  have hlen : w.Put.length ≤ k := by obtain ⟨pre, cur, tl, h1, h2, h3, h4, h5, h6, h7, h8⟩ := h; exact h8
  unfold law04_does
  by_cases k1 : a.Kind = 1
  · rw [if_pos (by simpa using k1)]
    cases hd : w.Dead with
    | true => exact ⟨w, rfl, h.mono⟩
    | false =>
      refine ⟨_, ?_, inv_put h hk hd a.S⟩
      rw [if_neg (by simp), put_eq hdb.ok hseg]
      simp only [Option.bind_some]
      by_cases hz : (wputM w.D w.Seg a.S).2.2 = 0
      · rw [if_pos (show decide ((wputM w.D w.Seg a.S).2.2 = 0) = true by simp [hz]), if_pos hz, need_pos (by simp; omega), need_pos (by simp; omega)]
        simp only [Option.bind_some, List.nil_append]
        by_cases hs : (wputM w.D w.Seg a.S).2.1 = w.Seg
        · rw [if_neg (show ¬ (!decide ((wputM w.D w.Seg a.S).2.1 = w.Seg)) = true by simp [hs]), if_pos hs]
        · rw [if_pos (show (!decide ((wputM w.D w.Seg a.S).2.1 = w.Seg)) = true by simp [hs]), if_neg hs]
      · rw [if_neg (show ¬ decide ((wputM w.D w.Seg a.S).2.2 = 0) = true by simp [hz]), if_neg hz]
        simp only [Option.bind_some, List.nil_append]
        by_cases hs : (wputM w.D w.Seg a.S).2.1 = w.Seg
        · rw [if_neg (show ¬ (!decide ((wputM w.D w.Seg a.S).2.1 = w.Seg)) = true by simp [hs]), if_pos hs]
        · rw [if_pos (show (!decide ((wputM w.D w.Seg a.S).2.1 = w.Seg)) = true by simp [hs]), if_neg hs]
  rw [if_neg (by simpa using k1)]
  by_cases k2 : a.Kind = 2
  · rw [if_pos (by simpa using k2), wsync_eq hdb.ok hseg]
    refine ⟨_, ?_, inv_sync h⟩
    simp only [Option.bind_some]
    by_cases hc : (wsyncM w.D w.Seg).2 = 0 ∧ w.Dead = false
    · rw [if_pos (show (decide ((wsyncM w.D w.Seg).2 = 0) && !w.Dead) = true by simp [hc.1, hc.2]), if_pos hc]
      rfl
    · rw [if_neg (show ¬ (decide ((wsyncM w.D w.Seg).2 = 0) && !w.Dead) = true by simpa using hc), if_neg hc]
      rfl
  rw [if_neg (by simpa using k2)]
  by_cases k3 : a.Kind = 3
  · rw [if_pos (by simpa using k3), rarm_eq]
    exact ⟨_, rfl, inv_arm h ha⟩
  rw [if_neg (by simpa using k3)]
  exact ⟨w, rfl, h.mono⟩
theorem begins_eq {out rest b : List Str} (hb : b = out ++ rest) (hl : b.length ≤ 1000000) : law04_begins out b = some true := by
  subst hb
  rw [List.length_append] at hl
  unfold law04_begins
  rw [if_pos (by simp; omega), need_pos (by simp; omega)]
  have e : cut (out ++ rest) 0 (out.length : Int) = out := by simp [cut]
  rw [e, rows_eq _ _ (by omega)]
  simp
theorem same_loop (fs : List File) (x : Act) (hl : fs.length ≤ 1073741824) : loop (fun (s2250 : Int × (List Int)) => law04_WalLasts_l38 fs x s2250.1 s2250.2) ((0 : Int), ([] : (List Int))) = some (List.replicate fs.length x.N) := by
  have := count_loop (fun (s2250 : Int × (List Int)) => law04_WalLasts_l38 fs x s2250.1 s2250.2) (fun k => ((k : Int), List.replicate k x.N)) fs.length (List.replicate fs.length x.N)
    (fun k hk => by
      simp only
      unfold law04_WalLasts_l38
      rw [if_pos (by simpa using hk), need_pos (by rw [List.length_replicate]; omega), IntWalk.i64_in _ ⟨by omega, by omega⟩, ← List.replicate_succ']
      rfl)
    (by
      simp only
      unfold law04_WalLasts_l38
      rw [if_neg (by simp)])
  exact this
noncomputable abbrev lastS (l : List Act) := fun (s1940 : Int × (List File) × Int × Int × Bool × Int × (List Str) × Int × Bool) => law04_WalLasts_l32 l s1940.1 s1940.2.1 s1940.2.2.1 s1940.2.2.2.1 s1940.2.2.2.2.1 s1940.2.2.2.2.2.1 s1940.2.2.2.2.2.2.1 s1940.2.2.2.2.2.2.2.1 s1940.2.2.2.2.2.2.2.2
theorem lasts_loop (l : List Act) (hl : ∀ a ∈ l, In64 a.N) : ∀ (m k : Nat) (w : World_), k + m = 150 → Inv k w →
    loop (lastS l) ((k : Int), w.D.Files, w.D.Room, w.D.Fuse, w.D.Off, w.Seg, w.Put, w.Safe, w.Dead) = some (.inl true) ∨ loop (lastS l) ((k : Int), w.D.Files, w.D.Room, w.D.Fuse, w.D.Off, w.Seg, w.Put, w.Safe, w.Dead) = some (.inr ()) := by
  intro m
  induction m with
  | zero =>
    intro k w hk h
    refine .inr (loop_inr ?_)
    simp only [lastS]
    unfold law04_WalLasts_l32
    rw [if_neg (by simp; omega)]
  | succ m ih =>
    intro k w hk h
    by_cases hkl : k < l.length
    · have hg := List.getElem?_eq_getElem hkl
      have hN := hl _ (List.getElem_mem hkl)
      by_cases k4 : l[k].Kind = 4
      · have hdb : DB w.D := by obtain ⟨pre, cur, tl, h1, _⟩ := h; exact h1.db
        have hlen : w.Put.length ≤ k := by obtain ⟨pre, cur, tl, h1, h2, h3, h4, h5, h6, h7, h8⟩ := h; exact h8
        have hcr := crash_db hdb (List.replicate w.D.Files.length l[k].N)
        have hc : (ref03_Crash ({ Files := w.D.Files, Room := w.D.Room, Fuse := w.D.Fuse, Off := w.D.Off } : Disk) (List.replicate w.D.Files.length l[k].N)) = some (crashM w.D (List.replicate w.D.Files.length l[k].N)) := rcrash_eq hdb.ok _
        rcases inv_crash h (List.replicate w.D.Files.length l[k].N) with h5 | ⟨d2, out, seg, e1, e2, ⟨rest, e3⟩, e4, e5⟩
        · refine .inl (loop_inr ?_)
          simp only [lastS]
          unfold law04_WalLasts_l32
          rw [if_pos (show (decide ((k : Int) < (l.length : Int)) && decide ((k : Int) < 150)) = true by simp; omega), ix_at hg]
          simp only [Option.bind_some]
          rw [if_neg (show ¬ (!decide (l[k].Kind = 4)) = true by simp [k4]), same_loop _ _ hdb.ok.lenS]
          simp only [Option.bind_some]
          rw [hc]
          simp only [Option.bind_some]
          rw [recover_eq hcr]
          simp only [Option.bind_some]
          rw [if_pos (show decide ((recoverM (crashM w.D (List.replicate w.D.Files.length l[k].N)) 1).2.2.2 = 5) = true by simp [h5])]
          rfl
        · have hd2 := recover_db hcr 1
          rw [e1] at hd2
          simp only at hd2
          have hout := congrArg List.length e3
          rw [List.length_append] at hout
          have hs : lastS l ((k : Int), w.D.Files, w.D.Room, w.D.Fuse, w.D.Off, w.Seg, w.Put, w.Safe, w.Dead) = some (.inl (((k + 1 : Nat) : Int), d2.Files, d2.Room, d2.Fuse, d2.Off, seg, out, w.Safe, false)) := by
            simp only [lastS]
            unfold law04_WalLasts_l32
            rw [if_pos (show (decide ((k : Int) < (l.length : Int)) && decide ((k : Int) < 150)) = true by simp; omega), ix_at hg]
            simp only [Option.bind_some]
            rw [if_neg (show ¬ (!decide (l[k].Kind = 4)) = true by simp [k4]), same_loop _ _ hdb.ok.lenS]
            simp only [Option.bind_some]
            rw [hc]
            simp only [Option.bind_some]
            rw [recover_eq hcr, e1]
            simp only [Option.bind_some]
            rw [if_neg (show ¬ decide ((0 : Int) = 5) = true by decide), begins_eq e3 (by omega)]
            simp only [Option.bind_some]
            rw [if_neg (by simp; omega), recover_eq hd2, e2]
            simp only [Option.bind_some]
            rw [rows_eq _ _ (by omega)]
            simp only [Option.bind_some]
            rw [rsame_eq (by have := hd2.ok.lenS; omega)]
            simp only [Option.bind_some]
            rw [if_neg (by simp)]
            simp only [Option.bind_some]
            rw [IntWalk.i64_in _ ⟨by omega, by omega⟩]
            rfl
          rw [loop_inl hs]
          exact ih (k + 1) ⟨d2, seg, out, w.Safe, false⟩ (by omega) e5
      · obtain ⟨w2, e1, e2⟩ := does_step h (by omega) l[k] hN
        have hs : lastS l ((k : Int), w.D.Files, w.D.Room, w.D.Fuse, w.D.Off, w.Seg, w.Put, w.Safe, w.Dead) = some (.inl (((k + 1 : Nat) : Int), w2.D.Files, w2.D.Room, w2.D.Fuse, w2.D.Off, w2.Seg, w2.Put, w2.Safe, w2.Dead)) := by
          simp only [lastS]
          unfold law04_WalLasts_l32
          rw [if_pos (show (decide ((k : Int) < (l.length : Int)) && decide ((k : Int) < 150)) = true by simp; omega), ix_at hg]
          simp only [Option.bind_some]
          rw [if_pos (by simp [k4])]
          change ((law04_does w l[k]).bind _).bind _ = _
          rw [e1]
          simp only [Option.bind_some]
          rw [IntWalk.i64_in _ ⟨by omega, by omega⟩]
          rfl
        rw [loop_inl hs]
        exact ih (k + 1) w2 (by omega) e2
    · refine .inr (loop_inr ?_)
      simp only [lastS]
      unfold law04_WalLasts_l32
      rw [if_neg (by simp; omega)]
theorem inv_new {room : Int} (h : In64 room) (h0 : 0 ≤ room) : Inv 0 ⟨(newM room).1, 1, [], 0, false⟩ := by
  have hdb := new_db h
  have e : (newM room).1 = ⟨[], room, -1, false⟩ := by unfold newM; rw [if_neg (by omega)]
  rw [e] at hdb ⊢
  refine ⟨[], [], [], ⟨hdb, by decide, fun n => by simp [cnt], rfl, fun k _ _ => rfl, fun i s hi => by (simp at hi), rfl, by simp [fileAt, noFile, fsize], .inl rfl, fun s hs => by (cases hs), fun t ht => by (cases ht)⟩, rfl, rfl, rfl, fun _ => rfl, ⟨0, Nat.le_refl _, by simp [sealAll], by simp⟩, Nat.le_refl _, Nat.le_refl _⟩
theorem law04_WalLasts_true (room : Int) (l : List Act) (orr : okK .i64 room) (ol : ∀ a ∈ l, okAct a) (b : 1 + (sumOf (fun v => bkAct v) l + 1) ≤ 1048576) : law04_WalLasts room l = some true := by
  have hr := i64_of orr
  unfold law04_WalLasts
  rw [shown04, rnew_eq]
  simp only [Option.bind_some]
  by_cases h0 : room < 0
  · rw [if_pos (by unfold newM; rw [if_pos h0]; rfl)]
  · rw [if_neg (by unfold newM; rw [if_neg h0]; simp)]
    have hi := inv_new hr (by omega)
    have := lasts_loop l (fun a ha => i64_of (ol a ha).2) 150 0 _ (by omega) hi
    simp only [Int.natCast_zero, Int.ofNat_eq_natCast, lastS] at this
    rcases this with h | h
    · rw [h]; rfl
    · rw [h]; rfl
end Go.Ab
