/- The law of stores that last (plain). -/
import Derived.Test.YtgmejofagmfcfaaGreatDoorPHs
namespace Go.Ab
set_option linter.unusedVariables false
set_option linter.unusedSimpArgs false

def comesM (l : List Batch) : State := l.foldl (fun s b => (doB s b).1) noState
theorem comesM_snoc (l : List Batch) (b : Batch) : comesM (l ++ [b]) = (doB (comesM l) b).1 := by unfold comesM; rw [List.foldl_append]; rfl
theorem comes_bd (l : List Batch) : SBd (comesM l) l.length := by
  have key : ∀ (l : List Batch) (s : State) (n : Nat), SBd s n → SBd (l.foldl (fun s b => (doB s b).1) s) (n + l.length) := by
    intro l
    induction l with
    | nil => intro s n h; exact h
    | cons b r ih =>
      intro s n h
      have := ih _ _ (h.step b)
      rw [List.foldl_cons, List.length_cons]
      exact this.mono (by omega)
  have := key l noState 0 no_SBd
  exact this.mono (by omega)
theorem comes_eq {l : List Batch} (hb : ∀ b ∈ l, BOk b) (hl : l.length ≤ 100000) {n : Nat} (hn : n ≤ l.length) : law08_comes l (n : Int) = some (comesM (l.take n)) := by
  unfold law08_comes
  obtain ⟨r, h1, h2⟩ := rounds_loop (fun (s1 : Int × (List Pair) × (List Pair)) => law08_comes_l2 l (n : Int) s1.1 s1.2.1 s1.2.2)
    (fun k s => s = ((k : Int), (comesM (l.take k)).Data, (comesM (l.take k)).Toks)) (fun r => r = ((comesM (l.take n)).Data, (comesM (l.take n)).Toks)) n
    (fun k s hk e => by
      subst e
      have hlt : k < l.length := by omega
      have hg := List.getElem?_eq_getElem hlt
      have ht : l.take (k + 1) = l.take k ++ [l[k]] := by rw [List.take_add_one, hg]; rfl
      refine .inl ⟨_, ?_, rfl⟩
      simp only
      unfold law08_comes_l2
      have hbd := comes_bd (l.take k)
      rw [if_pos (by simp; omega), ix_at hg]
      simp only [Option.bind_some]
      rw [show (⟨(comesM (l.take k)).Data, (comesM (l.take k)).Toks⟩ : State) = comesM (l.take k) from rfl, rdo_eq (hbd.ok (by rw [List.length_take]; omega)).1 (hb _ (List.getElem_mem hlt)), ht, comesM_snoc, IntWalk.i64_in _ ⟨by omega, by omega⟩]
      rfl)
    (fun s e => by
      subst e
      refine ⟨_, ?_, rfl⟩
      simp only
      unfold law08_comes_l2
      rw [if_neg (by simp)]) (s := ((0 : Int), ([] : List Pair), ([] : List Pair))) rfl
  rw [h1, h2]
  rfl
theorem found_loop {l : List Batch} (hb : ∀ b ∈ l, BOk b) (hl : l.length ≤ 100000) {n : Nat} (hn : n ≤ l.length) {y : Store × Int} (hy : y.1.S = comesM (l.take n)) :
    loop (fun (s2 : Int × Int) => law08_KvLasts_l74 l y s2.1 s2.2) ((-1 : Int), (n : Int)) = some (n : Int) := by
  obtain ⟨r, h1, h2⟩ := rounds_loop (fun (s2 : Int × Int) => law08_KvLasts_l74 l y s2.1 s2.2)
    (fun j s => s = (if j = 0 then (-1 : Int) else (n : Int), ((n + j : Nat) : Int))) (fun r => r = (n : Int)) (l.length - n + 1)
    (fun j s hj e => by
      subst e
      refine .inl ⟨_, ?_, rfl⟩
      simp only
      unfold law08_KvLasts_l74
      have hbd := comes_bd (l.take (n + j))
      rw [if_pos (by simp; omega), comes_eq hb hl (n := n + j) (by omega)]
      simp only [Option.bind_some]
      rw [rsamest_eq (hbd.ok (by rw [List.length_take]; omega)).1, IntWalk.i64_in _ ⟨by omega, by omega⟩]
      simp only [Option.bind_some]
      rw [if_neg (show ¬ j + 1 = 0 by omega)]
      by_cases h0 : j = 0
      · subst h0
        rw [if_pos rfl, Nat.add_zero, hy, if_pos (by simp)]
        rfl
      · rw [if_neg h0, if_neg (by simp)]
        rfl)
    (fun s e => by
      subst e
      refine ⟨_, ?_, rfl⟩
      simp only
      unfold law08_KvLasts_l74
      rw [if_neg (by simp; omega), if_neg (by omega)]) (s := ((-1 : Int), (n : Int))) (by simp)
  rw [h1, h2]
theorem keep_loop (fs : List File) (x : Act) (hl : fs.length ≤ 1073741824) : loop (fun (s1 : Int × (List Int)) => law08_KvLasts_l72 fs x s1.1 s1.2) ((0 : Int), ([] : (List Int))) = some (List.replicate fs.length x.N) := by
  have := count_loop (fun (s1 : Int × (List Int)) => law08_KvLasts_l72 fs x s1.1 s1.2) (fun k => ((k : Int), List.replicate k x.N)) fs.length (List.replicate fs.length x.N)
    (fun k hk => by
      simp only
      unfold law08_KvLasts_l72
      rw [if_pos (by simpa using hk), need_pos (by rw [List.length_replicate]; omega), IntWalk.i64_in _ ⟨by omega, by omega⟩, ← List.replicate_succ']
      rfl)
    (by
      simp only
      unfold law08_KvLasts_l72
      rw [if_neg (by simp)])
  exact this
/-- The world of the statement. -/
structure LInv (k : Nat) (x : Store) (all : List Batch) (sure : Nat) : Prop where
  ok : ∃ tl, KOk x tl
  le : sure ≤ all.length
  len : all.length ≤ k
  st : x.S = comesM (all.take sure)
  up : x.Down = false → sure = all.length
  bat : ∀ b ∈ all, BOk b
theorem LInv.bd {k : Nat} {x : Store} {all : List Batch} {sure : Nat} (h : LInv k x all sure) : SBd x.S k := by
  rw [h.st]
  have := comes_bd (all.take sure)
  have := h.len
  exact (comes_bd _).mono (by rw [List.length_take]; omega)
theorem commit_six {x : Store} {b : Batch} (h : (commitK x b).2 = 0 ∨ (commitK x b).2 = 6 ∧ x.Down = false) : x.Down = false := by
  rcases h with h | ⟨_, h⟩
  · cases hd : x.Down with
    | false => rfl
    | true => unfold commitK at h; rw [if_pos hd] at h; simp at h
  · exact h
theorem commit_up {x : Store} {b : Batch} (h : (commitK x b).2 ≠ 0) (h2 : ¬ ((commitK x b).2 = 6 ∧ x.Down = false)) : (commitK x b).1.Down = false → x.Down = false := by
  intro hd
  cases hx : x.Down with
  | false => rfl
  | true =>
    unfold commitK at hd
    rw [if_pos hx] at hd
    rw [hx] at hd; cases hd
theorem commit_dead {x : Store} {b : Batch} (hx : x.Down = false) (h : (commitK x b).2 = 6) : (commitK x b).1.Down = true := by
  unfold commitK at h ⊢
  rw [if_neg (by simp [hx])] at h ⊢
  split at h
  · rename_i c
    rcases bytesB_err b with e | e <;> rw [e] at h c <;> simp at h c
  rename_i c2
  rw [if_neg c2]
  split at h
  · simp at h
  rename_i c3
  rw [if_neg c3]
  split at h
  · rename_i c4; rw [if_pos c4]; exact decide_eq_true h
  rename_i c4
  rw [if_neg c4]
  split at h
  · rename_i c5; rw [if_pos c5]; exact decide_eq_true h
  · simp at h
theorem check_up {x : Store} : (checkK x).1.Down = false → x.Down = false := by
  intro hd
  cases hx : x.Down with
  | false => rfl
  | true =>
    unfold checkK at hd
    rw [if_pos hx] at hd
    rw [hx] at hd; cases hd
noncomputable abbrev lastsS (l : List Act) := fun (s1 : Int × (List File) × Int × Int × Bool × Int × Int × Int × (List Pair) × (List Pair) × Bool × (List Batch) × Int) => law08_KvLasts_l62 l s1.1 s1.2.1 s1.2.2.1 s1.2.2.2.1 s1.2.2.2.2.1 s1.2.2.2.2.2.1 s1.2.2.2.2.2.2.1 s1.2.2.2.2.2.2.2.1 s1.2.2.2.2.2.2.2.2.1 s1.2.2.2.2.2.2.2.2.2.1 s1.2.2.2.2.2.2.2.2.2.2.1 s1.2.2.2.2.2.2.2.2.2.2.2.1 s1.2.2.2.2.2.2.2.2.2.2.2.2
def compL (k : Nat) (x : Store) (all : List Batch) (sure : Nat) : Int × (List File) × Int × Int × Bool × Int × Int × Int × (List Pair) × (List Pair) × Bool × (List Batch) × Int := ((k : Int), x.D.Files, x.D.Room, x.D.Fuse, x.D.Off, x.From, x.Seg, x.Run, x.S.Data, x.S.Toks, x.Down, all, (sure : Int))
theorem lasts_step {l : List Act} {k : Nat} {x : Store} {all : List Batch} {sure : Nat} (h : LInv k x all sure) (hk : k < 200) (hlt : k < l.length) (hN : In64 l[k].N) (hB : BOk l[k].B) :
    (∃ y all2 sure2, lastsS l (compL k x all sure) = some (.inl (compL (k + 1) y all2 sure2)) ∧ LInv (k + 1) y all2 sure2) ∨ lastsS l (compL k x all sure) = some (.inr (.inl true)) := by
  have hg := List.getElem?_eq_getElem hlt
  obtain ⟨tl, ho⟩ := h.ok
  have hbd := h.bd
  have hok := hbd.ok (by omega)
  have hal := h.len
  have hsto := ho.sto hbd (by omega)
  have mono : LInv (k + 1) x all sure := ⟨h.ok, h.le, by omega, h.st, h.up, h.bat⟩
  have head : ∀ y : Option _, lastsS l (compL k x all sure) = y ↔ lastsS l (compL k x all sure) = y := fun _ => Iff.rfl
  simp only [lastsS, compL]
  unfold law08_KvLasts_l62
  rw [if_pos (show (decide ((k : Int) < (l.length : Int)) && decide ((k : Int) < 200)) = true by simp; omega), ix_at hg]
  simp only [Option.bind_some]
  by_cases k1 : l[k].Kind = 1
  · rw [if_pos (by simpa using k1), store_eta x, commit_eqK hsto]
    simp only [Option.bind_some]
    obtain ⟨t2, g2⟩ := ho.commit l[k].B
    have hst := commit_state x l[k].B
    by_cases c0 : (commitK x l[k].B).2 = 0
    · have hup := h.up (commit_six (.inl c0))
      rw [if_pos (by simpa using c0), need_pos (by simp; omega), need_pos (by simp; omega)]
      simp only [Option.bind_some, List.nil_append]
      rw [IntWalk.i64_in _ ⟨by omega, by omega⟩]
      refine .inl ⟨(commitK x l[k].B).1, all ++ [l[k].B], (all ++ [l[k].B]).length, rfl, ⟨⟨t2, g2⟩, Nat.le_refl _, by simp; omega, ?_, fun _ => rfl, fun b hb => ?_⟩⟩
      · rw [(hst.2 c0).1, List.take_length, comesM_snoc, h.st, hup, List.take_length]
      · rcases List.mem_append.1 hb with hb | hb
        · exact h.bat b hb
        · simp at hb; subst hb; exact hB
    · rw [if_neg (by simpa using c0)]
      by_cases c6 : (commitK x l[k].B).2 = 6 ∧ x.Down = false
      · have hup := h.up c6.2
        rw [if_pos (by simp [c6.1, c6.2]), need_pos (by simp; omega), need_pos (by simp; omega)]
        simp only [Option.bind_some, List.nil_append]
        rw [IntWalk.i64_in _ ⟨by omega, by omega⟩]
        refine .inl ⟨(commitK x l[k].B).1, all ++ [l[k].B], sure, rfl, ⟨⟨t2, g2⟩, by simp; have := h.le; omega, by simp; omega, ?_, fun hd => ?_, fun b hb => ?_⟩⟩
        · rw [hst.1 c0, h.st, List.take_append_of_le_length h.le]
        · rw [commit_dead c6.2 c6.1] at hd; cases hd
        · rcases List.mem_append.1 hb with hb | hb
          · exact h.bat b hb
          · simp at hb; subst hb; exact hB
      · rw [if_neg (by simpa using c6)]
        simp only [Option.bind_some]
        rw [IntWalk.i64_in _ ⟨by omega, by omega⟩]
        exact .inl ⟨(commitK x l[k].B).1, all, sure, rfl, ⟨⟨t2, g2⟩, h.le, by omega, by rw [hst.1 c0]; exact h.st, fun hd => h.up (commit_up c0 c6 hd), h.bat⟩⟩
  rw [if_neg (by simpa using k1)]
  by_cases k2 : l[k].Kind = 2
  · rw [if_pos (by simpa using k2), store_eta x, check_eqK ho.db hok.2.1 hok.2.2 ho.seg ho.run ho.from_]
    simp only [Option.bind_some]
    obtain ⟨⟨t2, g2, _⟩, _⟩ := ho.check hok.2.2
    rw [IntWalk.i64_in _ ⟨by omega, by omega⟩]
    exact .inl ⟨(checkK x).1, all, sure, rfl, ⟨⟨t2, g2⟩, h.le, by omega, by rw [check_S]; exact h.st, fun hd => h.up (check_up hd), h.bat⟩⟩
  rw [if_neg (by simpa using k2)]
  by_cases k3 : l[k].Kind = 3
  · rw [if_pos (by simpa using k3), store_eta x, arm_eqK]
    simp only [Option.bind_some]
    rw [IntWalk.i64_in _ ⟨by omega, by omega⟩]
    exact .inl ⟨armK x l[k].N, all, sure, rfl, ⟨⟨tl, ho.arm hN⟩, h.le, by omega, h.st, h.up, h.bat⟩⟩
  rw [if_neg (by simpa using k3)]
  by_cases k4 : l[k].Kind = 4
  · rw [if_pos (by simpa using k4), keep_loop _ _ ho.db.ok.lenS]
    simp only [Option.bind_some]
    rw [store_eta x, crash_eqK ho.db]
    simp only [Option.bind_some]
    rcases ho.crash (List.replicate x.D.Files.length l[k].N) with ⟨_, g⟩ | ⟨y, y1, y2, y3, y4, y5⟩
    · rw [if_pos (by simpa using g)]
      exact .inr rfl
    · rw [y1, if_neg (by simp), open_eqK y3.db]
      simp only [Option.bind_some]
      have hyS : SOk y.S := by rw [y4]; exact hok.1
      rw [y2, rsamesto_eq y3.db.ok.len hyS]
      simp only [Option.bind_some]
      rw [if_neg (by simp), found_loop h.bat (by omega) h.le (y := (y, 0)) (by rw [← h.st]; exact y4)]
      simp only [Option.bind_some]
      rw [if_neg (by simp), need_pos (by have := h.le; omega)]
      simp only [Option.bind_some]
      rw [IntWalk.i64_in _ ⟨by omega, by omega⟩]
      have hcut : cut all 0 (sure : Int) = all.take sure := by simp [cut]
      rw [hcut]
      have hle := h.le
      refine .inl ⟨y, all.take sure, sure, rfl, ⟨⟨[], y3⟩, by rw [List.length_take]; omega, by rw [List.length_take]; omega, ?_, fun _ => by rw [List.length_take]; omega, fun b hb => h.bat b (List.mem_of_mem_take hb)⟩⟩
      rw [List.take_take, Nat.min_self, y4]; exact h.st
  rw [if_neg (by simpa using k4)]
  simp only [Option.bind_some]
  rw [IntWalk.i64_in _ ⟨by omega, by omega⟩]
  exact .inl ⟨x, all, sure, rfl, mono⟩
theorem law08_KvLasts_true (room : Int) (l : List Act) (orr : okK .i64 room) (ol : ∀ a ∈ l, okAct a) (b : 1 + (sumOf (fun v => bkAct v) l + 1) ≤ 1048576) : law08_KvLasts room l = some true := by
  have hroom : In64 room := i64_of orr
  have hdb := new_db hroom
  have hB : ∀ a ∈ l, BOk a.B := fun a ha x hx => by
    have := sumOf_mem (f := fun v => bkAct v) ha
    have e1 : bkBatch a.B ≤ bkAct a := by unfold bkAct; omega
    unfold bkBatch at e1
    have := sumOf_mem (f := fun v => bkWrite v) hx
    have e2 : x.Key.length ≤ bkWrite x := by unfold bkWrite; omega
    omega
  unfold law08_KvLasts
  rw [shown08, rnew_eq]
  simp only [Option.bind_some]
  rw [open_eqK hdb]
  simp only [Option.bind_some]
  by_cases h0 : room < 0
  · have e : (newM room).2 = 1 := by unfold newM; rw [if_pos h0]
    rw [if_pos (by simp [e])]
    simp [e]
  · have e : (newM room).2 = 0 := by unfold newM; rw [if_neg h0]
    obtain ⟨y, o1, o2, o3, o4, o5⟩ := KOk.new hroom (by omega)
    rw [o1, if_neg (by simp [e])]
    have h00 : LInv 0 y [] 0 := ⟨⟨[], o2⟩, Nat.le_refl _, Nat.le_refl _, by rw [o3]; rfl, fun _ => rfl, fun b hb => by cases hb⟩
    obtain ⟨r, h1, h2⟩ := rounds_loop (lastsS l) (fun k s => ∃ x all sure, s = compL k x all sure ∧ LInv k x all sure) (fun r => r = .inl true ∨ r = .inr ()) 200
      (fun k s hk ⟨x, all, sure, e, hi⟩ => by
        subst e
        by_cases c : k < l.length
        · have hm := List.getElem_mem c
          have oa := ol _ hm
          unfold okAct at oa
          rcases lasts_step hi hk c (i64_of oa.2.1) (hB _ hm) with ⟨y, a2, s2, e1, e2⟩ | e1
          · exact .inl ⟨_, e1, y, a2, s2, rfl, e2⟩
          · exact .inr ⟨_, e1, .inl rfl⟩
        · refine .inr ⟨_, ?_, .inr rfl⟩
          simp only [lastsS, compL]
          unfold law08_KvLasts_l62
          rw [if_neg (by simp; omega)])
      (fun s ⟨x, all, sure, e, hi⟩ => by
        subst e
        refine ⟨_, ?_, .inr rfl⟩
        simp only [lastsS, compL]
        unfold law08_KvLasts_l62
        rw [if_neg (by simp)]) (s := compL 0 y [] 0) ⟨y, [], 0, rfl, h00⟩
    simp only [lastsS, compL, Int.natCast_zero, Int.ofNat_eq_natCast] at h1
    rw [h1]
    rcases h2 with rfl | rfl <;> rfl
end Go.Ab
