/- What is opened of a disk, by the document; stores that are the same (plain). -/
import Derived.Test.YtgmejofagmfcfaaGreatDoorPKv3
namespace Go.Ab
set_option linter.unusedVariables false
set_option linter.unusedSimpArgs false

theorem rrecs_loop {y : Disk × List Str × Int × Int} (hm : ∀ t ∈ y.2.1, t.length ≤ 1048576) (hlen : y.2.1.length ≤ 1048577000000) : ∀ (m k : Nat) (s : State), k + m = y.2.1.length → s.Data.length + sumL (y.2.1.drop k) ≤ 1400000000000 → s.Toks.length + m ≤ 1400000000000 →
    loop (fun (s191 : Int × (List Pair) × (List Pair)) => ref08_Open_l2 y s191.1 s191.2.1 s191.2.2) ((k : Int), s.Data, s.Toks) = some (match recsM (y.2.1.drop k) s with | none => .inl () | some t => .inr (t.Data, t.Toks)) := by
  intro m
  induction m with
  | zero =>
    intro k s hk hd ht
    have : k = y.2.1.length := by omega
    subst this
    rw [List.drop_length]
    refine loop_inr ?_
    simp only
    unfold ref08_Open_l2
    rw [if_neg (by simp)]; rfl
  | succ m ih =>
    intro k s hk hd ht
    have hlt : k < y.2.1.length := by omega
    have hdr : y.2.1.drop k = y.2.1[k] :: y.2.1.drop (k + 1) := List.drop_eq_getElem_cons hlt
    have hkx := hm y.2.1[k] (List.getElem_mem hlt)
    have hf := takeBt_facts y.2.1[k]
    have hdl := doB_len s (takeBt y.2.1[k]).1
    rw [hdr] at hd ⊢
    unfold sumL at hd
    unfold recsM
    have hso : SOk s := ⟨by omega, by omega⟩
    by_cases c : (takeBt y.2.1[k]).2 ≠ 0
    · rw [if_pos c]
      refine loop_inr ?_
      simp only
      unfold ref08_Open_l2
      rw [if_pos (by simpa using hlt), ix_in hlt]
      simp only [Option.bind_some]
      rw [rtakeB_eq (by omega)]
      simp only [Option.bind_some]
      rw [if_pos (by simpa using c)]
    · rw [if_neg c]
      have hs : ref08_Open_l2 y (k : Int) s.Data s.Toks = some (.inl (((k + 1 : Nat) : Int), (doB s (takeBt y.2.1[k]).1).1.Data, (doB s (takeBt y.2.1[k]).1).1.Toks)) := by
        unfold ref08_Open_l2
        rw [if_pos (by simpa using hlt), ix_in hlt, IntWalk.i64_in _ ⟨by omega, by omega⟩]
        simp only [Option.bind_some]
        rw [rtakeB_eq (by omega)]
        simp only [Option.bind_some]
        rw [if_neg (by simpa using c), rdo_eq hso (fun w hw => by have := hf.2.2 w hw; omega)]; rfl
      have hs2 := @loop_inl _ _ (fun (s191 : Int × (List Pair) × (List Pair)) => ref08_Open_l2 y s191.1 s191.2.1 s191.2.2) ((k : Int), s.Data, s.Toks) _ hs
      rw [hs2]
      exact ih (k + 1) _ (by omega) (by omega) (by omega)
theorem ropen_eqK {d : Disk} (h : DB d) : ref08_Open d = some (openK d) := by
  have hr := db_read h [109]
  have hmf := manOf_facts d
  unfold ref08_Open openK
  rw [rread_eq h.ok]
  simp only [Option.bind_some]
  have hman : (if decide ((readM d [109]).2 = 0) = true then (ref08_TakeManifest (readM d [109]).1).bind fun y18 => if (!(decide (y18.2.2 = 0))) = true then some (.inr ()) else some (.inl (y18.1, y18.2.1)) else some (.inl (1, 0)) : Option ((Int × Int) ⊕ Unit)) = some (if (manOf d).2.2 ≠ 0 then .inr () else .inl ((manOf d).1, (manOf d).2.1)) := by
    unfold manOf
    by_cases c : (readM d [109]).2 = 0
    · rw [if_pos (by simpa using c), if_pos c, rtakeman_eq (by omega)]
      simp only [Option.bind_some]
      by_cases c2 : (takeMan (readM d [109]).1).2.2 = 0 <;> simp [c2]
    · rw [if_neg (by simpa using c), if_neg c]; rfl
  rw [hman]
  simp only [Option.bind_some]
  by_cases c1 : (manOf d).2.2 ≠ 0
  · rw [if_pos c1, if_pos c1]
    have e3 : (manOf d).2.2 = 3 := by omega
    rw [e3]; rfl
  rw [if_neg c1, if_neg c1]
  simp only
  have hbl := basedM_len h (manOf d).2.1
  have hb : (if decide ((manOf d).2.1 > 0) = true then
      (ref08_RunName (manOf d).2.1).bind fun y62 =>
        (ref06_Load d y62).bind fun y64 =>
        if (!(decide (y64.2 = 0))) = true then
          some (.inr ())
        else
          (ref07_Back y64.1).bind fun y68 =>
          if (!(decide (y68.2 = 0))) = true then
            some (.inr ())
          else
            some (.inl (y68.1.Data, y68.1.Toks))
      else
        some (.inl ([], [])) : Option (((List Pair) × (List Pair)) ⊕ Unit)) = some (if (basedM d (manOf d).2.1).2 ≠ 0 then .inr () else .inl ((basedM d (manOf d).2.1).1.Data, (basedM d (manOf d).2.1).1.Toks)) := by
    unfold basedM
    by_cases h0 : (manOf d).2.1 = 0
    · rw [if_neg (by simp; omega), if_pos h0]; rfl
    · rw [if_pos (by simp; omega), if_neg h0, rrunnm_eq]
      simp only [Option.bind_some]
      rw [rload_eq h]
      simp only [Option.bind_some]
      have hl := loadM_len h (runNm (manOf d).2.1)
      by_cases c : (loadM d (runNm (manOf d).2.1)).2 ≠ 0
      · rw [if_pos c, if_pos (by simpa using c)]; rfl
      · rw [if_neg c, if_neg (by simpa using c), rbackB_eq (by omega) (fun p hp => by have := hl.2 p hp; omega)]
        simp only [Option.bind_some]
        by_cases c2 : (backM (loadM d (runNm (manOf d).2.1)).1).2 = 0 <;> simp [c2]
  rw [hb]
  simp only [Option.bind_some]
  by_cases c2 : (basedM d (manOf d).2.1).2 ≠ 0
  · rw [if_pos c2, if_pos c2]
    have e3 : (basedM d (manOf d).2.1).2 = 3 := by omega
    rw [e3]; rfl
  rw [if_neg c2, if_neg c2]
  simp only
  rw [rrecover_eq h]
  simp only [Option.bind_some]
  by_cases c3 : (recoverM d (manOf d).1).2.2.2 ≠ 0
  · rw [if_pos c3, if_pos (by simpa using c3)]; rfl
  rw [if_neg c3, if_neg (by simpa using c3)]
  have hsum := recover_sum h (manOf d).1
  have hlen := recover_len h (manOf d).1
  have hlp := rrecs_loop (y := recoverM d (manOf d).1) (recover_mem h _) hlen (recoverM d (manOf d).1).2.1.length 0 (basedM d (manOf d).2.1).1 (by omega) (by rw [List.drop_zero]; omega) (by omega)
  simp only [Int.natCast_zero, Int.ofNat_eq_natCast, List.drop_zero] at hlp
  rw [hlp]
  simp only [Option.bind_some]
  cases recsM (recoverM d (manOf d).1).2.1 (basedM d (manOf d).2.1).1 <;> rfl
theorem rsamesto_eq {a b : Store} (hd : a.D.Files.length ≤ 2000000000) (hs : SOk a.S) : ref08_Same a b = some (decide (a = b)) := by
  unfold ref08_Same
  rw [rsame_eq hd]
  simp only [Option.bind_some]
  rw [rsamest_eq hs]
  simp only [Option.bind_some]
  obtain ⟨aD, aF, aSg, aR, aS, aDn⟩ := a
  obtain ⟨bD, bF, bSg, bR, bS, bDn⟩ := b
  simp only [Store.mk.injEq]
  by_cases h1 : aD = bD
  · by_cases h2 : aS = bS
    · by_cases h3 : aF = bF
      · by_cases h4 : aSg = bSg
        · by_cases h5 : aR = bR
          · simp [h1, h2, h3, h4, h5]; cases aDn <;> cases bDn <;> rfl
          · simp [h1, h2, h3, h4, h5]
        · simp [h1, h2, h3, h4]
      · simp [h1, h2, h3]
    · simp [h1, h2]
  · simp [h1]
theorem recs_len (l : List Str) : ∀ {s t : State}, recsM l s = some t → t.Data.length ≤ s.Data.length + sumL l ∧ t.Toks.length ≤ s.Toks.length + l.length := by
  induction l with
  | nil => intro s t h; unfold recsM at h; cases h; simp [sumL]
  | cons r l ih =>
    intro s t h
    unfold recsM at h
    split at h
    · cases h
    · have h1 := ih h
      have h2 := doB_len s (takeBt r).1
      have h3 := takeBt_facts r
      rw [sumL_cons, List.length_cons]; omega
theorem openK_ok {d : Disk} (h : DB d) : DB (openK d).1.D ∧ SOk (openK d).1.S := by
  have n0 : DB noStore.D ∧ SOk noStore.S := ⟨⟨⟨by decide, fun f hf => (by cases hf), by decide, by decide⟩, fun f hf => by cases hf⟩, ⟨by simp [noStore, noState], by simp [noStore, noState]⟩⟩
  unfold openK
  split
  · exact n0
  split
  · exact n0
  split
  · exact n0
  · have hb := basedM_len h (manOf d).2.1
    have hsum := recover_sum h (manOf d).1
    have hlen := recover_len h (manOf d).1
    cases hq : recsM (recoverM d (manOf d).1).2.1 (basedM d (manOf d).2.1).1 with
    | none => exact n0
    | some s =>
      have hl := recs_len _ hq
      exact ⟨recover_db h _, ⟨by simp only; omega, by simp only; omega⟩⟩
end Go.Ab
