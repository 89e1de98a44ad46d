/- What is opened of a disk: program and document are the model (plain). -/
import Derived.Test.YtgmejofagmfcfaaGreatDoorPRun3
namespace Go.Ab
set_option linter.unusedVariables false
set_option linter.unusedSimpArgs false

def sumL : List Str → Nat
  | [] => 0
  | t :: r => t.length + sumL r
theorem sumL_cons (t : Str) (r : List Str) : sumL (t :: r) = t.length + sumL r := rfl
theorem sumL_append (a b : List Str) : sumL (a ++ b) = sumL a + sumL b := by
  induction a with
  | nil => simp [sumL]
  | cons t r ih => rw [List.cons_append, sumL_cons, sumL_cons, ih]; omega
theorem sumL_seal (l : List Str) : sumL l ≤ (sealAll l).length := by
  induction l with
  | nil => simp [sumL]
  | cons t r ih =>
    have e : sealAll (t :: r) = sealM t ++ sealAll r := rfl
    have h : t.length ≤ (sealM t).length := by unfold sealM textM; simp only [List.length_append]; omega
    rw [e, List.length_append]
    unfold sumL; omega
theorem scanL_sum (s : Str) : sumL (scanL s) ≤ s.length := Nat.le_trans (sumL_seal _) (scanP_le s)
theorem rec_sum {d : Disk} (h : DB d) (from_ : Int) (n : Nat) : ∀ (last seg : Int) (out : List Str), sumL (recM d from_ n last seg out).2.1 ≤ sumL out + n * 1048576 := by
  induction n with
  | zero => intro _ _ out; simp [recM]
  | succ n ih =>
    intro last seg out
    have hrl : (rdM d seg).length ≤ 1048576 := db_read h _
    have hsl := scanL_sum (rdM d seg)
    unfold recM
    split
    · simp only; omega
    split
    · split
      · simp [sumL]
      · simp only [sumL_append]; omega
    · have := ih seg (seg + 1) (out ++ scanL (rdM d seg))
      rw [sumL_append] at this
      omega
theorem recover_sum {d : Disk} (h : DB d) (from_ : Int) : sumL (recoverM d from_).2.1 ≤ 1048577000000 := by
  unfold recoverM
  split
  · simp [sumL]
  · rename_i hm
    have hb := mayM_iff.1 (show mayM from_ = true by simpa using hm)
    have := rec_sum h from_ (1000001 - from_).toNat from_ from_ []
    simp only [sumL] at this
    omega
theorem rec_mem {d : Disk} (h : DB d) (from_ : Int) (n : Nat) : ∀ (last seg : Int) (out : List Str), (∀ t ∈ out, t.length ≤ 1048576) → ∀ t ∈ (recM d from_ n last seg out).2.1, t.length ≤ 1048576 := by
  induction n with
  | zero => intro _ _ out ho; simpa [recM] using ho
  | succ n ih =>
    intro last seg out ho
    have hrl : (rdM d seg).length ≤ 1048576 := db_read h _
    have hsl := scanL_sum (rdM d seg)
    have hm : ∀ (l : List Str) (t : Str), t ∈ l → t.length ≤ sumL l := by
      intro l
      induction l with
      | nil => intro t ht; cases ht
      | cons x r ihl =>
        intro t ht
        unfold sumL
        rcases List.mem_cons.1 ht with rfl | ht
        · omega
        · have := ihl t ht; omega
    have ho2 : ∀ t ∈ out ++ scanL (rdM d seg), t.length ≤ 1048576 := fun t ht => by
      rcases List.mem_append.1 ht with ht | ht
      · exact ho t ht
      · have := hm _ t ht; omega
    unfold recM
    split
    · exact ho
    split
    · split
      · intro t ht; cases ht
      · exact ho2
    · exact ih seg (seg + 1) _ ho2
theorem recover_mem {d : Disk} (h : DB d) (from_ : Int) : ∀ t ∈ (recoverM d from_).2.1, t.length ≤ 1048576 := by
  unfold recoverM
  split
  · intro t ht; cases ht
  · exact rec_mem h from_ _ _ _ [] (by intro t ht; cases ht)
theorem takeW_less {s r : Str} {w : Write} (h : takeW s = some (w, r)) : r.length + 1 ≤ s.length := by
  have h1 := takeNumM_rest s
  have h2 := takeTextM_len (takeNumM s).2.1 32
  have h3 := takeTextM_len (takeTextM (takeNumM s).2.1 32).2.1 64
  unfold takeW at h
  split at h
  · cases h
  split at h
  · cases h
  split at h
  · cases h
  rename_i c1 c2 c3
  cases h
  have e1 := takeText_inv (s := (takeNumM s).2.1) (most := 32) (by simpa using c2)
  have p1 : 0 < (textM (takeTextM (takeNumM s).2.1 32).1).length := by unfold textM numS; simp; omega
  have l1 := congrArg List.length e1.1
  rw [List.length_append] at l1
  omega
theorem takeWs_less (n : Nat) : ∀ {s r : Str} {l : List Write}, takeWs n s = some (l, r) → n + r.length ≤ s.length := by
  induction n with
  | zero => intro s r l h; unfold takeWs at h; cases h; omega
  | succ n ih =>
    intro s r l h
    unfold takeWs at h
    cases hw : takeW s with
    | none => rw [hw] at h; cases h
    | some p =>
      rw [hw] at h
      obtain ⟨w, r1⟩ := p
      simp only at h
      cases hq : takeWs n r1 with
      | none => rw [hq] at h; cases h
      | some p2 =>
        rw [hq] at h
        obtain ⟨l1, q⟩ := p2
        simp only at h
        cases h
        have h1 := ih hq
        have hwl := takeW_less hw
        omega
theorem takeBt_facts (s : Str) : ((takeBt s).2 = 0 ∨ (takeBt s).2 = 3) ∧ (takeBt s).1.Writes.length ≤ s.length ∧ (∀ w ∈ (takeBt s).1.Writes, w.Key.length ≤ s.length) := by
  have r1 := takeNumM_rest s
  have r2 := takeTextM_len (takeNumM s).2.1 16
  have r3 := takeNumM_rest (takeTextM (takeNumM s).2.1 16).2.1
  have nb : noBatch.Writes = [] := rfl
  unfold takeBt
  split
  · simp [nb]
  split
  · simp [nb]
  split
  · simp [nb]
  split
  · simp [nb]
  · rename_i l q hq
    have hm := takeWs_mem _ hq
    have hl := takeWs_less _ hq
    split
    · simp [nb]
    · exact ⟨.inl rfl, by simp only; omega, fun w hw => by have := hm.2 w hw; omega⟩
theorem doB_len (s : State) (b : Batch) : (doB s b).1.Data.length ≤ s.Data.length + b.Writes.length ∧ (doB s b).1.Toks.length ≤ s.Toks.length + 1 := by
  unfold doB
  split
  · simp only; omega
  split
  · simp only; omega
  · have h1 := applyM_len b.Writes s.Data
    have h2 := putP_len s.Toks b.Token (gaveUp b)
    simp only; omega

/-! ### Opening -/
def basedM (d : Disk) (n : Int) : State × Int := if n = 0 then (noState, 0) else if (loadM d (runNm n)).2 ≠ 0 then (noState, 3) else backM (loadM d (runNm n)).1
def recsM : List Str → State → Option State
  | [], s => some s
  | r :: l, s => if (takeBt r).2 ≠ 0 then none else recsM l (doB s (takeBt r).1).1
def noDisk : Disk := ⟨[], 0, 0, false⟩
def noStore : Store := ⟨noDisk, 0, 0, 0, noState, false⟩
def manOf (d : Disk) : Int × Int × Int := if (readM d [109]).2 = 0 then takeMan (readM d [109]).1 else (1, 0, 0)
def openK (d : Disk) : Store × Int :=
  if (manOf d).2.2 ≠ 0 then (noStore, (manOf d).2.2) else
  if (basedM d (manOf d).2.1).2 ≠ 0 then (noStore, (basedM d (manOf d).2.1).2) else
  if (recoverM d (manOf d).1).2.2.2 ≠ 0 then (noStore, (recoverM d (manOf d).1).2.2.2) else
  match recsM (recoverM d (manOf d).1).2.1 (basedM d (manOf d).2.1).1 with
  | none => (noStore, 3)
  | some s => (⟨(recoverM d (manOf d).1).1, (manOf d).1, (recoverM d (manOf d).1).2.2.1, (manOf d).2.1, s, false⟩, 0)
theorem takeMan_facts (s : Str) : ((takeMan s).2.2 = 0 ∨ (takeMan s).2.2 = 3) ∧ 0 ≤ (takeMan s).1 ∧ (takeMan s).1 ≤ 1000000 ∧ 0 ≤ (takeMan s).2.1 ∧ (takeMan s).2.1 ≤ 1000000 := by
  have n2 := takeNumM_nat (takeNumM (openM s 65536).1).2.1
  unfold takeMan
  split
  · simp
  split
  · simp
  split
  · simp
  · rename_i c1 c2 c3
    have h1 : ¬ (takeNumM (openM s 65536).1).1 < 1 := fun h => c2 (.inr (.inl h))
    have h2 : ¬ (takeNumM (openM s 65536).1).1 > 1000000 := fun h => c2 (.inr (.inr h))
    have h3 : ¬ (takeNumM (takeNumM (openM s 65536).1).2.1).1 > 1000000 := fun h => c3 (.inr (.inl h))
    exact ⟨.inl rfl, by simp only; omega, by simp only; omega, by simp only; omega, by simp only; omega⟩
theorem manOf_facts (d : Disk) : ((manOf d).2.2 = 0 ∨ (manOf d).2.2 = 3) ∧ 0 ≤ (manOf d).1 ∧ (manOf d).1 ≤ 1000000 ∧ 0 ≤ (manOf d).2.1 ∧ (manOf d).2.1 ≤ 1000000 := by
  unfold manOf
  split
  · exact takeMan_facts _
  · simp
theorem backS_len {s t : State} {p : Pair} (h : backS s p = some t) : t.Data.length + t.Toks.length ≤ s.Data.length + s.Toks.length + 1 := by
  unfold backS at h
  split at h
  · cases h
  split at h
  · cases h; simp only [List.length_append, List.length_cons, List.length_nil]; omega
  split at h
  · cases h; simp only [List.length_append, List.length_cons, List.length_nil]; omega
  · cases h
theorem backF_len (l : List Pair) : ∀ {s t : State}, backF l s = some t → t.Data.length + t.Toks.length ≤ s.Data.length + s.Toks.length + l.length := by
  induction l with
  | nil => intro s t h; unfold backF at h; cases h; simp
  | cons p r ih =>
    intro s t h
    unfold backF at h
    cases hb : backS s p with
    | none => rw [hb] at h; cases h
    | some u =>
      rw [hb] at h
      have h1 := backS_len hb
      have h2 := ih h
      simp only [List.length_cons]; omega
theorem backM_len (l : List Pair) : (backM l).1.Data.length + (backM l).1.Toks.length ≤ l.length ∧ ((backM l).2 = 0 ∨ (backM l).2 = 3) := by
  unfold backM
  cases h : backF l noState with
  | none => simp [noState]
  | some s =>
    have := backF_len l h
    simp [noState] at this ⊢; omega
theorem basedM_len {d : Disk} (h : DB d) (n : Int) : (basedM d n).1.Data.length + (basedM d n).1.Toks.length ≤ 1048576 ∧ ((basedM d n).2 = 0 ∨ (basedM d n).2 = 3) := by
  have hl := loadM_len h (runNm n)
  unfold basedM
  split
  · simp [noState]
  split
  · simp [noState]
  · have := backM_len (loadM d (runNm n)).1
    exact ⟨by omega, this.2⟩
theorem based_eq {d : Disk} (h : DB d) (n : Int) : kv_based d n = some (basedM d n) := by
  unfold kv_based basedM
  by_cases h0 : n = 0
  · rw [if_pos (by simpa using h0), if_pos h0]; rfl
  · rw [if_neg (by simpa using h0), if_neg h0, runnm_eq]
    simp only [Option.bind_some]
    rw [load_eq h]
    simp only [Option.bind_some]
    have hl := loadM_len h (runNm n)
    by_cases c : (loadM d (runNm n)).2 ≠ 0
    · rw [if_pos c, if_pos (by simpa using c)]; rfl
    · rw [if_neg c, if_neg (by simpa using c), backB_eq (by omega) (fun p hp => by have := hl.2 p hp; omega)]; rfl
theorem recs_loop {y : Disk × List Str × Int × Int} (hm : ∀ t ∈ y.2.1, t.length ≤ 1048576) (hlen : y.2.1.length ≤ 1048577000000) : ∀ (m k : Nat) (s : State), k + m = y.2.1.length → s.Data.length + sumL (y.2.1.drop k) ≤ 1400000000000 → s.Toks.length + m ≤ 1400000000000 →
    loop (fun (s149 : Int × (List Pair) × (List Pair)) => kv_Open_l2 y s149.1 s149.2.1 s149.2.2) ((k : Int), s.Data, s.Toks) = some (match recsM (y.2.1.drop k) s with | none => .inl 3 | some t => .inr (t.Data, t.Toks)) := by
  intro m
  induction m with
  | zero =>
    intro k s hk hd ht
    have : k = y.2.1.length := by omega
    subst this
    rw [List.drop_length]
    refine loop_inr ?_
    simp only
    unfold kv_Open_l2
    rw [if_neg (by simp)]; rfl
  | succ m ih =>
    intro k s hk hd ht
    have hlt : k < y.2.1.length := by omega
    have hdr : y.2.1.drop k = y.2.1[k] :: y.2.1.drop (k + 1) := List.drop_eq_getElem_cons hlt
    have hkx := hm y.2.1[k] (List.getElem_mem hlt)
    have hf := takeBt_facts y.2.1[k]
    have hdl := doB_len s (takeBt y.2.1[k]).1
    rw [hdr] at hd ⊢
    unfold sumL at hd
    unfold recsM
    have hso : SOk s := ⟨by omega, by omega⟩
    by_cases c : (takeBt y.2.1[k]).2 ≠ 0
    · rw [if_pos c]
      have c3 : (takeBt y.2.1[k]).2 = 3 := by omega
      refine loop_inr ?_
      simp only
      unfold kv_Open_l2
      rw [if_pos (by simpa using hlt), ix_in hlt]
      simp only [Option.bind_some]
      rw [takeB_eq (by omega)]
      simp only [Option.bind_some]
      rw [if_pos (by simpa using c), c3]
    · rw [if_neg c]
      have hs : kv_Open_l2 y (k : Int) s.Data s.Toks = some (.inl (((k + 1 : Nat) : Int), (doB s (takeBt y.2.1[k]).1).1.Data, (doB s (takeBt y.2.1[k]).1).1.Toks)) := by
        unfold kv_Open_l2
        rw [if_pos (by simpa using hlt), ix_in hlt, IntWalk.i64_in _ ⟨by omega, by omega⟩]
        simp only [Option.bind_some]
        rw [takeB_eq (by omega)]
        simp only [Option.bind_some]
        rw [if_neg (by simpa using c), do_eq hso]; rfl
      have hs2 := @loop_inl _ _ (fun (s149 : Int × (List Pair) × (List Pair)) => kv_Open_l2 y s149.1 s149.2.1 s149.2.2) ((k : Int), s.Data, s.Toks) _ hs
      rw [hs2]
      exact ih (k + 1) _ (by omega) (by omega) (by omega)
theorem open_eqK {d : Disk} (h : DB d) : kv_Open d = some (openK d) := by
  have hr := db_read h [109]
  have hmf := manOf_facts d
  unfold kv_Open openK
  rw [read_eq h.ok]
  simp only [Option.bind_some]
  have hman : (if decide ((readM d [109]).2 = 0) = true then (kv_TakeManifest (readM d [109]).1).bind fun y22 => if (!(decide (y22.2.2 = 0))) = true then some (.inr y22.2.2) else some (.inl (y22.1, y22.2.1)) else some (.inl (1, 0)) : Option ((Int × Int) ⊕ Int)) = some (if (manOf d).2.2 ≠ 0 then .inr (manOf d).2.2 else .inl ((manOf d).1, (manOf d).2.1)) := by
    unfold manOf
    by_cases c : (readM d [109]).2 = 0
    · rw [if_pos (by simpa using c), if_pos c, takeman_eq (by omega)]
      simp only [Option.bind_some]
      by_cases c2 : (takeMan (readM d [109]).1).2.2 = 0 <;> simp [c2]
    · rw [if_neg (by simpa using c), if_neg c]; rfl
  rw [hman]
  simp only [Option.bind_some]
  by_cases c1 : (manOf d).2.2 ≠ 0
  · rw [if_pos c1, if_pos c1]; rfl
  rw [if_neg c1, if_neg c1]
  simp only
  rw [based_eq h]
  simp only [Option.bind_some]
  have hbl := basedM_len h (manOf d).2.1
  by_cases c2 : (basedM d (manOf d).2.1).2 ≠ 0
  · rw [if_pos c2, if_pos (by simpa using c2)]; rfl
  rw [if_neg c2, if_neg (by simpa using c2), recover_eq h]
  simp only [Option.bind_some]
  by_cases c3 : (recoverM d (manOf d).1).2.2.2 ≠ 0
  · rw [if_pos c3, if_pos (by simpa using c3)]; rfl
  rw [if_neg c3, if_neg (by simpa using c3)]
  have hsum := recover_sum h (manOf d).1
  have hlen := recover_len h (manOf d).1
  have hlp := recs_loop (y := recoverM d (manOf d).1) (recover_mem h _) hlen (recoverM d (manOf d).1).2.1.length 0 (basedM d (manOf d).2.1).1 (by omega) (by rw [List.drop_zero]; omega) (by omega)
  simp only [Int.natCast_zero, Int.ofNat_eq_natCast, List.drop_zero] at hlp
  rw [hlp]
  simp only [Option.bind_some]
  cases recsM (recoverM d (manOf d).1).2.1 (basedM d (manOf d).2.1).1 <;> rfl
end Go.Ab
