/- Runs out of bytes and their bytes; manifests; names of runs: program and document (plain). -/
import Derived.Test.YtgmejofagmfcfaaGreatDoorPRun1
namespace Go.Ab
set_option linter.unusedVariables false
set_option linter.unusedSimpArgs false

theorem runtake_loop {n : Int} {y : Int × Str × Int} (hy : y.1 = n) (hn : n ≤ 18446744073709551615) : ∀ (m k : Nat) (s : Str) (acc : List Pair), (k : Int) + m = n → k + s.length ≤ 1099511627776 → acc.length = k →
    (∃ q l, takePs m s = some (l, q) ∧ loop (fun (s185 : Str × Int × (List Pair)) => run_Take_l2 y s185.1 s185.2.1 s185.2.2) (s, (k : Int), acc) = some (q, acc ++ l)) ∨
    (takePs m s = none ∧ ∃ s' acc', loop (fun (s185 : Str × Int × (List Pair)) => run_Take_l2 y s185.1 s185.2.1 s185.2.2) (s, (k : Int), acc) = some (s', acc') ∧ (acc'.length : Int) < n) := by
  intro m
  induction m with
  | zero =>
    intro k s acc hk hl ha
    exact .inl ⟨s, [], rfl, by rw [loop_inr (r := (s, acc)) (by simp only; unfold run_Take_l2; rw [if_neg (by simp; omega)]), List.append_nil]⟩
  | succ m ih =>
    intro k s acc hk hl ha
    have h2 := takeTextM_len s 65536
    have h3 := takeTextM_len (takeTextM s 65536).2.1 65536
    have n1 : (acc.length + 1) * 32 ≤ 140737488355328 := by omega
    have hs : run_Take_l2 y s (k : Int) acc = (match takeP s with | none => some (.inr (s, acc)) | some (w, r) => some (.inl (r, ((k + 1 : Nat) : Int), acc ++ [w]))) := by
      unfold run_Take_l2 takeP
      rw [if_pos (by simp; omega), u64_in (by omega) (by omega), takeText_eq (by omega) (by omega)]
      simp only [Option.bind_some]
      by_cases c2 : (takeTextM s 65536).2.2 ≠ 0
      · rw [if_pos c2, if_pos (by simpa using c2)]
      · rw [if_neg c2, if_neg (by simpa using c2), takeText_eq (by omega) (by omega)]
        simp only [Option.bind_some]
        by_cases c3 : (takeTextM (takeTextM s 65536).2.1 65536).2.2 ≠ 0
        · rw [if_pos c3, if_pos (by simpa using c3)]
        · rw [if_neg c3, if_neg (by simpa using c3), need_pos n1]; rfl
    unfold takePs
    cases hw : takeP s with
    | none =>
      rw [hw] at hs
      exact .inr ⟨rfl, s, acc, loop_inr (by simpa using hs), by omega⟩
    | some p =>
      obtain ⟨w, r⟩ := p
      rw [hw] at hs
      have hwl := takeP_len hw
      rw [loop_inl (by simpa using hs)]
      have hi := ih (k + 1) r (acc ++ [w]) (by omega) (by omega) (by simp [ha])
      rw [show ((k : Int) + 1) = ((k + 1 : Nat) : Int) from rfl]
      rcases hi with ⟨q, l, e1, e2⟩ | ⟨e1, s', acc', e2, e3⟩
      · exact .inl ⟨q, w :: l, by simp only; rw [e1], by rw [e2]; simp⟩
      · exact .inr ⟨by simp only; rw [e1], s', acc', e2, e3⟩
theorem runtake_eq {s : Str} (hl : s.length ≤ 1099511627776) : run_Take s = some (takeR s) := by
  have hol := openM_len s 1073741824
  have r1 := takeNumM_rest (openM s 1073741824).1
  have n1 := takeNumM_nat (openM s 1073741824).1
  unfold run_Take takeR
  rw [open_eq hl (by omega)]
  simp only [Option.bind_some]
  rw [takeNum_eq (by omega)]
  simp only [Option.bind_some]
  by_cases c1 : (openM s 1073741824).2.2 ≠ 0 ∨ (openM s 1073741824).2.1 ≠ []
  · rw [if_pos c1, if_pos (by
      rcases c1 with c1 | c1
      · simp [c1]
      · simp [c1])]
  rw [if_neg c1]
  have c1a : (openM s 1073741824).2.2 = 0 := by omega
  have c1b : (openM s 1073741824).2.1 = [] := Classical.not_not.1 (fun h => c1 (.inr h))
  by_cases c2 : (takeNumM (openM s 1073741824).1).2.2 ≠ 0
  · rw [if_pos c2, if_pos (by simp [c2])]
  have c2a : (takeNumM (openM s 1073741824).1).2.2 = 0 := by omega
  rw [if_neg c2, if_neg (by simp [c1a, c1b, c2a])]
  have hlp := runtake_loop (n := (takeNumM (openM s 1073741824).1).1) (y := takeNumM (openM s 1073741824).1) rfl n1.2 (takeNumM (openM s 1073741824).1).1.toNat 0 (takeNumM (openM s 1073741824).1).2.1 [] (by omega) (by omega) rfl
  simp only [Int.natCast_zero, Int.ofNat_eq_natCast] at hlp
  rcases hlp with ⟨q, l, e1, e2⟩ | ⟨e1, s', acc', e2, e3⟩
  · have hm := takePs_mem _ e1
    rw [e2, e1]
    simp only [Option.bind_some, List.nil_append]
    have hw : IntKind.u64.wrap (l.length : Int) = (takeNumM (openM s 1073741824).1).1 := by rw [u64_in (by omega) (by omega)]; omega
    rw [hw]
    by_cases hq : q = []
    · subst hq
      rw [if_neg (by simp), if_neg (by simp), runmay_eq (by omega)]
      simp only [Option.bind_some]
      cases hmb : mayR l <;> simp
    · rw [if_neg (by simp), if_pos (by simpa using hq), if_pos (.inl hq)]; simp
  · rw [e2, e1]
    simp only [Option.bind_some]
    have hw : IntKind.u64.wrap (acc'.length : Int) = (acc'.length : Int) := u64_in (by omega) (by omega)
    rw [hw, if_pos (by simp; omega)]; simp
/-! ### Manifests, names -/
theorem manif_eq {f r : Int} (hf : In64 f) (hr : In64 r) : kv_Manifest f r = some (manifM f r) := by
  unfold In64 at hf hr
  unfold kv_Manifest manifM
  have e1 : (if f < 0 then (0 : Int) else f) = (((max f 0).toNat : Nat) : Int) := by split <;> omega
  have e2 : (if r < 0 then (0 : Int) else r) = (((max r 0).toNat : Nat) : Int) := by split <;> omega
  have l1 := numS_len (n := (max f 0).toNat) (by omega)
  have l2 := numS_len (n := (max r 0).toNat) (by omega)
  rw [e1, e2, u64_in (by omega) (by omega), u64_in (by omega) (by omega), num_eq (by omega), num_eq (by omega)]
  simp only [Option.bind_some]
  rw [need_pos (by omega), seal_eq (by rw [List.length_append]; omega)]; rfl
theorem manifM_len {f r : Int} (hf : In64 f) (hr : In64 r) : (manifM f r).length ≤ 100 := by
  unfold In64 at hf hr
  have l1 := numS_len (n := (max f 0).toNat) (by omega)
  have l2 := numS_len (n := (max r 0).toNat) (by omega)
  have l3 := sealM_len (s := numS (max f 0).toNat ++ numS (max r 0).toNat) (by rw [List.length_append]; omega)
  rw [List.length_append] at l3
  unfold manifM; omega
theorem takeman_eq {s : Str} (hl : s.length ≤ 1099511627776) : kv_TakeManifest s = some (takeMan s) := by
  have hol := openM_len s 65536
  have r1 := takeNumM_rest (openM s 65536).1
  have n1 := takeNumM_nat (openM s 65536).1
  have n2 := takeNumM_nat (takeNumM (openM s 65536).1).2.1
  unfold kv_TakeManifest takeMan
  rw [open_eq hl (by omega)]
  simp only [Option.bind_some]
  rw [takeNum_eq (by omega)]
  simp only [Option.bind_some]
  rw [takeNum_eq (by omega)]
  simp only [Option.bind_some]
  by_cases c1 : (openM s 65536).2.2 ≠ 0 ∨ (openM s 65536).2.1 ≠ []
  · rw [if_pos c1, if_pos (by rcases c1 with c1 | c1 <;> simp [c1])]
  rw [if_neg c1]
  have c1a : (openM s 65536).2.2 = 0 := by omega
  have c1b : (openM s 65536).2.1 = [] := Classical.not_not.1 (fun h => c1 (.inr h))
  by_cases c2 : (takeNumM (openM s 65536).1).2.2 ≠ 0 ∨ (takeNumM (openM s 65536).1).1 < 1 ∨ (takeNumM (openM s 65536).1).1 > 1000000
  · rw [if_pos c2, if_pos (by rcases c2 with c2 | c2 | c2 <;> simp [c2])]
  rw [if_neg c2]
  have c2a : (takeNumM (openM s 65536).1).2.2 = 0 := by omega
  have c2b : ¬ (takeNumM (openM s 65536).1).1 < 1 := by omega
  have c2c : ¬ 1000000 < (takeNumM (openM s 65536).1).1 := by omega
  by_cases c3 : (takeNumM (takeNumM (openM s 65536).1).2.1).2.2 ≠ 0 ∨ (takeNumM (takeNumM (openM s 65536).1).2.1).1 > 1000000 ∨ (takeNumM (takeNumM (openM s 65536).1).2.1).2.1 ≠ []
  · rw [if_pos c3, if_pos (by rcases c3 with c3 | c3 | c3 <;> simp [c3])]
  rw [if_neg c3]
  have c3a : (takeNumM (takeNumM (openM s 65536).1).2.1).2.2 = 0 := by omega
  have c3b : ¬ 1000000 < (takeNumM (takeNumM (openM s 65536).1).2.1).1 := by omega
  have c3c : (takeNumM (takeNumM (openM s 65536).1).2.1).2.1 = [] := Classical.not_not.1 (fun h => c3 (.inr (.inr h)))
  rw [if_neg (by simp [c1a, c1b, c2a, c3a, c3c]; omega), IntWalk.i64_in _ ⟨by omega, by omega⟩, IntWalk.i64_in _ ⟨by omega, by omega⟩]
theorem runnm_eq {n : Int} : kv_RunName n = some (runNm n) := by
  unfold kv_RunName runNm
  by_cases h : 1 ≤ n ∧ n ≤ 1000000
  · rw [if_neg (by simp; omega), if_pos h]
    have hl := numS_len (n := n.toNat) (by omega)
    have he : (numS n.toNat).length = (figS n.toNat).length + 1 := by rw [numS_fig]; simp
    have e : IntKind.u64.wrap n = ((n.toNat : Nat) : Int) := by rw [u64_in (by omega) (by omega)]; omega
    unfold kv_number
    rw [e, num_eq (by omega)]
    simp only [Option.bind_some]
    rw [trim_num _ (by omega)]
    simp only [Option.bind_some]
    rw [need_pos (by simp only [List.length_cons, List.length_nil]; omega)]; rfl
  · rw [if_pos (by simp; omega), if_neg h]
theorem rrunnm_eq {n : Int} : ref08_RunName n = some (runNm n) := by
  unfold ref08_RunName runNm
  by_cases h : 1 ≤ n ∧ n ≤ 1000000
  · rw [if_neg (by simp; omega), if_pos h]
    have hl := numS_len (n := n.toNat) (by omega)
    have he : (numS n.toNat).length = (figS n.toNat).length + 1 := by rw [numS_fig]; simp
    have e : IntKind.u64.wrap n = ((n.toNat : Nat) : Int) := by rw [u64_in (by omega) (by omega)]; omega
    rw [e, rnum_eq (by omega)]
    simp only [Option.bind_some]
    have hw : IntKind.i64.wrap (((numS n.toNat).length : Int) - 1) = ((figS n.toNat).length : Int) := by rw [IntWalk.i64_in _ ⟨by omega, by omega⟩]; omega
    have e3 : (numS n.toNat).take (figS n.toNat).length = figS n.toNat := by rw [numS_fig]; simp
    rw [hw, need_pos (by omega), cut_head, Int.toNat_natCast, e3, need_pos (by simp only [List.length_cons, List.length_nil]; omega)]; rfl
  · rw [if_pos (by simp; omega), if_neg h]
end Go.Ab
