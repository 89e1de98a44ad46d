/- Runs' bytes, and what is loaded: program and document are the models (plain). -/
import Derived.Test.YtgmejofagmfcfaaGreatDoorPRun2
namespace Go.Ab
set_option linter.unusedVariables false
set_option linter.unusedSimpArgs false

theorem pBytes_fold (l : List Pair) (a : Str) : l.foldl (fun a p => a ++ (textM p.Key ++ textM p.Val)) a = a ++ pBytes l := by
  induction l generalizing a with
  | nil => simp [pBytes]
  | cons x r ih => rw [List.foldl_cons, ih]; simp [pBytes]
theorem pair_bytes {p : Pair} (h : shortP p = true) : p.Key.length ≤ 65536 ∧ p.Val.length ≤ 65536 ∧ (textM p.Key).length ≤ 65558 ∧ (textM p.Val).length ≤ 65558 ∧ 0 < (textM p.Key).length := by
  unfold shortP at h
  simp only [Bool.and_eq_true, decide_eq_true_eq] at h
  have k := textM_le (t := p.Key) (k := 65536) h.1 (by omega)
  have v := textM_le (t := p.Val) (k := 65536) h.2 (by omega)
  have p1 : 0 < (textM p.Key).length := by unfold textM numS; simp; omega
  omega
theorem pBytes_le {l : List Pair} (h : l.all shortP = true) : (pBytes l).length ≤ 131200 * l.length := by
  induction l with
  | nil => simp [pBytes]
  | cons p r ih =>
    rw [List.all_cons, Bool.and_eq_true] at h
    have h1 := pair_bytes h.1
    have h2 := ih h.2
    have e : pBytes (p :: r) = textM p.Key ++ (textM p.Val ++ pBytes r) := rfl
    rw [e]
    simp only [List.length_append, List.length_cons]; omega
theorem runbytes_eq {l : List Pair} (hl : l.length ≤ 6100000) : run_Bytes l = some (bytesR l) := by
  unfold run_Bytes bytesR
  rw [runmay_eq (by omega)]
  simp only [Option.bind_some]
  cases hm : mayR l with
  | false => rfl
  | true =>
    have hm2 := hm
    unfold mayR at hm2
    rw [Bool.and_eq_true] at hm2
    have hg := List.all_eq_true.1 hm2.2
    have hn := numS_len (n := l.length) (by omega)
    have hn0 : 0 < (numS l.length).length := by unfold numS; simp
    have ew : IntKind.u64.wrap (l.length : Int) = ((l.length : Nat) : Int) := u64_in (by omega) (by omega)
    simp only [Bool.not_true, Bool.false_eq_true, if_false, if_true]
    rw [ew, num_eq (by omega)]
    simp only [Option.bind_some]
    rw [need_pos (by simp only [List.length_nil]; omega)]
    have h := fold_loop (ρ := Str) l (fun k (a : Str) => ((k : Int), a)) (fun (s106 : Int × Str) => run_Bytes_l2 l s106.1 s106.2) (fun a p => a ++ (textM p.Key ++ textM p.Val)) (fun a => a) (fun k a => a.length ≤ 22 + 131200 * k ∧ 0 < a.length)
      (fun k x a hk hi => by
        have hlt := (List.getElem?_eq_some_iff.1 hk).1
        have hb := pair_bytes (hg x (List.mem_of_getElem? hk))
        refine ⟨?_, by simp only [List.length_append]; omega⟩
        have n1 : (textM x.Key).length + (textM x.Val).length ≤ 9223372036854775807 := by omega
        have n2 : 0 < (textM x.Key ++ textM x.Val).length ∧ a.length + (textM x.Key ++ textM x.Val).length ≤ 140737488355328 := by simp only [List.length_append]; omega
        simp only
        unfold run_Bytes_l2
        rw [if_pos (by simpa using hlt), ix_in hlt, (List.getElem?_eq_some_iff.1 hk).2, IntWalk.i64_in _ ⟨by omega, by omega⟩]
        simp only [Option.bind_some]
        rw [text_eq (by omega), text_eq (by omega)]
        simp only [Option.bind_some]
        rw [need_pos n1, need_pos n2]
        rfl)
      (fun a hi => by simp only; unfold run_Bytes_l2; rw [if_neg (by simp)]) (([] : Str) ++ numS l.length) (by simp only [List.length_append, List.length_nil]; omega)
    obtain ⟨e1, e2, e3⟩ := h
    simp only [Int.natCast_zero, Int.ofNat_eq_natCast] at e1
    rw [e1]
    simp only [Option.bind_some]
    rw [need_pos e3, pBytes_fold]
    have hp := pBytes_le hm2.2
    rw [List.nil_append, seal_eq (by rw [List.length_append]; omega)]; rfl
/-- What is loaded of a file. -/
def loadM (d : Disk) (name : Str) : List Pair × Int := if (readM d name).2 ≠ 0 then ([], (readM d name).2) else takeR (readM d name).1
theorem load_eq {d : Disk} (h : DB d) (name : Str) : run_Load d name = some (loadM d name) := by
  have hr := db_read h name
  unfold run_Load loadM
  rw [read_eq h.ok]
  simp only [Option.bind_some]
  by_cases c : (readM d name).2 ≠ 0
  · rw [if_pos c, if_pos (by simpa using c)]
  · rw [if_neg c, if_neg (by simpa using c), runtake_eq (by omega)]; rfl
theorem takeR_len {s : Str} (hl : s.length ≤ 1099511627776) : (takeR s).1.length ≤ s.length ∧ (∀ p ∈ (takeR s).1, p.Key.length ≤ s.length) := by
  have hol := openM_len s 1073741824
  have r1 := takeNumM_rest (openM s 1073741824).1
  unfold takeR
  split
  · simp
  split
  · simp
  split
  · simp
  · rename_i l q hq
    have hm := takePs_mem _ hq
    split
    · simp
    · refine ⟨by simp only; omega, fun p hp => ?_⟩
      have := hm.2.1 p hp
      omega
theorem loadM_len {d : Disk} (h : DB d) (name : Str) : (loadM d name).1.length ≤ 1048576 ∧ (∀ p ∈ (loadM d name).1, p.Key.length ≤ 1048576) := by
  have hr := db_read h name
  have ht := takeR_len (s := (readM d name).1) (by omega)
  unfold loadM
  split
  · simp
  · exact ⟨by omega, fun p hp => by have := ht.2 p hp; omega⟩
end Go.Ab
