/- Runs' bytes, and what is loaded: program and document are the models (plain). -/
import Derived.Test.YtgmejofagmfcfaaGreatDoorPRun2
namespace Go.Ab
set_option linter.unusedVariables false
set_option linter.unusedSimpArgs false

theorem pBytes_fold (l : List Pair) (a : Str) : l.foldl (fun a p => a ++ (textM p.Key ++ textM p.Val)) a = a ++ pBytes l := by
  induction l generalizing a with
  | nil => simp [pBytes]
  | cons x r ih => rw [List.foldl_cons, ih]; simp [pBytes]
theorem pair_bytes {p : Pair} (h : shortP p = true) : p.Key.length ≤ 65536 ∧ p.Val.length ≤ 65536 ∧ (textM p.Key).length ≤ 65558 ∧ (textM p.Val).length ≤ 65558 ∧ 0 < (textM p.Key).length := by
  unfold shortP at h
  simp only [Bool.and_eq_true, decide_eq_true_eq] at h
  have k := textM_le (t := p.Key) (k := 65536) h.1 (by omega)
  have v := textM_le (t := p.Val) (k := 65536) h.2 (by omega)
  have p1 : 0 < (textM p.Key).length := by unfold textM numS; simp; omega
  omega
theorem pBytes_le {l : List Pair} (h : l.all shortP = true) : (pBytes l).length ≤ 131200 * l.length := by
  induction l with
  | nil => simp [pBytes]
  | cons p r ih =>
    rw [List.all_cons, Bool.and_eq_true] at h
    have h1 := pair_bytes h.1
    have h2 := ih h.2
    have e : pBytes (p :: r) = textM p.Key ++ (textM p.Val ++ pBytes r) := rfl
    rw [e]
    simp only [List.length_append, List.length_cons]; omega
/-- What is loaded of a file. -/
def loadM (d : Disk) (name : Str) : List Pair × Int := if (readM d name).2 ≠ 0 then ([], (readM d name).2) else takeR (readM d name).1
theorem load_eq {d : Disk} (h : DB d) (name : Str) : run_Load d name = some (loadM d name) := by
  have hr := db_read h name
  unfold run_Load loadM
  rw [read_eq h.ok]
  simp only [Option.bind_some]
  by_cases c : (readM d name).2 ≠ 0
  · rw [if_pos c, if_pos (by simpa using c)]
  · rw [if_neg c, if_neg (by simpa using c), runtake_eq (by omega)]; rfl
theorem takeR_len {s : Str} (hl : s.length ≤ 1099511627776) : (takeR s).1.length ≤ s.length ∧ (∀ p ∈ (takeR s).1, p.Key.length ≤ s.length) := by
  have hol := openM_len s 1073741824
  have r1 := takeNumM_rest (openM s 1073741824).1
  unfold takeR
  split
  · simp
  split
  · simp
  split
  · simp
  · rename_i l q hq
    have hm := takePs_mem _ hq
    split
    · simp
    · refine ⟨by simp only; omega, fun p hp => ?_⟩
      have := hm.2.1 p hp
      omega
theorem loadM_len {d : Disk} (h : DB d) (name : Str) : (loadM d name).1.length ≤ 1048576 ∧ (∀ p ∈ (loadM d name).1, p.Key.length ≤ 1048576) := by
  have hr := db_read h name
  have ht := takeR_len (s := (readM d name).1) (by omega)
  unfold loadM
  split
  · simp
  · exact ⟨by omega, fun p hp => by have := ht.2 p hp; omega⟩
end Go.Ab
