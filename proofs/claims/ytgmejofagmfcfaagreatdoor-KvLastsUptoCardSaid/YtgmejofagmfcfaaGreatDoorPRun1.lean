/- Runs and manifests: program and document are the models (plain). -/
import Derived.Test.YtgmejofagmfcfaaGreatDoorPBat6
import Derived.Test.YtgmejofagmfcfaaGreatDoorPWal3
namespace Go.Ab
set_option linter.unusedVariables false
set_option linter.unusedSimpArgs false

theorem rmay1_eq (p : Pair) : run_may_1 p = some (!shortP p) := by
  unfold run_may_1 shortP
  by_cases h1 : p.Key.length ≤ 65536
  · rw [if_neg (by simp; omega)]
    by_cases h2 : p.Val.length ≤ 65536
    · have : ¬ ((p.Val.length : Int) > 65536) := by omega
      simp [h1, h2]; omega
    · have : (p.Val.length : Int) > 65536 := by omega
      simp [h2]; omega
  · rw [if_pos (by simp; omega)]; simp [h1]
theorem rcontains_eq {s : List Pair} (hl : s.length ≤ 4398046511104) : slices_ContainsFunc_Pair__run_may_1 s = some (!s.all shortP) := by
  unfold slices_ContainsFunc_Pair__run_may_1 slices_IndexFunc_Pair__run_may_1
  rcases find_first s (fun w => !shortP w) (fun k => (.inl (k : Int) : Int ⊕ Unit)) (.inr ()) (fun (s169 : Int) => slices_IndexFunc_Pair__run_may_1_l4 s s169) (fun k x hk => by
    have hlt := (List.getElem?_eq_some_iff.1 hk).1
    unfold slices_IndexFunc_Pair__run_may_1_l4
    rw [if_pos (by simpa using hlt), ix_in hlt, (List.getElem?_eq_some_iff.1 hk).2, IntWalk.i64_in _ ⟨by omega, by omega⟩]
    simp only [Option.bind_some, rmay1_eq]
    cases h : shortP x <;> simp) (by unfold slices_IndexFunc_Pair__run_may_1_l4; rw [if_neg (by simp)]) with ⟨k, x, hk, h1, h2, h3⟩ | ⟨h1, h3⟩
  · rw [h1]
    have : s.all shortP = false := List.all_eq_false.2 ⟨x, List.mem_of_getElem? hk, by simpa using h2⟩
    rw [this]; simp
  · rw [h1]
    have : s.all shortP = true := List.all_eq_true.2 (fun x hx => by simpa using h3 x hx)
    rw [this]; simp
theorem runmay_eq {l : List Pair} (hl : l.length ≤ 1099511627776) : run_may l = some (mayR l) := by
  unfold run_may mayR
  rw [right_eq hl]
  simp only [Option.bind_some]
  cases rightM l with
  | false => rfl
  | true => rw [if_pos rfl, rcontains_eq (by omega)]; simp
theorem takeP_len {s r : Str} {p : Pair} (h : takeP s = some (p, r)) : r.length ≤ s.length ∧ p.Key.length ≤ s.length ∧ 2 ≤ s.length - r.length ∧ r.length + 2 ≤ s.length := by
  have h2 := takeTextM_len s 65536
  have h3 := takeTextM_len (takeTextM s 65536).2.1 65536
  unfold takeP at h
  split at h
  · cases h
  split at h
  · cases h
  rename_i c1 c2
  cases h
  have e1 := takeText_inv (s := s) (most := 65536) (by simpa using c1)
  have e2 := takeText_inv (s := (takeTextM s 65536).2.1) (most := 65536) (by simpa using c2)
  have p1 : 0 < (textM (takeTextM s 65536).1).length := by unfold textM numS; simp; omega
  have p2 : 0 < (textM (takeTextM (takeTextM s 65536).2.1 65536).1).length := by unfold textM numS; simp; omega
  have l1 := congrArg List.length e1.1
  have l2 := congrArg List.length e2.1
  rw [List.length_append] at l1 l2
  simp only
  omega
theorem takePs_mem (n : Nat) : ∀ {s r : Str} {l : List Pair}, takePs n s = some (l, r) → l.length = n ∧ (∀ w ∈ l, w.Key.length ≤ s.length) ∧ n + r.length ≤ s.length := by
  induction n with
  | zero => intro s r l h; unfold takePs at h; cases h; exact ⟨rfl, by simp, by omega⟩
  | succ n ih =>
    intro s r l h
    unfold takePs at h
    cases hw : takeP s with
    | none => rw [hw] at h; cases h
    | some p =>
      rw [hw] at h
      obtain ⟨w, r1⟩ := p
      simp only at h
      cases hq : takePs n r1 with
      | none => rw [hq] at h; cases h
      | some p2 =>
        rw [hq] at h
        obtain ⟨l1, q⟩ := p2
        simp only at h
        cases h
        obtain ⟨h1, h2, h3⟩ := ih hq
        have hwl := takeP_len hw
        refine ⟨by simp [h1], fun x hx => ?_, by omega⟩
        rcases List.mem_cons.1 hx with rfl | hx
        · exact hwl.2.1
        · exact Nat.le_trans (h2 x hx) hwl.1
end Go.Ab
