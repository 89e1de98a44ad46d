/- What batches do, their bytes; states as pairs: program and document are the models (plain). -/
import Derived.Test.YtgmejofagmfcfaaGreatDoorPBat2
namespace Go.Ab
set_option linter.unusedVariables false
set_option linter.unusedSimpArgs false

structure SOk (s : State) : Prop where
  d : s.Data.length ≤ 1500000000000
  t : s.Toks.length ≤ 1500000000000
theorem decided_eq {s : State} (h : SOk s) (token : Str) : batch_Decided s token = some (findM s.Toks token) := by
  unfold batch_Decided
  rw [tfind_eq (by have := h.t; omega)]; rfl
theorem rdecided_eq {s : State} (h : SOk s) (token : Str) : ref07_Decided s token = some (findM s.Toks token) := by
  unfold ref07_Decided
  rw [rtfind_eq (by have := h.t; omega)]; rfl
theorem do_eq {s : State} (h : SOk s) (b : Batch) : batch_Do s b = some (doB s b) := by
  have hd := h.d
  have ht := h.t
  unfold batch_Do doB
  rw [bmay_eq]
  simp only [Option.bind_some]
  cases hm : mayB b with
  | false => rfl
  | true =>
    have hw := ((mayB_iff b).1 hm).1.2.2.2.1
    rw [decided_eq h]
    simp only [Option.bind_some, findM_has]
    cases hk : hasK s.Toks b.Token with
    | true => rfl
    | false =>
      simp only [Bool.not_true, Bool.false_eq_true, if_false]
      rw [tapply_eq (by omega)]
      simp only [Option.bind_some]
      rw [tput_eq (by omega)]
      unfold gaveUp
      by_cases h2 : b.Kind = 2 <;> simp [h2]
theorem rdo_eq {s : State} (h : SOk s) {b : Batch} (hb : BOk b) : ref07_Do s b = some (doB s b) := by
  have hd := h.d
  have ht := h.t
  unfold ref07_Do doB
  rw [rbmay_eq hb]
  simp only [Option.bind_some]
  cases hm : mayB b with
  | false => rfl
  | true =>
    have hm2 := (mayB_iff b).1 hm
    have hw := hm2.1.2.2.2.1
    have htk := hm2.1.2.2.1
    rw [rdecided_eq h]
    simp only [Option.bind_some, findM_has]
    cases hk : hasK s.Toks b.Token with
    | true => rfl
    | false =>
      simp only [Bool.not_true, Bool.false_eq_true, if_false]
      rw [rtapply_eq (by omega) hb]
      simp only [Option.bind_some]
      rw [rtput_eq (by omega) _ _ (by omega)]
      unfold gaveUp
      by_cases h2 : b.Kind = 2 <;> simp [h2]
theorem rsamest_eq {a b : State} (ha : SOk a) : ref07_Same a b = some (decide (a = b)) := by
  have hd := ha.d
  have ht := ha.t
  unfold ref07_Same
  rw [rpairs_eq _ _ (by omega)]
  simp only [Option.bind_some]
  by_cases h1 : a.Data = b.Data
  · rw [if_pos (by simpa using h1), rpairs_eq _ _ (by omega)]
    simp only [Option.bind_some]
    congr 1
    cases a; cases b; simp only at h1; subst h1; simp
  · rw [if_neg (by simpa using h1)]
    have : a ≠ b := fun e => h1 (by rw [e])
    simp [this]
theorem doB_ok {s : State} {n m : Nat} (hd : s.Data.length ≤ n) (ht : s.Toks.length ≤ m) (b : Batch) : (doB s b).1.Data.length ≤ n + 24 ∧ (doB s b).1.Toks.length ≤ m + 1 := by
  unfold doB
  split
  · simp only; omega
  · rename_i hm
    have hm : mayB b = true := by simpa using hm
    have hw := ((mayB_iff b).1 hm).1.2.2.2.1
    split
    · simp only; omega
    · have h1 := applyM_len b.Writes s.Data
      have h2 := putP_len s.Toks b.Token (gaveUp b)
      simp only; omega

/-! ### Bytes -/
theorem wBytes_len {w : Write} (h : goodW w = true) : 0 < (wBytes w).length ∧ (wBytes w).length ≤ 200 := by
  unfold goodW at h
  simp only [Bool.and_eq_true, decide_eq_true_eq] at h
  obtain ⟨⟨⟨h1, h2⟩, h3⟩, h4⟩ := h
  have k := textM_le (t := w.Key) (k := 32) h2 (by omega)
  have v := textM_le (t := w.Val) (k := 64) h3 (by omega)
  unfold wBytes delN
  split <;> simp only [List.length_append, List.length_cons, List.length_nil] <;> omega
theorem wsBytes_snoc (l : List Write) (w : Write) : wsBytes (l ++ [w]) = wsBytes l ++ wBytes w := by
  induction l with
  | nil => simp [wsBytes]
  | cons x r ih => rw [List.cons_append]; unfold wsBytes; rw [ih, List.append_assoc]
theorem wsBytes_fold (l : List Write) (a : Str) : l.foldl (fun a w => a ++ wBytes w) a = a ++ wsBytes l := by
  induction l generalizing a with
  | nil => simp [wsBytes]
  | cons x r ih => rw [List.foldl_cons, ih]; simp [wsBytes]
theorem headB_len {b : Batch} (h : mayB b = true) : 0 < (headB b).length ∧ (headB b).length ≤ 100 := by
  have hm := ((mayB_iff b).1 h).1
  have n1 := numS_len (n := b.Kind.toNat) (by omega)
  have n2 := numS_len (n := b.Writes.length) (by omega)
  have t := textM_le (t := b.Token) (k := 16) (by omega) (by omega)
  have p : 0 < (numS b.Kind.toNat).length := by unfold numS; simp
  unfold headB
  simp only [List.length_append]; omega
theorem bbytes_eq {b : Batch} : batch_Bytes b = some (bytesB b) := by
  unfold batch_Bytes bytesB
  rw [bmay_eq]
  simp only [Option.bind_some]
  cases hm : mayB b with
  | false => rfl
  | true =>
    obtain ⟨⟨hk, h1, h2, h3, h4⟩, hr, hg⟩ := (mayB_iff b).1 hm
    have hg := List.all_eq_true.1 hg
    simp only [Bool.not_true, Bool.false_eq_true, if_false]
    have ek : IntKind.u64.wrap b.Kind = ((b.Kind.toNat : Nat) : Int) := by rw [u64_in (by omega) (by omega)]; omega
    have ew : IntKind.u64.wrap (b.Writes.length : Int) = ((b.Writes.length : Nat) : Int) := u64_in (by omega) (by omega)
    have hl := headB_len hm
    unfold headB at hl
    simp only [List.length_append] at hl
    rw [ek, ew, num_eq (by omega), text_eq (by omega), num_eq (by omega)]
    simp only [Option.bind_some]
    rw [need_pos (by omega), need_pos (by simp only [List.length_append]; omega), need_pos (by simp only [List.length_append, List.length_nil]; omega)]
    have h := fold_loop (ρ := Str) b.Writes (fun k (a : Str) => ((k : Int), a)) (fun (s301 : Int × Str) => batch_Bytes_l2 b s301.1 s301.2) (fun a w => a ++ wBytes w) (fun a => a) (fun k a => a.length ≤ 100 + 200 * k ∧ 0 < a.length)
      (fun k x a hk hi => by
        have hlt := (List.getElem?_eq_some_iff.1 hk).1
        have hgx := hg x (List.mem_of_getElem? hk)
        have hwl := wBytes_len hgx
        refine ⟨?_, by simp only [List.length_append]; omega⟩
        have hgx2 := hgx
        unfold goodW at hgx2
        simp only [Bool.and_eq_true, decide_eq_true_eq] at hgx2
        obtain ⟨⟨⟨g1, g2⟩, g3⟩, g4⟩ := hgx2
        have hn : dec_Num (if x.Del = true then 1 else 0) = some (delN x) := by
          unfold delN
          cases x.Del with
          | true => have := num_eq (n := 1) (by omega); rw [nums1] at this; exact this
          | false => have := num_eq (n := 0) (by omega); rw [nums0] at this; exact this
        have hdl : (delN x).length = 2 := by unfold delN; split <;> rfl
        have kl := textM_le (t := x.Key) (k := 32) g2 (by omega)
        have vl := textM_le (t := x.Val) (k := 64) g3 (by omega)
        have hwe : (delN x ++ textM x.Key) ++ textM x.Val = wBytes x := by unfold wBytes; rw [List.append_assoc]
        simp only
        unfold batch_Bytes_l2
        rw [if_pos (by simpa using hlt), ix_in hlt, (List.getElem?_eq_some_iff.1 hk).2, IntWalk.i64_in _ ⟨by omega, by omega⟩]
        simp only [Option.bind_some]
        rw [hn, text_eq (by omega)]
        simp only [Option.bind_some]
        rw [need_pos (by omega), text_eq (by omega)]
        simp only [Option.bind_some]
        rw [need_pos (by simp only [List.length_append]; omega), hwe, need_pos ⟨hwl.1, by omega⟩]
        rfl)
      (fun a hi => by simp only; unfold batch_Bytes_l2; rw [if_neg (by simp)]) (([] : Str) ++ ((numS b.Kind.toNat ++ textM b.Token) ++ numS b.Writes.length)) (by simp only [List.length_append, List.length_nil]; omega)
    obtain ⟨e1, e2, e3⟩ := h
    simp only [Int.natCast_zero, Int.ofNat_eq_natCast] at e1
    rw [e1]
    simp only [Option.bind_some]
    rw [need_pos e3, wsBytes_fold]
    unfold headB
    simp
end Go.Ab
