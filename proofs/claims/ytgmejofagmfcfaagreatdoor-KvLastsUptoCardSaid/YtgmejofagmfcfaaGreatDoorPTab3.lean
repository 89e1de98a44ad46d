/- Tables: the document's functions are the models (plain). -/
import Derived.Test.YtgmejofagmfcfaaGreatDoorPTab2
namespace Go.Ab
set_option linter.unusedVariables false
set_option linter.unusedSimpArgs false

/-- All keys are texts that can be gone through. -/
def KeysOk (l : List Pair) : Prop := ∀ p ∈ l, p.Key.length ≤ 1099511627776
theorem rtfind_eq {l : List Pair} (hl : l.length ≤ 2000000000000) (key : Str) : ref05_Find l key = some (findM l key) := by
  unfold ref05_Find
  have key0 : ∀ (m k : Nat), k + m = l.length → (∀ y ∈ l.take k, ¬ y.Key = key) →
      (∃ j x, l[j]? = some x ∧ x.Key = key ∧ (∀ y ∈ l.take j, ¬ y.Key = key) ∧ loop (fun (s57 : Int) => ref05_Find_l2 l key s57) (k : Int) = some (.inl x.Val)) ∨ ((∀ y ∈ l, ¬ y.Key = key) ∧ loop (fun (s57 : Int) => ref05_Find_l2 l key s57) (k : Int) = some (.inr ())) := by
    intro m
    induction m with
    | zero =>
      intro k hk hy
      have : k = l.length := by omega
      subst this
      rw [List.take_length] at hy
      exact .inr ⟨hy, loop_inr (by unfold ref05_Find_l2; rw [if_neg (by simp)])⟩
    | succ m ih =>
      intro k hk hy
      have hlt : k < l.length := by omega
      by_cases h : l[k].Key = key
      · refine .inl ⟨k, l[k], List.getElem?_eq_getElem hlt, h, hy, loop_inr ?_⟩
        unfold ref05_Find_l2
        rw [if_pos (by simpa using hlt), ix_in hlt]
        simp [h]
      · have hs : ref05_Find_l2 l key (k : Int) = some (.inl ((k + 1 : Nat) : Int)) := by
          unfold ref05_Find_l2
          rw [if_pos (by simpa using hlt), ix_in hlt, IntWalk.i64_in _ ⟨by omega, by omega⟩]
          simp [h]
        rw [loop_inl hs]
        refine ih (k + 1) (by omega) (fun y hy2 => ?_)
        rw [List.take_succ_eq_append_getElem hlt] at hy2
        rcases List.mem_append.1 hy2 with hy2 | hy2
        · exact hy y hy2
        · simp at hy2; subst hy2; exact h
  rcases key0 l.length 0 (by omega) (by simp) with ⟨j, x, hk, hx, hp, h⟩ | ⟨hp, h⟩
  · simp only [Int.natCast_zero, Int.ofNat_eq_natCast] at h
    rw [h]
    have e := find_pre (r := l.drop (j + 1)) hp hx
    rw [← first_split hk] at e
    rw [e]; rfl
  · simp only [Int.natCast_zero, Int.ofNat_eq_natCast] at h
    rw [h, find_none hp]; rfl
theorem rtdrop_eq {l : List Pair} (hl : l.length ≤ 2000000000000) (key : Str) : ref05_Drop l key = some (dropP l key) := by
  unfold ref05_Drop dropP
  rw [filt_loop l (fun p => !decide (p.Key = key)) 0 (fun (s150 : Int × (List Pair)) => ref05_Drop_l2 l key s150.1 s150.2) (fun k a x hk ha => by
    have hlt := (List.getElem?_eq_some_iff.1 hk).1
    simp only
    unfold ref05_Drop_l2
    rw [if_pos (by simpa using hlt), ix_in hlt, (List.getElem?_eq_some_iff.1 hk).2, IntWalk.i64_in _ ⟨by omega, by omega⟩]
    have n1 : (a.length + 1) * 32 ≤ 140737488355328 := by omega
    by_cases h : x.Key = key <;> simp [h, need_pos n1]) (fun a => by simp only; unfold ref05_Drop_l2; rw [if_neg (by simp)])]
  rfl
/-- One round of the document's Put. -/
def putR (is : Bool) (key v : Str) (s : Bool × List Pair) (x : Pair) : Bool × List Pair :=
  if s.1 = true then (true, s.2 ++ [x]) else
  if is = true then (if x.Key = key then (true, s.2 ++ [⟨key, v⟩]) else (false, s.2 ++ [x]))
  else (if ltS key x.Key = true then (true, s.2 ++ [⟨key, v⟩] ++ [x]) else (false, s.2 ++ [x]))
theorem putR_done (is : Bool) (key v : Str) (l : List Pair) : ∀ a, l.foldl (putR is key v) (true, a) = (true, a ++ l) := by
  induction l with
  | nil => intro a; simp
  | cons x r ih =>
    intro a
    rw [List.foldl_cons]
    have : putR is key v (true, a) x = (true, a ++ [x]) := by simp [putR]
    rw [this, ih]; simp
theorem putR_is (key v : Str) (l : List Pair) : ∀ a, l.foldl (putR true key v) (false, a) = (hasK l key, a ++ replP key v l) := by
  induction l with
  | nil => intro a; simp [hasK, replP]
  | cons x r ih =>
    intro a
    rw [List.foldl_cons]
    unfold replP
    by_cases h : x.Key = key
    · have : putR true key v (false, a) x = (true, a ++ [⟨key, v⟩]) := by simp [putR, h]
      rw [this, putR_done, if_pos h]
      simp [hasK, h]
    · have : putR true key v (false, a) x = (false, a ++ [x]) := by simp [putR, h]
      rw [this, ih, if_neg h]
      simp [hasK, h]
theorem putR_not (key v : Str) (l : List Pair) : ∀ a, ∃ d b, l.foldl (putR false key v) (false, a) = (d, b) ∧ (if d = true then b else b ++ [⟨key, v⟩]) = a ++ insP key v l ∧ b.length ≤ a.length + l.length + 1 := by
  induction l with
  | nil => intro a; exact ⟨false, a, rfl, by simp [insP], by simp⟩
  | cons x r ih =>
    intro a
    rw [List.foldl_cons]
    unfold insP
    cases h : ltS key x.Key with
    | true =>
      have : putR false key v (false, a) x = (true, a ++ [⟨key, v⟩] ++ [x]) := by simp [putR, h]
      rw [this, putR_done]
      exact ⟨true, _, rfl, by simp, by simp only [List.length_append, List.length_cons, List.length_nil]; omega⟩
    | false =>
      have : putR false key v (false, a) x = (false, a ++ [x]) := by simp [putR, h]
      rw [this]
      obtain ⟨d, b, h1, h2, h3⟩ := ih (a ++ [x])
      exact ⟨d, b, h1, by rw [h2]; simp, by simp only [List.length_append, List.length_cons, List.length_nil] at *; omega⟩
theorem putR_len (is : Bool) (key v : Str) (s : Bool × List Pair) (x : Pair) : (putR is key v s x).2.length ≤ s.2.length + 2 := by
  unfold putR; repeat' split
  all_goals simp
theorem room32 {n k : Nat} (h : n ≤ 2 * k) (hk : k ≤ 2000000000000) : (n + 1) * 32 ≤ 140737488355328 ∧ (n + 1 + 1) * 32 ≤ 140737488355328 := by omega
theorem putR_step {l : List Pair} (hl : l.length ≤ 2000000000000) (key v : Str) (hk0 : key.length ≤ 1099511627776) (y : Str × Bool) {k : Nat} {x : Pair} (hk : l[k]? = some x) (d : Bool) (b : List Pair) (hi : b.length ≤ 2 * k) :
    ref05_Put_l2 l key v y d (k : Int) b = some (.inl ((putR y.2 key v (d, b) x).1, ((k + 1 : Nat) : Int), (putR y.2 key v (d, b) x).2)) := by
  have hlt := (List.getElem?_eq_some_iff.1 hk).1
  obtain ⟨n1, n0⟩ := room32 hi (by omega)
  have hw : IntKind.i64.wrap ((k : Int) + 1) = ((k + 1 : Nat) : Int) := IntWalk.i64_in _ ⟨by omega, by omega⟩
  have n2 : ((b ++ [({ Key := key, Val := v } : Pair)]).length + 1) * 32 ≤ 140737488355328 := by rw [List.length_append]; exact n0
  have hix : ix l (k : Int) = some x := by rw [ix_in hlt, (List.getElem?_eq_some_iff.1 hk).2]
  have hle := rless_eq (b := x.Key) hk0
  unfold ref05_Put_l2 putR
  rw [if_pos (by simpa using hlt)]
  simp only [hix, hw, hle, Option.bind_some]
  cases d with
  | true => simp [need_pos n1]
  | false =>
    cases h1 : y.2 with
    | true =>
      by_cases h2 : x.Key = key
      · simp [h2, need_pos n1]
      · simp [h2, need_pos n1]
    | false =>
      cases h2 : ltS key x.Key with
      | true => simp only [need_pos n1]; simp [need_pos n0]
      | false => simp [need_pos n1]
theorem rtput_eq {l : List Pair} (hl : l.length ≤ 2000000000000) (key v : Str) (hk0 : key.length ≤ 1099511627776) : ref05_Put l key v = some (putP l key v) := by
  unfold ref05_Put
  rw [rtfind_eq hl]
  simp only [Option.bind_some]
  have hloop := fold_loop (ρ := Bool × List Pair) l (fun k (a : Bool × List Pair) => (a.1, (k : Int), a.2)) (fun (s : Bool × Int × (List Pair)) => ref05_Put_l2 l key v (findM l key) s.1 s.2.1 s.2.2) (putR (findM l key).2 key v) (fun a => a) (fun k a => a.2.length ≤ 2 * k)
    (fun k x a hk hi => by
      have hlt := (List.getElem?_eq_some_iff.1 hk).1
      have hpl := putR_len (findM l key).2 key v a x
      refine ⟨?_, by omega⟩
      exact putR_step hl key v hk0 (findM l key) hk a.1 a.2 hi)
    (fun a hi => by simp only; unfold ref05_Put_l2; rw [if_neg (by simp)]) (false, []) (by simp)
  have h1 := hloop.1
  have h2 := hloop.2
  simp only [Int.natCast_zero, Int.ofNat_eq_natCast] at h1
  rw [h1]
  simp only [Option.bind_some]
  rw [findM_has] at h1 h2 ⊢
  unfold putP
  cases hh : hasK l key with
  | true =>
    rw [hh] at h2
    rw [putR_is, hh]
    simp
  | false =>
    rw [hh] at h2
    obtain ⟨d, b, e1, e2, e3⟩ := putR_not key v l []
    rw [e1]
    simp only [List.nil_append, List.length_nil] at e2 e3
    simp only [Bool.false_eq_true, if_false]
    rw [← e2]
    cases d with
    | true => simp
    | false =>
      have n3 : (b.length + 1) * 32 ≤ 140737488355328 := by omega
      simp [need_pos n3]
theorem rtapply_eq {l : List Pair} {w : List Write} (hl : l.length + w.length ≤ 2000000000000) (hw : ∀ x ∈ w, x.Key.length ≤ 1099511627776) : ref05_Apply l w = some (applyM l w) := by
  unfold ref05_Apply
  rw [need_pos (by simp only [List.length_nil]; omega), List.nil_append]
  have h := fold_loop (ρ := List Pair) w (fun k (a : List Pair) => (a, (k : Int))) (fun (s : (List Pair) × Int) => ref05_Apply_l2 w s.1 s.2) doW (fun a => a) (fun k a => a.length ≤ l.length + k)
    (fun k x a hk hi => by
      have hlt := (List.getElem?_eq_some_iff.1 hk).1
      have hd := doW_len a x
      refine ⟨?_, by omega⟩
      simp only
      unfold ref05_Apply_l2
      rw [if_pos (by simpa using hlt), ix_in hlt, (List.getElem?_eq_some_iff.1 hk).2, IntWalk.i64_in _ ⟨by omega, by omega⟩]
      simp only [Option.bind_some]
      unfold doW
      cases hx : x.Del with
      | true => simp [rtdrop_eq (show a.length ≤ 2000000000000 by omega)]
      | false => simp [rtput_eq (show a.length ≤ 2000000000000 by omega) _ _ (hw x (List.mem_of_getElem? hk))])
    (fun a hi => by simp only; unfold ref05_Apply_l2; rw [if_neg (by simp)]) l (by simp)
  have h1 := h.1
  simp only [Int.natCast_zero, Int.ofNat_eq_natCast] at h1
  rw [h1]; rfl
end Go.Ab
