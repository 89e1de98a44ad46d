/- Tables: program and document are the models (plain). -/
import Derived.Test.YtgmejofagmfcfaaGreatDoorPTab1
import Derived.Test.YtgmejofagmfcfaaGreatDoorPLp1
namespace Go.Ab
set_option linter.unusedVariables false
set_option linter.unusedSimpArgs false

theorem ltS_not (k x : Str) : (!(ltS x k || decide (x = k))) = ltS k x := by
  rcases ltS_tri k x with h | h | h
  · have h1 : ltS x k = false := by
      cases hh : ltS x k with
      | false => rfl
      | true => have := ltS_trans k h hh; rw [ltS_irr] at this; cases this
    have h2 : ¬ x = k := fun e => by rw [e, ltS_irr] at h; cases h
    simp [h, h1, h2]
  · subst h; simp [ltS_irr]
  · have h1 : ltS k x = false := by
      cases hh : ltS k x with
      | false => rfl
      | true => have := ltS_trans k hh h; rw [ltS_irr] at this; cases this
    simp [h, h1]
theorem first_split {α : Type} {l : List α} {k : Nat} {x : α} (h : l[k]? = some x) : l = l.take k ++ x :: l.drop (k + 1) := by
  have hlt := (List.getElem?_eq_some_iff.1 h).1
  have hx := (List.getElem?_eq_some_iff.1 h).2
  rw [← hx, ← List.drop_eq_getElem_cons hlt, List.take_append_drop]
theorem find_pre {pre : List Pair} {x : Pair} {r : List Pair} {key : Str} (hp : ∀ y ∈ pre, ¬ y.Key = key) (hx : x.Key = key) : findM (pre ++ x :: r) key = (x.Val, true) := by
  unfold findM
  rw [List.find?_append, List.find?_eq_none.2 (by simpa using hp)]
  simp [hx]
theorem find_none {l : List Pair} {key : Str} (hp : ∀ y ∈ l, ¬ y.Key = key) : findM l key = ([], false) := by
  unfold findM
  rw [List.find?_eq_none.2 (by simpa using hp)]
theorem repl_pre {pre : List Pair} {x : Pair} {r : List Pair} {key v : Str} (hp : ∀ y ∈ pre, ¬ y.Key = key) (hx : x.Key = key) : replP key v (pre ++ x :: r) = pre ++ ⟨key, v⟩ :: r := by
  induction pre with
  | nil => simp [replP, hx]
  | cons y s ih =>
    rw [List.cons_append]
    unfold replP
    rw [if_neg (hp y (List.mem_cons_self ..)), ih (fun z hz => hp z (List.mem_cons_of_mem _ hz)), List.cons_append]
theorem ins_pre {pre : List Pair} {x : Pair} {r : List Pair} {key v : Str} (hp : ∀ y ∈ pre, ¬ ltS key y.Key = true) (hx : ltS key x.Key = true) : insP key v (pre ++ x :: r) = pre ++ ⟨key, v⟩ :: x :: r := by
  induction pre with
  | nil => simp [insP, hx]
  | cons y s ih =>
    rw [List.cons_append]
    unfold insP
    rw [if_neg (hp y (List.mem_cons_self ..)), ih (fun z hz => hp z (List.mem_cons_of_mem _ hz)), List.cons_append]
theorem ins_none {l : List Pair} {key v : Str} (hp : ∀ y ∈ l, ¬ ltS key y.Key = true) : insP key v l = l ++ [⟨key, v⟩] := by
  induction l with
  | nil => rfl
  | cons y s ih =>
    unfold insP
    rw [if_neg (hp y (List.mem_cons_self ..)), ih (fun z hz => hp z (List.mem_cons_of_mem _ hz)), List.cons_append]
theorem has_none {l : List Pair} {key : Str} (hp : ∀ y ∈ l, ¬ y.Key = key) : hasK l key = false := by
  unfold hasK; rw [List.any_eq_false]; simpa using hp
theorem has_mem {l : List Pair} {key : Str} {x : Pair} (h : x ∈ l) (hx : x.Key = key) : hasK l key = true := by
  unfold hasK; rw [List.any_eq_true]; exact ⟨x, h, by simpa using hx⟩
theorem at_ways {l : List Pair} (hl : l.length ≤ 2000000000000) (key : Str) :
    (∃ k x, l[k]? = some x ∧ x.Key = key ∧ (∀ y ∈ l.take k, ¬ y.Key = key) ∧ table_at l key = some (k : Int)) ∨ ((∀ y ∈ l, ¬ y.Key = key) ∧ table_at l key = some (-1)) := by
  unfold table_at slices_IndexFunc_Pair__table_at_1
  rcases find_first l (fun p => decide (p.Key = key)) (fun k => (.inl (k : Int) : Int ⊕ Unit)) (.inr ()) (fun (s169 : Int) => slices_IndexFunc_Pair__table_at_1_l4 l key s169) (fun k x hk => by
    have hlt := (List.getElem?_eq_some_iff.1 hk).1
    unfold slices_IndexFunc_Pair__table_at_1_l4 table_at_1
    rw [if_pos (by simpa using hlt), ix_in hlt, (List.getElem?_eq_some_iff.1 hk).2, IntWalk.i64_in _ ⟨by omega, by omega⟩]
    by_cases h : x.Key = key <;> simp [h]) (by unfold slices_IndexFunc_Pair__table_at_1_l4; rw [if_neg (by simp)]) with ⟨k, x, hk, h1, h2, h3⟩ | ⟨h1, h3⟩
  · exact .inl ⟨k, x, hk, by simpa using h2, fun y hy => by simpa using h3 y hy, by rw [h1]; rfl⟩
  · exact .inr ⟨fun y hy => by simpa using h3 y hy, by rw [h1]; rfl⟩
theorem tfind_eq {l : List Pair} (hl : l.length ≤ 2000000000000) (key : Str) : table_Find l key = some (findM l key) := by
  unfold table_Find
  rcases at_ways hl key with ⟨k, x, hk, hx, hp, h⟩ | ⟨hp, h⟩
  · have hlt := (List.getElem?_eq_some_iff.1 hk).1
    rw [h]
    simp only [Option.bind_some]
    rw [if_neg (by simp), ix_in hlt, (List.getElem?_eq_some_iff.1 hk).2]
    simp only [Option.bind_some]
    have e := find_pre (r := l.drop (k + 1)) hp hx
    rw [← first_split hk] at e
    rw [e]
  · rw [h]
    simp only [Option.bind_some]
    rw [if_pos (by decide), find_none hp]
theorem tput_eq {l : List Pair} (hl : l.length ≤ 2000000000000) (key v : Str) : table_Put l key v = some (putP l key v) := by
  unfold table_Put
  rw [need_pos (by omega)]
  rcases at_ways hl key with ⟨k, x, hk, hx, hp, h⟩ | ⟨hp, h⟩
  · have hlt := (List.getElem?_eq_some_iff.1 hk).1
    rw [h]
    simp only [Option.bind_some]
    rw [if_pos (by simp), ix_in hlt]
    simp only [Option.bind_some, Int.toNat_natCast]
    have e := repl_pre (r := l.drop (k + 1)) (v := v) hp hx
    rw [← first_split hk] at e
    have hh : hasK l key = true := has_mem (List.mem_of_getElem? hk) hx
    unfold putP
    rw [if_pos hh, e, List.set_eq_take_append_cons_drop, if_pos hlt]
  · rw [h]
    simp only [Option.bind_some]
    rw [if_neg (by decide)]
    have hh : hasK l key = false := has_none hp
    unfold putP
    rw [if_neg (by rw [hh]; simp)]
    unfold slices_IndexFunc_Pair__table_Put_1
    rcases find_first l (fun p => ltS key p.Key) (fun k => (.inl (k : Int) : Int ⊕ Unit)) (.inr ()) (fun (s169 : Int) => slices_IndexFunc_Pair__table_Put_1_l4 l key s169) (fun k x hk => by
      have hlt := (List.getElem?_eq_some_iff.1 hk).1
      unfold slices_IndexFunc_Pair__table_Put_1_l4 table_Put_1
      rw [if_pos (by simpa using hlt), ix_in hlt, (List.getElem?_eq_some_iff.1 hk).2, IntWalk.i64_in _ ⟨by omega, by omega⟩]
      simp only [Option.bind_some, ltS_not]
      cases h : ltS key x.Key <;> simp [h]) (by unfold slices_IndexFunc_Pair__table_Put_1_l4; rw [if_neg (by simp)]) with ⟨k, x, hk, h1, h2, h3⟩ | ⟨h1, h3⟩
    · have hlt := (List.getElem?_eq_some_iff.1 hk).1
      have e := ins_pre (r := l.drop (k + 1)) (v := v) (key := key) (fun y hy => by have := h3 y hy; simp [this]) h2
      rw [← first_split hk] at e
      rw [h1]
      simp only [Option.bind_some]
      rw [if_neg (by simp), need_pos (by omega), Int.toNat_natCast, e]
      have hd : l.drop k = x :: l.drop (k + 1) := by rw [List.drop_eq_getElem_cons hlt, (List.getElem?_eq_some_iff.1 hk).2]
      rw [hd]; simp
    · rw [h1]
      simp only [Option.bind_some]
      rw [if_pos (by decide), need_pos (by omega), ins_none (fun y hy => by have := h3 y hy; simp [this])]
theorem tdropF_eq {l : List Pair} (hl : l.length ≤ 2000000000000) (v : Str) : slices_DeleteFunc_Pair__table_Drop_1 l v = some (dropP l v) := by
  unfold dropP
  unfold slices_DeleteFunc_Pair__table_Drop_1 slices_IndexFunc_Pair__table_Drop_1
  rcases find_first l (fun h => decide (h.Key = v)) (fun k => (.inl (k : Int) : Int ⊕ Unit)) (.inr ()) (fun (s169 : Int) => slices_IndexFunc_Pair__table_Drop_1_l4 l v s169) (fun k x hk => by
    have hlt := (List.getElem?_eq_some_iff.1 hk).1
    unfold slices_IndexFunc_Pair__table_Drop_1_l4 table_Drop_1
    rw [if_pos (by simpa using hlt), ix_in hlt, (List.getElem?_eq_some_iff.1 hk).2, IntWalk.i64_in _ ⟨by omega, by omega⟩]
    by_cases h : x.Key = v <;> simp [h]) (by unfold slices_IndexFunc_Pair__table_Drop_1_l4; rw [if_neg (by simp)]) with ⟨k, x, hk, h1, h2, h3⟩ | ⟨h1, h3⟩
  · have hlt := (List.getElem?_eq_some_iff.1 hk).1
    have hx := (List.getElem?_eq_some_iff.1 hk).2
    rw [h1]
    simp only [Option.bind_some]
    rw [if_neg (by first | (simp; done) | (simp; omega)), IntWalk.i64_in _ ⟨by omega, by omega⟩]
    obtain ⟨i2, a2, e1, e2, e3, e4⟩ := del_loop l (fun h => decide (h.Key = v)) (fun (s343 : Int × Int × (List Pair)) => slices_DeleteFunc_Pair__table_Drop_1_l4 v s343.1 s343.2.1 s343.2.2)
      (fun i j a x hij ha hx => by
        have hlt := (List.getElem?_eq_some_iff.1 hx).1
        simp only
        unfold slices_DeleteFunc_Pair__table_Drop_1_l4 table_Drop_1
        rw [if_pos (by simpa using hlt), ix_in hlt, (List.getElem?_eq_some_iff.1 hx).2, IntWalk.i64_in ((j : Int) + 1) ⟨by omega, by omega⟩, IntWalk.i64_in ((i : Int) + 1) ⟨by omega, by omega⟩, ix_in (show i < a.length by omega)]
        by_cases h : x.Key = v <;> simp [h])
      (fun i a ha => by
        simp only
        unfold slices_DeleteFunc_Pair__table_Drop_1_l4
        rw [if_neg (by simp; omega)])
      (l.length - (k + 1)) k (k + 1) l (by omega) (by omega) rfl rfl (by
        rw [List.take_succ_eq_append_getElem hlt, List.filter_append, hx]
        have hf : (l.take k).filter (fun h => !decide (h.Key = v)) = l.take k := List.filter_eq_self.2 (fun y hy => by have := h3 y hy; simp at this; simp [this])
        have h2' : x.Key = v := by simpa using h2
        rw [hf]; simp [List.filter_cons, h2'])
    rw [show ((k : Int) + 1) = ((k + 1 : Nat) : Int) from rfl, e1]
    simp only [Option.bind_some]
    have hn : (((List.map encPair a2).length : Nat) : Int).toNat = a2.length := by simp
    rw [need_pos (by omega), need_pos (by omega), need_pos (by simp only [List.length_append, List.length_take, List.length_drop, List.length_replicate, hn]; omega), need_pos (by simp only [List.length_append, List.length_take, List.length_drop, List.length_replicate, hn, Int.toNat_natCast]; omega)]
    rw [Int.toNat_natCast]
    exact congrArg some ((del_end a2 _ _ i2 (by omega)).trans e4)
  · rw [h1]
    simp only [Option.bind_some]
    rw [if_pos (by decide)]
    congr 1
    exact (List.filter_eq_self.2 (fun y hy => by have := h3 y hy; simp at this; simp [this])).symm
theorem tdrop_eq {l : List Pair} (hl : l.length ≤ 2000000000000) (v : Str) : table_Drop l v = some (dropP l v) := by
  unfold table_Drop
  rw [need_pos (by omega), tdropF_eq hl]; rfl
theorem tapply_eq {l : List Pair} {w : List Write} (hl : l.length + w.length ≤ 2000000000000) : table_Apply l w = some (applyM l w) := by
  unfold table_Apply
  rw [need_pos (by omega)]
  have h := fold_loop (ρ := List Pair) w (fun k (a : List Pair) => (a, (k : Int))) (fun (s253 : (List Pair) × Int) => table_Apply_l2 w s253.1 s253.2) doW (fun a => a) (fun k a => a.length ≤ l.length + k)
    (fun k x a hk hi => by
      have hlt := (List.getElem?_eq_some_iff.1 hk).1
      have hd := doW_len a x
      refine ⟨?_, by omega⟩
      simp only
      unfold table_Apply_l2 table_write_drop table_write_put
      rw [if_pos (by simpa using hlt), ix_in hlt, (List.getElem?_eq_some_iff.1 hk).2, IntWalk.i64_in _ ⟨by omega, by omega⟩]
      simp only [Option.bind_some]
      unfold doW
      cases hx : x.Del with
      | true => simp [tdrop_eq (show a.length ≤ 2000000000000 by omega)]
      | false => simp [tput_eq (show a.length ≤ 2000000000000 by omega)])
    (fun a hi => by simp only; unfold table_Apply_l2; rw [if_neg (by simp)]) l (by simp)
  have h1 := h.1
  simp only [Int.natCast_zero, Int.ofNat_eq_natCast] at h1
  rw [h1]; rfl
theorem rpairs_eq (a b : List Pair) (ha : a.length ≤ 4398046511104) : ref05_Same a b = some (decide (a = b)) := by
  unfold ref05_Same
  by_cases hl : a.length = b.length
  · rw [if_neg (by simp [hl]), same_rows a b hl (by omega) _ (fun k x y h1 h2 => by
      have hlt := (List.getElem?_eq_some_iff.1 h1).1
      have hlt2 := (List.getElem?_eq_some_iff.1 h2).1
      unfold ref05_Same_l2
      rw [if_pos (by simpa using hlt), ix_in hlt, ix_in hlt2, (List.getElem?_eq_some_iff.1 h1).2, (List.getElem?_eq_some_iff.1 h2).2, IntWalk.i64_in _ ⟨by omega, by omega⟩]
      by_cases h : x = y <;> simp [h]) (by unfold ref05_Same_l2; rw [if_neg (by simp)])]
    by_cases h : a = b <;> simp [h]
  · rw [if_pos (by simp; omega)]
    have : a ≠ b := fun h => hl (by rw [h])
    simp [this]
end Go.Ab
