/- What is freed of rows: program and document alike (plain). -/
import Derived.Test.YtdoceelfokmhfaaPLk7
namespace Go.Ab
set_option linter.unusedVariables false
set_option linter.unusedSimpArgs false

theorem del_end {α : Type} (a x y : List α) (i : Nat) (h : i ≤ a.length) : List.drop 0 (List.take i (a.take i ++ x ++ y)) = a.take i := by
  rw [List.drop_zero, List.append_assoc, List.take_append_of_le_length (by rw [List.length_take]; omega), List.take_take, Nat.min_self]
def notH (v : Int) (h : Hold) : Bool := !decide (h.Txn = v)
theorem delH_eq {l : List Hold} (hl : l.length ≤ 2000000) (v : Int) : slices_DeleteFunc_Hold__lock_Free_1 l v = some (l.filter (fun h => !decide (h.Txn = v))) := by
  unfold slices_DeleteFunc_Hold__lock_Free_1 slices_IndexFunc_Hold__lock_Free_1
  rcases find_first l (fun h => decide (h.Txn = v)) (fun k => (.inl (k : Int) : Int ⊕ Unit)) (.inr ()) (fun (s169 : Int) => slices_IndexFunc_Hold__lock_Free_1_l4 l v s169) (fun k x hk => by
    have hlt := (List.getElem?_eq_some_iff.1 hk).1
    unfold slices_IndexFunc_Hold__lock_Free_1_l4 lock_Free_1
    rw [if_pos (by simpa using hlt), ix_in hlt, (List.getElem?_eq_some_iff.1 hk).2, IntWalk.i64_in _ ⟨by omega, by omega⟩]
    by_cases h : x.Txn = v <;> simp [h]) (by unfold slices_IndexFunc_Hold__lock_Free_1_l4; rw [if_neg (by simp)]) with ⟨k, x, hk, h1, h2, h3⟩ | ⟨h1, h3⟩
  · have hlt := (List.getElem?_eq_some_iff.1 hk).1
    have hx := (List.getElem?_eq_some_iff.1 hk).2
    rw [h1]
    simp only [Option.bind_some]
    rw [if_neg (by first | (simp; done) | (simp; omega)), IntWalk.i64_in _ ⟨by omega, by omega⟩]
    obtain ⟨i2, a2, e1, e2, e3, e4⟩ := del_loop l (fun h => decide (h.Txn = v)) (fun (s343 : Int × Int × (List Hold)) => slices_DeleteFunc_Hold__lock_Free_1_l4 v s343.1 s343.2.1 s343.2.2)
      (fun i j a x hij ha hx => by
        have hlt := (List.getElem?_eq_some_iff.1 hx).1
        simp only
        unfold slices_DeleteFunc_Hold__lock_Free_1_l4 lock_Free_1
        rw [if_pos (by simpa using hlt), ix_in hlt, (List.getElem?_eq_some_iff.1 hx).2, IntWalk.i64_in ((j : Int) + 1) ⟨by omega, by omega⟩, IntWalk.i64_in ((i : Int) + 1) ⟨by omega, by omega⟩, ix_in (show i < a.length by omega)]
        by_cases h : x.Txn = v <;> simp [h])
      (fun i a ha => by
        simp only
        unfold slices_DeleteFunc_Hold__lock_Free_1_l4
        rw [if_neg (by simp; omega)])
      (l.length - (k + 1)) k (k + 1) l (by omega) (by omega) rfl rfl (by
        rw [List.take_succ_eq_append_getElem hlt, List.filter_append, hx]
        have hf : (l.take k).filter (fun h => !decide (h.Txn = v)) = l.take k := List.filter_eq_self.2 (fun y hy => by have := h3 y hy; simp at this; simp [this])
        have h2' : x.Txn = v := by simpa using h2
        rw [hf]; simp [List.filter_cons, h2'])
    rw [show ((k : Int) + 1) = ((k + 1 : Nat) : Int) from rfl, e1]
    simp only [Option.bind_some]
    have hn : (((List.map encHold a2).length : Nat) : Int).toNat = a2.length := by simp
    rw [need_pos (by omega), need_pos (by omega), need_pos (by simp only [List.length_append, List.length_take, List.length_drop, List.length_replicate, hn]; omega), need_pos (by simp only [List.length_append, List.length_take, List.length_drop, List.length_replicate, hn, Int.toNat_natCast]; omega)]
    rw [Int.toNat_natCast]
    exact congrArg some ((del_end a2 _ _ i2 (by omega)).trans e4)
  · rw [h1]
    simp only [Option.bind_some]
    rw [if_pos (by decide)]
    congr 1
    exact (List.filter_eq_self.2 (fun y hy => by have := h3 y hy; simp at this; simp [this])).symm
theorem delC_eq {l : List Claim} (hl : l.length ≤ 2000000) (v : Int) : slices_DeleteFunc_Claim__lock_Free_2 l v = some (l.filter (fun h => !decide (h.Txn = v))) := by
  unfold slices_DeleteFunc_Claim__lock_Free_2 slices_IndexFunc_Claim__lock_Free_2
  rcases find_first l (fun h => decide (h.Txn = v)) (fun k => (.inl (k : Int) : Int ⊕ Unit)) (.inr ()) (fun (s169 : Int) => slices_IndexFunc_Claim__lock_Free_2_l4 l v s169) (fun k x hk => by
    have hlt := (List.getElem?_eq_some_iff.1 hk).1
    unfold slices_IndexFunc_Claim__lock_Free_2_l4 lock_Free_2
    rw [if_pos (by simpa using hlt), ix_in hlt, (List.getElem?_eq_some_iff.1 hk).2, IntWalk.i64_in _ ⟨by omega, by omega⟩]
    by_cases h : x.Txn = v <;> simp [h]) (by unfold slices_IndexFunc_Claim__lock_Free_2_l4; rw [if_neg (by simp)]) with ⟨k, x, hk, h1, h2, h3⟩ | ⟨h1, h3⟩
  · have hlt := (List.getElem?_eq_some_iff.1 hk).1
    have hx := (List.getElem?_eq_some_iff.1 hk).2
    rw [h1]
    simp only [Option.bind_some]
    rw [if_neg (by first | (simp; done) | (simp; omega)), IntWalk.i64_in _ ⟨by omega, by omega⟩]
    obtain ⟨i2, a2, e1, e2, e3, e4⟩ := del_loop l (fun h => decide (h.Txn = v)) (fun (s343 : Int × Int × (List Claim)) => slices_DeleteFunc_Claim__lock_Free_2_l4 v s343.1 s343.2.1 s343.2.2)
      (fun i j a x hij ha hx => by
        have hlt := (List.getElem?_eq_some_iff.1 hx).1
        simp only
        unfold slices_DeleteFunc_Claim__lock_Free_2_l4 lock_Free_2
        rw [if_pos (by simpa using hlt), ix_in hlt, (List.getElem?_eq_some_iff.1 hx).2, IntWalk.i64_in ((j : Int) + 1) ⟨by omega, by omega⟩, IntWalk.i64_in ((i : Int) + 1) ⟨by omega, by omega⟩, ix_in (show i < a.length by omega)]
        by_cases h : x.Txn = v <;> simp [h])
      (fun i a ha => by
        simp only
        unfold slices_DeleteFunc_Claim__lock_Free_2_l4
        rw [if_neg (by simp; omega)])
      (l.length - (k + 1)) k (k + 1) l (by omega) (by omega) rfl rfl (by
        rw [List.take_succ_eq_append_getElem hlt, List.filter_append, hx]
        have hf : (l.take k).filter (fun h => !decide (h.Txn = v)) = l.take k := List.filter_eq_self.2 (fun y hy => by have := h3 y hy; simp at this; simp [this])
        have h2' : x.Txn = v := by simpa using h2
        rw [hf]; simp [List.filter_cons, h2'])
    rw [show ((k : Int) + 1) = ((k + 1 : Nat) : Int) from rfl, e1]
    simp only [Option.bind_some]
    have hn : (((List.map encClaim a2).length : Nat) : Int).toNat = a2.length := by simp
    rw [need_pos (by omega), need_pos (by omega), need_pos (by simp only [List.length_append, List.length_take, List.length_drop, List.length_replicate, hn]; omega), need_pos (by simp only [List.length_append, List.length_take, List.length_drop, List.length_replicate, hn, Int.toNat_natCast]; omega)]
    rw [Int.toNat_natCast]
    exact congrArg some ((del_end a2 _ _ i2 (by omega)).trans e4)
  · rw [h1]
    simp only [Option.bind_some]
    rw [if_pos (by decide)]
    congr 1
    exact (List.filter_eq_self.2 (fun y hy => by have := h3 y hy; simp at this; simp [this])).symm
theorem filt_loop {α : Type} (l : List α) (q : α → Bool) (b : Nat) (step : (Int × List α) → Option ((Int × List α) ⊕ List α))
    (hstep : ∀ (k : Nat) (a : List α) x, l[k]? = some x → a.length ≤ k → step ((k : Int), a) = some (.inl (((k + 1 : Nat) : Int), if q x = true then a ++ [x] else a))) (hend : ∀ a : List α, step ((l.length : Int), a) = some (.inr a)) :
    loop step ((0 : Int), ([] : List α)) = some (l.filter q) := by
  have h := fold_loop (ρ := List α) l (fun k (a : List α) => ((k : Int), a)) step (fun a x => if q x = true then a ++ [x] else a) (fun a => a) (fun k a => a.length ≤ k)
    (fun k x a hk hi => ⟨hstep k a x hk hi, by split
                                               · simp only [List.length_append, List.length_cons, List.length_nil]; omega
                                               · omega⟩) (fun a _ => hend a) [] (by simp)
  have e : ∀ (l : List α) (a : List α), l.foldl (fun a x => if q x = true then a ++ [x] else a) a = a ++ l.filter q := by
    intro l
    induction l with
    | nil => intro a; simp
    | cons y r ih =>
      intro a
      rw [List.foldl_cons, ih]
      by_cases hq : q y = true <;> simp [hq, List.filter_cons]
  have h1 := h.1
  rw [e, List.nil_append] at h1
  exact h1
theorem rfreeH {l : Locks} (hl : LOk l) (v : Int) : loop (fun (s171 : Int × (List Hold)) => ref10_Free_l2 l v s171.1 s171.2) ((0 : Int), ([] : (List Hold))) = some (l.Held.filter (fun h => !decide (h.Txn = v))) := by
  have hh := hl.heldL
  refine filt_loop l.Held (fun h => !decide (h.Txn = v)) 0 _ (fun k a x hk ha => ?_) (fun a => ?_)
  · have hlt := (List.getElem?_eq_some_iff.1 hk).1
    simp only
    unfold ref10_Free_l2
    rw [if_pos (by simpa using hlt), ix_in hlt, (List.getElem?_eq_some_iff.1 hk).2, IntWalk.i64_in _ ⟨by omega, by omega⟩]
    simp only [Option.bind_some]
    by_cases h : x.Txn = v
    · simp [h]
    · rw [if_pos (by simp [h]), if_pos (by simp [h]), need_pos (by omega)]; rfl
  · simp only
    unfold ref10_Free_l2
    rw [if_neg (by simp)]
theorem rfreeC {l : Locks} (hl : LOk l) (v : Int) : loop (fun (s365 : Int × (List Claim)) => ref10_Free_l4 l v s365.1 s365.2) ((0 : Int), ([] : (List Claim))) = some (l.Queue.filter (fun h => !decide (h.Txn = v))) := by
  have hh := hl.queL
  refine filt_loop l.Queue (fun h => !decide (h.Txn = v)) 0 _ (fun k a x hk ha => ?_) (fun a => ?_)
  · have hlt := (List.getElem?_eq_some_iff.1 hk).1
    simp only
    unfold ref10_Free_l4
    rw [if_pos (by simpa using hlt), ix_in hlt, (List.getElem?_eq_some_iff.1 hk).2, IntWalk.i64_in _ ⟨by omega, by omega⟩]
    simp only [Option.bind_some]
    by_cases h : x.Txn = v
    · simp [h]
    · rw [if_pos (by simp [h]), if_pos (by simp [h]), need_pos (by omega)]; rfl
  · simp only
    unfold ref10_Free_l4
    rw [if_neg (by simp)]
end Go.Ab
