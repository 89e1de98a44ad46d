/- Who stands in the way: program and document alike (plain). -/
import Derived.Test.YtdoceelfokmhfaaPLk2
namespace Go.Ab
set_option linter.unusedVariables false
set_option linter.unusedSimpArgs false

theorem fold_loop {α σ ρ τ : Type} (l : List α) (st : Nat → σ → τ) (step : τ → Option (τ ⊕ ρ)) (f : σ → α → σ) (fin : σ → ρ) (Inv : Nat → σ → Prop)
    (hstep : ∀ k x s, l[k]? = some x → Inv k s → step (st k s) = some (.inl (st (k + 1) (f s x))) ∧ Inv (k + 1) (f s x)) (hend : ∀ s, Inv l.length s → step (st l.length s) = some (.inr (fin s))) (s : σ) (h0 : Inv 0 s) :
    loop step (st 0 s) = some (fin (l.foldl f s)) ∧ Inv l.length (l.foldl f s) := by
  have key : ∀ (m k : Nat) (s : σ), k + m = l.length → Inv k s → loop step (st k s) = some (fin ((l.drop k).foldl f s)) ∧ Inv l.length ((l.drop k).foldl f s) := by
    intro m
    induction m with
    | zero =>
      intro k s hk hi
      have : k = l.length := by omega
      subst this
      rw [List.drop_length, List.foldl_nil]
      exact ⟨loop_inr (hend s hi), hi⟩
    | succ m ih =>
      intro k s hk hi
      have hlt : k < l.length := by omega
      obtain ⟨h1, h2⟩ := hstep k _ s (List.getElem?_eq_getElem hlt) hi
      rw [loop_inl h1, List.drop_eq_getElem_cons hlt, List.foldl_cons]
      exact ih (k + 1) _ (by omega) h2
  have := key l.length 0 s (by omega) h0
  rwa [List.drop_zero] at this

structure LOk (l : Locks) : Prop where
  heldL : l.Held.length ≤ 2000000
  queL : l.Queue.length ≤ 2000000
  held : ∀ h ∈ l.Held, In64 h.Txn ∧ wOk h.W
  que : ∀ c ∈ l.Queue, In64 c.Txn ∧ wOk c.W
def addB (txn : Int) (w : Want) (ks : List Int) (t : Int) (v : Want) : List Int := if t ≠ txn ∧ clashM v w = true then insI ks t else ks
def heldB (txn : Int) (w : Want) (h : List Hold) (ks : List Int) : List Int := h.foldl (fun ks x => addB txn w ks x.Txn x.W) ks
def queB (txn : Int) (w : Want) (q : List Claim) (ks : List Int) : List Int := q.foldl (fun ks x => addB txn w ks x.Txn x.W) ks
def blockS (l : Locks) (txn : Int) (w : Want) (n : Nat) : List Int := queB txn w (l.Queue.take n) (heldB txn w l.Held [])
def blockM (l : Locks) (txn : Int) (w : Want) (n : Nat) : List Int := (blockS l txn w n).mergeSort leI
theorem addB_len (txn : Int) (w : Want) (ks : List Int) (t : Int) (v : Want) : (addB txn w ks t v).length ≤ ks.length + 1 := by
  unfold addB; split
  · exact insI_len ks t
  · omega
theorem addB_mem (txn : Int) (w : Want) (ks : List Int) (t : Int) (v : Want) (x : Int) : x ∈ addB txn w ks t v ↔ x ∈ ks ∨ (x = t ∧ t ≠ txn ∧ clashM v w = true) := by
  unfold addB; split
  · rename_i h; rw [insI_mem]; simp [h, or_comm]
  · rename_i h
    constructor
    · exact .inl
    · rintro (h1 | ⟨_, h1⟩)
      · exact h1
      · exact absurd h1 h
theorem addB_nodup {ks : List Int} (h : ks.Nodup) (txn : Int) (w : Want) (t : Int) (v : Want) : (addB txn w ks t v).Nodup := by
  unfold addB; split
  · exact insI_nodup h t
  · exact h
theorem blockers_eq {l : Locks} (hl : LOk l) (txn : Int) (w : Want) (n : Int) : lock_Blockers l txn w n = some (blockM l txn w n.toNat) := by
  have h1 := fold_loop (ρ := List Int) l.Held (fun k (ks : List Int) => ((k : Int), ks)) (fun (s282 : Int × (List Int)) => lock_Blockers_l2 l txn w s282.1 s282.2) (fun ks x => addB txn w ks x.Txn x.W) (fun ks => ks) (fun k ks => ks.length ≤ k)
    (fun k x ks hk hi => by
      have hlt := (List.getElem?_eq_some_iff.1 hk).1
      have hx := (List.getElem?_eq_some_iff.1 hk).2
      obtain ⟨ht, _⟩ := hl.held x (List.mem_of_getElem? hk)
      have hh := hl.heldL
      refine ⟨?_, Nat.le_trans (addB_len ..) (by omega)⟩
      simp only
      unfold lock_Blockers_l2 addB
      rw [if_pos (by simpa using hlt), ix_in hlt, hx]
      simp only [Option.bind_some]
      rw [clash_eq, IntWalk.i64_in _ ⟨by omega, by omega⟩]
      by_cases h1 : x.Txn = txn
      · simp [h1]
      · by_cases h2 : clashM x.W w = true
        · rw [if_pos (by simp [h1]), if_pos ⟨h1, h2⟩]
          simp only [Option.bind_some]
          rw [if_pos h2, need_pos ⟨ht, by omega⟩]
          rfl
        · rw [if_pos (by simp [h1]), if_neg (fun h => h2 h.2)]
          simp only [Option.bind_some]
          rw [if_neg h2]
          rfl)
    (fun ks _ => by
      simp only
      unfold lock_Blockers_l2
      rw [if_neg (by simp)]) [] (by simp)
  have hh := hl.heldL
  have hq := hl.queL
  have hn : (if (l.Queue.length : Int) < (if n < 0 then 0 else n) then (l.Queue.length : Int) else (if n < 0 then 0 else n)) = ((min n.toNat l.Queue.length : Nat) : Int) := by split <;> split <;> omega
  have hcut : cut l.Queue 0 (if (l.Queue.length : Int) < (if n < 0 then 0 else n) then (l.Queue.length : Int) else (if n < 0 then 0 else n)) = l.Queue.take n.toNat := by
    rw [hn]; unfold cut; simp [List.take_eq_take_iff]
  have h2 := fold_loop (ρ := List Int) (l.Queue.take n.toNat) (fun k (ks : List Int) => ((k : Int), ks)) (fun (s622 : Int × (List Int)) => lock_Blockers_l4 l txn w n s622.1 s622.2) (fun ks x => addB txn w ks x.Txn x.W) (fun ks => ks) (fun k ks => ks.length ≤ 2000000 + k)
    (fun k x ks hk hi => by
      have hlt := (List.getElem?_eq_some_iff.1 hk).1
      have hx := (List.getElem?_eq_some_iff.1 hk).2
      obtain ⟨ht, _⟩ := hl.que x (List.mem_of_mem_take (List.mem_of_getElem? hk))
      have hlt2 : k < l.Queue.length := by rw [List.length_take] at hlt; omega
      refine ⟨?_, Nat.le_trans (addB_len ..) (by omega)⟩
      simp only
      unfold lock_Blockers_l4 addB
      rw [hcut, if_pos (by simpa using hlt), ix_in hlt, hx]
      simp only [Option.bind_some]
      rw [clash_eq, IntWalk.i64_in _ ⟨by omega, by omega⟩]
      by_cases h1 : x.Txn = txn
      · simp [h1]
      · by_cases h2 : clashM x.W w = true
        · rw [if_pos (by simp [h1]), if_pos ⟨h1, h2⟩]
          simp only [Option.bind_some]
          rw [if_pos h2, need_pos ⟨ht, by omega⟩]
          rfl
        · rw [if_pos (by simp [h1]), if_neg (fun h => h2 h.2)]
          simp only [Option.bind_some]
          rw [if_neg h2]
          rfl)
    (fun ks _ => by
      simp only
      unfold lock_Blockers_l4
      rw [hcut, if_neg (by simp)]) (heldB txn w l.Held []) (by
        have h3 : (heldB txn w l.Held []).length ≤ l.Held.length := h1.2
        omega)
  have e1 : loop (fun (s282 : Int × (List Int)) => lock_Blockers_l2 l txn w s282.1 s282.2) ((0 : Int), ([] : List Int)) = some (heldB txn w l.Held []) := h1.1
  have e2 : loop (fun (s622 : Int × (List Int)) => lock_Blockers_l4 l txn w n s622.1 s622.2) ((0 : Int), heldB txn w l.Held []) = some (queB txn w (l.Queue.take n.toNat) (heldB txn w l.Held [])) := h2.1
  unfold lock_Blockers blockM blockS
  rw [e1]
  simp only [Option.bind_some]
  rw [need_pos (by rw [hn]; omega)]
  change ((loop (fun (s622 : Int × (List Int)) => lock_Blockers_l4 l txn w n s622.1 s622.2) ((0 : Int), heldB txn w l.Held [])).bind _) = _
  rw [e2]
  simp only [Option.bind_some]
  rw [need_pos (by
    have h4 : (queB txn w (l.Queue.take n.toNat) (heldB txn w l.Held [])).length ≤ 2000000 + (l.Queue.take n.toNat).length := h2.2
    have h3 : (l.Queue.take n.toNat).length ≤ l.Queue.length := by rw [List.length_take]; omega
    omega)]

/-! ### The document's sorted rows -/
def putD : Bool → List Int → Int → List Int
  | d, [], n => if d then [] else [n]
  | d, x :: r, n => if (!(d || decide (x = n)) && decide (x > n)) then n :: x :: putD true r n else x :: putD (d || decide (x = n)) r n
def putM (l : List Int) (n : Int) : List Int := putD false l n
theorem putD_true (l : List Int) (n : Int) : putD true l n = l := by
  induction l with
  | nil => rfl
  | cons x r ih => unfold putD; simp [ih]
theorem put_eq {l : List Int} (hl : l.length ≤ 100000000) (n : Int) : ref10_put l n = some (putM l n) := by
  have key : ∀ (m k : Nat) (d : Bool) (out : List Int), k + m = l.length → out.length ≤ 2 * k →
      ∃ d2 o2, loop (fun (s753 : Bool × Int × (List Int)) => ref10_put_l2 l n s753.1 s753.2.1 s753.2.2) (d, (k : Int), out) = some (d2, o2) ∧ (if d2 = true then o2 else o2 ++ [n]) = out ++ putD d (l.drop k) n ∧ o2.length ≤ 2 * l.length := by
    intro m
    induction m with
    | zero =>
      intro k d out hk ho
      have : k = l.length := by omega
      subst this
      refine ⟨d, out, loop_inr ?_, ?_, by omega⟩
      · simp only
        unfold ref10_put_l2
        rw [if_neg (by simp)]
      · rw [List.drop_length]; unfold putD; cases d <;> simp
    | succ m ih =>
      intro k d out hk ho
      have hlt : k < l.length := by omega
      have hs : ref10_put_l2 l n d (k : Int) out = some (.inl (if (!(d || decide (l[k] = n)) && decide (l[k] > n)) = true then true else (d || decide (l[k] = n)), ((k + 1 : Nat) : Int), (if (!(d || decide (l[k] = n)) && decide (l[k] > n)) = true then out ++ [n] else out) ++ [l[k]])) := by
        unfold ref10_put_l2
        rw [if_pos (by simpa using hlt), ix_in hlt]
        simp only [Option.bind_some]
        rw [IntWalk.i64_in _ ⟨by omega, by omega⟩]
        by_cases h1 : l[k] = n
        · rw [if_pos (by simpa using h1)]
          simp only [Option.bind_some, Bool.not_true, Bool.false_eq_true, if_false]
          rw [need_pos (by omega)]
          simp [h1]
        · rw [if_neg (by simpa using h1)]
          simp only [Option.bind_some]
          cases d with
          | true =>
            simp only [Bool.not_true, Bool.false_eq_true, if_false, Option.bind_some]
            rw [need_pos (by omega)]
            simp
          | false =>
            simp only [Bool.not_false, if_true, Option.bind_some]
            by_cases h2 : l[k] > n
            · rw [if_pos (by simpa using h2), need_pos (by omega)]
              simp only [Option.bind_some]
              rw [need_pos (by simp only [List.length_append, List.length_cons, List.length_nil]; omega)]
              simp [h1, h2]
            · rw [if_neg (by simpa using h2)]
              simp only [Option.bind_some]
              rw [need_pos (by omega)]
              simp [h1, h2]
      obtain ⟨d2, o2, e1, e2, e3⟩ := ih (k + 1) _ ((if (!(d || decide (l[k] = n)) && decide (l[k] > n)) = true then out ++ [n] else out) ++ [l[k]]) (by omega) (by split <;> simp only [List.length_append, List.length_cons, List.length_nil] <;> omega)
      refine ⟨d2, o2, (loop_inl hs).trans e1, ?_, e3⟩
      rw [e2, List.drop_eq_getElem_cons hlt]
      conv => rhs; unfold putD
      by_cases hc : (!(d || decide (l[k] = n)) && decide (l[k] > n)) = true
      · rw [if_pos hc, if_pos hc, if_pos hc]; simp
      · rw [if_neg hc, if_neg hc, if_neg hc]; simp
  obtain ⟨d2, o2, e1, e2, e3⟩ := key l.length 0 false [] (by omega) (by simp)
  simp only [Int.natCast_zero, Int.ofNat_eq_natCast] at e1
  rw [List.drop_zero, List.nil_append] at e2
  unfold ref10_put putM
  rw [e1]
  simp only [Option.bind_some]
  rw [← e2]
  cases d2 with
  | true => rfl
  | false =>
    simp only [Bool.not_false, if_true, Bool.false_eq_true, if_false]
    rw [need_pos (by omega)]
    rfl
end Go.Ab
