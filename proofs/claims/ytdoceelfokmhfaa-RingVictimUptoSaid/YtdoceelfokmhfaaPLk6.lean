/- Asks, and who is late: program and document alike (plain). -/
import Derived.Test.YtdoceelfokmhfaaPLk5
namespace Go.Ab
set_option linter.unusedVariables false
set_option linter.unusedSimpArgs false

def covH (l : Locks) (txn : Int) (w : Want) : Bool := l.Held.any (fun h => decide (h.Txn = txn) && covM h.W w)
theorem covH_eq {l : Locks} (hl : LOk l) (txn : Int) (w : Want) : slices_ContainsFunc_Hold__lock_Ask_1 l.Held txn w = some (covH l txn w) := by
  have h2 := hl.heldL
  unfold slices_ContainsFunc_Hold__lock_Ask_1 slices_IndexFunc_Hold__lock_Ask_1 covH
  rcases find_loop l.Held (fun h => decide (h.Txn = txn) && covM h.W w) (fun k => (.inl (k : Int) : Int ⊕ Unit)) (.inr ()) (fun (s169 : Int) => slices_IndexFunc_Hold__lock_Ask_1_l4 l.Held txn w s169) (by omega) (fun k x hk => by
    have hlt := (List.getElem?_eq_some_iff.1 hk).1
    unfold slices_IndexFunc_Hold__lock_Ask_1_l4 lock_Ask_1
    rw [if_pos (by simpa using hlt), ix_in hlt, (List.getElem?_eq_some_iff.1 hk).2, IntWalk.i64_in _ ⟨by omega, by omega⟩]
    simp only [Option.bind_some]
    rw [cov_eq]
    by_cases h : x.Txn = txn <;> cases covM x.W w <;> simp [h]) (by unfold slices_IndexFunc_Hold__lock_Ask_1_l4; rw [if_neg (by simp)]) with ⟨k, _, h1, h2⟩ | ⟨h1, h2⟩
  · rw [h1, h2]; simp
  · rw [h1, h2]; simp
def askM (l : Locks) (txn : Int) (w : Want) (until_ : Int) : Locks × Int :=
  if txn < 1 ∨ mayM2 w = false then (l, 1) else if waitsM l txn = true then (l, 8) else if covH l txn w = true then (l, 0) else
  if blockM l txn w l.Queue.length = [] then (⟨l.Held ++ [⟨txn, w⟩], l.Queue⟩, 0) else if 16 ≤ l.Queue.length then (l, 11) else (⟨l.Held, l.Queue ++ [⟨txn, w, until_⟩]⟩, 12)
theorem ask_eq {l : Locks} (hl : LOk l) (txn : Int) (w : Want) (until_ : Int) : lock_Ask l txn w until_ = some (askM l txn w until_) := by
  have h1 := hl.heldL
  have h2 := hl.queL
  unfold lock_Ask askM
  rw [smay_eq]
  by_cases ht : txn < 1
  · rw [if_pos (by simpa using ht)]; simp [ht]
  · rw [if_neg (by simpa using ht)]
    simp only [Option.bind_some]
    cases hm : mayM2 w with
    | false => simp
    | true =>
      rw [if_neg (show ¬ (!true) = true by simp), if_neg (show ¬ (txn < 1 ∨ true = false) by simp; omega), waits_eq hl]
      simp only [Option.bind_some]
      cases hw : waitsM l txn with
      | true => simp
      | false =>
        simp only [Bool.false_eq_true, if_false]
        rw [covH_eq hl]
        simp only [Option.bind_some]
        cases hc : covH l txn w with
        | true => simp
        | false =>
          simp only [Bool.false_eq_true, if_false]
          rw [blockers_eq hl, Int.toNat_natCast]
          simp only [Option.bind_some]
          by_cases hb : blockM l txn w l.Queue.length = []
          · rw [if_pos (show decide (((blockM l txn w l.Queue.length).length : Int) = 0) = true by simp [hb]), if_pos hb, need_pos (by omega), need_pos (by omega)]
          · rw [if_neg (show ¬ decide (((blockM l txn w l.Queue.length).length : Int) = 0) = true by simpa using hb), if_neg hb]
            by_cases hq : 16 ≤ l.Queue.length
            · rw [if_pos (show decide ((l.Queue.length : Int) ≥ 16) = true by simp; omega), if_pos hq]
            · rw [if_neg (show ¬ decide ((l.Queue.length : Int) ≥ 16) = true by simp; omega), if_neg hq, need_pos (by omega), need_pos (by omega)]
theorem rask_eq {l : Locks} (hl : LOk l) (txn : Int) {w : Want} (hw : wOk w) (until_ : Int) : ref10_Ask l txn w until_ = some (askM l txn w until_) := by
  have h1 := hl.heldL
  have h2 := hl.queL
  have hc : loop (fun (s185 : Int) => ref10_Ask_l2 l txn w s185) (0 : Int) = some (if covH l txn w = true then .inl () else .inr ()) := by
    unfold covH
    rcases find_loop l.Held (fun h => decide (h.Txn = txn) && covM h.W w) (fun _ => (.inl () : Unit ⊕ Unit)) (.inr ()) (fun (s185 : Int) => ref10_Ask_l2 l txn w s185) (by omega) (fun k x hk => by
      have hlt := (List.getElem?_eq_some_iff.1 hk).1
      obtain ⟨_, hwx⟩ := hl.held x (List.mem_of_getElem? hk)
      unfold ref10_Ask_l2
      rw [if_pos (by simpa using hlt), ix_in hlt, (List.getElem?_eq_some_iff.1 hk).2, IntWalk.i64_in _ ⟨by omega, by omega⟩]
      simp only [Option.bind_some]
      rw [rcov_eq hwx hw]
      by_cases h : x.Txn = txn <;> cases covM x.W w <;> simp [h]) (by unfold ref10_Ask_l2; rw [if_neg (by simp)]) with ⟨k, _, h1, h2⟩ | ⟨h1, h2⟩
    · rw [h1, h2]; rfl
    · rw [h1, h2]; rfl
  unfold ref10_Ask askM
  rw [rmay_eq hw]
  simp only [Option.bind_some]
  by_cases ht : txn < 1 ∨ mayM2 w = false
  · rw [if_pos (by simpa using ht), if_pos ht]
  · rw [if_neg (by simpa using ht), if_neg ht, rwaits_eq hl]
    simp only [Option.bind_some]
    cases hw2 : waitsM l txn with
    | true => simp
    | false =>
      simp only [Bool.false_eq_true, if_false]
      rw [hc]
      simp only [Option.bind_some]
      cases hcv : covH l txn w with
      | true => simp
      | false =>
        simp only [Bool.false_eq_true, if_false]
        rw [rblockers_eq hl txn hw _ (by omega), Int.toNat_natCast]
        simp only [Option.bind_some]
        by_cases hb : blockM l txn w l.Queue.length = []
        · rw [if_pos (show decide (((blockM l txn w l.Queue.length).length : Int) = 0) = true by simp [hb]), if_pos hb, need_pos (by simp; omega), need_pos (by simp; omega)]; rfl
        · rw [if_neg (show ¬ decide (((blockM l txn w l.Queue.length).length : Int) = 0) = true by simpa using hb), if_neg hb]
          by_cases hq : 16 ≤ l.Queue.length
          · rw [if_pos (show decide ((l.Queue.length : Int) ≥ 16) = true by simp; omega), if_pos hq]
          · rw [if_neg (show ¬ decide ((l.Queue.length : Int) ≥ 16) = true by simp; omega), if_neg hq, need_pos (by simp; omega), need_pos (by simp; omega)]; rfl
def lateM (l : Locks) (now : Int) : List Int := l.Queue.foldl (fun out c => if c.Until ≤ now then out ++ [c.Txn] else out) []
theorem late_eq {l : Locks} (hl : LOk l) (now : Int) : lock_Late l now = some (lateM l now) := by
  have h2 := hl.queL
  have h1 := fold_loop (ρ := List Int) l.Queue (fun k (ks : List Int) => ((k : Int), ks)) (fun (s150 : Int × (List Int)) => lock_Late_l2 l now s150.1 s150.2) (fun out c => if c.Until ≤ now then out ++ [c.Txn] else out) (fun ks => ks) (fun k ks => ks.length ≤ k)
    (fun k x ks hk hi => by
      have hlt := (List.getElem?_eq_some_iff.1 hk).1
      refine ⟨?_, by split
                     · simp only [List.length_append, List.length_cons, List.length_nil]; omega
                     · omega⟩
      simp only
      unfold lock_Late_l2
      rw [if_pos (by simpa using hlt), ix_in hlt, (List.getElem?_eq_some_iff.1 hk).2, IntWalk.i64_in _ ⟨by omega, by omega⟩]
      by_cases h : x.Until ≤ now
      · simp only [Option.bind_some]
        rw [if_pos (by simpa using h), if_pos h, need_pos (by omega)]; rfl
      · simp only [Option.bind_some]
        rw [if_neg (by simpa using h), if_neg h]; rfl)
    (fun ks _ => by
      simp only
      unfold lock_Late_l2
      rw [if_neg (by simp)]) [] (by simp)
  have e1 : loop (fun (s150 : Int × (List Int)) => lock_Late_l2 l now s150.1 s150.2) ((0 : Int), ([] : List Int)) = some (lateM l now) := h1.1
  unfold lock_Late
  rw [e1]; rfl
theorem rlate_eq {l : Locks} (hl : LOk l) (now : Int) : ref10_Late l now = some (lateM l now) := by
  have h2 := hl.queL
  have h1 := fold_loop (ρ := List Int) l.Queue (fun k (ks : List Int) => ((k : Int), ks)) (fun (s150 : Int × (List Int)) => ref10_Late_l2 l now s150.1 s150.2) (fun out c => if c.Until ≤ now then out ++ [c.Txn] else out) (fun ks => ks) (fun k ks => ks.length ≤ k)
    (fun k x ks hk hi => by
      have hlt := (List.getElem?_eq_some_iff.1 hk).1
      refine ⟨?_, by split
                     · simp only [List.length_append, List.length_cons, List.length_nil]; omega
                     · omega⟩
      simp only
      unfold ref10_Late_l2
      rw [if_pos (by simpa using hlt), ix_in hlt, (List.getElem?_eq_some_iff.1 hk).2, IntWalk.i64_in _ ⟨by omega, by omega⟩]
      by_cases h : x.Until ≤ now
      · simp only [Option.bind_some]
        rw [if_pos (by simpa using h), if_pos h, need_pos (by omega)]; rfl
      · simp only [Option.bind_some]
        rw [if_neg (by simpa using h), if_neg h]; rfl)
    (fun ks _ => by
      simp only
      unfold ref10_Late_l2
      rw [if_neg (by simp)]) [] (by simp)
  have e1 : loop (fun (s150 : Int × (List Int)) => ref10_Late_l2 l now s150.1 s150.2) ((0 : Int), ([] : List Int)) = some (lateM l now) := h1.1
  unfold ref10_Late
  rw [e1]; rfl
end Go.Ab
