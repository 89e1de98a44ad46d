/- What can be given is given: program and document alike (plain). -/
import Derived.Test.YtdoceelfokmhfaaPLk8
namespace Go.Ab
set_option linter.unusedVariables false
set_option linter.unusedSimpArgs false

def freeI (l : Locks) (k : Nat) : Bool := match l.Queue[k]? with | some c => decide (blockM l c.Txn c.W k = []) | none => false
def claimAt (l : Locks) (k : Nat) : Claim := l.Queue.getD k default
def grantM (l : Locks) (k : Nat) : Locks := ⟨l.Held ++ [⟨(claimAt l k).Txn, (claimAt l k).W⟩], l.Queue.take k ++ l.Queue.drop (k + 1)⟩
def settleF : Nat → Locks → List Int → Locks × List Int
  | 0, l, out => (l, out)
  | n + 1, l, out => match (List.range l.Queue.length).find? (freeI l) with
    | none => (l, out)
    | some k => settleF n (grantM l k) (out ++ [(claimAt l k).Txn])
def settleM (l : Locks) : Locks × List Int := settleF (l.Queue.length + 1) l []
theorem grant_ok {l : Locks} (hl : LOk l) {k : Nat} (hk : k < l.Queue.length) (hb : l.Held.length + l.Queue.length ≤ 2000000) : LOk (grantM l k) ∧ (grantM l k).Held.length + (grantM l k).Queue.length = l.Held.length + l.Queue.length ∧ (grantM l k).Queue.length + 1 = l.Queue.length := by
  have hq : (l.Queue.take k ++ l.Queue.drop (k + 1)).length + 1 = l.Queue.length := by rw [List.length_append, List.length_take, List.length_drop]; omega
  have hc : claimAt l k ∈ l.Queue := by unfold claimAt; rw [List.getD_eq_getElem?_getD, List.getElem?_eq_getElem hk]; exact List.getElem_mem hk
  unfold grantM
  refine ⟨⟨by simp only [List.length_append, List.length_cons, List.length_nil]; omega, by simp only; omega, fun h hm => ?_, fun c hm => ?_⟩, ?_, hq⟩
  · rcases List.mem_append.1 hm with hm | hm
    · exact hl.held h hm
    · simp at hm; subst hm; exact hl.que _ hc
  · rcases List.mem_append.1 hm with hm | hm
    · exact hl.que c (List.mem_of_mem_take hm)
    · exact hl.que c (List.mem_of_mem_drop hm)
  · simp only [List.length_append, List.length_cons, List.length_nil] at hq ⊢; omega
theorem range_at {n k x : Nat} (h : (List.range n)[k]? = some x) : k = x ∧ k < n := by
  rw [List.getElem?_eq_some_iff] at h
  obtain ⟨h1, h2⟩ := h
  simp at h1 h2
  exact ⟨h2, h1⟩
theorem first_range {n : Nat} {q : Nat → Bool} {k x : Nat} (h : (List.range n)[k]? = some x) (hq : q x = true) (hb : ∀ y ∈ (List.range n).take k, q y = false) : (List.range n).find? q = some x := by
  obtain ⟨rfl, hk⟩ := range_at h
  rw [List.find?_eq_some_iff_append]
  refine ⟨hq, (List.range n).take k, (List.range n).drop (k + 1), ?_, fun y hy => by simp [hb y hy]⟩
  have e := List.take_append_drop k (List.range n)
  rw [List.drop_eq_getElem_cons (by simpa using hk)] at e
  simpa using e.symm
theorem claim_at {l : Locks} {k : Nat} (hk : k < l.Queue.length) : claimAt l k = l.Queue[k] := by unfold claimAt; rw [List.getD_eq_getElem?_getD, List.getElem?_eq_getElem hk]; rfl
theorem freeI_at {l : Locks} {k : Nat} (hk : k < l.Queue.length) : freeI l k = decide (blockM l l.Queue[k].Txn l.Queue[k].W k = []) := by unfold freeI; rw [List.getElem?_eq_getElem hk]
theorem settle_in {l : Locks} (hl : LOk l) (out : List Int) (ho : out.length ≤ 2000000) : loop (fun (s1125 : Int) => lock_Settle_l9 l.Held l.Queue out s1125) (0 : Int) =
    some (match (List.range l.Queue.length).find? (freeI l) with | none => (.inr () : (List Hold × List Claim × List Int) ⊕ Unit) | some k => .inl ((grantM l k).Held, (grantM l k).Queue, out ++ [(claimAt l k).Txn])) := by
  have hh := hl.heldL
  have hq := hl.queL
  rcases find_first (List.range l.Queue.length) (freeI l) (fun k => (.inl ((grantM l k).Held, (grantM l k).Queue, out ++ [(claimAt l k).Txn]) : (List Hold × List Claim × List Int) ⊕ Unit)) (.inr ()) (fun (s1125 : Int) => lock_Settle_l9 l.Held l.Queue out s1125) (fun k x hk => by
    obtain ⟨rfl, hlt⟩ := range_at hk
    unfold lock_Settle_l9
    rw [if_pos (show decide ((k : Int) < (l.Queue.length : Int)) = true by simpa using hlt), ix_in hlt]
    simp only [Option.bind_some]
    rw [show lock_Blockers ({ Held := l.Held, Queue := l.Queue } : Locks) l.Queue[k].Txn l.Queue[k].W (k : Int) = some (blockM l l.Queue[k].Txn l.Queue[k].W k) from blockers_eq hl _ _ _, freeI_at hlt]
    simp only [Option.bind_some]
    rw [IntWalk.i64_in _ ⟨by omega, by omega⟩]
    by_cases hb : blockM l l.Queue[k].Txn l.Queue[k].W k = []
    · rw [if_neg (show ¬ decide (((blockM l l.Queue[k].Txn l.Queue[k].W k).length : Int) > 0) = true by simp [hb]), if_pos (show decide (blockM l l.Queue[k].Txn l.Queue[k].W k = []) = true by simp [hb]),
        need_pos (by omega), need_pos (by omega), need_pos (by omega), need_pos (by omega), need_pos (by omega)]
      unfold grantM
      rw [claim_at hlt, show ((k : Int) + 1) = ((k + 1 : Nat) : Int) from rfl, Int.toNat_natCast, Int.toNat_natCast]
    · have hp : 0 < (blockM l l.Queue[k].Txn l.Queue[k].W k).length := List.length_pos_iff.2 hb
      rw [if_pos (show decide (((blockM l l.Queue[k].Txn l.Queue[k].W k).length : Int) > 0) = true by simp; omega), if_neg (show ¬ decide (blockM l l.Queue[k].Txn l.Queue[k].W k = []) = true by simp [hb])]
      rfl) (by
    rw [List.length_range]
    unfold lock_Settle_l9
    rw [if_neg (by simp)]) with ⟨k, x, hk, h1, h2, h3⟩ | ⟨h1, h3⟩
  · have e := first_range hk h2 h3
    obtain ⟨rfl, _⟩ := range_at hk
    rw [h1, e]
  · rw [h1, List.find?_eq_none.2 (fun y hy => by simp [h3 y hy])]
theorem settle_loop (n : Nat) : ∀ (l : Locks) (out : List Int), l.Queue.length < n → LOk l → l.Held.length + l.Queue.length ≤ 2000000 → out.length + l.Queue.length ≤ 2000000 →
    loop (fun (s886 : (List Hold) × (List Claim) × (List Int)) => lock_Settle_l7 s886.1 s886.2.1 s886.2.2) (l.Held, l.Queue, out) = some ((settleF n l out).1.Held, (settleF n l out).1.Queue, (settleF n l out).2) := by
  induction n with
  | zero => intro l out h; omega
  | succ n ih =>
    intro l out h hl hb ho
    have hi := settle_in hl out (by omega)
    unfold settleF
    cases hf : (List.range l.Queue.length).find? (freeI l) with
    | none =>
      rw [hf] at hi
      refine loop_inr ?_
      simp only
      unfold lock_Settle_l7
      rw [hi]
      rfl
    | some k =>
      rw [hf] at hi
      have hk : k < l.Queue.length := by have := List.mem_of_find?_eq_some hf; simpa using this
      obtain ⟨g1, g2, g3⟩ := grant_ok hl hk hb
      rw [loop_inl (s' := ((grantM l k).Held, (grantM l k).Queue, out ++ [(claimAt l k).Txn]))]
      · exact ih _ _ (by omega) g1 (by omega) (by simp only [List.length_append, List.length_cons, List.length_nil]; omega)
      · simp only
        unfold lock_Settle_l7
        rw [hi]
        rfl
theorem settle_eq {l : Locks} (hl : LOk l) (hb : l.Held.length + l.Queue.length ≤ 2000000) : lock_Settle l = some (settleM l) := by
  have := settle_loop (l.Queue.length + 1) l [] (by omega) hl hb (by simp; omega)
  unfold lock_Settle settleM
  rw [this]
  rfl
end Go.Ab
