/- Settle and Free: program and document alike (plain). -/
import Derived.Test.YtdoceelfokmhfaaPLk9
namespace Go.Ab
set_option linter.unusedVariables false
set_option linter.unusedSimpArgs false

def lessL (l : Locks) (v : Int) : Locks := ⟨l.Held.filter (fun h => !decide (h.Txn = v)), l.Queue.filter (fun h => !decide (h.Txn = v))⟩
def freeM (l : Locks) (v : Int) : Locks × List Int := settleM (lessL l v)
theorem less_ok2 {l : Locks} (hl : LOk l) (v : Int) : LOk (lessL l v) ∧ (lessL l v).Held.length ≤ l.Held.length ∧ (lessL l v).Queue.length ≤ l.Queue.length := by
  have h1 := List.length_filter_le (fun h : Hold => !decide (h.Txn = v)) l.Held
  have h2 := List.length_filter_le (fun h : Claim => !decide (h.Txn = v)) l.Queue
  have h3 := hl.heldL
  have h4 := hl.queL
  exact ⟨⟨by unfold lessL; simp only; omega, by unfold lessL; simp only; omega, fun h hm => hl.held h (List.mem_filter.1 hm).1, fun c hm => hl.que c (List.mem_filter.1 hm).1⟩, h1, h2⟩
theorem free_eq {l : Locks} (hl : LOk l) (hb : l.Held.length + l.Queue.length ≤ 2000000) (v : Int) : lock_Free l v = some (freeM l v) := by
  have h1 := hl.heldL
  have h2 := hl.queL
  obtain ⟨k1, k2, k3⟩ := less_ok2 hl v
  unfold lock_Free freeM
  rw [need_pos (by omega), delH_eq h1]
  simp only [Option.bind_some]
  rw [need_pos (by omega), delC_eq h2]
  simp only [Option.bind_some]
  have hsz : (lessL l v).Held.length + (lessL l v).Queue.length ≤ 2000000 := by omega
  rw [show lock_Settle ({ Held := l.Held.filter (fun h => !decide (h.Txn = v)), Queue := l.Queue.filter (fun h => !decide (h.Txn = v)) } : Locks) = some (settleM (lessL l v)) from settle_eq k1 hsz]
  rfl
theorem rsettle_in {l : Locks} (hl : LOk l) (out : List Int) (ho : out.length ≤ 2000000) : ∀ (m k : Nat), k + m = l.Queue.length → (∀ y, y < k → freeI l y = false) →
    loop (fun (s2646 : Bool × Int × (List Hold) × (List Claim) × (List Int)) => ref10_Settle_l10 s2646.1 s2646.2.1 s2646.2.2.1 s2646.2.2.2.1 s2646.2.2.2.2) (false, (k : Int), l.Held, l.Queue, out) =
    some (match (List.range l.Queue.length).find? (freeI l) with | none => (false, l.Held, l.Queue, out) | some k => (true, (grantM l k).Held, (grantM l k).Queue, out ++ [(claimAt l k).Txn])) := by
  have hh := hl.heldL
  have hq := hl.queL
  intro m
  induction m with
  | zero =>
    intro k hk hy
    rw [List.find?_eq_none.2 (fun y hm => by have h := List.mem_range.1 hm; simp [hy y (by omega)])]
    refine loop_inr ?_
    simp only
    unfold ref10_Settle_l10
    rw [if_neg (by simp; omega)]
  | succ m ih =>
    intro k hk hy
    have hlt : k < l.Queue.length := by omega
    obtain ⟨_, hwx⟩ := hl.que l.Queue[k] (List.getElem_mem hlt)
    have hbk := rblockers_eq hl l.Queue[k].Txn hwx (k : Int) (by omega)
    rw [Int.toNat_natCast] at hbk
    by_cases hb : blockM l l.Queue[k].Txn l.Queue[k].W k = []
    · have hf : freeI l k = true := by rw [freeI_at hlt]; simp [hb]
      have hfind : (List.range l.Queue.length).find? (freeI l) = some k := by
        refine first_range (k := k) (by simp [hlt]) hf (fun y hm => hy y ?_)
        rw [List.take_range] at hm
        have := List.mem_range.1 hm
        omega
      rw [hfind]
      rw [loop_inl (s' := (true, ((k + 1 : Nat) : Int), (grantM l k).Held, (grantM l k).Queue, out ++ [(claimAt l k).Txn]))]
      · refine loop_inr ?_
        simp only
        unfold ref10_Settle_l10
        rw [if_neg (by simp)]
      · simp only
        unfold ref10_Settle_l10
        rw [if_pos (by simp; omega), ix_in hlt]
        simp only [Option.bind_some]
        rw [show ref10_Blockers ({ Held := l.Held, Queue := l.Queue } : Locks) l.Queue[k].Txn l.Queue[k].W (k : Int) = some (blockM l l.Queue[k].Txn l.Queue[k].W k) from hbk]
        simp only [Option.bind_some]
        rw [if_neg (show ¬ decide (((blockM l l.Queue[k].Txn l.Queue[k].W k).length : Int) > 0) = true by simp [hb]), IntWalk.i64_in _ ⟨by omega, by omega⟩]
        have c1 : cut l.Queue 0 (k : Int) = l.Queue.take k := by simp [cut]
        have c2 : cut l.Queue ((k : Int) + 1) (l.Queue.length : Int) = l.Queue.drop (k + 1) := by
          rw [show ((k : Int) + 1) = ((k + 1 : Nat) : Int) from rfl]; simp [cut]
        rw [c1, c2, need_pos (by omega), need_pos (by simp; omega), need_pos (by omega), need_pos (by simp; omega), need_pos (by simp; omega), need_pos (by simp; omega), need_pos (by omega)]
        unfold grantM
        rw [claim_at hlt]
        rfl
    · have hf : freeI l k = false := by rw [freeI_at hlt]; simp [hb]
      have hp : 0 < (blockM l l.Queue[k].Txn l.Queue[k].W k).length := List.length_pos_iff.2 hb
      rw [loop_inl (s' := (false, ((k + 1 : Nat) : Int), l.Held, l.Queue, out))]
      · refine ih (k + 1) (by omega) (fun y h => ?_)
        by_cases hyk : y = k
        · subst hyk; exact hf
        · exact hy y (by omega)
      · simp only
        unfold ref10_Settle_l10
        rw [if_pos (by simp; omega), ix_in hlt]
        simp only [Option.bind_some]
        rw [show ref10_Blockers ({ Held := l.Held, Queue := l.Queue } : Locks) l.Queue[k].Txn l.Queue[k].W (k : Int) = some (blockM l l.Queue[k].Txn l.Queue[k].W k) from hbk]
        simp only [Option.bind_some]
        rw [if_pos (show decide (((blockM l l.Queue[k].Txn l.Queue[k].W k).length : Int) > 0) = true by simp; omega), IntWalk.i64_in _ ⟨by omega, by omega⟩]
        rfl
theorem rsettle_loop (n : Nat) : ∀ (l : Locks) (out : List Int), l.Queue.length < n → LOk l → l.Held.length + l.Queue.length ≤ 2000000 → out.length + l.Queue.length ≤ 2000000 →
    loop (fun (s2437 : Bool × (List Hold) × (List Claim) × (List Int)) => ref10_Settle_l9 s2437.1 s2437.2.1 s2437.2.2.1 s2437.2.2.2) (true, l.Held, l.Queue, out) = some ((settleF n l out).1.Held, (settleF n l out).1.Queue, (settleF n l out).2) := by
  induction n with
  | zero => intro l out h; omega
  | succ n ih =>
    intro l out h hl hb ho
    have hi := rsettle_in hl out (by omega) l.Queue.length 0 (by omega) (fun y hy => by omega)
    simp only [Int.natCast_zero, Int.ofNat_eq_natCast] at hi
    unfold settleF
    cases hf : (List.range l.Queue.length).find? (freeI l) with
    | none =>
      rw [hf] at hi
      rw [loop_inl (s' := (false, l.Held, l.Queue, out))]
      · refine loop_inr ?_
        simp only
        unfold ref10_Settle_l9
        rw [if_neg (by simp)]
      · simp only
        unfold ref10_Settle_l9
        rw [if_pos rfl, hi]
        rfl
    | some k =>
      rw [hf] at hi
      have hk : k < l.Queue.length := by have := List.mem_of_find?_eq_some hf; simpa using this
      obtain ⟨g1, g2, g3⟩ := grant_ok hl hk hb
      rw [loop_inl (s' := (true, (grantM l k).Held, (grantM l k).Queue, out ++ [(claimAt l k).Txn]))]
      · exact ih _ _ (by omega) g1 (by omega) (by simp only [List.length_append, List.length_cons, List.length_nil]; omega)
      · simp only
        unfold ref10_Settle_l9
        rw [if_pos rfl, hi]
        rfl
theorem rsettle_eq {l : Locks} (hl : LOk l) (hb : l.Held.length + l.Queue.length ≤ 2000000) : ref10_Settle l = some (settleM l) := by
  have := rsettle_loop (l.Queue.length + 1) l [] (by omega) hl hb (by simp; omega)
  unfold ref10_Settle settleM
  rw [this]
  rfl
theorem rfree_eq {l : Locks} (hl : LOk l) (hb : l.Held.length + l.Queue.length ≤ 2000000) (v : Int) : ref10_Free l v = some (freeM l v) := by
  obtain ⟨k1, k2, k3⟩ := less_ok2 hl v
  have hsz : (lessL l v).Held.length + (lessL l v).Queue.length ≤ 2000000 := by omega
  unfold ref10_Free freeM
  rw [rfreeH hl]
  simp only [Option.bind_some]
  rw [rfreeC hl]
  simp only [Option.bind_some]
  rw [show ref10_Settle ({ Held := l.Held.filter (fun h => !decide (h.Txn = v)), Queue := l.Queue.filter (fun h => !decide (h.Txn = v)) } : Locks) = some (settleM (lessL l v)) from rsettle_eq k1 hsz]
  rfl
end Go.Ab
