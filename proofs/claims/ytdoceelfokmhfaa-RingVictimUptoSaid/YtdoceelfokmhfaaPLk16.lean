/- What is held, and waits, behind acts (plain). -/
import Derived.Test.YtdoceelfokmhfaaPLk15
namespace Go.Ab
set_option linter.unusedVariables false
set_option linter.unusedSimpArgs false

def ApartL (l : Locks) : Prop := ∀ a ∈ l.Held, ∀ b ∈ l.Held, a.Txn ≠ b.Txn → clashM a.W b.W = false
def WaitL (l : Locks) : Prop := ∀ k c, l.Queue[k]? = some c → blockM l c.Txn c.W k ≠ []
def OneL (l : Locks) : Prop := (l.Queue.map (fun c => c.Txn)).Nodup
theorem mem_ne {l : List Int} : (∃ x, x ∈ l) ↔ l ≠ [] := by
  constructor
  · rintro ⟨x, h⟩ e; rw [e] at h; cases h
  · intro h
    cases l with
    | nil => exact absurd rfl h
    | cons x r => exact ⟨x, List.mem_cons_self ..⟩
theorem apart_add {l : Locks} (h : ApartL l) {t : Int} {w : Want} {n : Nat} {q : List Claim} (hb : blockM l t w n = []) : ApartL ⟨l.Held ++ [⟨t, w⟩], q⟩ := by
  have key : ∀ a ∈ l.Held, a.Txn ≠ t → clashM a.W w = false := by
    intro a ha hne
    cases hc : clashM a.W w with
    | false => rfl
    | true =>
      have : a.Txn ∈ blockM l t w n := (blockS_mem l t w n a.Txn).2 (.inl ⟨a, ha, rfl, hne, hc⟩)
      rw [hb] at this; cases this
  intro a ha b hb hne
  rcases List.mem_append.1 ha with ha | ha <;> rcases List.mem_append.1 hb with hb | hb
  · exact h a ha b hb hne
  · simp at hb; subst hb; exact key a ha hne
  · simp at ha; subst ha
    rw [clash_comm]
    exact key b hb (fun e => hne e.symm)
  · simp at ha hb; subst ha; subst hb; exact absurd rfl hne
theorem settle_apart (n : Nat) : ∀ (l : Locks) (out : List Int), ApartL l → ApartL (settleF n l out).1 := by
  induction n with
  | zero => intro l out h; exact h
  | succ n ih =>
    intro l out h
    unfold settleF
    cases hf : (List.range l.Queue.length).find? (freeI l) with
    | none => exact h
    | some k =>
      have hk : k < l.Queue.length := by have := List.mem_of_find?_eq_some hf; simpa using this
      have hq := List.find?_some hf
      rw [freeI_at hk] at hq
      refine ih _ _ ?_
      unfold grantM
      rw [claim_at hk]
      exact apart_add h (by simpa using hq)
theorem settle_fix (n : Nat) : ∀ (l : Locks) (out : List Int), l.Queue.length < n → WaitL (settleF n l out).1 := by
  induction n with
  | zero => intro l out h; omega
  | succ n ih =>
    intro l out h
    unfold settleF
    cases hf : (List.range l.Queue.length).find? (freeI l) with
    | none =>
      intro k c hk hb
      have hlt := (List.getElem?_eq_some_iff.1 hk).1
      have := List.find?_eq_none.1 hf k (by simpa using hlt)
      rw [freeI_at hlt, (List.getElem?_eq_some_iff.1 hk).2, hb] at this
      simp at this
    | some k =>
      have hk : k < l.Queue.length := by have := List.mem_of_find?_eq_some hf; simpa using this
      refine ih _ _ ?_
      unfold grantM
      simp only [List.length_append, List.length_take, List.length_drop]; omega
structure LInv (n : Nat) (l : Locks) : Prop where
  ok : LOk l
  len : l.Held.length + l.Queue.length ≤ n
  apart : ApartL l
  wait : WaitL l
  one : OneL l
  few : l.Queue.length ≤ 16
theorem linv_ask {n : Nat} {l : Locks} (hn : n ≤ 1000) (h : LInv n l) {txn : Int} (ht : In64 txn) {w : Want} (hw : wOk w) (u : Int) : LInv (n + 1) (askM l txn w u).1 := by
  have ok := ask_ok h.ok (by have := h.len; omega) ht hw u
  have hl := h.len
  unfold askM at ok ⊢
  by_cases q1 : txn < 1 ∨ mayM2 w = false
  · rw [if_pos q1]; exact ⟨h.ok, Nat.le_succ_of_le h.len, h.apart, h.wait, h.one, h.few⟩
  rw [if_neg q1] at ok ⊢
  by_cases q2 : waitsM l txn = true
  · rw [if_pos q2]; exact ⟨h.ok, Nat.le_succ_of_le h.len, h.apart, h.wait, h.one, h.few⟩
  rw [if_neg q2] at ok ⊢
  by_cases q3 : covH l txn w = true
  · rw [if_pos q3]; exact ⟨h.ok, Nat.le_succ_of_le h.len, h.apart, h.wait, h.one, h.few⟩
  rw [if_neg q3] at ok ⊢
  by_cases q4 : blockM l txn w l.Queue.length = []
  · rw [if_pos q4] at ok ⊢
    refine ⟨ok, by simp only [List.length_append, List.length_cons, List.length_nil]; omega, apart_add h.apart q4, ?_, h.one, h.few⟩
    intro k c hk
    obtain ⟨x, hx⟩ := mem_ne.2 (h.wait k c hk)
    refine mem_ne.1 ⟨x, ?_⟩
    rw [blockS_mem] at hx ⊢
    rcases hx with ⟨a, ha, hr⟩ | ⟨a, ha, hr⟩
    · exact .inl ⟨a, List.mem_append_left _ ha, hr⟩
    · exact .inr ⟨a, ha, hr⟩
  rw [if_neg q4] at ok ⊢
  by_cases q5 : 16 ≤ l.Queue.length
  · rw [if_pos q5]; exact ⟨h.ok, Nat.le_succ_of_le h.len, h.apart, h.wait, h.one, h.few⟩
  rw [if_neg q5] at ok ⊢
  refine ⟨ok, by simp only [List.length_append, List.length_cons, List.length_nil]; omega, h.apart, ?_, ?_, by simp only [List.length_append, List.length_cons, List.length_nil]; omega⟩
  · intro k c hk
    simp only at hk
    have tk : k ≤ l.Queue.length := by
      have := (List.getElem?_eq_some_iff.1 hk).1
      simp only [List.length_append, List.length_cons, List.length_nil] at this; omega
    have hne : blockM l c.Txn c.W k ≠ [] := by
      by_cases hlt : k < l.Queue.length
      · rw [List.getElem?_append_left hlt] at hk
        exact h.wait k c hk
      · have : k = l.Queue.length := by omega
        subst this
        rw [List.getElem?_append_right (Nat.le_refl _)] at hk
        simp at hk; subst hk
        exact q4
    obtain ⟨x, hx⟩ := mem_ne.2 hne
    refine mem_ne.1 ⟨x, ?_⟩
    rw [blockS_mem] at hx ⊢
    simp only
    rw [List.take_append_of_le_length tk]
    exact hx
  · unfold OneL
    simp only [List.map_append, List.map_cons, List.map_nil]
    rw [List.nodup_append]
    refine ⟨h.one, by simp, ?_⟩
    intro a ha b hb e
    simp at hb; subst hb; subst e
    obtain ⟨c, hc, hc2⟩ := List.mem_map.1 ha
    exact q2 (by unfold waitsM; rw [List.any_eq_true]; exact ⟨c, hc, by simp [hc2]⟩)
theorem linv_free {n : Nat} {l : Locks} (hn : n ≤ 1000) (h : LInv n l) (txn : Int) : LInv (n + 1) (freeM l txn).1 := by
  obtain ⟨k1, k2, k3⟩ := less_ok2 h.ok txn
  have hl := h.len
  have hf := h.few
  obtain ⟨g, e1, e2, e3, e4⟩ := settle_parts ((lessL l txn).Queue.length + 1) (lessL l txn) []
  have f4 : (freeM l txn).1.Queue.Sublist (lessL l txn).Queue := e4
  have f5 := f4.length_le
  have hlen : ∀ n (l : Locks) out, (settleF n l out).1.Held.length + (settleF n l out).1.Queue.length = l.Held.length + l.Queue.length := by
    intro n
    induction n with
    | zero => intro l out; rfl
    | succ n ih =>
      intro l out
      unfold settleF
      cases hf : (List.range l.Queue.length).find? (freeI l) with
      | none => rfl
      | some k =>
        have hk : k < l.Queue.length := by have := List.mem_of_find?_eq_some hf; simpa using this
        simp only
        rw [ih]
        unfold grantM
        simp only [List.length_append, List.length_take, List.length_drop, List.length_cons, List.length_nil]; omega
  have f6 : (freeM l txn).1.Held.length + (freeM l txn).1.Queue.length = (lessL l txn).Held.length + (lessL l txn).Queue.length := hlen _ _ _
  refine ⟨settleF_ok _ _ _ k1 (by omega), by omega, settle_apart _ _ _ ?_, settle_fix _ _ _ (by omega), ?_, by omega⟩
  · intro a ha b hb hne
    exact h.apart a (List.mem_filter.1 ha).1 b (List.mem_filter.1 hb).1 hne
  · have s1 : (lessL l txn).Queue.Sublist l.Queue := List.filter_sublist
    exact ((f4.trans s1).map _).nodup h.one
def actL (l : Locks) (a : Act) : Locks := if a.Kind = 1 then (askM l a.Txn a.W 9).1 else (freeM l a.Txn).1
def playsM (l : List Act) : Locks := (l.take 100).foldl actL ⟨[], []⟩
theorem plays_eq {l : List Act} (ha : ∀ a ∈ l, In64 a.Txn ∧ wOk a.W) : law10_plays l = some (playsM l) ∧ LInv 100 (playsM l) := by
  have h1 := fold_loop (ρ := (List Hold) × (List Claim)) (l.take 100) (fun k (s : Locks) => ((k : Int), s.Held, s.Queue)) (fun (s261 : Int × (List Hold) × (List Claim)) => law10_plays_l2 l s261.1 s261.2.1 s261.2.2) actL (fun s => (s.Held, s.Queue)) (fun k s => k ≤ 100 ∧ LInv k s)
    (fun k x s hk hi => by
      have hlt := (List.getElem?_eq_some_iff.1 hk).1
      rw [List.length_take] at hlt
      have hx : l[k]? = some x := by rw [List.getElem?_take] at hk; rw [if_pos (by omega)] at hk; exact hk
      have hlt2 := (List.getElem?_eq_some_iff.1 hx).1
      obtain ⟨ht, hw⟩ := ha x (List.mem_of_getElem? hx)
      obtain ⟨hk2, hi⟩ := hi
      have hll := hi.len
      refine ⟨?_, by omega, ?_⟩
      · simp only
        unfold law10_plays_l2 actL
        rw [if_pos (by simp; omega), ix_in hlt2, (List.getElem?_eq_some_iff.1 hx).2]
        simp only [Option.bind_some]
        rw [IntWalk.i64_in _ ⟨by omega, by omega⟩]
        by_cases h : x.Kind = 1
        · rw [if_pos (by simpa using h), if_pos h, show lock_Ask ({ Held := s.Held, Queue := s.Queue } : Locks) x.Txn x.W 9 = some (askM s x.Txn x.W 9) from ask_eq hi.ok _ _ _]
          rfl
        · rw [if_neg (by simpa using h), if_neg h, show lock_Free ({ Held := s.Held, Queue := s.Queue } : Locks) x.Txn = some (freeM s x.Txn) from free_eq hi.ok (by omega) _]
          rfl
      · unfold actL
        split
        · exact linv_ask (by omega) hi ht hw 9
        · exact linv_free (by omega) hi _)
    (fun s hi => by
      simp only
      unfold law10_plays_l2
      rw [if_neg (by simp only [List.length_take, Bool.and_eq_true, decide_eq_true_eq]; omega)]) ⟨[], []⟩
      ⟨by omega, ⟨⟨by simp, by simp, fun h hm => by (cases hm), fun c hm => by (cases hm)⟩, by simp, fun a ha => by (cases ha), fun k c hk => by simp at hk, by simp [OneL], by simp⟩⟩
  obtain ⟨h1, h2, h3⟩ := h1
  refine ⟨?_, ?_⟩
  · unfold law10_plays
    simp only [Int.natCast_zero, Int.ofNat_eq_natCast] at h1
    rw [h1]
    rfl
  · have : (l.take 100).length ≤ 100 := by rw [List.length_take]; omega
    exact ⟨h3.ok, by have := h3.len; unfold playsM; omega, h3.apart, h3.wait, h3.one, h3.few⟩
theorem all_loop {ρ : Type} (n : Nat) (e : ρ) (step : Int → Option (Int ⊕ ρ)) (hstep : ∀ k : Nat, k < n → step k = some (.inl ((k + 1 : Nat) : Int))) (hend : step n = some (.inr e)) : loop step 0 = some e := by
  have key : ∀ (m k : Nat), k + m = n → loop step (k : Int) = some e := by
    intro m
    induction m with
    | zero => intro k hk; have : k = n := by omega
              subst this; exact loop_inr hend
    | succ m ih => intro k hk; rw [loop_inl (hstep k (by omega))]; exact ih (k + 1) (by omega)
  exact key n 0 (by omega)
theorem lockApart {l : List Act} (ha : ∀ a ∈ l, In64 a.Txn ∧ wOk a.W) : law10_LockApart l = some true := by
  obtain ⟨h1, hi⟩ := plays_eq ha
  have hl := hi.len
  unfold law10_LockApart
  rw [shown10, h1]
  simp only [Option.bind_some]
  rw [all_loop (playsM l).Held.length (.inr ()) (fun (s943 : Int) => law10_LockApart_l12 (playsM l) s943) (fun k hk => by
    unfold law10_LockApart_l12
    rw [if_pos (by simpa using hk), all_loop k (.inr ()) (fun (s1194 : Int) => law10_LockApart_l14 (playsM l) (k : Int) s1194) (fun j hj => by
      unfold law10_LockApart_l14
      rw [if_pos (by simpa using hj), ix_in hk, ix_in (show j < (playsM l).Held.length by omega)]
      simp only [Option.bind_some]
      rw [rclash_eq (hi.ok.held _ (List.getElem_mem _)).2 (hi.ok.held _ (List.getElem_mem _)).2, IntWalk.i64_in _ ⟨by omega, by omega⟩]
      simp only [Option.bind_some]
      by_cases hne : (playsM l).Held[k].Txn = (playsM l).Held[j].Txn
      · rw [if_neg (by simp [hne])]; rfl
      · rw [if_neg (by simp [hi.apart _ (List.getElem_mem hk) _ (List.getElem_mem (show j < (playsM l).Held.length by omega)) hne])]; rfl) (by
      unfold law10_LockApart_l14
      rw [if_neg (by simp)])]
    simp only [Option.bind_some]
    rw [IntWalk.i64_in _ ⟨by omega, by omega⟩]
    rfl) (by
    unfold law10_LockApart_l12
    rw [if_neg (by simp)])]
  rfl
theorem lockWaits {l : List Act} (ha : ∀ a ∈ l, In64 a.Txn ∧ wOk a.W) : law10_LockWaits l = some true := by
  obtain ⟨h1, hi⟩ := plays_eq ha
  have hl := hi.len
  unfold law10_LockWaits
  rw [shown10, h1]
  simp only [Option.bind_some]
  rw [all_loop (playsM l).Queue.length (.inr ()) (fun (s431 : Int) => law10_LockWaits_l12 (playsM l) s431) (fun k hk => by
    have hb := hi.wait k _ (List.getElem?_eq_getElem hk)
    have hp := List.length_pos_iff.2 hb
    unfold law10_LockWaits_l12
    rw [if_pos (by simpa using hk), ix_in hk]
    simp only [Option.bind_some]
    rw [blockers_eq hi.ok, Int.toNat_natCast]
    simp only [Option.bind_some]
    rw [if_neg (show ¬ decide (((blockM (playsM l) (playsM l).Queue[k].Txn (playsM l).Queue[k].W k).length : Int) = 0) = true by simp only [decide_eq_true_eq]; omega), all_loop k (.inr ()) (fun (s532 : Int) => law10_LockWaits_l14 (playsM l) (k : Int) (playsM l).Queue[k] s532) (fun j hj => by
      unfold law10_LockWaits_l14
      rw [if_pos (by simpa using hj), ix_in (show j < (playsM l).Queue.length by omega)]
      simp only [Option.bind_some]
      rw [IntWalk.i64_in _ ⟨by omega, by omega⟩]
      have hne : (playsM l).Queue[j].Txn ≠ (playsM l).Queue[k].Txn := by
        have := List.pairwise_iff_getElem.1 hi.one j k (by rw [List.length_map]; omega) (by rw [List.length_map]; omega) hj
        simpa using this
      rw [if_neg (by simpa using hne)]; rfl) (by
      unfold law10_LockWaits_l14
      rw [if_neg (by simp)])]
    simp only [Option.bind_some]
    rw [IntWalk.i64_in _ ⟨by omega, by omega⟩]
    rfl) (by
    unfold law10_LockWaits_l12
    rw [if_neg (by simp)])]
  have := hi.few
  simp only [Option.bind_some, if_true, Option.some.injEq, decide_eq_true_eq]
  omega
end Go.Ab
