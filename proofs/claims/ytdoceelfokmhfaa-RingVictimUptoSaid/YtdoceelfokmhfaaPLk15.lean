/- Laws of chapter 10 that speak of one ask, plainly. -/
import Derived.Test.YtdoceelfokmhfaaPLk14
namespace Go.Ab
set_option linter.unusedVariables false
set_option linter.unusedSimpArgs false

theorem lockAsks {v : LockAsksIn} (hl : LOk v.L) (hb : v.L.Held.length + v.L.Queue.length ≤ 1999999) (ht : In64 v.Txn) (hw : wOk v.W) (hn : v.N ≤ 9223372036854775807) : law10_LockAsks v = some true := by
  unfold law10_LockAsks
  rw [shown10, small_eq]
  simp only [Option.bind_some]
  by_cases hs : (decide (v.L.Held.length ≤ 200) && decide (v.L.Queue.length ≤ 40)) = true
  · have b1 := blockM_len v.L v.Txn v.W v.N.toNat
    have b2 := lateM_len v.L v.Until
    rw [if_neg (by rw [hs]; simp), ask_eq hl, rask_eq hl _ hw]
    simp only [Option.bind_some]
    rw [rlsame_eq (ask_ok hl hb ht hw v.Until), blockers_eq hl, rblockers_eq hl _ hw _ hn]
    simp only [Option.bind_some]
    rw [ints_eq _ _ (by omega), late_eq hl, rlate_eq hl]
    simp only [Option.bind_some]
    rw [ints_eq _ _ (by omega)]
    simp only [Option.bind_some, decide_true, if_true]
    rw [waits_eq hl, rwaits_eq hl]
    simp only [Option.bind_some, beq_self_eq_true, if_true]
    rw [lsame_eq hl, rlsame_eq hl]
    simp only [Option.bind_some, beq_self_eq_true, if_true]
    rw [lsame_eq hl]
    simp
  · rw [if_pos (by simp only [Bool.not_true, Bool.false_or, Bool.not_eq_true']; simpa using hs)]
theorem int_at {i : Int} {n : Nat} (h1 : ¬ i < 0) (h2 : ¬ i ≥ (n : Int)) : ∃ k : Nat, i = (k : Int) ∧ k < n := ⟨i.toNat, by omega, by omega⟩
theorem lockCovered {l : Locks} (hl : LOk l) (hb : l.Held.length + l.Queue.length ≤ 1999999) (i : Int) {w : Want} (hw : wOk w) : law10_LockCovered l i w = some true := by
  unfold law10_LockCovered
  rw [shown10, small_eq]
  simp only [Option.bind_some, Bool.not_true, Bool.false_eq_true, if_false]
  cases hs : (decide (l.Held.length ≤ 200) && decide (l.Queue.length ≤ 40)) with
  | false => simp
  | true =>
    simp only [Bool.not_true, Bool.false_eq_true, if_false]
    by_cases h1 : i < 0
    · simp [h1]
    rw [if_neg (show ¬ decide (i < 0) = true by simpa using h1)]
    by_cases h2 : i ≥ (l.Held.length : Int)
    · rw [if_pos (show decide (i ≥ (l.Held.length : Int)) = true by simpa using h2)]; rfl
    rw [if_neg (show ¬ decide (i ≥ (l.Held.length : Int)) = true by simpa using h2)]
    obtain ⟨k, rfl, hk⟩ := int_at h1 h2
    rw [ix_in hk]
    simp only [Option.bind_some]
    by_cases h3 : l.Held[k].Txn < 1
    · rw [if_pos (show decide (l.Held[k].Txn < 1) = true by simpa using h3)]; rfl
    rw [if_neg (show ¬ decide (l.Held[k].Txn < 1) = true by simpa using h3), waits_eq hl]
    simp only [Option.bind_some]
    cases hw2 : waitsM l l.Held[k].Txn with
    | true => simp
    | false =>
      simp only [Bool.false_eq_true, if_false]
      rw [rcov_eq (hl.held _ (List.getElem_mem hk)).2 hw]
      simp only [Option.bind_some]
      cases hc : covM l.Held[k].W w with
      | false => simp
      | true =>
        have hm : mayM2 w = true := by
          unfold covM at hc
          cases hm : mayM2 w with
          | true => rfl
          | false => rw [hm] at hc; simp at hc
        have hcv : covH l l.Held[k].Txn w = true := by
          unfold covH
          rw [List.any_eq_true]
          exact ⟨_, List.getElem_mem hk, by simp [hc]⟩
        have ha : askM l l.Held[k].Txn w 5 = (l, 0) := by
          unfold askM
          rw [if_neg (by rw [hm]; simp; omega), hw2, if_neg (by simp), hcv, if_pos rfl]
        simp only [Bool.not_true, Bool.false_eq_true, if_false]
        rw [ask_eq hl, ha]
        simp only [Option.bind_some, decide_true, if_true]
        rw [lsame_eq hl]
        simp
theorem lockFair {v : LockFairIn} (hl : LOk v.L) (hb : v.L.Held.length + v.L.Queue.length ≤ 1999999) (ht : In64 v.Txn) (hw : wOk v.W) : law10_LockFair v = some true := by
  unfold law10_LockFair
  rw [shown10, small_eq]
  simp only [Option.bind_some, Bool.not_true, Bool.false_eq_true, if_false]
  cases hs : (decide (v.L.Held.length ≤ 200) && decide (v.L.Queue.length ≤ 40)) with
  | false => simp
  | true =>
    simp only [Bool.not_true, Bool.false_eq_true, if_false]
    by_cases h1 : v.I < 0
    · simp [h1]
    rw [if_neg (show ¬ decide (v.I < 0) = true by simpa using h1)]
    by_cases h2 : v.I ≥ (v.L.Queue.length : Int)
    · rw [if_pos (show decide (v.I ≥ (v.L.Queue.length : Int)) = true by simpa using h2)]; rfl
    rw [if_neg (show ¬ decide (v.I ≥ (v.L.Queue.length : Int)) = true by simpa using h2)]
    obtain ⟨k, hk2, hk⟩ := int_at h1 h2
    rw [hk2, ix_in hk]
    simp only [Option.bind_some]
    by_cases h3 : v.L.Queue[k].Txn = v.Txn
    · simp [h3]
    rw [if_neg (show ¬ decide (v.L.Queue[k].Txn = v.Txn) = true by simpa using h3), rclash_eq (hl.que _ (List.getElem_mem hk)).2 hw]
    simp only [Option.bind_some]
    rw [ask_eq hl]
    simp only [Option.bind_some]
    cases hc : clashM v.L.Queue[k].W v.W with
    | false => simp
    | true =>
      simp only [Bool.not_true, Bool.false_eq_true, if_false]
      by_cases he : (askM v.L v.Txn v.W 5).2 = 0
      · rw [if_neg (by simp [he]), lsame_eq (ask_ok hl hb ht hw 5)]
        have hbn : blockM v.L v.Txn v.W v.L.Queue.length ≠ [] := by
          intro h
          have hm : v.L.Queue[k].Txn ∈ blockM v.L v.Txn v.W v.L.Queue.length := by
            rw [blockS_mem]
            exact .inr ⟨v.L.Queue[k], by rw [List.take_length]; exact List.getElem_mem hk, rfl, h3, hc⟩
          rw [h] at hm; cases hm
        have : (askM v.L v.Txn v.W 5).1 = v.L := by
          unfold askM at he ⊢
          by_cases q1 : v.Txn < 1 ∨ mayM2 v.W = false
          · rw [if_pos q1]
          rw [if_neg q1] at he ⊢
          by_cases q2 : waitsM v.L v.Txn = true
          · rw [if_pos q2]
          rw [if_neg q2] at he ⊢
          by_cases q3 : covH v.L v.Txn v.W = true
          · rw [if_pos q3]
          rw [if_neg q3] at he ⊢
          rw [if_neg hbn] at he ⊢
          by_cases q4 : 16 ≤ v.L.Queue.length
          · rw [if_pos q4]
          rw [if_neg q4] at he
          cases he
        simp [this]
      · rw [if_pos (by simp [he])]
/-- What a settling gives is added behind what is held, and told. -/
theorem settle_parts (n : Nat) : ∀ (l : Locks) (out : List Int), ∃ g : List Hold, (settleF n l out).1.Held = l.Held ++ g ∧ (settleF n l out).2 = out ++ g.map (fun h => h.Txn) ∧ (∀ h ∈ g, ∃ c ∈ l.Queue, c.Txn = h.Txn ∧ c.W = h.W) ∧ (settleF n l out).1.Queue.Sublist l.Queue := by
  induction n with
  | zero => intro l out; exact ⟨[], by simp [settleF]⟩
  | succ n ih =>
    intro l out
    unfold settleF
    cases hf : (List.range l.Queue.length).find? (freeI l) with
    | none => exact ⟨[], by simp⟩
    | some k =>
      have hk : k < l.Queue.length := by have := List.mem_of_find?_eq_some hf; simpa using this
      obtain ⟨g, e1, e2, e3, e4⟩ := ih (grantM l k) (out ++ [(claimAt l k).Txn])
      have hc : claimAt l k ∈ l.Queue := by rw [claim_at hk]; exact List.getElem_mem hk
      have hsub : (grantM l k).Queue.Sublist l.Queue := by
        have h1 : (l.Queue.drop (k + 1)).Sublist (l.Queue.drop k) := by
          rw [show k + 1 = k + 1 from rfl, ← List.drop_drop]
          exact List.drop_sublist _ _
        have h2 := (List.Sublist.refl (l.Queue.take k)).append h1
        rw [List.take_append_drop] at h2
        exact h2
      refine ⟨⟨(claimAt l k).Txn, (claimAt l k).W⟩ :: g, ?_, ?_, ?_, e4.trans hsub⟩
      · rw [e1]; unfold grantM; simp
      · rw [e2]; simp
      · intro h hm
        rcases List.mem_cons.1 hm with rfl | hm
        · exact ⟨_, hc, rfl, rfl⟩
        · obtain ⟨c, h1, h2⟩ := e3 h hm
          exact ⟨c, hsub.subset h1, h2⟩
theorem filt_at {α : Type} (q : α → Bool) : ∀ (l : List α) (k : Nat) (x : α), l[k]? = some x → q x = true → (l.filter q)[((l.take k).filter q).length]? = some x
  | [], k, x, h, _ => by simp at h
  | y :: r, 0, x, h, hq => by
    simp at h; subst h
    simp [List.filter_cons, hq]
  | y :: r, k + 1, x, h, hq => by
    have ih := filt_at q r k x (by simpa using h) hq
    rw [List.take_succ_cons, List.filter_cons, List.filter_cons]
    by_cases hy : q y = true
    · simp [hy, ih]
    · simp [hy, ih]
theorem lockGoes {l : Locks} (hl : LOk l) (hb : l.Held.length + l.Queue.length ≤ 1999999) (txn : Int) : law10_LockGoes l txn = some true := by
  have b1 := hl.heldL
  have b2 := hl.queL
  unfold law10_LockGoes
  rw [shown10, small_eq]
  simp only [Option.bind_some]
  by_cases hs : (decide (l.Held.length ≤ 200) && decide (l.Queue.length ≤ 40)) = true
  · rw [if_neg (by rw [hs]; simp), free_eq hl (by omega)]
    simp only [Option.bind_some]
    obtain ⟨g, e1, e2, e3, e4⟩ := settle_parts ((lessL l txn).Queue.length + 1) (lessL l txn) []
    obtain ⟨k1, k2, k3⟩ := less_ok2 hl txn
    have f1 : (freeM l txn).1.Held = (lessL l txn).Held ++ g := e1
    have f2 : (freeM l txn).2 = g.map (fun h => h.Txn) := by have := e2; rw [List.nil_append] at this; exact this
    have f4 : (freeM l txn).1.Queue.Sublist (lessL l txn).Queue := e4
    have ok : LOk (freeM l txn).1 := settleF_ok _ _ _ k1 (by omega)
    have c1 := ok.heldL
    have c2 := ok.queL
    have n1 : ∀ h ∈ (freeM l txn).1.Held, h.Txn ≠ txn := by
      intro h hm
      rw [f1] at hm
      rcases List.mem_append.1 hm with hm | hm
      · have := (List.mem_filter.1 hm).2; simpa using this
      · obtain ⟨c, h1, h2, _⟩ := e3 h hm
        have := (List.mem_filter.1 h1).2
        rw [← h2]; simpa using this
    have l1 : loop (fun (s75 : Int) => law10_LockGoes_l2 txn (freeM l txn) s75) (0 : Int) = some (.inr () : Unit ⊕ Unit) := by
      rcases find_loop (freeM l txn).1.Held (fun h => decide (h.Txn = txn)) (fun _ => (.inl () : Unit ⊕ Unit)) (.inr ()) (fun (s75 : Int) => law10_LockGoes_l2 txn (freeM l txn) s75) (by omega) (fun k x hk => by
        have hlt := (List.getElem?_eq_some_iff.1 hk).1
        unfold law10_LockGoes_l2
        rw [if_pos (by simpa using hlt), ix_in hlt, (List.getElem?_eq_some_iff.1 hk).2, IntWalk.i64_in _ ⟨by omega, by omega⟩]
        by_cases h : x.Txn = txn <;> simp [h]) (by unfold law10_LockGoes_l2; rw [if_neg (by simp)]) with ⟨k, _, _, h2⟩ | ⟨h1, _⟩
      · rw [List.any_eq_true] at h2
        obtain ⟨h, hm, hq⟩ := h2
        exact absurd (by simpa using hq) (n1 h hm)
      · exact h1
    rw [l1]
    simp only [Option.bind_some]
    have l2 := fold_loop (ρ := Unit ⊕ Int) l.Held (fun k (s : Nat) => ((s : Int), (k : Int))) (fun (s892 : Int × Int) => law10_LockGoes_l4 l txn (freeM l txn) s892.1 s892.2) (fun s x => if x.Txn = txn then s else s + 1) (fun s => .inr (s : Int)) (fun k s => s = ((l.Held.take k).filter (fun h => !decide (h.Txn = txn))).length)
      (fun k x s hk hi => by
        have hlt := (List.getElem?_eq_some_iff.1 hk).1
        have hx := (List.getElem?_eq_some_iff.1 hk).2
        have hle : s ≤ k := by
          rw [hi]
          refine Nat.le_trans (List.length_filter_le _ _) ?_
          rw [List.length_take]; omega
        refine ⟨?_, ?_⟩
        · simp only
          unfold law10_LockGoes_l4
          rw [if_pos (by simpa using hlt), ix_in hlt, hx]
          simp only [Option.bind_some]
          rw [IntWalk.i64_in ((k : Int) + 1) ⟨by omega, by omega⟩, IntWalk.i64_in ((s : Int) + 1) ⟨by omega, by omega⟩]
          by_cases h : x.Txn = txn
          · simp [h]
          · have hat := filt_at (fun h : Hold => !decide (h.Txn = txn)) l.Held k x hk (by simp [h])
            rw [← hi] at hat
            have hin : s < (lessL l txn).Held.length := (List.getElem?_eq_some_iff.1 hat).1
            have hat2 : (freeM l txn).1.Held[s]? = some x := by
              rw [f1, List.getElem?_append_left hin]; exact hat
            have hin2 := (List.getElem?_eq_some_iff.1 hat2).1
            rw [if_neg (show ¬ decide (x.Txn = txn) = true by simpa using h), if_neg (show ¬ decide ((s : Int) ≥ ((freeM l txn).1.Held.length : Int)) = true by simp; omega), ix_in hin2, (List.getElem?_eq_some_iff.1 hat2).2]
            simp [h]
        · rw [List.take_succ_eq_append_getElem hlt, List.filter_append, List.length_append, ← hi, hx]
          by_cases h : x.Txn = txn <;> simp [h, List.filter_cons])
      (fun s hi => by
        simp only
        unfold law10_LockGoes_l4
        rw [if_neg (by simp)]) 0 (by simp)
    obtain ⟨l3, l4⟩ := l2
    simp only [Int.natCast_zero, Int.ofNat_eq_natCast] at l3
    rw [List.take_length] at l4
    rw [l3]
    simp only [Option.bind_some]
    have nw : waitsM (freeM l txn).1 txn = false := by
      unfold waitsM
      rw [List.any_eq_false]
      intro c hc
      have := (List.mem_filter.1 (f4.subset hc)).2
      simpa using this
    rw [waits_eq ok, nw]
    simp only [Option.bind_some, Bool.not_false, if_true]
    have hg : g.length ≤ 2000000 := by rw [f1, List.length_append] at c1; omega
    have hfl := List.length_filter_le (fun h : Hold => !decide (h.Txn = txn)) l.Held
    have hsum : (freeM l txn).1.Held.length = (l.Held.filter (fun h => !decide (h.Txn = txn))).length + (freeM l txn).2.length := by
      rw [f1, f2, List.length_append, List.length_map]; rfl
    have hgl : (freeM l txn).2.length = g.length := by rw [f2, List.length_map]
    rw [l4, IntWalk.i64_in _ ⟨by omega, by omega⟩]
    simp only [Option.some.injEq, decide_eq_true_eq]
    omega
  · rw [if_pos (by simp only [Bool.not_true, Bool.false_or, Bool.not_eq_true']; simpa using hs)]
end Go.Ab
