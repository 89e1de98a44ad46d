/- Who waits in a ring, and who is given up: program and document alike (plain). -/
import Derived.Test.YtdoceelfokmhfaaPRg3
namespace Go.Ab
set_option linter.unusedVariables false
set_option linter.unusedSimpArgs false

theorem contains_eq {l : List Int} (hl : l.length ≤ 1099511627776) (v : Int) : slices_Contains_int l v = some (decide (v ∈ l)) := by
  unfold slices_Contains_int slices_Index_int
  rcases find_loop l (fun x => decide (v = x)) (fun k => (.inl (k : Int) : Int ⊕ Unit)) (.inr ()) (fun (s57 : Int) => slices_Index_int_l2 l v s57) hl (fun k x hk => by
    have hlt := (List.getElem?_eq_some_iff.1 hk).1
    unfold slices_Index_int_l2
    rw [if_pos (by simpa using hlt), ix_in hlt, (List.getElem?_eq_some_iff.1 hk).2, IntWalk.i64_in _ ⟨by omega, by omega⟩]
    by_cases h : v = x <;> simp [h]) (by unfold slices_Index_int_l2; rw [if_neg (by simp)]) with ⟨k, _, h1, h2⟩ | ⟨h1, h2⟩
  · rw [h1]
    rw [List.any_eq_true] at h2
    obtain ⟨x, hx, hq⟩ := h2
    have : v ∈ l := by have := of_decide_eq_true hq; rw [this]; exact hx
    simp [this]
  · rw [h1]
    rw [List.any_eq_false] at h2
    have : v ∉ l := fun h => by have := h2 v h; simp at this
    simp [this]
noncomputable def notBack (l : Locks) (v t : Int) : Bool := by classical exact !decide (RchL l t v)
theorem ring1_eq {l : Locks} (hl : LOk l) (hs : LSm l) (t v : Int) : ring_Ring_1 t l v = some (notBack l v t) := by
  have := reachM_len (l := l) t
  have s1 := hs.1
  unfold ring_Ring_1
  rw [reach_eq hl hs]
  simp only [Option.bind_some]
  rw [contains_eq (by omega)]
  unfold notBack
  simp only [Option.bind_some, Option.some.injEq]
  by_cases h : RchL l t v
  · simp [reachM_mem, h]
  · simp [reachM_mem, h]
theorem delR_eq {l : Locks} (hl : LOk l) (hs : LSm l) {a : List Int} (ha : a.length ≤ 2000000) (v : Int) : slices_DeleteFunc_int__ring_Ring_1 a l v = some (a.filter (fun t => !notBack l v t)) := by
  unfold slices_DeleteFunc_int__ring_Ring_1 slices_IndexFunc_int__ring_Ring_1
  rcases find_first a (notBack l v) (fun k => (.inl (k : Int) : Int ⊕ Unit)) (.inr ()) (fun (s169 : Int) => slices_IndexFunc_int__ring_Ring_1_l4 a l v s169) (fun k x hk => by
    have hlt := (List.getElem?_eq_some_iff.1 hk).1
    unfold slices_IndexFunc_int__ring_Ring_1_l4
    rw [if_pos (by simpa using hlt), ix_in hlt, (List.getElem?_eq_some_iff.1 hk).2, IntWalk.i64_in _ ⟨by omega, by omega⟩]
    simp only [Option.bind_some]
    rw [ring1_eq hl hs]
    rfl) (by unfold slices_IndexFunc_int__ring_Ring_1_l4; rw [if_neg (by simp)]) with ⟨k, x, hk, h1, h2, h3⟩ | ⟨h1, h3⟩
  · have hlt := (List.getElem?_eq_some_iff.1 hk).1
    have hx := (List.getElem?_eq_some_iff.1 hk).2
    rw [h1]
    simp only [Option.bind_some]
    rw [if_neg (by first | (simp; done) | (simp; omega)), IntWalk.i64_in _ ⟨by omega, by omega⟩]
    obtain ⟨i2, a2, e1, e2, e3, e4⟩ := del_loop a (notBack l v) (fun (s343 : Int × Int × (List Int)) => slices_DeleteFunc_int__ring_Ring_1_l4 l v s343.1 s343.2.1 s343.2.2)
      (fun i j a2 x hij ha2 hx => by
        have hlt := (List.getElem?_eq_some_iff.1 hx).1
        simp only
        unfold slices_DeleteFunc_int__ring_Ring_1_l4
        rw [if_pos (by simpa using hlt), ix_in hlt, (List.getElem?_eq_some_iff.1 hx).2, IntWalk.i64_in ((j : Int) + 1) ⟨by omega, by omega⟩, IntWalk.i64_in ((i : Int) + 1) ⟨by omega, by omega⟩, ix_in (show i < a2.length by omega)]
        simp only [Option.bind_some]
        rw [ring1_eq hl hs]
        cases h : notBack l v x <;> simp [h])
      (fun i a2 ha2 => by
        simp only
        unfold slices_DeleteFunc_int__ring_Ring_1_l4
        rw [if_neg (by simp; omega)])
      (a.length - (k + 1)) k (k + 1) a (by omega) (by omega) rfl rfl (by
        rw [List.take_succ_eq_append_getElem hlt, List.filter_append, hx]
        have hf : (a.take k).filter (fun h => !notBack l v h) = a.take k := List.filter_eq_self.2 (fun y hy => by simp [h3 y hy])
        rw [hf]; simp [List.filter_cons, h2])
    rw [show ((k : Int) + 1) = ((k + 1 : Nat) : Int) from rfl, e1]
    simp only [Option.bind_some]
    have hn : (((List.map (encI .i64) a2).length : Nat) : Int).toNat = a2.length := by simp
    rw [need_pos (by omega), need_pos (by omega), need_pos (by simp only [List.length_append, List.length_take, List.length_drop, List.length_replicate, hn]; omega), need_pos (by simp only [List.length_append, List.length_take, List.length_drop, List.length_replicate, hn, Int.toNat_natCast]; omega)]
    rw [Int.toNat_natCast]
    exact congrArg some ((del_end a2 _ _ i2 (by omega)).trans e4)
  · rw [h1]
    simp only [Option.bind_some]
    rw [if_pos (by decide)]
    congr 1
    exact (List.filter_eq_self.2 (fun y hy => by simp [h3 y hy])).symm
theorem notBack_iff (l : Locks) (v t : Int) : (!notBack l v t) = true ↔ RchL l t v := by
  unfold notBack; simp
theorem ring_filt (l : Locks) (t : Int) : (reachM l t).filter (fun x => !notBack l t x) = ringM l t := by
  refine setM_eq ((setM_srt _ _).sublist List.filter_sublist) (fun x => ?_) (fun x h => rch_uni h.1)
  rw [List.mem_filter, notBack_iff]
  exact ⟨fun h => ⟨(reachM_mem l t x).1 h.1, h.2⟩, fun h => ⟨(reachM_mem l t x).2 h.1, h.2⟩⟩
theorem ring_none {l : Locks} {t : Int} (h : ¬ RchL l t t) : ringM l t = [] :=
  List.eq_nil_iff_forall_not_mem.2 (fun x hx => by
    obtain ⟨h1, h2⟩ := (ringM_mem l t x).1 hx
    exact h (h1.trans h2))
theorem ring_eq {l : Locks} (hl : LOk l) (hs : LSm l) (t : Int) : ring_Ring l t = some (ringM l t) := by
  have hrl := reachM_len (l := l) t
  have s1 := hs.1
  unfold ring_Ring
  rw [reach_eq hl hs]
  simp only [Option.bind_some]
  rw [contains_eq (by omega)]
  simp only [Option.bind_some]
  by_cases h : RchL l t t
  · rw [if_neg (by simp [reachM_mem, h]), delR_eq hl hs (by omega), ring_filt]
    rfl
  · rw [if_pos (by simp [reachM_mem, h]), ring_none h]
theorem rring_eq {l : Locks} (hl : LOk l) (hs : LSm l) (t : Int) : ref11_Ring l t = some (ringM l t) := by
  have hrl := reachM_len (l := l) t
  have s1 := hs.1
  unfold ref11_Ring
  rw [rreach_eq hl hs]
  simp only [Option.bind_some]
  rw [rhas_eq (by omega)]
  simp only [Option.bind_some]
  by_cases h : RchL l t t
  · rw [if_neg (by simp [reachM_mem, h])]
    have e := filt_loop (reachM l t) (fun x => !notBack l t x) 0 (fun (s386 : Int × (List Int)) => ref11_Ring_l2 l t (reachM l t) s386.1 s386.2) (fun k a x hk ha => by
      have hlt := (List.getElem?_eq_some_iff.1 hk).1
      have hr2 := reachM_len (l := l) x
      simp only
      unfold ref11_Ring_l2
      rw [if_pos (by simpa using hlt), ix_in hlt, (List.getElem?_eq_some_iff.1 hk).2, IntWalk.i64_in _ ⟨by omega, by omega⟩]
      simp only [Option.bind_some]
      rw [rreach_eq hl hs]
      simp only [Option.bind_some]
      rw [rhas_eq (by omega)]
      simp only [Option.bind_some]
      by_cases hb : RchL l x t
      · have e1 := (notBack_iff l t x).2 hb
        rw [if_pos (by simp [reachM_mem, hb]), need_pos (by omega), if_pos e1]; rfl
      · have e1 : ¬ (!notBack l t x) = true := fun h => hb ((notBack_iff l t x).1 h)
        rw [if_neg (by simp [reachM_mem, hb]), if_neg e1]; rfl) (fun a => by
      simp only
      unfold ref11_Ring_l2
      rw [if_neg (by simp)])
    rw [e, ring_filt]
    rfl
  · rw [if_pos (by simp [reachM_mem, h]), ring_none h]
def lastM (l : List Int) : Int := l.getD (l.length - 1) 0
theorem last_at {l : List Int} (h : l ≠ []) : ix l (IntKind.i64.wrap ((l.length : Int) - 1)) = if l.length ≤ 1099511627776 then some (lastM l) else ix l (IntKind.i64.wrap ((l.length : Int) - 1)) := by
  have hp := List.length_pos_iff.2 h
  split
  · rw [IntWalk.i64_in _ ⟨by omega, by omega⟩, show ((l.length : Int) - 1) = ((l.length - 1 : Nat) : Int) by omega, ix_in (show l.length - 1 < l.length by omega)]
    unfold lastM
    rw [List.getD_eq_getElem?_getD, List.getElem?_eq_getElem (show l.length - 1 < l.length by omega)]
    rfl
  · rfl
theorem last_mem {l : List Int} (h : l ≠ []) : lastM l ∈ l := by
  have hp := List.length_pos_iff.2 h
  unfold lastM
  rw [List.getD_eq_getElem?_getD, List.getElem?_eq_getElem (show l.length - 1 < l.length by omega)]
  exact List.getElem_mem _
theorem max_eq {l : List Int} (hl : l.length ≤ 1099511627776) (hs : Srt l) (h : l ≠ []) : slices_Max_int l = some (lastM l) := by
  have hp := List.length_pos_iff.2 h
  unfold slices_Max_int
  rw [if_neg (by simp; omega), show (0 : Int) = ((0 : Nat) : Int) from rfl, ix_in hp]
  simp only [Option.bind_some]
  have key : ∀ (m k : Nat), k + 1 + m = l.length → (hk : k < l.length) → loop (fun (s41 : Int × Int) => slices_Max_int_l2 l s41.1 s41.2) (l[k], ((k + 1 : Nat) : Int)) = some (lastM l) := by
    intro m
    induction m with
    | zero =>
      intro k hk hlt
      refine loop_inr ?_
      simp only
      unfold slices_Max_int_l2
      rw [if_neg (by simp; omega)]
      unfold lastM
      rw [List.getD_eq_getElem?_getD, List.getElem?_eq_getElem (show l.length - 1 < l.length by omega)]
      simp only [show l.length - 1 = k by omega]
      rfl
    | succ m ih =>
      intro k hk hlt
      have hlt2 : k + 1 < l.length := by omega
      have h2 := List.pairwise_iff_getElem.1 hs k (k + 1) hlt hlt2 (by omega)
      rw [loop_inl (s' := (l[k + 1], ((k + 1 + 1 : Nat) : Int)))]
      · exact ih (k + 1) (by omega) hlt2
      · simp only
        unfold slices_Max_int_l2
        rw [if_pos (by simp only [decide_eq_true_eq]; omega), ix_in hlt2]
        simp only [Option.bind_some]
        rw [if_pos h2, IntWalk.i64_in _ ⟨by omega, by omega⟩]
        rfl
  have := key (l.length - 1) 0 (by omega) hp
  rw [show ((0 + 1 : Nat) : Int) = (1 : Int) from rfl] at this
  rw [this]
  rfl
noncomputable def victM (l : Locks) (t : Int) : Int × Bool := if ringM l t = [] then (0, false) else (lastM (ringM l t), true)
theorem ringM_len (l : Locks) (t : Int) : (ringM l t).length ≤ l.Held.length + l.Queue.length := by
  have := setM_len (uniL l) (fun x => RchL l t x ∧ RchL l x t)
  rw [uniL_len] at this; exact this
theorem victim_eq {l : Locks} (hl : LOk l) (hs : LSm l) (t : Int) : ring_Victim l t = some (victM l t) := by
  have hrl := ringM_len l t
  have s1 := hs.1
  unfold ring_Victim victM
  rw [ring_eq hl hs]
  simp only [Option.bind_some]
  by_cases h : ringM l t = []
  · rw [if_pos (show decide (((ringM l t).length : Int) = 0) = true by simp [h]), if_pos h]
  · have hp := List.length_pos_iff.2 h
    rw [if_neg (show ¬ decide (((ringM l t).length : Int) = 0) = true by simp only [decide_eq_true_eq]; omega), if_neg h, max_eq (by omega) (show Srt (ringM l t) from setM_srt _ _) h]
    rfl
theorem rvictim_eq {l : Locks} (hl : LOk l) (hs : LSm l) (t : Int) : ref11_Victim l t = some (victM l t) := by
  have hrl := ringM_len l t
  have s1 := hs.1
  unfold ref11_Victim victM
  rw [rring_eq hl hs]
  simp only [Option.bind_some]
  by_cases h : ringM l t = []
  · rw [if_pos (show decide (((ringM l t).length : Int) = 0) = true by simp [h]), if_pos h]
  · have hp := List.length_pos_iff.2 h
    rw [if_neg (show ¬ decide (((ringM l t).length : Int) = 0) = true by simp only [decide_eq_true_eq]; omega), if_neg h, last_at h, if_pos (by omega)]
    rfl
end Go.Ab
