/- Rings behind a freeing (plain). -/
import Derived.Test.YtdoceelfokmhfaaPRg4
namespace Go.Ab
set_option linter.unusedVariables false
set_option linter.unusedSimpArgs false

theorem edge_from {l : Locks} {t b : Int} (h : EdgeL l t b) : ∃ c ∈ l.Queue, c.Txn = t := by
  obtain ⟨i, c, h1, h2, _⟩ := h
  exact ⟨c, List.mem_of_getElem? h1, h2⟩
theorem rch_from {l : Locks} {t b : Int} (h : RchL l t b) : ∃ c ∈ l.Queue, c.Txn = t := by
  induction h with
  | one h => exact edge_from h
  | more _ _ ih => exact ih
theorem rch_mono {l k : Locks} (h : ∀ a b, EdgeL k a b → EdgeL l a b) {t b : Int} (hr : RchL k t b) : RchL l t b := by
  induction hr with
  | one h2 => exact .one (h _ _ h2)
  | more _ h2 ih => exact .more ih (h _ _ h2)
theorem filt_idx {α : Type} (q : α → Bool) : ∀ (l : List α) (i : Nat) (c : α), (l.filter q)[i]? = some c → ∃ j : Nat, l[j]? = some c ∧ ∀ x ∈ (l.filter q).take i, x ∈ l.take j
  | [], i, c, h => by simp at h
  | y :: r, i, c, h => by
    by_cases hy : q y = true
    · rw [List.filter_cons, if_pos hy] at h ⊢
      cases i with
      | zero => exact ⟨0, by simpa using h, by simp⟩
      | succ i =>
        obtain ⟨j, h1, h2⟩ := filt_idx q r i c (by simpa using h)
        refine ⟨j + 1, by simpa using h1, fun x hx => ?_⟩
        rw [List.take_succ_cons, List.mem_cons] at hx ⊢
        exact hx.elim .inl (fun h => .inr (h2 x h))
    · rw [List.filter_cons, if_neg hy] at h ⊢
      obtain ⟨j, h1, h2⟩ := filt_idx q r i c h
      refine ⟨j + 1, by simpa using h1, fun x hx => ?_⟩
      rw [List.take_succ_cons, List.mem_cons]
      exact .inr (h2 x hx)
theorem edge_less (l : Locks) (v a b : Int) (h : EdgeL (lessL l v) a b) : EdgeL l a b := by
  obtain ⟨i, c, h1, h2, h3⟩ := h
  obtain ⟨j, g1, g2⟩ := filt_idx _ _ _ _ h1
  refine ⟨j, c, g1, h2, ?_⟩
  rw [blockS_mem] at h3 ⊢
  rcases h3 with ⟨x, hx, hr⟩ | ⟨x, hx, hr⟩
  · exact .inl ⟨x, (List.mem_filter.1 hx).1, hr⟩
  · exact .inr ⟨x, g2 x hx, hr⟩
theorem edge_grant (l : Locks) (k : Nat) (hk : k < l.Queue.length) (hf : freeI l k = true) (a b : Int) (h : EdgeL (grantM l k) a b) : EdgeL l a b := by
  obtain ⟨i, c, h1, h2, h3⟩ := h
  rw [freeI_at hk] at hf
  have hb : blockM l l.Queue[k].Txn l.Queue[k].W k = [] := by simpa using hf
  have hcl := claim_at hk
  rw [blockS_mem] at h3
  unfold grantM at h1 h3
  simp only at h1 h3
  have hlt : (l.Queue.take k).length = k := by rw [List.length_take]; omega
  by_cases hik : i < k
  · have e1 : l.Queue[i]? = some c := by
      rw [List.getElem?_append_left (by omega), List.getElem?_take, if_pos hik] at h1
      exact h1
    refine ⟨i, c, e1, h2, (blockS_mem ..).2 ?_⟩
    rcases h3 with ⟨x, hx, r1, r2, r3⟩ | ⟨x, hx, hr⟩
    · rcases List.mem_append.1 hx with hx | hx
      · exact .inl ⟨x, hx, r1, r2, r3⟩
      · exfalso
        rw [hcl] at hx
        simp only [List.mem_singleton] at hx
        subst hx
        simp only at r1 r3
        have : c.Txn ∈ blockM l l.Queue[k].Txn l.Queue[k].W k := by
          rw [blockS_mem]
          refine .inr ⟨c, ?_, rfl, fun e => r2 (by rw [← r1, ← e, h2]), by rw [clash_comm]; exact r3⟩
          rw [List.mem_take_iff_getElem]
          exact ⟨i, by omega, (List.getElem?_eq_some_iff.1 e1).2⟩
        rw [hb] at this; cases this
    · rw [List.take_append_of_le_length (by omega), List.take_take] at hx
      rw [show min i k = i by omega] at hx
      exact .inr ⟨x, hx, hr⟩
  · have e1 : l.Queue[i + 1]? = some c := by
      rw [List.getElem?_append_right (by omega), List.getElem?_drop, hlt] at h1
      rw [show k + 1 + (i - k) = i + 1 by omega] at h1
      exact h1
    refine ⟨i + 1, c, e1, h2, (blockS_mem ..).2 ?_⟩
    rcases h3 with ⟨x, hx, r1, r2, r3⟩ | ⟨x, hx, hr⟩
    · rcases List.mem_append.1 hx with hx | hx
      · exact .inl ⟨x, hx, r1, r2, r3⟩
      · rw [hcl] at hx
        simp only [List.mem_singleton] at hx
        subst hx
        refine .inr ⟨l.Queue[k], ?_, r1, r2, r3⟩
        rw [List.mem_take_iff_getElem]
        exact ⟨k, by omega, rfl⟩
    · refine .inr ⟨x, ?_, hr⟩
      rw [List.take_append, hlt] at hx
      rcases List.mem_append.1 hx with hx | hx
      · rw [List.take_take] at hx
        exact (List.take_sublist_take_left (by omega)).subset hx
      · obtain ⟨n, hn, rfl⟩ := List.mem_take_iff_getElem.1 hx
        rw [List.length_drop] at hn
        rw [List.mem_take_iff_getElem]
        exact ⟨k + 1 + n, by omega, by rw [List.getElem_drop]⟩
theorem edge_settle (n : Nat) : ∀ (l : Locks) (out : List Int) (a b : Int), EdgeL (settleF n l out).1 a b → EdgeL l a b := by
  induction n with
  | zero => intro l out a b h; exact h
  | succ n ih =>
    intro l out a b h
    unfold settleF at h
    cases hf : (List.range l.Queue.length).find? (freeI l) with
    | none => rw [hf] at h; exact h
    | some k =>
      rw [hf] at h
      have hk : k < l.Queue.length := by have := List.mem_of_find?_eq_some hf; simpa using this
      exact edge_grant l k hk (List.find?_some hf) a b (ih _ _ a b h)
theorem edge_free (l : Locks) (v a b : Int) (h : EdgeL (freeM l v).1 a b) : EdgeL l a b := edge_less l v a b (edge_settle _ _ _ a b h)
theorem free_gone {l : Locks} {v x : Int} : ¬ RchL (freeM l v).1 v x := by
  intro h
  obtain ⟨c, hc, hc2⟩ := rch_from h
  obtain ⟨g, e1, e2, e3, e4⟩ := settle_parts ((lessL l v).Queue.length + 1) (lessL l v) []
  have := (List.mem_filter.1 (e4.subset hc)).2
  simp [hc2] at this
theorem free_ok {l : Locks} (hl : LOk l) (hs : LSm l) (v : Int) : LOk (freeM l v).1 ∧ LSm (freeM l v).1 ∧ (freeM l v).1.Held.length + (freeM l v).1.Queue.length ≤ l.Held.length + l.Queue.length := by
  obtain ⟨k1, k2, k3⟩ := less_ok2 hl v
  have s1 := hs.1
  have s2 := hs.2
  have hlen : ∀ n (l : Locks) out, (settleF n l out).1.Held.length + (settleF n l out).1.Queue.length = l.Held.length + l.Queue.length ∧ (settleF n l out).1.Queue.length ≤ l.Queue.length := by
    intro n
    induction n with
    | zero => intro l out; exact ⟨rfl, Nat.le_refl _⟩
    | succ n ih =>
      intro l out
      unfold settleF
      cases hf : (List.range l.Queue.length).find? (freeI l) with
      | none => exact ⟨rfl, Nat.le_refl _⟩
      | some k =>
        have hk : k < l.Queue.length := by have := List.mem_of_find?_eq_some hf; simpa using this
        simp only
        obtain ⟨h1, h2⟩ := ih (grantM l k) (out ++ [(claimAt l k).Txn])
        have e1 : (grantM l k).Held.length = l.Held.length + 1 := by unfold grantM; simp
        have e2 : (grantM l k).Queue.length + 1 = l.Queue.length := by
          unfold grantM
          simp only [List.length_append, List.length_take, List.length_drop]; omega
        exact ⟨by omega, by omega⟩
  have h := hlen ((lessL l v).Queue.length + 1) (lessL l v) []
  have h1 : (freeM l v).1.Held.length + (freeM l v).1.Queue.length = (lessL l v).Held.length + (lessL l v).Queue.length := h.1
  have h2 : (freeM l v).1.Queue.length ≤ (lessL l v).Queue.length := h.2
  have hmul : (freeM l v).1.Queue.length * ((freeM l v).1.Held.length + (freeM l v).1.Queue.length) ≤ l.Queue.length * (l.Held.length + l.Queue.length) := Nat.mul_le_mul (by omega) (by omega)
  exact ⟨settleF_ok _ _ _ k1 (by omega), ⟨by omega, by omega⟩, by omega⟩
/-- Behind the freeing of one of a ring, the ring has fewer. -/
theorem ring_less {l : Locks} {v t : Int} (hv : v ∈ ringM l t) : (ringM (freeM l v).1 t).length < (ringM l t).length := by
  have hsub : ∀ x ∈ ringM (freeM l v).1 t, x ∈ ringM l t := fun x hx => by
    obtain ⟨h1, h2⟩ := (ringM_mem _ _ _).1 hx
    exact (ringM_mem _ _ _).2 ⟨rch_mono (edge_free l v) h1, rch_mono (edge_free l v) h2⟩
  have hnv : v ∉ ringM (freeM l v).1 t := fun hx => free_gone ((ringM_mem _ _ _).1 hx).2
  have := nodup_len (a := v :: ringM (freeM l v).1 t) (u := ringM l t) (List.nodup_cons.2 ⟨hnv, srt_nodup (setM_srt _ _)⟩) (fun x hx => by
    rcases List.mem_cons.1 hx with rfl | hx
    · exact hv
    · exact hsub x hx)
  simp only [List.length_cons] at this
  omega
theorem ring_sub {l : Locks} {v t x : Int} (hx : x ∈ ringM (freeM l v).1 t) : x ∈ ringM l t := by
  obtain ⟨h1, h2⟩ := (ringM_mem _ _ _).1 hx
  exact (ringM_mem _ _ _).2 ⟨rch_mono (edge_free l v) h1, rch_mono (edge_free l v) h2⟩
end Go.Ab
