/- Rising rows; which of them once (plain). -/
import Derived.Test.YtdoceelfokmhfaaPLk16
namespace Go.Ab
set_option linter.unusedVariables false
set_option linter.unusedSimpArgs false

theorem inv_loop {α σ ρ τ : Type} (l : List α) (st : Nat → σ → τ) (step : τ → Option (τ ⊕ ρ)) (fin : σ → ρ) (P : Nat → σ → Prop)
    (hstep : ∀ k x s, l[k]? = some x → P k s → ∃ s', step (st k s) = some (.inl (st (k + 1) s')) ∧ P (k + 1) s')
    (hend : ∀ s, P l.length s → step (st l.length s) = some (.inr (fin s))) (s : σ) (h0 : P 0 s) :
    ∃ s', loop step (st 0 s) = some (fin s') ∧ P l.length s' := by
  have key : ∀ (m k : Nat) (s : σ), k + m = l.length → P k s → ∃ s', loop step (st k s) = some (fin s') ∧ P l.length s' := by
    intro m
    induction m with
    | zero =>
      intro k s hk hi
      have : k = l.length := by omega
      subst this
      exact ⟨s, loop_inr (hend s hi), hi⟩
    | succ m ih =>
      intro k s hk hi
      have hlt : k < l.length := by omega
      obtain ⟨s', h1, h2⟩ := hstep k _ s (List.getElem?_eq_getElem hlt) hi
      rw [loop_inl h1]
      exact ih (k + 1) s' (by omega) h2
  exact key l.length 0 s (by omega) h0
theorem srt_ext {a b : List Int} (ha : Srt a) (hb : Srt b) (h : ∀ x, x ∈ a ↔ x ∈ b) : a = b := by
  have h1 := srt_unique ha (srt_nodup hb) h
  have h2 := srt_unique hb (srt_nodup hb) (fun _ => Iff.rfl)
  rw [h1, ← h2]
theorem nodup_len {a : List Int} : ∀ {u : List Int}, a.Nodup → (∀ x ∈ a, x ∈ u) → a.length ≤ u.length := by
  induction a with
  | nil => intro u _ _; exact Nat.zero_le _
  | cons y r ih =>
    intro u h1 h2
    have h3 := List.nodup_cons.1 h1
    have hy := h2 y (List.mem_cons_self ..)
    have := ih (u := u.erase y) h3.2 (fun x hx => by
      have hne : x ≠ y := fun e => h3.1 (e ▸ hx)
      exact (List.mem_erase_of_ne hne).2 (h2 x (List.mem_cons_of_mem _ hx)))
    rw [List.length_erase_of_mem hy] at this
    have := List.length_pos_of_mem hy
    simp only [List.length_cons]; omega
theorem mem_take_succ {α : Type} {l : List α} {k : Nat} {y : α} (h : l[k]? = some y) (x : α) : x ∈ l.take (k + 1) ↔ x ∈ l.take k ∨ x = y := by
  have hlt := (List.getElem?_eq_some_iff.1 h).1
  rw [List.take_succ_eq_append_getElem hlt, (List.getElem?_eq_some_iff.1 h).2]
  simp
theorem srt_add {a : List Int} {y : Int} (h : Srt a) (hy : ∀ x ∈ a, x < y) : Srt (a ++ [y]) := by
  unfold Srt
  rw [List.pairwise_append]
  exact ⟨h, by simp, fun x hx z hz => by simp at hz; subst hz; exact hy x hx⟩
theorem le_at {l : List Int} (hs : l.Pairwise (fun a b => a ≤ b)) {i j : Nat} (hj : j < l.length) (hij : i ≤ j) : l[i]'(by omega) ≤ l[j] := by
  rcases Nat.lt_or_eq_of_le hij with h | h
  · exact List.pairwise_iff_getElem.1 hs i j (by omega) hj h
  · subst h; exact Int.le_refl _
theorem le_of_take {l : List Int} (hs : l.Pairwise (fun a b => a ≤ b)) {j : Nat} (hj : j < l.length) {x : Int} (hx : x ∈ l.take (j + 1)) : x ≤ l[j] := by
  obtain ⟨i, hi, rfl⟩ := List.mem_iff_getElem.1 hx
  rw [List.length_take] at hi
  rw [List.getElem_take]
  exact le_at hs hj (by omega)
theorem compact_in {l : List Int} (hl : l.length ≤ 1073741824) (hs : l.Pairwise (fun a b => a ≤ b)) (k : Nat) (hk : 1 ≤ k) : ∀ (m j i : Nat) (a : List Int), k + j + m = l.length → 1 ≤ j → i + 1 ≤ k + j → a.length = l.length → a.drop (k + j - 1) = l.drop (k + j - 1) →
    Srt (a.take i) → (∀ x, x ∈ a.take i ↔ x ∈ l.take (k + j)) → ∃ (i2 : Nat) (a2 : List Int), loop (fun (s13054 : Int × Int × (List Int)) => slices_Compact_int_l52 l (k : Int) s13054.1 s13054.2.1 s13054.2.2) ((i : Int), (j : Int), a) = some ((i2 : Int), a2) ∧ a2.length = l.length ∧ i2 ≤ l.length ∧ Srt (a2.take i2) ∧ ∀ x, x ∈ a2.take i2 ↔ x ∈ l := by
  have hn : ((((List.map (encI .i64) l).length : Nat) : Int).toNat) - ((k : Int).toNat) = l.length - k := by simp
  intro m
  induction m with
  | zero =>
    intro j i a hj h1 hi ha hd hst hm
    refine ⟨i, a, loop_inr ?_, ha, by omega, hst, fun x => ?_⟩
    · simp only
      unfold slices_Compact_int_l52
      rw [hn, if_neg (by simp; omega)]
    · rw [hm, show k + j = l.length by omega, List.take_length]
  | succ m ih =>
    intro j i a hj h1 hi ha hd hst hm
    have hlt : k + j < l.length := by omega
    have a1 : a[k + j]? = some l[k + j] := by
      have h := congrArg (fun x => x[1]?) hd
      simp only [List.getElem?_drop] at h
      rw [show k + j - 1 + 1 = k + j by omega] at h
      rw [h, List.getElem?_eq_getElem hlt]
    have a0 : a[k + j - 1]? = some (l[k + j - 1]'(by omega)) := by
      have h := congrArg (fun x => x[0]?) hd
      simp only [List.getElem?_drop, Nat.add_zero] at h
      rw [h, List.getElem?_eq_getElem (by omega)]
    have e1 : IntKind.i64.wrap ((j : Int) - 1) = ((j - 1 : Nat) : Int) := by rw [IntWalk.i64_in _ ⟨by omega, by omega⟩]; omega
    have hd2 : a.drop (k + (j + 1) - 1) = l.drop (k + (j + 1) - 1) := by
      have := congrArg (List.drop 1) hd
      rw [List.drop_drop, List.drop_drop] at this
      rw [show k + (j + 1) - 1 = k + j - 1 + 1 by omega]; exact this
    have hle : l[k + j - 1]'(by omega) ≤ l[k + j] := le_at hs hlt (by omega)
    by_cases he : l[k + j] = l[k + j - 1]'(by omega)
    · rw [loop_inl (s' := ((i : Int), ((j + 1 : Nat) : Int), a))]
      · refine ih (j + 1) i a (by omega) (by omega) (by omega) ha hd2 hst (fun x => ?_)
        rw [hm, ← Nat.add_assoc, mem_take_succ (List.getElem?_eq_getElem hlt)]
        refine ⟨.inl, fun h => h.elim id (fun h => ?_)⟩
        rw [h, he]
        exact List.mem_iff_getElem.2 ⟨k + j - 1, by rw [List.length_take]; omega, by rw [List.getElem_take]⟩
      · simp only
        unfold slices_Compact_int_l52
        rw [hn, e1, if_pos (by simp; omega), need_pos (by omega), need_pos (by omega), Int.toNat_natCast, Int.toNat_natCast, Int.toNat_natCast, ix_in (show k + j < a.length by omega), (List.getElem?_eq_some_iff.1 a1).2]
        simp only [Option.bind_some]
        rw [show k + (j - 1) = k + j - 1 by omega, ix_in (show k + j - 1 < a.length by omega), (List.getElem?_eq_some_iff.1 a0).2]
        simp only [Option.bind_some]
        rw [if_neg (by simpa using he), IntWalk.i64_in _ ⟨by omega, by omega⟩]
        rfl
    · rw [loop_inl (s' := (((i + 1 : Nat) : Int), ((j + 1 : Nat) : Int), a.set i l[k + j]))]
      · have ht : (a.set i l[k + j]).take (i + 1) = a.take i ++ [l[k + j]] := by
          rw [List.take_succ_eq_append_getElem (by rw [List.length_set]; omega)]
          simp
          apply List.ext_getElem?
          intro n
          rw [List.getElem?_take, List.getElem?_take]
          split
          · rw [List.getElem?_set_ne (by omega)]
          · rfl
        refine ih (j + 1) (i + 1) (a.set i l[k + j]) (by omega) (by omega) (by omega) (by rw [List.length_set]; exact ha) ?_ ?_ (fun x => ?_)
        · rw [List.drop_set_of_lt (by omega)]; exact hd2
        · rw [ht]
          refine srt_add hst (fun x hx => ?_)
          have := le_of_take (j := k + j - 1) hs (by omega) (by rw [show k + j - 1 + 1 = k + j by omega]; exact (hm x).1 hx)
          omega
        · rw [ht, ← Nat.add_assoc, mem_take_succ (List.getElem?_eq_getElem hlt), List.mem_append, hm]
          simp
      · simp only
        unfold slices_Compact_int_l52
        rw [hn, e1, if_pos (by simp; omega), need_pos (by omega), need_pos (by omega), Int.toNat_natCast, Int.toNat_natCast, Int.toNat_natCast, ix_in (show k + j < a.length by omega), (List.getElem?_eq_some_iff.1 a1).2]
        simp only [Option.bind_some]
        rw [show k + (j - 1) = k + j - 1 by omega, ix_in (show k + j - 1 < a.length by omega), (List.getElem?_eq_some_iff.1 a0).2]
        simp only [Option.bind_some]
        rw [if_pos (by simpa using he), ix_in (show i < a.length by omega)]
        simp only [Option.bind_some]
        rw [IntWalk.i64_in _ ⟨by omega, by omega⟩, IntWalk.i64_in _ ⟨by omega, by omega⟩, Int.toNat_natCast]
        rfl
theorem compact_eq {l : List Int} (hl : l.length ≤ 1073741824) (hs : l.Pairwise (fun a b => a ≤ b)) : ∃ r, slices_Compact_int l = some r ∧ Srt r ∧ ∀ x, x ∈ r ↔ x ∈ l := by
  unfold slices_Compact_int
  by_cases h2 : l.length < 2
  · rw [if_pos (by simp; omega)]
    refine ⟨l, rfl, ?_, fun x => Iff.rfl⟩
    match l, h2 with
    | [], _ => exact List.Pairwise.nil
    | [x], _ => exact by simp [Srt]
  rw [if_neg (by simp; omega)]
  have key : ∀ (m k : Nat), k + m = l.length → 1 ≤ k → Srt (l.take k) → ∃ o, loop (fun (s12053 : Int) => slices_Compact_int_l48 l s12053) (k : Int) = some o ∧ (match o with | .inl r => Srt r ∧ ∀ x, x ∈ r ↔ x ∈ l | .inr _ => Srt l) := by
    intro m
    induction m with
    | zero =>
      intro k hk h1 hst
      have : k = l.length := by omega
      subst this
      rw [List.take_length] at hst
      refine ⟨.inr (), loop_inr ?_, hst⟩
      unfold slices_Compact_int_l48
      rw [if_neg (by simp)]
    | succ m ih =>
      intro k hk h1 hst
      have hlt : k < l.length := by omega
      have e1 : IntKind.i64.wrap ((k : Int) - 1) = ((k - 1 : Nat) : Int) := by rw [IntWalk.i64_in _ ⟨by omega, by omega⟩]; omega
      have hle : l[k - 1]'(by omega) ≤ l[k] := le_at hs hlt (by omega)
      by_cases he : l[k] = l[k - 1]'(by omega)
      · obtain ⟨i2, a2, c1, c2, c3, c4, c5⟩ := compact_in hl hs k h1 (l.length - (k + 1)) 1 k l (by omega) (by omega) (by omega) rfl rfl hst (fun x => by
          rw [mem_take_succ (List.getElem?_eq_getElem hlt)]
          refine ⟨.inl, fun h => h.elim id (fun h => ?_)⟩
          rw [h, he]
          exact List.mem_iff_getElem.2 ⟨k - 1, by rw [List.length_take]; omega, by rw [List.getElem_take]⟩)
        refine ⟨.inl (a2.take i2), loop_inr ?_, c4, c5⟩
        unfold slices_Compact_int_l48
        rw [if_pos (by simpa using hlt), ix_in hlt]
        simp only [Option.bind_some]
        rw [e1, ix_in (show k - 1 < l.length by omega)]
        simp only [Option.bind_some]
        rw [if_pos (by simpa using he), need_pos (by omega), need_pos (by omega)]
        have c1' : loop (fun (s13054 : Int × Int × (List Int)) => slices_Compact_int_l52 l (k : Int) s13054.1 s13054.2.1 s13054.2.2) ((k : Int), (1 : Int), l) = some ((i2 : Int), a2) := c1
        rw [c1']
        simp only [Option.bind_some]
        have hn : (((List.map (encI .i64) a2).length : Nat) : Int).toNat = a2.length := by simp
        rw [need_pos (by omega), need_pos (by omega), need_pos (by simp only [List.length_append, List.length_take, List.length_drop, List.length_replicate, hn]; omega), need_pos (by simp only [List.length_append, List.length_take, List.length_drop, List.length_replicate, hn, Int.toNat_natCast]; omega)]
        rw [Int.toNat_natCast]
        exact congrArg (fun x => some (Sum.inr (Sum.inl x))) (del_end a2 _ _ i2 (by omega))
      · obtain ⟨o, o1, o2⟩ := ih (k + 1) (by omega) (by omega) (by
          rw [List.take_succ_eq_append_getElem hlt]
          refine srt_add hst (fun x hx => ?_)
          have := le_of_take (j := k - 1) hs (by omega) (by rw [show k - 1 + 1 = k by omega]; exact hx)
          omega)
        refine ⟨o, ?_, o2⟩
        rw [loop_inl (s' := ((k + 1 : Nat) : Int))]
        · exact o1
        · unfold slices_Compact_int_l48
          rw [if_pos (by simpa using hlt), ix_in hlt]
          simp only [Option.bind_some]
          rw [e1, ix_in (show k - 1 < l.length by omega)]
          simp only [Option.bind_some]
          rw [if_neg (by simpa using he), IntWalk.i64_in _ ⟨by omega, by omega⟩]
          rfl
  obtain ⟨o, o1, o2⟩ := key (l.length - 1) 1 (by omega) (by omega) (by
    cases l with
    | nil => simp [Srt]
    | cons x r => simp [Srt])
  have o1' : loop (fun (s12053 : Int) => slices_Compact_int_l48 l s12053) (1 : Int) = some o := o1
  rw [o1']
  cases o with
  | inl r => exact ⟨r, rfl, o2.1, o2.2⟩
  | inr u => exact ⟨l, rfl, o2, fun x => Iff.rfl⟩
end Go.Ab
