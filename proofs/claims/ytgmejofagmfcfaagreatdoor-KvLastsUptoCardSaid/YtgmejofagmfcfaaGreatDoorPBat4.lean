/- Batches' bytes by the document; states as pairs and back, both (plain). -/
import Derived.Test.YtgmejofagmfcfaaGreatDoorPBat3
namespace Go.Ab
set_option linter.unusedVariables false
set_option linter.unusedSimpArgs false

/-! ### States as pairs -/
structure SK (s : State) : Prop where
  ok : SOk s
  d : KeysOk s.Data
  t : KeysOk s.Toks
theorem push_fold {α β : Type} (g : α → β) (l : List α) : ∀ a : List β, l.foldl (fun a x => a ++ [g x]) a = a ++ l.map g := by
  induction l with
  | nil => intro a; simp
  | cons x r ih => intro a; rw [List.foldl_cons, ih]; simp
theorem pairsS_eq {s : State} (h : SK s) : batch_Pairs s = some (pairsM s) := by
  have hd := h.ok.d
  have ht := h.ok.t
  unfold batch_Pairs pairsM
  have l1 := fold_loop (ρ := List Pair) s.Data (fun k (a : List Pair) => ((k : Int), a)) (fun (s59 : Int × (List Pair)) => batch_Pairs_l2 s s59.1 s59.2) (fun a x => a ++ [(⟨100 :: x.Key, x.Val⟩ : Pair)]) (fun a => a) (fun k a => a.length ≤ k)
    (fun k x a hk hi => by
      have hlt := (List.getElem?_eq_some_iff.1 hk).1
      have hkx := h.d x (List.mem_of_getElem? hk)
      refine ⟨?_, by simp only [List.length_append, List.length_cons, List.length_nil]; omega⟩
      simp only
      unfold batch_Pairs_l2
      rw [if_pos (by simpa using hlt), ix_in hlt, (List.getElem?_eq_some_iff.1 hk).2, IntWalk.i64_in _ ⟨by omega, by omega⟩]
      simp only [Option.bind_some]
      rw [need_pos (by simp only [List.length_cons, List.length_nil]; omega), need_pos (by omega)]
      rfl)
    (fun a hi => by simp only; unfold batch_Pairs_l2; rw [if_neg (by simp)]) [] (by simp)
  have l2 := fold_loop (ρ := List Pair) s.Toks (fun k (a : List Pair) => ((k : Int), a)) (fun (s115 : Int × (List Pair)) => batch_Pairs_l4 s s115.1 s115.2) (fun a x => a ++ [(⟨116 :: x.Key, x.Val⟩ : Pair)]) (fun a => a) (fun k a => a.length ≤ 1500000000000 + k)
    (fun k x a hk hi => by
      have hlt := (List.getElem?_eq_some_iff.1 hk).1
      have hkx := h.t x (List.mem_of_getElem? hk)
      refine ⟨?_, by simp only [List.length_append, List.length_cons, List.length_nil]; omega⟩
      simp only
      unfold batch_Pairs_l4
      rw [if_pos (by simpa using hlt), ix_in hlt, (List.getElem?_eq_some_iff.1 hk).2, IntWalk.i64_in _ ⟨by omega, by omega⟩]
      simp only [Option.bind_some]
      rw [need_pos (by simp only [List.length_cons, List.length_nil]; omega), need_pos (by omega)]
      rfl)
    (fun a hi => by simp only; unfold batch_Pairs_l4; rw [if_neg (by simp)]) (s.Data.map (fun p => (⟨100 :: p.Key, p.Val⟩ : Pair))) (by rw [List.length_map]; omega)
  have e1 := l1.1
  have e2 := l2.1
  simp only [Int.natCast_zero, Int.ofNat_eq_natCast] at e1 e2
  rw [e1, push_fold, List.nil_append]
  simp only [Option.bind_some]
  rw [e2, push_fold]; rfl
def cutP (s : Str) (c : UInt8) : Str × Bool := match s with | [] => ([], false) | d :: r => if d = c then (r, true) else (d :: r, false)
theorem cutPrefix_eq {s : Str} (hs : s.length ≤ 1099511627776) (c : UInt8) : strings_CutPrefix s [c] = some (cutP s c) := by
  unfold strings_CutPrefix internal_stringslite_CutPrefix internal_stringslite_HasPrefix
  have h1 : (([c] : Str).length : Int) = 1 := rfl
  rw [h1]
  cases s with
  | nil => rw [if_neg (by simp)]; rfl
  | cons d r =>
    have hl : (((d :: r : Str).length : Nat) : Int) = (r.length : Int) + 1 := by simp
    rw [if_pos (by rw [hl]; simp; omega), need_pos (by rw [hl]; omega), cut_head]
    simp only [Option.bind_some]
    by_cases h : d = c
    · rw [if_neg (by simp [h]), need_pos (by rw [hl]; omega), cut_tail (by omega) (by rw [hl]; omega)]
      simp [cutP, h]
    · rw [if_pos (by simp [h])]
      simp [cutP, h]
theorem back_loop {l : List Pair} (hl : l.length ≤ 2000000000000) (hk : KeysOk l) : ∀ (m k : Nat) (d t : List Pair), k + m = l.length → d.length + t.length ≤ k →
    loop (fun (s1007 : Int × (List Pair) × (List Pair)) => batch_Back_l2 l s1007.1 s1007.2.1 s1007.2.2) ((k : Int), d, t) = some (match backF (l.drop k) ⟨d, t⟩ with | none => .inl () | some s => .inr (s.Data, s.Toks)) := by
  intro m
  induction m with
  | zero =>
    intro k d t hm hd
    have : k = l.length := by omega
    subst this
    rw [List.drop_length]
    refine loop_inr ?_
    simp only
    unfold batch_Back_l2
    rw [if_neg (by simp)]; rfl
  | succ m ih =>
    intro k d t hm hd
    have hlt : k < l.length := by omega
    have hdr : l.drop k = l[k] :: l.drop (k + 1) := List.drop_eq_getElem_cons hlt
    have hkx := hk l[k] (List.getElem_mem hlt)
    rw [hdr]
    unfold backF backS
    have hs : batch_Back_l2 l (k : Int) d t = (match backS ⟨d, t⟩ l[k] with | none => some (.inr (.inl ())) | some s => some (.inl (((k + 1 : Nat) : Int), s.Data, s.Toks))) := by
      unfold batch_Back_l2 backS
      rw [if_pos (by simpa using hlt), ix_in hlt, IntWalk.i64_in _ ⟨by omega, by omega⟩]
      simp only [Option.bind_some]
      rw [cutPrefix_eq hkx, cutPrefix_eq hkx]
      simp only [Option.bind_some]
      have n1 : (d.length + 1) * 32 ≤ 140737488355328 := by omega
      have n2 : (t.length + 1) * 32 ≤ 140737488355328 := by omega
      cases hK : l[k].Key with
      | nil => simp [cutP]
      | cons c r =>
        by_cases h1 : c = 100
        · subst h1
          cases t with
          | nil => simp [cutP, need_pos n1]
          | cons p q =>
            have hne : ¬ ((q.length : Int) + 1 = 0) := by omega
            simp [cutP, hne]
        · by_cases h2 : c = 116
          · subst h2
            by_cases v1 : l[k].Val = [99]
            · simp [cutP, v1, need_pos n2]
            · by_cases v2 : l[k].Val = [103]
              · simp [cutP, v2, need_pos n2]
              · simp [cutP, v1, v2]
          · simp [cutP, h1, h2]
    have hb := hs
    unfold backS at hb
    cases hq : backS ⟨d, t⟩ l[k] with
    | none =>
      rw [hq] at hs
      have hq2 := hq
      unfold backS at hq2
      rw [loop_inr (by simpa using hs), hq2]
    | some s2 =>
      rw [hq] at hs
      have hlen : s2.Data.length + s2.Toks.length ≤ k + 1 := by
        unfold backS at hq
        split at hq
        · cases hq
        · split at hq
          · cases hq; simp only [List.length_append, List.length_cons, List.length_nil]; omega
          · split at hq
            · cases hq; simp only [List.length_append, List.length_cons, List.length_nil]; omega
            · cases hq
      have hq2 := hq
      unfold backS at hq2
      rw [loop_inl (by simpa using hs), hq2]
      exact ih (k + 1) s2.Data s2.Toks (by omega) hlen
theorem backB_eq {l : List Pair} (hl : l.length ≤ 2000000000000) (hk : KeysOk l) : batch_Back l = some (backM l) := by
  unfold batch_Back backM
  have h := back_loop hl hk l.length 0 [] [] (by omega) (by simp)
  simp only [Int.natCast_zero, Int.ofNat_eq_natCast, List.drop_zero] at h
  rw [h]
  simp only [Option.bind_some]
  rw [show (⟨[], []⟩ : State) = noState from rfl]
  cases backF l noState <;> rfl
end Go.Ab
