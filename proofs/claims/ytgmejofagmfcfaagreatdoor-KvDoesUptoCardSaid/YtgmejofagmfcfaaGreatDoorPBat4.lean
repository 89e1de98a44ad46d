/- Batches' bytes by the document; states as pairs and back, both (plain). -/
import Derived.Test.YtgmejofagmfcfaaGreatDoorPBat3
namespace Go.Ab
set_option linter.unusedVariables false
set_option linter.unusedSimpArgs false

theorem rbbytes_eq {b : Batch} (hb : BOk b) : ref07_Bytes b = some (bytesB b) := by
  unfold ref07_Bytes bytesB
  rw [rbmay_eq hb]
  simp only [Option.bind_some]
  cases hm : mayB b with
  | false => rfl
  | true =>
    obtain ⟨⟨hk, h1, h2, h3, h4⟩, hr, hg⟩ := (mayB_iff b).1 hm
    have hg := List.all_eq_true.1 hg
    simp only [Bool.not_true, Bool.false_eq_true, if_false]
    have ek : IntKind.u64.wrap b.Kind = ((b.Kind.toNat : Nat) : Int) := by rw [u64_in (by omega) (by omega)]; omega
    have ew : IntKind.u64.wrap (b.Writes.length : Int) = ((b.Writes.length : Nat) : Int) := u64_in (by omega) (by omega)
    have hl := headB_len hm
    unfold headB at hl
    simp only [List.length_append] at hl
    rw [ek, ew, rnum_eq (by omega), rtext_eq (by omega), rnum_eq (by omega)]
    simp only [Option.bind_some]
    rw [need_pos (by omega), need_pos (by simp only [List.length_append]; omega)]
    have h := fold_loop (ρ := Str) b.Writes (fun k (a : Str) => (a, (k : Int))) (fun (s387 : Str × Int) => ref07_Bytes_l2 b s387.1 s387.2) (fun a w => a ++ wBytes w) (fun a => a) (fun k a => a.length ≤ 100 + 200 * k ∧ 0 < a.length)
      (fun k x a hk hi => by
        have hlt := (List.getElem?_eq_some_iff.1 hk).1
        have hgx := hg x (List.mem_of_getElem? hk)
        have hwl := wBytes_len hgx
        refine ⟨?_, by simp only [List.length_append]; omega⟩
        have hgx2 := hgx
        unfold goodW at hgx2
        simp only [Bool.and_eq_true, decide_eq_true_eq] at hgx2
        obtain ⟨⟨⟨g1, g2⟩, g3⟩, g4⟩ := hgx2
        have hdl : (delN x).length = 2 := by unfold delN; split <;> rfl
        have kl := textM_le (t := x.Key) (k := 32) g2 (by omega)
        have vl := textM_le (t := x.Val) (k := 64) g3 (by omega)
        have hwe : ((a ++ delN x) ++ textM x.Key) ++ textM x.Val = a ++ wBytes x := by unfold wBytes; simp
        have hn1 : (a ++ delN x).length + (textM x.Key).length ≤ 9223372036854775807 := by simp only [List.length_append]; omega
        have hn2 : ((a ++ delN x) ++ textM x.Key).length + (textM x.Val).length ≤ 9223372036854775807 := by simp only [List.length_append]; omega
        have h49 : a.length + ([49, 59] : Str).length ≤ 9223372036854775807 := by simp only [List.length_cons, List.length_nil]; omega
        have h48 : a.length + ([48, 59] : Str).length ≤ 9223372036854775807 := by simp only [List.length_cons, List.length_nil]; omega
        have hix : ix b.Writes (k : Int) = some x := by rw [ix_in hlt, (List.getElem?_eq_some_iff.1 hk).2]
        have hd : (if x.Del = true then need (a.length + ([49, 59] : Str).length ≤ 9223372036854775807) (some (a ++ [49, 59])) else need (a.length + ([48, 59] : Str).length ≤ 9223372036854775807) (some (a ++ [48, 59]))) = some (a ++ delN x) := by
          unfold delN
          cases x.Del with
          | true => simp only [if_true]; rw [need_pos h49]
          | false => simp only [Bool.false_eq_true, if_false]; rw [need_pos h48]
        simp only
        unfold ref07_Bytes_l2
        rw [if_pos (by simpa using hlt), hix, IntWalk.i64_in _ ⟨by omega, by omega⟩]
        simp only [Option.bind_some]
        rw [hd]
        simp only [Option.bind_some]
        rw [rtext_eq (by omega)]
        simp only [Option.bind_some]
        rw [need_pos hn1, rtext_eq (by omega)]
        simp only [Option.bind_some]
        rw [need_pos hn2, hwe]
        rfl)
      (fun a hi => by simp only; unfold ref07_Bytes_l2; rw [if_neg (by simp)]) ((numS b.Kind.toNat ++ textM b.Token) ++ numS b.Writes.length) (by simp only [List.length_append]; omega)
    obtain ⟨e1, e2, e3⟩ := h
    simp only [Int.natCast_zero, Int.ofNat_eq_natCast] at e1
    rw [e1]
    simp only [Option.bind_some]
    rw [wsBytes_fold]
    unfold headB
    simp

/-! ### States as pairs -/
structure SK (s : State) : Prop where
  ok : SOk s
  d : KeysOk s.Data
  t : KeysOk s.Toks
theorem push_fold {α β : Type} (g : α → β) (l : List α) : ∀ a : List β, l.foldl (fun a x => a ++ [g x]) a = a ++ l.map g := by
  induction l with
  | nil => intro a; simp
  | cons x r ih => intro a; rw [List.foldl_cons, ih]; simp
theorem pairsS_eq {s : State} (h : SK s) : batch_Pairs s = some (pairsM s) := by
  have hd := h.ok.d
  have ht := h.ok.t
  unfold batch_Pairs pairsM
  have l1 := fold_loop (ρ := List Pair) s.Data (fun k (a : List Pair) => ((k : Int), a)) (fun (s59 : Int × (List Pair)) => batch_Pairs_l2 s s59.1 s59.2) (fun a x => a ++ [(⟨100 :: x.Key, x.Val⟩ : Pair)]) (fun a => a) (fun k a => a.length ≤ k)
    (fun k x a hk hi => by
      have hlt := (List.getElem?_eq_some_iff.1 hk).1
      have hkx := h.d x (List.mem_of_getElem? hk)
      refine ⟨?_, by simp only [List.length_append, List.length_cons, List.length_nil]; omega⟩
      simp only
      unfold batch_Pairs_l2
      rw [if_pos (by simpa using hlt), ix_in hlt, (List.getElem?_eq_some_iff.1 hk).2, IntWalk.i64_in _ ⟨by omega, by omega⟩]
      simp only [Option.bind_some]
      rw [need_pos (by simp only [List.length_cons, List.length_nil]; omega), need_pos (by omega)]
      rfl)
    (fun a hi => by simp only; unfold batch_Pairs_l2; rw [if_neg (by simp)]) [] (by simp)
  have l2 := fold_loop (ρ := List Pair) s.Toks (fun k (a : List Pair) => ((k : Int), a)) (fun (s115 : Int × (List Pair)) => batch_Pairs_l4 s s115.1 s115.2) (fun a x => a ++ [(⟨116 :: x.Key, x.Val⟩ : Pair)]) (fun a => a) (fun k a => a.length ≤ 1500000000000 + k)
    (fun k x a hk hi => by
      have hlt := (List.getElem?_eq_some_iff.1 hk).1
      have hkx := h.t x (List.mem_of_getElem? hk)
      refine ⟨?_, by simp only [List.length_append, List.length_cons, List.length_nil]; omega⟩
      simp only
      unfold batch_Pairs_l4
      rw [if_pos (by simpa using hlt), ix_in hlt, (List.getElem?_eq_some_iff.1 hk).2, IntWalk.i64_in _ ⟨by omega, by omega⟩]
      simp only [Option.bind_some]
      rw [need_pos (by simp only [List.length_cons, List.length_nil]; omega), need_pos (by omega)]
      rfl)
    (fun a hi => by simp only; unfold batch_Pairs_l4; rw [if_neg (by simp)]) (s.Data.map (fun p => (⟨100 :: p.Key, p.Val⟩ : Pair))) (by rw [List.length_map]; omega)
  have e1 := l1.1
  have e2 := l2.1
  simp only [Int.natCast_zero, Int.ofNat_eq_natCast] at e1 e2
  rw [e1, push_fold, List.nil_append]
  simp only [Option.bind_some]
  rw [e2, push_fold]; rfl
theorem rpairsS_eq {s : State} (h : SK s) : ref07_Pairs s = some (pairsM s) := by
  have hd := h.ok.d
  have ht := h.ok.t
  unfold ref07_Pairs pairsM
  have l1 := fold_loop (ρ := List Pair) s.Data (fun k (a : List Pair) => ((k : Int), a)) (fun (s59 : Int × (List Pair)) => ref07_Pairs_l2 s s59.1 s59.2) (fun a x => a ++ [(⟨100 :: x.Key, x.Val⟩ : Pair)]) (fun a => a) (fun k a => a.length ≤ k)
    (fun k x a hk hi => by
      have hlt := (List.getElem?_eq_some_iff.1 hk).1
      have hkx := h.d x (List.mem_of_getElem? hk)
      refine ⟨?_, by simp only [List.length_append, List.length_cons, List.length_nil]; omega⟩
      simp only
      unfold ref07_Pairs_l2
      rw [if_pos (by simpa using hlt), ix_in hlt, (List.getElem?_eq_some_iff.1 hk).2, IntWalk.i64_in _ ⟨by omega, by omega⟩]
      simp only [Option.bind_some]
      rw [need_pos (by simp only [List.length_cons, List.length_nil]; omega), need_pos (by omega)]
      rfl)
    (fun a hi => by simp only; unfold ref07_Pairs_l2; rw [if_neg (by simp)]) [] (by simp)
  have l2 := fold_loop (ρ := List Pair) s.Toks (fun k (a : List Pair) => ((k : Int), a)) (fun (s115 : Int × (List Pair)) => ref07_Pairs_l4 s s115.1 s115.2) (fun a x => a ++ [(⟨116 :: x.Key, x.Val⟩ : Pair)]) (fun a => a) (fun k a => a.length ≤ 1500000000000 + k)
    (fun k x a hk hi => by
      have hlt := (List.getElem?_eq_some_iff.1 hk).1
      have hkx := h.t x (List.mem_of_getElem? hk)
      refine ⟨?_, by simp only [List.length_append, List.length_cons, List.length_nil]; omega⟩
      simp only
      unfold ref07_Pairs_l4
      rw [if_pos (by simpa using hlt), ix_in hlt, (List.getElem?_eq_some_iff.1 hk).2, IntWalk.i64_in _ ⟨by omega, by omega⟩]
      simp only [Option.bind_some]
      rw [need_pos (by simp only [List.length_cons, List.length_nil]; omega), need_pos (by omega)]
      rfl)
    (fun a hi => by simp only; unfold ref07_Pairs_l4; rw [if_neg (by simp)]) (s.Data.map (fun p => (⟨100 :: p.Key, p.Val⟩ : Pair))) (by rw [List.length_map]; omega)
  have e1 := l1.1
  have e2 := l2.1
  simp only [Int.natCast_zero, Int.ofNat_eq_natCast] at e1 e2
  rw [e1, push_fold, List.nil_append]
  simp only [Option.bind_some]
  rw [e2, push_fold]; rfl
def cutP (s : Str) (c : UInt8) : Str × Bool := match s with | [] => ([], false) | d :: r => if d = c then (r, true) else (d :: r, false)
theorem cutPrefix_eq {s : Str} (hs : s.length ≤ 1099511627776) (c : UInt8) : strings_CutPrefix s [c] = some (cutP s c) := by
  unfold strings_CutPrefix internal_stringslite_CutPrefix internal_stringslite_HasPrefix
  have h1 : (([c] : Str).length : Int) = 1 := rfl
  rw [h1]
  cases s with
  | nil => rw [if_neg (by simp)]; rfl
  | cons d r =>
    have hl : (((d :: r : Str).length : Nat) : Int) = (r.length : Int) + 1 := by simp
    rw [if_pos (by rw [hl]; simp; omega), need_pos (by rw [hl]; omega), cut_head]
    simp only [Option.bind_some]
    by_cases h : d = c
    · rw [if_neg (by simp [h]), need_pos (by rw [hl]; omega), cut_tail (by omega) (by rw [hl]; omega)]
      simp [cutP, h]
    · rw [if_pos (by simp [h])]
      simp [cutP, h]
theorem back_loop {l : List Pair} (hl : l.length ≤ 2000000000000) (hk : KeysOk l) : ∀ (m k : Nat) (d t : List Pair), k + m = l.length → d.length + t.length ≤ k →
    loop (fun (s1007 : Int × (List Pair) × (List Pair)) => batch_Back_l2 l s1007.1 s1007.2.1 s1007.2.2) ((k : Int), d, t) = some (match backF (l.drop k) ⟨d, t⟩ with | none => .inl () | some s => .inr (s.Data, s.Toks)) := by
  intro m
  induction m with
  | zero =>
    intro k d t hm hd
    have : k = l.length := by omega
    subst this
    rw [List.drop_length]
    refine loop_inr ?_
    simp only
    unfold batch_Back_l2
    rw [if_neg (by simp)]; rfl
  | succ m ih =>
    intro k d t hm hd
    have hlt : k < l.length := by omega
    have hdr : l.drop k = l[k] :: l.drop (k + 1) := List.drop_eq_getElem_cons hlt
    have hkx := hk l[k] (List.getElem_mem hlt)
    rw [hdr]
    unfold backF backS
    have hs : batch_Back_l2 l (k : Int) d t = (match backS ⟨d, t⟩ l[k] with | none => some (.inr (.inl ())) | some s => some (.inl (((k + 1 : Nat) : Int), s.Data, s.Toks))) := by
      unfold batch_Back_l2 backS
      rw [if_pos (by simpa using hlt), ix_in hlt, IntWalk.i64_in _ ⟨by omega, by omega⟩]
      simp only [Option.bind_some]
      rw [cutPrefix_eq hkx, cutPrefix_eq hkx]
      simp only [Option.bind_some]
      have n1 : (d.length + 1) * 32 ≤ 140737488355328 := by omega
      have n2 : (t.length + 1) * 32 ≤ 140737488355328 := by omega
      cases hK : l[k].Key with
      | nil => simp [cutP]
      | cons c r =>
        by_cases h1 : c = 100
        · subst h1
          cases t with
          | nil => simp [cutP, need_pos n1]
          | cons p q =>
            have hne : ¬ ((q.length : Int) + 1 = 0) := by omega
            simp [cutP, hne]
        · by_cases h2 : c = 116
          · subst h2
            by_cases v1 : l[k].Val = [99]
            · simp [cutP, v1, need_pos n2]
            · by_cases v2 : l[k].Val = [103]
              · simp [cutP, v2, need_pos n2]
              · simp [cutP, v1, v2]
          · simp [cutP, h1, h2]
    have hb := hs
    unfold backS at hb
    cases hq : backS ⟨d, t⟩ l[k] with
    | none =>
      rw [hq] at hs
      have hq2 := hq
      unfold backS at hq2
      rw [loop_inr (by simpa using hs), hq2]
    | some s2 =>
      rw [hq] at hs
      have hlen : s2.Data.length + s2.Toks.length ≤ k + 1 := by
        unfold backS at hq
        split at hq
        · cases hq
        · split at hq
          · cases hq; simp only [List.length_append, List.length_cons, List.length_nil]; omega
          · split at hq
            · cases hq; simp only [List.length_append, List.length_cons, List.length_nil]; omega
            · cases hq
      have hq2 := hq
      unfold backS at hq2
      rw [loop_inl (by simpa using hs), hq2]
      exact ih (k + 1) s2.Data s2.Toks (by omega) hlen
theorem backB_eq {l : List Pair} (hl : l.length ≤ 2000000000000) (hk : KeysOk l) : batch_Back l = some (backM l) := by
  unfold batch_Back backM
  have h := back_loop hl hk l.length 0 [] [] (by omega) (by simp)
  simp only [Int.natCast_zero, Int.ofNat_eq_natCast, List.drop_zero] at h
  rw [h]
  simp only [Option.bind_some]
  rw [show (⟨[], []⟩ : State) = noState from rfl]
  cases backF l noState <;> rfl
theorem rback_loop {l : List Pair} (hl : l.length ≤ 2000000000000) (hk : KeysOk l) : ∀ (m k : Nat) (d t : List Pair), k + m = l.length → d.length + t.length ≤ k →
    loop (fun (s1007 : Int × (List Pair) × (List Pair)) => ref07_Back_l2 l s1007.1 s1007.2.1 s1007.2.2) ((k : Int), d, t) = some (match backF (l.drop k) ⟨d, t⟩ with | none => .inl () | some s => .inr (s.Data, s.Toks)) := by
  intro m
  induction m with
  | zero =>
    intro k d t hm hd
    have : k = l.length := by omega
    subst this
    rw [List.drop_length]
    refine loop_inr ?_
    simp only
    unfold ref07_Back_l2
    rw [if_neg (by simp)]; rfl
  | succ m ih =>
    intro k d t hm hd
    have hlt : k < l.length := by omega
    have hdr : l.drop k = l[k] :: l.drop (k + 1) := List.drop_eq_getElem_cons hlt
    have hkx := hk l[k] (List.getElem_mem hlt)
    rw [hdr]
    unfold backF backS
    have hs : ref07_Back_l2 l (k : Int) d t = (match backS ⟨d, t⟩ l[k] with | none => some (.inr (.inl ())) | some s => some (.inl (((k + 1 : Nat) : Int), s.Data, s.Toks))) := by
      unfold ref07_Back_l2 backS
      rw [if_pos (by simpa using hlt), ix_in hlt, IntWalk.i64_in _ ⟨by omega, by omega⟩]
      simp only [Option.bind_some]
      have n1 : (d.length + 1) * 32 ≤ 140737488355328 := by omega
      have n2 : (t.length + 1) * 32 ≤ 140737488355328 := by omega
      cases hK : l[k].Key with
      | nil => simp
      | cons c r =>
        have hlc : (((c :: r : Str).length : Nat) : Int) = (r.length : Int) + 1 := by simp
        have hr0 : ¬ ((r.length : Int) + 1 = 0) := by omega
        have hi0 : ix (c :: r : Str) 0 = some c := rfl
        have hc1 : cut (c :: r : Str) 1 ((r.length : Int) + 1) = r := by rw [← hlc, cut_tail (by omega) (by rw [hlc]; omega)]; rfl
        have hnd1 : 1 ≤ (r.length : Int) + 1 := by omega
        have hnd : (0 : Int) ≤ 1 ∧ 1 ≤ (r.length : Int) + 1 ∧ (r.length : Int) + 1 ≤ (r.length : Int) + 1 := by omega
        simp only [hlc, hi0, hc1, Option.bind_some]
        rw [if_neg (by simpa using hr0)]
        by_cases h1 : c = 100
        · subst h1
          cases t with
          | nil => simp [need_pos hnd1, need_pos n1]
          | cons p q =>
            have hne : ¬ ((q.length : Int) + 1 = 0) := by omega
            simp [hne]
        · have h1' : ¬ ((c.toNat : Int) = 100) := fun e => h1 (UInt8.toNat_inj.1 (by rw [show (100 : UInt8).toNat = 100 from rfl]; omega))
          by_cases h2 : c = 116
          · subst h2
            by_cases v1 : l[k].Val = [99]
            · simp [v1, need_pos hnd1, need_pos n2]
            · by_cases v2 : l[k].Val = [103]
              · simp [v2, need_pos hnd1, need_pos n2]
              · simp [v1, v2]
          · have h2' : ¬ ((c.toNat : Int) = 116) := fun e => h2 (UInt8.toNat_inj.1 (by rw [show (116 : UInt8).toNat = 116 from rfl]; omega))
            simp [h1, h2, h1', h2']
    have hb := hs
    unfold backS at hb
    cases hq : backS ⟨d, t⟩ l[k] with
    | none =>
      rw [hq] at hs
      have hq2 := hq
      unfold backS at hq2
      rw [loop_inr (by simpa using hs), hq2]
    | some s2 =>
      rw [hq] at hs
      have hlen : s2.Data.length + s2.Toks.length ≤ k + 1 := by
        unfold backS at hq
        split at hq
        · cases hq
        · split at hq
          · cases hq; simp only [List.length_append, List.length_cons, List.length_nil]; omega
          · split at hq
            · cases hq; simp only [List.length_append, List.length_cons, List.length_nil]; omega
            · cases hq
      have hq2 := hq
      unfold backS at hq2
      rw [loop_inl (by simpa using hs), hq2]
      exact ih (k + 1) s2.Data s2.Toks (by omega) hlen
theorem rbackB_eq {l : List Pair} (hl : l.length ≤ 2000000000000) (hk : KeysOk l) : ref07_Back l = some (backM l) := by
  unfold ref07_Back backM
  have h := rback_loop hl hk l.length 0 [] [] (by omega) (by simp)
  simp only [Int.natCast_zero, Int.ofNat_eq_natCast, List.drop_zero] at h
  rw [h]
  simp only [Option.bind_some]
  rw [show (⟨[], []⟩ : State) = noState from rfl]
  cases backF l noState <;> rfl
end Go.Ab
