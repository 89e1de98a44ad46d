/- Numbers, texts and sealed texts: taken from their bytes they are as they were; of a beginning of them nothing is taken (plain). -/
import Derived.Test.YtgmejofagmfcfaaGreatDoorPDec3
namespace Go.Ab
set_option linter.unusedVariables false
set_option linter.unusedSimpArgs false

def figS (n : Nat) : Str := fg (n / 10) ++ [UInt8.ofNat (48 + n % 10)]
theorem numS_fig (n : Nat) : numS n = figS n ++ [59] := by unfold numS figS; simp
theorem fig_nat (d : Nat) (h : d < 10) : (UInt8.ofNat (48 + d)).toNat = 48 + d := by
  rw [UInt8.toNat_ofNat']; omega
theorem fig_is (d : Nat) (h : d < 10) : isFig (UInt8.ofNat (48 + d)) = true := by
  rw [isFig_iff, fig_nat d h]; omega
theorem fg_figs (n : Nat) : ∀ c ∈ fg n, isFig c = true := by
  induction n using Nat.strongRecOn with
  | _ n ih =>
    intro c hc
    rcases Nat.eq_zero_or_pos n with h0 | h0
    · subst h0; rw [fg_zero] at hc; cases hc
    · rw [fg_pos h0] at hc
      rcases List.mem_append.1 hc with h | h
      · exact ih (n / 10) (by omega) c h
      · rw [List.mem_singleton] at h; subst h; exact fig_is _ (by omega)
theorem valF_append (l : Str) : ∀ (v : Nat) (c : UInt8), valF v (l ++ [c]) = 10 * valF v l + (c.toNat - 48) := by
  induction l with
  | nil => intro v c; rfl
  | cons x r ih => intro v c; simp only [List.cons_append]; unfold valF; exact ih _ c
theorem valF_fg (n : Nat) : valF 0 (fg n) = n := by
  induction n using Nat.strongRecOn with
  | _ n ih =>
    rcases Nat.eq_zero_or_pos n with h0 | h0
    · subst h0; rw [fg_zero]; rfl
    · rw [fg_pos h0, valF_append, ih (n / 10) (by omega), fig_nat _ (by omega)]; omega
theorem fg_head (n : Nat) : (fg n)[0]? ≠ some 48 := by
  induction n using Nat.strongRecOn with
  | _ n ih =>
    rcases Nat.eq_zero_or_pos n with h0 | h0
    · subst h0; rw [fg_zero]; simp
    · rw [fg_pos h0]
      rcases Nat.eq_zero_or_pos (n / 10) with h1 | h1
      · rw [h1, fg_zero]
        simp only [List.nil_append, List.getElem?_cons_zero]
        intro h
        injection h with h
        have := congrArg UInt8.toNat h
        rw [fig_nat _ (by omega)] at this
        have e : (48 : UInt8).toNat = 48 := rfl
        omega
      · have hne : fg (n / 10) ≠ [] := by rw [fg_pos h1]; simp
        rw [List.getElem?_append_left (List.length_pos_iff.2 hne)]
        exact ih (n / 10) (by omega)
theorem fg_ne {n : Nat} (h : 0 < n) : fg n ≠ [] := by rw [fg_pos h]; simp
theorem figS_figs (n : Nat) : ∀ c ∈ figS n, isFig c = true := by
  intro c hc
  rcases List.mem_append.1 hc with h | h
  · exact fg_figs _ c h
  · rw [List.mem_singleton] at h; subst h; exact fig_is _ (by omega)
theorem valF_figS (n : Nat) : valF 0 (figS n) = n := by
  unfold figS; rw [valF_append, valF_fg, fig_nat _ (by omega)]; omega
theorem figS_len {n : Nat} (h : n < M64) : (figS n).length ≤ 20 := by
  have := m64
  have := fg_len 19 (n / 10) (by omega)
  unfold figS; rw [List.length_append]; simp; omega
theorem figS_head (n : Nat) (h : 1 < (figS n).length) : (figS n)[0]? ≠ some 48 := by
  unfold figS at h ⊢
  rw [List.length_append] at h
  simp at h
  rw [List.getElem?_append_left h]
  exact fg_head _
theorem figS_ne (n : Nat) : figS n ≠ [] := by unfold figS; simp

theorem takeWhile_all {p : Str} {r : Str} (h : ∀ c ∈ p, isFig c = true) (hr : ∀ c, r.head? = some c → isFig c = false) : figs (p ++ r) = p := by
  induction p with
  | nil =>
    cases r with
    | nil => rfl
    | cons c r => rw [List.nil_append, figs_cons, hr c rfl]; rfl
  | cons c p ih =>
    rw [List.cons_append, figs_cons, h c (List.mem_cons_self ..), ih (fun x hx => h x (List.mem_cons_of_mem _ hx))]; rfl
theorem isFig59 : isFig 59 = false := rfl

theorem takeNum_num {n : Nat} (h : n < M64) (r : Str) : takeNumM (numS n ++ r) = ((n : Int), r, 0) := by
  have hf : figs (numS n ++ r) = figS n := by
    rw [numS_fig, List.append_assoc]
    exact takeWhile_all (figS_figs n) (fun c hc => by simp at hc; subst hc; rfl)
  have hlen := figS_len h
  have hv := valF_figS n
  have h0 : (numS n ++ r)[0]? = (figS n)[0]? := by
    rw [numS_fig, List.append_assoc, List.getElem?_append_left (List.length_pos_iff.2 (figS_ne n))]
  have hd : (numS n ++ r)[(figS n).length]? = some 59 := by
    rw [numS_fig, List.append_assoc, List.getElem?_append_right (Nat.le_refl _)]; simp
  have := good_form (s := numS n ++ r) (by
    rw [hf, hv, h0]
    rintro (x | ⟨x, y⟩ | x)
    · omega
    · exact figS_head n x y
    · omega) (by rw [hf]; exact hd) (by rw [hf]; exact figS_ne n)
  rw [this, hf, hv]
  congr 2
  rw [numS_fig]
  rw [List.drop_append_of_le_length (by simp), List.drop_of_length_le (by simp)]
  rfl
theorem valF_take (l : Str) : ∀ (k v : Nat), valF v (l.take k) ≤ valF v l := by
  induction l with
  | nil => intro k v; simp
  | cons c r ih =>
    intro k v
    cases k with
    | zero => rw [List.take_zero]; exact valF_ge _ _
    | succ k => rw [List.take_succ_cons]; unfold valF; exact ih k _
theorem takeNum_cut {n : Nat} (h : n < M64) {k : Nat} (hk : k < (numS n).length) : takeNumM ((numS n).take k) = (0, [], 2) := by
  have hk' : k ≤ (figS n).length := by rw [numS_fig] at hk; simp at hk; omega
  have he : (numS n).take k = (figS n).take k := by rw [numS_fig, List.take_append_of_le_length hk']
  rw [he]
  have hf : figs ((figS n).take k) = (figS n).take k := by
    have := takeWhile_all (p := (figS n).take k) (r := []) (fun c hc => figS_figs n c (List.mem_of_mem_take hc)) (fun c hc => by simp at hc)
    simpa using this
  have hlen := figS_len h
  have hv := valF_figS n
  have hvt := valF_take (figS n) k 0
  have hl : ((figS n).take k).length = k := by rw [List.length_take]; omega
  refine more_form ?_ (by rw [hf])
  rw [hf, hl]
  rintro (x | ⟨x, y⟩ | x)
  · omega
  · rw [List.getElem?_take_of_lt (by omega)] at y
    exact figS_head n (by omega) y
  · omega

/-! ### What is taken was there -/
theorem snoc_cases (l : Str) : l = [] ∨ ∃ r c, l = r ++ [c] := by
  rcases List.eq_nil_or_concat l with h | ⟨r, c, h⟩
  · exact .inl h
  · exact .inr ⟨r, c, by simpa using h⟩
theorem fg_val (k : Nat) : ∀ (l : Str), l.length ≤ k → l[0]? ≠ some 48 → (∀ c ∈ l, isFig c = true) → fg (valF 0 l) = l := by
  induction k with
  | zero => intro l hk _ _; have : l = [] := List.length_eq_zero_iff.1 (by omega); subst this; exact fg_zero
  | succ k ih =>
    intro l hk h0 hf
    rcases snoc_cases l with rfl | ⟨r, c, rfl⟩
    · exact fg_zero
    · have hc := (isFig_iff c).1 (hf c (by simp))
      rw [valF_append]
      have hr : fg (valF 0 r) = r := by
        refine ih r (by simp at hk; omega) (fun h => h0 ?_) (fun x hx => hf x (List.mem_append_left _ hx))
        rw [List.getElem?_append_left (by rcases r with _ | _ <;> simp at h ⊢)]; exact h
      have hpos : 0 < 10 * valF 0 r + (c.toNat - 48) := by
        rcases Nat.eq_zero_or_pos (valF 0 r) with hz | hz
        · rw [hz, fg_zero] at hr
          subst hr
          have : c ≠ 48 := fun e => h0 (by simp [e])
          have h2 : c.toNat ≠ 48 := fun e => this ((toNat48 c).1 (by omega))
          omega
        · omega
      rw [fg_pos hpos]
      have e1 : (10 * valF 0 r + (c.toNat - 48)) / 10 = valF 0 r := by omega
      have e2 : 48 + (10 * valF 0 r + (c.toNat - 48)) % 10 = c.toNat := by omega
      rw [e1, e2, hr]
      congr 2
      exact UInt8.ofNat_toNat
theorem figS_val {l : Str} (hne : l ≠ []) (h0 : 1 < l.length → l[0]? ≠ some 48) (hf : ∀ c ∈ l, isFig c = true) : figS (valF 0 l) = l := by
  rcases snoc_cases l with rfl | ⟨r, c, rfl⟩
  · exact absurd rfl hne
  · have hc := (isFig_iff c).1 (hf c (by simp))
    rw [valF_append]
    unfold figS
    have hr : fg (valF 0 r) = r := by
      refine fg_val r.length r (Nat.le_refl _) (fun h => ?_) (fun x hx => hf x (List.mem_append_left _ hx))
      have hpos : 0 < r.length := by rcases r with _ | _ <;> simp at h ⊢
      exact h0 (by simp; omega) (by rw [List.getElem?_append_left hpos]; exact h)
    have e1 : (10 * valF 0 r + (c.toNat - 48)) / 10 = valF 0 r := by omega
    have e2 : 48 + (10 * valF 0 r + (c.toNat - 48)) % 10 = c.toNat := by omega
    rw [e1, e2, hr]
    congr 2
    exact UInt8.ofNat_toNat
theorem takeNum_inv {s : Str} (h : (takeNumM s).2.2 = 0) : ∃ n : Nat, n < M64 ∧ (takeNumM s).1 = n ∧ s = numS n ++ (takeNumM s).2.1 := by
  unfold takeNumM at h ⊢
  split at h
  · simp at h
  · rename_i hno
    rw [if_neg hno]
    split at h
    · simp at h
    · rename_i c r hd
      split at h
      · simp at h
      · rename_i hc
        simp only [if_neg hc]
        have h59 : c = 59 := by
          by_cases e : c = 59
          · exact e
          · exact absurd (.inl e) hc
        have hne : figs s ≠ [] := fun e => hc (.inr e)
        refine ⟨valF 0 (figs s), ?_, rfl, ?_⟩
        · rcases Nat.lt_or_ge (valF 0 (figs s)) M64 with x | x
          · exact x
          · exact absurd (.inr (.inr x)) hno
        · rw [numS_fig, figS_val hne (fun hl h0 => hno (.inr (.inl ⟨hl, by
            rw [← figs_take s, List.getElem?_take_of_lt (by omega)] at h0; exact h0⟩))) figs_all]
          have := List.take_append_drop (figs s).length s
          rw [figs_take, hd, h59] at this
          rw [List.append_assoc]
          exact this.symm

/-! ### Texts -/
theorem takeText_text {t : Str} {most : Int} (ht : t.length < M64) (hm : (t.length : Int) ≤ most) (r : Str) : takeTextM (textM t ++ r) most = (t, r, 0) := by
  have e : takeNumM (textM t ++ r) = ((t.length : Int), t ++ r, 0) := by
    unfold textM; rw [List.append_assoc]; exact takeNum_num ht _
  unfold takeTextM
  rw [e]
  simp only
  rw [if_neg (by simp), if_neg (by omega), if_neg (by rw [List.length_append]; omega)]
  simp
theorem takeText_cut {t : Str} {most : Int} (ht : t.length < M64) (hm : (t.length : Int) ≤ most) {k : Nat} (hk : k < (textM t).length) : takeTextM ((textM t).take k) most = ([], [], 2) := by
  rcases Nat.lt_or_ge k (numS t.length).length with h | h
  · have e : (textM t).take k = (numS t.length).take k := by unfold textM; rw [List.take_append_of_le_length (by omega)]
    unfold takeTextM
    rw [e, takeNum_cut ht h]
    rfl
  · have e : takeNumM ((textM t).take k) = ((t.length : Int), t.take (k - (numS t.length).length), 0) := by
      unfold textM; rw [List.take_append, List.take_of_length_le h]; exact takeNum_num ht _
    unfold takeTextM
    rw [e]
    unfold textM at hk
    rw [List.length_append] at hk
    simp only
    rw [if_neg (by simp), if_neg (by omega), if_pos (by rw [List.length_take]; omega)]
theorem takeText_big {t : Str} {most : Int} (ht : t.length < M64) (hm : most < (t.length : Int)) (r : Str) : takeTextM (textM t ++ r) most = ([], [], 4) := by
  have e : takeNumM (textM t ++ r) = ((t.length : Int), t ++ r, 0) := by
    unfold textM; rw [List.append_assoc]; exact takeNum_num ht _
  unfold takeTextM
  rw [e]
  simp only
  rw [if_neg (by simp), if_pos (by omega)]
theorem takeText_inv {s : Str} {most : Int} (h : (takeTextM s most).2.2 = 0) : s = textM (takeTextM s most).1 ++ (takeTextM s most).2.1 ∧ ((takeTextM s most).1.length : Int) ≤ most ∧ (takeTextM s most).1.length < M64 := by
  unfold takeTextM at h ⊢
  split at h
  · rename_i h1; exact absurd h h1
  · rename_i h1
    rw [if_neg h1]
    split at h
    · simp at h
    · rename_i h2
      rw [if_neg h2]
      split at h
      · simp at h
      · rename_i h3
        rw [if_neg h3]
        obtain ⟨n, hn, e1, e2⟩ := takeNum_inv (s := s) (by simpa using h1)
        simp only
        have hl : ((takeNumM s).2.1.take (takeNumM s).1.toNat).length = n := by rw [List.length_take]; omega
        refine ⟨?_, by rw [hl]; omega, by rw [hl]; exact hn⟩
        unfold textM
        rw [hl, List.append_assoc, List.take_append_drop]
        exact e2

/-! ### Sealed texts -/
theorem sum_m64 (t : Str) : sumN t < M64 := by have := sumN_lt t; have := m64; omega
theorem open_seal {t : Str} {most : Int} (ht : t.length < M64) (hm : (t.length : Int) ≤ most) (r : Str) : openM (sealM t ++ r) most = (t, r, 0) := by
  have e : takeTextM (sealM t ++ r) most = (t, numS (sumN t) ++ r, 0) := by
    unfold sealM; rw [List.append_assoc]; exact takeText_text ht hm _
  unfold openM
  rw [e]
  simp only
  rw [takeNum_num (sum_m64 t)]
  simp
theorem open_cut {t : Str} {most : Int} (ht : t.length < M64) (hm : (t.length : Int) ≤ most) {k : Nat} (hk : k < (sealM t).length) : openM ((sealM t).take k) most = ([], [], 2) := by
  rcases Nat.lt_or_ge k (textM t).length with h | h
  · have e : (sealM t).take k = (textM t).take k := by unfold sealM; rw [List.take_append_of_le_length (by omega)]
    unfold openM
    rw [e, takeText_cut ht hm h]
    rfl
  · have e : takeTextM ((sealM t).take k) most = (t, (numS (sumN t)).take (k - (textM t).length), 0) := by
      unfold sealM; rw [List.take_append, List.take_of_length_le h]; exact takeText_text ht hm _
    unfold sealM at hk
    rw [List.length_append] at hk
    unfold openM
    rw [e]
    simp only
    rw [takeNum_cut (sum_m64 t) (by omega)]
    rfl
theorem open_inv {s : Str} {most : Int} (h : (openM s most).2.2 = 0) : s = sealM (openM s most).1 ++ (openM s most).2.1 ∧ ((openM s most).1.length : Int) ≤ most ∧ (openM s most).1.length < M64 := by
  unfold openM at h ⊢
  split at h
  · rename_i h1; exact absurd h h1
  · rename_i h1
    rw [if_neg h1]
    split at h
    · rename_i h2; exact absurd h h2
    · rename_i h2
      rw [if_neg h2]
      split at h
      · simp at h
      · rename_i h3
        rw [if_neg h3]
        obtain ⟨e1, e2, e4⟩ := takeText_inv (s := s) (most := most) (by simpa using h1)
        obtain ⟨n, hn, e5, e6⟩ := takeNum_inv (s := (takeTextM s most).2.1) (by simpa using h2)
        have e3 : (takeNumM (takeTextM s most).2.1).1 = (sumN (takeTextM s most).1 : Int) := by simpa using h3
        have hs : n = sumN (takeTextM s most).1 := by omega
        subst hs
        simp only
        refine ⟨?_, e2, e4⟩
        unfold sealM
        rw [List.append_assoc, ← e6]
        exact e1
theorem seal_ne (t : Str) : sealM t ≠ [] := by unfold sealM textM numS; simp
theorem seal_pos (t : Str) : 0 < (sealM t).length := List.length_pos_iff.2 (seal_ne t)
end Go.Ab
