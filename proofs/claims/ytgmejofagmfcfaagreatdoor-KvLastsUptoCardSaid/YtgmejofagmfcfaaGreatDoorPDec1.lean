/- Loops over the places of a row; numbers taken from figures: program and document alike (plain). -/
import Derived.Test.YtgmejofagmfcfaaGreatDoorPNum
namespace Go.Ab
set_option linter.unusedVariables false
set_option linter.unusedSimpArgs false

/-! ### Loops over the places of a row -/
def eachF {α σ ρ : Type} (f : Nat → σ → α → σ ⊕ ρ) (fin : Nat → σ → ρ) : Nat → List α → σ → ρ
  | k, [], s => fin k s
  | k, x :: r, s => match f k s x with | .inl s' => eachF f fin (k + 1) r s' | .inr y => y
theorem each_loop {α σ ρ τ : Type} (l : List α) (st : Nat → σ → τ) (step : τ → Option (τ ⊕ ρ)) (f : Nat → σ → α → σ ⊕ ρ) (fin : Nat → σ → ρ) (I : Nat → σ → Prop)
    (hstep : ∀ (k : Nat) x s, l[k]? = some x → I k s → step (st k s) = some (match f k s x with | .inl s' => .inl (st (k + 1) s') | .inr y => .inr y))
    (hI : ∀ (k : Nat) x s s', l[k]? = some x → I k s → f k s x = .inl s' → I (k + 1) s')
    (hend : ∀ s, I l.length s → step (st l.length s) = some (.inr (fin l.length s))) (s0 : σ) (h0 : I 0 s0) :
    loop step (st 0 s0) = some (eachF f fin 0 l s0) := by
  have key : ∀ (r : List α) (k : Nat) (s : σ), k + r.length = l.length → l.drop k = r → I k s → loop step (st k s) = some (eachF f fin k r s) := by
    intro r
    induction r with
    | nil =>
      intro k s hk hd hi
      have : k = l.length := by simpa using hk
      subst this
      rw [loop_inr (hend s hi)]; rfl
    | cons x r ih =>
      intro k s hk hd hi
      have hx : l[k]? = some x := by
        have := congrArg (·[0]?) hd
        simpa [List.getElem?_drop] using this
      have hd' : l.drop (k + 1) = r := by
        have := congrArg (List.drop 1) hd
        simpa [List.drop_drop, Nat.add_comm] using this
      have hs := hstep k x s hx hi
      unfold eachF
      cases hf : f k s x with
      | inl s' =>
        rw [hf] at hs
        rw [loop_inl hs]
        exact ih (k + 1) s' (by simp only [List.length_cons] at hk; omega) hd' (hI k x s s' hx hi hf)
      | inr y =>
        rw [hf] at hs
        rw [loop_inr hs]
  exact key l 0 s0 (by simp) rfl h0

theorem ix_at {α : Type} {l : List α} {k : Nat} {x : α} (h : l[k]? = some x) : ix l (k : Int) = some x := by rw [ix_nat, h]
theorem lt_of_at {α : Type} {l : List α} {k : Nat} {x : α} (h : l[k]? = some x) : k < l.length := (List.getElem?_eq_some_iff.1 h).1

/-! ### Figures -/
def isFig (c : UInt8) : Bool := decide (48 ≤ c.toNat) && decide (c.toNat ≤ 57)
def figs (s : Str) : Str := s.takeWhile isFig
def valF (v : Nat) : Str → Nat
  | [] => v
  | c :: r => valF (10 * v + (c.toNat - 48)) r
/-- One more than the greatest number of 64 bits. -/
def M64 : Nat := 18446744073709551616
theorem m64 : M64 = 18446744073709551616 := rfl
def takeNumM (s : Str) : Int × Str × Int :=
  if 20 < (figs s).length ∨ (1 < (figs s).length ∧ s[0]? = some 48) ∨ M64 ≤ valF 0 (figs s) then (0, [], 3) else
  match s.drop (figs s).length with
  | [] => (0, [], 2)
  | c :: r => if c ≠ 59 ∨ figs s = [] then (0, [], 3) else ((valF 0 (figs s) : Int), r, 0)

theorem figs_cons (c : UInt8) (r : Str) : figs (c :: r) = if isFig c then c :: figs r else [] := by
  unfold figs; rw [List.takeWhile_cons]
theorem figs_each : ∀ (s : Str) (k : Nat), eachF (fun k (_ : Unit) (x : UInt8) => if isFig x then .inl () else .inr (k : Int)) (fun k _ => (k : Int)) k s () = ((k + (figs s).length : Nat) : Int)
  | [], k => by simp [eachF, figs]
  | c :: r, k => by
    unfold eachF
    rw [figs_cons]
    cases h : isFig c with
    | true =>
      simp only [if_true]
      rw [figs_each r (k + 1)]
      simp only [List.length_cons]
      omega
    | false => simp
theorem figs_le (s : Str) : (figs s).length ≤ s.length := by
  unfold figs; exact (List.takeWhile_sublist _).length_le
theorem figs_all {s : Str} : ∀ c ∈ figs s, isFig c = true := fun c h => by
  unfold figs at h
  have := List.all_takeWhile (p := isFig) (l := s)
  rw [List.all_eq_true] at this
  exact this c h
theorem figs_take (s : Str) : s.take (figs s).length = figs s := by
  unfold figs
  exact (List.prefix_iff_eq_take.1 (List.takeWhile_prefix _)).symm
theorem toNat48 (c : UInt8) : ((c.toNat : Int) = 48) ↔ c = 48 := by
  constructor
  · intro h
    have h2 : c.toNat = (48 : UInt8).toNat := by have : (48 : UInt8).toNat = 48 := rfl; omega
    exact UInt8.toNat_inj.1 h2
  · intro h; subst h; rfl
theorem toNat59 (c : UInt8) : ((c.toNat : Int) = 59) ↔ c = 59 := by
  constructor
  · intro h
    have h2 : c.toNat = (59 : UInt8).toNat := by have : (59 : UInt8).toNat = 59 := rfl; omega
    exact UInt8.toNat_inj.1 h2
  · intro h; subst h; rfl
theorem isFig_iff (c : UInt8) : isFig c = true ↔ (48 ≤ c.toNat ∧ c.toNat ≤ 57) := by simp [isFig]
theorem dig_eq {c : UInt8} (h : isFig c = true) : IntKind.u64.wrap (IntKind.u8.wrap ((c.toNat : Int) - 48)) = ((c.toNat - 48 : Nat) : Int) := by
  rw [isFig_iff] at h
  rw [u8_in (by omega) (by omega), u64_in (by omega) (by omega)]; omega

/-- What figures tell, or that it is too great. -/
theorem valF_ge (l : Str) : ∀ (v : Nat), v ≤ valF v l := by
  induction l with
  | nil => intro v; exact Nat.le_refl _
  | cons c l ih => intro v; unfold valF; exact Nat.le_trans (by omega) (ih _)
theorem told_each (s : Str) : ∀ (v k : Nat), v < M64 →
    eachF (fun k (v : Nat) (c : UInt8) => if M64 ≤ 10 * v + (c.toNat - 48) then .inr (.inl ()) else .inl (10 * v + (c.toNat - 48))) (fun _ v => (.inr (v : Int) : Unit ⊕ Int)) k s v =
      if valF v s < M64 then .inr (valF v s : Int) else .inl () := by
  induction s with
  | nil =>
    intro v k hv
    have e : valF v [] = v := rfl
    rw [e, if_pos hv]
    rfl
  | cons c r ih =>
    intro v k hv
    unfold eachF valF
    by_cases hc : M64 ≤ 10 * v + (c.toNat - 48)
    · rw [if_pos hc]
      have := valF_ge r (10 * v + (c.toNat - 48))
      rw [if_neg (by omega)]
    · rw [if_neg hc]
      exact ih _ (k + 1) (by omega)

theorem told_eq {s : Str} (h : ∀ c ∈ s, isFig c = true) (hl : s.length ≤ 1000) : dec_told s = if valF 0 s < M64 then some ((valF 0 s : Int), true) else some (0, false) := by
  unfold dec_told
  have := each_loop (σ := Nat) s (fun k v => ((v : Int), (k : Int))) (fun (s71 : Int × Int) => dec_told_l2 s s71.1 s71.2)
    (fun k (v : Nat) (c : UInt8) => if M64 ≤ 10 * v + (c.toNat - 48) then .inr (.inl ()) else .inl (10 * v + (c.toNat - 48))) (fun _ v => (.inr (v : Int) : Unit ⊕ Int)) (fun k v => v < M64)
    (fun k c v hk hv => by
      have hlt := lt_of_at hk
      have hf := h c (List.mem_of_getElem? hk)
      have hc := (isFig_iff c).1 hf
      have hm := m64
      simp only
      unfold dec_told_l2
      rw [if_pos (show decide ((k : Int) < (s.length : Int)) = true by simpa using hlt), ix_at hk]
      simp only [Option.bind_some]
      rw [dig_eq hf, u64_in (n := 18446744073709551615 - _) (by omega) (by omega)]
      have e1 : Int.tdiv (18446744073709551615 - ((c.toNat - 48 : Nat) : Int)) 10 = (18446744073709551615 - ((c.toNat - 48 : Nat) : Int)) / 10 := Int.tdiv_eq_ediv_of_nonneg (by omega)
      rw [e1, u64_in (n := (18446744073709551615 - ((c.toNat - 48 : Nat) : Int)) / 10) (by omega) (by omega)]
      by_cases hc2 : M64 ≤ 10 * v + (c.toNat - 48)
      · rw [if_pos (by simp; omega), if_pos hc2]
      · rw [if_neg (by simp; omega), if_neg hc2, u64_in (n := 10 * (v : Int)) (by omega) (by omega), u64_in (n := 10 * (v : Int) + _) (by omega) (by omega), IntWalk.i64_in _ ⟨by omega, by omega⟩]
        congr 3 <;> omega)
    (fun k c v v' hk hv hf => by
      split at hf
      · cases hf
      · injection hf with hf; omega)
    (fun v hv => by
      simp only
      unfold dec_told_l2
      rw [if_neg (by simp)]) 0 (by have := m64; omega)
  simp only [Int.natCast_zero, Int.ofNat_eq_natCast] at this
  rw [this, told_each s 0 0 (by have := m64; omega)]
  by_cases hc : valF 0 s < M64
  · rw [if_pos hc, if_pos hc]; rfl
  · rw [if_neg hc, if_neg hc]; rfl
end Go.Ab
