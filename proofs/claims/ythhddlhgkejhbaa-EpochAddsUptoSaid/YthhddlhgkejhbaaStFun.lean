/- The plain side: functions that may come to nothing, loops, texts as lists of bytes. No program in sight. -/
namespace Go.Ab
abbrev Str := List UInt8
/-- A byte, as a whole number tells it. -/
def u8 (n : Int) : UInt8 := UInt8.ofNat n.toNat

/-- Where p is not so, the program would not go on. -/
def need {α : Type} (p : Prop) [Decidable p] (m : Option α) : Option α := if p then m else none
theorem need_some {α : Type} {p : Prop} [Decidable p] {m : Option α} {r : α} (h : need p m = some r) : p ∧ m = some r := by
  unfold need at h
  split at h
  · exact ⟨by assumption, h⟩
  · cases h
theorem need_pos {α : Type} {p : Prop} [Decidable p] {m : Option α} (h : p) : need p m = m := if_pos h
theorem bind_some {α β : Type} {m : Option α} {f : α → Option β} {r : β} (h : m.bind f = some r) : ∃ y, m = some y ∧ f y = some r := Option.bind_eq_some_iff.1 h
theorem if_t {α : Type} {b : Bool} {x y : Option α} {r : α} (hb : b = true) (h : (if b = true then x else y) = some r) : x = some r := by rwa [if_pos hb] at h
theorem if_f {α : Type} {b : Bool} {x y : Option α} {r : α} (hb : b = false) (h : (if b = true then x else y) = some r) : y = some r := by subst hb; exact h

/-- An element, by a whole number. -/
def ix {α : Type} (l : List α) (i : Int) : Option α := if 0 ≤ i then l[i.toNat]? else none
theorem ix_some {α : Type} {l : List α} {i : Int} {x : α} (h : ix l i = some x) : 0 ≤ i ∧ l[i.toNat]? = some x := by
  unfold ix at h
  split at h
  · exact ⟨by assumption, h⟩
  · cases h
theorem ix_lt {α : Type} {l : List α} {i : Int} {x : α} (h : ix l i = some x) : 0 ≤ i ∧ i < (l.length : Int) ∧ i.toNat < l.length := by
  obtain ⟨h1, h2⟩ := ix_some h
  have := (List.getElem?_eq_some_iff.1 h2).1
  omega
theorem ix_nat {α : Type} (l : List α) (k : Nat) : ix l (k : Int) = l[k]? := by unfold ix; simp
theorem ix_get {α : Type} {l : List α} {k : Nat} (h : k < l.length) : ix l (k : Int) = some l[k] := by rw [ix_nat, List.getElem?_eq_getElem h]

/-! ### Loops -/
def loopN {σ ρ : Type} (step : σ → Option (σ ⊕ ρ)) : Nat → σ → Option ρ
  | 0, _ => none
  | n + 1, s => match step s with
    | none => none
    | some (.inl s') => loopN step n s'
    | some (.inr r) => some r
theorem loopN_succ {σ ρ : Type} {step : σ → Option (σ ⊕ ρ)} : ∀ {n : Nat} {s : σ} {r : ρ}, loopN step n s = some r → loopN step (n + 1) s = some r
  | 0, _, _, h => by cases h
  | n + 1, s, r, h => by
    unfold loopN at h ⊢
    split at h
    · cases h
    · rename_i s' hs; exact loopN_succ h
    · exact h
theorem loopN_le {σ ρ : Type} {step : σ → Option (σ ⊕ ρ)} {n m : Nat} {s : σ} {r : ρ} (hm : n ≤ m) (h : loopN step n s = some r) : loopN step m s = some r := by
  induction hm with
  | refl => exact h
  | step _ ih => exact loopN_succ ih
open Classical in
/-- What a loop comes to, if it comes to an end. -/
noncomputable def loop {σ ρ : Type} (step : σ → Option (σ ⊕ ρ)) (s : σ) : Option ρ :=
  if h : ∃ r n, loopN step n s = some r then some h.choose else none
theorem loop_iff {σ ρ : Type} {step : σ → Option (σ ⊕ ρ)} {s : σ} {r : ρ} : loop step s = some r ↔ ∃ n, loopN step n s = some r := by
  constructor
  · intro h
    unfold loop at h
    split at h
    · rename_i hh
      injection h with h
      subst h
      exact hh.choose_spec
    · cases h
  · rintro ⟨n, h⟩
    have hh : ∃ r n, loopN step n s = some r := ⟨r, n, h⟩
    unfold loop
    rw [dif_pos hh]
    obtain ⟨m, h2⟩ := hh.choose_spec
    have a := loopN_le (Nat.le_max_left n m) h
    have b := loopN_le (Nat.le_max_right n m) h2
    rw [a] at b
    exact b.symm
theorem loop_eq {σ ρ : Type} (step : σ → Option (σ ⊕ ρ)) (s : σ) : loop step s = (step s).bind fun y => match y with | .inl s' => loop step s' | .inr r => some r := by
  cases hs : step s with
  | none =>
    rw [Option.bind_none]
    cases hl : loop step s with
    | none => rfl
    | some r =>
      obtain ⟨n, h⟩ := loop_iff.1 hl
      cases n with
      | zero => cases h
      | succ n => unfold loopN at h; rw [hs] at h; cases h
  | some y =>
    rw [Option.bind_some]
    cases y with
    | inr r => exact loop_iff.2 ⟨1, by unfold loopN; rw [hs]⟩
    | inl s' =>
      simp only
      cases hl : loop step s' with
      | none =>
        cases hl2 : loop step s with
        | none => rfl
        | some r =>
          obtain ⟨n, h⟩ := loop_iff.1 hl2
          cases n with
          | zero => cases h
          | succ n =>
            unfold loopN at h
            rw [hs] at h
            have := loop_iff.2 ⟨n, h⟩
            rw [hl] at this; cases this
      | some r =>
        obtain ⟨n, h⟩ := loop_iff.1 hl
        exact loop_iff.2 ⟨n + 1, by unfold loopN; rw [hs]; exact h⟩
theorem loop_inl {σ ρ : Type} {step : σ → Option (σ ⊕ ρ)} {s s' : σ} (h : step s = some (.inl s')) : loop step s = loop step s' := by rw [loop_eq, h]; rfl
theorem loop_inr {σ ρ : Type} {step : σ → Option (σ ⊕ ρ)} {s : σ} {r : ρ} (h : step s = some (.inr r)) : loop step s = some r := by rw [loop_eq, h]; rfl
end Go.Ab
