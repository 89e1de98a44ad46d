/- Values without memory: what they are in the machine; and calls over such values, told once for every world. -/
import Derived.Test.YthhddlhgkejhbaaStAbsS
namespace Go.Ab
set_option linter.unusedVariables false
set_option linter.unusedSimpArgs false

mutual
def conc : AV → Option Value
  | .v x => some x
  | .ifc t x => (match conc x with | some y => some (.iface t y) | none => none)
  | .agg cs => (match concs cs with | some l => some (.agg l.toArray) | none => none)
  | .tup cs => (match concs cs with | some l => some (.tuple l.toArray) | none => none)
  | .sl _ => none
  | .ptr _ _ => none
  | .row _ _ => none
  | .rptr _ _ _ _ _ => none
  | .vw _ _ _ _ _ => none
  | .eptr _ => none
  | .fn _ _ _ => none
  | .dead => none
def concs : List AV → Option (List Value)
  | [] => some []
  | a :: r => (match conc a, concs r with | some x, some l => some (x :: l) | _, _ => none)
end

section
variable {w : World} {F : Nat → Prop} {e : Env}
theorem concs_cons {a : AV} {r : List AV} {l : List Value} (h : concs (a :: r) = some l) : ∃ x l', l = x :: l' ∧ conc a = some x ∧ concs r = some l' := by
  unfold concs at h
  split at h
  · rename_i x l' h1 h2
    injection h with h
    exact ⟨x, l', h.symm, h1, h2⟩
  · cases h
theorem list_of_cells (cs : List AV) (vs : Array Value) (l : List Value) (hs : vs.size = cs.length) (hl : l.length = cs.length) (h : ∀ (j : Nat), j < cs.length → vs.getD j undef = l.getD j undef) : vs = l.toArray := by
  apply Array.ext
  · simp [hs, hl]
  · intro i h1 h2
    have := h i (by omega)
    rw [Array.getD_eq_getD_getElem?, Array.getElem?_eq_getElem h1] at this
    simp only [Option.getD_some] at this
    rw [this]
    simp at h2
    simp [h2]
mutual
theorem conc_inv : ∀ (a : AV) (x v : Value), Rep w F e a x → conc a = some v → x = v
  | .v y, x, v, h, hc => by
    have := h.v_inv
    unfold conc at hc
    injection hc with hc
    rw [this, hc]
  | .ifc t s, x, v, h, hc => by
    obtain ⟨y, rfl, hr⟩ := h.ifc_inv
    unfold conc at hc
    split at hc
    · rename_i z hz
      injection hc with hc
      rw [← hc, conc_inv s y z hr hz]
    · cases hc
  | .agg cs, x, v, h, hc => by
    obtain ⟨vs, rfl, h1, h2⟩ := h.agg_inv
    unfold conc at hc
    split at hc
    · rename_i l hl
      injection hc with hc
      obtain ⟨h3, h4⟩ := concs_inv cs (fun j => vs.getD j undef) l h2 hl
      rw [← hc, list_of_cells cs vs l h1 h3 h4]
    · cases hc
  | .tup cs, x, v, h, hc => by
    obtain ⟨vs, rfl, h1, h2⟩ := h.tup_inv
    unfold conc at hc
    split at hc
    · rename_i l hl
      injection hc with hc
      obtain ⟨h3, h4⟩ := concs_inv cs (fun j => vs.getD j undef) l h2 hl
      rw [← hc, list_of_cells cs vs l h1 h3 h4]
    · cases hc
  | .sl _, x, v, h, hc => by unfold conc at hc; cases hc
  | .ptr _ _, x, v, h, hc => by unfold conc at hc; cases hc
  | .row _ _, x, v, h, hc => by unfold conc at hc; cases hc
  | .rptr _ _ _ _ _, x, v, h, hc => by unfold conc at hc; cases hc
  | .vw _ _ _ _ _, x, v, h, hc => by unfold conc at hc; cases hc
  | .eptr _, x, v, h, hc => by unfold conc at hc; cases hc
  | .fn _ _ _, x, v, h, hc => by unfold conc at hc; cases hc
  | .dead, x, v, h, hc => by unfold conc at hc; cases hc
theorem concs_inv : ∀ (cs : List AV) (f : Nat → Value) (l : List Value), (∀ (j : Nat) s, cs[j]? = some s → Rep w F e s (f j)) → concs cs = some l → l.length = cs.length ∧ ∀ (j : Nat), j < cs.length → f j = l.getD j undef
  | [], f, l, h, hc => by
    unfold concs at hc
    injection hc with hc
    subst hc
    exact ⟨rfl, fun j hj => absurd hj (by simp)⟩
  | a :: r, f, l, h, hc => by
    obtain ⟨x, l', rfl, h1, h2⟩ := concs_cons hc
    obtain ⟨h3, h4⟩ := concs_inv r (fun j => f (j + 1)) l' (fun j s hj => h (j + 1) s (by simpa using hj)) h2
    refine ⟨by simp [h3], fun j hj => ?_⟩
    cases j with
    | zero => simpa using conc_inv a (f 0) x (h 0 a rfl) h1
    | succ j => simpa using h4 j (by simpa using hj)
end
mutual
theorem conc_rep : ∀ (a : AV) (v : Value), conc a = some v → Rep w F e a v
  | .v y, v, hc => by
    unfold conc at hc
    injection hc with hc
    subst hc; exact .v
  | .ifc t s, v, hc => by
    unfold conc at hc
    split at hc
    · rename_i z hz
      injection hc with hc
      subst hc
      exact .ifc (conc_rep s z hz)
    · cases hc
  | .agg cs, v, hc => by
    unfold conc at hc
    split at hc
    · rename_i l hl
      injection hc with hc
      subst hc
      obtain ⟨h1, h2⟩ := concs_rep cs l hl
      exact .agg (by simp [h1]) (fun j s hj => by simpa [Array.getD_eq_getD_getElem?] using h2 j s hj)
    · cases hc
  | .tup cs, v, hc => by
    unfold conc at hc
    split at hc
    · rename_i l hl
      injection hc with hc
      subst hc
      obtain ⟨h1, h2⟩ := concs_rep cs l hl
      exact .tup (by simp [h1]) (fun j s hj => by simpa [Array.getD_eq_getD_getElem?] using h2 j s hj)
    · cases hc
  | .sl _, v, hc => by unfold conc at hc; cases hc
  | .ptr _ _, v, hc => by unfold conc at hc; cases hc
  | .row _ _, v, hc => by unfold conc at hc; cases hc
  | .rptr _ _ _ _ _, v, hc => by unfold conc at hc; cases hc
  | .vw _ _ _ _ _, v, hc => by unfold conc at hc; cases hc
  | .eptr _, v, hc => by unfold conc at hc; cases hc
  | .fn _ _ _, v, hc => by unfold conc at hc; cases hc
  | .dead, v, hc => by unfold conc at hc; cases hc
theorem concs_rep : ∀ (cs : List AV) (l : List Value), concs cs = some l → l.length = cs.length ∧ ∀ (j : Nat) s, cs[j]? = some s → Rep w F e s (l.getD j undef)
  | [], l, hc => by
    unfold concs at hc
    injection hc with hc
    subst hc
    exact ⟨rfl, fun j s hj => by simp at hj⟩
  | a :: r, l, hc => by
    obtain ⟨x, l', rfl, h1, h2⟩ := concs_cons hc
    obtain ⟨h3, h4⟩ := concs_rep r l' h2
    refine ⟨by simp [h3], fun j s hj => ?_⟩
    cases j with
    | zero =>
      simp at hj
      subst hj
      simpa using conc_rep a x h1
    | succ j => simpa using h4 j s (by simpa using hj)
end

/-- A call over values without memory, that leaves the world as it is. -/
theorem pureClosed {P : Program} {g : FuncId} {args : List AV} {l : List Value} {r : AV} {v : Value} (hc : Callable P g) (ha : concs args = some l) (hr : conc r = some v)
    (h : ∀ w, Calls P g l.toArray w fun en w' => en = .returned v ∧ Touch w w' (fun _ => False)) : PureP P g args (fun a => a = r) := by
  refine ⟨hc, fun w F vs hb hv => ?_⟩
  obtain ⟨h1, h2⟩ := hv
  obtain ⟨h3, h4⟩ := concs_inv args (fun j => vs.getD j undef) l h2 ha
  rw [list_of_cells args vs l h1 h3 h4]
  refine (h w).mono ?_
  rintro en w' ⟨rfl, T⟩
  exact ⟨r, v, F, rfl, rfl, conc_rep r v hr, fun _ h => h, fun _ h => .inl h, fun b h => Nat.lt_of_lt_of_le (hb b h) T.size, T⟩
end
end Go.Ab
