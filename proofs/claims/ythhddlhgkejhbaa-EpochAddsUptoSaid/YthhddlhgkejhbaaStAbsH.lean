/- What is ours changes: one object at a time. -/
import Derived.Test.YthhddlhgkejhbaaStAbsG
import Derived.Below
namespace Go.Ab
set_option linter.unusedVariables false
set_option linter.unusedSimpArgs false

/-- Of the old blocks, those that are named may have changed, no other. -/
structure Touch (w w' : World) (own : Nat → Prop) : Prop where
  os : w'.os = w.os
  tape : w'.tape = w.tape
  output : w'.output = w.output
  size : w.heap.size ≤ w'.heap.size
  block : ∀ b, b < w.heap.size → ¬ own b → w'.heap[b]? = w.heap[b]?

section
variable {C : Ctx} {H H' : List Ob} {w w' : World} {F : Nat → Prop} {e e' : Env}

theorem Owner.lt (h : HRep w F e H) {o b : Nat} (ho : Owner e H o b) : b < w.heap.size := by
  unfold Owner at ho
  split at ho
  · rename_i T cs hob
    obtain ⟨_, vs, hb, _⟩ := h.ob o _ hob
    subst ho
    exact (Array.getElem?_eq_some_iff.1 hb).1
  · rename_i el sz xs hob
    obtain ⟨n, c, hv⟩ := ho
    obtain ⟨_, _, hown⟩ := h.ob o _ hob
    rcases hown with ⟨_, hv'⟩ | ⟨b', c', vs, hv', _, hb, _⟩
    · rw [hv] at hv'; cases hv'
    · rw [hv] at hv'
      injection hv' with hv' _ _
      injection hv' with hv'
      injection hv' with hv' _ _
      subst hv'
      exact (Array.getElem?_eq_some_iff.1 hb).1
  · exact ho.elim

theorem Owner.notF (h : HRep w F e H) {o b : Nat} (ho : Owner e H o b) : ¬ F b := by
  unfold Owner at ho
  split at ho
  · rename_i T cs hob
    obtain ⟨hF, _⟩ := h.ob o _ hob
    subst ho
    exact hF
  · rename_i el sz xs hob
    obtain ⟨n, c, hv⟩ := ho
    obtain ⟨_, _, hown⟩ := h.ob o _ hob
    rcases hown with ⟨_, hv'⟩ | ⟨b', c', vs, hv', hF, hb, _⟩
    · rw [hv] at hv'; cases hv'
    · rw [hv] at hv'
      injection hv' with hv' _ _
      injection hv' with hv'
      injection hv' with hv' _ _
      subst hv'
      exact hF
  · exact ho.elim

/-- Another object, in a later world: its block stands as it stood. -/
theorem ObRep.keep {o : Nat} {ob : Ob} (hob : H[o]? = some ob) (hlt : o < e.len) (h : ObRep w F e o ob) {F' : Nat → Prop} (L : Later w F w' F') (hF' : ∀ b, F' b → F b ∨ ¬ Owner e H o b) (E : EnvLe e e') (hrl : e'.rlen o = e.rlen o) (hrv : e'.rowv o = e.rowv o)
    (hb : ∀ b, Owner e H o b → w'.heap[b]? = w.heap[b]?) : ObRep w' F' e' o ob := by
  cases ob with
  | var T cs =>
    obtain ⟨hF, vs, h1, h2, h3⟩ := h
    have hown : Owner e H o (e.blk o) := by unfold Owner; rw [hob]
    refine ⟨?_, vs, ?_, h2, fun j s hj => (h3 j s hj).mono L E⟩
    · rw [E.blk o hlt]
      intro hF2
      rcases hF' _ hF2 with h | h
      · exact hF h
      · exact h hown
    · rw [E.blk o hlt, hb _ hown]; exact h1
  | row el sz xs =>
    obtain ⟨h1, h2, h3⟩ := h
    refine ⟨by rw [hrl]; exact h1, h2, ?_⟩
    rw [hrv]
    rcases h3 with h3 | ⟨b, c, vs, hv, hF, hb', hsz, hle, hmx, hrep⟩
    · exact .inl h3
    · have hown : Owner e H o b := by unfold Owner; rw [hob]; exact ⟨_, _, hv⟩
      refine .inr ⟨b, c, vs, hv, fun hF2 => ?_, by rw [hb _ hown]; exact hb', hsz, hle, hmx, fun i cs j s hi hj => ?_⟩
      · rcases hF' _ hF2 with h | h
        · exact hF h
        · exact h hown
      · obtain ⟨y, hy, hr⟩ := hrep i cs j s hi hj
        exact ⟨y, hy, hr.mono L (EnvLe.refl _)⟩
  | frz sz xs =>
    obtain ⟨h1, h2, h3⟩ := h
    exact ⟨by rw [hrl]; exact h1, h2, by rw [hrv]; exact h3.mono L (EnvLe.refl _)⟩
  | gone => trivial

/-- One object changes (or is new). -/
theorem Mem.change (M : Mem C H w F e) (o : Nat) (ob' : Ob) (hlen : e'.len = H'.length) (hle : H.length ≤ H'.length) (hne : ∀ o', o' ≠ o → H'[o']? = H[o']?) (ho : H'[o]? = some ob')
    (E : EnvLe e e') (henv : ∀ o', o' ≠ o → o' < e.len → e'.rlen o' = e.rlen o' ∧ e'.rowv o' = e.rowv o')
    (T : Touch w w' (Owner e H o)) (hob : ObRep w' F e' o ob') (hown : ∀ b, Owner e' H' o b → Owner e H o b ∨ w.heap.size ≤ b) : Mem C H' w' F e' := by
  have L : Later w F w' F := ⟨fun _ h => h, fun b hb => T.block b (M.bound b hb) (fun h => h.notF M.heap hb)⟩
  have hold : ∀ o' b, o' ≠ o → (Owner e' H' o' b ↔ Owner e H o' b) := by
    intro o' b hn
    unfold Owner
    rw [hne o' hn]
    cases hc : H[o']? with
    | none => simp
    | some x =>
      have hlt : o' < e.len := by rw [M.heap.len]; exact (List.getElem?_eq_some_iff.1 hc).1
      cases x with
      | var T cs => simp [E.blk o' hlt]
      | row el sz xs => simp [(henv o' hn hlt).2]
      | frz sz xs => simp
      | gone => simp
  refine ⟨⟨hlen, fun o' x hx => ?_, fun o1 o2 b h1 h2 => ?_⟩, ⟨T.os.trans M.mod.os, T.tape.trans M.mod.tape, T.output.trans M.mod.output, Nat.le_trans M.mod.size T.size, fun b hb hn => ?_⟩, fun o' b hb => ?_, M.sub, fun b hb => Nat.lt_of_lt_of_le (M.bound b hb) T.size, M.fresh, M.env.trans E⟩
  · by_cases hn : o' = o
    · subst hn; rw [ho] at hx; injection hx with hx; subst hx; exact hob
    · rw [hne o' hn] at hx
      have hlt : o' < e.len := by rw [M.heap.len]; exact (List.getElem?_eq_some_iff.1 hx).1
      refine ObRep.keep hx hlt (M.heap.ob o' x hx) L (fun b hb => .inl hb) E (henv o' hn hlt).1 (henv o' hn hlt).2 (fun b hb => T.block b (hb.lt M.heap) (fun h => hn (M.heap.one _ _ _ hb h)))
  · by_cases n1 : o1 = o <;> by_cases n2 : o2 = o
    · rw [n1, n2]
    · subst n1
      have k2 := (hold o2 b n2).1 h2
      rcases hown b h1 with k | k
      · exact M.heap.one _ _ _ k k2
      · have := k2.lt M.heap; omega
    · subst n2
      have k1 := (hold o1 b n1).1 h1
      rcases hown b h2 with k | k
      · exact M.heap.one _ _ _ k1 k
      · have := k1.lt M.heap; omega
    · exact M.heap.one _ _ _ ((hold o1 b n1).1 h1) ((hold o2 b n2).1 h2)
  · rw [T.block b (Nat.lt_of_lt_of_le hb M.mod.size) (fun h => ?_)]
    · exact M.mod.block b hb hn
    · rcases M.ours _ _ h with k | k
      · omega
      · exact hn k
  · by_cases hn : o' = o
    · subst hn
      rcases hown b hb with k | k
      · exact M.ours _ _ k
      · exact .inl (Nat.le_trans M.mod.size k)
    · exact M.ours _ _ ((hold o' b hn).1 hb)

theorem Mem.later (M : Mem C H w F e) {o : Nat} (T : Touch w w' (Owner e H o)) : Later w F w' F := ⟨fun _ h => h, fun b hb => T.block b (M.bound b hb) (fun h => h.notF M.heap hb)⟩

/-! ### New objects -/
def upd {α : Type} (f : Nat → α) (d : Nat) (r : α) : Nat → α := fun t => bif Nat.beq t d then r else f t
theorem upd_same {α : Type} (f : Nat → α) (d : Nat) (r : α) : upd f d r d = r := by simp [upd]
theorem upd_other {α : Type} (f : Nat → α) (d : Nat) (r : α) {t : Nat} (h : t ≠ d) : upd f d r t = f t := by
  have : Nat.beq t d = false := by cases hb : Nat.beq t d with | false => rfl | true => exact absurd (Nat.eq_of_beq_eq_true hb) h
  simp [upd, this]

def Env.pushVar (e : Env) (b : Nat) : Env := { e with len := e.len + 1, blk := upd e.blk e.len b }
def Env.pushRow (e : Env) (n : Nat) (x : Value) : Env := { e with len := e.len + 1, rlen := upd e.rlen e.len n, rowv := upd e.rowv e.len x }

theorem EnvLe.pushVar (e : Env) (b : Nat) : EnvLe e (e.pushVar b) := ⟨by simp [Env.pushVar], fun o ho => upd_other _ _ _ (by omega), fun o ho => .inr ⟨rfl, rfl⟩⟩
theorem EnvLe.pushRow (e : Env) (n : Nat) (x : Value) : EnvLe e (e.pushRow n x) := ⟨by simp [Env.pushRow], fun o ho => rfl, fun o ho => .inr ⟨upd_other _ _ _ (by omega), upd_other _ _ _ (by omega)⟩⟩

theorem touch_alloc (w : World) (o : Obj) (own : Nat → Prop) : Touch w (w.alloc o) own :=
  ⟨rfl, rfl, rfl, by simp, fun b hb _ => RowKit.Below.heap_alloc w o b hb⟩

theorem getElem?_push_old {o' : Nat} (x : Ob) (hn : o' ≠ H.length) : (H ++ [x])[o']? = H[o']? := by
  rcases Nat.lt_or_ge o' H.length with h | h
  · rw [List.getElem?_append_left h]
  · rw [List.getElem?_eq_none (by simp; omega), List.getElem?_eq_none h]

theorem Mem.pushVar (M : Mem C H w F e) {T : TypeId} {cs : List AV} {vs : Array Value} (hr : RepCells w F e cs vs) :
    Mem C (H ++ [.var T cs]) (w.alloc (.cells vs T)) F (e.pushVar w.heap.size) := by
  have hlen := M.heap.len
  refine M.change (o := H.length) (.var T cs) (by simp [Env.pushVar, hlen]) (by simp) (fun o' hn => getElem?_push_old _ hn) (by simp) (EnvLe.pushVar e _) (fun o' _ _ => ⟨rfl, rfl⟩) (touch_alloc w _ _) ?_ ?_
  · have hb : (e.pushVar w.heap.size).blk H.length = w.heap.size := by simp only [Env.pushVar]; rw [← hlen]; exact upd_same _ _ _
    refine ⟨?_, vs, ?_, hr.1, fun j s hj => (hr.2 j s hj).mono (M.later (touch_alloc w _ (Owner e H H.length))) (EnvLe.pushVar e _)⟩
    · rw [hb]; intro hF; exact absurd (M.bound _ hF) (by omega)
    · rw [hb]; exact heap_alloc_new w _
  · intro b hb
    unfold Owner at hb
    simp at hb
    have : (e.pushVar w.heap.size).blk H.length = w.heap.size := by simp only [Env.pushVar]; rw [← hlen]; exact upd_same _ _ _
    rw [this] at hb
    exact .inr (by omega)

end
end Go.Ab
