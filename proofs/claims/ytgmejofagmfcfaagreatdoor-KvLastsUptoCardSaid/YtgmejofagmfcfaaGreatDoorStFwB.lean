/- What is ours changes: one object at a time. -/
import Derived.Test.YtgmejofagmfcfaaGreatDoorStFwA
import Derived.Below
namespace Go.Ab
set_option linter.unusedVariables false
set_option linter.unusedSimpArgs false

/-- Of the old blocks, those that are named may have changed, no other. -/
structure Touch (w w' : World) (own : Nat → Prop) : Prop where
  os : w'.os = w.os
  tape : w'.tape = w.tape
  output : w'.output = w.output
  size : w.heap.size ≤ w'.heap.size
  block : ∀ b, b < w.heap.size → ¬ own b → w'.heap[b]? = w.heap[b]?

section
variable {C : Ctx} {H H' : List Ob} {w w' : World} {F : Nat → Prop} {e e' : Env}

theorem Owner.lt (h : HRep w F e H) {o b : Nat} (ho : Owner e H o b) : b < w.heap.size := by
  unfold Owner at ho
  split at ho
  · rename_i T cs hob
    obtain ⟨_, vs, hb, _⟩ := h.ob o _ hob
    subst ho
    exact (Array.getElem?_eq_some_iff.1 hb).1
  · rename_i el sz xs hob
    obtain ⟨n, c, hv⟩ := ho
    obtain ⟨_, _, hown⟩ := h.ob o _ hob
    rcases hown with ⟨_, hv'⟩ | ⟨b', c', vs, hv', _, hb, _⟩
    · rw [hv] at hv'; cases hv'
    · rw [hv] at hv'
      injection hv' with hv' _ _
      injection hv' with hv'
      injection hv' with hv' _ _
      subst hv'
      exact (Array.getElem?_eq_some_iff.1 hb).1
  · rename_i R hob
    obtain ⟨_, x, hb, _⟩ := h.ob o _ hob
    subst ho
    exact (Array.getElem?_eq_some_iff.1 hb).1
  · exact ho.elim

theorem Owner.notF (h : HRep w F e H) {o b : Nat} (ho : Owner e H o b) : ¬ F b := by
  unfold Owner at ho
  split at ho
  · rename_i T cs hob
    obtain ⟨hF, _⟩ := h.ob o _ hob
    subst ho
    exact hF
  · rename_i el sz xs hob
    obtain ⟨n, c, hv⟩ := ho
    obtain ⟨_, _, hown⟩ := h.ob o _ hob
    rcases hown with ⟨_, hv'⟩ | ⟨b', c', vs, hv', hF, hb, _⟩
    · rw [hv] at hv'; cases hv'
    · rw [hv] at hv'
      injection hv' with hv' _ _
      injection hv' with hv'
      injection hv' with hv' _ _
      subst hv'
      exact hF
  · rename_i R hob
    obtain ⟨hF, _⟩ := h.ob o _ hob
    subst ho
    exact hF
  · exact ho.elim

/-- Another object, in a later world: its block stands as it stood. -/
theorem ObRep.keep {o : Nat} {ob : Ob} (hob : H[o]? = some ob) (hlt : o < e.len) (h : ObRep w F e o ob) {F' : Nat → Prop} (L : Later w F w' F') (hF' : ∀ b, F' b → F b ∨ ¬ Owner e H o b) (E : EnvLe e e') (hrl : e'.rlen o = e.rlen o) (hrv : e'.rowv o = e.rowv o)
    (hb : ∀ b, Owner e H o b → w'.heap[b]? = w.heap[b]?) : ObRep w' F' e' o ob := by
  cases ob with
  | var T cs =>
    obtain ⟨hF, vs, h1, h2, h3⟩ := h
    have hown : Owner e H o (e.blk o) := by unfold Owner; rw [hob]
    refine ⟨?_, vs, ?_, h2, fun j s hj => (h3 j s hj).mono L E⟩
    · rw [E.blk o hlt]
      intro hF2
      rcases hF' _ hF2 with h | h
      · exact hF h
      · exact h hown
    · rw [E.blk o hlt, hb _ hown]; exact h1
  | row el sz xs =>
    obtain ⟨h1, h2, h3⟩ := h
    refine ⟨by rw [hrl]; exact h1, h2, ?_⟩
    rw [hrv]
    rcases h3 with h3 | ⟨b, c, vs, hv, hF, hb', hsz, hle, hmx, hrep⟩
    · exact .inl h3
    · have hown : Owner e H o b := by unfold Owner; rw [hob]; exact ⟨_, _, hv⟩
      refine .inr ⟨b, c, vs, hv, fun hF2 => ?_, by rw [hb _ hown]; exact hb', hsz, hle, hmx, fun i cs j s hi hj => ?_⟩
      · rcases hF' _ hF2 with h | h
        · exact hF h
        · exact h hown
      · obtain ⟨y, hy, hr⟩ := hrep i cs j s hi hj
        exact ⟨y, hy, hr.mono L (EnvLe.refl _)⟩
  | frz sz xs =>
    obtain ⟨h1, h2, h3⟩ := h
    exact ⟨by rw [hrl]; exact h1, h2, by rw [hrv]; exact h3.mono L (EnvLe.refl _)⟩
  | ext R =>
    obtain ⟨hF, x, h1, h2⟩ := h
    have hown : Owner e H o (e.blk o) := by unfold Owner; rw [hob]
    refine ⟨?_, x, ?_, h2⟩
    · rw [E.blk o hlt]
      intro hF2
      rcases hF' _ hF2 with h | h
      · exact hF h
      · exact h hown
    · rw [E.blk o hlt, hb _ hown]; exact h1
  | gone => trivial

/-- One object changes (or is new). -/
theorem Mem.change (M : Mem C H w F e) (o : Nat) (ob' : Ob) (hlen : e'.len = H'.length) (hle : H.length ≤ H'.length) (hne : ∀ o', o' ≠ o → H'[o']? = H[o']?) (ho : H'[o]? = some ob')
    (E : EnvLe e e') (henv : ∀ o', o' ≠ o → o' < e.len → e'.rlen o' = e.rlen o' ∧ e'.rowv o' = e.rowv o')
    (T : Touch w w' (Owner e H o)) (hob : ObRep w' F e' o ob') (hown : ∀ b, Owner e' H' o b → Owner e H o b ∨ w.heap.size ≤ b) : Mem C H' w' F e' := by
  have L : Later w F w' F := ⟨fun _ h => h, fun b hb => T.block b (M.bound b hb) (fun h => h.notF M.heap hb)⟩
  have hold : ∀ o' b, o' ≠ o → (Owner e' H' o' b ↔ Owner e H o' b) := by
    intro o' b hn
    unfold Owner
    rw [hne o' hn]
    cases hc : H[o']? with
    | none => simp
    | some x =>
      have hlt : o' < e.len := by rw [M.heap.len]; exact (List.getElem?_eq_some_iff.1 hc).1
      cases x with
      | var T cs => simp [E.blk o' hlt]
      | row el sz xs => simp [(henv o' hn hlt).2]
      | frz sz xs => simp
      | ext R => simp [E.blk o' hlt]
      | gone => simp
  refine ⟨⟨hlen, fun o' x hx => ?_, fun o1 o2 b h1 h2 => ?_⟩, ⟨T.os.trans M.mod.os, T.tape.trans M.mod.tape, T.output.trans M.mod.output, Nat.le_trans M.mod.size T.size, fun b hb hn => ?_⟩, fun o' b hb => ?_, M.sub, fun b hb => Nat.lt_of_lt_of_le (M.bound b hb) T.size, M.fresh, M.env.trans E, M.g⟩
  · by_cases hn : o' = o
    · subst hn; rw [ho] at hx; injection hx with hx; subst hx; exact hob
    · rw [hne o' hn] at hx
      have hlt : o' < e.len := by rw [M.heap.len]; exact (List.getElem?_eq_some_iff.1 hx).1
      refine ObRep.keep hx hlt (M.heap.ob o' x hx) L (fun b hb => .inl hb) E (henv o' hn hlt).1 (henv o' hn hlt).2 (fun b hb => T.block b (hb.lt M.heap) (fun h => hn (M.heap.one _ _ _ hb h)))
  · by_cases n1 : o1 = o <;> by_cases n2 : o2 = o
    · rw [n1, n2]
    · subst n1
      have k2 := (hold o2 b n2).1 h2
      rcases hown b h1 with k | k
      · exact M.heap.one _ _ _ k k2
      · have := k2.lt M.heap; omega
    · subst n2
      have k1 := (hold o1 b n1).1 h1
      rcases hown b h2 with k | k
      · exact M.heap.one _ _ _ k1 k
      · have := k1.lt M.heap; omega
    · exact M.heap.one _ _ _ ((hold o1 b n1).1 h1) ((hold o2 b n2).1 h2)
  · rw [T.block b (Nat.lt_of_lt_of_le hb M.mod.size) (fun h => ?_)]
    · exact M.mod.block b hb hn
    · rcases M.ours _ _ h with k | k
      · omega
      · exact hn k
  · by_cases hn : o' = o
    · subst hn
      rcases hown b hb with k | k
      · exact M.ours _ _ k
      · exact .inl (Nat.le_trans M.mod.size k)
    · exact M.ours _ _ ((hold o' b hn).1 hb)

theorem Mem.later (M : Mem C H w F e) {o : Nat} (T : Touch w w' (Owner e H o)) : Later w F w' F := ⟨fun _ h => h, fun b hb => T.block b (M.bound b hb) (fun h => h.notF M.heap hb)⟩

/-! ### New objects -/
def upd {α : Type} (f : Nat → α) (d : Nat) (r : α) : Nat → α := fun t => bif Nat.beq t d then r else f t
theorem upd_same {α : Type} (f : Nat → α) (d : Nat) (r : α) : upd f d r d = r := by simp [upd]
theorem upd_other {α : Type} (f : Nat → α) (d : Nat) (r : α) {t : Nat} (h : t ≠ d) : upd f d r t = f t := by
  have : Nat.beq t d = false := by cases hb : Nat.beq t d with | false => rfl | true => exact absurd (Nat.eq_of_beq_eq_true hb) h
  simp [upd, this]

def Env.pushVar (e : Env) (b : Nat) : Env := { e with len := e.len + 1, blk := upd e.blk e.len b }
def Env.pushRow (e : Env) (n : Nat) (x : Value) : Env := { e with len := e.len + 1, rlen := upd e.rlen e.len n, rowv := upd e.rowv e.len x }

theorem EnvLe.pushVar (e : Env) (b : Nat) : EnvLe e (e.pushVar b) := ⟨by simp [Env.pushVar], fun o ho => upd_other _ _ _ (by omega), fun o ho => .inr ⟨rfl, rfl⟩⟩
theorem EnvLe.pushRow (e : Env) (n : Nat) (x : Value) : EnvLe e (e.pushRow n x) := ⟨by simp [Env.pushRow], fun o ho => rfl, fun o ho => .inr ⟨upd_other _ _ _ (by omega), upd_other _ _ _ (by omega)⟩⟩

theorem touch_alloc (w : World) (o : Obj) (own : Nat → Prop) : Touch w (w.alloc o) own :=
  ⟨rfl, rfl, rfl, by simp, fun b hb _ => RowKit.Below.heap_alloc w o b hb⟩

theorem getElem?_push_old {o' : Nat} (x : Ob) (hn : o' ≠ H.length) : (H ++ [x])[o']? = H[o']? := by
  rcases Nat.lt_or_ge o' H.length with h | h
  · rw [List.getElem?_append_left h]
  · rw [List.getElem?_eq_none (by simp; omega), List.getElem?_eq_none h]

theorem Mem.pushVar (M : Mem C H w F e) {T : TypeId} {cs : List AV} {vs : Array Value} (hr : RepCells w F e cs vs) :
    Mem C (H ++ [.var T cs]) (w.alloc (.cells vs T)) F (e.pushVar w.heap.size) := by
  have hlen := M.heap.len
  refine M.change (o := H.length) (.var T cs) (by simp [Env.pushVar, hlen]) (by simp) (fun o' hn => getElem?_push_old _ hn) (by simp) (EnvLe.pushVar e _) (fun o' _ _ => ⟨rfl, rfl⟩) (touch_alloc w _ _) ?_ ?_
  · have hb : (e.pushVar w.heap.size).blk H.length = w.heap.size := by simp only [Env.pushVar]; rw [← hlen]; exact upd_same _ _ _
    refine ⟨?_, vs, ?_, hr.1, fun j s hj => (hr.2 j s hj).mono (M.later (touch_alloc w _ (Owner e H H.length))) (EnvLe.pushVar e _)⟩
    · rw [hb]; intro hF; exact absurd (M.bound _ hF) (by omega)
    · rw [hb]; exact heap_alloc_new w _
  · intro b hb
    unfold Owner at hb
    simp at hb
    have : (e.pushVar w.heap.size).blk H.length = w.heap.size := by simp only [Env.pushVar]; rw [← hlen]; exact upd_same _ _ _
    rw [this] at hb
    exact .inr (by omega)

end
end Go.Ab

/- Stores, new rows, append: what they do to what is ours. -/
namespace Go.Ab
set_option linter.unusedVariables false
set_option linter.unusedSimpArgs false
section
variable {P : Program} {C : Ctx} {H H' : List Ob} {w w' : World} {F : Nat → Prop} {e e' : Env}

theorem Touch.refl (w : World) (own : Nat → Prop) : Touch w w own := ⟨rfl, rfl, rfl, Nat.le_refl _, fun _ _ _ => rfl⟩
theorem Touch.trans {a b c : World} {own : Nat → Prop} (h : Touch a b own) (k : Touch b c own) : Touch a c own :=
  ⟨k.os.trans h.os, k.tape.trans h.tape, k.output.trans h.output, Nat.le_trans h.size k.size, fun i hi hn => (k.block i (Nat.lt_of_lt_of_le hi h.size) hn).trans (h.block i hi hn)⟩
theorem Touch.mono {a b : World} {own own' : Nat → Prop} (h : Touch a b own) (hs : ∀ i, own i → own' i) : Touch a b own' :=
  ⟨h.os, h.tape, h.output, h.size, fun i hi hn => h.block i hi (fun k => hn (hs i k))⟩

theorem run_storeCells (b off : Nat) (T : TypeId) : ∀ (us : List Value) (i : Nat) (vs : Array Value) (w : World), w.heap[b]? = some (.cells vs T (0, 0)) → off + i + us.length ≤ vs.size → (∀ u ∈ us, u.oneCell' = true) →
    ∃ w', (storeCells ⟨b, off, none⟩ us i).run P w = .ok () w' ∧ Touch w w' (· = b) ∧ w'.heap.size = w.heap.size ∧
      w'.heap[b]? = some (.cells ((us.zipIdx i).foldl (fun c p => c.setIfInBounds (off + p.2) p.1) vs) T (0, 0)) := by
  intro us
  induction us with
  | nil => intro i vs w hb _ _; exact ⟨w, rfl, Touch.refl _ _, rfl, by simpa using hb⟩
  | cons u r ih =>
    intro i vs w hb hle h1
    have hadd : (⟨b, off, none⟩ : Addr).add i = ⟨b, off + i, none⟩ := addr_add rfl i
    have hlt : off + i < vs.size := by simp at hle; omega
    have hcell : w.cell? ⟨b, off + i, none⟩ = some (vs[off + i]'hlt) := by
      rw [cell_of_row w b (off + i) vs T _ hb, Array.getElem?_eq_getElem hlt]
    have hfz := frozen_of_row w b (off + i) vs T hb
    have hs := heap_setCell_same w b (off + i) vs T u hb
    obtain ⟨w', h2, h3, h4, h5⟩ := ih (i + 1) (vs.setIfInBounds (off + i) u) _ hs (by simp at hle ⊢; omega) (fun x hx => h1 x (List.mem_cons_of_mem _ hx))
    have ht : Touch w (w.setCell ⟨b, off + i, none⟩ u) (· = b) := ⟨rfl, rfl, rfl, by simp, fun k hk hn => heap_setCell_other w ⟨b, off + i, none⟩ k u hn⟩
    refine ⟨w', ?_, ht.trans h3, by rw [h4]; simp, by simpa using h5⟩
    unfold storeCells
    rw [Sem.run_bind, hadd, run_store P w _ u .plain (h1 u (List.mem_cons_self ..)), hcell]
    simp only [hfz, Bool.false_eq_true, if_false, Result.andThen_ok]
    exact h2

theorem ones_values {cs : List AV} (h : ones cs = true) {vs : Array Value} (hr : RepCells w F e cs vs) : ∀ u ∈ vs.toList, u.oneCell' = true := by
  intro u hu
  obtain ⟨j, hj, hju⟩ := List.getElem_of_mem hu
  have hlt : j < cs.length := by rw [← hr.1]; simpa using hj
  have h1 := List.all_eq_true.1 h cs[j] (List.getElem_mem _)
  have := hr.2 j cs[j] (List.getElem?_eq_getElem hlt)
  have hv : vs.getD j undef = u := by
    rw [Array.getD_eq_getD_getElem?]
    rw [← hju]
    simp at hj ⊢
    simp [hj]
  rw [hv] at this
  exact one_value h1 this

theorem Mem.store (M : Mem C H w F e) {o off : Nat} {T : TypeId} {cs ys : List AV} {us : Array Value} (ho : H[o]? = some (.var T cs)) (hr : RepCells w F e ys us) (h1 : ones ys = true) (hle : off + ys.length ≤ cs.length) :
    ∃ w', (storeCells ⟨e.blk o, off, none⟩ us.toList).run P w = .ok () w' ∧ Agree (fun _ => False) w w' = Agree (fun _ => False) w w' ∧ w'.heap.size = w.heap.size ∧ Mem C (H.set o (.var T (putCells cs off ys))) w' F e := by
  obtain ⟨vs, hb, hsz, hF, hrep⟩ := M.heap.var ho
  have hlt : o < H.length := (List.getElem?_eq_some_iff.1 ho).1
  obtain ⟨w', h2, h3, h4, h5⟩ := run_storeCells (P := P) (e.blk o) off T us.toList 0 vs w hb (by have := hr.1; simp; omega) (ones_values h1 hr)
  have hown : ∀ b, b = e.blk o → Owner e H o b := fun b hbb => by unfold Owner; rw [ho]; exact hbb.symm
  refine ⟨w', h2, rfl, h4, M.change (o := o) (.var T (putCells cs off ys)) (by simp [M.heap.len]) (by simp) (fun o' hn => by rw [List.getElem?_set_ne (Ne.symm hn)]) (by simp [hlt]) (EnvLe.refl e) (fun o' _ _ => ⟨rfl, rfl⟩) (h3.mono hown) ?_ ?_⟩
  · refine ⟨hF, _, h5, ?_⟩
    have L : Later w F w' F := M.later (h3.mono hown)
    have h6 : RepCells w' F e cs vs := ⟨hsz, fun j s hj => (hrep j s hj).mono L (EnvLe.refl e)⟩
    have := putCells_sound (w := w') (F := F) (e := e) off ys us.toList 0 cs vs (by rw [Array.length_toList]; exact hr.1) (fun j s hj => by
      have := (hr.2 j s hj).mono L (EnvLe.refl e)
      have hlt : j < us.size := by rw [hr.1]; exact (List.getElem?_eq_some_iff.1 hj).1
      simpa [List.getD_eq_getElem?_getD, Array.getD_eq_getD_getElem?, Array.getElem?_eq_getElem hlt] using this) h6
    exact this
  · intro b hb'
    unfold Owner at hb'
    simp [hlt] at hb'
    exact .inl (hown b hb'.symm)

/-! ### Rows -/
/-- A row's elements, laid one behind another. -/
def Flat (w : World) (F : Nat → Prop) (sz : Nat) (xs : List (List AV)) (vs : List Value) : Prop :=
  vs.length = xs.length * sz ∧ (∀ (i : Nat) cs, xs[i]? = some cs → cs.length = sz ∧ ones cs = true) ∧
  ∀ (i : Nat) (cs : List AV) (j : Nat) s, xs[i]? = some cs → cs[j]? = some s → ∃ y, vs[i * sz + j]? = some y ∧ Rep w F Env.nil s y

theorem idx_lt {i j n sz : Nat} (hi : i < n) (hj : j < sz) : i * sz + j < n * sz := by
  have : i * sz + sz ≤ n * sz := by rw [← Nat.succ_mul]; exact Nat.mul_le_mul_right _ hi
  omega

theorem Flat.append {sz : Nat} {xs ys : List (List AV)} {vs us : List Value} (h : Flat w F sz xs vs) (k : Flat w F sz ys us) : Flat w F sz (xs ++ ys) (vs ++ us) := by
  refine ⟨by rw [List.length_append, List.length_append, h.1, k.1, Nat.add_mul], fun i cs hi => ?_, fun i cs j s hi hj => ?_⟩
  · rcases Nat.lt_or_ge i xs.length with hlt | hge
    · rw [List.getElem?_append_left hlt] at hi; exact h.2.1 i cs hi
    · rw [List.getElem?_append_right hge] at hi; exact k.2.1 _ cs hi
  · rcases Nat.lt_or_ge i xs.length with hlt | hge
    · rw [List.getElem?_append_left hlt] at hi
      obtain ⟨y, hy, hr⟩ := h.2.2 i cs j s hi hj
      refine ⟨y, ?_, hr⟩
      rw [List.getElem?_append_left (by rw [h.1]; exact idx_lt hlt (by rw [← (h.2.1 i cs hi).1]; exact (List.getElem?_eq_some_iff.1 hj).1))]
      exact hy
    · rw [List.getElem?_append_right hge] at hi
      obtain ⟨y, hy, hr⟩ := k.2.2 _ cs j s hi hj
      refine ⟨y, ?_, hr⟩
      have he : i * sz + j = vs.length + ((i - xs.length) * sz + j) := by
        rw [h.1, ← Nat.add_assoc, ← Nat.add_mul]; congr 2; omega
      rw [he, List.getElem?_append_right (by omega)]
      simpa using hy

theorem Flat.mono {sz : Nat} {xs : List (List AV)} {vs : List Value} (h : Flat w F sz xs vs) {F' : Nat → Prop} (L : Later w F w' F') : Flat w' F' sz xs vs :=
  ⟨h.1, h.2.1, fun i cs j s hi hj => let ⟨y, hy, hr⟩ := h.2.2 i cs j s hi hj; ⟨y, hy, hr.mono L (EnvLe.refl _)⟩⟩

/-- Our row is owned as the library has it. -/
theorem OwnRow.owns {el sz : Nat} {xs : List (List AV)} {x : Value} (h : OwnRow w F el sz xs x) : ∃ vs, Flat w F sz xs vs ∧ w.ownsRow 0 el sz x xs.length vs := by
  obtain ⟨hsz, h⟩ := h
  rcases h with ⟨rfl, rfl⟩ | ⟨b, c, vs, rfl, hF, hb, hvs, hle, hmx, hrep⟩
  · exact ⟨[], ⟨by simp, by simp, by simp⟩, by simpa using World.ownsRow_nil w 0 el sz⟩
  · have hlen : xs.length * sz ≤ vs.size := by rw [hvs]; exact Nat.mul_le_mul_right _ hle
    refine ⟨vs.toList.take (xs.length * sz), ⟨by simp; omega, hsz, fun i cs j s hi hj => ?_⟩, ⟨by simp; omega, .inr ⟨b, c, vs, rfl, Nat.zero_le _, hb, hle, hmx, hvs, rfl⟩⟩⟩
    obtain ⟨y, hy, hr⟩ := hrep i cs j s hi hj
    refine ⟨y, ?_, hr⟩
    rw [List.getElem?_take_of_lt (idx_lt (List.getElem?_eq_some_iff.1 hi).1 (by rw [← (hsz i cs hi).1]; exact (List.getElem?_eq_some_iff.1 hj).1))]
    simpa using hy

theorem OwnRow.of_owns {el sz : Nat} {xs : List (List AV)} {x : Value} {vs : List Value} (hf : Flat w F sz xs vs) (h : w.ownsRow 0 el sz x xs.length vs) (hF : ∀ b, x.ownBlock = some b → ¬ F b) : OwnRow w F el sz xs x := by
  refine ⟨hf.2.1, ?_⟩
  obtain ⟨h1, h2⟩ := h
  rcases h2 with ⟨rfl, hn⟩ | ⟨g, cap, cur, rfl, _, hb, hle, hmx, hcs, htk⟩
  · exact .inl ⟨List.length_eq_zero_iff.1 hn, rfl⟩
  · refine .inr ⟨g, cap, cur, rfl, hF g rfl, hb, hcs, hle, hmx, fun i cs j s hi hj => ?_⟩
    obtain ⟨y, hy, hr⟩ := hf.2.2 i cs j s hi hj
    refine ⟨y, ?_, hr⟩
    rw [← htk, List.getElem?_take_of_lt (idx_lt (List.getElem?_eq_some_iff.1 hi).1 (by rw [← (hf.2.1 i cs hi).1]; exact (List.getElem?_eq_some_iff.1 hj).1))] at hy
    simpa using hy

end
end Go.Ab

/- New rows; rows that grow. -/
namespace Go.Ab
set_option linter.unusedVariables false
set_option linter.unusedSimpArgs false
section
variable {P : Program} {C : Ctx} {H H' : List Ob} {w w' : World} {F : Nat → Prop} {e e' : Env}

theorem Mem.pushRow (M : Mem C H w F e) {el sz : Nat} {xs : List (List AV)} {x : Value} (T : Touch w w' (fun _ => False)) (hr : OwnRow w' F el sz xs x) (hb : ∀ b, x.ownBlock = some b → w.heap.size ≤ b) :
    Mem C (H ++ [.row el sz xs]) w' F (e.pushRow xs.length x) := by
  have hlen := M.heap.len
  have h1 : (e.pushRow xs.length x).rlen H.length = xs.length := by simp only [Env.pushRow]; rw [← hlen]; exact upd_same _ _ _
  have h2 : (e.pushRow xs.length x).rowv H.length = x := by simp only [Env.pushRow]; rw [← hlen]; exact upd_same _ _ _
  refine M.change (o := H.length) (.row el sz xs) (by simp [Env.pushRow, hlen]) (by simp) (fun o' hn => getElem?_push_old _ hn) (by simp) (EnvLe.pushRow e _ _) (fun o' hn ho => ?_) (T.mono fun _ h => h.elim) ?_ ?_
  · constructor <;> exact upd_other _ _ _ (by omega)
  · exact ⟨h1, by rw [h2]; exact hr⟩
  · intro b hb'
    unfold Owner at hb'
    simp at hb'
    obtain ⟨n, c, hv⟩ := hb'
    rw [h2] at hv
    exact .inr (hb b (by rw [hv]; rfl))

def Env.setRow (e : Env) (o n : Nat) (x : Value) : Env := { e with rlen := upd e.rlen o n, rowv := upd e.rowv o x }

theorem Mem.growRow (M : Mem C H w F e) {o el sz : Nat} {xs ys : List (List AV)} {x : Value} (ho : H[o]? = some (.row el sz xs)) (T : Touch w w' (Owner e H o)) (hr : OwnRow w' F el sz ys x)
    (hb : ∀ b, x.ownBlock = some b → Owner e H o b ∨ w.heap.size ≤ b) (hl : xs.length < ys.length ∨ (xs.length = ys.length ∧ x = e.rowv o)) :
    Mem C (H.set o (.row el sz ys)) w' F (e.setRow o ys.length x) := by
  have hlt : o < H.length := (List.getElem?_eq_some_iff.1 ho).1
  obtain ⟨hrl, hown⟩ := M.heap.ob o _ ho
  have h1 : (e.setRow o ys.length x).rlen o = ys.length := upd_same _ _ _
  have h2 : (e.setRow o ys.length x).rowv o = x := upd_same _ _ _
  refine M.change (o := o) (.row el sz ys) (by simp [Env.setRow, M.heap.len]) (by simp) (fun o' hn => by rw [List.getElem?_set_ne (Ne.symm hn)]) (by simp [hlt]) ⟨Nat.le_refl _, fun _ _ => rfl, fun o' ho' => ?_⟩ (fun o' hn ho => ?_) T ?_ ?_
  · by_cases hn : o' = o
    · subst hn
      rw [h1, h2, hrl]
      rcases hl with hl | ⟨hl, hx⟩
      · exact .inl hl
      · exact .inr ⟨hl.symm, hx⟩
    · exact .inr ⟨upd_other _ _ _ hn, upd_other _ _ _ hn⟩
  · exact ⟨upd_other _ _ _ hn, upd_other _ _ _ hn⟩
  · exact ⟨h1, by rw [h2]; exact hr⟩
  · intro b hb'
    unfold Owner at hb'
    simp [hlt] at hb'
    obtain ⟨n, c, hv⟩ := hb'
    rw [h2] at hv
    exact hb b (by rw [hv]; rfl)

/-- What is appended: its cells, readable. -/
structure Src (w : World) (F : Nat → Prop) (sz : Nat) (ys : List (List AV)) (x : Value) : Prop where
  mk :: (out : ∃ A c news, x = .slice A ys.length c ∧ Flat w F sz ys news ∧ (∀ u ∈ news, u.oneCell' = true) ∧ (ys ≠ [] → ∃ a, A = some a ∧ ∀ (j : Nat) u, news[j]? = some u → w.cell? (a.add j) = some u))

theorem flat_ones {sz : Nat} {xs : List (List AV)} {vs : List Value} (h : Flat w F sz xs vs) : ∀ u ∈ vs, u.oneCell' = true := by
  intro u hu
  obtain ⟨q, hq, hqu⟩ := List.getElem_of_mem hu
  rw [h.1] at hq
  have hsz : 0 < sz := by
    rcases Nat.eq_zero_or_pos sz with h0 | h0
    · subst h0; simp at hq
    · exact h0
  have hi : q / sz < xs.length := by rw [Nat.div_lt_iff_lt_mul hsz]; exact hq
  have hj : q % sz < sz := Nat.mod_lt _ hsz
  obtain ⟨hl, h1⟩ := h.2.1 _ _ (List.getElem?_eq_getElem hi)
  obtain ⟨y, hy, hr⟩ := h.2.2 (q / sz) _ (q % sz) _ (List.getElem?_eq_getElem hi) (List.getElem?_eq_getElem (by rw [hl]; exact hj))
  have e1 : q / sz * sz + q % sz = q := Nat.div_add_mod' q sz
  rw [e1] at hy
  have : vs[q]? = some u := by rw [List.getElem?_eq_getElem (by rw [h.1]; exact hq), hqu]
  rw [this] at hy
  injection hy with hy
  subst hy
  exact one_value (List.all_eq_true.1 h1 _ (List.getElem_mem _)) hr

theorem src_sl {sz : Nat} {ys : List (List AV)} {x : Value} (h : Rep w F e (.sl ys) x) (hall : ∀ cs ∈ ys, cs.length = sz) : Src w F sz ys x := by
  cases h with
  | @sl _ _ A c sz' a vals hc hA hsz hone hcell hrep =>
    by_cases hne : ys = []
    · subst hne
      exact ⟨⟨A, c, [], rfl, ⟨by simp, by simp, by simp⟩, by simp, fun h => absurd rfl h⟩⟩
    · obtain ⟨hA1, hA2, hA3⟩ := hA hne
      obtain ⟨y0, r0, rfl⟩ := List.exists_cons_of_ne_nil hne
      have hs' : sz' = sz := by rw [← hsz 0 y0 rfl]; exact hall y0 (List.mem_cons_self ..)
      subst hs'
      rcases Nat.eq_zero_or_pos sz' with h0 | hpos
      · subst h0
        exact ⟨⟨A, c, [], rfl, ⟨by simp, fun i cs hi => ⟨hsz i cs hi, hone i cs hi⟩, fun i cs j s hi hj => by have := hsz i cs hi; have := (List.getElem?_eq_some_iff.1 hj).1; omega⟩, by simp, fun _ => ⟨a, hA1, fun j u hu => by simp at hu⟩⟩⟩
      · generalize hys : y0 :: r0 = ys at *
        have hget : ∀ (q : Nat), q < ys.length * sz' → ((List.range (ys.length * sz')).map fun q => vals (q / sz') (q % sz'))[q]? = some (vals (q / sz') (q % sz')) := by
          intro q hq; simp [hq]
        have hfl : Flat w F sz' ys ((List.range (ys.length * sz')).map fun q => vals (q / sz') (q % sz')) := by
          refine ⟨by simp, fun i cs hi => ⟨hsz i cs hi, hone i cs hi⟩, fun i cs j s hi hj => ⟨vals i j, ?_, hrep i cs j s hi hj⟩⟩
          have hi' := (List.getElem?_eq_some_iff.1 hi).1
          have hj' : j < sz' := by rw [← hsz i cs hi]; exact (List.getElem?_eq_some_iff.1 hj).1
          rw [hget _ (idx_lt hi' hj')]
          have e1 : (i * sz' + j) / sz' = i := by rw [Nat.mul_comm, Nat.mul_add_div hpos, Nat.div_eq_of_lt hj']; omega
          have e2 : (i * sz' + j) % sz' = j := by rw [Nat.mul_comm, Nat.mul_add_mod, Nat.mod_eq_of_lt hj']
          rw [e1, e2]
        refine ⟨⟨A, c, _, rfl, hfl, flat_ones hfl, fun _ => ⟨a, hA1, fun q u hu => ?_⟩⟩⟩
        have hq : q < ys.length * sz' := by have := (List.getElem?_eq_some_iff.1 hu).1; simpa using this
        rw [hget q hq] at hu
        injection hu with hu
        subst hu
        have hi : q / sz' < ys.length := by rw [Nat.div_lt_iff_lt_mul hpos]; exact hq
        have hj : q % sz' < (ys[q / sz']).length := by rw [hsz _ _ (List.getElem?_eq_getElem hi)]; exact Nat.mod_lt _ hpos
        have := hcell _ _ _ _ (List.getElem?_eq_getElem hi) (List.getElem?_eq_getElem hj)
        rw [addr_add hA3]
        rw [Nat.add_assoc, Nat.div_add_mod'] at this
        exact this

theorem src_row {el sz : Nat} {ys : List (List AV)} {x : Value} (h : OwnRow w F el sz ys x) : Src w F sz ys x := by
  obtain ⟨hsz, h⟩ := h
  rcases h with ⟨rfl, rfl⟩ | ⟨b, c, vs, rfl, hF, hb, hvs, hle, hmx, hrep⟩
  · exact ⟨⟨none, 0, [], rfl, ⟨by simp, by simp, by simp⟩, by simp, fun h => absurd rfl h⟩⟩
  · have hlen : ys.length * sz ≤ vs.size := by rw [hvs]; exact Nat.mul_le_mul_right _ hle
    have hfl : Flat w F sz ys (vs.toList.take (ys.length * sz)) := by
      refine ⟨by simp; omega, hsz, fun i cs j s hi hj => ?_⟩
      obtain ⟨y, hy, hr⟩ := hrep i cs j s hi hj
      refine ⟨y, ?_, hr⟩
      rw [List.getElem?_take_of_lt (idx_lt (List.getElem?_eq_some_iff.1 hi).1 (by rw [← (hsz i cs hi).1]; exact (List.getElem?_eq_some_iff.1 hj).1))]
      simpa using hy
    refine ⟨⟨_, c, _, rfl, hfl, flat_ones hfl, fun _ => ⟨_, rfl, fun j u hu => ?_⟩⟩⟩
    rw [addr_add rfl, Nat.zero_add, cell_of_row w b j vs el _ hb]
    have hj : j < ys.length * sz := by
      have := (List.getElem?_eq_some_iff.1 hu).1
      rw [List.length_take] at this
      omega
    rw [List.getElem?_take_of_lt hj] at hu
    simpa using hu

theorem run_append_zero {t el : TypeId} {te : TI} (ht : P.underlying t = some (.slice el)) (ge : TGood P el te) (ty : TypeId) (B A : Option Addr) (n c c' : Nat) (h : n ≤ c) (w : World) :
    (Builtin.append_ #[t, t] ty #[.slice B n c, .slice A 0 c']).run P w = .ok (.slice B n c) w := by
  cases B <;> cases A <;> simp [Builtin.append_, run_underlying ht, ge.sizeOf w, Builtin.lenOf, Builtin.firstCells, h, loadCells, loadCellsFrom, storeCells]

/-- append to a row that is ours. -/
theorem append_sound {t el : TypeId} {te : TI} (ht : P.underlying t = some (.slice el)) (ge : TGood P el te) (hz : 0 < te.size) (ty : TypeId) {xs ys : List (List AV)} {v x : Value} (hrow : OwnRow w F el te.size xs v) (hsrc : Src w F te.size ys x)
    (hb : (xs.length + ys.length) * te.bytes ≤ 140737488355328) (hb0 : 0 < te.bytes) (hFb : ∀ b, F b → b < w.heap.size) :
    ∃ v' w', (Builtin.append_ #[t, t] ty #[v, x]).run P w = .ok v' w' ∧ OwnRow w' F el te.size (xs ++ ys) v' ∧ w.grownBy w' v.ownBlock ∧ (v'.ownBlock = v.ownBlock ∨ v'.ownBlock = some w.heap.size) ∧ (ys = [] → v' = v) := by
  obtain ⟨A, c, news, rfl, hfl, hone, hcell⟩ := hsrc.out
  by_cases hy : ys = []
  · subst hy
    have hv : ∃ B n cc, v = .slice B n cc ∧ n ≤ cc := by
      rcases hrow.2 with ⟨_, hv⟩ | ⟨b, cc, vs, hv, _, _, _, hle, _⟩
      · exact ⟨_, _, _, hv, Nat.le_refl _⟩
      · exact ⟨_, _, _, hv, hle⟩
    obtain ⟨B, n, cc, rfl, hle⟩ := hv
    exact ⟨_, w, run_append_zero ht ge ty B A n cc c hle w, by simpa using hrow, World.grownBy.refl w _, .inl rfl, fun _ => rfl⟩
  · obtain ⟨a, rfl, hc⟩ := hcell hy
    obtain ⟨vs, hxf, hown⟩ := hrow.owns
    obtain ⟨i, hi, hs, hby, z, hzz, hzc⟩ := ge.info
    have hlen : xs.length + ys.length ≤ 140737488355328 := Nat.le_trans (Nat.le_mul_of_pos_right _ hb0) hb
    obtain ⟨v', w', hr, h1, h2, _, h4⟩ := run_append_own_at (P := P) w 0 t ty el i z te.size te.bytes ht hi hzz hs hby (by rw [← Array.length_toList, hzc]; exact ge.zlen) hz v xs.length vs hown a ys.length c news hfl.1 hc hone (by simp only [maxLen]; omega) hb (Nat.zero_le _)
    refine ⟨v', w', hr, ?_, h2, h4, fun h => absurd h hy⟩
    have L : Later w F w' F := ⟨fun _ h => h, fun b hbF => h2.block b (hFb b hbF) (fun hk => ?_)⟩
    · refine OwnRow.of_owns ((hxf.mono L).append (hfl.mono L)) (by simpa using h1) (fun b hb' hF => ?_)
      rcases h4 with h4 | h4
      · rw [h4] at hb'
        rcases hrow.2 with ⟨_, hv⟩ | ⟨b', cc, vs', hv, hnF, _⟩
        · rw [hv] at hb'; cases hb'
        · rw [hv] at hb'
          simp only [Value.ownBlock, Option.some.injEq] at hb'
          subst hb'; exact hnF hF
      · rw [h4] at hb'
        injection hb' with hb'
        subst hb'
        exact absurd (hFb _ hF) (by omega)
    · rcases hrow.2 with ⟨_, hv⟩ | ⟨b', cc, vs', hv, hnF, _⟩
      · rw [hv] at hk; cases hk
      · rw [hv] at hk
        simp only [Value.ownBlock, Option.some.injEq] at hk
        subst hk; exact hnF hbF

end
end Go.Ab

/- Freezing: what was ours is nobody's any more, and stands for good. Calls, told by contracts. -/
namespace Go.Ab
set_option linter.unusedVariables false
set_option linter.unusedSimpArgs false
section
variable {P : Program} {C : Ctx} {H H' : List Ob} {w w' : World} {F F' : Nat → Prop} {e e' : Env}

/-- Nothing of ours changes; more may be frozen. -/
theorem Mem.calm (M : Mem C H w F e) (T : Touch w w' (fun _ => False)) (hs : ∀ b, F b → F' b) (hn : ∀ b, F' b → F b ∨ w.heap.size ≤ b) (hb : ∀ b, F' b → b < w'.heap.size) : Mem C H w' F' e := by
  have L : Later w F w' F' := ⟨hs, fun b hb => T.block b (M.bound b hb) (fun h => h)⟩
  refine ⟨⟨M.heap.len, fun o x hx => ?_, M.heap.one⟩, ⟨T.os.trans M.mod.os, T.tape.trans M.mod.tape, T.output.trans M.mod.output, Nat.le_trans M.mod.size T.size, fun b hb hn => ?_⟩, M.ours, fun b hb => hs b (M.sub b hb), hb, fun b hb => ?_, M.env, M.g⟩
  · have hlt : o < e.len := by rw [M.heap.len]; exact (List.getElem?_eq_some_iff.1 hx).1
    refine ObRep.keep hx hlt (M.heap.ob o x hx) L (fun b hb => ?_) (EnvLe.refl e) rfl rfl (fun b hb => T.block b (hb.lt M.heap) (fun h => h))
    rcases hn b hb with h | h
    · exact .inl h
    · exact .inr fun hown => by have := hown.lt M.heap; omega
  · rw [T.block b (Nat.lt_of_lt_of_le hb M.mod.size) (fun h => h)]; exact M.mod.block b hb hn
  · rcases hn b hb with h | h
    · exact M.fresh b h
    · exact .inr (.inl (Nat.le_trans M.mod.size h))

/-- A row is frozen. -/
theorem Mem.freeze (M : Mem C H w F e) {o el sz : Nat} {xs : List (List AV)} (ho : H[o]? = some (.row el sz xs)) :
    ∃ F', Later w F w F' ∧ Mem C (H.set o (.frz sz xs)) w F' e ∧ Rep w F' Env.nil (.sl xs) (e.rowv o) ∧ (∀ b, F' b → F b ∨ Owner e H o b) := by
  have hlt : o < H.length := (List.getElem?_eq_some_iff.1 ho).1
  obtain ⟨hrl, hown⟩ := M.heap.ob o _ ho
  refine ⟨fun b => F b ∨ Owner e H o b, ?_⟩
  have L : Later w F w (fun b => F b ∨ Owner e H o b) := ⟨fun b hb => .inl hb, fun _ _ => rfl⟩
  have hr : Rep w (fun b => F b ∨ Owner e H o b) Env.nil (.sl xs) (e.rowv o) := by
    obtain ⟨hsz, hown⟩ := hown
    rcases hown with ⟨rfl, hv⟩ | ⟨b, c, vs, hv, hF, hb, hvs, hle, hmx, hrep⟩
    · rw [hv]
      exact .sl sz default (fun _ _ => undef) (Nat.le_refl _) (fun h => absurd rfl h) (fun i cs h => by simp at h) (fun i cs h => by simp at h) (fun i cs j s h => by simp at h) (fun i cs j s h => by simp at h)
    · rw [hv]
      refine .sl sz ⟨b, 0, none⟩ (fun i j => vs.getD (i * sz + j) undef) hle (fun _ => ⟨rfl, .inr ?_, rfl⟩) (fun i cs h => (hsz i cs h).1) (fun i cs h => (hsz i cs h).2) (fun i cs j s hi hj => ?_) (fun i cs j s hi hj => ?_)
      · unfold Owner; rw [ho]; exact ⟨_, _, hv⟩
      · obtain ⟨y, hy, _⟩ := hrep i cs j s hi hj
        rw [Nat.zero_add, cell_of_row w b _ vs el _ hb, hy, Array.getD_eq_getD_getElem?, hy]
        rfl
      · obtain ⟨y, hy, hyr⟩ := hrep i cs j s hi hj
        have : vs.getD (i * sz + j) undef = y := by rw [Array.getD_eq_getD_getElem?, hy]; rfl
        rw [this]
        exact hyr.mono L (EnvLe.refl _)
  have hold : ∀ o' b, o' ≠ o → (Owner e (H.set o (.frz sz xs)) o' b ↔ Owner e H o' b) := by
    intro o' b hn
    unfold Owner
    rw [List.getElem?_set_ne (Ne.symm hn)]
  have hnone : ∀ b, ¬ Owner e (H.set o (.frz sz xs)) o b := by
    intro b h
    unfold Owner at h
    simp [hlt] at h
  refine ⟨L, ⟨⟨by simp [M.heap.len], fun o' x hx => ?_, fun o1 o2 b h1 h2 => ?_⟩, M.mod, fun o' b hb => ?_, fun b hb => .inl (M.sub b hb), fun b hb => ?_, fun b hb => ?_, M.env, M.g⟩, hr, fun b hb => hb⟩
  · by_cases hn : o' = o
    · subst hn
      simp [hlt] at hx
      subst hx
      exact ⟨hrl, fun i cs h => ((hown.1) i cs h).1, hr⟩
    · rw [List.getElem?_set_ne (Ne.symm hn)] at hx
      have hlt' : o' < e.len := by rw [M.heap.len]; exact (List.getElem?_eq_some_iff.1 hx).1
      refine ObRep.keep hx hlt' (M.heap.ob o' x hx) L (fun b hb => ?_) (EnvLe.refl e) rfl rfl (fun b hb => rfl)
      rcases hb with hb | hb
      · exact .inl hb
      · exact .inr fun h => hn (M.heap.one _ _ _ h hb)
  · by_cases n1 : o1 = o
    · subst n1; exact absurd h1 (hnone b)
    · by_cases n2 : o2 = o
      · subst n2; exact absurd h2 (hnone b)
      · exact M.heap.one _ _ _ ((hold o1 b n1).1 h1) ((hold o2 b n2).1 h2)
  · by_cases hn : o' = o
    · subst hn; exact absurd hb (hnone b)
    · exact M.ours _ _ ((hold o' b hn).1 hb)
  · rcases hb with hb | hb
    · exact M.bound b hb
    · exact hb.lt M.heap
  · rcases hb with hb | hb
    · exact M.fresh b hb
    · rcases M.ours _ _ hb with h | h
      · exact .inr (.inl h)
      · exact .inr (.inr h)

/-! ### A pure copy of a cell -/
def nrm : Value → AV
  | .slice none 0 0 => .sl []
  | x => .v x

mutual
def pureB : AV → Bool
  | .v _ => true
  | .sl _ => true
  | .agg cs => pureBs cs
  | .ifc _ x => pureB x
  | _ => false
def pureBs : List AV → Bool
  | [] => true
  | x :: r => pureB x && pureBs r
end

def purC (H : List Ob) (a : AV) (k : AV → Prop) : Prop :=
  match a with
  | .v x => k (nrm x)
  | .sl xs => k (.sl xs)
  | .row o n =>
    (match H[o]? with
    | some (.row _ _ xs) => Need (n = xs.length) <| k (.sl xs)
    | some (.frz _ xs) => Need (n = xs.length) <| k (.sl xs)
    | _ => False)
  | .ifc t x => Chk (pureB x) <| k (.ifc t x)
  | _ => False

def purL (H : List Ob) : List AV → (List AV → Prop) → Prop
  | [], k => k []
  | a :: r, k => purC H a fun x => purL H r fun xs => k (x :: xs)

def frzC (H : List Ob) : AV → List Ob
  | .row o _ => (match H[o]? with | some (.row _ sz xs) => H.set o (.frz sz xs) | _ => H)
  | _ => H
def frzL (H : List Ob) : List AV → List Ob
  | [] => H
  | a :: r => frzL (frzC H a) r

mutual
theorem pure_env {w : World} {F : Nat → Prop} {e e' : Env} : ∀ (s : AV) (x : Value), pureB s = true → Rep w F e s x → Rep w F e' s x
  | .v y, x, _, h => by rw [h.v_inv]; exact .v
  | .sl xs, x, _, h => by cases h with | sl sz a vals hc hA hsz hone hcell hrep => exact .sl sz a vals hc hA hsz hone hcell hrep
  | .agg cs, x, hp, h => by
    obtain ⟨vs, rfl, h1, h2⟩ := h.agg_inv
    exact .agg h1 (pures_env cs (fun j => vs.getD j undef) (by simpa [pureB] using hp) h2)
  | .ifc t y, x, hp, h => by
    obtain ⟨z, rfl, hz⟩ := h.ifc_inv
    exact .ifc (pure_env y z (by simpa [pureB] using hp) hz)
  | .ptr .., _, hp, _ | .row .., _, hp, _ | .rptr .., _, hp, _ | .vw .., _, hp, _ | .eptr .., _, hp, _ | .fn .., _, hp, _ | .tup .., _, hp, _ | .dead, _, hp, _ => by simp [pureB] at hp
theorem pures_env {w : World} {F : Nat → Prop} {e e' : Env} : ∀ (cs : List AV) (f : Nat → Value), pureBs cs = true → (∀ (j : Nat) s, cs[j]? = some s → Rep w F e s (f j)) → ∀ (j : Nat) s, cs[j]? = some s → Rep w F e' s (f j)
  | [], f, _, _, j, s, hj => by simp at hj
  | c :: r, f, hp, h, j, s, hj => by
    simp only [pureBs, Bool.and_eq_true] at hp
    cases j with
    | zero =>
      simp at hj
      subst hj
      exact pure_env c (f 0) hp.1 (h 0 c rfl)
    | succ j => exact pures_env r (fun q => f (q + 1)) hp.2 (fun q s hq => h (q + 1) s (by simpa using hq)) j s (by simpa using hj)
end

theorem nrm_rep {w : World} {F : Nat → Prop} {e : Env} (x : Value) : Rep w F e (nrm x) x := by
  unfold nrm
  split
  · exact .sl 0 default (fun _ _ => undef) (Nat.le_refl 0) (fun h => absurd rfl h) (fun i cs h => by simp at h) (fun i cs h => by simp at h) (fun i cs j s h => by simp at h) (fun i cs j s h => by simp at h)
  · exact .v

theorem nrm_one {x : Value} : (nrm x).one = x.oneCell' := by
  unfold nrm
  split <;> rfl

/-- What is asked of the heap as it is being frozen: a row may have been frozen already. -/
def Froze (H H' : List Ob) : Prop := H'.length = H.length ∧ ∀ (o : Nat), H'[o]? = H[o]? ∨ ∃ (el sz : Nat) (xs : List (List AV)), H[o]? = some (Ob.row el sz xs) ∧ H'[o]? = some (Ob.frz sz xs)
theorem Froze.refl (H : List Ob) : Froze H H := ⟨rfl, fun _ => .inl rfl⟩
theorem Froze.step {H H1 : List Ob} (h : Froze H H1) (a : AV) : Froze H (frzC H1 a) := by
  unfold frzC
  split
  · rename_i o n
    split
    · rename_i el sz xs ho
      refine ⟨by simp [h.1], fun o' => ?_⟩
      by_cases hn : o' = o
      · subst hn
        have hlt := (List.getElem?_eq_some_iff.1 ho).1
        rcases h.2 o' with k | ⟨el', sz', xs', k1, k2⟩
        · exact .inr ⟨el, sz, xs, by rw [← k]; exact ho, by simp [hlt]⟩
        · rw [ho] at k2; cases k2
      · rw [List.getElem?_set_ne (Ne.symm hn)]; exact h.2 o'
    · exact h
  · exact h

theorem purC_sound {H0 : List Ob} (hf : Froze H0 H) (M : Mem C H w F e) {a : AV} {x : Value} (hx : Rep w F e a x) {k : AV → Prop} (h : purC H0 a k) :
    ∃ a' F', k a' ∧ Later w F w F' ∧ Mem C (frzC H a) w F' e ∧ Rep w F' Env.nil a' x ∧ a'.one = a.one ∧ (∀ b, F' b → F b ∨ ∃ o, Owner e H o b) := by
  unfold purC at h
  split at h
  · rename_i y
    have := hx.v_inv; subst this
    exact ⟨_, F, h, Later.refl w F, M, nrm_rep _, nrm_one, fun b hb => .inl hb⟩
  · rename_i xs
    exact ⟨_, F, h, Later.refl w F, M, pure_env _ _ rfl hx, rfl, fun b hb => .inl hb⟩
  · rename_i o n
    have key : ∀ (xs : List (List AV)), (∃ (el sz : Nat), H0[o]? = some (Ob.row el sz xs)) ∨ (∃ (sz : Nat), H0[o]? = some (Ob.frz sz xs)) → n = xs.length → k (.sl xs) →
        ∃ a' F', k a' ∧ Later w F w F' ∧ Mem C (frzC H (.row o n)) w F' e ∧ Rep w F' Env.nil a' x ∧ a'.one = (AV.row o n).one ∧ (∀ b, F' b → F b ∨ ∃ o, Owner e H o b) := by
      intro xs hxs hn hk
      have hcase : (∃ (el sz : Nat), H[o]? = some (Ob.row el sz xs)) ∨ ∃ (sz : Nat), H[o]? = some (Ob.frz sz xs) := by
        rcases hf.2 o with h1 | ⟨el, sz, ys, h1, h2⟩
        · rw [h1]; exact hxs
        · rcases hxs with ⟨el', sz', h3⟩ | ⟨sz', h3⟩
          · rw [h1] at h3; injection h3 with h3; injection h3 with _ _ h3; subst h3; exact .inr ⟨_, h2⟩
          · rw [h1] at h3; cases h3
      rcases hcase with ⟨el, sz, ho⟩ | ⟨sz, ho⟩
      · obtain ⟨F', L, M', hr, hnew⟩ := M.freeze ho
        obtain ⟨hrl, _⟩ := M.heap.ob o _ ho
        refine ⟨.sl xs, F', hk, L, ?_, ?_, rfl, fun b hb => (hnew b hb).imp id fun h => ⟨o, h⟩⟩
        · unfold frzC; simp only; rw [ho]; exact M'
        · cases hx with
          | row hl hn' hv => rw [← hv]; exact hr
          | rowold hl hn' => omega
      · obtain ⟨hrl, _, hr⟩ := M.heap.ob o _ ho
        refine ⟨.sl xs, F, hk, Later.refl w F, ?_, ?_, rfl, fun b hb => .inl hb⟩
        · unfold frzC; simp only; rw [ho]; exact M
        · cases hx with
          | row hl hn' hv => rw [← hv]; exact hr
          | rowold hl hn' => omega
    split at h
    · rename_i el sz xs ho; exact key xs (.inl ⟨_, _, ho⟩) h.h h.k
    · rename_i sz xs ho; exact key xs (.inr ⟨_, ho⟩) h.h h.k
    · exact h.elim
  · rename_i t y
    exact ⟨_, F, h.elim.2, Later.refl w F, M, pure_env _ _ (by simpa [pureB] using h.elim.1) hx, rfl, fun b hb => .inl hb⟩
  · exact h.elim

theorem purL_sound {H0 : List Ob} : ∀ (cs : List AV) {H : List Ob} {F : Nat → Prop} (hf : Froze H0 H) (M : Mem C H w F e) (f : Nat → Value) (hx : ∀ (j : Nat) s, cs[j]? = some s → Rep w F e s (f j)) {k : List AV → Prop} (h : purL H0 cs k),
    ∃ cs' F', k cs' ∧ Later w F w F' ∧ Mem C (frzL H cs) w F' e ∧ cs'.length = cs.length ∧ (∀ (j : Nat) s, cs'[j]? = some s → Rep w F' Env.nil s (f j)) ∧ ones cs' = ones cs ∧ (∀ b, F' b → F b ∨ ∃ o, Owner e H o b)
  | [], H, F, hf, M, f, hx, k, h => ⟨[], F, h, Later.refl w F, M, rfl, fun j s hj => by simp at hj, rfl, fun b hb => .inl hb⟩
  | a :: r, H, F, hf, M, f, hx, k, h => by
    simp only [purL] at h
    obtain ⟨a', F1, h1, L1, M1, r1, o1, n1⟩ := purC_sound hf M (hx 0 a rfl) h
    obtain ⟨cs', F2, h2, L2, M2, l2, r2, o2, n2⟩ := purL_sound r (hf.step a) M1 (fun j => f (j + 1)) (fun j s hj => (hx (j + 1) s (by simpa using hj)).mono L1 (EnvLe.refl e)) h1
    refine ⟨a' :: cs', F2, h2, L1.trans L2, M2, by simp [l2], fun j s hj => ?_, by simp only [ones, List.all_cons] at *; rw [o1, o2], fun b hb => ?_⟩
    · cases j with
      | zero => simp at hj; subst hj; exact r1.mono L2 (EnvLe.refl _)
      | succ j => exact r2 j s (by simpa using hj)
    · rcases n2 b hb with h | ⟨o, ho⟩
      · exact n1 b h
      · refine .inr ⟨o, ?_⟩
        unfold Owner at ho ⊢
        have hs : Froze H (frzC H a) := (Froze.refl H).step a
        rcases hs.2 o with k1 | ⟨el, sz, xs, k1, k2⟩
        · rw [k1] at ho; exact ho
        · rw [k2] at ho; exact ho.elim

end
end Go.Ab

/- One operation of whatever kind, over abstract states. -/
namespace Go.Ab
set_option linter.unusedVariables false
set_option linter.unusedSimpArgs false

/-! ### Contracts -/
def Callable (P : Program) (g : FuncId) : Prop := ∃ fn, P.funcs[g]? = some fn ∧ (fn.name == "runtime.NumGoroutine") = false ∧ fn.body.isNone = false

theorem run_callFunc {P : Program} {g : FuncId} (h : Callable P g) (args : Array Value) (w : World) : (callFunc g args).run P w = .ok (.enter g args) w := by
  obtain ⟨fn, h1, h2, h3⟩ := h
  unfold callFunc
  rw [Sem.run_bind, run_program]
  simp only [Result.andThen_ok, h1, h2, h3, Bool.false_eq_true, if_false, Sem.run_pure]

structure PureP (P : Program) (g : FuncId) (args : List AV) (K : AV → Prop) : Prop where
  call : Callable P g
  run : ∀ (w : World) (F : Nat → Prop) (vs : Array Value), GW w → (∀ b, F b → b < w.heap.size) → RepCells w F Env.nil args vs → Calls P g vs w fun en w' =>
    ∃ r x F', en = .returned x ∧ K r ∧ Rep w' F' Env.nil r x ∧ (∀ b, F b → F' b) ∧ (∀ b, F' b → F b ∨ w.heap.size ≤ b) ∧ (∀ b, F' b → b < w'.heap.size) ∧ Touch w w' (fun _ => False)

structure CallP (P : Program) (g : FuncId) (H : List Ob) (args : List AV) (K : AV → List Ob → Prop) : Prop where
  call : Callable P g
  run : ∀ (C : Ctx) (w : World) (F : Nat → Prop) (e : Env) (vs : Array Value), Mem C H w F e → RepCells w F e args vs → Calls P g vs w fun en w' =>
    ∃ r x H' F' e', en = .returned x ∧ K r H' ∧ Mem C H' w' F' e' ∧ Rep w' F' e' r x ∧ EnvLe e e' ∧ Later w F w' F'

/-- A call that hands back a row of its own. -/
structure FreshP (P : Program) (g : FuncId) (args : List AV) (el sz : Nat) (K : List (List AV) → Prop) : Prop where
  call : Callable P g
  run : ∀ (w : World) (F : Nat → Prop) (vs : Array Value), GW w → (∀ b, F b → b < w.heap.size) → RepCells w F Env.nil args vs → Calls P g vs w fun en w' =>
    ∃ xs x F', en = .returned x ∧ K xs ∧ OwnRow w' F' el sz xs x ∧ (∀ b, x.ownBlock = some b → w.heap.size ≤ b) ∧ (∀ b, F b → F' b) ∧ (∀ b, F' b → F b ∨ w.heap.size ≤ b) ∧ (∀ b, F' b → b < w'.heap.size) ∧ Touch w w' (fun _ => False)

theorem FreshP.mono {P : Program} {g : FuncId} {args : List AV} {el sz : Nat} {K K' : List (List AV) → Prop} (h : FreshP P g args el sz K) (hk : ∀ r, K r → K' r) : FreshP P g args el sz K' :=
  ⟨h.call, fun w F vs hg hb hr => (h.run w F vs hg hb hr).mono fun en w' ⟨xs, x, F', h1, h2, h3⟩ => ⟨xs, x, F', h1, hk xs h2, h3⟩⟩
theorem PureP.mono {P : Program} {g : FuncId} {args : List AV} {K K' : AV → Prop} (h : PureP P g args K) (hk : ∀ r, K r → K' r) : PureP P g args K' :=
  ⟨h.call, fun w F vs hg hb hr => (h.run w F vs hg hb hr).mono fun en w' ⟨r, x, F', h1, h2, h3⟩ => ⟨r, x, F', h1, hk r h2, h3⟩⟩
theorem CallP.mono {P : Program} {g : FuncId} {H : List Ob} {args : List AV} {K K' : AV → List Ob → Prop} (h : CallP P g H args K) (hk : ∀ r H', K r H' → K' r H') : CallP P g H args K' :=
  ⟨h.call, fun C w F e vs hm hr => (h.run C w F e vs hm hr).mono fun en w' ⟨r, x, H', F', e', h1, h2, h3⟩ => ⟨r, x, H', F', e', h1, hk r H' h2, h3⟩⟩

/-- A call that takes a row that is ours, and hands back a row. -/
structure EatP (P : Program) (g : FuncId) (el sz : Nat) (xs : List (List AV)) (args : List AV) (K : List (List AV) → Prop) : Prop where
  call : Callable P g
  run : ∀ (w : World) (F : Nat → Prop) (v : Value) (vs : Array Value), GW w → (∀ b, v.ownBlock = some b → GN b) → (∀ b, F b → b < w.heap.size) → OwnRow w F el sz xs v → RepCells w F Env.nil args vs → Calls P g (#[v] ++ vs) w fun en w' =>
    ∃ ys x F', en = .returned x ∧ K ys ∧ OwnRow w' F' el sz ys x ∧ (∀ b, x.ownBlock = some b → v.ownBlock = some b ∨ w.heap.size ≤ b) ∧ (∀ b, F b → F' b) ∧ (∀ b, F' b → F b ∨ w.heap.size ≤ b ∨ v.ownBlock = some b) ∧ (∀ b, F' b → b < w'.heap.size) ∧ Touch w w' (fun b => v.ownBlock = some b)

theorem EatP.mono {P : Program} {g : FuncId} {el sz : Nat} {xs : List (List AV)} {args : List AV} {K K' : List (List AV) → Prop} (h : EatP P g el sz xs args K) (hk : ∀ r, K r → K' r) : EatP P g el sz xs args K' :=
  ⟨h.call, fun w F v vs hg hn hb ho hr => (h.run w F v vs hg hn hb ho hr).mono fun en w' ⟨xs, x, F', h1, h2, h3⟩ => ⟨xs, x, F', h1, hk xs h2, h3⟩⟩

/-! ### Steps -/
structure Gm where
  tys : Tys
  raw : List FuncId
  fresh : List (FuncId × Nat × Nat)
  eats : List FuncId

def St.put (S : St) (d : Option Nat) (r : AV) : St :=
  match d with
  | some d => { S with regs := upd S.regs d r }
  | none => S
def St.okD (S : St) (d : Option Nat) : Bool :=
  match d with
  | some d => Nat.blt d S.n
  | none => true
def St.withHeap (S : St) (H : List Ob) : St := { S with heap := H }

def purA (H : List Ob) (a : AV) (k : AV → Prop) : Prop :=
  match a with
  | .agg cs => purL H cs fun cs' => k (.agg cs')
  | a => purC H a k
def purAs (H : List Ob) : List AV → (List AV → Prop) → Prop
  | [], k => k []
  | a :: r, k => purA H a fun x => purAs H r fun xs => k (x :: xs)
def frzA (H : List Ob) : AV → List Ob
  | .agg cs => frzL H cs
  | a => frzC H a
def frzAs (H : List Ob) : List AV → List Ob
  | [] => H
  | a :: r => frzAs (frzA H a) r

def purable1 : AV → Bool
  | .v _ => true
  | .sl _ => true
  | .row _ _ => true
  | .ifc _ x => pureB x
  | _ => false
def purable : AV → Bool
  | .agg cs => cs.all purable1
  | a => purable1 a

def isV : AV → Bool
  | .v _ => true
  | _ => false
def scalarB : AV → Bool
  | .v _ => true
  | .tup vs => vs.all isV
  | _ => false

def freshOf (g : FuncId) : List (FuncId × Nat × Nat) → Option (Nat × Nat)
  | [] => none
  | p :: r => match Nat.beq p.1 g with | true => some p.2 | false => freshOf g r

def callS (P : Program) (G : Gm) (S : St) (g : FuncId) (args : List AV) (k : AV → St → Prop) : Prop :=
  match !(G.raw.contains g) && args.all purable with
  | true =>
    (match freshOf g G.fresh with
    | some p => purAs S.heap args fun as => FreshP P g as p.1 p.2 fun xs => k (.row (frzAs S.heap args).length xs.length) (S.withHeap (frzAs S.heap args ++ [.row p.1 p.2 xs]))
    | none => purAs S.heap args fun as => PureP P g as fun r => match scalarB r with | true => k r S | false => k r (S.withHeap (frzAs S.heap args)))
  | false =>
    (match G.eats.contains g with
    | true =>
      (match args with
      | .row o n :: rest =>
        (match (frzAs S.heap rest)[o]? with
        | some (.row el sz xs) => Chk (rest.all purable) <| Need (n = xs.length) <| purAs S.heap rest fun as => EatP P g el sz xs as fun ys =>
            k (.row ((frzAs S.heap rest).set o .gone).length ys.length) (S.withHeap ((frzAs S.heap rest).set o .gone ++ [.row el sz ys]))
        | _ => False)
      | _ => False)
    | false => CallP P g S.heap args fun r H' => k r (S.withHeap H'))

/-- What may be appended, copied: its elements. -/
def srcV (H : List Ob) (sz : Nat) (x : AV) (k : List (List AV) → Prop) : Prop :=
  match x with
  | .sl ys => Need (∀ cs ∈ ys, cs.length = sz) <| k ys
  | .row o n =>
    (match H[o]? with
    | some (.row _ sz' ys) => Chk (Nat.beq sz' sz) <| Need (n = ys.length) <| k ys
    | some (.frz sz' ys) => Chk (Nat.beq sz' sz) <| Need (n = ys.length) <| k ys
    | _ => False)
  | .v (.slice none 0 0) => k []
  | _ => False

def appendS (G : Gm) (S : St) (T : TypeId) (s x : AV) (k : AV → St → Prop) : Prop :=
  match ty G.tys T with
  | some tl =>
    (match tl.u with
    | .slice el =>
      (match ty G.tys el with
      | some te => Chk (Nat.ble 1 te.size && Nat.ble 1 te.bytes)
        (match s with
        | .row o n =>
          (match S.heap[o]? with
          | some (.row el' sz xs) => Chk (Nat.beq el' el && Nat.beq sz te.size) <| Need (n = xs.length) <| srcV S.heap te.size x fun ys =>
              Need ((xs.length + ys.length) * te.bytes ≤ 140737488355328) <| Re (xs ++ ys) fun zs => k (.row o zs.length) (S.withHeap (S.heap.set o (.row el te.size zs)))
          | _ => False)
        | .vw o n sz lo hi =>
          (match x, S.heap[o]? with
          | .vw o' n' sz' lo' hi', some (.row el' sz2 xs) => Chk (Nat.beq o' o && Nat.beq el' el && Nat.beq sz te.size && Nat.beq sz' te.size && Nat.beq sz2 te.size) <|
              Need (lo = 0 ∧ n = xs.length ∧ n' = xs.length ∧ hi + (hi' - lo') ≤ xs.length) <|
                Re (xs.take hi ++ (xs.drop lo').take (hi' - lo') ++ xs.drop (hi + (hi' - lo'))) fun zs => k (.vw o n te.size 0 (hi + (hi' - lo'))) (S.withHeap (S.heap.set o (.row el te.size zs)))
          | _, _ => False)
        | .v (.slice none 0 0) => srcV S.heap te.size x fun ys => Need (ys.length * te.bytes ≤ 140737488355328) <| Re ys fun ys => k (.row S.heap.length ys.length) (S.withHeap (S.heap ++ [.row el te.size ys]))
        | _ => False)
      | none => False)
    | _ => False)
  | none => False

def rowsV (S : St) (sz : Nat) : List Ob → Nat → List (Nat × Operand) → (List Ob → List (List AV) → Prop) → Prop
  | H, _, [], k => k H []
  | H, i, (j, x) :: r, k => Chk (Nat.beq j i) (match cellsB (S.ev x) with
    | some ys => Chk (Nat.beq ys.length sz && ones ys) <| purL H ys fun ys' => rowsV S sz (frzL H ys) (i + 1) r fun H' rest => k H' (ys' :: rest)
    | none => False)

def storeS (S : St) (a : AV) (ys : List AV) (k : St → Prop) : Prop :=
  match a with
  | .ptr o off => (match S.heap[o]? with | some (.var T cs) => Chk (Nat.ble (off + ys.length) cs.length) <| k (S.withHeap (S.heap.set o (.var T (putCells cs off ys)))) | _ => False)
  | .rptr o n sz i off =>
    (match S.heap[o]? with
    | some (.row el sz' xs) => Chk (Nat.beq sz sz') <| Need (n = xs.length) <| Elem xs i fun cs => Need (off + ys.length ≤ cs.length) <| Chk (pureBs ys) <|
        purL S.heap ys fun ys' => Re (xs.set i (putCells cs off ys')) fun zs => k (S.withHeap (S.heap.set o (.row el sz zs)))
    | _ => False)
  | _ => False

/-- 'clear' of a part of a row that is ours. -/
def clearS (G : Gm) (S : St) (T : TypeId) (x : AV) (k : St → Prop) : Prop :=
  match ty G.tys T with
  | some tl =>
    (match tl.u with
    | .slice el =>
      (match ty G.tys el, x with
      | some te, .vw o n sz lo hi =>
        (match S.heap[o]? with
        | some (.row el' sz' xs) => Chk (Nat.beq el' el && Nat.beq sz te.size && Nat.beq sz' te.size && ones (te.zero.map nrm)) <| Need (n = xs.length) <|
            Re (xs.take lo ++ List.replicate (hi - lo) (te.zero.map nrm) ++ xs.drop hi) fun zs => k (S.withHeap (S.heap.set o (.row el te.size zs)))
        | _ => False)
      | _, _ => False)
    | _ => False)
  | none => False

def callOp (P : Program) (G : Gm) (S : St) (c : Call) (q : Prop) (k : AV → St → Prop) : Prop :=
  match c.callee with
  | .builtin b =>
    (match b, c.args.toList, c.argTypes.toList with
    | .append, [s, x], [T, T'] => Chk (Nat.beq T T') <| appendS G S T (S.ev s) (S.ev x) k
    | .clear, [x], [T] => clearS G S T (S.ev x) fun S' => k .dead S'
    | _, _, _ => q)
  | .value f =>
    (match S.ev f with
    | .fn (.func g) first caps => callS P G S g (first ++ c.args.toList.map S.ev ++ caps) k
    | _ => False)
  | _ => False

/-- An operation that is told by its own law. -/
structure OpP (P : Program) (o : Oper) (S : St) (K : St → Prop) : Prop where
  out : ∀ (C : Ctx) (a : Act) (w : World) (F : Nat → Prop) (e : Env) (Q : Exit → Act → World → Prop), Sat C S a w F e → o.wp P a w (fun a' w' => ∃ S' F' e', K S' ∧ Sat C S' a' w' F' e') Q
def isDelB (c : Call) : Bool :=
  match c.callee with
  | .builtin .delete => true
  | _ => false

/-- An operation, and what follows it. -/
def step (P : Program) (G : Gm) (S : St) (o : Oper) (K : St → Prop) : Prop :=
  Chk (S.okD o.dst) <|
  match o.op with
  | .alloc T => (match ty G.tys T with | some ti => K ((S.withHeap (S.heap ++ [.var T (ti.zero.map .v)])).put o.dst (.ptr S.heap.length 0)) | none => False)
  | .box T x => (match cellsB (S.ev x) with | some cs => K ((S.withHeap (S.heap ++ [.var T cs])).put o.dst (.ptr S.heap.length 0)) | none => False)
  | .store T a x =>
    (match ty G.tys T, cellsB (S.ev x) with
    | some ti, some ys => Chk (Nat.beq ys.length ti.size && ones ys) <| storeS S (S.ev a) ys fun S' => K (S'.put o.dst .dead)
    | _, _ => False)
  | .buildSlice T n parts =>
    (match ty G.tys T with
    | some tl =>
      (match tl.u with
      | .slice el =>
        (match ty G.tys el with
        | some te => Chk (Nat.beq parts.toList.length n && Nat.ble 1 te.size && Nat.ble (n * te.size) 16777216) <| rowsV S te.size S.heap 0 parts.toList fun H xs => Re xs fun xs => K ((S.withHeap (H ++ [.row el te.size xs])).put o.dst (.row H.length n))
        | none => False)
      | _ => False)
    | none => False)
  | .makeMap _ _ => OpP P o S K
  | .mapUpdate _ _ _ _ => OpP P o S K
  | .lookup _ _ _ _ => OpP P o S K
  | .call c => (match isDelB c with | true => OpP P o S K | false => callOp P G S c (valOp G.tys S o.op fun r => K (S.put o.dst r)) fun r S' => K (S'.put o.dst r))
  | op => valOp G.tys S op fun r => K (S.put o.dst r)

end Go.Ab

/- One operation is what the machine does. -/
namespace Go.Ab
set_option linter.unusedVariables false
set_option linter.unusedSimpArgs false
section
variable {P : Program} {G : Gm} {C : Ctx} {S : St} {a : Act} {H H' : List Ob} {w w' : World} {F F' : Nat → Prop} {e e' : Env}

theorem Sat.here (h : Sat C S a w F e) : Here S a w F e := ⟨h.regs, h.mem.heap, h.mem.bound⟩

theorem Sat.next (h : Sat C S a w F e) (L : Later w F w' F') (E : EnvLe e e') (M : Mem C H' w' F' e') {r : AV} {x : Value} (hr : Rep w' F' e' r x) {d : Option Nat} (hd : S.okD d = true) :
    Sat C ((S.withHeap H').put d r) (a.put d x) w' F' e' := by
  cases d with
  | none => exact ⟨h.defers, h.size, h.base, fun t => (h.regs t).mono L E, M⟩
  | some d =>
    simp only [St.okD] at hd
    have hlt : d < S.n := by
      have : Nat.blt d S.n = true := hd
      simpa [Nat.blt_eq] using this
    refine ⟨h.defers, by simp [Act.put, St.put, St.withHeap, h.size], h.base, fun t => ?_, M⟩
    simp only [Act.put, St.put, St.withHeap]
    rw [Array.getD_eq_getD_getElem?, Array.getElem?_setIfInBounds]
    by_cases ht : t = d
    · subst ht
      rw [upd_same, if_pos rfl, if_pos (by rw [h.size]; exact hlt)]
      exact hr
    · rw [upd_other _ _ _ ht, if_neg (Ne.symm ht), ← Array.getD_eq_getD_getElem?]
      exact (h.regs t).mono L E

/-- The machine's operation goes through; what follows is asked of one of the states that K lets in. -/
def Goes (P : Program) (C : Ctx) (o : Oper) (a : Act) (w : World) (K : St → Prop) (Q : Exit → Act → World → Prop) : Prop := o.wp P a w (fun a' w' => ∃ S' F' e', K S' ∧ Sat C S' a' w' F' e') Q

theorem goes_value {o : Oper} {K : St → Prop} {Q : Exit → Act → World → Prop} {x : Value} (hrun : (execOp a.eval o).run P w = .ok (.value x) w') {S' : St} (hK : K S') {F'} {e'} (hS : Sat C S' (a.put o.dst x) w' F' e') : Goes P C o a w K Q := by
  unfold Goes Oper.wp
  rw [hrun]
  exact ⟨S', F', e', hK, hS⟩

theorem goes_skip {o : Oper} {K : St → Prop} {Q : Exit → Act → World → Prop} (hrun : (execOp a.eval o).run P w = .ok .skip w') {S' : St} (hK : K S') {F'} {e'} (hS : Sat C S' (a.put o.dst undef) w' F' e') : Goes P C o a w K Q := by
  unfold Goes Oper.wp
  rw [hrun]
  exact ⟨S', F', e', hK, hS⟩

theorem val_goes (hG : TyOk P G.tys) (h : Sat C S a w F e) {o : Oper} {K : St → Prop} {Q : Exit → Act → World → Prop} (hd : S.okD o.dst = true) (hv : valOp G.tys S o.op fun r => K (S.put o.dst r)) : Goes P C o a w K Q := by
  obtain ⟨r, x, hK, hr, hy⟩ := valOp_sound (X := fun _ => False) hG h.here o _ XOk.none hv
  refine goes_value (F' := F) (e' := e) (hy w (Agree.refl w)) hK ?_
  have := h.next (Later.refl w F) (EnvLe.refl e) h.mem hr hd
  exact this

theorem zero_cells {t : TypeId} {ti : TI} (g : TGood P t ti) {z : Value} (hz : z.cells = ti.zero.toArray) : RepCells w F e (ti.zero.map .v) z.cells := by
  rw [hz]
  refine ⟨by simp, fun j s hj => ?_⟩
  rw [List.getElem?_map] at hj
  cases hv : ti.zero[j]? with
  | none => rw [hv] at hj; cases hj
  | some y =>
    rw [hv] at hj
    simp at hj
    subst hj
    rw [Array.getD_eq_getD_getElem?, List.getElem?_toArray, hv]
    exact .v

theorem alloc_goes (hG : TyOk P G.tys) (h : Sat C S a w F e) {o : Oper} {T : TypeId} {ti : TI} (ho : o.op = .alloc T) (ht : ty G.tys T = some ti) {K : St → Prop} {Q : Exit → Act → World → Prop} (hd : S.okD o.dst = true)
    (hK : K ((S.withHeap (S.heap ++ [.var T (ti.zero.map .v)])).put o.dst (.ptr S.heap.length 0))) : Goes P C o a w K Q := by
  obtain ⟨z, hz, hzc⟩ := (hG.get ht).zeroValue w
  have hr : (execOp a.eval o).run P w = .ok (.value (.pointer (some ⟨w.heap.size, 0, none⟩))) (w.alloc (.cells z.cells T)) := by
    simp [execOp, ho, Instr.alloc, hz, newVar, newRow]
  refine goes_value hr hK (h.next (h.mem.later (touch_alloc w _ (Owner e S.heap S.heap.length))) (EnvLe.pushVar e w.heap.size) (h.mem.pushVar (zero_cells (hG.get ht) hzc)) ?_ hd)
  have : (e.pushVar w.heap.size).blk S.heap.length = w.heap.size := by simp only [Env.pushVar]; rw [← h.mem.heap.len]; exact upd_same _ _ _
  have hlt : S.heap.length < (e.pushVar w.heap.size).len := by show S.heap.length < e.len + 1; rw [h.mem.heap.len]; omega
  have hp := fun (W : World) => Rep.ptr (w := W) (F := F) (off := 0) hlt
  rw [this] at hp
  exact hp _

theorem box_goes (h : Sat C S a w F e) {o : Oper} {T : TypeId} {x : Operand} (ho : o.op = .box T x) {cs : List AV} (hc : cellsB (S.ev x) = some cs) {K : St → Prop} {Q : Exit → Act → World → Prop} (hd : S.okD o.dst = true)
    (hK : K ((S.withHeap (S.heap ++ [.var T cs])).put o.dst (.ptr S.heap.length 0))) : Goes P C o a w K Q := by
  have hr : (execOp a.eval o).run P w = .ok (.value (.pointer (some ⟨w.heap.size, 0, none⟩))) (w.alloc (.cells (a.eval x).cells T)) := by
    simp [execOp, ho, Instr.box, newVar, newRow]
  refine goes_value hr hK (h.next (h.mem.later (touch_alloc w _ (Owner e S.heap S.heap.length))) (EnvLe.pushVar e w.heap.size) (h.mem.pushVar (cellsB_sound hc (h.here.ev x))) ?_ hd)
  have : (e.pushVar w.heap.size).blk S.heap.length = w.heap.size := by simp only [Env.pushVar]; rw [← h.mem.heap.len]; exact upd_same _ _ _
  have hlt : S.heap.length < (e.pushVar w.heap.size).len := by show S.heap.length < e.len + 1; rw [h.mem.heap.len]; omega
  have hp := fun (W : World) => Rep.ptr (w := W) (F := F) (off := 0) hlt
  rw [this] at hp
  exact hp _

theorem Mem.storeRow (M : Mem C H w F e) {o el sz i off : Nat} {xs : List (List AV)} {cs ys : List AV} {b m c : Nat} {us : Array Value} (ho : H[o]? = some (.row el sz xs)) (hv : e.rowv o = .slice (some ⟨b, 0, none⟩) m c)
    (hi : xs[i]? = some cs) (hr : RepCells w F Env.nil ys us) (h1 : ones ys = true) (hle : off + ys.length ≤ cs.length) :
    ∃ w', (storeCells ⟨b, i * sz + off, none⟩ us.toList).run P w = .ok () w' ∧ Touch w w' (Owner e H o) ∧ w'.heap.size = w.heap.size ∧ Mem C (H.set o (.row el sz (xs.set i (putCells cs off ys)))) w' F e := by
  have hlt : o < H.length := (List.getElem?_eq_some_iff.1 ho).1
  obtain ⟨hrl, hsz, hown⟩ := M.heap.ob o _ ho
  rcases hown with ⟨hnil, _⟩ | ⟨b', c', vs, hv', hF, hb, hvs, hcap, hmx, hrep⟩
  · subst hnil; simp at hi
  rw [hv] at hv'
  injection hv' with hv' hm hc
  injection hv' with hv'
  injection hv' with hv' _ _
  subst hv' hm hc
  have hil : i < xs.length := (List.getElem?_eq_some_iff.1 hi).1
  obtain ⟨hcl, hcone⟩ := hsz i cs hi
  have hbig : i * sz + sz ≤ vs.size := by rw [hvs, ← Nat.succ_mul]; exact Nat.mul_le_mul_right _ (by omega)
  obtain ⟨w', h2, h3, h4, h5⟩ := run_storeCells (P := P) b (i * sz + off) el us.toList 0 vs w hb (by have := hr.1; simp; omega) (ones_values h1 hr)
  have hownb : ∀ b1, b1 = b → Owner e H o b1 := fun b1 hbb => by unfold Owner; rw [ho]; exact ⟨_, _, by rw [hbb]; exact hv⟩
  have hT : Touch w w' (Owner e H o) := h3.mono hownb
  have L : Later w F w' F := M.later hT
  refine ⟨w', h2, hT, h4, M.change (o := o) (.row el sz (xs.set i (putCells cs off ys))) (by simp [M.heap.len]) (by simp) (fun o' hn => by rw [List.getElem?_set_ne (Ne.symm hn)]) (by simp [hlt]) (EnvLe.refl e) (fun o' _ _ => ⟨rfl, rfl⟩) hT ?_ ?_⟩
  · refine ⟨by simp [hrl], fun k ks hk => ?_, .inr ⟨b, c, _, by rw [hv]; simp, hF, h5, ?_, by simpa using hcap, hmx, fun k ks j s hk hj => ?_⟩⟩
    · by_cases hki : i = k
      · subst hki
        rw [List.getElem?_set_self hil] at hk
        · injection hk with hk
          subst hk
          refine ⟨by rw [putCells_length]; exact hcl, ?_⟩
          have : ∀ (ys cs : List AV) (off : Nat), ones ys = true → ones cs = true → ones (putCells cs off ys) = true := by
            intro ys
            induction ys with
            | nil => intro cs off _ h; exact h
            | cons y ys ih =>
              intro cs off hy hc
              simp only [ones, List.all_cons, Bool.and_eq_true] at hy
              refine ih _ _ hy.2 ?_
              simp only [ones, List.all_eq_true] at hc ⊢
              intro x hx
              rcases List.mem_or_eq_of_mem_set hx with h | h
              · exact hc x h
              · subst h; exact hy.1
          exact this ys cs off h1 hcone
      · rw [List.getElem?_set_ne hki] at hk
        exact hsz k ks hk
    · have : ∀ (l : List (Value × Nat)) (v : Array Value) (f : Nat), (l.foldl (fun c p => c.setIfInBounds (f + p.2) p.1) v).size = v.size := by
        intro l
        induction l with
        | nil => intro v f; rfl
        | cons x l ih => intro v f; simp only [List.foldl_cons]; rw [ih]; simp
      rw [this]; exact hvs
    · -- the cells of element k
      have getF : ∀ (us : List Value) (j0 : Nat) (v : Array Value) (f q : Nat), f + j0 + us.length ≤ v.size → ((us.zipIdx j0).foldl (fun c p => c.setIfInBounds (f + p.2) p.1) v)[q]? = if f + j0 ≤ q ∧ q < f + j0 + us.length then us[q - (f + j0)]? else v[q]? := by
        intro us
        induction us with
        | nil => intro j0 v f q _; simp; omega
        | cons u us ih =>
          intro j0 v f q hq
          simp only [List.zipIdx_cons, List.foldl_cons]
          rw [ih (j0 + 1) _ f q (by simp at hq ⊢; omega)]
          simp only [Array.getElem?_setIfInBounds, List.length_cons] at *
          by_cases c1 : q = f + j0
          · subst c1
            rw [if_neg (by omega), if_pos rfl, if_pos (by omega), if_pos (by omega)]
            simp
          · by_cases c2 : f + (j0 + 1) ≤ q ∧ q < f + (j0 + 1) + us.length
            · rw [if_pos c2, if_pos (by omega)]
              have : q - (f + j0) = (q - (f + (j0 + 1))) + 1 := by omega
              rw [this]; simp
            · rw [if_neg c2, if_neg (by omega), if_neg (by omega)]
      have hul : us.toList.length = ys.length := by rw [Array.length_toList]; exact hr.1
      have hget := fun q => getF us.toList 0 vs (i * sz + off) q (by rw [hul]; omega)
      have hjk : j < sz := by
        have := (List.getElem?_eq_some_iff.1 hj).1
        have : ks.length = sz := by
          by_cases hki : i = k
          · subst hki
            rw [List.getElem?_set_self hil] at hk
            injection hk with hk; rw [← hk, putCells_length]; exact hcl
          · rw [List.getElem?_set_ne hki] at hk
            exact (hsz k ks hk).1
        omega
      rw [hget, hul]
      by_cases hki : k = i
      · subst hki
        simp [hil] at hk
        subst hk
        have hput : ∀ (ys cs : List AV) (off q : Nat), off + ys.length ≤ cs.length → (putCells cs off ys)[q]? = if off ≤ q ∧ q < off + ys.length then ys[q - off]? else cs[q]? := by
          intro ys
          induction ys with
          | nil => intro cs off q _; simp [putCells]; omega
          | cons y ys ih =>
            intro cs off q hq
            simp only [List.length_cons] at hq
            simp only [putCells]
            rw [ih _ _ _ (by simp; omega), List.getElem?_set]
            simp only [List.length_cons]
            by_cases c1 : q = off
            · subst c1
              rw [if_neg (by omega), if_pos rfl, if_pos (by omega), if_pos (by omega)]
              simp
            · by_cases c2 : off + 1 ≤ q ∧ q < off + 1 + ys.length
              · rw [if_pos c2, if_pos (by omega)]
                have : q - off = (q - (off + 1)) + 1 := by omega
                rw [this]; simp
              · rw [if_neg c2, if_neg (Ne.symm c1), if_neg (by omega)]
        rw [hput ys cs off j hle] at hj
        by_cases hin : off ≤ j ∧ j < off + ys.length
        · rw [if_pos hin] at hj
          rw [if_pos (by omega)]
          have := hr.2 _ s hj
          have hlt2 : j - off < us.size := by rw [hr.1]; omega
          refine ⟨us.getD (j - off) undef, ?_, this.mono L (EnvLe.refl _)⟩
          have e1 : k * sz + j - (k * sz + off + 0) = j - off := by omega
          rw [e1]
          simp [Array.getD_eq_getD_getElem?, Array.getElem?_eq_getElem hlt2, hlt2]
        · rw [if_neg hin] at hj
          rw [if_neg (by omega)]
          obtain ⟨y, hy, hyr⟩ := hrep k cs j s hi hj
          exact ⟨y, hy, hyr.mono L (EnvLe.refl _)⟩
      · rw [List.getElem?_set_ne (Ne.symm hki)] at hk
        have hout : ¬ (i * sz + off + 0 ≤ k * sz + j ∧ k * sz + j < i * sz + off + 0 + ys.length) := by
          intro hc
          rcases Nat.lt_or_gt_of_ne hki with hlt' | hgt
          · have : k * sz + sz ≤ i * sz := by rw [← Nat.succ_mul]; exact Nat.mul_le_mul_right _ hlt'
            omega
          · have : i * sz + sz ≤ k * sz := by rw [← Nat.succ_mul]; exact Nat.mul_le_mul_right _ hgt
            omega
        rw [if_neg hout]
        obtain ⟨y, hy, hyr⟩ := hrep k ks j s hk hj
        exact ⟨y, hy, hyr.mono L (EnvLe.refl _)⟩
  · intro b1 hb'
    unfold Owner at hb'
    simp [hlt] at hb'
    obtain ⟨n, c1, hv1⟩ := hb'
    exact .inl (by unfold Owner; rw [ho]; exact ⟨n, c1, hv1⟩)

end
end Go.Ab

/- Stores, literals, append and calls: the machine does what the abstract step says. -/
namespace Go.Ab
set_option linter.unusedVariables false
set_option linter.unusedSimpArgs false
section
variable {P : Program} {G : Gm} {C : Ctx} {S : St} {a : Act} {H H' : List Ob} {w w' : World} {F F' : Nat → Prop} {e e' : Env}

theorem st_heap (S : St) : S.withHeap S.heap = S := rfl

theorem purL_pure {H0 : List Ob} {cs : List AV} (hp : pureBs cs = true) {k : List AV → Prop} (h : purL H0 cs k) {f : Nat → Value} (hx : ∀ (j : Nat) s, cs[j]? = some s → Rep w F e s (f j)) :
    ∃ cs', k cs' ∧ cs'.length = cs.length ∧ (∀ (j : Nat) s, cs'[j]? = some s → Rep w F Env.nil s (f j)) ∧ ones cs' = ones cs := by
  induction cs generalizing k f with
  | nil => exact ⟨[], h, rfl, fun j s hj => by simp at hj, rfl⟩
  | cons a r ih =>
    simp only [pureBs, Bool.and_eq_true] at hp
    simp only [purL] at h
    have ha := hx 0 a rfl
    have key : ∃ a', (purL H0 r fun xs => k (a' :: xs)) ∧ Rep w F Env.nil a' (f 0) ∧ a'.one = a.one := by
      cases a <;> simp only [purC, pureB, Bool.false_eq_true] at h hp
      case v x => have := ha.v_inv; rw [this]; exact ⟨_, h, nrm_rep _, nrm_one⟩
      case sl xs => exact ⟨_, h, pure_env _ _ rfl ha, rfl⟩
      case ifc t x => exact ⟨_, h.elim.2, pure_env _ _ (by simpa [pureB] using h.elim.1) ha, rfl⟩
      all_goals first | exact hp.1.elim | exact h.elim
    obtain ⟨a', hk, hr, ho⟩ := key
    obtain ⟨cs', h1, h2, h3, h4⟩ := ih hp.2 hk (f := fun j => f (j + 1)) (fun j s hj => hx (j + 1) s (by simpa using hj))
    refine ⟨a' :: cs', h1, by simp [h2], fun j s hj => ?_, by simp only [ones, List.all_cons] at *; rw [ho, h4]⟩
    cases j with
    | zero => simp at hj; subst hj; exact hr
    | succ j => exact h3 j s (by simpa using hj)

theorem run_storeVar {t : TypeId} {ti : TI} (g : TGood P t ti) {x : Value} {ys : List AV} (hr : RepCells w F e ys x.cells) (hl : ys.length = ti.size) (ad : Addr) :
    (storeVar t ad x).run P w = (storeCells ad x.cells.toList).run P w := by
  unfold storeVar
  rw [Sem.run_bind, g.sizeOf w]
  simp only [Result.andThen_ok, Sem.run_bind]
  rw [if_neg (by rw [hr.1, hl]; simp)]

theorem store_goes (hG : TyOk P G.tys) (h : Sat C S a w F e) {o : Oper} {T : TypeId} {A X : Operand} {ti : TI} (ho : o.op = .store T A X) (ht : ty G.tys T = some ti) {ys : List AV} (hc : cellsB (S.ev X) = some ys) {K : St → Prop} {Q : Exit → Act → World → Prop}
    (hd : S.okD o.dst = true) (hl : ys.length = ti.size) (h1 : ones ys = true) (hs : storeS S (S.ev A) ys fun S' => K (S'.put o.dst .dead)) : Goes P C o a w K Q := by
  have hr := cellsB_sound hc (h.here.ev X)
  have hA := h.here.ev A
  have hv := fun ad => run_storeVar (P := P) (hG.get ht) hr hl ad
  have fin : ∀ (ad : Addr) (w' : World) (H' : List Ob), a.eval A = .pointer (some ad) → (storeCells ad (a.eval X).cells.toList).run P w = .ok () w' → Later w F w' F → Mem C H' w' F e → K ((S.withHeap H').put o.dst .dead) → Goes P C o a w K Q := by
    intro ad w' H' hA hrun L M hK
    have hr : (execOp a.eval o).run P w = .ok .skip w' := by
      simp [execOp, ho, hA, Instr.storeAt, Instr.sureAddr, hv ad, hrun]
    exact goes_skip hr hK (h.next L (EnvLe.refl e) M .dead hd)
  unfold storeS at hs
  simp only [Re_eq] at hs
  split at hs
  · rename_i ob off h2
    rw [h2] at hA
    obtain ⟨hlt, ex⟩ := hA.ptr_inv
    split at hs
    case h_2 => exact hs.elim
    rename_i T' cs hob
    obtain ⟨hle, hK⟩ := hs.len
    obtain ⟨w', hrun, _, hsz, M'⟩ := h.mem.store (P := P) hob hr h1 hle
    have L : Later w F w' F := by
      refine ⟨fun _ h => h, fun b hb => ?_⟩
      obtain ⟨vs, hb', hsz', hF, _⟩ := h.mem.heap.var hob
      obtain ⟨w2, h3, h4, _⟩ := run_storeCells (P := P) (e.blk ob) off T' (a.eval X).cells.toList 0 vs w hb' (by have := hr.1; simp; omega) (ones_values h1 hr)
      have : (Result.ok () w' : Result Unit) = .ok () w2 := hrun.symm.trans h3
      injection this with _ hw
      subst hw
      exact h4.block b (h.mem.bound b hb) (fun hbb => hF (hbb ▸ hb))
    exact fin _ w' _ ex hrun L M' hK
  · rename_i ob n sz i off h2
    rw [h2] at hA
    split at hs
    case h_2 => exact hs.elim
    rename_i el sz' xs hob
    have hh := hs.eqn
    clear hs
    obtain ⟨rfl, ⟨hn, hh⟩⟩ := hh
    obtain ⟨cs, hcs, ⟨hle, hh⟩⟩ := hh.out
    obtain ⟨hpure, hs⟩ := hh.elim
    obtain ⟨ys', hK, hl', hr', ho'⟩ := purL_pure (f := fun j => (a.eval X).cells.getD j undef) hpure hs hr.2
    generalize hX : a.eval A = AA at hA
    obtain ⟨hrl, _⟩ := h.mem.heap.ob ob _ hob
    cases hA with
    | rptrold hlt hn2 => omega
    | rptr hlt hn2 hv2 =>
      obtain ⟨w', hrun, hT, hsz, M'⟩ := h.mem.storeRow (P := P) hob hv2 hcs ⟨by rw [hl']; exact hr.1, hr'⟩ (by rw [ho']; exact h1) (by rw [hl']; exact hle)
      exact fin _ w' _ hX hrun (h.mem.later hT) M' hK
  · exact hs.elim

theorem src_sound (h : Sat C S a w F e) {sz : Nat} {x : AV} {X : Value} (hx : Rep w F e x X) {k : List (List AV) → Prop} (hs : srcV S.heap sz x k) : ∃ ys, k ys ∧ Src w F sz ys X := by
  unfold srcV at hs
  split at hs
  · rename_i ys
    exact ⟨ys, hs.k, src_sl hx hs.h⟩
  · rename_i o n
    split at hs
    · rename_i el sz' ys ho
      have hh := hs.eqn
      clear hs
      obtain ⟨rfl, ⟨hn, hk⟩⟩ := hh
      obtain ⟨hrl, hown⟩ := h.mem.heap.ob o _ ho
      refine ⟨ys, hk, ?_⟩
      cases hx with
      | row hl hn' hv => rw [← hv]; exact src_row hown
      | rowold hl hn' => omega
    · rename_i sz' ys ho
      have hh := hs.eqn
      clear hs
      obtain ⟨rfl, ⟨hn, hk⟩⟩ := hh
      obtain ⟨hrl, hsz, hr⟩ := h.mem.heap.ob o _ ho
      refine ⟨ys, hk, ?_⟩
      cases hx with
      | row hl hn' hv =>
        rw [← hv]
        refine src_sl hr (fun cs hcs => ?_)
        obtain ⟨i, hi, rfl⟩ := List.getElem_of_mem hcs
        exact hsz i _ (List.getElem?_eq_getElem hi)
      | rowold hl hn' => omega
    · exact hs.elim
  · have := hx.v_inv
    subst this
    exact ⟨[], hs, ⟨⟨none, 0, [], rfl, ⟨by simp, by simp, by simp⟩, by simp, fun h => absurd rfl h⟩⟩⟩
  · exact hs.elim

theorem foldSet_get : ∀ (us : List Value) (j0 : Nat) (v : Array Value) (f q : Nat), f + j0 + us.length ≤ v.size →
    ((us.zipIdx j0).foldl (fun c p => c.setIfInBounds (f + p.2) p.1) v)[q]? = if f + j0 ≤ q ∧ q < f + j0 + us.length then us[q - (f + j0)]? else v[q]? := by
  intro us
  induction us with
  | nil => intro j0 v f q _; simp; omega
  | cons u us ih =>
    intro j0 v f q hq
    simp only [List.zipIdx_cons, List.foldl_cons]
    rw [ih (j0 + 1) _ f q (by simp at hq ⊢; omega)]
    simp only [Array.getElem?_setIfInBounds, List.length_cons] at *
    by_cases c1 : q = f + j0
    · subst c1
      rw [if_neg (by omega), if_pos rfl, if_pos (by omega), if_pos (by omega)]
      simp
    · by_cases c2 : f + (j0 + 1) ≤ q ∧ q < f + (j0 + 1) + us.length
      · rw [if_pos c2, if_pos (by omega)]
        have : q - (f + j0) = (q - (f + (j0 + 1))) + 1 := by omega
        rw [this]; simp
      · rw [if_neg c2, if_neg (by omega), if_neg (by omega)]

theorem foldSet_size : ∀ (l : List (Value × Nat)) (v : Array Value) (f : Nat), (l.foldl (fun c p => c.setIfInBounds (f + p.2) p.1) v).size = v.size := by
  intro l
  induction l with
  | nil => intro v f; rfl
  | cons x l ih => intro v f; simp only [List.foldl_cons]; rw [ih]; simp

/-- Cells stored into a row that is ours: its elements are others then. -/
theorem Mem.pokeRow (M : Mem C H w F e) {o el sz : Nat} {xs ys : List (List AV)} {b c : Nat} {vs : Array Value} (ho : H[o]? = some (.row el sz xs)) (hv : e.rowv o = .slice (some ⟨b, 0, none⟩) xs.length c) (hb : w.heap[b]? = some (.cells vs el (0, 0)))
    (hvs : vs.size = c * sz) (hcap : xs.length ≤ c) (hmx : c ≤ maxLen) {us : List Value} {p : Nat} (hle : p + us.length ≤ vs.size) (h1 : ∀ u ∈ us, u.oneCell' = true) (hyl : ys.length = xs.length) (hys : ∀ (i : Nat) cs, ys[i]? = some cs → cs.length = sz ∧ ones cs = true)
    (hrep : ∀ (i : Nat) (cs : List AV) (j : Nat) s, ys[i]? = some cs → cs[j]? = some s → ∃ y, (if p ≤ i * sz + j ∧ i * sz + j < p + us.length then us[i * sz + j - p]? else vs[i * sz + j]?) = some y ∧ Rep w F Env.nil s y) :
    ∃ w', (storeCells ⟨b, p, none⟩ us).run P w = .ok () w' ∧ Later w F w' F ∧ Mem C (H.set o (.row el sz ys)) w' F e := by
  have hlt : o < H.length := (List.getElem?_eq_some_iff.1 ho).1
  obtain ⟨hrl, hown0⟩ := M.heap.ob o _ ho
  have hF : ¬ F b := Owner.notF M.heap (o := o) (by unfold Owner; rw [ho]; exact ⟨_, _, hv⟩)
  obtain ⟨w', h2, h3, h4, h5⟩ := run_storeCells (P := P) b p el us 0 vs w hb (by omega) h1
  have hownb : ∀ b1, b1 = b → Owner e H o b1 := fun b1 hbb => by unfold Owner; rw [ho]; exact ⟨_, _, by rw [hbb]; exact hv⟩
  have hT : Touch w w' (Owner e H o) := h3.mono hownb
  have L : Later w F w' F := M.later hT
  refine ⟨w', h2, L, M.change (o := o) (.row el sz ys) (by simp [M.heap.len]) (by simp) (fun o' hn => by rw [List.getElem?_set_ne (Ne.symm hn)]) (by simp [hlt]) (EnvLe.refl e) (fun o' _ _ => ⟨rfl, rfl⟩) hT ?_ ?_⟩
  · refine ⟨by rw [hrl, hyl], hys, .inr ⟨b, c, _, by rw [hv, hyl], hF, h5, by rw [foldSet_size]; exact hvs, by omega, hmx, fun i cs j s hi hj => ?_⟩⟩
    obtain ⟨y, hy, hyr⟩ := hrep i cs j s hi hj
    refine ⟨y, ?_, hyr.mono L (EnvLe.refl _)⟩
    rw [foldSet_get us 0 vs p (i * sz + j) (by omega)]
    simpa using hy
  · intro b1 hb'
    unfold Owner at hb'
    simp [hlt] at hb'
    obtain ⟨n, c1, hv1⟩ := hb'
    exact .inl (by unfold Owner; rw [ho]; exact ⟨n, c1, hv1⟩)

theorem row_block (M : Mem C H w F e) {o el sz : Nat} {xs : List (List AV)} (ho : H[o]? = some (.row el sz xs)) {b m c : Nat} (hv : e.rowv o = .slice (some ⟨b, 0, none⟩) m c) :
    m = xs.length ∧ (∀ (i : Nat) cs, xs[i]? = some cs → cs.length = sz ∧ ones cs = true) ∧ ∃ vs, w.heap[b]? = some (.cells vs el (0, 0)) ∧ vs.size = c * sz ∧ xs.length ≤ c ∧ c ≤ maxLen ∧
      ∀ (i : Nat) (cs : List AV) (j : Nat) s, xs[i]? = some cs → cs[j]? = some s → ∃ y, vs[i * sz + j]? = some y ∧ Rep w F Env.nil s y := by
  obtain ⟨hrl, hsz, hown⟩ := M.heap.ob o _ ho
  rcases hown with ⟨_, hv'⟩ | ⟨b', c', vs, hv', hF, hb, hvs, hcap, hmx, hrep⟩
  · rw [hv] at hv'; cases hv'
  · rw [hv] at hv'
    injection hv' with hv' hm hc
    injection hv' with hv'
    injection hv' with hv' _ _
    subst hv' hm hc
    exact ⟨rfl, hsz, vs, hb, hvs, hcap, hmx, hrep⟩

/-- append(s[:i], s[j:k]...), in place. -/
theorem move_sound (M : Mem C H w F e) {t el : TypeId} {te : TI} (hde : P.underlying t = some (.slice el)) (ge : TGood P el te) (ty : TypeId) {o n : Nat} {xs : List (List AV)} (ho : H[o]? = some (.row el te.size xs)) {hi lo' hi' : Nat} {X Y : Value}
    (hX : Rep w F e (.vw o n te.size 0 hi) X) (hY : Rep w F e (.vw o n te.size lo' hi') Y) (hn : n = xs.length) (hle : hi + (hi' - lo') ≤ xs.length) :
    ∃ v w', (Builtin.append_ #[t, t] ty #[X, Y]).run P w = .ok v w' ∧ Later w F w' F ∧ Mem C (H.set o (.row el te.size (xs.take hi ++ (xs.drop lo').take (hi' - lo') ++ xs.drop (hi + (hi' - lo'))))) w' F e ∧ Rep w' F e (.vw o n te.size 0 (hi + (hi' - lo'))) v := by
  obtain ⟨hrl, _⟩ := M.heap.ob o _ ho
  cases hX with
  | vwold _ hn2 => omega
  | @vw _ _ _ _ _ _ b m c off hlt hn2 hv hle1 hhi1 hpos hoff =>
    cases hY with
    | vwold _ hn2 => omega
    | @vw _ _ _ _ _ _ b' m' c' off' _ _ hv' hle2 hhi2 _ hoff' =>
      rw [hv] at hv'
      injection hv' with hv' hm hc
      injection hv' with hv'
      injection hv' with hv' _ _
      subst hv' hm hc
      obtain ⟨hm, hsz, vs, hb, hvs, hcap, hmx, hrep⟩ := row_block M ho hv
      have hoff0 : off = 0 := by have := hoff (by omega); simpa using this
      subst hoff0
      have hbound : ∀ i, i ≤ xs.length → i * te.size ≤ vs.size := fun i h => by rw [hvs]; exact Nat.mul_le_mul_right _ (by omega)
      let us : List Value := (List.range ((hi' - lo') * te.size)).map fun q => vs.getD (lo' * te.size + q) undef
      have husl : us.length = (hi' - lo') * te.size := by simp [us]
      have husg : ∀ q, q < (hi' - lo') * te.size → us[q]? = some (vs.getD (lo' * te.size + q) undef) := fun q hq => by simp [us, hq]
      have hvg : ∀ q, q < (hi' - lo') * te.size → vs[lo' * te.size + q]? = some (vs.getD (lo' * te.size + q) undef) := fun q hq => getElem?_of_getD (by
        have := hbound hi' (by omega)
        have e1 : hi' * te.size = lo' * te.size + (hi' - lo') * te.size := by rw [← Nat.add_mul]; congr 1; omega
        omega)
      have hload : (loadCells ⟨b, off', none⟩ ((hi' - lo') * te.size)).run P w = .ok us.toArray w := by
        rw [run_loadCells w ⟨b, off', none⟩ ((hi' - lo') * te.size) (fun q => vs.getD (lo' * te.size + q) undef) (fun q hq => ?_)]
        have hpos2 : 0 < hi' - lo' := by
          rcases Nat.eq_zero_or_pos (hi' - lo') with h0 | h0
          · rw [h0] at hq; simp at hq
          · exact h0
        rw [hoff' (by omega), addr_add rfl, cell_of_row w b _ vs el _ hb]
        exact hvg q hq
      let ys := xs.take hi ++ (xs.drop lo').take (hi' - lo') ++ xs.drop (hi + (hi' - lo'))
      have hyl : ys.length = xs.length := by simp [ys]; omega
      have hyg : ∀ (i : Nat), ys[i]? = if i < hi then xs[i]? else if i < hi + (hi' - lo') then xs[lo' + (i - hi)]? else xs[i]? := by
        intro i
        simp only [ys]
        by_cases c1 : i < hi
        · rw [if_pos c1, List.append_assoc, List.getElem?_append_left (by simp; omega), List.getElem?_take_of_lt c1]
        · rw [if_neg c1]
          by_cases c2 : i < hi + (hi' - lo')
          · rw [if_pos c2, List.getElem?_append_left (by simp; omega), List.getElem?_append_right (by simp; omega)]
            have e1 : (xs.take hi).length = hi := by simp; omega
            rw [e1, List.getElem?_take_of_lt (by omega), List.getElem?_drop]
          · rw [if_neg c2, List.getElem?_append_right (by simp; omega), List.getElem?_drop]
            congr 1
            simp; omega
      have hone : ∀ u ∈ us, u.oneCell' = true := by
        intro u hu
        obtain ⟨q, hq, rfl⟩ := List.getElem_of_mem hu
        rw [husl] at hq
        have h1 := husg q hq
        rw [List.getElem?_eq_getElem (by rw [husl]; exact hq)] at h1
        injection h1 with h1
        rw [h1]
        have hszp : 0 < te.size := by
          rcases Nat.eq_zero_or_pos te.size with h0 | h0
          · rw [h0] at hq; simp at hq
          · exact h0
        have hi2 : q / te.size < hi' - lo' := by rw [Nat.div_lt_iff_lt_mul hszp]; exact hq
        have hj2 : q % te.size < te.size := Nat.mod_lt _ hszp
        have hx : lo' + q / te.size < xs.length := by omega
        obtain ⟨hl3, ho3⟩ := hsz _ _ (List.getElem?_eq_getElem hx)
        obtain ⟨y, hy, hyr⟩ := hrep _ _ (q % te.size) _ (List.getElem?_eq_getElem hx) (List.getElem?_eq_getElem (by rw [hl3]; exact hj2))
        have e1 : (lo' + q / te.size) * te.size + q % te.size = lo' * te.size + q := by rw [Nat.add_mul, Nat.add_assoc, Nat.div_add_mod']
        rw [e1, hvg q hq] at hy
        injection hy with hy
        rw [hy]
        exact one_value (List.all_eq_true.1 ho3 _ (List.getElem_mem _)) hyr
      obtain ⟨w', hst, L, M'⟩ := M.pokeRow (P := P) (ys := ys) ho (by rw [← hm]; exact hv) hb hvs hcap hmx (us := us) (p := hi * te.size) (by
        rw [husl, ← Nat.add_mul]; exact hbound _ hle) hone hyl (fun i cs hi2 => by
        rw [hyg] at hi2
        split at hi2
        · exact hsz _ _ hi2
        · split at hi2
          · exact hsz _ _ hi2
          · exact hsz _ _ hi2) (fun i cs j s hi2 hj => by
        rw [hyg] at hi2
        have hjs : j < te.size := by
          have := (List.getElem?_eq_some_iff.1 hj).1
          have hl : cs.length = te.size := by
            split at hi2
            · exact (hsz _ _ hi2).1
            · split at hi2
              · exact (hsz _ _ hi2).1
              · exact (hsz _ _ hi2).1
          omega
        rw [husl]
        split at hi2
        · rename_i c1
          obtain ⟨y, hy, hyr⟩ := hrep _ _ _ _ hi2 hj
          refine ⟨y, ?_, hyr⟩
          rw [if_neg (by have := idx_lt c1 hjs; omega)]
          exact hy
        · rename_i c1
          split at hi2
          · rename_i c2
            obtain ⟨y, hy, hyr⟩ := hrep _ _ _ _ hi2 hj
            refine ⟨y, ?_, hyr⟩
            have e0 : i * te.size = hi * te.size + (i - hi) * te.size := by rw [← Nat.add_mul]; congr 1; omega
            have e1 := idx_lt (i := i - hi) (n := hi' - lo') (by omega) hjs
            rw [if_pos (by omega), show i * te.size + j - hi * te.size = (i - hi) * te.size + j by omega, husg _ e1]
            rw [Nat.add_mul] at hy
            rw [← hvg _ e1, ← Nat.add_assoc]
            exact hy
          · rename_i c2
            obtain ⟨y, hy, hyr⟩ := hrep _ _ _ _ hi2 hj
            refine ⟨y, ?_, hyr⟩
            have e0 : (hi + (hi' - lo')) * te.size ≤ i * te.size := Nat.mul_le_mul_right _ (by omega)
            rw [Nat.add_mul] at e0
            rw [if_neg (by omega)]
            exact hy)
      refine ⟨.slice (some ⟨b, 0, none⟩) (hi + (hi' - lo')) c, w', ?_, L, M', ?_⟩
      · simp only [Nat.sub_zero]
        have hc : hi + (hi' - lo') ≤ c := by omega
        have hadd : (⟨b, 0, none⟩ : Addr).add (hi * te.size) = ⟨b, hi * te.size, none⟩ := by rw [addr_add rfl, Nat.zero_add]
        simp [Builtin.append_, run_underlying hde, ge.sizeOf w, Builtin.lenOf, hc, Builtin.firstCells, hload, hadd, hst]
      · have := Rep.vw (w := w') (F := F) (e := e) (o := o) (n := n) (sz := te.size) (lo := 0) (hi := hi + (hi' - lo')) (off := 0) hlt hn2 hv (Nat.zero_le _) (by omega) hpos (fun _ => by simp)
        simpa using this

theorem zero_nrm {t : TypeId} {ti : TI} (g : TGood P t ti) {z : Value} (hz : z.cells = ti.zero.toArray) : z.cells.size = ti.size ∧ ∀ (j : Nat) s, (ti.zero.map nrm)[j]? = some s → Rep w F Env.nil s (z.cells.getD j undef) := by
  rw [hz]
  refine ⟨by simp [g.zlen], fun j s hj => ?_⟩
  rw [List.getElem?_map] at hj
  cases hv : ti.zero[j]? with
  | none => rw [hv] at hj; cases hj
  | some y =>
    rw [hv] at hj
    simp at hj
    subst hj
    rw [Array.getD_eq_getD_getElem?, List.getElem?_toArray, hv]
    exact nrm_rep y

theorem clear_sound (M : Mem C H w F e) {t el : TypeId} {te : TI} (hde : P.underlying t = some (.slice el)) (ge : TGood P el te) (ty : TypeId) {o n : Nat} {xs : List (List AV)} (ho : H[o]? = some (.row el te.size xs)) {lo hi : Nat} {X : Value}
    (hX : Rep w F e (.vw o n te.size lo hi) X) (hn : n = xs.length) (hz1 : ones (te.zero.map nrm) = true) :
    ∃ w', (Builtin.clear_ #[t] ty #[X]).run P w = .ok (.tuple #[]) w' ∧ Later w F w' F ∧ Mem C (H.set o (.row el te.size (xs.take lo ++ List.replicate (hi - lo) (te.zero.map nrm) ++ xs.drop hi))) w' F e := by
  obtain ⟨hrl, _⟩ := M.heap.ob o _ ho
  cases hX with
  | vwold _ hn2 => omega
  | @vw _ _ _ _ _ _ b m c off hlt hn2 hv hle1 hhi1 hpos hoff =>
    obtain ⟨hm, hsz, vs, hb, hvs, hcap, hmx, hrep⟩ := row_block M ho hv
    by_cases h0 : hi - lo = 0
    · have hhl : hi = lo := by omega
      subst hhl
      refine ⟨w, ?_, Later.refl w F, ?_⟩
      · rw [Nat.sub_self]
        simp [Builtin.clear_, run_underlying hde w]
      · rw [Nat.sub_self, List.replicate_zero, List.append_nil, List.take_append_drop]
        have : H.set o (.row el te.size xs) = H := by
          apply List.ext_getElem?
          intro i
          rw [List.getElem?_set]
          split
          · rename_i hh; subst hh
            rw [if_pos (List.getElem?_eq_some_iff.1 ho).1, ho]
          · rfl
        rw [this]; exact M
    · obtain ⟨z, hz, hzc⟩ := ge.zeroValue w
      obtain ⟨hzs, hzr⟩ := zero_nrm (w := w) (F := F) ge hzc
      have hoff' := hoff (by omega)
      subst hoff'
      have hszp : 0 < te.size ∨ te.size = 0 := by omega
      let us : List Value := (Builtin.zeroCells z.cells (hi - lo)).toList
      have husl : us.length = (hi - lo) * te.size := by simp [us, Builtin.zeroCells, hzs]
      have husg : ∀ (i j : Nat), i < hi - lo → j < te.size → us[i * te.size + j]? = some (z.cells.getD j undef) := by
        intro i j hi2 hj2
        have h3 := idx_lt hi2 hj2
        simp only [us, Builtin.zeroCells, hzs]
        rw [Array.getElem?_toList, Array.getElem?_map, Array.getElem?_range, if_pos h3]
        simp only [Option.map_some]
        have e2 : (i * te.size + j) % te.size = j := by rw [Nat.mul_comm, Nat.mul_add_mod, Nat.mod_eq_of_lt hj2]
        rw [e2]
        congr 1
        rw [Array.getD_eq_getD_getElem?, Array.getElem?_eq_getElem (by omega)]
        rw [getElem!_pos z.cells j (by omega)]
        rfl
      have hbound : ∀ i, i ≤ xs.length → i * te.size ≤ vs.size := fun i h => by rw [hvs]; exact Nat.mul_le_mul_right _ (by omega)
      let ys := xs.take lo ++ List.replicate (hi - lo) (te.zero.map nrm) ++ xs.drop hi
      have hyl : ys.length = xs.length := by simp [ys]; omega
      have hyg : ∀ (i : Nat), ys[i]? = if i < lo then xs[i]? else if i < hi then some (te.zero.map nrm) else xs[i]? := by
        intro i
        simp only [ys]
        by_cases c1 : i < lo
        · rw [if_pos c1, List.append_assoc, List.getElem?_append_left (by simp; omega), List.getElem?_take_of_lt c1]
        · rw [if_neg c1]
          by_cases c2 : i < hi
          · have e1 : (xs.take lo).length = lo := by simp; omega
            rw [if_pos c2, List.getElem?_append_left (by simp; omega), List.getElem?_append_right (by omega), e1, List.getElem?_replicate, if_pos (by omega)]
          · rw [if_neg c2, List.getElem?_append_right (by simp; omega), List.getElem?_drop]
            congr 1
            simp; omega
      have hzl : (te.zero.map nrm).length = te.size := by simp [ge.zlen]
      have hone : ∀ u ∈ us, u.oneCell' = true := by
        intro u hu
        obtain ⟨q, hq, rfl⟩ := List.getElem_of_mem hu
        rw [husl] at hq
        have hszp : 0 < te.size := by
          rcases Nat.eq_zero_or_pos te.size with h0 | h0
          · rw [h0] at hq; simp at hq
          · exact h0
        have hi2 : q / te.size < hi - lo := by rw [Nat.div_lt_iff_lt_mul hszp]; exact hq
        have hj2 : q % te.size < te.size := Nat.mod_lt _ hszp
        have h1 := husg _ _ hi2 hj2
        rw [Nat.div_add_mod', List.getElem?_eq_getElem (by rw [husl]; exact hq)] at h1
        injection h1 with h1
        rw [h1]
        exact one_value (List.all_eq_true.1 hz1 _ (List.getElem_mem (by rw [hzl]; exact hj2))) (hzr _ _ (List.getElem?_eq_getElem (by rw [hzl]; exact hj2)))
      obtain ⟨w', hst, L, M'⟩ := M.pokeRow (P := P) (ys := ys) ho (by rw [← hm]; exact hv) hb hvs hcap hmx (us := us) (p := lo * te.size) (by
        rw [husl, ← Nat.add_mul]; exact hbound _ (by omega)) hone hyl (fun i cs hi2 => by
        rw [hyg] at hi2
        split at hi2
        · exact hsz _ _ hi2
        · split at hi2
          · injection hi2 with hi2; subst hi2; exact ⟨hzl, hz1⟩
          · exact hsz _ _ hi2) (fun i cs j s hi2 hj => by
        rw [hyg] at hi2
        have hjs : j < te.size := by
          have := (List.getElem?_eq_some_iff.1 hj).1
          have hl : cs.length = te.size := by
            split at hi2
            · exact (hsz _ _ hi2).1
            · split at hi2
              · injection hi2 with hi2; subst hi2; exact hzl
              · exact (hsz _ _ hi2).1
          omega
        rw [husl]
        split at hi2
        · rename_i c1
          obtain ⟨y, hy, hyr⟩ := hrep _ _ _ _ hi2 hj
          refine ⟨y, ?_, hyr⟩
          rw [if_neg (by have := idx_lt c1 hjs; omega)]
          exact hy
        · rename_i c1
          split at hi2
          · rename_i c2
            injection hi2 with hi2
            subst hi2
            have e0 : i * te.size = lo * te.size + (i - lo) * te.size := by rw [← Nat.add_mul]; congr 1; omega
            have e1 := idx_lt (i := i - lo) (n := hi - lo) (by omega) hjs
            refine ⟨_, ?_, hzr j s hj⟩
            rw [if_pos (by omega), show i * te.size + j - lo * te.size = (i - lo) * te.size + j by omega]
            exact husg _ _ (by omega) hjs
          · rename_i c2
            obtain ⟨y, hy, hyr⟩ := hrep _ _ _ _ hi2 hj
            refine ⟨y, ?_, hyr⟩
            have e0 : (lo + (hi - lo)) * te.size ≤ i * te.size := Nat.mul_le_mul_right _ (by omega)
            rw [Nat.add_mul] at e0
            rw [if_neg (by omega)]
            exact hy)
      refine ⟨w', ?_, L, M'⟩
      obtain ⟨k, hk⟩ : ∃ k, hi - lo = k + 1 := ⟨hi - lo - 1, by omega⟩
      simp only [us, hk] at hst
      simp only [Builtin.clear_, hk]
      simp [run_underlying hde w, hz, hst]

theorem append_goes (hG : TyOk P G.tys) (h : Sat C S a w F e) {o : Oper} {c : Call} {T : TypeId} {A X : Operand} (ho : o.op = .call c) (hc : c.callee = .builtin .append) (hca : c.args.toList = [A, X]) (hct : c.argTypes.toList = [T, T]) {K : St → Prop} {Q : Exit → Act → World → Prop}
    (hd : S.okD o.dst = true) (hs : appendS G S T (S.ev A) (S.ev X) fun r S' => K (S'.put o.dst r)) : Goes P C o a w K Q := by
  have hA := h.here.ev A
  have hX := h.here.ev X
  unfold appendS at hs
  simp only [Re_eq] at hs
  split at hs
  case h_2 => exact hs.elim
  rename_i tl htl
  split at hs
  case h_2 => exact hs.elim
  rename_i el hu
  split at hs
  case h_2 => exact hs.elim
  rename_i te hte
  have hh := hs.elim
  clear hs
  obtain ⟨hzb, hs⟩ := hh
  simp only [Bool.and_eq_true] at hzb
  have hz : 0 < te.size := Nat.le_of_ble_eq_true hzb.1
  have hb0 : 0 < te.bytes := Nat.le_of_ble_eq_true hzb.2
  have hde := (hG.get htl).slice hu
  have ge := hG.get hte
  have hcall : ∀ (v : Value) (w' : World), (Builtin.append_ #[T, T] o.type #[a.eval A, a.eval X]).run P w = .ok v w' → (execOp a.eval o).run P w = .ok (.value v) w' := by
    intro v w' hr
    have e1 : c.args = #[A, X] := by cases hcc : c.args; simp_all
    have e2 : c.argTypes = #[T, T] := by cases hcc : c.argTypes; simp_all
    simp [execOp, ho, resolve, hc, e1, e2, invoke, builtin, hr]
  split at hs
  · rename_i ob n hev
    rw [hev] at hA
    split at hs
    case h_2 => exact hs.elim
    rename_i el' sz xs hob
    have hh := hs.elim
    clear hs
    obtain ⟨hq, ⟨hn, hs⟩⟩ := hh
    simp only [Bool.and_eq_true] at hq
    obtain rfl := Nat.eq_of_beq_eq_true hq.1
    obtain rfl := Nat.eq_of_beq_eq_true hq.2
    obtain ⟨ys, ⟨hbd, hK⟩, hsrc⟩ := src_sound h hX hs
    obtain ⟨hrl, hown⟩ := h.mem.heap.ob ob _ hob
    have hv : a.eval A = e.rowv ob := by
      generalize a.eval A = AA at hA
      cases hA with
      | row hl hn' hv => exact hv.symm
      | rowold hl hn' => omega
    obtain ⟨v', w', hr, h1, h2, h3, h4⟩ := append_sound hde ge hz o.type (x := a.eval X) hown hsrc hbd hb0 h.mem.bound
    have hOwn : ∀ b, (e.rowv ob).ownBlock = some b → Owner e S.heap ob b := by
      intro b hb
      unfold Owner
      rw [hob]
      cases hrv : e.rowv ob with
      | slice A' m cc =>
        rw [hrv] at hb
        cases A' with
        | none => cases hb
        | some ad =>
          simp only [Value.ownBlock, Option.some.injEq] at hb
          rcases hown.2 with ⟨_, hv'⟩ | ⟨b', c', vs, hv', _⟩
          · rw [hrv] at hv'; cases hv'
          · rw [hrv] at hv'
            injection hv' with hv' h5 h6
            injection hv' with hv'
            subst hv'
            simp at hb
            subst hb
            exact ⟨_, _, rfl⟩
      | _ => rw [hrv] at hb; cases hb
    have T' : Touch w w' (Owner e S.heap ob) := ⟨h2.os, h2.tape, h2.output, h2.size, fun b hb hno => h2.block b hb (fun hk => hno (hOwn b hk.symm))⟩
    have M' := h.mem.growRow (x := v') (ys := xs ++ ys) hob T' h1 (fun b hb => by
      rcases h3 with h3 | h3
      · rw [h3] at hb; exact .inl (hOwn b hb)
      · rw [h3] at hb; injection hb with hb; exact .inr (by omega)) (by
        by_cases hy : ys = []
        · exact .inr ⟨by simp [hy], h4 hy⟩
        · left; have := List.length_pos_iff.2 hy; simp; omega)
    refine goes_value (hcall v' w' (by rw [hv]; exact hr)) hK (h.next (h.mem.later T') ?_ M' ?_ hd)
    · refine ⟨Nat.le_refl _, fun _ _ => rfl, fun o' ho' => ?_⟩
      by_cases hno : o' = ob
      · subst hno
        simp only [Env.setRow, upd_same]
        by_cases hy : ys = []
        · exact .inr ⟨by simp [hy, hrl], h4 hy⟩
        · left; have := List.length_pos_iff.2 hy; rw [hrl]; simp; omega
      · exact .inr ⟨upd_other _ _ _ hno, upd_other _ _ _ hno⟩
    · have hlt : ob < (e.setRow ob (xs ++ ys).length v').len := by
        show ob < e.len
        rw [h.mem.heap.len]; exact (List.getElem?_eq_some_iff.1 hob).1
      have hsl : ∃ A' m cc, v' = .slice A' m cc := by
        rcases h1.2 with ⟨_, hv'⟩ | ⟨b, cc, vs, hv', _⟩
        · exact ⟨_, _, _, hv'⟩
        · exact ⟨_, _, _, hv'⟩
      obtain ⟨A', m, cc, hv'⟩ := hsl
      have : (e.setRow ob (xs ++ ys).length v').rowv ob = .slice A' m cc := by simp only [Env.setRow, upd_same]; exact hv'
      rw [hv'] at this hlt ⊢
      exact .row hlt (upd_same _ _ _).symm this
  · rename_i ob n sz lo hi hev
    split at hs
    case h_2 => exact hs.elim
    rename_i o' n' sz' lo' hi' el' sz2 xs hevx hob
    have hh := hs.elim
    clear hs
    obtain ⟨hq, ⟨⟨h1, h2, h3, h4⟩, hK⟩⟩ := hh
    simp only [Bool.and_eq_true] at hq
    obtain ⟨⟨⟨⟨q1, q2⟩, q3⟩, q4⟩, q5⟩ := hq
    have q1 := Nat.eq_of_beq_eq_true q1
    have q2 := Nat.eq_of_beq_eq_true q2
    have q3 := Nat.eq_of_beq_eq_true q3
    have q4 := Nat.eq_of_beq_eq_true q4
    have q5 := Nat.eq_of_beq_eq_true q5
    subst q1 q2 q3 q4 q5 h1
    rw [hev] at hA
    rw [hevx] at hX
    obtain ⟨v, w', hr, L, M', hrep⟩ := move_sound (P := P) h.mem hde ge o.type hob hA (by rw [h2, ← h3]; exact hX) h2 h4
    exact goes_value (hcall v w' hr) hK (h.next L (EnvLe.refl e) M' hrep hd)
  · rename_i hev
    rw [hev] at hA
    have hv := hA.v_inv
    obtain ⟨ys, ⟨hbd, hK⟩, hsrc⟩ := src_sound h hX hs
    have hnil : OwnRow w F el te.size [] (.slice none 0 0) := ⟨fun i cs hi => by simp at hi, .inl ⟨rfl, rfl⟩⟩
    obtain ⟨v', w', hr, h1, h2, h3, h4⟩ := append_sound hde ge hz o.type (x := a.eval X) hnil hsrc (by simpa using hbd) hb0 h.mem.bound
    have T' : Touch w w' (fun _ => False) := ⟨h2.os, h2.tape, h2.output, h2.size, fun b hb hno => h2.block b hb (by simp [Value.ownBlock])⟩
    have M' := h.mem.pushRow (x := v') (xs := ys) T' (by simpa using h1) (fun b hb => by
      rcases h3 with h3 | h3
      · rw [h3] at hb; cases hb
      · rw [h3] at hb; injection hb with hb; omega)
    refine goes_value (hcall v' w' (by rw [hv]; exact hr)) hK (h.next (h.mem.later (T'.mono (own' := Owner e S.heap 0) fun _ h => h.elim)) (EnvLe.pushRow e _ _) M' ?_ hd)
    have hlt : S.heap.length < (e.pushRow ys.length v').len := by show S.heap.length < e.len + 1; rw [h.mem.heap.len]; omega
    have hsl : ∃ A' m cc, v' = .slice A' m cc := by
      rcases h1.2 with ⟨_, hv'⟩ | ⟨b, cc, vs, hv', _⟩
      · exact ⟨_, _, _, hv'⟩
      · exact ⟨_, _, _, hv'⟩
    obtain ⟨A', m, cc, hv'⟩ := hsl
    have h5 : (e.pushRow ys.length v').rowv S.heap.length = .slice A' m cc := by simp only [Env.pushRow]; rw [← h.mem.heap.len, upd_same]; exact hv'
    have h6 : ys.length = (e.pushRow ys.length v').rlen S.heap.length := by simp only [Env.pushRow]; rw [← h.mem.heap.len, upd_same]
    rw [hv'] at h5 h6 hlt ⊢
    exact .row hlt h6 h5
  · exact hs.elim

theorem clear_goes (hG : TyOk P G.tys) (h : Sat C S a w F e) {o : Oper} {c : Call} {T : TypeId} {X : Operand} (ho : o.op = .call c) (hc : c.callee = .builtin .clear) (hca : c.args.toList = [X]) (hct : c.argTypes.toList = [T]) {K : St → Prop} {Q : Exit → Act → World → Prop}
    (hd : S.okD o.dst = true) (hs : clearS G S T (S.ev X) fun S' => K (S'.put o.dst .dead)) : Goes P C o a w K Q := by
  have hX := h.here.ev X
  unfold clearS at hs
  simp only [Re_eq] at hs
  split at hs
  case h_2 => exact hs.elim
  rename_i tl htl
  split at hs
  case h_2 => exact hs.elim
  rename_i el hu
  split at hs
  case h_2 => exact hs.elim
  rename_i te ob n sz lo hi hte hev
  split at hs
  case h_2 => exact hs.elim
  rename_i el' sz' xs hob
  have hh := hs.elim
  clear hs
  obtain ⟨hq, ⟨hn, hK⟩⟩ := hh
  simp only [Bool.and_eq_true] at hq
  obtain ⟨⟨⟨q1, q2⟩, q3⟩, q4⟩ := hq
  have q1 := Nat.eq_of_beq_eq_true q1
  have q2 := Nat.eq_of_beq_eq_true q2
  have q3 := Nat.eq_of_beq_eq_true q3
  subst q1 q2 q3
  rw [hev] at hX
  obtain ⟨w', hr, L, M'⟩ := clear_sound (P := P) h.mem ((hG.get htl).slice hu) (hG.get hte) o.type hob hX hn q4
  have hrun : (execOp a.eval o).run P w = .ok (.value (.tuple #[])) w' := by
    have e1 : c.args = #[X] := by cases hcc : c.args; simp_all
    have e2 : c.argTypes = #[T] := by cases hcc : c.argTypes; simp_all
    simp [execOp, ho, resolve, hc, e1, e2, invoke, builtin, hr]
  exact goes_value hrun hK (h.next L (EnvLe.refl e) M' .dead hd)

end
end Go.Ab

/- Literals of slices; calls; and the one theorem on a step. -/
namespace Go.Ab
set_option linter.unusedVariables false
set_option linter.unusedSimpArgs false
section
variable {P : Program} {G : Gm} {C : Ctx} {S : St} {a : Act} {H H' : List Ob} {w w' : World} {F F' : Nat → Prop} {e e' : Env}

/-- An object is let go. -/
theorem Mem.letgo (M : Mem C H w F e) (o : Nat) : Mem C (H.set o .gone) w F e := by
  have hold : ∀ o' b, Owner e (H.set o .gone) o' b → Owner e H o' b := by
    intro o' b h
    unfold Owner at h ⊢
    rw [List.getElem?_set] at h
    by_cases hn : o = o'
    · rw [if_pos hn] at h
      by_cases hl : o < H.length
      · rw [if_pos (by first | exact hl | omega)] at h; exact h.elim
      · rw [if_neg (by first | exact hl | omega)] at h; exact h.elim
    · rw [if_neg hn] at h; exact h
  refine ⟨⟨by simp [M.heap.len], fun o' x hx => ?_, fun o1 o2 b h1 h2 => M.heap.one _ _ _ (hold _ _ h1) (hold _ _ h2)⟩, M.mod, fun o' b hb => M.ours _ _ (hold _ _ hb), M.sub, M.bound, M.fresh, M.env, M.g⟩
  rw [List.getElem?_set] at hx
  by_cases hn : o = o'
  · rw [if_pos hn] at hx
    by_cases hl : o < H.length
    · rw [if_pos (by first | exact hl | omega)] at hx; injection hx with hx; subst hx; trivial
    · rw [if_neg (by first | exact hl | omega)] at hx; cases hx
  · rw [if_neg hn] at hx; exact M.heap.ob o' x hx

/-- What changes is neither ours nor frozen. -/
theorem Mem.aside (M : Mem C H w F e) {own : Nat → Prop} (T : Touch w w' own) (hF : ∀ b, own b → ¬ F b) (ho : ∀ b, own b → ¬ ∃ o, Owner e H o b) (hc : ∀ b, own b → C.w0.heap.size ≤ b ∨ C.own0 b) (hs : ∀ b, F b → F' b) (hn : ∀ b, F' b → F b ∨ w.heap.size ≤ b ∨ own b) (hb : ∀ b, F' b → b < w'.heap.size) :
    Mem C H w' F' e ∧ Later w F w' F' := by
  have L : Later w F w' F' := ⟨hs, fun b hb => T.block b (M.bound b hb) (fun h => hF b h hb)⟩
  refine ⟨⟨⟨M.heap.len, fun o x hx => ?_, M.heap.one⟩, ⟨T.os.trans M.mod.os, T.tape.trans M.mod.tape, T.output.trans M.mod.output, Nat.le_trans M.mod.size T.size, fun b hb hn => ?_⟩, M.ours, fun b hb => hs b (M.sub b hb), hb, fun b hb => ?_, M.env, M.g⟩, L⟩
  · have hlt : o < e.len := by rw [M.heap.len]; exact (List.getElem?_eq_some_iff.1 hx).1
    refine ObRep.keep hx hlt (M.heap.ob o x hx) L (fun b hb => ?_) (EnvLe.refl e) rfl rfl (fun b hb => T.block b (hb.lt M.heap) (fun h => ho b h ⟨o, hb⟩))
    rcases hn b hb with h | h | h
    · exact .inl h
    · exact .inr fun hown => by have := hown.lt M.heap; omega
    · exact .inr fun hown => ho b h ⟨o, hown⟩
  · rw [T.block b (Nat.lt_of_lt_of_le hb M.mod.size) (fun h => by
      rcases hc b h with k | k
      · omega
      · exact hn k)]
    exact M.mod.block b hb hn
  · rcases hn b hb with h | h | h
    · exact M.fresh b h
    · exact .inr (.inl (Nat.le_trans M.mod.size h))
    · exact .inr (hc b h)

theorem own_block {o el sz : Nat} {xs : List (List AV)} (ho : H[o]? = some (.row el sz xs)) (M : Mem C H w F e) {b : Nat} (hb : (e.rowv o).ownBlock = some b) : Owner e H o b := by
  obtain ⟨hrl, hown⟩ := M.heap.ob o _ ho
  unfold Owner
  rw [ho]
  rcases hown.2 with ⟨_, hv'⟩ | ⟨b', c', vs, hv', _⟩
  · rw [hv'] at hb; cases hb
  · rw [hv'] at hb ⊢
    simp only [Value.ownBlock, Option.some.injEq] at hb
    subst hb
    exact ⟨_, _, rfl⟩

/-- A row that lies there becomes ours. -/
theorem Mem.adopt (M : Mem C H w F e) {el sz : Nat} {xs : List (List AV)} {x : Value} (hr : OwnRow w F el sz xs x) (hno : ∀ b, x.ownBlock = some b → ¬ ∃ o, Owner e H o b) (hc : ∀ b, x.ownBlock = some b → C.w0.heap.size ≤ b ∨ C.own0 b) :
    Mem C (H ++ [.row el sz xs]) w F (e.pushRow xs.length x) ∧ Rep w F (e.pushRow xs.length x) (.row H.length xs.length) x := by
  have hlen := M.heap.len
  have h1 : (e.pushRow xs.length x).rlen H.length = xs.length := by simp only [Env.pushRow]; rw [← hlen]; exact upd_same _ _ _
  have h2 : (e.pushRow xs.length x).rowv H.length = x := by simp only [Env.pushRow]; rw [← hlen]; exact upd_same _ _ _
  have E := EnvLe.pushRow e xs.length x
  have L := Later.refl w F
  have hold : ∀ o' b, o' ≠ H.length → (Owner (e.pushRow xs.length x) (H ++ [.row el sz xs]) o' b ↔ Owner e H o' b) := by
    intro o' b hn
    unfold Owner
    rw [getElem?_push_old _ hn]
    cases hcs : H[o']? with
    | none => simp
    | some y =>
      have hlt : o' < e.len := by rw [hlen]; exact (List.getElem?_eq_some_iff.1 hcs).1
      have e1 : (e.pushRow xs.length x).rowv o' = e.rowv o' := upd_other _ _ _ (by omega)
      cases y <;> simp [Env.pushRow] at * <;> simp_all
  have hnew : ∀ b, Owner (e.pushRow xs.length x) (H ++ [.row el sz xs]) H.length b → x.ownBlock = some b := by
    intro b hb
    unfold Owner at hb
    simp at hb
    obtain ⟨n, c, hv⟩ := hb
    rw [h2] at hv
    rw [hv]; rfl
  refine ⟨⟨⟨by simp [Env.pushRow, hlen], fun o' y hy => ?_, fun o1 o2 b k1 k2 => ?_⟩, M.mod, fun o' b hb => ?_, M.sub, M.bound, M.fresh, M.env.trans E, M.g⟩, ?_⟩
  · by_cases hn : o' = H.length
    · subst hn
      simp at hy
      subst hy
      exact ⟨h1, by rw [h2]; exact hr⟩
    · rw [getElem?_push_old _ hn] at hy
      have hlt : o' < e.len := by rw [hlen]; exact (List.getElem?_eq_some_iff.1 hy).1
      exact ObRep.keep hy hlt (M.heap.ob o' y hy) L (fun b hb => .inl hb) E (upd_other _ _ _ (by omega)) (upd_other _ _ _ (by omega)) (fun b hb => rfl)
  · by_cases n1 : o1 = H.length <;> by_cases n2 : o2 = H.length
    · rw [n1, n2]
    · subst n1; exact absurd ⟨o2, (hold o2 b n2).1 k2⟩ (hno b (hnew b k1))
    · subst n2; exact absurd ⟨o1, (hold o1 b n1).1 k1⟩ (hno b (hnew b k2))
    · exact M.heap.one _ _ _ ((hold o1 b n1).1 k1) ((hold o2 b n2).1 k2)
  · by_cases hn : o' = H.length
    · subst hn; exact hc b (hnew b hb)
    · exact M.ours _ _ ((hold o' b hn).1 hb)
  · have hlt : H.length < (e.pushRow xs.length x).len := by show H.length < e.len + 1; omega
    have hsl : ∃ A' m cc, x = .slice A' m cc := by
      rcases hr.2 with ⟨_, hv'⟩ | ⟨b, cc, vs, hv', _⟩
      · exact ⟨_, _, _, hv'⟩
      · exact ⟨_, _, _, hv'⟩
    obtain ⟨A', m, cc, hv'⟩ := hsl
    rw [hv'] at h1 h2 hlt ⊢
    exact .row hlt h1.symm h2

theorem frzC_length (H : List Ob) (a : AV) : (frzC H a).length = H.length := ((Froze.refl H).step a).1
theorem frzL_length : ∀ (cs : List AV) (H : List Ob), (frzL H cs).length = H.length
  | [], H => rfl
  | a :: r, H => by simp only [frzL]; rw [frzL_length r, frzC_length]

theorem rowsV_sound {sz : Nat} : ∀ (parts : List (Nat × Operand)) (i : Nat) {H : List Ob} {F : Nat → Prop} (M : Mem C H w F e) (hr : ∀ t, Rep w F e (S.regs t) (a.tmps.getD t undef)) {k : List Ob → List (List AV) → Prop} (h : rowsV S sz H i parts k),
    ∃ H' xs F', k H' xs ∧ Later w F w F' ∧ Mem C H' w F' e ∧ H'.length = H.length ∧ xs.length = parts.length ∧ (∀ (j : Nat) cs, xs[j]? = some cs → cs.length = sz ∧ ones cs = true) ∧
      ∀ (cells : Array Value), (i + parts.length) * sz ≤ cells.size → ∃ us, Instr.fill (fun i => some (i * sz, sz)) cells (parts.map fun p => (p.1, a.eval p.2)) = some us ∧ us.size = cells.size ∧ (∀ q, q < i * sz → us[q]? = cells[q]?) ∧
        ∀ (j : Nat) (cs : List AV) (m : Nat) s, xs[j]? = some cs → cs[m]? = some s → ∃ y, us[(i + j) * sz + m]? = some y ∧ Rep w F' Env.nil s y
  | [], i, H, F, M, hr, k, h => ⟨H, [], F, h, Later.refl w F, M, rfl, rfl, fun j cs hj => by simp at hj, fun cells hc => ⟨cells, rfl, rfl, fun _ _ => rfl, fun j cs m s hj => by simp at hj⟩⟩
  | (j0, x) :: r, i, H, F, M, hr, k, h => by
    simp only [rowsV] at h
    have hh := h.eqn
    clear h
    obtain ⟨rfl, h⟩ := hh
    split at h
    case h_2 => exact h.elim
    rename_i ys hys
    have hh := h.elim
    clear h
    obtain ⟨hl1, h⟩ := hh
    simp only [Bool.and_eq_true] at hl1
    have hl := Nat.eq_of_beq_eq_true hl1.1
    have h1 := hl1.2
    have hev : Rep w F e (S.ev x) (a.eval x) := by
      cases x with
      | tmp t => exact hr t
      | const v => exact rep_ofConst v
      | global g => exact .dead
      | func f => exact .fn rfl rfl (fun j s h => by simp at h) (fun j s h => by simp at h)
    have hc := cellsB_sound hys hev
    obtain ⟨ys', F1, h2, L1, M1, l1, r1, o1, _⟩ := purL_sound ys (Froze.refl H) M (fun j => (a.eval x).cells.getD j undef) hc.2 h
    obtain ⟨H', xs, F', h3, L2, M2, l2, l3, l4, hfill⟩ := rowsV_sound r (j0 + 1) M1 (fun t => (hr t).mono L1 (EnvLe.refl e)) h2
    refine ⟨H', ys' :: xs, F', h3, L1.trans L2, M2, by rw [l2, frzL_length], by simp [l3], fun j cs hj => ?_, fun cells hcells => ?_⟩
    · cases j with
      | zero => simp at hj; subst hj; exact ⟨by rw [l1]; exact hl, by rw [o1]; exact h1⟩
      | succ j => exact l4 j cs (by simpa using hj)
    · have hsz : (a.eval x).cells.size = sz := by rw [hc.1]; exact hl
      have hin : j0 * sz + sz ≤ cells.size := by
        rw [← Nat.succ_mul]
        refine Nat.le_trans (Nat.mul_le_mul_right _ ?_) hcells
        simp
      have getF : ∀ (us : List Value) (j0 : Nat) (v : Array Value) (f q : Nat), f + j0 + us.length ≤ v.size → ((us.zipIdx j0).foldl (fun c p => c.setIfInBounds (f + p.2) p.1) v)[q]? = if f + j0 ≤ q ∧ q < f + j0 + us.length then us[q - (f + j0)]? else v[q]? := by
        intro us
        induction us with
        | nil => intro j0 v f q _; simp; omega
        | cons u us ih =>
          intro j0 v f q hq
          simp only [List.zipIdx_cons, List.foldl_cons]
          rw [ih (j0 + 1) _ f q (by simp at hq ⊢; omega)]
          simp only [Array.getElem?_setIfInBounds, List.length_cons] at *
          by_cases c1 : q = f + j0
          · subst c1
            rw [if_neg (by omega), if_pos rfl, if_pos (by omega), if_pos (by omega)]
            simp
          · by_cases c2 : f + (j0 + 1) ≤ q ∧ q < f + (j0 + 1) + us.length
            · rw [if_pos c2, if_pos (by omega)]
              have : q - (f + j0) = (q - (f + (j0 + 1))) + 1 := by omega
              rw [this]; simp
            · rw [if_neg c2, if_neg (by omega), if_neg (by omega)]
      have szF : ∀ (l : List (Value × Nat)) (v : Array Value) (f : Nat), (l.foldl (fun c p => c.setIfInBounds (f + p.2) p.1) v).size = v.size := by
        intro l
        induction l with
        | nil => intro v f; rfl
        | cons x l ih => intro v f; simp only [List.foldl_cons]; rw [ih]; simp
      let cells1 := ((a.eval x).cells.toList.zipIdx 0).foldl (fun c p => c.setIfInBounds (j0 * sz + p.2) p.1) cells
      have hs1 : cells1.size = cells.size := szF _ _ _
      have hg1 : ∀ q, cells1[q]? = if j0 * sz ≤ q ∧ q < j0 * sz + sz then (a.eval x).cells.toList[q - j0 * sz]? else cells[q]? := by
        intro q
        have := getF (a.eval x).cells.toList 0 cells (j0 * sz) q (by rw [Array.length_toList, hsz]; omega)
        simp only [Array.length_toList, hsz, Nat.add_zero] at this
        exact this
      obtain ⟨us, hu, hus, hlow, hrep⟩ := hfill cells1 (by rw [hs1]; refine Nat.le_trans (Nat.le_of_eq ?_) hcells; congr 1; simp; omega)
      refine ⟨us, ?_, by rw [hus, hs1], fun q hq => ?_, fun j cs m s hj hm => ?_⟩
      · simp only [List.map_cons, Instr.fill]
        rw [if_neg (by simp only [Bool.or_eq_true, decide_eq_true_eq, not_or]; constructor <;> omega)]
        rw [← hu, ← Array.foldl_toList, Array.toList_zipIdx]
      · rw [hlow q (by rw [Nat.succ_mul]; omega), hg1, if_neg (by omega)]
      · cases j with
        | zero =>
          simp at hj
          subst hj
          have hmlt : m < sz := by
            have := (List.getElem?_eq_some_iff.1 hm).1
            omega
          have hr2 := (r1 m s hm).mono L2 (EnvLe.refl _)
          refine ⟨_, ?_, hr2⟩
          rw [Nat.add_zero, hlow _ (by rw [Nat.succ_mul]; omega), hg1, if_pos (by omega)]
          have : j0 * sz + m - j0 * sz = m := by omega
          rw [this, Array.getElem?_toList]
          exact getElem?_of_getD (by omega)
        | succ j =>
          obtain ⟨y, hy, hyr⟩ := hrep j cs m s (by simpa using hj) hm
          refine ⟨y, ?_, hyr⟩
          have : j0 + (j + 1) = j0 + 1 + j := by omega
          rw [this]; exact hy

theorem buildSlice_goes (hG : TyOk P G.tys) (h : Sat C S a w F e) {o : Oper} {T el : TypeId} {n : Nat} {parts : Array (Nat × Operand)} {tl te : TI} (ho : o.op = .buildSlice T n parts) (ht : ty G.tys T = some tl) (hu : tl.u = .slice el) (hte : ty G.tys el = some te)
    {K : St → Prop} {Q : Exit → Act → World → Prop} (hd : S.okD o.dst = true) (hn : parts.size = n) (hpos : 0 < te.size) (hbig : n * te.size ≤ 16777216)
    (hs : rowsV S te.size S.heap 0 parts.toList fun H xs => Re xs fun xs => K ((S.withHeap (H ++ [.row el te.size xs])).put o.dst (.row H.length n))) : Goes P C o a w K Q := by
  have hde := (hG.get ht).slice hu
  have ge := hG.get hte
  simp only [Re_eq] at hs
  obtain ⟨H', xs, F', hK, L, M, l2, l3, l4, hfill⟩ := rowsV_sound parts.toList 0 h.mem h.regs hs
  have hxn : xs.length = n := by rw [l3, Array.length_toList, hn]
  obtain ⟨z, hz, hzc⟩ := ge.zeroValue w
  let zero : Array Value := if n * te.size = 0 then #[] else z.cells
  obtain ⟨us, hus, husz, _, hrep⟩ := hfill ((Array.range (n * te.size)).map (zero[· % zero.size]!)) (by simp [hn])
  have hsz2 : us.size = n * te.size := by rw [husz]; simp
  have hr : (execOp a.eval o).run P w = .ok (.value (.slice (some ⟨w.heap.size, 0, none⟩) n n)) (w.alloc (.cells us el)) := by
    have e2 : ¬ (n * te.size > 2 ^ 24) := by simp; omega
    simp only [execOp, ho, Instr.buildSlice, Sem.run_bind, run_underlying hde w, Result.andThen_ok, ge.sizeOf w, if_neg e2]
    have e3 : Instr.fill (fun i => some (i * te.size, te.size)) ((Array.range (n * te.size)).map (zero[· % zero.size]!)) (parts.map fun x => (x.1, a.eval x.2)).toList = some us := by
      rw [← hus]; simp
    by_cases h0 : n * te.size = 0
    · simp only [zero, if_pos h0] at e3
      simp only [if_pos h0, Sem.run_bind, Sem.run_pure, Result.andThen_ok]
      rw [e3]
      rfl
    · simp only [zero, if_neg h0] at e3
      simp only [if_neg h0, Sem.run_bind, Sem.run_pure, Result.andThen_ok, hz]
      rw [e3]
      rfl
  have hmax : n ≤ maxLen := by
    have hb : n * te.size ≤ 16777216 := hbig
    have : n ≤ n * te.size := Nat.le_mul_of_pos_right _ hpos
    simp only [maxLen]; omega
  have T' : Touch w (w.alloc (.cells us el)) (fun _ => False) := touch_alloc w _ _
  have LL := M.later (T'.mono (own' := Owner e H' 0) fun _ h => h.elim)
  have hOwn : OwnRow (w.alloc (.cells us el)) F' el te.size xs (.slice (some ⟨w.heap.size, 0, none⟩) n n) := by
    refine ⟨l4, .inr ⟨w.heap.size, n, us, by rw [hxn], fun hF => absurd (M.bound _ hF) (by omega), heap_alloc_new w _, hsz2, by omega, hmax, fun i cs j s hi hj => ?_⟩⟩
    obtain ⟨y, hy, hyr⟩ := hrep i cs j s hi hj
    rw [Nat.zero_add] at hy
    exact ⟨y, hy, hyr.mono LL (EnvLe.refl _)⟩
  have M' := M.pushRow T' hOwn (fun b hb => by simp only [Value.ownBlock, Option.some.injEq] at hb; omega)
  refine goes_value hr hK (h.next (L.trans LL) (EnvLe.pushRow e _ _) M' ?_ hd)
  have hlt : H'.length < (e.pushRow xs.length (.slice (some ⟨w.heap.size, 0, none⟩) n n)).len := by show H'.length < e.len + 1; rw [M.heap.len]; omega
  have h5 : (e.pushRow xs.length (.slice (some ⟨w.heap.size, 0, none⟩) n n)).rowv H'.length = .slice (some ⟨w.heap.size, 0, none⟩) n n := by simp only [Env.pushRow]; rw [← M.heap.len, upd_same]
  have h6 : n = (e.pushRow xs.length (.slice (some ⟨w.heap.size, 0, none⟩) n n)).rlen H'.length := by simp only [Env.pushRow]; rw [← M.heap.len, upd_same]; exact hxn.symm
  exact .row hlt h6 h5

end
end Go.Ab

/- Calls; and the one theorem on a step. -/
namespace Go.Ab
set_option linter.unusedVariables false
set_option linter.unusedSimpArgs false
section
variable {P : Program} {G : Gm} {C : Ctx} {S : St} {a : Act} {H H' : List Ob} {w w' : World} {F F' : Nat → Prop} {e e' : Env}

theorem Froze.trans {H1 H2 H3 : List Ob} (h : Froze H1 H2) (k : Froze H2 H3) : Froze H1 H3 := by
  refine ⟨k.1.trans h.1, fun o => ?_⟩
  rcases h.2 o with h1 | ⟨el, sz, xs, h1, h2⟩ <;> rcases k.2 o with k1 | ⟨el', sz', xs', k1, k2⟩
  · exact .inl (k1.trans h1)
  · exact .inr ⟨el', sz', xs', h1 ▸ k1, k2⟩
  · exact .inr ⟨el, sz, xs, h1, k1.trans h2⟩
  · rw [h2] at k1; cases k1

theorem frozeL : ∀ (cs : List AV) (H : List Ob), Froze H (frzL H cs)
  | [], H => Froze.refl H
  | a :: r, H => ((Froze.refl H).step a).trans (frozeL r _)
theorem frozeA (a : AV) (H : List Ob) : Froze H (frzA H a) := by
  unfold frzA
  split
  · exact frozeL _ H
  · exact (Froze.refl H).step _

theorem purA_sound {H0 : List Ob} (hf : Froze H0 H) (M : Mem C H w F e) {a : AV} {x : Value} (hx : Rep w F e a x) {k : AV → Prop} (h : purA H0 a k) :
    ∃ a' F', k a' ∧ Later w F w F' ∧ Mem C (frzA H a) w F' e ∧ Rep w F' Env.nil a' x := by
  unfold purA at h
  split at h
  · rename_i cs
    obtain ⟨vs, rfl, h1, h2⟩ := hx.agg_inv
    obtain ⟨cs', F', hk, L, M', l, r, _⟩ := purL_sound cs hf M (fun j => vs.getD j undef) h2 h
    exact ⟨_, F', hk, L, M', .agg (by rw [l]; exact h1) r⟩
  · rename_i hne
    obtain ⟨a', F', hk, L, M', r, _⟩ := purC_sound hf M hx h
    refine ⟨a', F', hk, L, ?_, r⟩
    unfold frzA
    split
    · exact absurd rfl (hne _)
    · exact M'

theorem purAs_sound {H0 : List Ob} : ∀ (as : List AV) {H : List Ob} {F : Nat → Prop} (hf : Froze H0 H) (M : Mem C H w F e) (f : Nat → Value) (hx : ∀ (j : Nat) s, as[j]? = some s → Rep w F e s (f j)) {k : List AV → Prop} (h : purAs H0 as k),
    ∃ as' F', k as' ∧ Later w F w F' ∧ Mem C (frzAs H as) w F' e ∧ as'.length = as.length ∧ (∀ (j : Nat) s, as'[j]? = some s → Rep w F' Env.nil s (f j))
  | [], H, F, hf, M, f, hx, k, h => ⟨[], F, h, Later.refl w F, M, rfl, fun j s hj => by simp at hj⟩
  | a :: r, H, F, hf, M, f, hx, k, h => by
    simp only [purAs] at h
    obtain ⟨a', F1, h1, L1, M1, r1⟩ := purA_sound hf M (hx 0 a rfl) h
    obtain ⟨as', F2, h2, L2, M2, l2, r2⟩ := purAs_sound r (hf.trans (frozeA a H)) M1 (fun j => f (j + 1)) (fun j s hj => (hx (j + 1) s (by simpa using hj)).mono L1 (EnvLe.refl e)) h1
    refine ⟨a' :: as', F2, h2, L1.trans L2, M2, by simp [l2], fun j s hj => ?_⟩
    cases j with
    | zero => simp at hj; subst hj; exact r1.mono L2 (EnvLe.refl _)
    | succ j => exact r2 j s (by simpa using hj)

theorem scalar_rep {r : AV} (hs : scalarB r = true) {x : Value} (h : Rep w F e r x) {w' : World} {F' : Nat → Prop} {e' : Env} : Rep w' F' e' r x := by
  cases r <;> simp only [scalarB, Bool.false_eq_true] at hs
  case v y => rw [h.v_inv]; exact .v
  case tup vs =>
    obtain ⟨us, rfl, h1, h2⟩ := h.tup_inv
    refine .tup h1 (fun j s hj => ?_)
    have := List.all_eq_true.1 hs s (List.mem_of_getElem? hj)
    have h3 := h2 j s hj
    cases s <;> simp only [isV, Bool.false_eq_true] at this
    rw [h3.v_inv]; exact .v

theorem call_run {o : Oper} {c : Call} {f : Operand} {g : FuncId} {fs cs : Array Value} (ho : o.op = .call c) (hc : c.callee = .value f) (hf : a.eval f = .func (.func g) fs cs) (hg : Callable P g) :
    (execOp a.eval o).run P w = .ok (.enter g (fs ++ c.args.map a.eval ++ cs)) w := by
  simp [execOp, ho, resolve, hc, hf, Deferred.ofValue, invoke, run_callFunc hg]

theorem args_rep (h : Here S a w F e) {first caps : List AV} {fs cs : Array Value} (args : Array Operand) (h1 : RepCells w F e first fs) (h2 : RepCells w F e caps cs) :
    RepCells w F e (first ++ args.toList.map S.ev ++ caps) (fs ++ args.map a.eval ++ cs) := by
  have hm : RepCells w F e (args.toList.map S.ev) (args.map a.eval) := by
    refine ⟨by simp, fun j s hj => ?_⟩
    rw [List.getElem?_map] at hj
    cases hx : args.toList[j]? with
    | none => rw [hx] at hj; cases hj
    | some x =>
      rw [hx] at hj
      simp at hj
      subst hj
      have hx' : args[j]? = some x := by simpa using hx
      rw [Array.getD_eq_getD_getElem?, Array.getElem?_map, hx']
      exact h.ev x
  have app : ∀ {xs ys : List AV} {us vs : Array Value}, RepCells w F e xs us → RepCells w F e ys vs → RepCells w F e (xs ++ ys) (us ++ vs) := by
    intro xs ys us vs p q
    refine ⟨by simp [p.1, q.1], fun j s hj => ?_⟩
    rw [Array.getD_eq_getD_getElem?, Array.getElem?_append]
    rcases Nat.lt_or_ge j xs.length with hlt | hge
    · rw [List.getElem?_append_left hlt] at hj
      rw [if_pos (by rw [p.1]; exact hlt), ← Array.getD_eq_getD_getElem?]
      exact p.2 j s hj
    · rw [List.getElem?_append_right hge] at hj
      rw [if_neg (by rw [p.1]; omega), p.1, ← Array.getD_eq_getD_getElem?]
      exact q.2 _ s hj
  exact app (app h1 hm) h2

theorem call_goes (h : Sat C S a w F e) {o : Oper} {c : Call} {f : Operand} {g : FuncId} {first caps : List AV} (ho : o.op = .call c) (hc : c.callee = .value f) (hf : S.ev f = .fn (.func g) first caps) {K : St → Prop} {Q : Exit → Act → World → Prop}
    (hd : S.okD o.dst = true) (hs : callS P G S g (first ++ c.args.toList.map S.ev ++ caps) fun r S' => K (S'.put o.dst r)) : Goes P C o a w K Q := by
  have hfr := h.here.ev f
  rw [hf] at hfr
  generalize hX : a.eval f = X at hfr
  cases hfr with
  | @fn _ _ _ _ fs cs s1 s2 r1 r2 =>
    have hargs := args_rep h.here c.args (first := first) (caps := caps) (fs := fs) (cs := cs) ⟨s1, r1⟩ ⟨s2, r2⟩
    unfold callS at hs
    split at hs
    · split at hs
      · rename_i p hp0
        obtain ⟨as', F1, hp, L1, M1, l1, rr⟩ := purAs_sound _ (Froze.refl S.heap) h.mem (fun j => (fs ++ c.args.map a.eval ++ cs).getD j undef) hargs.2 hs
        have hrun := call_run (P := P) (w := w) (a := a) ho hc hX hp.call
        unfold Goes Oper.wp
        rw [hrun]
        refine (hp.run w F1 _ M1.gw M1.bound ⟨by rw [l1]; exact hargs.1, rr⟩).mono ?_
        rintro en w' ⟨xs, x, F', rfl, hK, hrow, hblk, k1, k2, k3, T⟩
        have M' := M1.calm T k1 k2 k3
        have L2 : Later w F1 w' F' := ⟨k1, fun b hb => T.block b (M1.bound b hb) (fun h => h)⟩
        obtain ⟨M2, hx⟩ := M'.adopt hrow (fun b hb ho => by
          have := ho.choose_spec.lt M1.heap
          have := hblk b hb
          omega) (fun b hb => .inl (Nat.le_trans M1.mod.size (hblk b hb)))
        exact ⟨_, F', _, hK, h.next (L1.trans L2) (EnvLe.pushRow e _ _) M2 hx hd⟩
      obtain ⟨as', F1, hp, L1, M1, l1, rr⟩ := purAs_sound _ (Froze.refl S.heap) h.mem (fun j => (fs ++ c.args.map a.eval ++ cs).getD j undef) hargs.2 hs
      have hrun := call_run (P := P) (w := w) (a := a) ho hc hX hp.call
      unfold Goes Oper.wp
      rw [hrun]
      refine (hp.run w F1 _ M1.gw M1.bound ⟨by rw [l1]; exact hargs.1, rr⟩).mono ?_
      rintro en w' ⟨r, x, F', rfl, hK, hr, k1, k2, k3, T⟩
      split at hK
      · rename_i hsc
        have M' := h.mem.calm T (fun b hb => hb) (fun b hb => .inl hb) (fun b hb => Nat.lt_of_lt_of_le (h.mem.bound b hb) T.size)
        exact ⟨_, F, e, hK, h.next (h.mem.later (T.mono (own' := Owner e S.heap 0) fun _ h => h.elim)) (EnvLe.refl e) M' (scalar_rep hsc hr) hd⟩
      · have M' := M1.calm T k1 k2 k3
        have L2 : Later w F1 w' F' := ⟨k1, fun b hb => T.block b (M1.bound b hb) (fun h => h)⟩
        exact ⟨_, F', e, hK, h.next (L1.trans L2) (EnvLe.refl e) M' hr.env hd⟩
    · split at hs
      · split at hs
        case h_2 => exact hs.elim
        rename_i ob n rest hargseq
        split at hs
        case h_2 => exact hs.elim
        rename_i el sz xs hob
        have hh := hs.elim
        clear hs
        obtain ⟨hpur, ⟨hn, hs⟩⟩ := hh
        rw [hargseq] at hargs
        have hsz : (fs ++ c.args.map a.eval ++ cs).size = rest.length + 1 := by rw [hargs.1]; simp
        obtain ⟨v, vs, hvs⟩ : ∃ v vs, fs ++ c.args.map a.eval ++ cs = #[v] ++ vs := by
          cases hl : (fs ++ c.args.map a.eval ++ cs).toList with
          | nil =>
            have : (fs ++ c.args.map a.eval ++ cs).toList.length = 0 := by rw [hl]; rfl
            rw [Array.length_toList] at this; omega
          | cons v r => exact ⟨v, r.toArray, by apply Array.ext'; rw [hl]; simp⟩
        rw [hvs] at hargs hsz
        have hv0 := hargs.2 0 _ rfl
        have hvr : ∀ (j : Nat) s, rest[j]? = some s → Rep w F e s (vs.getD j undef) := by
          intro j s hj
          have := hargs.2 (j + 1) s (by simpa using hj)
          rw [Array.getD_eq_getD_getElem?, Array.getElem?_append_right (by simp)] at this
          rw [Array.getD_eq_getD_getElem?]
          simpa using this
        obtain ⟨as', F1, hp, L1, M1, l1, rr⟩ := purAs_sound rest (Froze.refl S.heap) h.mem (fun j => vs.getD j undef) hvr hs
        have hv1 : v = e.rowv ob := by
          have h1 : Rep w F e (.row ob n) v := by
            have h2 := hv0
            rw [Array.getD_eq_getD_getElem?, Array.getElem?_append_left (by simp)] at h2
            simpa using h2
          have hrl := (M1.heap.ob ob _ hob).1
          cases h1 with
          | row hl hn' hv => exact hv.symm
          | rowold hl hn' => omega
        have hrow := (M1.heap.ob ob _ hob).2
        rw [← hv1] at hrow
        have hrun := call_run (P := P) (w := w) (a := a) ho hc hX hp.call
        rw [hvs] at hrun
        unfold Goes Oper.wp
        rw [hrun]
        refine (hp.run w F1 v _ M1.gw (fun b hb => M1.gn (own_block hob M1 (by rw [← hv1]; exact hb))) M1.bound hrow ⟨by rw [l1]; simp at hsz; omega, rr⟩).mono ?_
        rintro en w' ⟨ys, x, F', rfl, hK, hrow', hblk, k1, k2, k3, T⟩
        have hownv : ∀ b, v.ownBlock = some b → Owner e (frzAs S.heap rest) ob b := fun b hb => own_block hob M1 (by rw [← hv1]; exact hb)
        have Mg := M1.letgo ob
        have hgone : ∀ o' b, Owner e ((frzAs S.heap rest).set ob .gone) o' b → o' ≠ ob ∧ Owner e (frzAs S.heap rest) o' b := by
          intro o' b ho'
          unfold Owner at ho'
          rw [List.getElem?_set] at ho'
          by_cases hn2 : ob = o'
          · subst hn2
            have hl := (List.getElem?_eq_some_iff.1 hob).1
            rw [if_pos rfl] at ho'
            first | (rw [if_pos hl] at ho'; exact ho'.elim) | exact ho'.elim
          · rw [if_neg hn2] at ho'
            exact ⟨Ne.symm hn2, ho'⟩
        obtain ⟨Ma, La⟩ := Mg.aside (F' := F') T (fun b hb => (hownv b hb).notF M1.heap) (fun b hb ⟨o', ho'⟩ => (hgone o' b ho').1 (M1.heap.one _ _ _ (hgone o' b ho').2 (hownv b hb))) (fun b hb => M1.ours _ _ (hownv b hb)) k1 k2 k3
        obtain ⟨M2, hx⟩ := Ma.adopt hrow' (fun b hb ⟨o', ho'⟩ => by
          obtain ⟨h1, h2⟩ := hgone o' b ho'
          rcases hblk b hb with k | k
          · exact h1 (M1.heap.one _ _ _ h2 (hownv b k))
          · have := h2.lt M1.heap; omega) (fun b hb => by
          rcases hblk b hb with k | k
          · exact M1.ours _ _ (hownv b k)
          · exact .inl (Nat.le_trans M1.mod.size k))
        exact ⟨_, F', _, hK, h.next (L1.trans La) (EnvLe.pushRow e _ _) M2 hx hd⟩
      have hrun := call_run (P := P) (w := w) (a := a) ho hc hX hs.call
      unfold Goes Oper.wp
      rw [hrun]
      refine (hs.run C w F e _ h.mem hargs).mono ?_
      rintro en w' ⟨r, x, H', F', e', rfl, hK, M', hr, E, L⟩
      exact ⟨_, F', e', hK, h.next L E M' hr hd⟩

theorem step_sound (hG : TyOk P G.tys) (h : Sat C S a w F e) (o : Oper) (K : St → Prop) (Q : Exit → Act → World → Prop) (hs : step P G S o K) : Goes P C o a w K Q := by
  have hh := hs.elim
  clear hs
  obtain ⟨hd, hs⟩ := hh
  split at hs
  · rename_i T ho
    split at hs
    · rename_i ti ht; exact alloc_goes hG h ho ht hd hs
    · exact hs.elim
  · rename_i T x ho
    split at hs
    · rename_i cs hc; exact box_goes h ho hc hd hs
    · exact hs.elim
  · rename_i T A x ho
    split at hs
    · rename_i ti ys ht hc; have hq := hs.elim.1; simp only [Bool.and_eq_true] at hq; exact store_goes hG h ho ht hc hd (Nat.eq_of_beq_eq_true hq.1) hq.2 hs.elim.2
    · exact hs.elim
  · rename_i T n parts ho
    split at hs
    case h_2 => exact hs.elim
    rename_i tl htl
    split at hs
    case h_2 => exact hs.elim
    rename_i el hu
    split at hs
    case h_2 => exact hs.elim
    rename_i te hte
    have hq := hs.elim.1
    simp only [Bool.and_eq_true] at hq
    exact buildSlice_goes hG h ho htl hu hte hd (by rw [← Array.length_toList]; exact Nat.eq_of_beq_eq_true hq.1.1) (Nat.le_of_ble_eq_true hq.1.2) (Nat.le_of_ble_eq_true hq.2) hs.elim.2
  · exact hs.out C a w F e Q h
  · exact hs.out C a w F e Q h
  · exact hs.out C a w F e Q h
  · rename_i c ho
    split at hs
    · exact hs.out C a w F e Q h
    unfold callOp at hs
    split at hs
    · rename_i b hc
      split at hs
      · rename_i s x T T' h1 h2
        have hh := hs.eqn
        clear hs
        obtain ⟨rfl, hs⟩ := hh
        exact append_goes hG h ho hc h1 h2 hd hs
      · rename_i x T h1 h2
        exact clear_goes hG h ho hc h1 h2 hd hs
      · exact val_goes hG h hd (by rw [ho] at hs; rw [ho]; exact hs)
    · rename_i f hc
      split at hs
      · rename_i g first caps hf
        exact call_goes h ho hc hf hd hs
      · exact hs.elim
    · exact hs.elim
  · exact val_goes hG h hd hs

end
end Go.Ab

/- The same steps, with what they make reckoned out at once, so that a long walk stays short; and what is reckoned may be put under another name. -/
namespace Go.Ab
set_option linter.unusedVariables false
set_option linter.unusedSimpArgs false

def forceN : Nat → (Nat → Prop) → Prop
  | 0, q => q 0
  | n + 1, q => forceN n fun m => q (m + 1)
theorem forceN_eq (n : Nat) (q : Nat → Prop) : forceN n q = q n := by
  induction n generalizing q with
  | zero => rfl
  | succ n ih => exact ih _

def forceA1 (x : AV) (q : AV → Prop) : Prop :=
  match x with
  | .v x => q (.v x)
  | .sl xs => q (.sl xs)
  | .ptr o off => q (.ptr o off)
  | .row o n => q (.row o n)
  | .rptr o n sz i off => q (.rptr o n sz i off)
  | .vw o n sz lo hi => q (.vw o n sz lo hi)
  | .eptr cs => q (.eptr cs)
  | .fn f a b => q (.fn f a b)
  | .ifc t x => q (.ifc t x)
  | .agg cs => q (.agg cs)
  | .tup vs => q (.tup vs)
  | .mp o => q (.mp o)
  | .dead => q .dead
theorem forceA1_eq (x : AV) (q : AV → Prop) : forceA1 x q = q x := by cases x <;> rfl

def forceL : List AV → (List AV → Prop) → Prop
  | [], q => q []
  | a :: r, q => forceA1 a fun a => forceL r fun r => q (a :: r)
theorem forceL_eq (l : List AV) (q : List AV → Prop) : forceL l q = q l := by
  induction l generalizing q with
  | nil => rfl
  | cons a r ih => rw [forceL, forceA1_eq, ih]

def forceA (x : AV) (q : AV → Prop) : Prop :=
  match x with
  | .v x => q (.v x)
  | .sl xs => q (.sl xs)
  | .ptr o off => forceN o fun o => q (.ptr o off)
  | .row o n => forceN o fun o => q (.row o n)
  | .rptr o n sz i off => forceN o fun o => q (.rptr o n sz i off)
  | .vw o n sz lo hi => forceN o fun o => q (.vw o n sz lo hi)
  | .eptr cs => q (.eptr cs)
  | .fn f a b => forceL a fun a => forceL b fun b => q (.fn f a b)
  | .ifc t x => forceA1 x fun x => q (.ifc t x)
  | .agg cs => forceL cs fun cs => q (.agg cs)
  | .tup vs => forceL vs fun vs => q (.tup vs)
  | .mp o => forceN o fun o => q (.mp o)
  | .dead => q .dead
theorem forceA_eq (x : AV) (q : AV → Prop) : forceA x q = q x := by
  cases x <;> simp only [forceA, forceN_eq, forceA1_eq, forceL_eq]

def forceO (o : Ob) (q : Ob → Prop) : Prop :=
  match o with
  | .var T cs => forceL cs fun cs => q (.var T cs)
  | .row el sz xs => q (.row el sz xs)
  | .frz sz xs => q (.frz sz xs)
  | .ext R => q (.ext R)
  | .gone => q .gone
theorem forceO_eq (x : Ob) (q : Ob → Prop) : forceO x q = q x := by
  cases x <;> simp only [forceO, forceL_eq]
def forceH : List Ob → (List Ob → Prop) → Prop
  | [], q => q []
  | a :: r, q => forceO a fun a => forceH r fun r => q (a :: r)
theorem forceH_eq (l : List Ob) (q : List Ob → Prop) : forceH l q = q l := by
  induction l generalizing q with
  | nil => rfl
  | cons a r ih => rw [forceH, forceO_eq, ih]

/-- A number, reckoned out. -/
def force1 (n : Nat) (q : Nat → Prop) : Prop :=
  match n with
  | 0 => q 0
  | k + 1 => q (k + 1)
theorem force1_eq (n : Nat) (q : Nat → Prop) : force1 n q = q n := by cases n <;> rfl

def putS (S : St) (d : Option Nat) (r : AV) (K : St → Prop) : Prop :=
  match S, d with
  | ⟨n, base, regs, H⟩, some d => force1 n fun n => force1 base fun base => forceA r fun r => K ⟨n, base, upd regs d r, H⟩
  | ⟨n, base, regs, H⟩, none => force1 n fun n => force1 base fun base => K ⟨n, base, regs, H⟩
theorem putS_eq (S : St) (d : Option Nat) (r : AV) (K : St → Prop) : putS S d r K = K (S.put d r) := by
  cases S; cases d <;> simp only [putS, forceA_eq, force1_eq, St.put]
def putH (S : St) (H : List Ob) (d : Option Nat) (r : AV) (K : St → Prop) : Prop :=
  match S, d with
  | ⟨n, base, regs, _⟩, some d => force1 n fun n => force1 base fun base => forceA r fun r => forceH H fun H => K ⟨n, base, upd regs d r, H⟩
  | ⟨n, base, regs, _⟩, none => force1 n fun n => force1 base fun base => forceH H fun H => K ⟨n, base, regs, H⟩
theorem putH_eq (S : St) (H : List Ob) (d : Option Nat) (r : AV) (K : St → Prop) : putH S H d r K = K ((S.withHeap H).put d r) := by
  cases S; cases d <;> simp only [putH, forceA_eq, forceH_eq, force1_eq, St.put, St.withHeap]

/-- Is what is made worth a name of its own? -/
def hookB (S : St) (o : Op) : Bool :=
  match o with
  | .binOp _ _ x _ _ => (match S.ev x with | .v (.string _) => true | .agg _ => true | .sl _ => true | _ => false)
  | .index _ _ _ => true
  | .slice _ _ _ _ _ => true
  | .convert _ _ _ => true
  | .call c => (match c.callee with | .builtin .len => true | _ => false)
  | _ => false
def hookR (h : Bool) (r : AV) (k : AV → Prop) : Prop :=
  match h with
  | true =>
    (match r with
    | .v (.string x) => Re x fun z => k (.v (.string z))
    | .v (.bool x) => Re x fun z => k (.v (.bool z))
    | .v (.int K x) => Re x fun z => k (.v (.int K z))
    | .sl xs => Re xs fun z => k (.sl z)
    | r => k r)
  | false => k r
theorem hookR_eq (h : Bool) (r : AV) (k : AV → Prop) : hookR h r k = k r := by
  unfold hookR
  cases h
  · rfl
  · simp only
    split <;> simp only [Re_eq]

def step2 (P : Program) (G : Gm) (S : St) (o : Oper) (K : St → Prop) : Prop :=
  Chk (S.okD o.dst) <|
  match o.op with
  | .alloc T => (match ty G.tys T with | some ti => putH S (S.heap ++ [.var T (ti.zero.map .v)]) o.dst (.ptr S.heap.length 0) K | none => False)
  | .box T x => (match cellsB (S.ev x) with | some cs => putH S (S.heap ++ [.var T cs]) o.dst (.ptr S.heap.length 0) K | none => False)
  | .store T a x =>
    (match ty G.tys T, cellsB (S.ev x) with
    | some ti, some ys => Chk (Nat.beq ys.length ti.size && ones ys) <| storeS S (S.ev a) ys fun S' => putH S' S'.heap o.dst .dead K
    | _, _ => False)
  | .buildSlice T n parts =>
    (match ty G.tys T with
    | some tl =>
      (match tl.u with
      | .slice el =>
        (match ty G.tys el with
        | some te => Chk (Nat.beq parts.toList.length n && Nat.ble 1 te.size && Nat.ble (n * te.size) 16777216) <| rowsV S te.size S.heap 0 parts.toList fun H xs => Re xs fun xs => putH S (H ++ [.row el te.size xs]) o.dst (.row H.length n) K
        | none => False)
      | _ => False)
    | none => False)
  | .makeMap _ _ => OpP P o S K
  | .mapUpdate _ _ _ _ => OpP P o S K
  | .lookup _ _ _ _ => OpP P o S K
  | .call c => (match isDelB c with | true => OpP P o S K | false => callOp P G S c (valOp G.tys S o.op fun r => hookR (hookB S o.op) r fun r => putS S o.dst r K) fun r S' => putH S' S'.heap o.dst r K)
  | op => valOp G.tys S op fun r => hookR (hookB S op) r fun r => putS S o.dst r K
theorem withHeap_self (S : St) : S.withHeap S.heap = S := rfl
theorem step2_eq (P : Program) (G : Gm) (S : St) (o : Oper) (K : St → Prop) : step2 P G S o K = step P G S o K := by
  unfold step2 step
  simp only [putS_eq, putH_eq, hookR_eq, withHeap_self]
  all_goals (cases o.op <;> rfl)
end Go.Ab
