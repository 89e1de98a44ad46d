/- What is out of sight stays as it is. -/
import Derived.Test.YthhddlhgkejhbaaStAbsQ
namespace Go.Ab
set_option linter.unusedVariables false
set_option linter.unusedSimpArgs false
section
variable {P : Program} {G : Gm} {C : Ctx} {S S' : St} {a a' : Act} {H H' H0 : List Ob} {w w' w0 : World} {F F' F0 : Nat → Prop} {e e' e0 : Env} {W : List Nat}

theorem Sat.calm (h : Sat C S a w F e) (T : Touch w w' (fun _ => False)) : Sat C S a w' F e :=
  have L := h.mem.later (T.mono (own' := Owner e S.heap 0) fun _ h => h.elim)
  ⟨h.defers, h.size, h.base, fun t => (h.regs t).mono L (EnvLe.refl e), h.mem.calm T (fun _ hb => hb) (fun _ hb => .inl hb) (fun b hb => Nat.lt_of_lt_of_le (h.mem.bound b hb) T.size)⟩
theorem touch_drew (w : World) : Touch w { w with drawn := w.drawn + 1 } (fun _ => False) := ⟨rfl, rfl, rfl, Nat.le_refl _, fun _ _ _ => rfl⟩

theorem hideH_get (W : List Nat) : ∀ (H : List Ob) (k i : Nat), (hideH W k H)[i]? = (H[i]?).map fun x => match x with | .var T cs => (match memB W (k + i) with | true => .var T cs | false => .gone) | x => x
  | [], k, i => by simp [hideH]
  | x :: r, k, 0 => by cases x <;> first | rfl | (simp [hideH]; done) | (simp [hideH]; rfl)
  | x :: r, k, i + 1 => by
    have := hideH_get W r (k + 1) i
    have e1 : k + 1 + i = k + (i + 1) := by omega
    rw [e1] at this
    cases x <;> simp [hideH, this]

/-- Object o is seen. -/
def Seen (W : List Nat) (H : List Ob) (o : Nat) : Prop := ∀ T cs, H[o]? = some (.var T cs) → memB W o = true

theorem hide_owner {o b : Nat} (h : Owner e (hideH W 0 H) o b) : Owner e H o b ∧ Seen W H o := by
  unfold Owner at h ⊢
  rw [hideH_get] at h
  cases hx : H[o]? with
  | none => rw [hx] at h; exact h.elim
  | some x =>
    rw [hx] at h
    simp only [Option.map_some, Nat.zero_add] at h
    cases x with
    | var T cs =>
      simp only at h
      cases hm : memB W o with
      | true => rw [hm] at h; exact ⟨h, fun T' cs' _ => hm⟩
      | false => rw [hm] at h; exact h.elim
    | row el sz xs => exact ⟨h, fun T' cs' hh => by rw [hx] at hh; cases hh⟩
    | frz sz xs => exact h.elim
    | gone => exact h.elim
theorem owner_hide {o b : Nat} (h : Owner e H o b) (hs : Seen W H o) : Owner e (hideH W 0 H) o b := by
  unfold Owner at h ⊢
  rw [hideH_get]
  cases hx : H[o]? with
  | none => rw [hx] at h; exact h.elim
  | some x =>
    rw [hx] at h
    simp only [Option.map_some, Nat.zero_add]
    cases x with
    | var T cs => simp only; rw [hs T cs hx]; exact h
    | row el sz xs => exact h
    | frz sz xs => exact h.elim
    | gone => exact h.elim

theorem showH_get (W : List Nat) : ∀ (H H' : List Ob) (k i : Nat), H.length ≤ H'.length → (showH W k H H')[i]? = match H[i]? with | some (.var T cs) => (match memB W (k + i) with | true => H'[i]? | false => some (.var T cs)) | _ => H'[i]?
  | [], H', k, i, _ => by simp [showH]
  | x :: r, [], k, i, h => by simp at h
  | x :: r, y :: s, k, 0, _ => by
    cases x <;> simp [showH]
    split <;> simp_all
  | x :: r, y :: s, k, i + 1, h => by
    have := showH_get W r s (k + 1) i (by simpa using h)
    have e1 : k + 1 + i = k + (i + 1) := by omega
    rw [e1] at this
    cases x <;> simp [showH, this]
theorem showH_length (W : List Nat) : ∀ (H H' : List Ob) (k : Nat), H.length ≤ H'.length → (showH W k H H').length = H'.length
  | [], H', k, _ => by simp [showH]
  | x :: r, [], k, h => by simp at h
  | x :: r, y :: s, k, h => by
    have := showH_length W r s (k + 1) (by simpa using h)
    cases x <;> simp [showH, this]

/-- The small world of what is seen. -/
def Ctx.at (w : World) (F : Nat → Prop) (e : Env) (W : List Nat) (H : List Ob) : Ctx := ⟨w, fun b => ∃ o, Owner e (hideH W 0 H) o b, e, F⟩

theorem Sat.hide (h : Sat C S a w F e) (W : List Nat) : Sat (Ctx.at w F e W S.heap) (hide W S) a w F e := by
  refine ⟨h.defers, h.size, h.mem.heap.len, h.regs, ⟨⟨?_, fun o x hx => ?_, fun o o' b h1 h2 => h.mem.heap.one _ _ _ (hide_owner h1).1 (hide_owner h2).1⟩, ⟨rfl, rfl, rfl, Nat.le_refl _, fun _ _ _ => rfl⟩, fun o b hb => .inr ⟨o, hb⟩, fun _ h => h, h.mem.bound, fun b hb => .inl hb, EnvLe.refl e⟩⟩
  · show e.len = (hideH W 0 S.heap).length
    rw [hideH_length]; exact h.mem.heap.len
  · have hx : (hideH W 0 S.heap)[o]? = some x := hx
    rw [hideH_get] at hx
    cases hy : S.heap[o]? with
    | none => rw [hy] at hx; cases hx
    | some y =>
      rw [hy] at hx
      simp only [Option.map_some, Nat.zero_add, Option.some.injEq] at hx
      have := h.mem.heap.ob o y hy
      cases y with
      | var T cs =>
        simp only at hx
        cases hm : memB W o with
        | true => rw [hm] at hx; subst hx; exact this
        | false => rw [hm] at hx; subst hx; trivial
      | row el sz xs => subst hx; exact this
      | frz sz xs => subst hx; exact this
      | gone => subst hx; exact this

theorem Sat.unhide (h : Sat C S a w F e) {W : List Nat} (k : Sat (Ctx.at w F e W S.heap) S' a' w' F' e') : Sat C (unhide W S S') a' w' F' e' ∧
    (∀ b, b < w.heap.size → ¬ (∃ o, Owner e (hideH W 0 S.heap) o b) → w'.heap[b]? = w.heap[b]?) ∧
    (∀ o b, Owner e' (hideH W 0 (unhide W S S').heap) o b → w.heap.size ≤ b ∨ ∃ o, Owner e (hideH W 0 S.heap) o b) := by
  have M := h.mem
  have K := k.mem
  have E : EnvLe e e' := K.env
  have hlen : S.heap.length ≤ S'.heap.length := by rw [← M.heap.len, ← K.heap.len]; exact E.len
  have hblk : ∀ b, b < w.heap.size → ¬ (∃ o, Owner e (hideH W 0 S.heap) o b) → w'.heap[b]? = w.heap[b]? := fun b hb hn => K.mod.block b hb hn
  have hget : ∀ (i : Nat), (Go.Ab.unhide W S S').heap[i]? = match S.heap[i]? with | some (.var T cs) => (match memB W i with | true => S'.heap[i]? | false => some (.var T cs)) | _ => S'.heap[i]? := by
    intro i
    have := showH_get W S.heap S'.heap 0 i hlen
    rw [Nat.zero_add] at this
    exact this
  have hsee : ∀ i, Seen W S.heap i → (Go.Ab.unhide W S S').heap[i]? = S'.heap[i]? := by
    intro i hs
    rw [hget]
    split
    · rename_i T cs hx; rw [hs T cs hx]
    · rfl
  have hhid : ∀ i, ¬ Seen W S.heap i → ∃ T cs, S.heap[i]? = some (.var T cs) ∧ memB W i = false ∧ (Go.Ab.unhide W S S').heap[i]? = some (.var T cs) := by
    intro i hs
    cases hx : S.heap[i]? with
    | none => exact absurd (fun T cs h => by rw [hx] at h; cases h) hs
    | some x =>
      cases x with
      | var T cs =>
        cases hm : memB W i with
        | true => exact absurd (fun T' cs' _ => hm) hs
        | false => exact ⟨T, cs, rfl, rfl, by rw [hget, hx]; simp only; rw [hm]⟩
      | _ => exact absurd (fun T cs h => by rw [hx] at h; cases h) hs
  have hownhid : ∀ i, ¬ Seen W S.heap i → ∀ b, Owner e' (Go.Ab.unhide W S S').heap i b → Owner e S.heap i b ∧ b = e.blk i := by
    intro i hs b hb
    obtain ⟨T, cs, h1, h2, h3⟩ := hhid i hs
    have hi : i < e.len := by rw [M.heap.len]; exact (List.getElem?_eq_some_iff.1 h1).1
    unfold Owner at hb ⊢
    rw [h3] at hb
    rw [h1]
    have hb : e'.blk i = b := hb
    rw [E.blk i hi] at hb
    exact ⟨hb, hb.symm⟩
  have hnotown : ∀ i b, ¬ Seen W S.heap i → Owner e S.heap i b → ¬ ∃ o, Owner e (hideH W 0 S.heap) o b := by
    rintro i b hs ho ⟨o, h2⟩
    obtain ⟨h3, h4⟩ := hide_owner h2
    have := M.heap.one _ _ _ ho h3
    subst this
    exact hs h4
  have hownsee : ∀ i b, Seen W S.heap i → Owner e' (Go.Ab.unhide W S S').heap i b → Owner e' S'.heap i b := by
    intro i b hs hb
    unfold Owner at hb ⊢
    rw [hsee i hs] at hb
    exact hb
  have hours : ∀ o b, Owner e' (Go.Ab.unhide W S S').heap o b → (w.heap.size ≤ b ∨ ∃ o, Owner e (hideH W 0 S.heap) o b) ∨ (¬ Seen W S.heap o ∧ Owner e S.heap o b) := by
    intro o b hb
    by_cases hs : Seen W S.heap o
    · exact .inl (K.ours o b (hownsee o b hs hb))
    · exact .inr ⟨hs, (hownhid o hs b hb).1⟩
  refine ⟨⟨k.defers, k.size, h.base, k.regs, ⟨⟨?_, fun o x hx => ?_, fun o1 o2 b h1 h2 => ?_⟩, ⟨K.mod.os.trans M.mod.os, K.mod.tape.trans M.mod.tape, K.mod.output.trans M.mod.output, Nat.le_trans M.mod.size K.mod.size, fun b hb hn => ?_⟩, fun o b hb => ?_, fun b hb => K.sub b (M.sub b hb), K.bound, fun b hb => ?_, M.env.trans E⟩⟩, hblk, fun o b hb => ?_⟩
  · show e'.len = (showH W 0 S.heap S'.heap).length
    rw [showH_length W _ _ _ hlen]; exact K.heap.len
  · by_cases hs : Seen W S.heap o
    · rw [hsee o hs] at hx; exact K.heap.ob o x hx
    · obtain ⟨T, cs, h1, h2, h3⟩ := hhid o hs
      rw [h3] at hx
      injection hx with hx
      subst hx
      have hi : o < e.len := by rw [M.heap.len]; exact (List.getElem?_eq_some_iff.1 h1).1
      obtain ⟨hF, vs, hb, hsz, hrep⟩ := M.heap.ob o _ h1
      have hown : Owner e S.heap o (e.blk o) := by unfold Owner; rw [h1]
      have hbl : e.blk o < w.heap.size := hown.lt M.heap
      have hno := hnotown o _ hs hown
      have L : Later w F w' F' := ⟨fun b hb => K.sub b hb, fun b hb => hblk b (M.bound b hb) (fun ⟨q, hq⟩ => Owner.notF M.heap (hide_owner hq).1 hb)⟩
      refine ⟨?_, vs, ?_, hsz, fun j s hj => (hrep j s hj).mono L E⟩
      · rw [E.blk o hi]
        intro hF'
        rcases K.fresh _ hF' with h4 | h4 | h4
        · exact hF h4
        · have h4 : w.heap.size ≤ e.blk o := h4
          omega
        · exact hno h4
      · rw [E.blk o hi, hblk _ hbl hno]; exact hb
  · by_cases s1 : Seen W S.heap o1 <;> by_cases s2 : Seen W S.heap o2
    · exact K.heap.one _ _ _ (hownsee _ _ s1 h1) (hownsee _ _ s2 h2)
    · obtain ⟨k2, _⟩ := hownhid o2 s2 b h2
      rcases K.ours _ _ (hownsee _ _ s1 h1) with h4 | h4
      · have h4 : w.heap.size ≤ b := h4
        have := k2.lt M.heap; omega
      · exact absurd h4 (hnotown o2 b s2 k2)
    · obtain ⟨k1, _⟩ := hownhid o1 s1 b h1
      rcases K.ours _ _ (hownsee _ _ s2 h2) with h4 | h4
      · have h4 : w.heap.size ≤ b := h4
        have := k1.lt M.heap; omega
      · exact absurd h4 (hnotown o1 b s1 k1)
    · exact M.heap.one _ _ _ (hownhid o1 s1 b h1).1 (hownhid o2 s2 b h2).1
  · rw [hblk b (Nat.lt_of_lt_of_le hb M.mod.size) (fun ⟨q, hq⟩ => ?_)]
    · exact M.mod.block b hb hn
    · rcases M.ours _ _ (hide_owner hq).1 with h4 | h4
      · omega
      · exact hn h4
  · rcases hours o b hb with (h4 | ⟨q, hq⟩) | ⟨_, h4⟩
    · exact .inl (Nat.le_trans M.mod.size h4)
    · exact M.ours _ _ (hide_owner hq).1
    · exact M.ours _ _ h4
  · rcases K.fresh b hb with h4 | h4 | ⟨q, hq⟩
    · exact M.fresh b h4
    · exact .inr (.inl (Nat.le_trans M.mod.size h4))
    · rcases M.ours _ _ (hide_owner hq).1 with h5 | h5
      · exact .inr (.inl h5)
      · exact .inr (.inr h5)
  · obtain ⟨h1, h2⟩ := hide_owner hb
    rcases hours o b h1 with h4 | ⟨h4, h5⟩
    · exact h4
    · obtain ⟨T, cs, h6, h7, h8⟩ := hhid o h4
      have := h2 T cs h8
      rw [h7] at this
      cases this

end
end Go.Ab
