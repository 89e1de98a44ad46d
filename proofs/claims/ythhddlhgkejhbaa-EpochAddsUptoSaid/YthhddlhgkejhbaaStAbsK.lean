/- Freezing: what was ours is nobody's any more, and stands for good. Calls, told by contracts. -/
import Derived.Test.YthhddlhgkejhbaaStAbsJ
namespace Go.Ab
set_option linter.unusedVariables false
set_option linter.unusedSimpArgs false
section
variable {P : Program} {C : Ctx} {H H' : List Ob} {w w' : World} {F F' : Nat → Prop} {e e' : Env}

/-- Nothing of ours changes; more may be frozen. -/
theorem Mem.calm (M : Mem C H w F e) (T : Touch w w' (fun _ => False)) (hs : ∀ b, F b → F' b) (hn : ∀ b, F' b → F b ∨ w.heap.size ≤ b) (hb : ∀ b, F' b → b < w'.heap.size) : Mem C H w' F' e := by
  have L : Later w F w' F' := ⟨hs, fun b hb => T.block b (M.bound b hb) (fun h => h)⟩
  refine ⟨⟨M.heap.len, fun o x hx => ?_, M.heap.one⟩, ⟨T.os.trans M.mod.os, T.tape.trans M.mod.tape, T.output.trans M.mod.output, Nat.le_trans M.mod.size T.size, fun b hb hn => ?_⟩, M.ours, fun b hb => hs b (M.sub b hb), hb, fun b hb => ?_, M.env⟩
  · have hlt : o < e.len := by rw [M.heap.len]; exact (List.getElem?_eq_some_iff.1 hx).1
    refine ObRep.keep hx hlt (M.heap.ob o x hx) L (fun b hb => ?_) (EnvLe.refl e) rfl rfl (fun b hb => T.block b (hb.lt M.heap) (fun h => h))
    rcases hn b hb with h | h
    · exact .inl h
    · exact .inr fun hown => by have := hown.lt M.heap; omega
  · rw [T.block b (Nat.lt_of_lt_of_le hb M.mod.size) (fun h => h)]; exact M.mod.block b hb hn
  · rcases hn b hb with h | h
    · exact M.fresh b h
    · exact .inr (.inl (Nat.le_trans M.mod.size h))

/-- A row is frozen. -/
theorem Mem.freeze (M : Mem C H w F e) {o el sz : Nat} {xs : List (List AV)} (ho : H[o]? = some (.row el sz xs)) :
    ∃ F', Later w F w F' ∧ Mem C (H.set o (.frz sz xs)) w F' e ∧ Rep w F' Env.nil (.sl xs) (e.rowv o) ∧ (∀ b, F' b → F b ∨ Owner e H o b) := by
  have hlt : o < H.length := (List.getElem?_eq_some_iff.1 ho).1
  obtain ⟨hrl, hown⟩ := M.heap.ob o _ ho
  refine ⟨fun b => F b ∨ Owner e H o b, ?_⟩
  have L : Later w F w (fun b => F b ∨ Owner e H o b) := ⟨fun b hb => .inl hb, fun _ _ => rfl⟩
  have hr : Rep w (fun b => F b ∨ Owner e H o b) Env.nil (.sl xs) (e.rowv o) := by
    obtain ⟨hsz, hown⟩ := hown
    rcases hown with ⟨rfl, hv⟩ | ⟨b, c, vs, hv, hF, hb, hvs, hle, hmx, hrep⟩
    · rw [hv]
      exact .sl sz default (fun _ _ => undef) (Nat.le_refl _) (fun h => absurd rfl h) (fun i cs h => by simp at h) (fun i cs h => by simp at h) (fun i cs j s h => by simp at h) (fun i cs j s h => by simp at h)
    · rw [hv]
      refine .sl sz ⟨b, 0, none⟩ (fun i j => vs.getD (i * sz + j) undef) hle (fun _ => ⟨rfl, .inr ?_, rfl⟩) (fun i cs h => (hsz i cs h).1) (fun i cs h => (hsz i cs h).2) (fun i cs j s hi hj => ?_) (fun i cs j s hi hj => ?_)
      · unfold Owner; rw [ho]; exact ⟨_, _, hv⟩
      · obtain ⟨y, hy, _⟩ := hrep i cs j s hi hj
        rw [Nat.zero_add, cell_of_row w b _ vs el _ hb, hy, Array.getD_eq_getD_getElem?, hy]
        rfl
      · obtain ⟨y, hy, hyr⟩ := hrep i cs j s hi hj
        have : vs.getD (i * sz + j) undef = y := by rw [Array.getD_eq_getD_getElem?, hy]; rfl
        rw [this]
        exact hyr.mono L (EnvLe.refl _)
  have hold : ∀ o' b, o' ≠ o → (Owner e (H.set o (.frz sz xs)) o' b ↔ Owner e H o' b) := by
    intro o' b hn
    unfold Owner
    rw [List.getElem?_set_ne (Ne.symm hn)]
  have hnone : ∀ b, ¬ Owner e (H.set o (.frz sz xs)) o b := by
    intro b h
    unfold Owner at h
    simp [hlt] at h
  refine ⟨L, ⟨⟨by simp [M.heap.len], fun o' x hx => ?_, fun o1 o2 b h1 h2 => ?_⟩, M.mod, fun o' b hb => ?_, fun b hb => .inl (M.sub b hb), fun b hb => ?_, fun b hb => ?_, M.env⟩, hr, fun b hb => hb⟩
  · by_cases hn : o' = o
    · subst hn
      simp [hlt] at hx
      subst hx
      exact ⟨hrl, fun i cs h => ((hown.1) i cs h).1, hr⟩
    · rw [List.getElem?_set_ne (Ne.symm hn)] at hx
      have hlt' : o' < e.len := by rw [M.heap.len]; exact (List.getElem?_eq_some_iff.1 hx).1
      refine ObRep.keep hx hlt' (M.heap.ob o' x hx) L (fun b hb => ?_) (EnvLe.refl e) rfl rfl (fun b hb => rfl)
      rcases hb with hb | hb
      · exact .inl hb
      · exact .inr fun h => hn (M.heap.one _ _ _ h hb)
  · by_cases n1 : o1 = o
    · subst n1; exact absurd h1 (hnone b)
    · by_cases n2 : o2 = o
      · subst n2; exact absurd h2 (hnone b)
      · exact M.heap.one _ _ _ ((hold o1 b n1).1 h1) ((hold o2 b n2).1 h2)
  · by_cases hn : o' = o
    · subst hn; exact absurd hb (hnone b)
    · exact M.ours _ _ ((hold o' b hn).1 hb)
  · rcases hb with hb | hb
    · exact M.bound b hb
    · exact hb.lt M.heap
  · rcases hb with hb | hb
    · exact M.fresh b hb
    · rcases M.ours _ _ hb with h | h
      · exact .inr (.inl h)
      · exact .inr (.inr h)

/-! ### A pure copy of a cell -/
def nrm : Value → AV
  | .slice none 0 0 => .sl []
  | x => .v x

mutual
def pureB : AV → Bool
  | .v _ => true
  | .sl _ => true
  | .agg cs => pureBs cs
  | .ifc _ x => pureB x
  | _ => false
def pureBs : List AV → Bool
  | [] => true
  | x :: r => pureB x && pureBs r
end

def purC (H : List Ob) (a : AV) (k : AV → Prop) : Prop :=
  match a with
  | .v x => k (nrm x)
  | .sl xs => k (.sl xs)
  | .row o n =>
    (match H[o]? with
    | some (.row _ _ xs) => Need (n = xs.length) <| k (.sl xs)
    | some (.frz _ xs) => Need (n = xs.length) <| k (.sl xs)
    | _ => False)
  | .ifc t x => Chk (pureB x) <| k (.ifc t x)
  | _ => False

def purL (H : List Ob) : List AV → (List AV → Prop) → Prop
  | [], k => k []
  | a :: r, k => purC H a fun x => purL H r fun xs => k (x :: xs)

def frzC (H : List Ob) : AV → List Ob
  | .row o _ => (match H[o]? with | some (.row _ sz xs) => H.set o (.frz sz xs) | _ => H)
  | _ => H
def frzL (H : List Ob) : List AV → List Ob
  | [] => H
  | a :: r => frzL (frzC H a) r

mutual
theorem pure_env {w : World} {F : Nat → Prop} {e e' : Env} : ∀ (s : AV) (x : Value), pureB s = true → Rep w F e s x → Rep w F e' s x
  | .v y, x, _, h => by rw [h.v_inv]; exact .v
  | .sl xs, x, _, h => by cases h with | sl sz a vals hc hA hsz hone hcell hrep => exact .sl sz a vals hc hA hsz hone hcell hrep
  | .agg cs, x, hp, h => by
    obtain ⟨vs, rfl, h1, h2⟩ := h.agg_inv
    exact .agg h1 (pures_env cs (fun j => vs.getD j undef) (by simpa [pureB] using hp) h2)
  | .ifc t y, x, hp, h => by
    obtain ⟨z, rfl, hz⟩ := h.ifc_inv
    exact .ifc (pure_env y z (by simpa [pureB] using hp) hz)
  | .ptr .., _, hp, _ | .row .., _, hp, _ | .rptr .., _, hp, _ | .vw .., _, hp, _ | .eptr .., _, hp, _ | .fn .., _, hp, _ | .tup .., _, hp, _ | .dead, _, hp, _ => by simp [pureB] at hp
theorem pures_env {w : World} {F : Nat → Prop} {e e' : Env} : ∀ (cs : List AV) (f : Nat → Value), pureBs cs = true → (∀ (j : Nat) s, cs[j]? = some s → Rep w F e s (f j)) → ∀ (j : Nat) s, cs[j]? = some s → Rep w F e' s (f j)
  | [], f, _, _, j, s, hj => by simp at hj
  | c :: r, f, hp, h, j, s, hj => by
    simp only [pureBs, Bool.and_eq_true] at hp
    cases j with
    | zero =>
      simp at hj
      subst hj
      exact pure_env c (f 0) hp.1 (h 0 c rfl)
    | succ j => exact pures_env r (fun q => f (q + 1)) hp.2 (fun q s hq => h (q + 1) s (by simpa using hq)) j s (by simpa using hj)
end

theorem nrm_rep {w : World} {F : Nat → Prop} {e : Env} (x : Value) : Rep w F e (nrm x) x := by
  unfold nrm
  split
  · exact .sl 0 default (fun _ _ => undef) (Nat.le_refl 0) (fun h => absurd rfl h) (fun i cs h => by simp at h) (fun i cs h => by simp at h) (fun i cs j s h => by simp at h) (fun i cs j s h => by simp at h)
  · exact .v

theorem nrm_one {x : Value} : (nrm x).one = x.oneCell' := by
  unfold nrm
  split <;> rfl

/-- What is asked of the heap as it is being frozen: a row may have been frozen already. -/
def Froze (H H' : List Ob) : Prop := H'.length = H.length ∧ ∀ (o : Nat), H'[o]? = H[o]? ∨ ∃ (el sz : Nat) (xs : List (List AV)), H[o]? = some (Ob.row el sz xs) ∧ H'[o]? = some (Ob.frz sz xs)
theorem Froze.refl (H : List Ob) : Froze H H := ⟨rfl, fun _ => .inl rfl⟩
theorem Froze.step {H H1 : List Ob} (h : Froze H H1) (a : AV) : Froze H (frzC H1 a) := by
  unfold frzC
  split
  · rename_i o n
    split
    · rename_i el sz xs ho
      refine ⟨by simp [h.1], fun o' => ?_⟩
      by_cases hn : o' = o
      · subst hn
        have hlt := (List.getElem?_eq_some_iff.1 ho).1
        rcases h.2 o' with k | ⟨el', sz', xs', k1, k2⟩
        · exact .inr ⟨el, sz, xs, by rw [← k]; exact ho, by simp [hlt]⟩
        · rw [ho] at k2; cases k2
      · rw [List.getElem?_set_ne (Ne.symm hn)]; exact h.2 o'
    · exact h
  · exact h

theorem purC_sound {H0 : List Ob} (hf : Froze H0 H) (M : Mem C H w F e) {a : AV} {x : Value} (hx : Rep w F e a x) {k : AV → Prop} (h : purC H0 a k) :
    ∃ a' F', k a' ∧ Later w F w F' ∧ Mem C (frzC H a) w F' e ∧ Rep w F' Env.nil a' x ∧ a'.one = a.one ∧ (∀ b, F' b → F b ∨ ∃ o, Owner e H o b) := by
  unfold purC at h
  split at h
  · rename_i y
    have := hx.v_inv; subst this
    exact ⟨_, F, h, Later.refl w F, M, nrm_rep _, nrm_one, fun b hb => .inl hb⟩
  · rename_i xs
    exact ⟨_, F, h, Later.refl w F, M, pure_env _ _ rfl hx, rfl, fun b hb => .inl hb⟩
  · rename_i o n
    have key : ∀ (xs : List (List AV)), (∃ (el sz : Nat), H0[o]? = some (Ob.row el sz xs)) ∨ (∃ (sz : Nat), H0[o]? = some (Ob.frz sz xs)) → n = xs.length → k (.sl xs) →
        ∃ a' F', k a' ∧ Later w F w F' ∧ Mem C (frzC H (.row o n)) w F' e ∧ Rep w F' Env.nil a' x ∧ a'.one = (AV.row o n).one ∧ (∀ b, F' b → F b ∨ ∃ o, Owner e H o b) := by
      intro xs hxs hn hk
      have hcase : (∃ (el sz : Nat), H[o]? = some (Ob.row el sz xs)) ∨ ∃ (sz : Nat), H[o]? = some (Ob.frz sz xs) := by
        rcases hf.2 o with h1 | ⟨el, sz, ys, h1, h2⟩
        · rw [h1]; exact hxs
        · rcases hxs with ⟨el', sz', h3⟩ | ⟨sz', h3⟩
          · rw [h1] at h3; injection h3 with h3; injection h3 with _ _ h3; subst h3; exact .inr ⟨_, h2⟩
          · rw [h1] at h3; cases h3
      rcases hcase with ⟨el, sz, ho⟩ | ⟨sz, ho⟩
      · obtain ⟨F', L, M', hr, hnew⟩ := M.freeze ho
        obtain ⟨hrl, _⟩ := M.heap.ob o _ ho
        refine ⟨.sl xs, F', hk, L, ?_, ?_, rfl, fun b hb => (hnew b hb).imp id fun h => ⟨o, h⟩⟩
        · unfold frzC; simp only; rw [ho]; exact M'
        · cases hx with
          | row hl hn' hv => rw [← hv]; exact hr
          | rowold hl hn' => omega
      · obtain ⟨hrl, _, hr⟩ := M.heap.ob o _ ho
        refine ⟨.sl xs, F, hk, Later.refl w F, ?_, ?_, rfl, fun b hb => .inl hb⟩
        · unfold frzC; simp only; rw [ho]; exact M
        · cases hx with
          | row hl hn' hv => rw [← hv]; exact hr
          | rowold hl hn' => omega
    split at h
    · rename_i el sz xs ho; exact key xs (.inl ⟨_, _, ho⟩) h.h h.k
    · rename_i sz xs ho; exact key xs (.inr ⟨_, ho⟩) h.h h.k
    · exact h.elim
  · rename_i t y
    exact ⟨_, F, h.elim.2, Later.refl w F, M, pure_env _ _ (by simpa [pureB] using h.elim.1) hx, rfl, fun b hb => .inl hb⟩
  · exact h.elim

theorem purL_sound {H0 : List Ob} : ∀ (cs : List AV) {H : List Ob} {F : Nat → Prop} (hf : Froze H0 H) (M : Mem C H w F e) (f : Nat → Value) (hx : ∀ (j : Nat) s, cs[j]? = some s → Rep w F e s (f j)) {k : List AV → Prop} (h : purL H0 cs k),
    ∃ cs' F', k cs' ∧ Later w F w F' ∧ Mem C (frzL H cs) w F' e ∧ cs'.length = cs.length ∧ (∀ (j : Nat) s, cs'[j]? = some s → Rep w F' Env.nil s (f j)) ∧ ones cs' = ones cs ∧ (∀ b, F' b → F b ∨ ∃ o, Owner e H o b)
  | [], H, F, hf, M, f, hx, k, h => ⟨[], F, h, Later.refl w F, M, rfl, fun j s hj => by simp at hj, rfl, fun b hb => .inl hb⟩
  | a :: r, H, F, hf, M, f, hx, k, h => by
    simp only [purL] at h
    obtain ⟨a', F1, h1, L1, M1, r1, o1, n1⟩ := purC_sound hf M (hx 0 a rfl) h
    obtain ⟨cs', F2, h2, L2, M2, l2, r2, o2, n2⟩ := purL_sound r (hf.step a) M1 (fun j => f (j + 1)) (fun j s hj => (hx (j + 1) s (by simpa using hj)).mono L1 (EnvLe.refl e)) h1
    refine ⟨a' :: cs', F2, h2, L1.trans L2, M2, by simp [l2], fun j s hj => ?_, by simp only [ones, List.all_cons] at *; rw [o1, o2], fun b hb => ?_⟩
    · cases j with
      | zero => simp at hj; subst hj; exact r1.mono L2 (EnvLe.refl _)
      | succ j => exact r2 j s (by simpa using hj)
    · rcases n2 b hb with h | ⟨o, ho⟩
      · exact n1 b h
      · refine .inr ⟨o, ?_⟩
        unfold Owner at ho ⊢
        have hs : Froze H (frzC H a) := (Froze.refl H).step a
        rcases hs.2 o with k1 | ⟨el, sz, xs, k1, k2⟩
        · rw [k1] at ho; exact ho
        · rw [k2] at ho; exact ho.elim

end
end Go.Ab
