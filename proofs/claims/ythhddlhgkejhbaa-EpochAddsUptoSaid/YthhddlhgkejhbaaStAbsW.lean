/- From one state to a plainer one: rows are frozen, what is nil becomes a row, what is of no use goes. -/
import Derived.Test.YthhddlhgkejhbaaStAbsV
namespace Go.Ab
set_option linter.unusedVariables false
set_option linter.unusedSimpArgs false

/-- Whatever has the one has the other one. -/
inductive Le (H : List Ob) : AV → AV → Prop
  | same {a b} (h : a = b) : Le H a b
  | dead {a} : Le H a .dead
  | nil : Le H (.v (.slice none 0 0)) (.sl [])
  | frz {o n sz xs} (h : H[o]? = some (.frz sz xs)) (hn : n = xs.length) : Le H (.row o n) (.sl xs)

inductive LeL (H : List Ob) : List AV → List AV → Prop
  | nil : LeL H [] []
  | cons {a b r s} (h : Le H a b) (t : LeL H r s) : LeL H (a :: r) (b :: s)

/-- For a register. -/
inductive LeR (H : List Ob) : AV → AV → Prop
  | one {a b} (h : Le H a b) : LeR H a b
  | agg {r s} (h : LeL H r s) : LeR H (.agg r) (.agg s)

inductive LeO (H : List Ob) : Ob → Ob → Prop
  | same {a b} (h : a = b) : LeO H a b
  | var {T r s} (h : LeL H r s) : LeO H (.var T r) (.var T s)
  | gone {a} : LeO H a .gone

/-- Objects, from the first on. -/
inductive LeH (H : List Ob) : List Ob → List Ob → Prop
  | nil : LeH H [] []
  | cons {a b r s} (h : LeO H a b) (t : LeH H r s) : LeH H (a :: r) (b :: s)

section
variable {P : Program} {C : Ctx} {S : St} {H H' : List Ob} {w : World} {F : Nat → Prop} {e : Env}

theorem Le.rep (M : HRep w F e H) {a b : AV} (h : Le H a b) {x : Value} (hr : Rep w F e a x) : Rep w F e b x := by
  cases h with
  | same h => subst h; exact hr
  | dead => exact .dead
  | nil =>
    rw [hr.v_inv]
    exact .sl 0 default (fun _ _ => undef) (Nat.le_refl 0) (fun h => absurd rfl h) (fun i cs h => by simp at h) (fun i cs h => by simp at h) (fun i cs j s h => by simp at h) (fun i cs j s h => by simp at h)
  | @frz o n sz xs h hn =>
    obtain ⟨hrl, _, hsl⟩ := M.ob o _ h
    cases hr with
    | row hl hn' hv => rw [← hv]; exact hsl.env
    | rowold hl hn' => omega

theorem LeL.len {r s : List AV} (h : LeL H r s) : r.length = s.length := by
  induction h with
  | nil => rfl
  | cons _ _ ih => simp [ih]
theorem LeL.rep (M : HRep w F e H) {r s : List AV} (h : LeL H r s) : ∀ {f : Nat → Value}, (∀ (j : Nat) a, r[j]? = some a → Rep w F e a (f j)) → ∀ (j : Nat) b, s[j]? = some b → Rep w F e b (f j) := by
  induction h with
  | nil => intro f _ j b hb; simp at hb
  | cons h t ih =>
    intro f hr j b hb
    cases j with
    | zero => simp at hb; subst hb; exact h.rep M (hr 0 _ rfl)
    | succ j => exact ih (f := fun j => f (j + 1)) (fun j a ha => hr (j + 1) a (by simpa using ha)) j b (by simpa using hb)
theorem LeR.rep (M : HRep w F e H) {a b : AV} (h : LeR H a b) {x : Value} (hr : Rep w F e a x) : Rep w F e b x := by
  cases h with
  | one h => exact h.rep M hr
  | agg h =>
    obtain ⟨vs, rfl, h1, h2⟩ := hr.agg_inv
    exact .agg (by rw [h1, h.len]) (h.rep M h2)

theorem LeH.len {r s : List Ob} (h : LeH H r s) : r.length = s.length := by
  induction h with
  | nil => rfl
  | cons _ _ ih => simp [ih]
theorem LeH.get {r s : List Ob} (h : LeH H r s) : ∀ (o : Nat) b, s[o]? = some b → ∃ a, r[o]? = some a ∧ LeO H a b := by
  induction h with
  | nil => intro o b hb; simp at hb
  | cons h t ih =>
    intro o b hb
    cases o with
    | zero => simp at hb; subst hb; exact ⟨_, rfl, h⟩
    | succ o => exact ih o b (by simpa using hb)

theorem LeO.owner {a b : Ob} (h : LeO H a b) {o k : Nat} (ha : H[o]? = some a) (hb : H'[o]? = some b) (hk : Owner e H' o k) : Owner e H o k := by
  unfold Owner at *
  rw [hb] at hk
  rw [ha]
  cases h with
  | same h => subst h; exact hk
  | var h => exact hk
  | gone => exact hk.elim

theorem Mem.le (M : Mem C H w F e) (h : LeH H H H') : Mem C H' w F e := by
  have hown : ∀ o b, Owner e H' o b → Owner e H o b := by
    intro o b hb
    cases hx : H'[o]? with
    | none => unfold Owner at hb; rw [hx] at hb; exact hb.elim
    | some y =>
      obtain ⟨a, ha, hle⟩ := h.get o y hx
      exact hle.owner ha hx hb
  refine ⟨⟨by rw [M.heap.len, h.len], fun o y hy => ?_, fun o o' b h1 h2 => M.heap.one _ _ _ (hown _ _ h1) (hown _ _ h2)⟩, M.mod, fun o b hb => M.ours o b (hown o b hb), M.sub, M.bound, M.fresh, M.env⟩
  obtain ⟨a, ha, hle⟩ := h.get o y hy
  have := M.heap.ob o a ha
  cases hle with
  | same h => subst h; exact this
  | var h =>
    obtain ⟨hF, vs, h1, h2, h3⟩ := this
    exact ⟨hF, vs, h1, by rw [h2, h.len], h.rep M.heap h3⟩
  | gone => trivial

/-- What is asked of the registers that are kept. -/
inductive LeRs (S : St) : List (Nat × AV) → Prop
  | nil : LeRs S []
  | cons {t b r} (h : LeR S.heap (S.regs t) b) (k : LeRs S r) : LeRs S ((t, b) :: r)
theorem LeRs.get {l : List (Nat × AV)} (h : LeRs S l) : ∀ p ∈ l, LeR S.heap (S.regs p.1) p.2 := by
  induction h with
  | nil => intro p hp; cases hp
  | cons h k ih =>
    intro p hp
    rcases List.mem_cons.1 hp with rfl | hp
    · exact h
    · exact ih p hp

/-- The plain road: registers that are kept, objects as they are to be, those behind them let go. -/
theorem weak_fin {n b : Nat} {l : List (Nat × AV)} {H : List Ob} (D : List Ob) (hn : S.n = n) (hb : S.base = b) (hbm : Nat.ble b H.length = true) (hh : LeH S.heap S.heap (H ++ D)) (hr : LeRs S l)
    (hs : withinObs H.length H = true) (hl : withins H.length (l.map (·.2)) = true) : Weak S ⟨n, b, ofRegs l, H⟩ := by
  refine ⟨fun C a w F e h => ⟨F, e.cut H.length, h.defers, h.size.trans hn, h.base.trans hb, fun t => ?_, ?_⟩⟩
  · have hsc : ∀ p ∈ l, within H.length p.2 = true := by
      clear hr
      induction l with
      | nil => intro p hp; cases hp
      | cons q r ih =>
        intro p hp
        simp only [List.map_cons, withins, Bool.and_eq_true] at hl
        rcases List.mem_cons.1 hp with rfl | hp
        · exact hl.1
        · exact ih hl.2 p hp
    rcases ofRegs_cases l t with h1 | ⟨p, hp, rfl, h2⟩
    · simp only; rw [h1]; exact .dead
    · simp only; rw [h2]
      exact within_cut p.2 _ (hsc p hp) ((hr.get p hp).rep h.mem.heap (h.regs p.1))
  · have M := h.mem.le hh
    have := M.cut (m := H.length) (by simp) (by rw [h.base, hb]; exact Nat.le_of_ble_eq_true hbm) (by simpa using hs)
    simpa using this

/-- A row is frozen. -/
theorem weak_freeze {el sz : Nat} {xs : List (List AV)} (o : Nat) (ho : S.heap[o]? = some (.row el sz xs)) : Weak S { S with heap := S.heap.set o (.frz sz xs) } := by
  refine ⟨fun C a w F e h => ?_⟩
  obtain ⟨F', L, M', _, _⟩ := h.mem.freeze ho
  exact ⟨F', e, h.defers, h.size, h.base, fun t => (h.regs t).mono L (EnvLe.refl e), M'⟩

/-- A cell of a variable that holds nil holds a row that is ours, of no elements. -/
theorem weak_nilcell {T : TypeId} {cs : List AV} (o j el sz : Nat) (ho : S.heap[o]? = some (.var T cs)) (hj : cs[j]? = some (.v (.slice none 0 0))) : Weak S { S with heap := (S.heap.set o (.var T (cs.set j (.row S.heap.length 0)))) ++ [.row el sz []] } := by
  refine ⟨fun C a w F e h => ?_⟩
  have hr : OwnRow w F el sz [] (.slice none 0 0) := ⟨fun i cs hi => by simp at hi, .inl ⟨rfl, rfl⟩⟩
  have M := h.mem.pushRow (x := .slice none 0 0) (xs := []) (Touch.refl w _) hr (fun b hb => by cases hb)
  have E := EnvLe.pushRow e 0 (.slice none 0 0)
  have hlt : o < S.heap.length := (List.getElem?_eq_some_iff.1 ho).1
  have ho' : (S.heap ++ [Ob.row el sz []])[o]? = some (.var T cs) := by rw [List.getElem?_append_left hlt]; exact ho
  have M2 := M.change (o := o) (H' := (S.heap ++ [Ob.row el sz []]).set o (.var T (cs.set j (.row S.heap.length 0)))) (e' := e.pushRow 0 (.slice none 0 0)) (w' := w) (.var T (cs.set j (.row S.heap.length 0))) (by simpa using M.heap.len) (by simp) (fun o' hn => by rw [List.getElem?_set_ne (Ne.symm hn)]) (List.getElem?_set_self (by rw [List.length_append]; simp only [List.length_singleton]; omega)) (EnvLe.refl _) (fun o' _ _ => ⟨rfl, rfl⟩) (Touch.refl w _) ?_ ?_
  · refine ⟨F, e.pushRow 0 (.slice none 0 0), h.defers, h.size, h.base, fun s => (h.regs s).mono (Later.refl w F) E, ?_⟩
    have : (S.heap ++ [Ob.row el sz []]).set o (.var T (cs.set j (.row S.heap.length 0))) = (S.heap.set o (.var T (cs.set j (.row S.heap.length 0)))) ++ [.row el sz []] := by
      rw [List.set_append_left _ _ hlt]
    rw [← this]
    exact M2
  · obtain ⟨hF, vs, h1, h2, h3⟩ := M.heap.ob o _ ho'
    refine ⟨hF, vs, h1, by simpa using h2, fun i s hi => ?_⟩
    by_cases hij : j = i
    · subst hij
      have hjl : j < cs.length := (List.getElem?_eq_some_iff.1 hj).1
      rw [List.getElem?_set_self hjl] at hi
      injection hi with hi
      subst hi
      have hv := (h3 j _ hj).v_inv
      rw [hv]
      have hlt2 : S.heap.length < (e.pushRow 0 (.slice none 0 0)).len := by show S.heap.length < e.len + 1; rw [h.mem.heap.len]; omega
      refine .row hlt2 ?_ ?_
      · simp only [Env.pushRow]; rw [← h.mem.heap.len, upd_same]
      · simp only [Env.pushRow]; rw [← h.mem.heap.len, upd_same]
    · rw [List.getElem?_set_ne hij] at hi
      exact h3 i s hi
  · intro b hb
    unfold Owner at hb ⊢
    rw [ho']
    simp [show o < S.heap.length + 1 by omega] at hb
    exact .inl hb

end
end Go.Ab
