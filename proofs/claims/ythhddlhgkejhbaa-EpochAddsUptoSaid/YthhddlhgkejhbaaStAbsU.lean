/- Letting go: of registers, of objects; loops told by a family of states. -/
import Derived.Test.YthhddlhgkejhbaaStAbsT
import Derived.IntWalk
namespace Go.Ab
set_option linter.unusedVariables false
set_option linter.unusedSimpArgs false

mutual
/-- Does it speak of the first m objects alone? -/
def within (m : Nat) : AV → Bool
  | .ptr o _ => Nat.blt o m
  | .row o _ => Nat.blt o m
  | .rptr o _ _ _ _ => Nat.blt o m
  | .vw o _ _ _ _ => Nat.blt o m
  | .fn _ a b => withins m a && withins m b
  | .ifc _ x => within m x
  | .agg cs => withins m cs
  | .tup cs => withins m cs
  | _ => true
def withins (m : Nat) : List AV → Bool
  | [] => true
  | x :: r => within m x && withins m r
end

def withinOb (m : Nat) : Ob → Bool
  | .var _ cs => withins m cs
  | _ => true
def withinObs (m : Nat) : List Ob → Bool
  | [] => true
  | x :: r => withinOb m x && withinObs m r

def Env.cut (e : Env) (m : Nat) : Env := { e with len := m }

section
variable {C : Ctx} {S : St} {a : Act} {H : List Ob} {w : World} {F : Nat → Prop} {e : Env} {m : Nat}

theorem blt_lt {a b : Nat} (h : Nat.blt a b = true) : a < b := by simpa [Nat.blt_eq] using h

mutual
theorem within_cut : ∀ (s : AV) (x : Value), within m s = true → Rep w F e s x → Rep w F (e.cut m) s x
  | .v y, x, _, h => by rw [h.v_inv]; exact .v
  | .sl xs, x, _, h => by cases h with | sl sz a vals hc hA hsz hone hcell hrep => exact .sl sz a vals hc hA hsz hone hcell hrep
  | .ptr o off, x, hp, h => by have hlt : o < m := blt_lt (by simpa [within] using hp); cases h with | ptr hl => exact .ptr (e := e.cut m) hlt
  | .row o n, x, hp, h => by
    have hlt : o < m := blt_lt (by simpa [within] using hp)
    cases h with
    | row hl hn hv => exact .row (e := e.cut m) hlt hn hv
    | rowold hl hn => exact .rowold (e := e.cut m) hlt hn
  | .rptr o n sz i off, x, hp, h => by
    have hlt : o < m := blt_lt (by simpa [within] using hp)
    cases h with
    | rptr hl hn hv => exact .rptr (e := e.cut m) hlt hn hv
    | rptrold hl hn => exact .rptrold (e := e.cut m) hlt hn
  | .vw o n sz lo hi, x, hp, h => by
    have hlt : o < m := blt_lt (by simpa [within] using hp)
    cases h with
    | vw hl hn hv h1 h2 h3 h4 => exact .vw (e := e.cut m) hlt hn hv h1 h2 h3 h4
    | vwold hl hn => exact .vwold (e := e.cut m) hlt hn
  | .eptr cs, x, _, h => by cases h with | eptr a vals hF ha hcell hrep => exact .eptr a vals hF ha hcell hrep
  | .fn f as bs, x, hp, h => by
    simp only [within, Bool.and_eq_true] at hp
    cases h with
    | @fn _ _ _ _ fs cs h1 h2 r1 r2 => exact .fn h1 h2 (withins_cut as _ hp.1 r1) (withins_cut bs _ hp.2 r2)
  | .ifc t y, x, hp, h => by
    obtain ⟨z, rfl, hz⟩ := h.ifc_inv
    exact .ifc (within_cut y z (by simpa [within] using hp) hz)
  | .agg cs, x, hp, h => by
    obtain ⟨vs, rfl, h1, h2⟩ := h.agg_inv
    exact .agg h1 (withins_cut cs _ (by simpa [within] using hp) h2)
  | .tup cs, x, hp, h => by
    obtain ⟨vs, rfl, h1, h2⟩ := h.tup_inv
    exact .tup h1 (withins_cut cs _ (by simpa [within] using hp) h2)
  | .dead, x, _, _ => .dead
theorem withins_cut : ∀ (cs : List AV) (f : Nat → Value), withins m cs = true → (∀ (j : Nat) s, cs[j]? = some s → Rep w F e s (f j)) → ∀ (j : Nat) s, cs[j]? = some s → Rep w F (e.cut m) s (f j)
  | [], f, _, _, j, s, hj => by simp at hj
  | c :: r, f, hp, h, j, s, hj => by
    simp only [withins, Bool.and_eq_true] at hp
    cases j with
    | zero => simp at hj; subst hj; exact within_cut c (f 0) hp.1 (h 0 c rfl)
    | succ j => exact withins_cut r (fun q => f (q + 1)) hp.2 (fun q s hq => h (q + 1) s (by simpa using hq)) j s (by simpa using hj)
end

theorem withinObs_get {l : List Ob} (h : withinObs m l = true) : ∀ (o : Nat) b, l[o]? = some b → withinOb m b = true := by
  induction l with
  | nil => intro o b hb; simp at hb
  | cons x r ih =>
    intro o b hb
    simp only [withinObs, Bool.and_eq_true] at h
    cases o with
    | zero => simp at hb; subst hb; exact h.1
    | succ o => exact ih h.2 o b (by simpa using hb)

theorem Mem.cut (M : Mem C H w F e) (hm : m ≤ H.length) (h0 : C.e0.len ≤ m) (hs : withinObs m (H.take m) = true) : Mem C (H.take m) w F (e.cut m) := by
  have hget : ∀ (o : Nat) b, (H.take m)[o]? = some b → o < m ∧ H[o]? = some b := by
    intro o b hb
    have hlt : o < m := by
      have := (List.getElem?_eq_some_iff.1 hb).1
      rw [List.length_take] at this
      omega
    rw [List.getElem?_take_of_lt hlt] at hb
    exact ⟨hlt, hb⟩
  have hown : ∀ o b, Owner (e.cut m) (H.take m) o b → Owner e H o b := by
    intro o b ho
    unfold Owner at ho ⊢
    cases hc : (H.take m)[o]? with
    | none => rw [hc] at ho; exact ho.elim
    | some x =>
      rw [hc] at ho
      rw [(hget o x hc).2]
      exact ho
  refine ⟨⟨by simp [Env.cut]; omega, fun o b hb => ?_, fun o o' b h1 h2 => M.heap.one _ _ _ (hown _ _ h1) (hown _ _ h2)⟩, M.mod, fun o b ho => M.ours o b (hown _ _ ho), M.sub, M.bound, M.fresh, ⟨h0, M.env.blk, M.env.row⟩⟩
  obtain ⟨hlt, hb'⟩ := hget o b hb
  have hob := M.heap.ob o b hb'
  have hsc := withinObs_get hs o b hb
  cases b with
  | var T cs =>
    obtain ⟨hF, vs, h1, h2, h3⟩ := hob
    exact ⟨hF, vs, h1, h2, withins_cut cs _ (by simpa [withinOb] using hsc) h3⟩
  | row el sz xs => exact hob
  | frz sz xs => exact hob
  | gone => trivial

/-- Registers, named. -/
noncomputable def ofRegs (l : List (Nat × AV)) : Nat → AV := fun t => match l with
  | [] => .dead
  | p :: r => @Bool.rec (fun _ => AV) (ofRegs r t) p.2 (Nat.beq p.1 t)

theorem ofRegs_cases (l : List (Nat × AV)) (t : Nat) : ofRegs l t = .dead ∨ ∃ p ∈ l, p.1 = t ∧ ofRegs l t = p.2 := by
  induction l with
  | nil => exact .inl rfl
  | cons p r ih =>
    unfold ofRegs
    cases hb : Nat.beq p.1 t with
    | true => exact .inr ⟨p, List.mem_cons_self .., Nat.eq_of_beq_eq_true hb, rfl⟩
    | false =>
      rcases ih with h | ⟨q, hq, h1, h2⟩
      · exact .inl h
      · exact .inr ⟨q, List.mem_cons_of_mem _ hq, h1, h2⟩

/-- All that is asked of the registers that are kept. -/
def Keeps (S : St) : List (Nat × AV) → Prop
  | [] => True
  | p :: r => S.regs p.1 = p.2 ∧ Keeps S r
theorem Keeps.get {S : St} {l : List (Nat × AV)} (h : Keeps S l) : ∀ p ∈ l, S.regs p.1 = p.2 := by
  induction l with
  | nil => intro p hp; cases hp
  | cons q r ih =>
    intro p hp
    rcases List.mem_cons.1 hp with rfl | hp
    · exact h.1
    · exact ih h.2 p hp

theorem weak_keep {n b : Nat} {l : List (Nat × AV)} {H : List Ob} (hn : S.n = n) (hb : S.base = b) (hh : S.heap = H) (hr : Keeps S l) : Weak S ⟨n, b, ofRegs l, H⟩ := by
  refine ⟨fun C a w F e h => ⟨F, e, h.defers, h.size.trans hn, h.base.trans hb, fun t => ?_, by rw [← hh]; exact h.mem⟩⟩
  rcases ofRegs_cases l t with h1 | ⟨p, hp, rfl, h2⟩
  · simp only; rw [h1]; exact .dead
  · simp only; rw [h2, ← hr.get p hp]; exact h.regs p.1

/-- Objects from m on are let go. -/
theorem weak_cut {n b : Nat} {l : List (Nat × AV)} {H : List Ob} (hn : S.n = n) (hb : S.base = b) (m : Nat) (hm : Nat.ble m S.heap.length = true) (hbm : Nat.ble b m = true) (hh : S.heap.take m = H) (hr : Keeps S l) (hs : withinObs m H = true) (hl : withins m (l.map (·.2)) = true) : Weak S ⟨n, b, ofRegs l, H⟩ := by
  refine ⟨fun C a w F e h => ⟨F, e.cut m, h.defers, h.size.trans hn, h.base.trans hb, fun t => ?_, by rw [← hh]; exact h.mem.cut (Nat.le_of_ble_eq_true hm) (by rw [h.base, hb]; exact Nat.le_of_ble_eq_true hbm) (by rw [hh]; exact hs)⟩⟩
  have hsc : ∀ p ∈ l, within m p.2 = true := by
    clear hr
    induction l with
    | nil => intro p hp; cases hp
    | cons q r ih =>
      intro p hp
      simp only [List.map_cons, withins, Bool.and_eq_true] at hl
      rcases List.mem_cons.1 hp with rfl | hp
      · exact hl.1
      · exact ih hl.2 p hp
  rcases ofRegs_cases l t with h1 | ⟨p, hp, rfl, h2⟩
  · simp only; rw [h1]; exact .dead
  · simp only; rw [h2]
    have := h.regs p.1
    rw [hr.get p hp] at this
    exact within_cut p.2 _ (hsc p hp) this

/-- A register that holds nil becomes a row that is ours, of no elements. -/
theorem weak_nil (t el sz : Nat) (ht : S.regs t = .v (.slice none 0 0)) : Weak S ⟨S.n, S.base, upd S.regs t (.row S.heap.length 0), S.heap ++ [.row el sz []]⟩ := by
  refine ⟨fun C a w F e h => ?_⟩
  have hr : OwnRow w F el sz [] (.slice none 0 0) := ⟨fun i cs hi => by simp at hi, .inl ⟨rfl, rfl⟩⟩
  have M := h.mem.pushRow (x := .slice none 0 0) (xs := []) (Touch.refl w _) hr (fun b hb => by cases hb)
  refine ⟨F, e.pushRow 0 (.slice none 0 0), h.defers, h.size, h.base, fun s => ?_, M⟩
  simp only
  by_cases hs : s = t
  · subst hs
    rw [upd_same]
    have hv := h.regs s
    rw [ht] at hv
    rw [hv.v_inv]
    have hlt : S.heap.length < (e.pushRow 0 (.slice none 0 0)).len := by show S.heap.length < e.len + 1; rw [h.mem.heap.len]; omega
    refine .row hlt ?_ ?_
    · simp only [Env.pushRow]; rw [← h.mem.heap.len, upd_same]
    · simp only [Env.pushRow]; rw [← h.mem.heap.len, upd_same]
  · rw [upd_other _ _ _ hs]
    exact (h.regs s).mono (Later.refl w F) (EnvLe.pushRow e _ _)

end
end Go.Ab
