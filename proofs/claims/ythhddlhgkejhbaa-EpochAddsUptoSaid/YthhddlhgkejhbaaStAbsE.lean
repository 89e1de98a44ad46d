/- The value operations, all of them. -/
import Derived.Test.YthhddlhgkejhbaaStAbsD
namespace Go.Ab
set_option linter.unusedVariables false
set_option linter.unusedSimpArgs false
section
variable {X : Nat → Prop} {P : Program} {G : Tys} {S : St} {a : Act} {w : World} {F : Nat → Prop} {e : Env}

theorem TGood.slice {t : TypeId} {ti : TI} {el : TypeId} (g : TGood P t ti) (hu : ti.u = .slice el) : P.underlying t = some (.slice el) := by
  obtain ⟨de, hde, hfit⟩ := g.und
  rw [hu] at hfit; simp only [U.Fits] at hfit; subst hfit; exact hde
theorem TGood.str {t : TypeId} {ti : TI} (g : TGood P t ti) (hu : ti.u = .str) : P.underlying t = some .string := by
  obtain ⟨de, hde, hfit⟩ := g.und
  rw [hu] at hfit; simp only [U.Fits] at hfit; subst hfit; exact hde
theorem TGood.int {t : TypeId} {ti : TI} {k : IntKind} (g : TGood P t ti) (hu : ti.u = .int k) : P.underlying t = some (.int k) := by
  obtain ⟨de, hde, hfit⟩ := g.und
  rw [hu] at hfit; simp only [U.Fits] at hfit; subst hfit; exact hde
theorem TGood.bool {t : TypeId} {ti : TI} (g : TGood P t ti) (hu : ti.u = .bool) : P.underlying t = some .bool := by
  obtain ⟨de, hde, hfit⟩ := g.und
  rw [hu] at hfit; simp only [U.Fits] at hfit; subst hfit; exact hde
theorem TGood.arr {t : TypeId} {ti : TI} {n : Nat} {el : TypeId} (g : TGood P t ti) (hu : ti.u = .array n el) : P.underlying t = some (.array n el) := by
  obtain ⟨de, hde, hfit⟩ := g.und
  rw [hu] at hfit; simp only [U.Fits] at hfit; subst hfit; exact hde
theorem TGood.iface {t : TypeId} {ti : TI} (g : TGood P t ti) (hu : ti.u = .iface) : ∃ ms, P.underlying t = some (.interface ms) := by
  obtain ⟨de, hde, hfit⟩ := g.und
  rw [hu] at hfit; simp only [U.Fits] at hfit; obtain ⟨ms, rfl⟩ := hfit; exact ⟨ms, hde⟩
theorem TGood.struct {t : TypeId} {ti : TI} {fs : List (Nat × TypeId)} (g : TGood P t ti) (hu : ti.u = .struct fs) :
    ∃ gs : Array Field, P.underlying t = some (.struct gs) ∧ fs = gs.toList.map (fun g => (g.offset, g.type)) ∧ ∀ g ∈ gs.toList, g.name ≠ "_" := by
  obtain ⟨de, hde, hfit⟩ := g.und
  rw [hu] at hfit; simp only [U.Fits] at hfit
  obtain ⟨gs, rfl, h1, h2⟩ := hfit
  exact ⟨gs, hde, h1, h2⟩

theorem equalIn_slice_nil {T : TypeId} {el : TypeId} (h : P.underlying T = some (.slice el)) (d : Nat) (A : Option Addr) (n c : Nat) (w' : World) :
    (Op.equalIn (d + 1) T (.slice A n c) (.slice none 0 0)).run P w' = .ok A.isNone w' := by
  cases A <;> simp [Op.equalIn, run_underlying h]
theorem equalIn_iface_nil {T : TypeId} {ms : Array (String × TypeId)} (h : P.underlying T = some (.interface ms)) (d : Nat) (t : TypeId) (z : Value) (w' : World) :
    (Op.equalIn (d + 1) T (.iface t z) .nilIface).run P w' = .ok false w' := by
  simp [Op.equalIn, run_underlying h]

theorem equalIn_nil_nil {T : TypeId} {ms : Array (String × TypeId)} (h : P.underlying T = some (.interface ms)) (d : Nat) (w' : World) :
    (Op.equalIn (d + 1) T .nilIface .nilIface).run P w' = .ok true w' := by
  simp [Op.equalIn, run_underlying h]
theorem eqGuard_nil {op : BinOp} {T : TypeId} {A B : Operand} (h : (isK A || isK B) = true) (w' : World) : (eqGuard op T A B .nilIface .nilIface).run P w' = .ok () w' := by
  cases A <;> cases B <;> simp [isK] at h <;> cases op <;> simp [eqGuard]

theorem eqlV_sound (hG : TyOk P G) (H : Here S a w F e) {T : TypeId} {A B : Operand} {q : Bool → Prop} (h : eqlV G (isK A || isK B) T (S.ev A) (S.ev B) q) (neg : Bool) :
    ∃ b, q b ∧ ∀ w', Agree X w w' → (do eqGuard (bif neg then .neq else .eql) T A B (a.eval A) (a.eval B); binOp (bif neg then .neq else .eql) T (a.eval A) (a.eval B) : Sem Value).run P w' = .ok (.bool (bif neg then !b else b)) w' := by
  have hx := H.ev A
  have hy := H.ev B
  generalize S.ev A = x at *
  generalize S.ev B = y at *
  generalize a.eval A = X at *
  generalize a.eval B = Y at *
  unfold eqlV at h
  split at h
  · rename_i p r
    split at h
    case h_2 => exact h.elim
    rename_i ti ht
    split at h
    case h_2 => exact h.elim
    rename_i hu
    have hde := (hG.get ht).bool hu
    have := hx.v_inv; subst this
    have := hy.v_inv; subst this
    refine ⟨_, h, fun w' _ => ?_⟩
    cases neg <;> simp [eqGuard, binOp, Op.equal, Op.maxDepth, run_equalIn_bool' w' 9999 T p r hde]
  · rename_i xs ys
    split at h
    case h_2 => exact h.elim
    rename_i ti ht
    obtain ⟨hagp, h⟩ := h.elim
    simp only [Bool.and_eq_true] at hagp
    obtain ⟨hag, hpl⟩ := hagp
    split at h
    case h_2 => exact h.elim
    rename_i b hb
    have g := hG.get ht
    obtain ⟨vs, rfl, h1, h2⟩ := hx.agg_inv
    obtain ⟨us, rfl, k1, k2⟩ := hy.agg_inv
    refine ⟨b, h, fun w' _ => ?_⟩
    have := (eq_sound (P := P) (w := w) (F := F) (e := e) hG 12).1 T ti xs ys b (.agg vs) (.agg us) ht hb (by unfold CellsOf; rw [if_pos hag]; exact ⟨vs, rfl, h1, h2⟩) (by unfold CellsOf; rw [if_pos hag]; exact ⟨us, rfl, k1, k2⟩) 10000 w' (by omega)
    cases neg
    · simp only [cond_false, Sem.run_bind, run_eqGuard_agg w' .eql T A B vs us (g.plain hpl).2, Result.andThen_ok, run_eql_struct w' T vs us, this]
    · simp only [cond_true, Sem.run_bind, run_eqGuard_agg w' .neq T A B vs us (g.plain hpl).2, Result.andThen_ok, run_neq_struct w' T vs us, this]
  · rename_i xs
    split at h
    case h_2 => exact h.elim
    rename_i ti ht
    split at h
    case h_2 => exact h.elim
    rename_i el hu
    have hde := (hG.get ht).slice hu
    have := hy.v_inv; subst this
    cases hx with
    | @sl _ _ A' c sz ad vals hc hA hsz hone hcell hrep =>
      refine ⟨A'.isNone, h _ (fun hn => ?_), fun w' _ => ?_⟩
      · by_cases hx : xs = []
        · exact hx
        · rw [(hA hx).1] at hn; simp at hn
      · cases neg <;> simp [eqGuard, binOp, Op.equal, Op.maxDepth, equalIn_slice_nil hde 9999]
  · split at h
    case h_2 => exact h.elim
    rename_i ti ht
    split at h
    case h_2 => exact h.elim
    rename_i el hu
    have hde := (hG.get ht).slice hu
    have := hx.v_inv; subst this
    have := hy.v_inv; subst this
    refine ⟨_, h, fun w' _ => ?_⟩
    cases neg <;> simp [eqGuard, binOp, Op.equal, Op.maxDepth, equalIn_slice_nil hde 9999]
  · rename_i t s
    split at h
    case h_2 => exact h.elim
    rename_i ti ht
    split at h
    case h_2 => exact h.elim
    rename_i hu
    obtain ⟨ms, hde⟩ := (hG.get ht).iface hu
    obtain ⟨z, rfl, _⟩ := hx.ifc_inv
    have := hy.v_inv; subst this
    refine ⟨_, h, fun w' _ => ?_⟩
    cases neg <;> simp [eqGuard, binOp, Op.equal, Op.maxDepth, equalIn_iface_nil hde 9999]
  · split at h
    case h_2 => exact h.elim
    rename_i hk ti hkc ht
    split at h
    case h_2 => exact h.elim
    rename_i hu
    obtain ⟨ms, hde⟩ := (hG.get ht).iface hu
    have := hx.v_inv; subst this
    have := hy.v_inv; subst this
    refine ⟨_, h, fun w' _ => ?_⟩
    have hg := fun op => eqGuard_nil (P := P) (op := op) (T := T) hkc w'
    cases neg <;> simp [hg, binOp, Op.equal, Op.maxDepth, equalIn_nil_nil hde 9999]
  · exact h.elim

theorem binV_sound (hG : TyOk P G) (H : Here S a w F e) {op : BinOp} {T yT : TypeId} {A B : Operand} {q : AV → Prop} {o : Oper} (ho : o.op = .binOp op T A B yT)
    (h : binV G (isK A || isK B) op T (S.ev A) (S.ev B) q) : ∃ r x, q r ∧ Rep w F e r x ∧ Yields1 X P o a w x := by
  have run : ∀ (x : Value) (w' : World), (do eqGuard op T A B (a.eval A) (a.eval B); binOp op T (a.eval A) (a.eval B) : Sem Value).run P w' = .ok x w' → (execOp a.eval o).run P w' = .ok (.value x) w' := by
    intro x w' hx
    unfold execOp
    simp only [ho]
    rw [Sem.run_bind, hx]
    rfl
  have hx := H.ev A
  have hy := H.ev B
  unfold binV at h
  split at h
  · rename_i k m k' n h1 h2
    rw [h1] at hx; rw [h2] at hy
    have ex := hx.v_inv; have ey := hy.v_inv
    obtain ⟨x, hq, hr⟩ := shiftV_sound (P := P) (k' := k') h T A B
    exact ⟨_, x, hq, .v, fun w' _ => run x w' (by rw [ex, ey]; exact hr w')⟩
  · rename_i k m k' n h1 h2
    rw [h1] at hx; rw [h2] at hy
    have ex := hx.v_inv; have ey := hy.v_inv
    obtain ⟨x, hq, hr⟩ := shiftV_sound (P := P) (k' := k') h T A B
    exact ⟨_, x, hq, .v, fun w' _ => run x w' (by rw [ex, ey]; exact hr w')⟩
  · rename_i k m k' n hs hr h1 h2
    rw [h1] at hx; rw [h2] at hy
    have ex := hx.v_inv; have ey := hy.v_inv
    have hh := h.elim
    clear h
    obtain ⟨hk, h⟩ := hh
    replace hk := kEq_eq hk
    subst hk
    obtain ⟨x, hq, hr⟩ := intV_sound (P := P) h hs hr T A B
    exact ⟨_, x, hq, .v, fun w' _ => run x w' (by rw [ex, ey]; exact hr w')⟩
  · rename_i m n h1 h2
    rw [h1] at hx; rw [h2] at hy
    have ex := hx.v_inv; have ey := hy.v_inv
    obtain ⟨x, hq, hr⟩ := strV_sound (P := P) h T A B
    exact ⟨_, x, hq, .v, fun w' _ => run x w' (by rw [ex, ey]; exact hr w')⟩
  · obtain ⟨b, hq, hr⟩ := eqlV_sound hG H h false
    exact ⟨_, _, hq, .v, fun w' hw => run _ w' (by simpa using hr w' hw)⟩
  · obtain ⟨b, hq, hr⟩ := eqlV_sound hG H h true
    exact ⟨_, _, hq, .v, fun w' hw => run _ w' (by simpa using hr w' hw)⟩
  · exact h.elim

end
end Go.Ab
