/- The value operations, all of them, in one theorem. -/
import Derived.Test.YthhddlhgkejhbaaStAbsE
namespace Go.Ab
set_option linter.unusedVariables false
set_option linter.unusedSimpArgs false
section
variable {X : Nat → Prop} {P : Program} {G : Tys} {S : St} {a : Act} {w : World} {F : Nat → Prop} {e : Env}

/-- What the soundness of one operation says. -/
def Sound1 (X : Nat → Prop) (P : Program) (o : Oper) (a : Act) (w : World) (F : Nat → Prop) (e : Env) (q : AV → Prop) : Prop := ∃ r x, q r ∧ Rep w F e r x ∧ Yields1 X P o a w x

theorem HRep.var {H : List Ob} (h : HRep w F e H) {o : Nat} {T : TypeId} {cs : List AV} (ho : H[o]? = some (.var T cs)) :
    ∃ vs, w.heap[e.blk o]? = some (.cells vs T (0, 0)) ∧ vs.size = cs.length ∧ ¬ F (e.blk o) ∧ ∀ (j : Nat) s, cs[j]? = some s → Rep w F e s (vs.getD j undef) := by
  obtain ⟨h1, vs, h2, h3, h4⟩ := h.ob o _ ho
  exact ⟨vs, h2, h3, h1, h4⟩

theorem getElem?_of_getD {vs : Array Value} {j : Nat} (h : j < vs.size) : vs[j]? = some (vs.getD j undef) := by
  rw [Array.getD_eq_getD_getElem?, Array.getElem?_eq_getElem h]; rfl

theorem unV_sound (H : Here S a w F e) {op : UnOp} {T : TypeId} {A : Operand} {q : AV → Prop} {o : Oper} (ho : o.op = .unOp op T A) (h : unV op (S.ev A) q) : Sound1 X P o a w F e q := by
  have hx := H.ev A
  unfold unV at h
  split at h
  · rename_i b h1
    rw [h1] at hx
    have ex := hx.v_inv
    exact ⟨_, _, h, .v, fun w' _ => by simp [execOp, ho, ex, Op.unary]⟩
  · rename_i k n h1
    rw [h1] at hx
    have ex := hx.v_inv
    exact ⟨_, _, h, .v, fun w' _ => by simp [execOp, ho, ex, Op.unary, Op.intArith]⟩
  · exact h.elim

theorem pickV_sound (H : Here S a w F e) {A B C : Operand} {q : AV → Prop} {o : Oper} (ho : o.op = .pick C A B) (h : pickV (S.ev C) (S.ev A) (S.ev B) q) : Sound1 X P o a w F e q := by
  have hc := H.ev C
  have hx := H.ev A
  have hy := H.ev B
  unfold pickV at h
  split at h
  case h_2 => exact h.elim
  rename_i c h1
  rw [h1] at hc
  have ec := hc.v_inv
  split at h
  · rename_i p r h2 h3
    rw [h2] at hx; rw [h3] at hy
    have ex := hx.v_inv; have ey := hy.v_inv
    exact ⟨_, _, h, .v, fun w' _ => by cases c <;> simp [execOp, ho, ec, ex, ey, asBool]⟩
  · cases c
    · exact ⟨_, _, h, hy, fun w' _ => by simp [execOp, ho, ec, asBool]⟩
    · exact ⟨_, _, h, hx, fun w' _ => by simp [execOp, ho, ec, asBool]⟩

theorem loadV_sound (hG : TyOk P G) (H : Here S a w F e) {T : TypeId} {A : Operand} {q : AV → Prop} {o : Oper} {ti : TI} (ht : ty G T = some ti) (ho : o.op = .load T A) (hok : XOk X F e S o.op) (h : loadV S ti (S.ev A) q) : Sound1 X P o a w F e q := by
  have hx := H.ev A
  have g := hG.get ht
  have fin : ∀ (ad : Addr) (x : Value), a.eval A = .pointer (some ad) → (∀ w', Agree X w w' → (loadVar T ad).run P w' = .ok x w') → Yields1 X P o a w x := by
    intro ad x hA hr w' hw
    simp [execOp, ho, hA, Instr.loadAt, Instr.sureAddr, hr w' hw]
  unfold loadV at h
  split at h
  · rename_i ob off h1
    rw [h1] at hx
    obtain ⟨ho', ex⟩ := hx.ptr_inv
    split at h
    case h_2 => exact h.elim
    rename_i T' cs hob
    split at h
    case h_2 => exact h.elim
    rename_i r hr
    obtain ⟨vs, hb, hsz, _, hrep⟩ := H.heap.var hob
    obtain ⟨x, hx', hrun⟩ := read_sound g hr (e.blk ob) 0 (fun j => vs.getD j undef) (fun j s hj => by
      rw [cell_of_row w _ _ vs T' _ hb, Nat.zero_add]
      exact getElem?_of_getD (by rw [hsz]; exact (List.getElem?_eq_some_iff.1 hj).1)) hrep (hok.var _ _ _ _ ho h1)
    rw [Nat.zero_add] at hrun
    exact ⟨r, x, h, hx', fin _ x ex hrun⟩
  · rename_i cs h1
    rw [h1] at hx
    obtain ⟨ad, vals, ex, hF, hsp, hcell, hrep⟩ := hx.eptr_inv
    split at h
    case h_2 => exact h.elim
    rename_i r hr
    obtain ⟨x, hx', hrun⟩ := read_sound g hr ad.block ad.off vals hcell (fun j s hj => (hrep j s hj).env) (hok.frz _ _ _ ho h1 _ hF)
    refine ⟨r, x, h, hx', fin _ x ex ?_⟩
    rw [Nat.add_zero] at hrun
    have : (⟨ad.block, ad.off, none⟩ : Addr) = ad := by cases ad; simp_all
    rwa [this] at hrun
  · rename_i ob n sz i off h1
    rw [h1] at hx
    split at h
    · rename_i el sz' xs hob
      have hh := h.eqn
      clear h
      obtain ⟨rfl, ⟨rfl, hh⟩⟩ := hh
      obtain ⟨cs, hcs, h⟩ := hh.out
      split at h
      case h_2 => exact h.elim
      rename_i r hr
      obtain ⟨hrl, hown⟩ := H.heap.ob ob _ hob
      obtain ⟨hsz, hown⟩ := hown
      generalize hX : a.eval A = X at hx
      cases hx with
      | rptrold _ hn => omega
      | @rptr _ _ _ _ _ _ b m c hlt hn hv =>
        rcases hown with ⟨hnil, _⟩ | ⟨b', c', vs, hv', hF, hb, hvs, hle, hmx, hrep⟩
        · subst hnil; simp at hcs
        · rw [hv] at hv'
          injection hv' with hv' _ _
          injection hv' with hv'
          injection hv' with hv' _ _
          subst hv'
          have hil : i < xs.length := (List.getElem?_eq_some_iff.1 hcs).1
          have hcl := (hsz i cs hcs).1
          have hbig : i * sz + sz ≤ vs.size := by rw [hvs, ← Nat.succ_mul]; exact Nat.mul_le_mul_right _ (by omega)
          obtain ⟨x, hx', hrun⟩ := read_sound (e := e) g hr b (i * sz) (fun j => vs.getD (i * sz + j) undef) (fun j s hj => by
            rw [cell_of_row w _ _ vs el _ hb]
            exact getElem?_of_getD (by have := (List.getElem?_eq_some_iff.1 hj).1; omega)) (fun j s hj => by
              obtain ⟨y, hy, hyr⟩ := hrep i cs j s hcs hj
              have : vs.getD (i * sz + j) undef = y := by rw [Array.getD_eq_getD_getElem?, hy]; rfl
              rw [this]; exact hyr.env) (hok.row _ _ _ _ _ _ _ ho h1 _)
          exact ⟨r, x, h, hx', fin _ x hX hrun⟩
    · rename_i sz' xs hob
      have hh := h.eqn
      clear h
      obtain ⟨rfl, ⟨rfl, hh⟩⟩ := hh
      obtain ⟨cs, hcs, h⟩ := hh.out
      split at h
      case h_2 => exact h.elim
      rename_i r hr
      obtain ⟨hrl, hsz, hsl⟩ := H.heap.ob ob _ hob
      generalize hX : a.eval A = X at hx
      cases hx with
      | rptrold _ hn => omega
      | @rptr _ _ _ _ _ _ b m c hlt hn hv =>
        rw [hv] at hsl
        cases hsl with
        | sl sz2 ad vals hc hA hsz2 hone hcell hrep =>
          have hne : xs ≠ [] := by intro hh; subst hh; simp at hcs
          obtain ⟨hA1, hA2, hA3⟩ := hA hne
          injection hA1 with hA1
          subst hA1
          have e1 := hsz i cs hcs
          have e2 := hsz2 i cs hcs
          have : sz2 = sz := by omega
          subst this
          obtain ⟨x, hx', hrun⟩ := read_sound (e := e) g hr b (i * sz2) (fun j => vals i j) (fun j s hj => by
            have := hcell i cs j s hcs hj
            simpa using this) (fun j s hj => (hrep i cs j s hcs hj).env) (hok.row _ _ _ _ _ _ _ ho h1 _)
          exact ⟨r, x, h, hx', fin _ x hX hrun⟩
    · exact h.elim
  · exact h.elim

end
end Go.Ab
