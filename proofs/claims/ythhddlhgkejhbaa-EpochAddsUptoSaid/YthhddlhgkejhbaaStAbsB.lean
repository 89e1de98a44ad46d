/- The operations that only compute or read: what each makes of abstract registers, and that the machine does just that, in the world itself and in every later one. -/
import Derived.Test.YthhddlhgkejhbaaStAbsA
import Derived.WalkKit
import Derived.Laws.StructEq
import Derived.Laws.Build
import Derived.Laws.Rows
namespace Go.Ab
set_option linter.unusedVariables false
set_option linter.unusedSimpArgs false

/-! ### Types -/
inductive U where
  | int (k : IntKind) | bool | str | ptr | slice (e : TypeId) | array (n : Nat) (e : TypeId) | struct (fs : List (Nat × TypeId)) | map (k e : TypeId) | func | iface | other
  deriving Inhabited

structure TI where
  u : U
  size : Nat
  bytes : Nat
  zero : List Value
  plain : Bool
  conc : Bool
  deriving Inhabited

def U.Fits : U → TypeDesc → Prop
  | .int k, d => d = .int k
  | .bool, d => d = .bool
  | .str, d => d = .string
  | .ptr, d => ∃ e, d = .pointer e
  | .slice e, d => d = .slice e
  | .array n e, d => d = .array n e
  | .struct fs, d => ∃ gs : Array Field, d = .struct gs ∧ fs = gs.toList.map (fun g => (g.offset, g.type)) ∧ ∀ g ∈ gs.toList, g.name ≠ "_"
  | .map k e, d => d = .map k e
  | .func, d => ∃ a b c, d = .func a b c
  | .iface, d => ∃ ms, d = .interface ms
  | .other, _ => True

def U.agg : U → Bool
  | .array _ _ => true
  | .struct _ => true
  | _ => false

structure TGood (P : Program) (t : TypeId) (ti : TI) : Prop where
  und : ∃ d, P.underlying t = some d ∧ ti.u.Fits d
  info : ∃ i, P.info? t = some i ∧ i.size = ti.size ∧ i.bytes = ti.bytes ∧ ∃ z, i.zero = some z ∧ z.cells.toList = ti.zero
  plain : ti.plain = true → P.stoodInHeld t = false ∧ P.eqGuardType P.depth t = false
  conc : ti.conc = true → P.concrete t = true
  zlen : ti.zero.length = ti.size
  kids : ∀ fs, ti.u = .struct fs → ∀ f ∈ fs, ∃ i, P.info? f.2 = some i

abbrev Tys := List (Option TI)
def TyOk (P : Program) (G : Tys) : Prop := ∀ (t : Nat) ti, G[t]? = some (some ti) → TGood P t ti
def ty (G : Tys) (t : TypeId) : Option TI := (G[t]?).getD none
theorem TyOk.get {P : Program} {G : Tys} (h : TyOk P G) {t : TypeId} {ti : TI} (e : ty G t = some ti) : TGood P t ti := by
  refine h t ti ?_
  unfold ty at e
  cases hg : G[t]? with
  | none => rw [hg] at e; cases e
  | some x => rw [hg] at e; simp at e; rw [e]

theorem TGood.agg {P : Program} {t : TypeId} {ti : TI} (h : TGood P t ti) (ho : ti.u.agg = true) (w : World) : (isAgg t).run P w = .ok true w := by
  obtain ⟨d, hd, hf⟩ := h.und
  unfold isAgg
  rw [Sem.run_bind, run_underlying hd w]
  cases hu : ti.u <;> rw [hu] at ho hf <;> simp only [U.agg, Bool.false_eq_true] at ho <;> simp only [U.Fits] at hf
  · subst hf; rfl
  · obtain ⟨gs, rfl, _⟩ := hf; rfl

def U.known : U → Bool
  | .other => false
  | _ => true

theorem TGood.notagg {P : Program} {t : TypeId} {ti : TI} (h : TGood P t ti) (ho : ti.u.agg = false) (hk : ti.u.known = true) (w : World) : (isAgg t).run P w = .ok false w := by
  obtain ⟨d, hd, hf⟩ := h.und
  unfold isAgg
  rw [Sem.run_bind, run_underlying hd w]
  cases hu : ti.u <;> rw [hu] at ho hf hk <;> simp only [U.agg, U.known, Bool.true_eq_false, Bool.false_eq_true] at ho hk <;> simp only [U.Fits] at hf
  all_goals first | (subst hf; rfl) | (obtain ⟨_, rfl⟩ := hf; rfl) | (obtain ⟨_, _, _, rfl⟩ := hf; rfl)

theorem TGood.sizeOf {P : Program} {t : TypeId} {ti : TI} (h : TGood P t ti) (w : World) : (sizeOf t).run P w = .ok ti.size w := by
  obtain ⟨i, hi, hs, _⟩ := h.info
  simp [Go.sizeOf, typeInfo, hi, hs]

theorem TGood.zeroValue {P : Program} {t : TypeId} {ti : TI} (h : TGood P t ti) (w : World) : ∃ z, (zeroValue t).run P w = .ok z w ∧ z.cells = ti.zero.toArray := by
  obtain ⟨i, hi, hs, _, z, hz, hzz⟩ := h.info
  exact ⟨z, by simp [Go.zeroValue, typeInfo, hi, hz], by rw [← hzz]⟩

/-! ### Registers -/
def ofConst : Value → AV
  | .agg cs => .agg (cs.toList.map .v)
  | .func f fs cs => if fs.size = 0 ∧ cs.size = 0 then .fn f [] [] else .v (.func f fs cs)
  | x => .v x

def St.ev (S : St) : Operand → AV
  | .tmp t => S.regs t
  | .const x => ofConst x
  | .global _ => .dead
  | .func f => .fn (.func f) [] []

theorem rep_ofConst {w : World} {F : Nat → Prop} {e : Env} (x : Value) : Rep w F e (ofConst x) x := by
  unfold ofConst
  split
  · rename_i cs
    refine .agg (by simp) (fun j s h => ?_)
    rw [List.getElem?_map] at h
    cases hj : cs.toList[j]? with
    | none => rw [hj] at h; cases h
    | some y =>
      rw [hj] at h
      simp at h
      subst h
      have hy : cs[j]? = some y := by simpa using hj
      have : cs.getD j undef = y := by simp [Array.getD_eq_getD_getElem?, hy]
      rw [this]
      exact .v
  · split
    · rename_i h
      exact .fn h.1 h.2 (fun j s h => by simp at h) (fun j s h => by simp at h)
    · exact .v
  · exact .v

/-- What a walk knows at an operation. -/
structure Here (S : St) (a : Act) (w : World) (F : Nat → Prop) (e : Env) : Prop where
  regs : ∀ t, Rep w F e (S.regs t) (a.tmps.getD t undef)
  heap : HRep w F e S.heap
  bound : ∀ b, F b → b < w.heap.size

theorem Here.ev {S : St} {a : Act} {w : World} {F : Nat → Prop} {e : Env} (h : Here S a w F e) (x : Operand) : Rep w F e (S.ev x) (a.eval x) := by
  cases x with
  | tmp t => exact h.regs t
  | const v => exact rep_ofConst v
  | global g => exact .dead
  | func f => exact .fn rfl rfl (fun j s h => by simp at h) (fun j s h => by simp at h)

/-- The old blocks stand as they stood. -/
def Agree (X : Nat → Prop) (w w' : World) : Prop := ∀ b, b < w.heap.size → ¬ X b → w'.heap[b]? = w.heap[b]?
theorem Agree.refl {X : Nat → Prop} (w : World) : Agree X w w := fun _ _ _ => rfl
theorem Agree.cell {X : Nat → Prop} {w w' : World} (h : Agree X w w') {a : Addr} (hx : ¬ X a.block) {v : Value} (hc : w.cell? a = some v) : w'.cell? a = some v := by
  have hb := World.block_lt_of_cell? w a hc
  unfold World.cell? at *
  rw [h _ hb hx]; exact hc

/-- An operation's one value, here and later. -/
def Yields1 (X : Nat → Prop) (P : Program) (o : Oper) (a : Act) (w : World) (x : Value) : Prop := ∀ w', Agree X w w' → (execOp a.eval o).run P w' = .ok (.value x) w'

/-- The blocks of X may change: none is frozen, none a variable's; and what is read of a row of ours is not in question. -/
structure XOk (X F : Nat → Prop) (e : Env) (S : St) (op : Op) : Prop where
  frz : ∀ T A cs, op = .load T A → S.ev A = .eptr cs → ∀ b, F b → ¬ X b
  var : ∀ T A o off, op = .load T A → S.ev A = .ptr o off → ¬ X (e.blk o)
  row : ∀ T A o n sz i off, op = .load T A → S.ev A = .rptr o n sz i off → ∀ b, ¬ X b
  cnv : ∀ s d A, op = .convert s d A → (∃ x, S.ev A = .v x) ∨ ∀ b, ¬ X b
theorem XOk.none {F : Nat → Prop} {e : Env} {S : St} {op : Op} : XOk (fun _ => False) F e S op := ⟨fun _ _ _ _ _ _ _ h => h, fun _ _ _ _ _ _ h => h, fun _ _ _ _ _ _ _ _ _ _ h => h, fun _ _ _ _ => .inr fun _ h => h⟩

/-! ### Cells of a variable, read -/
def readAV (ti : TI) (cs : List AV) (off : Nat) : Option AV :=
  match ti.u.known with
  | true =>
    (match ti.u.agg with
    | true => (match Nat.ble (off + ti.size) cs.length with | true => some (.agg ((cs.drop off).take ti.size)) | false => none)
    | false => cs[off]?)
  | false => none

theorem addr_add {a : Addr} (ha : a.spot = none) (n : Nat) : a.add n = ⟨a.block, a.off + n, none⟩ := by
  unfold Addr.add
  split
  · rename_i h; subst h; cases a; simp_all
  · rfl

theorem read_sound {P : Program} {w : World} {F : Nat → Prop} {e : Env} {t : TypeId} {ti : TI} (g : TGood P t ti) {cs : List AV} {off : Nat} {r : AV} (hr : readAV ti cs off = some r)
    (b k : Nat) (vals : Nat → Value) (hcell : ∀ (j : Nat) s, cs[j]? = some s → w.cell? ⟨b, k + j, none⟩ = some (vals j)) (hrep : ∀ (j : Nat) s, cs[j]? = some s → Rep w F e s (vals j)) {X : Nat → Prop} (hX : ¬ X b) :
    ∃ x, Rep w F e r x ∧ ∀ w', Agree X w w' → (loadVar t ⟨b, k + off, none⟩).run P w' = .ok x w' := by
  unfold readAV at hr
  split at hr
  case h_2 => cases hr
  rename_i hk
  split at hr
  · rename_i ha
    split at hr
    case h_2 => cases hr
    rename_i hle
    replace hle := Nat.le_of_ble_eq_true hle
    injection hr with hr
    subst hr
    refine ⟨.agg ((List.range ti.size).map fun j => vals (off + j)).toArray, .agg (by simp; omega) (fun j s hj => ?_), fun w' hw => ?_⟩
    · have hlt : j < ti.size := by
        rcases Nat.lt_or_ge j ti.size with h | h
        · exact h
        · rw [List.getElem?_eq_none (by simp; omega)] at hj; cases hj
      have hj' : cs[off + j]? = some s := by
        rw [List.getElem?_take_of_lt hlt, List.getElem?_drop] at hj
        exact hj
      have hx : (List.map (fun j => vals (off + j)) (List.range ti.size)).toArray.getD j undef = vals (off + j) := by
        simp [Array.getD_eq_getD_getElem?, hlt]
      rw [hx]
      exact hrep _ _ hj'
    · unfold loadVar
      rw [Sem.run_bind, g.agg ha w']
      simp only [Result.andThen_ok, if_true, Sem.run_bind, g.sizeOf w']
      rw [run_loadCells w' ⟨b, k + off, none⟩ ti.size (fun j => vals (off + j)) (fun j hj => ?_)]
      · rfl
      · rw [addr_add rfl]
        have : off + j < cs.length := by omega
        have := hcell (off + j) _ (List.getElem?_eq_getElem this)
        rw [← Nat.add_assoc] at this
        exact hw.cell hX this
  · rename_i ha
    refine ⟨vals off, hrep _ _ hr, fun w' hw => ?_⟩
    unfold loadVar
    rw [Sem.run_bind, g.notagg (by simpa using ha) hk w']
    have := hw.cell hX (hcell off r hr)
    simp [this]

end Go.Ab
