/- Each value operation is what the machine does. -/
import Derived.Test.YthhddlhgkejhbaaStAbsC
namespace Go.Ab
set_option linter.unusedVariables false
set_option linter.unusedSimpArgs false

section inv
variable {w : World} {F : Nat → Prop} {e : Env} {x : Value}
theorem Rep.v_inv {y : Value} (h : Rep w F e (.v y) x) : x = y := by cases h; rfl
theorem Rep.ptr_inv {o off : Nat} (h : Rep w F e (.ptr o off) x) : o < e.len ∧ x = .pointer (some ⟨e.blk o, off, none⟩) := by cases h; exact ⟨by assumption, rfl⟩
theorem Rep.agg_inv {cs : List AV} (h : Rep w F e (.agg cs) x) : ∃ vs, x = .agg vs ∧ vs.size = cs.length ∧ ∀ (j : Nat) s, cs[j]? = some s → Rep w F e s (vs.getD j undef) := by
  cases h with | agg h r => exact ⟨_, rfl, h, r⟩
theorem Rep.tup_inv {cs : List AV} (h : Rep w F e (.tup cs) x) : ∃ vs, x = .tuple vs ∧ vs.size = cs.length ∧ ∀ (j : Nat) s, cs[j]? = some s → Rep w F e s (vs.getD j undef) := by
  cases h with | tup h r => exact ⟨_, rfl, h, r⟩
theorem Rep.ifc_inv {t : TypeId} {s : AV} (h : Rep w F e (.ifc t s) x) : ∃ y, x = .iface t y ∧ Rep w F e s y := by
  cases h with | ifc h => exact ⟨_, rfl, h⟩
theorem Rep.eptr_inv {cs : List AV} (h : Rep w F e (.eptr cs) x) : ∃ (a : Addr) (vals : Nat → Value), x = .pointer (some a) ∧ F a.block ∧ a.spot = none ∧
    (∀ (j : Nat) s, cs[j]? = some s → w.cell? ⟨a.block, a.off + j, none⟩ = some (vals j)) ∧ ∀ (j : Nat) s, cs[j]? = some s → Rep w F Env.nil s (vals j) := by
  cases h with | eptr a vals hF ha hcell hrep => exact ⟨a, vals, rfl, hF, ha, hcell, hrep⟩
theorem Rep.sl_inv {xs : List (List AV)} (h : Rep w F e (.sl xs) x) : ∃ A c, x = .slice A xs.length c ∧ xs.length ≤ c := by
  cases h with | sl sz a vals hc => exact ⟨_, _, rfl, hc⟩
theorem Rep.env {s : AV} (h : Rep w F Env.nil s x) : Rep w F e s x := h.mono (Later.refl w F) (EnvLe.nil e)
end inv

section
variable {X : Nat → Prop} {P : Program} {G : Tys} {S : St} {a : Act} {w : World} {F : Nat → Prop} {e : Env}

/-- A value of its own: the same in every world. -/
theorem yields_pure {o : Oper} {x : Value} (h : ∀ w', (execOp a.eval o).run P w' = .ok (.value x) w') : Yields1 X P o a w x := fun w' _ => h w'

theorem intV_sound {op : BinOp} {k : IntKind} {m n : Int} {q : AV → Prop} (h : intV op k m n q) (hs : op ≠ .shl) (hr : op ≠ .shr) (T : TypeId) (A B : Operand) :
    ∃ x, q (.v x) ∧ ∀ w', (do eqGuard op T A B (.int k m) (.int k n); binOp op T (.int k m) (.int k n) : Sem Value).run P w' = .ok x w' := by
  cases op <;> simp only [intV] at h <;> first | exact absurd rfl hs | exact absurd rfl hr | skip
  all_goals first
    | exact h.elim
    | (obtain ⟨hb, hq⟩ := h
       exact ⟨_, hq, fun w' => by simp [eqGuard, binOp, Op.intDiv, hb]⟩)
    | exact ⟨_, h, fun w' => by simp [eqGuard, binOp, Op.intArith, Op.intCmp, Op.intBits] <;> rfl⟩
    | exact ⟨_, h, fun w' => rfl⟩


theorem toList_eq_iff (a b : ByteArray) : (a.toList == b.toList) = decide (a = b) := by
  by_cases h : a = b
  · subst h; simp
  · have : a.toList ≠ b.toList := fun hh => h (by
      rw [ByteArray.toList_eq, ByteArray.toList_eq] at hh
      obtain ⟨⟨x⟩⟩ := a
      obtain ⟨⟨y⟩⟩ := b
      simp at hh
      subst hh; rfl)
    simp [h, this]

theorem strV_sound {op : BinOp} {m n : ByteArray} {q : AV → Prop} (h : strV op m n q) (T : TypeId) (A B : Operand) :
    ∃ x, q (.v x) ∧ ∀ w', (do eqGuard op T A B (.string m) (.string n); binOp op T (.string m) (.string n) : Sem Value).run P w' = .ok x w' := by
  cases op <;> simp only [strV] at h
  all_goals first
    | exact h.elim
    | (obtain ⟨hb, hq⟩ := h
       refine ⟨_, hq, fun w' => ?_⟩
       have hb' : ¬ (((m.size + n.size : Nat) : Int) > IntKind.i64.max) := by simp only [IntKind.max, IntKind.bits, IntKind.signed]; simp; omega
       simp [eqGuard, binOp, Op.stringOp]
       omega)
    | exact ⟨_, h, fun w' => by simp only [eqGuard, binOp, Op.stringOp, toList_eq_iff, ltB]; rfl⟩

theorem shiftV_sound {op : BinOp} {k k' : IntKind} {m n : Int} {q : AV → Prop} (h : shiftV op k m n q) (T : TypeId) (A B : Operand) :
    ∃ x, q (.v x) ∧ ∀ w', (do eqGuard op T A B (.int k m) (.int k' n); binOp op T (.int k m) (.int k' n) : Sem Value).run P w' = .ok x w' := by
  cases op <;> simp only [shiftV] at h
  all_goals first
    | exact h.elim
    | (obtain ⟨hb, hq⟩ := h
       have hb' : ¬ n < 0 := by omega
       exact ⟨_, hq, fun w' => by simp [eqGuard, binOp, Op.shift, hb']⟩)

/-- A value of a type, told by its cells. -/
def CellsOf (w : World) (F : Nat → Prop) (e : Env) (ti : TI) (xs : List AV) (x : Value) : Prop :=
  if ti.u.agg then ∃ vs, x = .agg vs ∧ vs.size = xs.length ∧ ∀ (j : Nat) s, xs[j]? = some s → Rep w F e s (vs.getD j undef) else ∃ s, xs = [s] ∧ Rep w F e s x

theorem cellsT_of {ti : TI} {r : AV} {cs : List AV} (h : cellsT ti r = some cs) {x : Value} (hx : Rep w F e r x) : CellsOf w F e ti cs x := by
  unfold CellsOf
  cases r <;> simp only [cellsT] at h
  case agg cs' =>
    split at h
    · injection h with h; subst h
      rw [if_pos (by assumption)]
      exact hx.agg_inv
    · cases h
  all_goals
    split at h
    · cases h
    · injection h with h; subst h
      rw [if_neg (by assumption)]
      exact ⟨_, rfl, hx⟩

theorem part_sound {t : TypeId} {ti : TI} (g : TGood P t ti) {cs : List AV} {off : Nat} {r : AV} (hr : readAV ti cs off = some r) {vs : Array Value} (hsz : vs.size = cs.length)
    (hrep : ∀ (j : Nat) s, cs[j]? = some s → Rep w F e s (vs.getD j undef)) : ∃ x, Rep w F e r x ∧ ∀ w', (part t vs off).run P w' = .ok x w' := by
  unfold readAV at hr
  split at hr
  case h_2 => cases hr
  rename_i hk
  split at hr
  · rename_i ha
    split at hr
    case h_2 => cases hr
    rename_i hle
    replace hle := Nat.le_of_ble_eq_true hle
    injection hr with hr
    subst hr
    refine ⟨.agg (vs.extract off (off + ti.size)), .agg (by simp; omega) (fun j s hj => ?_), fun w' => ?_⟩
    · have hlt : j < ti.size := by
        rcases Nat.lt_or_ge j ti.size with h | h
        · exact h
        · rw [List.getElem?_eq_none (by simp; omega)] at hj; cases hj
      have hj' : cs[off + j]? = some s := by
        rw [List.getElem?_take_of_lt hlt, List.getElem?_drop] at hj
        exact hj
      have hx : (vs.extract off (off + ti.size)).getD j undef = vs.getD (off + j) undef := by
        simp only [Array.getD_eq_getD_getElem?]
        rw [Array.getElem?_extract]
        rw [if_pos (by omega)]
      rw [hx]
      exact hrep _ _ hj'
    · unfold part
      rw [Sem.run_bind, g.agg ha w']
      simp [g.sizeOf w']
  · rename_i ha
    have hlt : off < cs.length := (List.getElem?_eq_some_iff.1 hr).1
    refine ⟨vs.getD off undef, hrep _ _ hr, fun w' => ?_⟩
    unfold part
    rw [Sem.run_bind, g.notagg (by simpa using ha) hk w']
    have : vs[off]? = some (vs.getD off undef) := by
      rw [Array.getD_eq_getD_getElem?, Array.getElem?_eq_getElem (by omega)]; rfl
    simp only [Result.andThen_ok, Bool.false_eq_true, if_false]
    rw [this]
    rfl

theorem eq_sound (hG : TyOk P G) : ∀ (d : Nat),
    (∀ (t : TypeId) ti xs ys b X Y, ty G t = some ti → eqT G d t xs ys = some b → CellsOf w F e ti xs X → CellsOf w F e ti ys Y → ∀ D w', d ≤ D → (Op.equalIn D t X Y).run P w' = .ok b w') ∧
    (∀ (fs : List Field) xs ys b (vs us : Array Value), (∀ g ∈ fs, g.name ≠ "_") → eqFs G d (fs.map fun g => (g.offset, g.type)) xs ys = some b →
      vs.size = xs.length → (∀ (j : Nat) s, xs[j]? = some s → Rep w F e s (vs.getD j undef)) → us.size = ys.length → (∀ (j : Nat) s, ys[j]? = some s → Rep w F e s (us.getD j undef)) →
      ∀ D w', d ≤ D → (Op.eqFields D vs us fs).run P w' = .ok b w') := by
  intro d
  induction d with
  | zero =>
    refine ⟨fun t ti xs ys b X Y ht h => by simp [eqT] at h, fun fs xs ys b vs us hn h => ?_⟩
    cases fs with
    | nil =>
      intro _ _ _ _ D w' _
      simp [eqFs] at h
      subst h
      simp [Op.eqFields]
    | cons g r => simp [eqFs] at h
  | succ d ih =>
    have hT : ∀ (t : TypeId) ti xs ys b X Y, ty G t = some ti → eqT G (d + 1) t xs ys = some b → CellsOf w F e ti xs X → CellsOf w F e ti ys Y → ∀ D w', d + 1 ≤ D → (Op.equalIn D t X Y).run P w' = .ok b w' := by
      intro t ti xs ys b X Y ht h hX hY D w' hD
      obtain ⟨D, rfl⟩ : ∃ m, D = m + 1 := ⟨D - 1, by omega⟩
      have g := hG.get ht
      obtain ⟨de, hde, hfit⟩ := g.und
      simp only [eqT, ht] at h
      split at h
      · rename_i k a k' b' hu
        rw [hu] at hfit
        simp only [U.Fits] at hfit
        subst hfit
        simp only [CellsOf, hu, U.agg, Bool.false_eq_true, if_false] at hX hY
        obtain ⟨s, hs, hX⟩ := hX
        obtain ⟨s', hs', hY⟩ := hY
        injection hs with hs _; subst hs
        injection hs' with hs' _; subst hs'
        have := hX.v_inv; subst this
        have := hY.v_inv; subst this
        split at h
        · rename_i hk; subst hk
          injection h with h; subst h
          exact run_equalIn_int w' D t _ _ a b' hde
        · cases h
      · rename_i a b' hu
        rw [hu] at hfit
        simp only [U.Fits] at hfit
        subst hfit
        simp only [CellsOf, hu, U.agg, Bool.false_eq_true, if_false] at hX hY
        obtain ⟨s, hs, hX⟩ := hX
        obtain ⟨s', hs', hY⟩ := hY
        injection hs with hs _; subst hs
        injection hs' with hs' _; subst hs'
        have := hX.v_inv; subst this
        have := hY.v_inv; subst this
        injection h with h; subst h
        exact run_equalIn_bool' w' D t a b' hde
      · rename_i a b' hu
        rw [hu] at hfit
        simp only [U.Fits] at hfit
        subst hfit
        simp only [CellsOf, hu, U.agg, Bool.false_eq_true, if_false] at hX hY
        obtain ⟨s, hs, hX⟩ := hX
        obtain ⟨s', hs', hY⟩ := hY
        injection hs with hs _; subst hs
        injection hs' with hs' _; subst hs'
        have := hX.v_inv; subst this
        have := hY.v_inv; subst this
        injection h with h; subst h
        rw [run_equalIn_string w' D t a b' hde, toList_eq_iff]
      · rename_i fs xs' ys' hu
        rw [hu] at hfit
        simp only [U.Fits] at hfit
        obtain ⟨gs, rfl, hfs, hnm⟩ := hfit
        split at h
        · rename_i hpl
          simp only [CellsOf, hu, U.agg, if_true] at hX hY
          obtain ⟨vs, rfl, h1, h2⟩ := hX
          obtain ⟨us, rfl, k1, k2⟩ := hY
          have hfo : P.fieldsOf t = gs := by simp [Program.fieldsOf, hde]
          rw [run_equalIn_struct w' D t vs us (by rw [hfo]; exact hde) (g.plain hpl).1, hfo]
          subst hfs
          exact ih.2 gs.toList _ _ b vs us hnm h h1 h2 k1 k2 D w' (by omega)
        · cases h
      · cases h
    refine ⟨hT, fun fs => ?_⟩
    intro xs ys b vs us hn h h1 h2 k1 k2 D w' hD
    cases fs with
    | nil =>
      simp [eqFs] at h
      subst h
      simp [Op.eqFields]
    | cons f r =>
      simp only [List.map_cons, eqFs] at h
      split at h
      · cases h
      rename_i ti ht
      split at h
      case h_2 => cases h
      rename_i p1 p2 hp1 hp2
      split at h
      case h_2 => cases h
      rename_i c1 c2 hc1 hc2
      split at h
      case h_2 => cases h
      rename_i b1 b2 hb1 hb2
      injection h with h
      obtain ⟨x1, hx1, e1⟩ := part_sound (hG.get ht) hp1 h1 h2
      obtain ⟨x2, hx2, e2⟩ := part_sound (hG.get ht) hp2 k1 k2
      have e3 := ih.1 f.type ti _ _ b1 x1 x2 ht hb1 (cellsT_of hc1 hx1) (cellsT_of hc2 hx2) D w' (by omega)
      have e4 := ih.2 r xs ys b2 vs us (fun g hg => hn g (List.mem_cons_of_mem _ hg)) hb2 h1 h2 k1 k2 D w' (by omega)
      have hnm : f.name ≠ "_" := hn f (List.mem_cons_self ..)
      simp only [Op.eqFields, hnm, ne_eq, not_false_eq_true, if_true, Sem.run_bind, e1, e2, e3, Result.andThen_ok]
      subst h
      cases b1
      · simp
      · simpa using e4

end
end Go.Ab
