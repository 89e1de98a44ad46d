/- Stores, literals, append and calls: the machine does what the abstract step says. -/
import Derived.Test.YthhddlhgkejhbaaStAbsM
namespace Go.Ab
set_option linter.unusedVariables false
set_option linter.unusedSimpArgs false
section
variable {P : Program} {G : Gm} {C : Ctx} {S : St} {a : Act} {H H' : List Ob} {w w' : World} {F F' : Nat → Prop} {e e' : Env}

theorem st_heap (S : St) : S.withHeap S.heap = S := rfl

theorem purL_pure {H0 : List Ob} {cs : List AV} (hp : pureBs cs = true) {k : List AV → Prop} (h : purL H0 cs k) {f : Nat → Value} (hx : ∀ (j : Nat) s, cs[j]? = some s → Rep w F e s (f j)) :
    ∃ cs', k cs' ∧ cs'.length = cs.length ∧ (∀ (j : Nat) s, cs'[j]? = some s → Rep w F Env.nil s (f j)) ∧ ones cs' = ones cs := by
  induction cs generalizing k f with
  | nil => exact ⟨[], h, rfl, fun j s hj => by simp at hj, rfl⟩
  | cons a r ih =>
    simp only [pureBs, Bool.and_eq_true] at hp
    simp only [purL] at h
    have ha := hx 0 a rfl
    have key : ∃ a', (purL H0 r fun xs => k (a' :: xs)) ∧ Rep w F Env.nil a' (f 0) ∧ a'.one = a.one := by
      cases a <;> simp only [purC, pureB, Bool.false_eq_true] at h hp
      case v x => have := ha.v_inv; rw [this]; exact ⟨_, h, nrm_rep _, nrm_one⟩
      case sl xs => exact ⟨_, h, pure_env _ _ rfl ha, rfl⟩
      case ifc t x => exact ⟨_, h.elim.2, pure_env _ _ (by simpa [pureB] using h.elim.1) ha, rfl⟩
      all_goals first | exact hp.1.elim | exact h.elim
    obtain ⟨a', hk, hr, ho⟩ := key
    obtain ⟨cs', h1, h2, h3, h4⟩ := ih hp.2 hk (f := fun j => f (j + 1)) (fun j s hj => hx (j + 1) s (by simpa using hj))
    refine ⟨a' :: cs', h1, by simp [h2], fun j s hj => ?_, by simp only [ones, List.all_cons] at *; rw [ho, h4]⟩
    cases j with
    | zero => simp at hj; subst hj; exact hr
    | succ j => exact h3 j s (by simpa using hj)

theorem run_storeVar {t : TypeId} {ti : TI} (g : TGood P t ti) {x : Value} {ys : List AV} (hr : RepCells w F e ys x.cells) (hl : ys.length = ti.size) (ad : Addr) :
    (storeVar t ad x).run P w = (storeCells ad x.cells.toList).run P w := by
  unfold storeVar
  rw [Sem.run_bind, g.sizeOf w]
  simp only [Result.andThen_ok, Sem.run_bind]
  rw [if_neg (by rw [hr.1, hl]; simp)]

theorem store_goes (hG : TyOk P G.tys) (h : Sat C S a w F e) {o : Oper} {T : TypeId} {A X : Operand} {ti : TI} (ho : o.op = .store T A X) (ht : ty G.tys T = some ti) {ys : List AV} (hc : cellsB (S.ev X) = some ys) {K : St → Prop} {Q : Exit → Act → World → Prop}
    (hd : S.okD o.dst = true) (hl : ys.length = ti.size) (h1 : ones ys = true) (hs : storeS S (S.ev A) ys fun S' => K (S'.put o.dst .dead)) : Goes P C o a w K Q := by
  have hr := cellsB_sound hc (h.here.ev X)
  have hA := h.here.ev A
  have hv := fun ad => run_storeVar (P := P) (hG.get ht) hr hl ad
  have fin : ∀ (ad : Addr) (w' : World) (H' : List Ob), a.eval A = .pointer (some ad) → (storeCells ad (a.eval X).cells.toList).run P w = .ok () w' → Later w F w' F → Mem C H' w' F e → K ((S.withHeap H').put o.dst .dead) → Goes P C o a w K Q := by
    intro ad w' H' hA hrun L M hK
    have hr : (execOp a.eval o).run P w = .ok .skip w' := by
      simp [execOp, ho, hA, Instr.storeAt, Instr.sureAddr, hv ad, hrun]
    exact goes_skip hr hK (h.next L (EnvLe.refl e) M .dead hd)
  unfold storeS at hs
  simp only [Re_eq] at hs
  split at hs
  · rename_i ob off h2
    rw [h2] at hA
    obtain ⟨hlt, ex⟩ := hA.ptr_inv
    split at hs
    case h_2 => exact hs.elim
    rename_i T' cs hob
    obtain ⟨hle, hK⟩ := hs.len
    obtain ⟨w', hrun, _, hsz, M'⟩ := h.mem.store (P := P) hob hr h1 hle
    have L : Later w F w' F := by
      refine ⟨fun _ h => h, fun b hb => ?_⟩
      obtain ⟨vs, hb', hsz', hF, _⟩ := h.mem.heap.var hob
      obtain ⟨w2, h3, h4, _⟩ := run_storeCells (P := P) (e.blk ob) off T' (a.eval X).cells.toList 0 vs w hb' (by have := hr.1; simp; omega) (ones_values h1 hr)
      have : (Result.ok () w' : Result Unit) = .ok () w2 := hrun.symm.trans h3
      injection this with _ hw
      subst hw
      exact h4.block b (h.mem.bound b hb) (fun hbb => hF (hbb ▸ hb))
    exact fin _ w' _ ex hrun L M' hK
  · rename_i ob n sz i off h2
    rw [h2] at hA
    split at hs
    case h_2 => exact hs.elim
    rename_i el sz' xs hob
    have hh := hs.eqn
    clear hs
    obtain ⟨rfl, ⟨hn, hh⟩⟩ := hh
    obtain ⟨cs, hcs, ⟨hle, hh⟩⟩ := hh.out
    obtain ⟨hpure, hs⟩ := hh.elim
    obtain ⟨ys', hK, hl', hr', ho'⟩ := purL_pure (f := fun j => (a.eval X).cells.getD j undef) hpure hs hr.2
    generalize hX : a.eval A = AA at hA
    obtain ⟨hrl, _⟩ := h.mem.heap.ob ob _ hob
    cases hA with
    | rptrold hlt hn2 => omega
    | rptr hlt hn2 hv2 =>
      obtain ⟨w', hrun, hT, hsz, M'⟩ := h.mem.storeRow (P := P) hob hv2 hcs ⟨by rw [hl']; exact hr.1, hr'⟩ (by rw [ho']; exact h1) (by rw [hl']; exact hle)
      exact fin _ w' _ hX hrun (h.mem.later hT) M' hK
  · exact hs.elim

theorem src_sound (h : Sat C S a w F e) {sz : Nat} {x : AV} {X : Value} (hx : Rep w F e x X) {k : List (List AV) → Prop} (hs : srcV S.heap sz x k) : ∃ ys, k ys ∧ Src w F sz ys X := by
  unfold srcV at hs
  split at hs
  · rename_i ys
    exact ⟨ys, hs.k, src_sl hx hs.h⟩
  · rename_i o n
    split at hs
    · rename_i el sz' ys ho
      have hh := hs.eqn
      clear hs
      obtain ⟨rfl, ⟨hn, hk⟩⟩ := hh
      obtain ⟨hrl, hown⟩ := h.mem.heap.ob o _ ho
      refine ⟨ys, hk, ?_⟩
      cases hx with
      | row hl hn' hv => rw [← hv]; exact src_row hown
      | rowold hl hn' => omega
    · rename_i sz' ys ho
      have hh := hs.eqn
      clear hs
      obtain ⟨rfl, ⟨hn, hk⟩⟩ := hh
      obtain ⟨hrl, hsz, hr⟩ := h.mem.heap.ob o _ ho
      refine ⟨ys, hk, ?_⟩
      cases hx with
      | row hl hn' hv =>
        rw [← hv]
        refine src_sl hr (fun cs hcs => ?_)
        obtain ⟨i, hi, rfl⟩ := List.getElem_of_mem hcs
        exact hsz i _ (List.getElem?_eq_getElem hi)
      | rowold hl hn' => omega
    · exact hs.elim
  · have := hx.v_inv
    subst this
    exact ⟨[], hs, ⟨⟨none, 0, [], rfl, ⟨by simp, by simp, by simp⟩, by simp, fun h => absurd rfl h⟩⟩⟩
  · exact hs.elim

theorem foldSet_get : ∀ (us : List Value) (j0 : Nat) (v : Array Value) (f q : Nat), f + j0 + us.length ≤ v.size →
    ((us.zipIdx j0).foldl (fun c p => c.setIfInBounds (f + p.2) p.1) v)[q]? = if f + j0 ≤ q ∧ q < f + j0 + us.length then us[q - (f + j0)]? else v[q]? := by
  intro us
  induction us with
  | nil => intro j0 v f q _; simp; omega
  | cons u us ih =>
    intro j0 v f q hq
    simp only [List.zipIdx_cons, List.foldl_cons]
    rw [ih (j0 + 1) _ f q (by simp at hq ⊢; omega)]
    simp only [Array.getElem?_setIfInBounds, List.length_cons] at *
    by_cases c1 : q = f + j0
    · subst c1
      rw [if_neg (by omega), if_pos rfl, if_pos (by omega), if_pos (by omega)]
      simp
    · by_cases c2 : f + (j0 + 1) ≤ q ∧ q < f + (j0 + 1) + us.length
      · rw [if_pos c2, if_pos (by omega)]
        have : q - (f + j0) = (q - (f + (j0 + 1))) + 1 := by omega
        rw [this]; simp
      · rw [if_neg c2, if_neg (by omega), if_neg (by omega)]

theorem foldSet_size : ∀ (l : List (Value × Nat)) (v : Array Value) (f : Nat), (l.foldl (fun c p => c.setIfInBounds (f + p.2) p.1) v).size = v.size := by
  intro l
  induction l with
  | nil => intro v f; rfl
  | cons x l ih => intro v f; simp only [List.foldl_cons]; rw [ih]; simp

/-- Cells stored into a row that is ours: its elements are others then. -/
theorem Mem.pokeRow (M : Mem C H w F e) {o el sz : Nat} {xs ys : List (List AV)} {b c : Nat} {vs : Array Value} (ho : H[o]? = some (.row el sz xs)) (hv : e.rowv o = .slice (some ⟨b, 0, none⟩) xs.length c) (hb : w.heap[b]? = some (.cells vs el (0, 0)))
    (hvs : vs.size = c * sz) (hcap : xs.length ≤ c) (hmx : c ≤ maxLen) {us : List Value} {p : Nat} (hle : p + us.length ≤ vs.size) (h1 : ∀ u ∈ us, u.oneCell' = true) (hyl : ys.length = xs.length) (hys : ∀ (i : Nat) cs, ys[i]? = some cs → cs.length = sz ∧ ones cs = true)
    (hrep : ∀ (i : Nat) (cs : List AV) (j : Nat) s, ys[i]? = some cs → cs[j]? = some s → ∃ y, (if p ≤ i * sz + j ∧ i * sz + j < p + us.length then us[i * sz + j - p]? else vs[i * sz + j]?) = some y ∧ Rep w F Env.nil s y) :
    ∃ w', (storeCells ⟨b, p, none⟩ us).run P w = .ok () w' ∧ Later w F w' F ∧ Mem C (H.set o (.row el sz ys)) w' F e := by
  have hlt : o < H.length := (List.getElem?_eq_some_iff.1 ho).1
  obtain ⟨hrl, hown0⟩ := M.heap.ob o _ ho
  have hF : ¬ F b := Owner.notF M.heap (o := o) (by unfold Owner; rw [ho]; exact ⟨_, _, hv⟩)
  obtain ⟨w', h2, h3, h4, h5⟩ := run_storeCells (P := P) b p el us 0 vs w hb (by omega) h1
  have hownb : ∀ b1, b1 = b → Owner e H o b1 := fun b1 hbb => by unfold Owner; rw [ho]; exact ⟨_, _, by rw [hbb]; exact hv⟩
  have hT : Touch w w' (Owner e H o) := h3.mono hownb
  have L : Later w F w' F := M.later hT
  refine ⟨w', h2, L, M.change (o := o) (.row el sz ys) (by simp [M.heap.len]) (by simp) (fun o' hn => by rw [List.getElem?_set_ne (Ne.symm hn)]) (by simp [hlt]) (EnvLe.refl e) (fun o' _ _ => ⟨rfl, rfl⟩) hT ?_ ?_⟩
  · refine ⟨by rw [hrl, hyl], hys, .inr ⟨b, c, _, by rw [hv, hyl], hF, h5, by rw [foldSet_size]; exact hvs, by omega, hmx, fun i cs j s hi hj => ?_⟩⟩
    obtain ⟨y, hy, hyr⟩ := hrep i cs j s hi hj
    refine ⟨y, ?_, hyr.mono L (EnvLe.refl _)⟩
    rw [foldSet_get us 0 vs p (i * sz + j) (by omega)]
    simpa using hy
  · intro b1 hb'
    unfold Owner at hb'
    simp [hlt] at hb'
    obtain ⟨n, c1, hv1⟩ := hb'
    exact .inl (by unfold Owner; rw [ho]; exact ⟨n, c1, hv1⟩)

theorem row_block (M : Mem C H w F e) {o el sz : Nat} {xs : List (List AV)} (ho : H[o]? = some (.row el sz xs)) {b m c : Nat} (hv : e.rowv o = .slice (some ⟨b, 0, none⟩) m c) :
    m = xs.length ∧ (∀ (i : Nat) cs, xs[i]? = some cs → cs.length = sz ∧ ones cs = true) ∧ ∃ vs, w.heap[b]? = some (.cells vs el (0, 0)) ∧ vs.size = c * sz ∧ xs.length ≤ c ∧ c ≤ maxLen ∧
      ∀ (i : Nat) (cs : List AV) (j : Nat) s, xs[i]? = some cs → cs[j]? = some s → ∃ y, vs[i * sz + j]? = some y ∧ Rep w F Env.nil s y := by
  obtain ⟨hrl, hsz, hown⟩ := M.heap.ob o _ ho
  rcases hown with ⟨_, hv'⟩ | ⟨b', c', vs, hv', hF, hb, hvs, hcap, hmx, hrep⟩
  · rw [hv] at hv'; cases hv'
  · rw [hv] at hv'
    injection hv' with hv' hm hc
    injection hv' with hv'
    injection hv' with hv' _ _
    subst hv' hm hc
    exact ⟨rfl, hsz, vs, hb, hvs, hcap, hmx, hrep⟩

/-- append(s[:i], s[j:k]...), in place. -/
theorem move_sound (M : Mem C H w F e) {t el : TypeId} {te : TI} (hde : P.underlying t = some (.slice el)) (ge : TGood P el te) (ty : TypeId) {o n : Nat} {xs : List (List AV)} (ho : H[o]? = some (.row el te.size xs)) {hi lo' hi' : Nat} {X Y : Value}
    (hX : Rep w F e (.vw o n te.size 0 hi) X) (hY : Rep w F e (.vw o n te.size lo' hi') Y) (hn : n = xs.length) (hle : hi + (hi' - lo') ≤ xs.length) :
    ∃ v w', (Builtin.append_ #[t, t] ty #[X, Y]).run P w = .ok v w' ∧ Later w F w' F ∧ Mem C (H.set o (.row el te.size (xs.take hi ++ (xs.drop lo').take (hi' - lo') ++ xs.drop (hi + (hi' - lo'))))) w' F e ∧ Rep w' F e (.vw o n te.size 0 (hi + (hi' - lo'))) v := by
  obtain ⟨hrl, _⟩ := M.heap.ob o _ ho
  cases hX with
  | vwold _ hn2 => omega
  | @vw _ _ _ _ _ _ b m c off hlt hn2 hv hle1 hhi1 hpos hoff =>
    cases hY with
    | vwold _ hn2 => omega
    | @vw _ _ _ _ _ _ b' m' c' off' _ _ hv' hle2 hhi2 _ hoff' =>
      rw [hv] at hv'
      injection hv' with hv' hm hc
      injection hv' with hv'
      injection hv' with hv' _ _
      subst hv' hm hc
      obtain ⟨hm, hsz, vs, hb, hvs, hcap, hmx, hrep⟩ := row_block M ho hv
      have hoff0 : off = 0 := by have := hoff (by omega); simpa using this
      subst hoff0
      have hbound : ∀ i, i ≤ xs.length → i * te.size ≤ vs.size := fun i h => by rw [hvs]; exact Nat.mul_le_mul_right _ (by omega)
      let us : List Value := (List.range ((hi' - lo') * te.size)).map fun q => vs.getD (lo' * te.size + q) undef
      have husl : us.length = (hi' - lo') * te.size := by simp [us]
      have husg : ∀ q, q < (hi' - lo') * te.size → us[q]? = some (vs.getD (lo' * te.size + q) undef) := fun q hq => by simp [us, hq]
      have hvg : ∀ q, q < (hi' - lo') * te.size → vs[lo' * te.size + q]? = some (vs.getD (lo' * te.size + q) undef) := fun q hq => getElem?_of_getD (by
        have := hbound hi' (by omega)
        have e1 : hi' * te.size = lo' * te.size + (hi' - lo') * te.size := by rw [← Nat.add_mul]; congr 1; omega
        omega)
      have hload : (loadCells ⟨b, off', none⟩ ((hi' - lo') * te.size)).run P w = .ok us.toArray w := by
        rw [run_loadCells w ⟨b, off', none⟩ ((hi' - lo') * te.size) (fun q => vs.getD (lo' * te.size + q) undef) (fun q hq => ?_)]
        have hpos2 : 0 < hi' - lo' := by
          rcases Nat.eq_zero_or_pos (hi' - lo') with h0 | h0
          · rw [h0] at hq; simp at hq
          · exact h0
        rw [hoff' (by omega), addr_add rfl, cell_of_row w b _ vs el _ hb]
        exact hvg q hq
      let ys := xs.take hi ++ (xs.drop lo').take (hi' - lo') ++ xs.drop (hi + (hi' - lo'))
      have hyl : ys.length = xs.length := by simp [ys]; omega
      have hyg : ∀ (i : Nat), ys[i]? = if i < hi then xs[i]? else if i < hi + (hi' - lo') then xs[lo' + (i - hi)]? else xs[i]? := by
        intro i
        simp only [ys]
        by_cases c1 : i < hi
        · rw [if_pos c1, List.append_assoc, List.getElem?_append_left (by simp; omega), List.getElem?_take_of_lt c1]
        · rw [if_neg c1]
          by_cases c2 : i < hi + (hi' - lo')
          · rw [if_pos c2, List.getElem?_append_left (by simp; omega), List.getElem?_append_right (by simp; omega)]
            have e1 : (xs.take hi).length = hi := by simp; omega
            rw [e1, List.getElem?_take_of_lt (by omega), List.getElem?_drop]
          · rw [if_neg c2, List.getElem?_append_right (by simp; omega), List.getElem?_drop]
            congr 1
            simp; omega
      have hone : ∀ u ∈ us, u.oneCell' = true := by
        intro u hu
        obtain ⟨q, hq, rfl⟩ := List.getElem_of_mem hu
        rw [husl] at hq
        have h1 := husg q hq
        rw [List.getElem?_eq_getElem (by rw [husl]; exact hq)] at h1
        injection h1 with h1
        rw [h1]
        have hszp : 0 < te.size := by
          rcases Nat.eq_zero_or_pos te.size with h0 | h0
          · rw [h0] at hq; simp at hq
          · exact h0
        have hi2 : q / te.size < hi' - lo' := by rw [Nat.div_lt_iff_lt_mul hszp]; exact hq
        have hj2 : q % te.size < te.size := Nat.mod_lt _ hszp
        have hx : lo' + q / te.size < xs.length := by omega
        obtain ⟨hl3, ho3⟩ := hsz _ _ (List.getElem?_eq_getElem hx)
        obtain ⟨y, hy, hyr⟩ := hrep _ _ (q % te.size) _ (List.getElem?_eq_getElem hx) (List.getElem?_eq_getElem (by rw [hl3]; exact hj2))
        have e1 : (lo' + q / te.size) * te.size + q % te.size = lo' * te.size + q := by rw [Nat.add_mul, Nat.add_assoc, Nat.div_add_mod']
        rw [e1, hvg q hq] at hy
        injection hy with hy
        rw [hy]
        exact one_value (List.all_eq_true.1 ho3 _ (List.getElem_mem _)) hyr
      obtain ⟨w', hst, L, M'⟩ := M.pokeRow (P := P) (ys := ys) ho (by rw [← hm]; exact hv) hb hvs hcap hmx (us := us) (p := hi * te.size) (by
        rw [husl, ← Nat.add_mul]; exact hbound _ hle) hone hyl (fun i cs hi2 => by
        rw [hyg] at hi2
        split at hi2
        · exact hsz _ _ hi2
        · split at hi2
          · exact hsz _ _ hi2
          · exact hsz _ _ hi2) (fun i cs j s hi2 hj => by
        rw [hyg] at hi2
        have hjs : j < te.size := by
          have := (List.getElem?_eq_some_iff.1 hj).1
          have hl : cs.length = te.size := by
            split at hi2
            · exact (hsz _ _ hi2).1
            · split at hi2
              · exact (hsz _ _ hi2).1
              · exact (hsz _ _ hi2).1
          omega
        rw [husl]
        split at hi2
        · rename_i c1
          obtain ⟨y, hy, hyr⟩ := hrep _ _ _ _ hi2 hj
          refine ⟨y, ?_, hyr⟩
          rw [if_neg (by have := idx_lt c1 hjs; omega)]
          exact hy
        · rename_i c1
          split at hi2
          · rename_i c2
            obtain ⟨y, hy, hyr⟩ := hrep _ _ _ _ hi2 hj
            refine ⟨y, ?_, hyr⟩
            have e0 : i * te.size = hi * te.size + (i - hi) * te.size := by rw [← Nat.add_mul]; congr 1; omega
            have e1 := idx_lt (i := i - hi) (n := hi' - lo') (by omega) hjs
            rw [if_pos (by omega), show i * te.size + j - hi * te.size = (i - hi) * te.size + j by omega, husg _ e1]
            rw [Nat.add_mul] at hy
            rw [← hvg _ e1, ← Nat.add_assoc]
            exact hy
          · rename_i c2
            obtain ⟨y, hy, hyr⟩ := hrep _ _ _ _ hi2 hj
            refine ⟨y, ?_, hyr⟩
            have e0 : (hi + (hi' - lo')) * te.size ≤ i * te.size := Nat.mul_le_mul_right _ (by omega)
            rw [Nat.add_mul] at e0
            rw [if_neg (by omega)]
            exact hy)
      refine ⟨.slice (some ⟨b, 0, none⟩) (hi + (hi' - lo')) c, w', ?_, L, M', ?_⟩
      · simp only [Nat.sub_zero]
        have hc : hi + (hi' - lo') ≤ c := by omega
        have hadd : (⟨b, 0, none⟩ : Addr).add (hi * te.size) = ⟨b, hi * te.size, none⟩ := by rw [addr_add rfl, Nat.zero_add]
        simp [Builtin.append_, run_underlying hde, ge.sizeOf w, Builtin.lenOf, hc, Builtin.firstCells, hload, hadd, hst]
      · have := Rep.vw (w := w') (F := F) (e := e) (o := o) (n := n) (sz := te.size) (lo := 0) (hi := hi + (hi' - lo')) (off := 0) hlt hn2 hv (Nat.zero_le _) (by omega) hpos (fun _ => by simp)
        simpa using this

theorem zero_nrm {t : TypeId} {ti : TI} (g : TGood P t ti) {z : Value} (hz : z.cells = ti.zero.toArray) : z.cells.size = ti.size ∧ ∀ (j : Nat) s, (ti.zero.map nrm)[j]? = some s → Rep w F Env.nil s (z.cells.getD j undef) := by
  rw [hz]
  refine ⟨by simp [g.zlen], fun j s hj => ?_⟩
  rw [List.getElem?_map] at hj
  cases hv : ti.zero[j]? with
  | none => rw [hv] at hj; cases hj
  | some y =>
    rw [hv] at hj
    simp at hj
    subst hj
    rw [Array.getD_eq_getD_getElem?, List.getElem?_toArray, hv]
    exact nrm_rep y

theorem clear_sound (M : Mem C H w F e) {t el : TypeId} {te : TI} (hde : P.underlying t = some (.slice el)) (ge : TGood P el te) (ty : TypeId) {o n : Nat} {xs : List (List AV)} (ho : H[o]? = some (.row el te.size xs)) {lo hi : Nat} {X : Value}
    (hX : Rep w F e (.vw o n te.size lo hi) X) (hn : n = xs.length) (hz1 : ones (te.zero.map nrm) = true) :
    ∃ w', (Builtin.clear_ #[t] ty #[X]).run P w = .ok (.tuple #[]) w' ∧ Later w F w' F ∧ Mem C (H.set o (.row el te.size (xs.take lo ++ List.replicate (hi - lo) (te.zero.map nrm) ++ xs.drop hi))) w' F e := by
  obtain ⟨hrl, _⟩ := M.heap.ob o _ ho
  cases hX with
  | vwold _ hn2 => omega
  | @vw _ _ _ _ _ _ b m c off hlt hn2 hv hle1 hhi1 hpos hoff =>
    obtain ⟨hm, hsz, vs, hb, hvs, hcap, hmx, hrep⟩ := row_block M ho hv
    by_cases h0 : hi - lo = 0
    · have hhl : hi = lo := by omega
      subst hhl
      refine ⟨w, ?_, Later.refl w F, ?_⟩
      · rw [Nat.sub_self]
        simp [Builtin.clear_, run_underlying hde w]
      · rw [Nat.sub_self, List.replicate_zero, List.append_nil, List.take_append_drop]
        have : H.set o (.row el te.size xs) = H := by
          apply List.ext_getElem?
          intro i
          rw [List.getElem?_set]
          split
          · rename_i hh; subst hh
            rw [if_pos (List.getElem?_eq_some_iff.1 ho).1, ho]
          · rfl
        rw [this]; exact M
    · obtain ⟨z, hz, hzc⟩ := ge.zeroValue w
      obtain ⟨hzs, hzr⟩ := zero_nrm (w := w) (F := F) ge hzc
      have hoff' := hoff (by omega)
      subst hoff'
      have hszp : 0 < te.size ∨ te.size = 0 := by omega
      let us : List Value := (Builtin.zeroCells z.cells (hi - lo)).toList
      have husl : us.length = (hi - lo) * te.size := by simp [us, Builtin.zeroCells, hzs]
      have husg : ∀ (i j : Nat), i < hi - lo → j < te.size → us[i * te.size + j]? = some (z.cells.getD j undef) := by
        intro i j hi2 hj2
        have h3 := idx_lt hi2 hj2
        simp only [us, Builtin.zeroCells, hzs]
        rw [Array.getElem?_toList, Array.getElem?_map, Array.getElem?_range, if_pos h3]
        simp only [Option.map_some]
        have e2 : (i * te.size + j) % te.size = j := by rw [Nat.mul_comm, Nat.mul_add_mod, Nat.mod_eq_of_lt hj2]
        rw [e2]
        congr 1
        rw [Array.getD_eq_getD_getElem?, Array.getElem?_eq_getElem (by omega)]
        rw [getElem!_pos z.cells j (by omega)]
        rfl
      have hbound : ∀ i, i ≤ xs.length → i * te.size ≤ vs.size := fun i h => by rw [hvs]; exact Nat.mul_le_mul_right _ (by omega)
      let ys := xs.take lo ++ List.replicate (hi - lo) (te.zero.map nrm) ++ xs.drop hi
      have hyl : ys.length = xs.length := by simp [ys]; omega
      have hyg : ∀ (i : Nat), ys[i]? = if i < lo then xs[i]? else if i < hi then some (te.zero.map nrm) else xs[i]? := by
        intro i
        simp only [ys]
        by_cases c1 : i < lo
        · rw [if_pos c1, List.append_assoc, List.getElem?_append_left (by simp; omega), List.getElem?_take_of_lt c1]
        · rw [if_neg c1]
          by_cases c2 : i < hi
          · have e1 : (xs.take lo).length = lo := by simp; omega
            rw [if_pos c2, List.getElem?_append_left (by simp; omega), List.getElem?_append_right (by omega), e1, List.getElem?_replicate, if_pos (by omega)]
          · rw [if_neg c2, List.getElem?_append_right (by simp; omega), List.getElem?_drop]
            congr 1
            simp; omega
      have hzl : (te.zero.map nrm).length = te.size := by simp [ge.zlen]
      have hone : ∀ u ∈ us, u.oneCell' = true := by
        intro u hu
        obtain ⟨q, hq, rfl⟩ := List.getElem_of_mem hu
        rw [husl] at hq
        have hszp : 0 < te.size := by
          rcases Nat.eq_zero_or_pos te.size with h0 | h0
          · rw [h0] at hq; simp at hq
          · exact h0
        have hi2 : q / te.size < hi - lo := by rw [Nat.div_lt_iff_lt_mul hszp]; exact hq
        have hj2 : q % te.size < te.size := Nat.mod_lt _ hszp
        have h1 := husg _ _ hi2 hj2
        rw [Nat.div_add_mod', List.getElem?_eq_getElem (by rw [husl]; exact hq)] at h1
        injection h1 with h1
        rw [h1]
        exact one_value (List.all_eq_true.1 hz1 _ (List.getElem_mem (by rw [hzl]; exact hj2))) (hzr _ _ (List.getElem?_eq_getElem (by rw [hzl]; exact hj2)))
      obtain ⟨w', hst, L, M'⟩ := M.pokeRow (P := P) (ys := ys) ho (by rw [← hm]; exact hv) hb hvs hcap hmx (us := us) (p := lo * te.size) (by
        rw [husl, ← Nat.add_mul]; exact hbound _ (by omega)) hone hyl (fun i cs hi2 => by
        rw [hyg] at hi2
        split at hi2
        · exact hsz _ _ hi2
        · split at hi2
          · injection hi2 with hi2; subst hi2; exact ⟨hzl, hz1⟩
          · exact hsz _ _ hi2) (fun i cs j s hi2 hj => by
        rw [hyg] at hi2
        have hjs : j < te.size := by
          have := (List.getElem?_eq_some_iff.1 hj).1
          have hl : cs.length = te.size := by
            split at hi2
            · exact (hsz _ _ hi2).1
            · split at hi2
              · injection hi2 with hi2; subst hi2; exact hzl
              · exact (hsz _ _ hi2).1
          omega
        rw [husl]
        split at hi2
        · rename_i c1
          obtain ⟨y, hy, hyr⟩ := hrep _ _ _ _ hi2 hj
          refine ⟨y, ?_, hyr⟩
          rw [if_neg (by have := idx_lt c1 hjs; omega)]
          exact hy
        · rename_i c1
          split at hi2
          · rename_i c2
            injection hi2 with hi2
            subst hi2
            have e0 : i * te.size = lo * te.size + (i - lo) * te.size := by rw [← Nat.add_mul]; congr 1; omega
            have e1 := idx_lt (i := i - lo) (n := hi - lo) (by omega) hjs
            refine ⟨_, ?_, hzr j s hj⟩
            rw [if_pos (by omega), show i * te.size + j - lo * te.size = (i - lo) * te.size + j by omega]
            exact husg _ _ (by omega) hjs
          · rename_i c2
            obtain ⟨y, hy, hyr⟩ := hrep _ _ _ _ hi2 hj
            refine ⟨y, ?_, hyr⟩
            have e0 : (lo + (hi - lo)) * te.size ≤ i * te.size := Nat.mul_le_mul_right _ (by omega)
            rw [Nat.add_mul] at e0
            rw [if_neg (by omega)]
            exact hy)
      refine ⟨w', ?_, L, M'⟩
      obtain ⟨k, hk⟩ : ∃ k, hi - lo = k + 1 := ⟨hi - lo - 1, by omega⟩
      simp only [us, hk] at hst
      simp only [Builtin.clear_, hk]
      simp [run_underlying hde w, hz, hst]

theorem append_goes (hG : TyOk P G.tys) (h : Sat C S a w F e) {o : Oper} {c : Call} {T : TypeId} {A X : Operand} (ho : o.op = .call c) (hc : c.callee = .builtin .append) (hca : c.args.toList = [A, X]) (hct : c.argTypes.toList = [T, T]) {K : St → Prop} {Q : Exit → Act → World → Prop}
    (hd : S.okD o.dst = true) (hs : appendS G S T (S.ev A) (S.ev X) fun r S' => K (S'.put o.dst r)) : Goes P C o a w K Q := by
  have hA := h.here.ev A
  have hX := h.here.ev X
  unfold appendS at hs
  simp only [Re_eq] at hs
  split at hs
  case h_2 => exact hs.elim
  rename_i tl htl
  split at hs
  case h_2 => exact hs.elim
  rename_i el hu
  split at hs
  case h_2 => exact hs.elim
  rename_i te hte
  have hh := hs.elim
  clear hs
  obtain ⟨hzb, hs⟩ := hh
  simp only [Bool.and_eq_true] at hzb
  have hz : 0 < te.size := Nat.le_of_ble_eq_true hzb.1
  have hb0 : 0 < te.bytes := Nat.le_of_ble_eq_true hzb.2
  have hde := (hG.get htl).slice hu
  have ge := hG.get hte
  have hcall : ∀ (v : Value) (w' : World), (Builtin.append_ #[T, T] o.type #[a.eval A, a.eval X]).run P w = .ok v w' → (execOp a.eval o).run P w = .ok (.value v) w' := by
    intro v w' hr
    have e1 : c.args = #[A, X] := by cases hcc : c.args; simp_all
    have e2 : c.argTypes = #[T, T] := by cases hcc : c.argTypes; simp_all
    simp [execOp, ho, resolve, hc, e1, e2, invoke, builtin, hr]
  split at hs
  · rename_i ob n hev
    rw [hev] at hA
    split at hs
    case h_2 => exact hs.elim
    rename_i el' sz xs hob
    have hh := hs.elim
    clear hs
    obtain ⟨hq, ⟨hn, hs⟩⟩ := hh
    simp only [Bool.and_eq_true] at hq
    obtain rfl := Nat.eq_of_beq_eq_true hq.1
    obtain rfl := Nat.eq_of_beq_eq_true hq.2
    obtain ⟨ys, ⟨hbd, hK⟩, hsrc⟩ := src_sound h hX hs
    obtain ⟨hrl, hown⟩ := h.mem.heap.ob ob _ hob
    have hv : a.eval A = e.rowv ob := by
      generalize a.eval A = AA at hA
      cases hA with
      | row hl hn' hv => exact hv.symm
      | rowold hl hn' => omega
    obtain ⟨v', w', hr, h1, h2, h3, h4⟩ := append_sound hde ge hz o.type (x := a.eval X) hown hsrc hbd hb0 h.mem.bound
    have hOwn : ∀ b, (e.rowv ob).ownBlock = some b → Owner e S.heap ob b := by
      intro b hb
      unfold Owner
      rw [hob]
      cases hrv : e.rowv ob with
      | slice A' m cc =>
        rw [hrv] at hb
        cases A' with
        | none => cases hb
        | some ad =>
          simp only [Value.ownBlock, Option.some.injEq] at hb
          rcases hown.2 with ⟨_, hv'⟩ | ⟨b', c', vs, hv', _⟩
          · rw [hrv] at hv'; cases hv'
          · rw [hrv] at hv'
            injection hv' with hv' h5 h6
            injection hv' with hv'
            subst hv'
            simp at hb
            subst hb
            exact ⟨_, _, rfl⟩
      | _ => rw [hrv] at hb; cases hb
    have T' : Touch w w' (Owner e S.heap ob) := ⟨h2.os, h2.tape, h2.output, h2.size, fun b hb hno => h2.block b hb (fun hk => hno (hOwn b hk.symm))⟩
    have M' := h.mem.growRow (x := v') (ys := xs ++ ys) hob T' h1 (fun b hb => by
      rcases h3 with h3 | h3
      · rw [h3] at hb; exact .inl (hOwn b hb)
      · rw [h3] at hb; injection hb with hb; exact .inr (by omega)) (by
        by_cases hy : ys = []
        · exact .inr ⟨by simp [hy], h4 hy⟩
        · left; have := List.length_pos_iff.2 hy; simp; omega)
    refine goes_value (hcall v' w' (by rw [hv]; exact hr)) hK (h.next (h.mem.later T') ?_ M' ?_ hd)
    · refine ⟨Nat.le_refl _, fun _ _ => rfl, fun o' ho' => ?_⟩
      by_cases hno : o' = ob
      · subst hno
        simp only [Env.setRow, upd_same]
        by_cases hy : ys = []
        · exact .inr ⟨by simp [hy, hrl], h4 hy⟩
        · left; have := List.length_pos_iff.2 hy; rw [hrl]; simp; omega
      · exact .inr ⟨upd_other _ _ _ hno, upd_other _ _ _ hno⟩
    · have hlt : ob < (e.setRow ob (xs ++ ys).length v').len := by
        show ob < e.len
        rw [h.mem.heap.len]; exact (List.getElem?_eq_some_iff.1 hob).1
      have hsl : ∃ A' m cc, v' = .slice A' m cc := by
        rcases h1.2 with ⟨_, hv'⟩ | ⟨b, cc, vs, hv', _⟩
        · exact ⟨_, _, _, hv'⟩
        · exact ⟨_, _, _, hv'⟩
      obtain ⟨A', m, cc, hv'⟩ := hsl
      have : (e.setRow ob (xs ++ ys).length v').rowv ob = .slice A' m cc := by simp only [Env.setRow, upd_same]; exact hv'
      rw [hv'] at this hlt ⊢
      exact .row hlt (upd_same _ _ _).symm this
  · rename_i ob n sz lo hi hev
    split at hs
    case h_2 => exact hs.elim
    rename_i o' n' sz' lo' hi' el' sz2 xs hevx hob
    have hh := hs.elim
    clear hs
    obtain ⟨hq, ⟨⟨h1, h2, h3, h4⟩, hK⟩⟩ := hh
    simp only [Bool.and_eq_true] at hq
    obtain ⟨⟨⟨⟨q1, q2⟩, q3⟩, q4⟩, q5⟩ := hq
    have q1 := Nat.eq_of_beq_eq_true q1
    have q2 := Nat.eq_of_beq_eq_true q2
    have q3 := Nat.eq_of_beq_eq_true q3
    have q4 := Nat.eq_of_beq_eq_true q4
    have q5 := Nat.eq_of_beq_eq_true q5
    subst q1 q2 q3 q4 q5 h1
    rw [hev] at hA
    rw [hevx] at hX
    obtain ⟨v, w', hr, L, M', hrep⟩ := move_sound (P := P) h.mem hde ge o.type hob hA (by rw [h2, ← h3]; exact hX) h2 h4
    exact goes_value (hcall v w' hr) hK (h.next L (EnvLe.refl e) M' hrep hd)
  · rename_i hev
    rw [hev] at hA
    have hv := hA.v_inv
    obtain ⟨ys, ⟨hbd, hK⟩, hsrc⟩ := src_sound h hX hs
    have hnil : OwnRow w F el te.size [] (.slice none 0 0) := ⟨fun i cs hi => by simp at hi, .inl ⟨rfl, rfl⟩⟩
    obtain ⟨v', w', hr, h1, h2, h3, h4⟩ := append_sound hde ge hz o.type (x := a.eval X) hnil hsrc (by simpa using hbd) hb0 h.mem.bound
    have T' : Touch w w' (fun _ => False) := ⟨h2.os, h2.tape, h2.output, h2.size, fun b hb hno => h2.block b hb (by simp [Value.ownBlock])⟩
    have M' := h.mem.pushRow (x := v') (xs := ys) T' (by simpa using h1) (fun b hb => by
      rcases h3 with h3 | h3
      · rw [h3] at hb; cases hb
      · rw [h3] at hb; injection hb with hb; omega)
    refine goes_value (hcall v' w' (by rw [hv]; exact hr)) hK (h.next (h.mem.later (T'.mono (own' := Owner e S.heap 0) fun _ h => h.elim)) (EnvLe.pushRow e _ _) M' ?_ hd)
    have hlt : S.heap.length < (e.pushRow ys.length v').len := by show S.heap.length < e.len + 1; rw [h.mem.heap.len]; omega
    have hsl : ∃ A' m cc, v' = .slice A' m cc := by
      rcases h1.2 with ⟨_, hv'⟩ | ⟨b, cc, vs, hv', _⟩
      · exact ⟨_, _, _, hv'⟩
      · exact ⟨_, _, _, hv'⟩
    obtain ⟨A', m, cc, hv'⟩ := hsl
    have h5 : (e.pushRow ys.length v').rowv S.heap.length = .slice A' m cc := by simp only [Env.pushRow]; rw [← h.mem.heap.len, upd_same]; exact hv'
    have h6 : ys.length = (e.pushRow ys.length v').rlen S.heap.length := by simp only [Env.pushRow]; rw [← h.mem.heap.len, upd_same]
    rw [hv'] at h5 h6 hlt ⊢
    exact .row hlt h6 h5
  · exact hs.elim

theorem clear_goes (hG : TyOk P G.tys) (h : Sat C S a w F e) {o : Oper} {c : Call} {T : TypeId} {X : Operand} (ho : o.op = .call c) (hc : c.callee = .builtin .clear) (hca : c.args.toList = [X]) (hct : c.argTypes.toList = [T]) {K : St → Prop} {Q : Exit → Act → World → Prop}
    (hd : S.okD o.dst = true) (hs : clearS G S T (S.ev X) fun S' => K (S'.put o.dst .dead)) : Goes P C o a w K Q := by
  have hX := h.here.ev X
  unfold clearS at hs
  simp only [Re_eq] at hs
  split at hs
  case h_2 => exact hs.elim
  rename_i tl htl
  split at hs
  case h_2 => exact hs.elim
  rename_i el hu
  split at hs
  case h_2 => exact hs.elim
  rename_i te ob n sz lo hi hte hev
  split at hs
  case h_2 => exact hs.elim
  rename_i el' sz' xs hob
  have hh := hs.elim
  clear hs
  obtain ⟨hq, ⟨hn, hK⟩⟩ := hh
  simp only [Bool.and_eq_true] at hq
  obtain ⟨⟨⟨q1, q2⟩, q3⟩, q4⟩ := hq
  have q1 := Nat.eq_of_beq_eq_true q1
  have q2 := Nat.eq_of_beq_eq_true q2
  have q3 := Nat.eq_of_beq_eq_true q3
  subst q1 q2 q3
  rw [hev] at hX
  obtain ⟨w', hr, L, M'⟩ := clear_sound (P := P) h.mem ((hG.get htl).slice hu) (hG.get hte) o.type hob hX hn q4
  have hrun : (execOp a.eval o).run P w = .ok (.value (.tuple #[])) w' := by
    have e1 : c.args = #[X] := by cases hcc : c.args; simp_all
    have e2 : c.argTypes = #[T] := by cases hcc : c.argTypes; simp_all
    simp [execOp, ho, resolve, hc, e1, e2, invoke, builtin, hr]
  exact goes_value hrun hK (h.next L (EnvLe.refl e) M' .dead hd)

end
end Go.Ab
