/- Literals of slices; calls; and the one theorem on a step. -/
import Derived.Test.YthhddlhgkejhbaaStAbsN
namespace Go.Ab
set_option linter.unusedVariables false
set_option linter.unusedSimpArgs false
section
variable {P : Program} {G : Gm} {C : Ctx} {S : St} {a : Act} {H H' : List Ob} {w w' : World} {F F' : Nat → Prop} {e e' : Env}

/-- An object is let go. -/
theorem Mem.letgo (M : Mem C H w F e) (o : Nat) : Mem C (H.set o .gone) w F e := by
  have hold : ∀ o' b, Owner e (H.set o .gone) o' b → Owner e H o' b := by
    intro o' b h
    unfold Owner at h ⊢
    rw [List.getElem?_set] at h
    by_cases hn : o = o'
    · rw [if_pos hn] at h
      by_cases hl : o < H.length
      · rw [if_pos (by first | exact hl | omega)] at h; exact h.elim
      · rw [if_neg (by first | exact hl | omega)] at h; exact h.elim
    · rw [if_neg hn] at h; exact h
  refine ⟨⟨by simp [M.heap.len], fun o' x hx => ?_, fun o1 o2 b h1 h2 => M.heap.one _ _ _ (hold _ _ h1) (hold _ _ h2)⟩, M.mod, fun o' b hb => M.ours _ _ (hold _ _ hb), M.sub, M.bound, M.fresh, M.env⟩
  rw [List.getElem?_set] at hx
  by_cases hn : o = o'
  · rw [if_pos hn] at hx
    by_cases hl : o < H.length
    · rw [if_pos (by first | exact hl | omega)] at hx; injection hx with hx; subst hx; trivial
    · rw [if_neg (by first | exact hl | omega)] at hx; cases hx
  · rw [if_neg hn] at hx; exact M.heap.ob o' x hx

/-- What changes is neither ours nor frozen. -/
theorem Mem.aside (M : Mem C H w F e) {own : Nat → Prop} (T : Touch w w' own) (hF : ∀ b, own b → ¬ F b) (ho : ∀ b, own b → ¬ ∃ o, Owner e H o b) (hc : ∀ b, own b → C.w0.heap.size ≤ b ∨ C.own0 b) (hs : ∀ b, F b → F' b) (hn : ∀ b, F' b → F b ∨ w.heap.size ≤ b ∨ own b) (hb : ∀ b, F' b → b < w'.heap.size) :
    Mem C H w' F' e ∧ Later w F w' F' := by
  have L : Later w F w' F' := ⟨hs, fun b hb => T.block b (M.bound b hb) (fun h => hF b h hb)⟩
  refine ⟨⟨⟨M.heap.len, fun o x hx => ?_, M.heap.one⟩, ⟨T.os.trans M.mod.os, T.tape.trans M.mod.tape, T.output.trans M.mod.output, Nat.le_trans M.mod.size T.size, fun b hb hn => ?_⟩, M.ours, fun b hb => hs b (M.sub b hb), hb, fun b hb => ?_, M.env⟩, L⟩
  · have hlt : o < e.len := by rw [M.heap.len]; exact (List.getElem?_eq_some_iff.1 hx).1
    refine ObRep.keep hx hlt (M.heap.ob o x hx) L (fun b hb => ?_) (EnvLe.refl e) rfl rfl (fun b hb => T.block b (hb.lt M.heap) (fun h => ho b h ⟨o, hb⟩))
    rcases hn b hb with h | h | h
    · exact .inl h
    · exact .inr fun hown => by have := hown.lt M.heap; omega
    · exact .inr fun hown => ho b h ⟨o, hown⟩
  · rw [T.block b (Nat.lt_of_lt_of_le hb M.mod.size) (fun h => by
      rcases hc b h with k | k
      · omega
      · exact hn k)]
    exact M.mod.block b hb hn
  · rcases hn b hb with h | h | h
    · exact M.fresh b h
    · exact .inr (.inl (Nat.le_trans M.mod.size h))
    · exact .inr (hc b h)

theorem own_block {o el sz : Nat} {xs : List (List AV)} (ho : H[o]? = some (.row el sz xs)) (M : Mem C H w F e) {b : Nat} (hb : (e.rowv o).ownBlock = some b) : Owner e H o b := by
  obtain ⟨hrl, hown⟩ := M.heap.ob o _ ho
  unfold Owner
  rw [ho]
  rcases hown.2 with ⟨_, hv'⟩ | ⟨b', c', vs, hv', _⟩
  · rw [hv'] at hb; cases hb
  · rw [hv'] at hb ⊢
    simp only [Value.ownBlock, Option.some.injEq] at hb
    subst hb
    exact ⟨_, _, rfl⟩

/-- A row that lies there becomes ours. -/
theorem Mem.adopt (M : Mem C H w F e) {el sz : Nat} {xs : List (List AV)} {x : Value} (hr : OwnRow w F el sz xs x) (hno : ∀ b, x.ownBlock = some b → ¬ ∃ o, Owner e H o b) (hc : ∀ b, x.ownBlock = some b → C.w0.heap.size ≤ b ∨ C.own0 b) :
    Mem C (H ++ [.row el sz xs]) w F (e.pushRow xs.length x) ∧ Rep w F (e.pushRow xs.length x) (.row H.length xs.length) x := by
  have hlen := M.heap.len
  have h1 : (e.pushRow xs.length x).rlen H.length = xs.length := by simp only [Env.pushRow]; rw [← hlen]; exact upd_same _ _ _
  have h2 : (e.pushRow xs.length x).rowv H.length = x := by simp only [Env.pushRow]; rw [← hlen]; exact upd_same _ _ _
  have E := EnvLe.pushRow e xs.length x
  have L := Later.refl w F
  have hold : ∀ o' b, o' ≠ H.length → (Owner (e.pushRow xs.length x) (H ++ [.row el sz xs]) o' b ↔ Owner e H o' b) := by
    intro o' b hn
    unfold Owner
    rw [getElem?_push_old _ hn]
    cases hcs : H[o']? with
    | none => simp
    | some y =>
      have hlt : o' < e.len := by rw [hlen]; exact (List.getElem?_eq_some_iff.1 hcs).1
      have e1 : (e.pushRow xs.length x).rowv o' = e.rowv o' := upd_other _ _ _ (by omega)
      cases y <;> simp [Env.pushRow] at * <;> simp_all
  have hnew : ∀ b, Owner (e.pushRow xs.length x) (H ++ [.row el sz xs]) H.length b → x.ownBlock = some b := by
    intro b hb
    unfold Owner at hb
    simp at hb
    obtain ⟨n, c, hv⟩ := hb
    rw [h2] at hv
    rw [hv]; rfl
  refine ⟨⟨⟨by simp [Env.pushRow, hlen], fun o' y hy => ?_, fun o1 o2 b k1 k2 => ?_⟩, M.mod, fun o' b hb => ?_, M.sub, M.bound, M.fresh, M.env.trans E⟩, ?_⟩
  · by_cases hn : o' = H.length
    · subst hn
      simp at hy
      subst hy
      exact ⟨h1, by rw [h2]; exact hr⟩
    · rw [getElem?_push_old _ hn] at hy
      have hlt : o' < e.len := by rw [hlen]; exact (List.getElem?_eq_some_iff.1 hy).1
      exact ObRep.keep hy hlt (M.heap.ob o' y hy) L (fun b hb => .inl hb) E (upd_other _ _ _ (by omega)) (upd_other _ _ _ (by omega)) (fun b hb => rfl)
  · by_cases n1 : o1 = H.length <;> by_cases n2 : o2 = H.length
    · rw [n1, n2]
    · subst n1; exact absurd ⟨o2, (hold o2 b n2).1 k2⟩ (hno b (hnew b k1))
    · subst n2; exact absurd ⟨o1, (hold o1 b n1).1 k1⟩ (hno b (hnew b k2))
    · exact M.heap.one _ _ _ ((hold o1 b n1).1 k1) ((hold o2 b n2).1 k2)
  · by_cases hn : o' = H.length
    · subst hn; exact hc b (hnew b hb)
    · exact M.ours _ _ ((hold o' b hn).1 hb)
  · have hlt : H.length < (e.pushRow xs.length x).len := by show H.length < e.len + 1; omega
    have hsl : ∃ A' m cc, x = .slice A' m cc := by
      rcases hr.2 with ⟨_, hv'⟩ | ⟨b, cc, vs, hv', _⟩
      · exact ⟨_, _, _, hv'⟩
      · exact ⟨_, _, _, hv'⟩
    obtain ⟨A', m, cc, hv'⟩ := hsl
    rw [hv'] at h1 h2 hlt ⊢
    exact .row hlt h1.symm h2

theorem frzC_length (H : List Ob) (a : AV) : (frzC H a).length = H.length := ((Froze.refl H).step a).1
theorem frzL_length : ∀ (cs : List AV) (H : List Ob), (frzL H cs).length = H.length
  | [], H => rfl
  | a :: r, H => by simp only [frzL]; rw [frzL_length r, frzC_length]

theorem rowsV_sound {sz : Nat} : ∀ (parts : List (Nat × Operand)) (i : Nat) {H : List Ob} {F : Nat → Prop} (M : Mem C H w F e) (hr : ∀ t, Rep w F e (S.regs t) (a.tmps.getD t undef)) {k : List Ob → List (List AV) → Prop} (h : rowsV S sz H i parts k),
    ∃ H' xs F', k H' xs ∧ Later w F w F' ∧ Mem C H' w F' e ∧ H'.length = H.length ∧ xs.length = parts.length ∧ (∀ (j : Nat) cs, xs[j]? = some cs → cs.length = sz ∧ ones cs = true) ∧
      ∀ (cells : Array Value), (i + parts.length) * sz ≤ cells.size → ∃ us, Instr.fill (fun i => some (i * sz, sz)) cells (parts.map fun p => (p.1, a.eval p.2)) = some us ∧ us.size = cells.size ∧ (∀ q, q < i * sz → us[q]? = cells[q]?) ∧
        ∀ (j : Nat) (cs : List AV) (m : Nat) s, xs[j]? = some cs → cs[m]? = some s → ∃ y, us[(i + j) * sz + m]? = some y ∧ Rep w F' Env.nil s y
  | [], i, H, F, M, hr, k, h => ⟨H, [], F, h, Later.refl w F, M, rfl, rfl, fun j cs hj => by simp at hj, fun cells hc => ⟨cells, rfl, rfl, fun _ _ => rfl, fun j cs m s hj => by simp at hj⟩⟩
  | (j0, x) :: r, i, H, F, M, hr, k, h => by
    simp only [rowsV] at h
    have hh := h.eqn
    clear h
    obtain ⟨rfl, h⟩ := hh
    split at h
    case h_2 => exact h.elim
    rename_i ys hys
    have hh := h.elim
    clear h
    obtain ⟨hl1, h⟩ := hh
    simp only [Bool.and_eq_true] at hl1
    have hl := Nat.eq_of_beq_eq_true hl1.1
    have h1 := hl1.2
    have hev : Rep w F e (S.ev x) (a.eval x) := by
      cases x with
      | tmp t => exact hr t
      | const v => exact rep_ofConst v
      | global g => exact .dead
      | func f => exact .fn rfl rfl (fun j s h => by simp at h) (fun j s h => by simp at h)
    have hc := cellsB_sound hys hev
    obtain ⟨ys', F1, h2, L1, M1, l1, r1, o1, _⟩ := purL_sound ys (Froze.refl H) M (fun j => (a.eval x).cells.getD j undef) hc.2 h
    obtain ⟨H', xs, F', h3, L2, M2, l2, l3, l4, hfill⟩ := rowsV_sound r (j0 + 1) M1 (fun t => (hr t).mono L1 (EnvLe.refl e)) h2
    refine ⟨H', ys' :: xs, F', h3, L1.trans L2, M2, by rw [l2, frzL_length], by simp [l3], fun j cs hj => ?_, fun cells hcells => ?_⟩
    · cases j with
      | zero => simp at hj; subst hj; exact ⟨by rw [l1]; exact hl, by rw [o1]; exact h1⟩
      | succ j => exact l4 j cs (by simpa using hj)
    · have hsz : (a.eval x).cells.size = sz := by rw [hc.1]; exact hl
      have hin : j0 * sz + sz ≤ cells.size := by
        rw [← Nat.succ_mul]
        refine Nat.le_trans (Nat.mul_le_mul_right _ ?_) hcells
        simp
      have getF : ∀ (us : List Value) (j0 : Nat) (v : Array Value) (f q : Nat), f + j0 + us.length ≤ v.size → ((us.zipIdx j0).foldl (fun c p => c.setIfInBounds (f + p.2) p.1) v)[q]? = if f + j0 ≤ q ∧ q < f + j0 + us.length then us[q - (f + j0)]? else v[q]? := by
        intro us
        induction us with
        | nil => intro j0 v f q _; simp; omega
        | cons u us ih =>
          intro j0 v f q hq
          simp only [List.zipIdx_cons, List.foldl_cons]
          rw [ih (j0 + 1) _ f q (by simp at hq ⊢; omega)]
          simp only [Array.getElem?_setIfInBounds, List.length_cons] at *
          by_cases c1 : q = f + j0
          · subst c1
            rw [if_neg (by omega), if_pos rfl, if_pos (by omega), if_pos (by omega)]
            simp
          · by_cases c2 : f + (j0 + 1) ≤ q ∧ q < f + (j0 + 1) + us.length
            · rw [if_pos c2, if_pos (by omega)]
              have : q - (f + j0) = (q - (f + (j0 + 1))) + 1 := by omega
              rw [this]; simp
            · rw [if_neg c2, if_neg (by omega), if_neg (by omega)]
      have szF : ∀ (l : List (Value × Nat)) (v : Array Value) (f : Nat), (l.foldl (fun c p => c.setIfInBounds (f + p.2) p.1) v).size = v.size := by
        intro l
        induction l with
        | nil => intro v f; rfl
        | cons x l ih => intro v f; simp only [List.foldl_cons]; rw [ih]; simp
      let cells1 := ((a.eval x).cells.toList.zipIdx 0).foldl (fun c p => c.setIfInBounds (j0 * sz + p.2) p.1) cells
      have hs1 : cells1.size = cells.size := szF _ _ _
      have hg1 : ∀ q, cells1[q]? = if j0 * sz ≤ q ∧ q < j0 * sz + sz then (a.eval x).cells.toList[q - j0 * sz]? else cells[q]? := by
        intro q
        have := getF (a.eval x).cells.toList 0 cells (j0 * sz) q (by rw [Array.length_toList, hsz]; omega)
        simp only [Array.length_toList, hsz, Nat.add_zero] at this
        exact this
      obtain ⟨us, hu, hus, hlow, hrep⟩ := hfill cells1 (by rw [hs1]; refine Nat.le_trans (Nat.le_of_eq ?_) hcells; congr 1; simp; omega)
      refine ⟨us, ?_, by rw [hus, hs1], fun q hq => ?_, fun j cs m s hj hm => ?_⟩
      · simp only [List.map_cons, Instr.fill]
        rw [if_neg (by simp only [Bool.or_eq_true, decide_eq_true_eq, not_or]; constructor <;> omega)]
        rw [← hu, ← Array.foldl_toList, Array.toList_zipIdx]
      · rw [hlow q (by rw [Nat.succ_mul]; omega), hg1, if_neg (by omega)]
      · cases j with
        | zero =>
          simp at hj
          subst hj
          have hmlt : m < sz := by
            have := (List.getElem?_eq_some_iff.1 hm).1
            omega
          have hr2 := (r1 m s hm).mono L2 (EnvLe.refl _)
          refine ⟨_, ?_, hr2⟩
          rw [Nat.add_zero, hlow _ (by rw [Nat.succ_mul]; omega), hg1, if_pos (by omega)]
          have : j0 * sz + m - j0 * sz = m := by omega
          rw [this, Array.getElem?_toList]
          exact getElem?_of_getD (by omega)
        | succ j =>
          obtain ⟨y, hy, hyr⟩ := hrep j cs m s (by simpa using hj) hm
          refine ⟨y, ?_, hyr⟩
          have : j0 + (j + 1) = j0 + 1 + j := by omega
          rw [this]; exact hy

theorem buildSlice_goes (hG : TyOk P G.tys) (h : Sat C S a w F e) {o : Oper} {T el : TypeId} {n : Nat} {parts : Array (Nat × Operand)} {tl te : TI} (ho : o.op = .buildSlice T n parts) (ht : ty G.tys T = some tl) (hu : tl.u = .slice el) (hte : ty G.tys el = some te)
    {K : St → Prop} {Q : Exit → Act → World → Prop} (hd : S.okD o.dst = true) (hn : parts.size = n) (hpos : 0 < te.size) (hbig : n * te.size ≤ 16777216)
    (hs : rowsV S te.size S.heap 0 parts.toList fun H xs => Re xs fun xs => K ((S.withHeap (H ++ [.row el te.size xs])).put o.dst (.row H.length n))) : Goes P C o a w K Q := by
  have hde := (hG.get ht).slice hu
  have ge := hG.get hte
  simp only [Re_eq] at hs
  obtain ⟨H', xs, F', hK, L, M, l2, l3, l4, hfill⟩ := rowsV_sound parts.toList 0 h.mem h.regs hs
  have hxn : xs.length = n := by rw [l3, Array.length_toList, hn]
  obtain ⟨z, hz, hzc⟩ := ge.zeroValue w
  let zero : Array Value := if n * te.size = 0 then #[] else z.cells
  obtain ⟨us, hus, husz, _, hrep⟩ := hfill ((Array.range (n * te.size)).map (zero[· % zero.size]!)) (by simp [hn])
  have hsz2 : us.size = n * te.size := by rw [husz]; simp
  have hr : (execOp a.eval o).run P w = .ok (.value (.slice (some ⟨w.heap.size, 0, none⟩) n n)) (w.alloc (.cells us el)) := by
    have e2 : ¬ (n * te.size > 2 ^ 24) := by simp; omega
    simp only [execOp, ho, Instr.buildSlice, Sem.run_bind, run_underlying hde w, Result.andThen_ok, ge.sizeOf w, if_neg e2]
    have e3 : Instr.fill (fun i => some (i * te.size, te.size)) ((Array.range (n * te.size)).map (zero[· % zero.size]!)) (parts.map fun x => (x.1, a.eval x.2)).toList = some us := by
      rw [← hus]; simp
    by_cases h0 : n * te.size = 0
    · simp only [zero, if_pos h0] at e3
      simp only [if_pos h0, Sem.run_bind, Sem.run_pure, Result.andThen_ok]
      rw [e3]
      rfl
    · simp only [zero, if_neg h0] at e3
      simp only [if_neg h0, Sem.run_bind, Sem.run_pure, Result.andThen_ok, hz]
      rw [e3]
      rfl
  have hmax : n ≤ maxLen := by
    have hb : n * te.size ≤ 16777216 := hbig
    have : n ≤ n * te.size := Nat.le_mul_of_pos_right _ hpos
    simp only [maxLen]; omega
  have T' : Touch w (w.alloc (.cells us el)) (fun _ => False) := touch_alloc w _ _
  have LL := M.later (T'.mono (own' := Owner e H' 0) fun _ h => h.elim)
  have hOwn : OwnRow (w.alloc (.cells us el)) F' el te.size xs (.slice (some ⟨w.heap.size, 0, none⟩) n n) := by
    refine ⟨l4, .inr ⟨w.heap.size, n, us, by rw [hxn], fun hF => absurd (M.bound _ hF) (by omega), heap_alloc_new w _, hsz2, by omega, hmax, fun i cs j s hi hj => ?_⟩⟩
    obtain ⟨y, hy, hyr⟩ := hrep i cs j s hi hj
    rw [Nat.zero_add] at hy
    exact ⟨y, hy, hyr.mono LL (EnvLe.refl _)⟩
  have M' := M.pushRow T' hOwn (fun b hb => by simp only [Value.ownBlock, Option.some.injEq] at hb; omega)
  refine goes_value hr hK (h.next (L.trans LL) (EnvLe.pushRow e _ _) M' ?_ hd)
  have hlt : H'.length < (e.pushRow xs.length (.slice (some ⟨w.heap.size, 0, none⟩) n n)).len := by show H'.length < e.len + 1; rw [M.heap.len]; omega
  have h5 : (e.pushRow xs.length (.slice (some ⟨w.heap.size, 0, none⟩) n n)).rowv H'.length = .slice (some ⟨w.heap.size, 0, none⟩) n n := by simp only [Env.pushRow]; rw [← M.heap.len, upd_same]
  have h6 : n = (e.pushRow xs.length (.slice (some ⟨w.heap.size, 0, none⟩) n n)).rlen H'.length := by simp only [Env.pushRow]; rw [← M.heap.len, upd_same]; exact hxn.symm
  exact .row hlt h6 h5

end
end Go.Ab
