/- New rows; rows that grow. -/
import Derived.Test.YthhddlhgkejhbaaStAbsI
namespace Go.Ab
set_option linter.unusedVariables false
set_option linter.unusedSimpArgs false
section
variable {P : Program} {C : Ctx} {H H' : List Ob} {w w' : World} {F : Nat → Prop} {e e' : Env}

theorem Mem.pushRow (M : Mem C H w F e) {el sz : Nat} {xs : List (List AV)} {x : Value} (T : Touch w w' (fun _ => False)) (hr : OwnRow w' F el sz xs x) (hb : ∀ b, x.ownBlock = some b → w.heap.size ≤ b) :
    Mem C (H ++ [.row el sz xs]) w' F (e.pushRow xs.length x) := by
  have hlen := M.heap.len
  have h1 : (e.pushRow xs.length x).rlen H.length = xs.length := by simp only [Env.pushRow]; rw [← hlen]; exact upd_same _ _ _
  have h2 : (e.pushRow xs.length x).rowv H.length = x := by simp only [Env.pushRow]; rw [← hlen]; exact upd_same _ _ _
  refine M.change (o := H.length) (.row el sz xs) (by simp [Env.pushRow, hlen]) (by simp) (fun o' hn => getElem?_push_old _ hn) (by simp) (EnvLe.pushRow e _ _) (fun o' hn ho => ?_) (T.mono fun _ h => h.elim) ?_ ?_
  · constructor <;> exact upd_other _ _ _ (by omega)
  · exact ⟨h1, by rw [h2]; exact hr⟩
  · intro b hb'
    unfold Owner at hb'
    simp at hb'
    obtain ⟨n, c, hv⟩ := hb'
    rw [h2] at hv
    exact .inr (hb b (by rw [hv]; rfl))

def Env.setRow (e : Env) (o n : Nat) (x : Value) : Env := { e with rlen := upd e.rlen o n, rowv := upd e.rowv o x }

theorem Mem.growRow (M : Mem C H w F e) {o el sz : Nat} {xs ys : List (List AV)} {x : Value} (ho : H[o]? = some (.row el sz xs)) (T : Touch w w' (Owner e H o)) (hr : OwnRow w' F el sz ys x)
    (hb : ∀ b, x.ownBlock = some b → Owner e H o b ∨ w.heap.size ≤ b) (hl : xs.length < ys.length ∨ (xs.length = ys.length ∧ x = e.rowv o)) :
    Mem C (H.set o (.row el sz ys)) w' F (e.setRow o ys.length x) := by
  have hlt : o < H.length := (List.getElem?_eq_some_iff.1 ho).1
  obtain ⟨hrl, hown⟩ := M.heap.ob o _ ho
  have h1 : (e.setRow o ys.length x).rlen o = ys.length := upd_same _ _ _
  have h2 : (e.setRow o ys.length x).rowv o = x := upd_same _ _ _
  refine M.change (o := o) (.row el sz ys) (by simp [Env.setRow, M.heap.len]) (by simp) (fun o' hn => by rw [List.getElem?_set_ne (Ne.symm hn)]) (by simp [hlt]) ⟨Nat.le_refl _, fun _ _ => rfl, fun o' ho' => ?_⟩ (fun o' hn ho => ?_) T ?_ ?_
  · by_cases hn : o' = o
    · subst hn
      rw [h1, h2, hrl]
      rcases hl with hl | ⟨hl, hx⟩
      · exact .inl hl
      · exact .inr ⟨hl.symm, hx⟩
    · exact .inr ⟨upd_other _ _ _ hn, upd_other _ _ _ hn⟩
  · exact ⟨upd_other _ _ _ hn, upd_other _ _ _ hn⟩
  · exact ⟨h1, by rw [h2]; exact hr⟩
  · intro b hb'
    unfold Owner at hb'
    simp [hlt] at hb'
    obtain ⟨n, c, hv⟩ := hb'
    rw [h2] at hv
    exact hb b (by rw [hv]; rfl)

/-- What is appended: its cells, readable. -/
structure Src (w : World) (F : Nat → Prop) (sz : Nat) (ys : List (List AV)) (x : Value) : Prop where
  mk :: (out : ∃ A c news, x = .slice A ys.length c ∧ Flat w F sz ys news ∧ (∀ u ∈ news, u.oneCell' = true) ∧ (ys ≠ [] → ∃ a, A = some a ∧ ∀ (j : Nat) u, news[j]? = some u → w.cell? (a.add j) = some u))

theorem flat_ones {sz : Nat} {xs : List (List AV)} {vs : List Value} (h : Flat w F sz xs vs) : ∀ u ∈ vs, u.oneCell' = true := by
  intro u hu
  obtain ⟨q, hq, hqu⟩ := List.getElem_of_mem hu
  rw [h.1] at hq
  have hsz : 0 < sz := by
    rcases Nat.eq_zero_or_pos sz with h0 | h0
    · subst h0; simp at hq
    · exact h0
  have hi : q / sz < xs.length := by rw [Nat.div_lt_iff_lt_mul hsz]; exact hq
  have hj : q % sz < sz := Nat.mod_lt _ hsz
  obtain ⟨hl, h1⟩ := h.2.1 _ _ (List.getElem?_eq_getElem hi)
  obtain ⟨y, hy, hr⟩ := h.2.2 (q / sz) _ (q % sz) _ (List.getElem?_eq_getElem hi) (List.getElem?_eq_getElem (by rw [hl]; exact hj))
  have e1 : q / sz * sz + q % sz = q := Nat.div_add_mod' q sz
  rw [e1] at hy
  have : vs[q]? = some u := by rw [List.getElem?_eq_getElem (by rw [h.1]; exact hq), hqu]
  rw [this] at hy
  injection hy with hy
  subst hy
  exact one_value (List.all_eq_true.1 h1 _ (List.getElem_mem _)) hr

theorem src_sl {sz : Nat} {ys : List (List AV)} {x : Value} (h : Rep w F e (.sl ys) x) (hall : ∀ cs ∈ ys, cs.length = sz) : Src w F sz ys x := by
  cases h with
  | @sl _ _ A c sz' a vals hc hA hsz hone hcell hrep =>
    by_cases hne : ys = []
    · subst hne
      exact ⟨⟨A, c, [], rfl, ⟨by simp, by simp, by simp⟩, by simp, fun h => absurd rfl h⟩⟩
    · obtain ⟨hA1, hA2, hA3⟩ := hA hne
      obtain ⟨y0, r0, rfl⟩ := List.exists_cons_of_ne_nil hne
      have hs' : sz' = sz := by rw [← hsz 0 y0 rfl]; exact hall y0 (List.mem_cons_self ..)
      subst hs'
      rcases Nat.eq_zero_or_pos sz' with h0 | hpos
      · subst h0
        exact ⟨⟨A, c, [], rfl, ⟨by simp, fun i cs hi => ⟨hsz i cs hi, hone i cs hi⟩, fun i cs j s hi hj => by have := hsz i cs hi; have := (List.getElem?_eq_some_iff.1 hj).1; omega⟩, by simp, fun _ => ⟨a, hA1, fun j u hu => by simp at hu⟩⟩⟩
      · generalize hys : y0 :: r0 = ys at *
        have hget : ∀ (q : Nat), q < ys.length * sz' → ((List.range (ys.length * sz')).map fun q => vals (q / sz') (q % sz'))[q]? = some (vals (q / sz') (q % sz')) := by
          intro q hq; simp [hq]
        have hfl : Flat w F sz' ys ((List.range (ys.length * sz')).map fun q => vals (q / sz') (q % sz')) := by
          refine ⟨by simp, fun i cs hi => ⟨hsz i cs hi, hone i cs hi⟩, fun i cs j s hi hj => ⟨vals i j, ?_, hrep i cs j s hi hj⟩⟩
          have hi' := (List.getElem?_eq_some_iff.1 hi).1
          have hj' : j < sz' := by rw [← hsz i cs hi]; exact (List.getElem?_eq_some_iff.1 hj).1
          rw [hget _ (idx_lt hi' hj')]
          have e1 : (i * sz' + j) / sz' = i := by rw [Nat.mul_comm, Nat.mul_add_div hpos, Nat.div_eq_of_lt hj']; omega
          have e2 : (i * sz' + j) % sz' = j := by rw [Nat.mul_comm, Nat.mul_add_mod, Nat.mod_eq_of_lt hj']
          rw [e1, e2]
        refine ⟨⟨A, c, _, rfl, hfl, flat_ones hfl, fun _ => ⟨a, hA1, fun q u hu => ?_⟩⟩⟩
        have hq : q < ys.length * sz' := by have := (List.getElem?_eq_some_iff.1 hu).1; simpa using this
        rw [hget q hq] at hu
        injection hu with hu
        subst hu
        have hi : q / sz' < ys.length := by rw [Nat.div_lt_iff_lt_mul hpos]; exact hq
        have hj : q % sz' < (ys[q / sz']).length := by rw [hsz _ _ (List.getElem?_eq_getElem hi)]; exact Nat.mod_lt _ hpos
        have := hcell _ _ _ _ (List.getElem?_eq_getElem hi) (List.getElem?_eq_getElem hj)
        rw [addr_add hA3]
        rw [Nat.add_assoc, Nat.div_add_mod'] at this
        exact this

theorem src_row {el sz : Nat} {ys : List (List AV)} {x : Value} (h : OwnRow w F el sz ys x) : Src w F sz ys x := by
  obtain ⟨hsz, h⟩ := h
  rcases h with ⟨rfl, rfl⟩ | ⟨b, c, vs, rfl, hF, hb, hvs, hle, hmx, hrep⟩
  · exact ⟨⟨none, 0, [], rfl, ⟨by simp, by simp, by simp⟩, by simp, fun h => absurd rfl h⟩⟩
  · have hlen : ys.length * sz ≤ vs.size := by rw [hvs]; exact Nat.mul_le_mul_right _ hle
    have hfl : Flat w F sz ys (vs.toList.take (ys.length * sz)) := by
      refine ⟨by simp; omega, hsz, fun i cs j s hi hj => ?_⟩
      obtain ⟨y, hy, hr⟩ := hrep i cs j s hi hj
      refine ⟨y, ?_, hr⟩
      rw [List.getElem?_take_of_lt (idx_lt (List.getElem?_eq_some_iff.1 hi).1 (by rw [← (hsz i cs hi).1]; exact (List.getElem?_eq_some_iff.1 hj).1))]
      simpa using hy
    refine ⟨⟨_, c, _, rfl, hfl, flat_ones hfl, fun _ => ⟨_, rfl, fun j u hu => ?_⟩⟩⟩
    rw [addr_add rfl, Nat.zero_add, cell_of_row w b j vs el _ hb]
    have hj : j < ys.length * sz := by
      have := (List.getElem?_eq_some_iff.1 hu).1
      rw [List.length_take] at this
      omega
    rw [List.getElem?_take_of_lt hj] at hu
    simpa using hu

theorem run_append_zero {t el : TypeId} {te : TI} (ht : P.underlying t = some (.slice el)) (ge : TGood P el te) (ty : TypeId) (B A : Option Addr) (n c c' : Nat) (h : n ≤ c) (w : World) :
    (Builtin.append_ #[t, t] ty #[.slice B n c, .slice A 0 c']).run P w = .ok (.slice B n c) w := by
  cases B <;> cases A <;> simp [Builtin.append_, run_underlying ht, ge.sizeOf w, Builtin.lenOf, Builtin.firstCells, h, loadCells, loadCellsFrom, storeCells]

/-- append to a row that is ours. -/
theorem append_sound {t el : TypeId} {te : TI} (ht : P.underlying t = some (.slice el)) (ge : TGood P el te) (hz : 0 < te.size) (ty : TypeId) {xs ys : List (List AV)} {v x : Value} (hrow : OwnRow w F el te.size xs v) (hsrc : Src w F te.size ys x)
    (hb : (xs.length + ys.length) * te.bytes ≤ 140737488355328) (hb0 : 0 < te.bytes) (hFb : ∀ b, F b → b < w.heap.size) :
    ∃ v' w', (Builtin.append_ #[t, t] ty #[v, x]).run P w = .ok v' w' ∧ OwnRow w' F el te.size (xs ++ ys) v' ∧ w.grownBy w' v.ownBlock ∧ (v'.ownBlock = v.ownBlock ∨ v'.ownBlock = some w.heap.size) ∧ (ys = [] → v' = v) := by
  obtain ⟨A, c, news, rfl, hfl, hone, hcell⟩ := hsrc.out
  by_cases hy : ys = []
  · subst hy
    have hv : ∃ B n cc, v = .slice B n cc ∧ n ≤ cc := by
      rcases hrow.2 with ⟨_, hv⟩ | ⟨b, cc, vs, hv, _, _, _, hle, _⟩
      · exact ⟨_, _, _, hv, Nat.le_refl _⟩
      · exact ⟨_, _, _, hv, hle⟩
    obtain ⟨B, n, cc, rfl, hle⟩ := hv
    exact ⟨_, w, run_append_zero ht ge ty B A n cc c hle w, by simpa using hrow, World.grownBy.refl w _, .inl rfl, fun _ => rfl⟩
  · obtain ⟨a, rfl, hc⟩ := hcell hy
    obtain ⟨vs, hxf, hown⟩ := hrow.owns
    obtain ⟨i, hi, hs, hby, z, hzz, hzc⟩ := ge.info
    have hlen : xs.length + ys.length ≤ 140737488355328 := Nat.le_trans (Nat.le_mul_of_pos_right _ hb0) hb
    obtain ⟨v', w', hr, h1, h2, _, h4⟩ := run_append_own_at (P := P) w 0 t ty el i z te.size te.bytes ht hi hzz hs hby (by rw [← Array.length_toList, hzc]; exact ge.zlen) hz v xs.length vs hown a ys.length c news hfl.1 hc hone (by simp only [maxLen]; omega) hb (Nat.zero_le _)
    refine ⟨v', w', hr, ?_, h2, h4, fun h => absurd h hy⟩
    have L : Later w F w' F := ⟨fun _ h => h, fun b hbF => h2.block b (hFb b hbF) (fun hk => ?_)⟩
    · refine OwnRow.of_owns ((hxf.mono L).append (hfl.mono L)) (by simpa using h1) (fun b hb' hF => ?_)
      rcases h4 with h4 | h4
      · rw [h4] at hb'
        rcases hrow.2 with ⟨_, hv⟩ | ⟨b', cc, vs', hv, hnF, _⟩
        · rw [hv] at hb'; cases hb'
        · rw [hv] at hb'
          simp only [Value.ownBlock, Option.some.injEq] at hb'
          subst hb'; exact hnF hF
      · rw [h4] at hb'
        injection hb' with hb'
        subst hb'
        exact absurd (hFb _ hF) (by omega)
    · rcases hrow.2 with ⟨_, hv⟩ | ⟨b', cc, vs', hv, hnF, _⟩
      · rw [hv] at hk; cases hk
      · rw [hv] at hk
        simp only [Value.ownBlock, Option.some.injEq] at hk
        subst hk; exact hnF hbF

end
end Go.Ab
