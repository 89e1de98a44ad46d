/- Calls of maps.Keys, slices.Sorted and slices.Sort, by the kit's contracts, over what is ours. -/
import Derived.Test.YtdoceelfokmhfaaStMp
import Derived.Sort.OwnSortedInts
import Derived.Shelf.SlIterI.Sorted
namespace Go.Ab
open Go.Maps Go.ChangeMaps Go.RowKit Go.Sort Go.Proofs
set_option linter.unusedVariables false
set_option linter.unusedSimpArgs false

section
variable {P : Program} {C : Ctx} {H : List Ob} {w w' : World} {F : Nat → Prop} {en : Env} {K : AV → List Ob → Prop}

abbrev intAV (x : Int) : List AV := [.v (.int .i64 x)]
theorem arg_one {s : AV} {vs : Array Value} (h : RepCells w F en [s] vs) : ∃ x, vs = #[x] ∧ Rep w F en s x := by
  obtain ⟨h1, h2⟩ := h
  have h3 := h2 0 s rfl
  refine ⟨vs.getD 0 undef, ?_, h3⟩
  apply Array.ext
  · simpa using h1
  · intro i hi1 hi2
    simp at hi2
    subst hi2
    rw [Array.getD_eq_getD_getElem?, Array.getElem?_eq_getElem hi1]
    rfl
theorem Below.touch {w w' : World} (h : Below w.heap.size w w') : Touch w w' (fun _ => False) := ⟨h.os, h.tape, h.output, h.size, fun b hb _ => h.block b hb⟩
theorem own_ints {base el k : Nat} {v : Value} {zs : List Int} (h : w.ownsRow base el 1 v k (zs.map (Value.int .i64))) (hF : ∀ b, F b → b < base) : OwnRow w F el 1 (zs.map intAV) v ∧ k = zs.length := by
  have hk : k = zs.length := by have := h.1; simp at this; omega
  refine ⟨⟨fun i cs hi => ?_, ?_⟩, hk⟩
  · rw [List.getElem?_map] at hi
    cases hg : zs[i]? with
    | none => rw [hg] at hi; cases hi
    | some z => rw [hg] at hi; injection hi with hi; subst hi; exact ⟨rfl, rfl⟩
  · subst hk
    rcases h.2 with ⟨rfl, h0⟩ | ⟨g, cap, cur, rfl, hg, hb, hcap, hmax, hsz, hcur⟩
    · exact .inl ⟨by simpa using List.length_eq_zero_iff.1 h0, rfl⟩
    · refine .inr ⟨g, cap, cur, by simp, fun hf => by have := hF g hf; omega, hb, by simpa using hsz, by simpa using hcap, hmax, fun i cs j s hi hj => ?_⟩
      rw [List.getElem?_map] at hi
      cases hz : zs[i]? with
      | none => rw [hz] at hi; cases hi
      | some z =>
        rw [hz] at hi; injection hi with hi; subst hi
        have hj0 : j = 0 := by have := (List.getElem?_eq_some_iff.1 hj).1; simpa using this
        subst hj0
        simp at hj; subst hj
        refine ⟨.int .i64 z, ?_, .v⟩
        have hlt : i < zs.length := (List.getElem?_eq_some_iff.1 hz).1
        have e1 : (cur.toList.take (zs.length * 1))[i]? = some (.int .i64 z) := by rw [hcur, List.getElem?_map, hz]; rfl
        rw [List.getElem?_take_of_lt (by omega)] at e1
        simpa using e1

/-- maps.Keys of what is ours. -/
theorem callP_keys {gk gi tm o : Nat} (hc : Callable P gk) (hK : ∀ mb W, CallsIn Fence.wide 5 P gk #[.map mb] W fun e w' => e = .returned (.func (.func gi) #[] #[.pointer (some ⟨W.heap.size, 0, none⟩)]) ∧ w' = W.alloc (.cells #[.map mb] tm))
    (hk : K (.fn (.func gi) [] [.ptr H.length 0]) (H ++ [.var tm [.mp o]])) : CallP P gk H [.mp o] K := by
  refine ⟨hc, fun C w F en vs M hr => ?_⟩
  obtain ⟨x, rfl, hx⟩ := arg_one hr
  obtain rfl := mp_inv hx
  refine ((callsIn_wide (n := 5)).1 (hK _ w)).mono ?_
  rintro e w' ⟨rfl, rfl⟩
  have hb : (en.pushVar w.heap.size).blk H.length = w.heap.size := by simp only [Env.pushVar]; rw [← M.heap.len]; exact upd_same _ _ _
  have hlt : H.length < (en.pushVar w.heap.size).len := by show H.length < en.len + 1; rw [M.heap.len]; omega
  have hp := Rep.ptr (w := w.alloc (.cells #[.map (some (en.blk o))] tm)) (F := F) (off := 0) hlt
  rw [hb] at hp
  refine ⟨_, _, _, F, en.pushVar w.heap.size, rfl, hk, M.pushVar hr, .fn rfl rfl (fun j s hj => by simp at hj) (fun j s hj => ?_), EnvLe.pushVar en _, M.later (touch_alloc w _ (Owner en H H.length))⟩
  cases j with
  | zero => simp at hj; subst hj; exact hp
  | succ j => simp at hj
/-- slices.Sorted of the keys of what is ours. -/
theorem callP_sorted {gs gi ov oe T el : Nat} {k ev : TypeId} {ks : List Int} (hc : Callable P gs)
    (hS : ∀ (lb : Array Value) (S : List Int → Prop) (N : Nat) (_ : N ≤ maxLen) (_ : N * 8 ≤ 140737488355328) (w : World) (_ : SeqGives Fence.wide 2 P gi lb encZ S N w), CallsIn Fence.wide 5 P gs #[.func (.func gi) #[] lb] w fun e w' => ∃ (v : Value) (ss : List Int), e = .returned v ∧ S ss ∧
      w'.ownsRow w.heap.size el 1 v ss.length ((ss.mergeSort (fun x y => decide (x ≤ y))).map encZ) ∧ (v = .slice none 0 0 ↔ ss = []) ∧ Below w.heap.size w w')
    (hq : ∀ (Bm b nn : Nat) (D0 : DataW Unit) (w : World) (_ : Bm < w.heap.size) (_ : w.cell? ⟨Bm, 0, none⟩ = some (.map (some b))) (_ : w.ownsMap P k (plainElem P ev) b nn D0), SeqGives Fence.wide 2 P gi #[.pointer (some ⟨Bm, 0, none⟩)] encZ (fun ss => ss.Perm (intKeys D0)) (Maps.size D0) w)
    (hki : P.underlying k = some (.int .i64)) (h1 : H[ov]? = some (.var T [.mp oe])) (h2 : H[oe]? = some (.ext (mapI P k ev ks))) (hl : ks.length < 1073741824)
    (hK : K (.row H.length (ks.mergeSort leI).length) (H ++ [.row el 1 ((ks.mergeSort leI).map intAV)])) : CallP P gs H [.fn (.func gi) [] [.ptr ov 0]] K := by
  refine ⟨hc, fun C w F en vs M hr => ?_⟩
  obtain ⟨x, rfl, hx⟩ := arg_one hr
  have hxv : x = .func (.func gi) #[] #[.pointer (some ⟨en.blk ov, 0, none⟩)] := by
    cases hx with
    | @fn _ _ _ _ fs cs s1 s2 r1 r2 =>
      have e1 : fs = #[] := Array.size_eq_zero_iff.1 s1
      have h3 := r2 0 (.ptr ov 0) rfl
      have e2 : cs = #[cs.getD 0 undef] := by
        apply Array.ext
        · simpa using s2
        · intro i hi1 hi2
          simp at hi2
          subst hi2
          rw [Array.getD_eq_getD_getElem?]
          simp [Array.getElem?_eq_getElem hi1]
      rw [e1, e2, h3.ptr_inv.2]
  subst hxv
  obtain ⟨hF1, us, hb1, hs1, hr1⟩ := M.heap.ob ov _ h1
  obtain ⟨hF2, ob, hb2, hmap⟩ := M.heap.ob oe _ h2
  obtain ⟨D, hown, d1, d2⟩ := hmap.own hb2 hki
  have hcell : w.cell? ⟨en.blk ov, 0, none⟩ = some (.map (some (en.blk oe))) := by
    have := mp_inv (hr1 0 _ rfl)
    simp only [World.cell?, hb1]
    have hsz : 0 < us.size := by rw [hs1]; simp
    rw [Array.getD_eq_getD_getElem?, Array.getElem?_eq_getElem hsz] at this
    simp at this ⊢
    rw [Array.getElem?_eq_getElem hsz, this]
  have hperm : ks.Perm (intKeys D) := CollectedI.perm (left := fun _ => false) (ss := ks) ⟨hmap.1, fun x => by rw [d1 x]; simp⟩ hown (int_keyed hki) hki (fun _ => rfl)
  have hsize : Maps.size D = ks.length := by
    have h3 := hperm.length_eq
    obtain ⟨es, rfl⟩ := isMap_own hown
    simp [intKeys] at h3
    simp [Maps.size]; omega
  have hseq := hq (en.blk ov) (en.blk oe) ks.length D w (Array.getElem?_eq_some_iff.1 hb1).1 hcell hown
  refine ((callsIn_wide (n := 5)).1 (hS _ _ _ (by unfold maxLen; omega) (by omega) w hseq)).mono ?_
  rintro e w' ⟨v, ss, rfl, hss, hrow, hnil, hbel⟩
  have hsort : ss.mergeSort leI = ks.mergeSort leI := mergeSort_of_perm_i (hss.trans hperm.symm)
  have hrow' : w'.ownsRow w.heap.size el 1 v ss.length ((ks.mergeSort leI).map (Value.int .i64)) := by rw [← hsort]; exact hrow
  obtain ⟨hO, hlen⟩ := own_ints (F := F) hrow' M.bound
  have T' := Below.touch hbel
  have M' := M.calm T' (fun b hb => hb) (fun b hb => .inl hb) (fun b hb => Nat.lt_of_lt_of_le (M.bound b hb) T'.size)
  have hblk : ∀ b, v.ownBlock = some b → w.heap.size ≤ b := fun b hb => by
    rcases hrow.2 with ⟨rfl, _⟩ | ⟨g, cap, cur, rfl, hg, _⟩
    · cases hb
    · simp only [Value.ownBlock, Option.some.injEq] at hb; omega
  obtain ⟨M2, hx2⟩ := M'.adopt hO (fun b hb ho => by have := ho.choose_spec.lt M.heap; have := hblk b hb; omega) (fun b hb => .inl (Nat.le_trans M.mod.size (hblk b hb)))
  rw [List.length_map] at M2 hx2
  exact ⟨_, v, _, F, _, rfl, hK, M2, hx2, EnvLe.pushRow en _ _, M.later (T'.mono (own' := Owner en H 0) fun _ h => h.elim)⟩
/-- slices.Sort of a row of ours. -/
theorem callP_sort {gq o el : Nat} {zs : List Int} {n : Nat} (hc : Callable P gq)
    (hS : (∀ (blk off cap : Nat) (zs : List Int) (w : World), Holds (Value.int .i64) w blk off zs.toArray → blk < w.heap.size → zs.length < 4611686018427387904 →
      Calls P gq #[.slice (some ⟨blk, off, none⟩) zs.length cap] w fun e w' => e = .returned (.tuple #[]) ∧ ∃ n os, w' = grow (putRow (Value.int .i64) (Sort.ahead w n) blk off (zs.mergeSort fun x y => decide (x ≤ y)).toArray) os) ∧
      ∀ (p : Option Addr) (cap : Nat) (w : World), Calls P gq #[.slice p 0 cap] w fun e w' => e = .returned (.tuple #[]) ∧ w' = w)
    (ho : H[o]? = some (.row el 1 (zs.map intAV))) (hn : n = zs.length) (hl : zs.length < 1073741824)
    (hK : K (.tup []) (H.set o (.row el 1 ((zs.mergeSort leI).map intAV)))) : CallP P gq H [.row o n] K := by
  subst hn
  refine ⟨hc, fun C w F en vs M hr => ?_⟩
  obtain ⟨x, rfl, hx⟩ := arg_one hr
  have hlt : o < H.length := (List.getElem?_eq_some_iff.1 ho).1
  obtain ⟨hrl, hown⟩ := M.heap.ob o _ ho
  have hxv : x = en.rowv o := by
    cases hx with
    | row hl hn hv => exact hv.symm
    | rowold hl hn => rw [hrl] at hn; simp at hn
  subst hxv
  obtain ⟨hcs, hown⟩ := hown
  rcases hown with ⟨h0, hv⟩ | ⟨b, c, us, hv, hF, hb, hsz, hle, hmx, hrep⟩
  · have hz : zs = [] := by simpa using h0
    subst hz
    rw [hv]
    refine (hS.2 none 0 w).mono ?_
    rintro e w' ⟨rfl, rfl⟩
    have hset : H.set o (.row el 1 ((([] : List Int).mergeSort leI).map intAV)) = H := by
      apply List.ext_getElem?
      intro i
      rw [List.getElem?_set]
      split
      · rename_i hi; subst hi
        rw [ho]; simp
      · rfl
    rw [hset] at hK
    exact ⟨_, _, H, F, en, rfl, hK, M, .tup rfl (fun j s hj => by simp at hj), EnvLe.refl en, Later.refl _ F⟩
  · rw [List.length_map] at hv hle
    rw [hv]
    have htake : us.toList.take zs.length = zs.map (Value.int .i64) := by
      apply List.ext_getElem?
      intro j
      by_cases hj : j < zs.length
      · rw [List.getElem?_take_of_lt hj]
        obtain ⟨y, hy, hyr⟩ := hrep j (intAV zs[j]) 0 (.v (.int .i64 zs[j])) (by rw [List.getElem?_map, List.getElem?_eq_getElem hj]; rfl) rfl
        rw [Nat.mul_one, Nat.add_zero] at hy
        have hyv := hyr.v_inv
        subst hyv
        simp [hy, hj]
      · rw [List.getElem?_take_eq_none (by omega), List.getElem?_eq_none (by simp; omega)]
    have hsort : (zs.mergeSort leI).length = zs.length := List.length_mergeSort ..
    refine (hS.1 b 0 c zs w (holds_of_blockI hb htake) (Array.getElem?_eq_some_iff.1 hb).1 (by omega)).mono ?_
    rintro e w' ⟨rfl, m, os, rfl⟩
    have hg := grownBy_sortedI (w := w) (g := b) (n := m) (os := os) (zs.mergeSort leI).toArray
    have hOw := ownsRow_sortedI (w := w) (base := b) (g := b) (cap := c) (n := m) (os := os) hsort (Nat.le_refl _) hb hle hmx (by simpa using hsz)
    have hownb : Owner en H o b := by unfold Owner; rw [ho]; exact ⟨_, _, hv⟩
    have T' : Touch w (grow (putRow (Value.int .i64) (Sort.ahead w m) b 0 (zs.mergeSort leI).toArray) os) (Owner en H o) := ⟨hg.os, hg.tape, hg.output, hg.size, fun b' hb' hn' => hg.block b' hb' (fun e => hn' (by injection e with e; subst e; exact hownb))⟩
    have hO : OwnRow (grow (putRow (Value.int .i64) (Sort.ahead w m) b 0 (zs.mergeSort leI).toArray) os) F el 1 ((zs.mergeSort leI).map intAV) (en.rowv o) := by
      refine ⟨fun i cs hi => ?_, .inr ⟨b, c, _, by rw [List.length_map, hsort]; exact hv, hF, heap_sortedI _ hb, by simp [Go.Sort.putCells, hsz], by rw [List.length_map, hsort]; exact hle, hmx, fun i cs j s hi hj => ?_⟩⟩
      · rw [List.getElem?_map] at hi
        cases hgz : (zs.mergeSort leI)[i]? with
        | none => rw [hgz] at hi; cases hi
        | some z => rw [hgz] at hi; injection hi with hi; subst hi; exact ⟨rfl, rfl⟩
      · rw [List.getElem?_map] at hi
        cases hgz : (zs.mergeSort leI)[i]? with
        | none => rw [hgz] at hi; cases hi
        | some z =>
          rw [hgz] at hi; injection hi with hi; subst hi
          have hj0 : j = 0 := by have := (List.getElem?_eq_some_iff.1 hj).1; simpa using this
          subst hj0
          simp at hj; subst hj
          have hlt2 : i < (zs.mergeSort leI).length := (List.getElem?_eq_some_iff.1 hgz).1
          have e1 := take_putCellsI us (zs.mergeSort leI) (by omega)
          have e2 : ((Go.Sort.putCells (Value.int .i64) 0 (zs.mergeSort leI).toArray us).toList.take (zs.mergeSort leI).length)[i]? = some (.int .i64 z) := by rw [e1, List.getElem?_map, hgz]; rfl
          rw [List.getElem?_take_of_lt hlt2] at e2
          exact ⟨.int .i64 z, by simpa using e2, .v⟩
    have M' := M.change (e' := en) (H' := H.set o (.row el 1 ((zs.mergeSort leI).map intAV))) (o := o) (.row el 1 ((zs.mergeSort leI).map intAV)) (by simp [M.heap.len]) (by simp) (fun o' hn' => by rw [List.getElem?_set_ne (Ne.symm hn')]) (by simp [hlt]) (EnvLe.refl en) (fun _ _ _ => ⟨rfl, rfl⟩) T' ⟨by rw [List.length_map, hsort]; simpa using hrl, hO⟩ (fun b' hb' => .inl (by
      unfold Owner at hb' ⊢
      simp [hlt] at hb'
      rw [ho]
      exact hb'))
    exact ⟨_, _, _, F, en, rfl, hK, M', .tup rfl (fun j s hj => by simp at hj), EnvLe.refl en, M.later T'⟩
end
end Go.Ab
