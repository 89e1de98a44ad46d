/- strings.Builder, over what is ours: its variable, and the row of its bytes. -/
import Derived.Test.YtgmejofagmfcfaaGreatDoorStFwD
import Derived.WalkKit
import Derived.RowKitTokens
import Derived.Lib.Strings
import Derived.Lib.Slices
import Derived.Lib.Walk
import Derived.Lib.Builder
import Derived.Lib.AppendStr
import Derived.Lib.UnsafeStr
import Derived.Laws.Externs
import Derived.Lib.SliceRun
import Derived.Laws.IdiomCopy
import Derived.Laws.CopyRow
import Derived.Lib.AppendZerosOnto
import Derived.Lib.Overlaps
import Derived.Deep.RegionLaw
namespace Go.Ab
open Go.RowKit
set_option linter.unusedVariables false
set_option linter.unusedSimpArgs false
section
variable {P : Program} {w : World}
open Lib
/-- append(v, s...) of a text, and where the row lies then. -/
theorem run_append_str (t u ty e : TypeId) (i : TypeInfo) (ht : P.underlying t = some (.slice e)) (hu : P.underlying u = some .string) (hi : P.info? e = some i) (hz : i.zero = some (.int .u8 0))
    (hsize : i.size = 1) (hby : i.bytes = 1) (v : Value) (n : Nat) (xs : List Value) (hown : w.ownsRow 0 e 1 v n xs) (s : ByteArray) (hbytes : n + s.size ≤ 140737488355328) :
    ∃ v' w', (Builtin.append_ #[t, u] ty #[v, .string s]).run P w = .ok v' w' ∧ w'.ownsRow 0 e 1 v' (n + s.size) (xs ++ strCells s) ∧ w.grownBy w' v.ownBlock ∧ (v'.ownBlock = v.ownBlock ∨ v'.ownBlock = some w.heap.size) := by
  have h63 : n + s.size ≤ maxLen := by simp only [maxLen]; omega
  have hsmall : n + s.size ≤ 9223372036854775807 := by omega
  have hxl : xs.length = n := by simpa using hown.1
  have hlen : (xs ++ strCells s).length = (n + s.size) * 1 := by rw [List.length_append, hxl, strCells_length, Nat.mul_one]
  have grown : ∀ (old : Nat), old < n + s.size → ∀ (row : Option Nat),
      (w.drew.alloc (.cells (xs.toArray ++ (strCells s).toArray ++ Builtin.zeroCells (Value.int .u8 0).cells (grownCap w (n + s.size) old e - (n + s.size))) e)).ownsRow 0 e 1
        (.slice (some ⟨w.heap.size, 0, none⟩) (n + s.size) (grownCap w (n + s.size) old e)) (n + s.size) (xs ++ strCells s) ∧
      w.grownBy (w.drew.alloc (.cells (xs.toArray ++ (strCells s).toArray ++ Builtin.zeroCells (Value.int .u8 0).cells (grownCap w (n + s.size) old e - (n + s.size))) e)) row := by
    intro old ho row
    have hge := grownCap_ge w (n + s.size) old e
    have hcm : grownCap w (n + s.size) old e ≤ maxLen := grownCap_le_maxLen w (n + s.size) old e h63
    refine ⟨⟨hlen, .inr ⟨w.heap.size, _, _, rfl, Nat.zero_le _, heap_alloc_new w.drew _, hge, hcm, ?_, ?_⟩⟩, ⟨rfl, rfl, rfl, by simp, fun k hk _ => Lib.alloc_old w.drew _ k hk⟩⟩
    · have hz1 : (Value.int IntKind.u8 0).cells.size = 1 := rfl
      simp only [Array.size_append, List.size_toArray, size_zeroCells, hz1, hxl, strCells_length]
      omega
    · simp only [Array.toList_append, List.append_assoc]
      rw [← List.append_assoc, ← hlen]
      exact List.take_left
  rcases hown.2 with ⟨rfl, rfl⟩ | ⟨g, cap, cur, rfl, hbg, hg, hnc, hcm, hcs, htake⟩
  · have hx : xs = [] := List.eq_nil_of_length_eq_zero hxl
    subst hx
    by_cases hm : s.size = 0
    · have hn : strCells s = [] := List.eq_nil_of_length_eq_zero (by rw [strCells_length]; exact hm)
      refine ⟨.slice none 0 0, w, ?_, by rw [hm, hn]; exact World.ownsRow_nil w 0 e 1, ⟨rfl, rfl, rfl, Nat.le_refl _, fun _ _ _ => rfl⟩, .inl rfl⟩
      have hf := run_firstCells_string (P := P) w 1 s
      rw [hm] at hf
      simp [Builtin.append_, run_underlying ht, run_underlying hu, sizeOf, typeInfo, hi, hsize, Builtin.lenOf, hm, hf]
    · have hr := run_append_nil_string (P := P) w t u ty e i (.int .u8 0) ht hu hi hz s (by omega) (by omega) (by rw [hby]; omega)
      have hgr := grown 0 (by omega) (Value.ownBlock (.slice none 0 0))
      simp only [Nat.zero_add, List.nil_append, Array.empty_append] at hgr ⊢
      have e1 : (s.data.map fun b => Value.int .u8 b.toNat) = (strCells s).toArray := by
        apply Array.ext'
        simp [strCells]
      rw [e1] at hr
      exact ⟨_, _, hr, hgr.1, hgr.2, .inr rfl⟩
  · by_cases hroom : n + s.size ≤ cap
    · have hr := run_append_room_string (P := P) w t u ty e i ht hu hi hsize g n cap cur hg s hroom (by omega)
      refine ⟨_, _, hr, ⟨hlen, .inr ⟨g, cap, _, rfl, hbg, setRow_heap w g cur _ e _ hg, hroom, hcm, ?_, ?_⟩⟩, ⟨rfl, rfl, rfl, by simp, fun k _ hk => setRow_other w g k _ (fun e => hk (by simp [Value.ownBlock, e]))⟩, .inl rfl⟩
      · simp only [List.size_toArray, List.length_append, List.length_take, List.length_drop, Array.length_toList, strCells_length]
        omega
      · have ht' : cur.toList.take n = xs := by simpa using htake
        rw [ht', ← hlen]
        exact List.take_left
    · have holds : ∀ j u, xs[j]? = some u → w.cell? ((⟨g, 0, none⟩ : Addr).add j) = some u := hown.cells (g := g) rfl
      have hr := run_append_grow_string (P := P) w t u ty e i (.int .u8 0) ht hu hi hz ⟨g, 0, none⟩ n cap xs (by rw [hsize]; simpa using hxl) holds s (by omega) (by omega) (by rw [hby]; exact growslice_fits (by omega) (by omega))
      have hgr := grown cap (by omega) (Value.ownBlock (.slice (some ⟨g, 0, none⟩) n cap))
      exact ⟨_, _, hr, hgr.1, hgr.2, .inr rfl⟩
theorem wpList_append_str {ops : Array Oper} {rest : List Oper} {o : Oper} {a : Act} {Q : Exit → Act → World → Prop} (hgd : o.guard = none) (sl x : Operand) (t u : TypeId)
    (ho : o.op = .call { callee := .builtin .append, args := #[sl, x], argTypes := #[t, u] })
    (e : TypeId) (i : TypeInfo) (ht : P.underlying t = some (.slice e)) (hu : P.underlying u = some .string) (hi : P.info? e = some i) (hz : i.zero = some (.int .u8 0)) (hsize : i.size = 1) (hby : i.bytes = 1)
    (v : Value) (n : Nat) (xs : List Value) (hs : a.eval sl = v) (hown : w.ownsRow 0 e 1 v n xs) (s : ByteArray) (hx : a.eval x = .string s) (hbytes : n + s.size ≤ 140737488355328)
    (h : ∀ v' w', w'.ownsRow 0 e 1 v' (n + s.size) (xs ++ strCells s) → w.grownBy w' v.ownBlock → (v'.ownBlock = v.ownBlock ∨ v'.ownBlock = some w.heap.size) → wpList P ops Q rest (a.put o.dst v') w') : wpList P ops Q (o :: rest) a w := by
  refine wpList_plain hgd fun K hK => ?_
  obtain ⟨v', w', hr, h2, h3, h4⟩ := run_append_str (P := P) (w := w) t u o.type e i ht hu hi hz hsize hby v n xs hown s hbytes
  unfold Oper.wp execOp
  simp only [ho, resolve, invoke, builtin, Sem.run_bind, Sem.run_pure, Result.andThen_ok, List.map_toArray, List.map_cons, List.map_nil, hs, hx, hr]
  exact hK _ _ (h v' w' h2 h3 h4)
end
section
variable {P : Program}
def toI (c : UInt8) : Int := (c.toNat : Int)
abbrev byteAV (n : Int) : List AV := [.v (.int .u8 n)]
theorem flat_bytes {w : World} {F : Nat → Prop} {l : List Int} {vs : List Value} (h : Flat w F 1 (l.map byteAV) vs) : vs = l.map (Value.int .u8) := by
  have hl : vs.length = l.length := by have := h.1; simpa using this
  apply List.ext_getElem? 
  intro i
  rw [List.getElem?_map]
  by_cases hi : i < l.length
  · obtain ⟨y, hy, hr⟩ := h.2.2 i (byteAV l[i]) 0 (.v (.int .u8 l[i])) (by rw [List.getElem?_map, List.getElem?_eq_getElem hi]; rfl) rfl
    have hy' : vs[i]? = some y := by simpa using hy
    rw [hy', hr.v_inv, List.getElem?_eq_getElem hi]; rfl
  · rw [List.getElem?_eq_none (by omega), List.getElem?_eq_none (by omega)]; rfl
theorem bytes_flat (w : World) (F : Nat → Prop) (l : List Int) : Flat w F 1 (l.map byteAV) (l.map (Value.int .u8)) := by
  refine ⟨by simp, fun i cs hi => ?_, fun i cs j s hi hj => ?_⟩
  · rw [List.getElem?_map] at hi
    cases hg : l[i]? with
    | none => rw [hg] at hi; cases hi
    | some z => rw [hg] at hi; injection hi with hi; subst hi; exact ⟨rfl, rfl⟩
  · rw [List.getElem?_map] at hi
    cases hg : l[i]? with
    | none => rw [hg] at hi; cases hi
    | some z =>
      rw [hg] at hi; injection hi with hi; subst hi
      have hj0 : j = 0 := by have := (List.getElem?_eq_some_iff.1 hj).1; simpa using this
      subst hj0
      simp at hj; subst hj
      exact ⟨.int .u8 z, by simp [hg], .v⟩
theorem strCells_bs (s : Str) : Lib.strCells (bs s) = (s.map toI).map (Value.int .u8) := by
  unfold Lib.strCells bs toI
  simp
/-- The builder's first cell: nothing, or its own address. -/
def BdAt (a : AV) : Prop := a = .v (.pointer none) ∨ a = .ptr 0 0
theorem callP_bwrite {g T el : Nat} (hc : Callable P g) (hC : ∀ (b : Nat) (p v : Value) (n : Nat) (xs : List Value) (s : ByteArray) (w : World), (p = .pointer none ∨ p = .pointer (some ⟨b, 0, none⟩)) → w.heap[b]? = some (.cells #[p, v] T (0, 0)) →
      w.ownsRow 0 el 1 v n xs → v.ownBlock ≠ some b → n + s.size ≤ 140737488355328 →
      Calls P g #[.pointer (some ⟨b, 0, none⟩), .string s] w fun e w' => e = .returned (.tuple #[.int .i64 s.size, .nilIface]) ∧ ∃ v', w'.heap[b]? = some (.cells #[.pointer (some ⟨b, 0, none⟩), v'] T (0, 0)) ∧
      w'.ownsRow 0 el 1 v' (n + s.size) (xs ++ Lib.strCells s) ∧ (v'.ownBlock = v.ownBlock ∨ v'.ownBlock = some w.heap.size) ∧ Touch w w' (fun k => k = b ∨ v.ownBlock = some k))
    {a0 : AV} (h0 : BdAt a0) (l : List Int) (s : Str) (hs : 0 < s.length ∧ l.length + s.length ≤ 140737488355328) :
    CallP P g [.var T [a0, .row 1 (l.map byteAV).length], .row el 1 (l.map byteAV)] [.ptr 0 0, .v (.string (bs s))] (fun r H' => r = .tup [.v (.int .i64 (s.length : Int)), .v .nilIface] ∧
      H'.take ([.var T [.ptr 0 0, .row 1 ((l ++ s.map toI).map byteAV).length], .row el 1 ((l ++ s.map toI).map byteAV)] : List Ob).length = [.var T [.ptr 0 0, .row 1 ((l ++ s.map toI).map byteAV).length], .row el 1 ((l ++ s.map toI).map byteAV)]) := by
  refine ⟨hc, fun C w F e vs M hr => ?_⟩
  obtain ⟨hF, us, hb, hsz, hcell⟩ := M.heap.ob 0 _ rfl
  obtain ⟨hrl, hown⟩ := M.heap.ob 1 _ rfl
  have hlen : e.len = 2 := M.heap.len
  have c0 := hcell 0 _ rfl
  have c1 := hcell 1 _ rfl
  have hrv : ∀ z, Rep w F e (.row 1 (l.map byteAV).length) z → z = e.rowv 1 := by
    intro z hz
    cases hz with
    | row _ _ hv => exact hv.symm
    | rowold _ hn => omega
  have hv1 : us.getD 1 undef = e.rowv 1 := hrv _ c1
  have hus : us = #[us.getD 0 undef, e.rowv 1] := by
    apply Array.ext
    · simpa using hsz
    · intro i h1 h2
      have hi2 : i < 2 := by simpa using h2
      match i, hi2 with
      | 0, _ => simp [Array.getD_eq_getD_getElem?, Array.getElem?_eq_getElem h1]
      | 1, _ =>
        rw [Array.getD_eq_getD_getElem?, Array.getElem?_eq_getElem h1] at hv1
        simpa using hv1
  have hp : us.getD 0 undef = .pointer none ∨ us.getD 0 undef = .pointer (some ⟨e.blk 0, 0, none⟩) := by
    rcases h0 with rfl | rfl
    · exact .inl c0.v_inv
    · exact .inr c0.ptr_inv.2
  obtain ⟨vals, hfl, hrow⟩ := hown.owns
  have hvals := flat_bytes hfl
  subst hvals
  have hvs : vs = #[.pointer (some ⟨e.blk 0, 0, none⟩), .string (bs s)] := by
    obtain ⟨h1, h2⟩ := hr
    have a0 := (h2 0 _ rfl).ptr_inv.2
    have a1 := (h2 1 _ rfl).v_inv
    apply Array.ext
    · simpa using h1
    · intro i k1 k2
      have hi2 : i < 2 := by simpa using k2
      match i, hi2 with
      | 0, _ => rw [Array.getD_eq_getD_getElem?, Array.getElem?_eq_getElem k1] at a0; simpa using a0
      | 1, _ => rw [Array.getD_eq_getD_getElem?, Array.getElem?_eq_getElem k1] at a1; simpa using a1
  subst hvs
  have hne : (e.rowv 1).ownBlock ≠ some (e.blk 0) := by
    intro hx
    have h1 : Owner e [Ob.var T [a0, .row 1 (l.map byteAV).length], .row el 1 (l.map byteAV)] 0 (e.blk 0) := rfl
    have h2 := own_block (H := [Ob.var T [a0, .row 1 (l.map byteAV).length], .row el 1 (l.map byteAV)]) (o := 1) rfl M hx
    exact absurd (M.heap.one _ _ _ h1 h2) (by decide)
  rw [hus] at hb
  have hbl : (bs s).size = s.length := by have := bs_size s; omega
  refine (hC (e.blk 0) _ _ _ _ (bs s) w hp hb hrow hne (by rw [hbl]; simp only [List.length_map]; exact hs.2)).mono ?_
  rintro en w' ⟨rfl, v', hb', hrow', hblk, T1⟩
  have hcells : l.map (Value.int .u8) ++ Lib.strCells (bs s) = (l ++ s.map toI).map (Value.int .u8) := by
    rw [List.map_append, strCells_bs]
  rw [hcells, hbl] at hrow'
  have hlt : 0 < e.len := by omega
  have hbig : ∀ b, F b → b < w.heap.size := M.bound
  have hvF : ∀ b, v'.ownBlock = some b → ¬ F b := by
    intro k hk hFk
    rcases hblk with h | h
    · rw [h] at hk
      rcases hown.2 with ⟨_, hx⟩ | ⟨k', c, vs', hx, hnF, _⟩
      · rw [hx] at hk; cases hk
      · rw [hx] at hk
        simp only [Value.ownBlock, Option.some.injEq] at hk
        subst hk; exact hnF hFk
    · rw [h] at hk
      injection hk with hk
      have := hbig k hFk
      omega
  have hOwn : OwnRow w' F el 1 ((l ++ s.map toI).map byteAV) v' := OwnRow.of_owns (bytes_flat w' F _) (by simpa using hrow') hvF
  have hblt : e.blk 0 < w.heap.size := by
    rcases Nat.lt_or_ge (e.blk 0) w.heap.size with h | h
    · exact h
    · rw [Array.getElem?_eq_none h] at hb; cases hb
  have hne' : v'.ownBlock ≠ some (e.blk 0) := by
    rcases hblk with h | h
    · rw [h]; exact hne
    · rw [h]; intro hx; injection hx with hx; omega
  let e' : Env := e.setRow 1 ((l ++ s.map toI).map byteAV).length v'
  have er1 : e'.rlen 1 = ((l ++ s.map toI).map byteAV).length := show upd e.rlen 1 _ 1 = _ from upd_same _ _ _
  have er2 : e'.rowv 1 = v' := show upd e.rowv 1 _ 1 = _ from upd_same _ _ _
  obtain ⟨A', m', c', hvs⟩ : ∃ A m c, v' = .slice A m c := by
    rcases hrow'.2 with ⟨hv, _⟩ | ⟨g, cap, cur, hv, _⟩
    · exact ⟨_, _, _, hv⟩
    · exact ⟨_, _, _, hv⟩
  have E : EnvLe e e' := ⟨Nat.le_refl _, fun _ _ => rfl, fun o ho => by
    by_cases h1 : o = 1
    · subst h1
      refine .inl ?_
      rw [er1, hrl]
      simp only [List.length_map, List.length_append]; omega
    · exact .inr ⟨upd_other _ _ _ h1, upd_other _ _ _ h1⟩⟩
  have hown0 : ∀ k, (k = e.blk 0 ∨ (e.rowv 1).ownBlock = some k) → C.w0.heap.size ≤ k ∨ C.own0 k := by
    rintro k (rfl | hk)
    · exact M.ours 0 _ rfl
    · exact M.ours 1 _ (own_block (o := 1) rfl M hk)
  have hkF : ∀ k, (k = e.blk 0 ∨ (e.rowv 1).ownBlock = some k) → ¬ F k := by
    rintro k (rfl | hk) hFk
    · exact hF hFk
    · rcases hown.2 with ⟨_, hx⟩ | ⟨k', c, vs', hx, hnF, _⟩
      · rw [hx] at hk; cases hk
      · rw [hx] at hk
        simp only [Value.ownBlock, Option.some.injEq] at hk
        subst hk; exact hnF hFk
  have hOw : ∀ o b, Owner e' [Ob.var T [.ptr 0 0, .row 1 ((l ++ s.map toI).map byteAV).length], .row el 1 ((l ++ s.map toI).map byteAV)] o b → (o = 0 ∧ e.blk 0 = b) ∨ (o = 1 ∧ v'.ownBlock = some b) := by
    intro o b ho
    unfold Owner at ho
    match o with
    | 0 => exact .inl ⟨rfl, ho⟩
    | 1 =>
      obtain ⟨n, c, hv⟩ := (show ∃ n c, e'.rowv 1 = .slice (some ⟨b, 0, none⟩) n c from ho)
      rw [er2] at hv
      exact .inr ⟨rfl, by rw [hv]; rfl⟩
    | o + 2 => simp at ho
  refine ⟨_, _, [.var T [.ptr 0 0, .row 1 ((l ++ s.map toI).map byteAV).length], .row el 1 ((l ++ s.map toI).map byteAV)], F, e', rfl, ⟨rfl, rfl⟩, ?_, ?_, E, ⟨fun _ h => h, fun b hb => T1.block b (hbig b hb) (fun h => hkF b h hb)⟩⟩
  · refine ⟨⟨hlen, fun o x ho => ?_, fun o o' b h1 h2 => ?_⟩, ⟨T1.os.trans M.mod.os, T1.tape.trans M.mod.tape, T1.output.trans M.mod.output, Nat.le_trans M.mod.size T1.size, fun b hb1 hn => ?_⟩, fun o b ho => ?_, M.sub, fun b hb1 => Nat.lt_of_lt_of_le (M.bound b hb1) T1.size, M.fresh, M.env.trans E, M.g⟩
    · match o, ho with
      | 0, ho =>
        cases ho
        refine ⟨hF, _, hb', rfl, fun j s' hj => ?_⟩
        match j, hj with
        | 0, hj => cases hj; exact .ptr hlt
        | 1, hj =>
          cases hj
          show Rep w' F e' (.row 1 _) v'
          rw [hvs]
          exact .row (show 1 < e.len by omega) er1.symm (er2.trans hvs)
        | j + 2, hj => simp at hj
      | 1, ho => cases ho; exact ⟨er1, by rw [er2]; exact hOwn⟩
      | o + 2, ho => simp at ho
    · rcases hOw _ _ h1 with ⟨rfl, k1⟩ | ⟨rfl, k1⟩ <;> rcases hOw _ _ h2 with ⟨rfl, k2⟩ | ⟨rfl, k2⟩
      · rfl
      · exact absurd (k1 ▸ k2) hne'
      · exact absurd (k2 ▸ k1) hne'
      · rfl
    · rw [T1.block b (Nat.lt_of_lt_of_le hb1 M.mod.size) (fun h => ?_)]
      · exact M.mod.block b hb1 hn
      · rcases hown0 b h with h | h
        · omega
        · exact hn h
    · rcases hOw _ _ ho with ⟨rfl, k1⟩ | ⟨rfl, k1⟩
      · exact hown0 b (.inl k1.symm)
      · rcases hblk with h | h
        · exact hown0 b (.inr (h ▸ k1))
        · rw [h] at k1
          injection k1 with k1
          exact .inl (by rw [← k1]; exact M.mod.size)
  · refine .tup rfl (fun j s' hj => ?_)
    match j, hj with
    | 0, hj => cases hj; rw [hbl]; exact .v
    | 1, hj => cases hj; exact .v
    | j + 2, hj => simp at hj
abbrev byteU (c : UInt8) : List AV := [.v (.int .u8 (c.toNat : Int))]
theorem byteU_eq (t : Str) : (t.map toI).map byteAV = t.map byteU := by
  rw [List.map_map]; rfl
theorem callP_bwrite' {g T el : Nat} (hc : Callable P g) (hC : ∀ (b : Nat) (p v : Value) (n : Nat) (xs : List Value) (s : ByteArray) (w : World), (p = .pointer none ∨ p = .pointer (some ⟨b, 0, none⟩)) → w.heap[b]? = some (.cells #[p, v] T (0, 0)) →
      w.ownsRow 0 el 1 v n xs → v.ownBlock ≠ some b → n + s.size ≤ 140737488355328 →
      Calls P g #[.pointer (some ⟨b, 0, none⟩), .string s] w fun e w' => e = .returned (.tuple #[.int .i64 s.size, .nilIface]) ∧ ∃ v', w'.heap[b]? = some (.cells #[.pointer (some ⟨b, 0, none⟩), v'] T (0, 0)) ∧
      w'.ownsRow 0 el 1 v' (n + s.size) (xs ++ Lib.strCells s) ∧ (v'.ownBlock = v.ownBlock ∨ v'.ownBlock = some w.heap.size) ∧ Touch w w' (fun k => k = b ∨ v.ownBlock = some k))
    {a0 : AV} (h0 : BdAt a0) (t s : Str) (hs : 0 < s.length ∧ t.length + s.length ≤ 140737488355328) :
    CallP P g [.var T [a0, .row 1 (t.map byteU).length], .row el 1 (t.map byteU)] [.ptr 0 0, .v (.string (bs s))] (fun r H' => r = .tup [.v (.int .i64 (s.length : Int)), .v .nilIface] ∧
      H'.take ([.var T [.ptr 0 0, .row 1 ((t ++ s).map byteU).length], .row el 1 ((t ++ s).map byteU)] : List Ob).length = [.var T [.ptr 0 0, .row 1 ((t ++ s).map byteU).length], .row el 1 ((t ++ s).map byteU)]) := by
  have h := callP_bwrite hc hC h0 (t.map toI) s (by simpa using hs)
  rw [← List.map_append, byteU_eq, byteU_eq] at h
  exact h
theorem callP_bstring {g T el : Nat} (hc : Callable P g) (hC : ∀ (b : Nat) (p v : Value) (l : List UInt8) (w : World), w.heap[b]? = some (.cells #[p, v] T (0, 0)) → w.ownsRow 0 el 1 v l.length (Lib.byteCells l) → l ≠ [] →
      Calls P g #[.pointer (some ⟨b, 0, none⟩)] w fun e w' => e = .returned (.string ⟨l.toArray⟩) ∧ w'.heap[b]? = some (.cells #[p, v] T (0, 0)) ∧ Touch w w' (fun k => v.ownBlock = some k))
    (a0 : AV) (t : Str) (ht : 0 < t.length) :
    CallP P g [.var T [a0, .row 1 (t.map byteU).length], .row el 1 (t.map byteU)] [.ptr 0 0] (fun r H' => r = .v (.string (bs t)) ∧ H'.take ([.gone, .gone] : List Ob).length = [.gone, .gone]) := by
  refine ⟨hc, fun C w F e vs M hr => ?_⟩
  obtain ⟨hF, us, hb, hsz, hcell⟩ := M.heap.ob 0 _ rfl
  obtain ⟨hrl, hown⟩ := M.heap.ob 1 _ rfl
  have hlen : e.len = 2 := M.heap.len
  have c1 := hcell 1 _ rfl
  have hrv : ∀ z, Rep w F e (.row 1 (t.map byteU).length) z → z = e.rowv 1 := by
    intro z hz
    cases hz with
    | row _ _ hv => exact hv.symm
    | rowold _ hn => omega
  have hv1 : us.getD 1 undef = e.rowv 1 := hrv _ c1
  have hus : us = #[us.getD 0 undef, e.rowv 1] := by
    apply Array.ext
    · simpa using hsz
    · intro i h1 h2
      have hi2 : i < 2 := by simpa using h2
      match i, hi2 with
      | 0, _ => simp [Array.getD_eq_getD_getElem?, Array.getElem?_eq_getElem h1]
      | 1, _ =>
        rw [Array.getD_eq_getD_getElem?, Array.getElem?_eq_getElem h1] at hv1
        simpa using hv1
  obtain ⟨vals, hfl, hrow⟩ := hown.owns
  rw [← byteU_eq] at hfl
  have hvals := flat_bytes hfl
  subst hvals
  have hvs : vs = #[.pointer (some ⟨e.blk 0, 0, none⟩)] := by
    obtain ⟨h1, h2⟩ := hr
    have a0 := (h2 0 _ rfl).ptr_inv.2
    apply Array.ext
    · simpa using h1
    · intro i k1 k2
      have hi2 : i < 1 := by simpa using k2
      match i, hi2 with
      | 0, _ => rw [Array.getD_eq_getD_getElem?, Array.getElem?_eq_getElem k1] at a0; simpa using a0
  subst hvs
  rw [hus] at hb
  have hbc : (t.map toI).map (Value.int .u8) = Lib.byteCells t := by
    unfold Lib.byteCells toI; rw [List.map_map]; rfl
  refine (hC (e.blk 0) _ _ t w hb (by rw [← hbc]; simpa using hrow) (List.length_pos_iff.1 ht)).mono ?_
  rintro en w' ⟨rfl, _, T1⟩
  have hown0 : ∀ k, (e.rowv 1).ownBlock = some k → C.w0.heap.size ≤ k ∨ C.own0 k := fun k hk => M.ours 1 _ (own_block (o := 1) rfl M hk)
  have hkF : ∀ k, (e.rowv 1).ownBlock = some k → ¬ F k := by
    intro k hk hFk
    rcases hown.2 with ⟨_, hx⟩ | ⟨k', c, vs', hx, hnF, _⟩
    · rw [hx] at hk; cases hk
    · rw [hx] at hk
      simp only [Value.ownBlock, Option.some.injEq] at hk
      subst hk; exact hnF hFk
  have hOw : ∀ o b, ¬ Owner e [Ob.gone, Ob.gone] o b := by
    intro o b ho
    unfold Owner at ho
    match o with
    | 0 => exact ho
    | 1 => exact ho
    | o + 2 => simp at ho
  refine ⟨_, _, [.gone, .gone], F, e, rfl, ⟨rfl, rfl⟩, ?_, .v, EnvLe.refl e, ⟨fun _ h => h, fun b hb => T1.block b (M.bound b hb) (fun h => hkF b h hb)⟩⟩
  refine ⟨⟨hlen, fun o x ho => ?_, fun o o' b h1 h2 => absurd h1 (hOw _ _)⟩, ⟨T1.os.trans M.mod.os, T1.tape.trans M.mod.tape, T1.output.trans M.mod.output, Nat.le_trans M.mod.size T1.size, fun b hb1 hn => ?_⟩, fun o b ho => absurd ho (hOw _ _), M.sub, fun b hb1 => Nat.lt_of_lt_of_le (M.bound b hb1) T1.size, M.fresh, M.env, M.g⟩
  · match o, ho with
    | 0, ho => cases ho; trivial
    | 1, ho => cases ho; trivial
    | o + 2, ho => simp at ho
  · rw [T1.block b (Nat.lt_of_lt_of_le hb1 M.mod.size) (fun h => ?_)]
    · exact M.mod.block b hb1 hn
    · rcases hown0 b h with h | h
      · omega
      · exact hn h
theorem Flat.take {w : World} {F : Nat → Prop} {sz : Nat} {xs : List (List AV)} {vs : List Value} (h : Flat w F sz xs vs) (i : Nat) : Flat w F sz (xs.take i) (vs.take (i * sz)) := by
  refine ⟨?_, fun k cs hk => ?_, fun k cs j s hk hj => ?_⟩
  · rw [List.length_take, List.length_take, h.1, Nat.mul_min_mul_right]
  · rw [List.getElem?_take] at hk
    split at hk
    · exact h.2.1 k cs hk
    · cases hk
  · rw [List.getElem?_take] at hk
    split at hk
    · rename_i hlt
      obtain ⟨y, hy, hr⟩ := h.2.2 k cs j s hk hj
      refine ⟨y, ?_, hr⟩
      rw [List.getElem?_take_of_lt (idx_lt hlt (by rw [← (h.2.1 k cs hk).1]; exact (List.getElem?_eq_some_iff.1 hj).1))]
      exact hy
    · cases hk
theorem Flat.drop {w : World} {F : Nat → Prop} {sz : Nat} {xs : List (List AV)} {vs : List Value} (h : Flat w F sz xs vs) (i : Nat) : Flat w F sz (xs.drop i) (vs.drop (i * sz)) := by
  refine ⟨?_, fun k cs hk => ?_, fun k cs j s hk hj => ?_⟩
  · rw [List.length_drop, List.length_drop, h.1, Nat.sub_mul]
  · rw [List.getElem?_drop] at hk
    exact h.2.1 _ cs hk
  · rw [List.getElem?_drop] at hk
    obtain ⟨y, hy, hr⟩ := h.2.2 _ cs j s hk hj
    refine ⟨y, ?_, hr⟩
    rw [List.getElem?_drop, ← hy]
    congr 1
    rw [Nat.add_mul]; omega
/-- slices.Insert of one element into a row that is ours. -/
theorem callP_insert {g el sz bytes : Nat} (hc : Callable P g) (hC : ∀ (v pv : Value) (n i : Nat) (xs p : List Value) (w : World), w.ownsRow 0 el sz v n xs → w.ownsRow 0 el sz pv 1 p → (∀ b, v.ownBlock = some b → pv.ownBlock ≠ some b) → i < n →
      (n + 1) * bytes ≤ 140737488355328 → (∀ u ∈ xs, u.oneCell' = true) → (∀ u ∈ p, u.oneCell' = true) →
      Calls P g #[v, .int .i64 i, pv] w fun e w' => ∃ v', e = .returned v' ∧ w'.ownsRow 0 el sz v' (n + 1) (xs.take (i * sz) ++ p ++ xs.drop (i * sz)) ∧ (v'.ownBlock = v.ownBlock ∨ v'.ownBlock = some w.heap.size) ∧ Touch w w' (fun k => v.ownBlock = some k))
    (xs : List (List AV)) (p : List AV) (i : Int) (hi : 0 ≤ i ∧ i < xs.length ∧ (xs.length + 1) * bytes ≤ 140737488355328) :
    CallP P g [.row el sz xs, .row el sz [p]] [.row 0 xs.length, .v (.int .i64 i), .row 1 1] (fun r H' => r = .row 0 (xs.take i.toNat ++ [p] ++ xs.drop i.toNat).length ∧
      H'.take ([.row el sz (xs.take i.toNat ++ [p] ++ xs.drop i.toNat), .row el sz [p]] : List Ob).length = [.row el sz (xs.take i.toNat ++ [p] ++ xs.drop i.toNat), .row el sz [p]]) := by
  refine ⟨hc, fun C w F e vs M hr => ?_⟩
  obtain ⟨hrl, hown⟩ := M.heap.ob 0 _ rfl
  obtain ⟨hrl1, hown1⟩ := M.heap.ob 1 _ rfl
  have hlen : e.len = 2 := M.heap.len
  obtain ⟨vals, hfl, hrow⟩ := hown.owns
  obtain ⟨pvals, hpfl, hprow⟩ := hown1.owns
  have hrv : ∀ o n z, n = e.rlen o → Rep w F e (.row o n) z → z = e.rowv o := by
    intro o n z hn hz
    cases hz with
    | row _ _ hv => exact hv.symm
    | rowold _ hn' => omega
  obtain ⟨iN, hiN⟩ : ∃ iN : Nat, i = iN := ⟨i.toNat, by omega⟩
  subst hiN
  have hvs : vs = #[e.rowv 0, .int .i64 iN, e.rowv 1] := by
    obtain ⟨h1, h2⟩ := hr
    have a0 := hrv 0 _ _ hrl.symm (h2 0 _ rfl)
    have a1 := (h2 1 _ rfl).v_inv
    have a2 := hrv 1 _ _ hrl1.symm (h2 2 _ rfl)
    apply Array.ext
    · simpa using h1
    · intro i k1 k2
      have hi2 : i < 3 := by simpa using k2
      match i, hi2 with
      | 0, _ => rw [Array.getD_eq_getD_getElem?, Array.getElem?_eq_getElem k1] at a0; simpa using a0
      | 1, _ => rw [Array.getD_eq_getD_getElem?, Array.getElem?_eq_getElem k1] at a1; simpa using a1
      | 2, _ => rw [Array.getD_eq_getD_getElem?, Array.getElem?_eq_getElem k1] at a2; simpa using a2
  subst hvs
  have hne : ∀ b, (e.rowv 0).ownBlock = some b → (e.rowv 1).ownBlock ≠ some b := by
    intro b hx hy
    have h1 := own_block (H := [Ob.row el sz xs, .row el sz [p]]) (o := 0) rfl M hx
    have h2 := own_block (H := [Ob.row el sz xs, .row el sz [p]]) (o := 1) rfl M hy
    exact absurd (M.heap.one _ _ _ h1 h2) (by decide)
  have hxl : vals.length = xs.length * sz := hfl.1
  refine (hC (e.rowv 0) (e.rowv 1) xs.length iN vals pvals w hrow (by simpa using hprow) hne (by omega) hi.2.2 (flat_ones hfl) (flat_ones hpfl)).mono ?_
  rintro en w' ⟨v', rfl, hrow', hblk, T1⟩
  have hbig : ∀ b, F b → b < w.heap.size := M.bound
  have hkF : ∀ k, (e.rowv 0).ownBlock = some k → ¬ F k := by
    intro k hk hFk
    rcases hown.2 with ⟨_, hx⟩ | ⟨k', c, vs', hx, hnF, _⟩
    · rw [hx] at hk; cases hk
    · rw [hx] at hk
      simp only [Value.ownBlock, Option.some.injEq] at hk
      subst hk; exact hnF hFk
  have hvF : ∀ b, v'.ownBlock = some b → ¬ F b := by
    intro k hk hFk
    rcases hblk with h | h
    · rw [h] at hk; exact hkF k hk hFk
    · rw [h] at hk
      injection hk with hk
      have := hbig k hFk
      omega
  have L : Later w F w' F := ⟨fun _ h => h, fun b hb => T1.block b (hbig b hb) (fun h => hkF b h hb)⟩
  have hi' : iN < xs.length := by omega
  have hF1 : Flat w' F sz (xs.take iN ++ [p] ++ xs.drop iN) (vals.take (iN * sz) ++ pvals ++ vals.drop (iN * sz)) :=
    (((hfl.take iN).append hpfl).append (hfl.drop iN)).mono L
  have hyl : (xs.take iN ++ [p] ++ xs.drop iN).length = xs.length + 1 := by
    simp only [List.length_append, List.length_take, List.length_drop, List.length_cons, List.length_nil]; omega
  have hOwn : OwnRow w' F el sz (xs.take iN ++ [p] ++ xs.drop iN) v' := OwnRow.of_owns hF1 (by rw [hyl]; exact hrow') hvF
  have hM := M.growRow (o := 0) (ys := xs.take iN ++ [p] ++ xs.drop iN) (x := v') rfl (T := ⟨T1.os, T1.tape, T1.output, T1.size, fun b hb hn => T1.block b hb (fun h => hn (own_block (H := [Ob.row el sz xs, .row el sz [p]]) (o := 0) rfl M h))⟩) hOwn
    (fun b hb => by
      rcases hblk with h | h
      · exact .inl (own_block (H := [Ob.row el sz xs, .row el sz [p]]) (o := 0) rfl M (h ▸ hb))
      · rw [h] at hb; injection hb with hb; exact .inr (by omega)) (.inl (by omega))
  obtain ⟨A', m', c', hvs⟩ : ∃ A m c, v' = .slice A m c := by
    rcases hrow'.2 with ⟨hv, _⟩ | ⟨g, cap, cur, hv, _⟩
    · exact ⟨_, _, _, hv⟩
    · exact ⟨_, _, _, hv⟩
  have er1 : (e.setRow 0 (xs.take iN ++ [p] ++ xs.drop iN).length v').rlen 0 = (xs.take iN ++ [p] ++ xs.drop iN).length := show upd e.rlen 0 _ 0 = _ from upd_same _ _ _
  have er2 : (e.setRow 0 (xs.take iN ++ [p] ++ xs.drop iN).length v').rowv 0 = v' := show upd e.rowv 0 _ 0 = _ from upd_same _ _ _
  have E : EnvLe e (e.setRow 0 (xs.take iN ++ [p] ++ xs.drop iN).length v') := ⟨Nat.le_refl _, fun _ _ => rfl, fun o ho => by
    by_cases h1 : o = 0
    · subst h1
      refine .inl ?_
      rw [er1, hrl]
      omega
    · exact .inr ⟨upd_other _ _ _ h1, upd_other _ _ _ h1⟩⟩
  refine ⟨_, _, [.row el sz (xs.take iN ++ [p] ++ xs.drop iN), .row el sz [p]], F, e.setRow 0 (xs.take iN ++ [p] ++ xs.drop iN).length v', rfl, ⟨rfl, rfl⟩, hM, ?_, E, L⟩
  have hR : Rep w' F (e.setRow 0 (xs.take iN ++ [p] ++ xs.drop iN).length v') (.row 0 (xs.take iN ++ [p] ++ xs.drop iN).length) (.slice A' m' c') := .row (show 0 < e.len by omega) er1.symm (er2.trans hvs)
  rw [← hvs] at hR
  exact hR
end
section
variable {P : Program} {w : World}
/-- copy of n elements of so many cells into a row of cells. -/
theorem run_copy_rows (dT sT ty el sz g o dLen dCap n : Nat) (a : Addr) (sLen sCap : Nat) (news : List Value) (cur : Array Value) (t : TypeId)
    (hu : P.underlying dT = some (.slice el)) (hs : (P.info? el).map (·.size) = some sz) (hn : n = Nat.min sLen dLen) (hl : news.length = n * sz)
    (hg : w.heap[g]? = some (.cells cur t (0, 0))) (hfit : o + n * sz ≤ cur.size) (hsrc : ∀ j u, news[j]? = some u → w.cell? (a.add j) = some u) (h1 : ∀ u ∈ news, u.oneCell' = true) :
    (Builtin.copy_ #[dT, sT] ty #[.slice (some ⟨g, o, none⟩) dLen dCap, .slice (some a) sLen sCap]).run P w = .ok (goInt n) (w.setRow g (cur.toList.take o ++ news ++ cur.toList.drop (o + n * sz)).toArray) := by
  have hld := run_loadCells_list (P := P) (w := w) a news hsrc
  have hst := run_storeCells_at P g o t news 0 cur w hg (by simpa [hl] using hfit) h1
  rw [hl] at hst hld
  cases hq : P.info? el with
  | none => simp [hq] at hs
  | some i =>
    simp [hq] at hs
    simp [Builtin.copy_, run_underlying hu, Builtin.lenOf, Builtin.firstCells, sizeOf, typeInfo, hq, hs, ← hn, hld, hst]
/-- The operation 'copy', where its run is known. -/
theorem wpList_copy_eq {ops : Array Oper} {rest : List Oper} {o : Oper} {a : Act} {Q : Exit → Act → World → Prop} (hgd : o.guard = none) (d s : Operand) (t t' : TypeId)
    (ho : o.op = .call { callee := .builtin .copy, args := #[d, s], argTypes := #[t, t'] }) (v u : Value) (hd : a.eval d = v) (hs : a.eval s = u) {v' : Value} {w' : World}
    (hr : (Builtin.copy_ #[t, t'] o.type #[v, u]).run P w = .ok v' w') (h : wpList P ops Q rest (a.put o.dst v') w') : wpList P ops Q (o :: rest) a w :=
  wpList_plain hgd fun K hK => by
    unfold Oper.wp execOp
    simp only [ho, resolve, invoke, builtin, Sem.run_bind, Sem.run_pure, Result.andThen_ok, List.map_toArray, List.map_cons, List.map_nil, hd, hs, hr]
    exact hK _ _ h
theorem wpList_append_eq {ops : Array Oper} {rest : List Oper} {o : Oper} {a : Act} {Q : Exit → Act → World → Prop} (hgd : o.guard = none) (d s : Operand) (t t' : TypeId)
    (ho : o.op = .call { callee := .builtin .append, args := #[d, s], argTypes := #[t, t'] }) (v u : Value) (hd : a.eval d = v) (hs : a.eval s = u) {v' : Value} {w' : World}
    (hr : (Builtin.append_ #[t, t'] o.type #[v, u]).run P w = .ok v' w') (h : wpList P ops Q rest (a.put o.dst v') w') : wpList P ops Q (o :: rest) a w :=
  wpList_plain hgd fun K hK => by
    unfold Oper.wp execOp
    simp only [ho, resolve, invoke, builtin, Sem.run_bind, Sem.run_pure, Result.andThen_ok, List.map_toArray, List.map_cons, List.map_nil, hd, hs, hr]
    exact hK _ _ h
theorem step_copy_eq {ops : Array Oper} {o : Oper} {a : Act} {K : Act → World → Prop} {Q : Exit → Act → World → Prop} {E : Prop}
    (hg : o.guard = none) (d x : Operand) (dT sT : TypeId) (hop : o.op = Op.call { callee := Callee.builtin Builtin.copy, args := #[d, x], argTypes := #[dT, sT] })
    (v u : Value) (hd : a.eval d = v) (hx : a.eval x = u) {v' : Value} {w' : World} (hr : (Builtin.copy_ #[dT, sT] o.type #[v, u]).run P w = .ok v' w') (hK : K (a.put o.dst v') w') :
    if Region.wanted o (yielded ops a.tmps) = true then Oper.wp P o a w K Q else E := by
  have hw : Region.wanted o (yielded ops a.tmps) = true := by simp [Region.wanted, hg]
  rw [if_pos hw]
  unfold Oper.wp
  simp [execOp, hop, resolve, invoke, builtin, hd, hx, hr, Result.andThen]
  exact hK
end
section
variable {P : Program}
/-- errors.As at a target of a concrete type: its variable is written whole. -/
theorem callP_as {g T TP : Nat} (hc : Callable P g) {ev : AV} {x : Value} {cells : List AV} {vals : Array Value} {olds : List AV}
    (hC : ∀ (b : Nat) (us : Array Value) (w : World), GW w → w.heap[b]? = some (.cells us T (0, 0)) → us.size = vals.size →
      Calls P g #[x, .iface TP (.pointer (some ⟨b, 0, none⟩))] w fun e w' => e = .returned (.bool true) ∧ w'.heap[b]? = some (.cells vals T (0, 0)) ∧ Touch w w' (fun k => k = b))
    (hx : ∀ (w : World) (F : Nat → Prop) (e : Env) (v : Value), Rep w F e ev v → v = x) (hl : olds.length = vals.size) (hl2 : cells.length = vals.size)
    (hcell : ∀ (w : World) (F : Nat → Prop) (e : Env) (j : Nat) (s : AV), cells[j]? = some s → Rep w F e s (vals.getD j undef)) :
    CallP P g [.var T olds] [ev, .ifc TP (.ptr 0 0)] (fun r H' => r = .v (.bool true) ∧ H'.take ([.var T cells] : List Ob).length = [.var T cells]) := by
  refine ⟨hc, fun C w F e vs M hr => ?_⟩
  obtain ⟨hF, us, hb, hsz, hcl⟩ := M.heap.ob 0 _ rfl
  have hlen : e.len = 1 := M.heap.len
  have hvs : vs = #[x, .iface TP (.pointer (some ⟨e.blk 0, 0, none⟩))] := by
    obtain ⟨h1, h2⟩ := hr
    have a0 := hx _ _ _ _ (h2 0 _ rfl)
    have a1 : vs.getD 1 undef = .iface TP (.pointer (some ⟨e.blk 0, 0, none⟩)) := by
      have h := h2 1 _ rfl
      generalize vs.getD 1 undef = z at h
      cases h with
      | ifc h' => rw [h'.ptr_inv.2]
    apply Array.ext
    · simpa using h1
    · intro i k1 k2
      have hi2 : i < 2 := by simpa using k2
      match i, hi2 with
      | 0, _ => rw [Array.getD_eq_getD_getElem?, Array.getElem?_eq_getElem k1] at a0; simpa using a0
      | 1, _ => rw [Array.getD_eq_getD_getElem?, Array.getElem?_eq_getElem k1] at a1; simpa using a1
  subst hvs
  refine (hC (e.blk 0) us w M.gw hb (by omega)).mono ?_
  rintro en w' ⟨rfl, hb', T1⟩
  have hkF : ∀ k, F k → k ≠ e.blk 0 := fun k hk h => hF (h ▸ hk)
  have hown0 : C.w0.heap.size ≤ e.blk 0 ∨ C.own0 (e.blk 0) := M.ours 0 _ rfl
  have hOw : ∀ o b, Owner e [Ob.var T cells] o b → o = 0 ∧ e.blk 0 = b := by
    intro o b ho
    unfold Owner at ho
    match o with
    | 0 => exact ⟨rfl, ho⟩
    | o + 1 => simp at ho
  refine ⟨_, _, [.var T cells], F, e, rfl, ⟨rfl, rfl⟩, ?_, .v, EnvLe.refl e, ⟨fun _ h => h, fun b hb => T1.block b (M.bound b hb) (hkF b hb)⟩⟩
  refine ⟨⟨hlen, fun o y ho => ?_, fun o o' b h1 h2 => by rw [(hOw _ _ h1).1, (hOw _ _ h2).1]⟩, ⟨T1.os.trans M.mod.os, T1.tape.trans M.mod.tape, T1.output.trans M.mod.output, Nat.le_trans M.mod.size T1.size, fun b hb1 hn => ?_⟩, fun o b ho => ?_, M.sub, fun b hb1 => Nat.lt_of_lt_of_le (M.bound b hb1) T1.size, M.fresh, M.env, M.g⟩
  · match o, ho with
    | 0, ho =>
      cases ho
      exact ⟨hF, _, hb', hl2.symm, fun j s hj => hcell _ _ _ j s hj⟩
    | o + 1, ho => simp at ho
  · rw [T1.block b (Nat.lt_of_lt_of_le hb1 M.mod.size) (fun h => ?_)]
    · exact M.mod.block b hb1 hn
    · subst h
      rcases hown0 with h | h
      · omega
      · exact hn h
  · rw [← (hOw _ _ ho).2]; exact hown0
/-- errors.As of nil. -/
theorem callP_asnil {g : Nat} (hc : Callable P g) (hC : ∀ (t : Value) (w : World), Calls P g #[.nilIface, t] w fun e w' => e = .returned (.bool false) ∧ w' = w) (H : List Ob) (t : AV) :
    CallP P g H [.v .nilIface, t] (fun r H' => r = .v (.bool false) ∧ H'.take H.length = H) := by
  refine ⟨hc, fun C w F e vs M hr => ?_⟩
  have hvs : vs = #[.nilIface, vs.getD 1 undef] := by
    obtain ⟨h1, h2⟩ := hr
    have a0 := (h2 0 _ rfl).v_inv
    apply Array.ext
    · simpa using h1
    · intro i k1 k2
      have hi2 : i < 2 := by simpa using k2
      match i, hi2 with
      | 0, _ => rw [Array.getD_eq_getD_getElem?, Array.getElem?_eq_getElem k1] at a0; simpa using a0
      | 1, _ => simp [Array.getD_eq_getD_getElem?, Array.getElem?_eq_getElem k1]
  rw [hvs]
  refine (hC _ w).mono ?_
  rintro en w' ⟨rfl, rfl⟩
  exact ⟨_, _, H, F, e, rfl, ⟨rfl, List.take_length⟩, M, .v, EnvLe.refl e, Later.refl _ _⟩
end
end Go.Ab
