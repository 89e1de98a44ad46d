/- Maps of whole numbers to truths that are ours: sets; what is asked of an operation on them. -/
import Derived.Test.YtdoceelfokmhfaaStFwD
import Derived.Maps.OwnSet
import Derived.Lib.SlKeysI
import Derived.Carry
namespace Go.Ab
open Go.Maps Go.ChangeMaps
open Go.WideElems (Fit rg)
set_option linter.unusedVariables false
set_option linter.unusedSimpArgs false

/-- The set as a datum of the kit's. -/
abbrev setD (P : Program) (k e : TypeId) (es : Array MapEntry) : DataW Unit := DataW.map ((es.toList.map (rg P k (plainElem (H := Unit) P e))).foldr DataW.insert [])
def mapI (P : Program) (k e : TypeId) (ks : List Int) (ob : Obj) : Prop :=
  ks.Nodup ∧ ∃ (es : Array MapEntry) (clock : Nat), ob = .map es clock ∧ Fit P k (plainElem (H := Unit) P e) es clock ∧
    (∀ x, has (setD P k e es) (.int .i64 x) = decide (x ∈ ks)) ∧ ∀ x zd, x ∈ ks → (setD P k e es).atKey (.int .i64 x) zd = .lit (.bool true)
def insI (ks : List Int) (n : Int) : List Int := if n ∈ ks then ks else ks ++ [n]
def delI (ks : List Int) (n : Int) : List Int := ks.filter fun x => !decide (x = n)
theorem insI_mem (ks : List Int) (n x : Int) : x ∈ insI ks n ↔ x = n ∨ x ∈ ks := by
  unfold insI
  split
  · rename_i h
    constructor
    · exact .inr
    · rintro (rfl | h2)
      · exact h
      · exact h2
  · simp [or_comm]
theorem insI_nodup {ks : List Int} (h : ks.Nodup) (n : Int) : (insI ks n).Nodup := by
  unfold insI
  split
  · exact h
  · rename_i hn
    exact List.nodup_append.2 ⟨h, by simp, fun a ha b hb => by simp at hb; subst hb; exact fun e => hn (e ▸ ha)⟩
theorem insI_len (ks : List Int) (n : Int) : (insI ks n).length ≤ ks.length + 1 := by
  unfold insI
  split
  · omega
  · simp
theorem delI_mem (ks : List Int) (n x : Int) : x ∈ delI ks n ↔ x ∈ ks ∧ x ≠ n := by simp [delI]
theorem delI_nodup {ks : List Int} (h : ks.Nodup) (n : Int) : (delI ks n).Nodup := h.filter _

section
variable {P : Program} {k e t : TypeId} {ks : List Int} {w w' : World} {b : Nat}

theorem mapI.own {ob : Obj} (h : mapI P k e ks ob) (hb : w.heap[b]? = some ob) (hk : P.underlying k = some (.int .i64)) : ∃ D : DataW Unit, w.ownsMap P k (plainElem P e) b ks.length D ∧ (∀ x, has D (.int .i64 x) = decide (x ∈ ks)) ∧ ∀ x zd, x ∈ ks → D.atKey (.int .i64 x) zd = .lit (.bool true) := by
  obtain ⟨hn, es, clock, rfl, F, h1, h2⟩ := h
  have hown : w.ownsMap P k (plainElem P e) b es.size (setD P k e es) := ⟨es, clock, hb, F, Nat.le_refl _, rfl⟩
  have hp := CollectedI.perm (left := fun _ => false) (ss := ks) ⟨hn, fun x => by rw [h1 x]; simp⟩ hown (int_keyed hk) hk (fun _ => rfl)
  refine ⟨_, ⟨es, clock, hb, F, ?_, rfl⟩, h1, h2⟩
  have := hp.length_eq
  simp [intKeys, length_sorted] at this
  omega
theorem mapI.mk {n : Nat} {D : DataW Unit} (h : w.ownsMap P k (plainElem P e) b n D) (hn : ks.Nodup) (h1 : ∀ x, has D (.int .i64 x) = decide (x ∈ ks)) (h2 : ∀ x zd, x ∈ ks → D.atKey (.int .i64 x) zd = .lit (.bool true)) : ∃ ob, w.heap[b]? = some ob ∧ mapI P k e ks ob := by
  obtain ⟨es, clock, hb, F, _, rfl⟩ := h
  exact ⟨_, hb, hn, es, clock, rfl, F, h1, h2⟩
theorem isMap_own {n : Nat} {D : DataW Unit} (h : w.ownsMap P k (plainElem P e) b n D) : IsMap D := by
  obtain ⟨es, clock, hb, F, _, rfl⟩ := h
  exact ⟨_, rfl⟩
abbrev In64 (n : Int) : Prop := -9223372036854775808 ≤ n ∧ n ≤ 9223372036854775807
theorem wf_in {n : Int} (h : In64 n) : (Lit.int .i64 n).wf = true := by
  unfold Lit.wf
  rw [Bool.and_eq_true, decide_eq_true_eq, decide_eq_true_eq]
  exact h
end

section
variable {P : Program} {k e t : TypeId} {ks : List Int} {C : Ctx} {S : St} {a : Act} {H : List Ob} {w w' : World} {F : Nat → Prop} {en : Env} {o : Oper} {K : St → Prop}

theorem Mem.pushExt (M : Mem C H w F en) {R : Obj → Prop} {x : Obj} (hr : R x) : Mem C (H ++ [.ext R]) (w.alloc x) F (en.pushVar w.heap.size) := by
  have hlen := M.heap.len
  have hb : (en.pushVar w.heap.size).blk H.length = w.heap.size := by simp only [Env.pushVar]; rw [← hlen]; exact upd_same _ _ _
  refine M.change (o := H.length) (.ext R) (by simp [Env.pushVar, hlen]) (by simp) (fun o' hn => getElem?_push_old _ hn) (by simp) (EnvLe.pushVar en _) (fun o' _ _ => ⟨rfl, rfl⟩) (touch_alloc w _ _) ?_ ?_
  · refine ⟨?_, x, ?_, hr⟩
    · rw [hb]; intro hF; exact absurd (M.bound _ hF) (by omega)
    · rw [hb]; exact heap_alloc_new w _
  · intro b h
    unfold Owner at h
    simp at h
    rw [hb] at h
    exact .inr (by omega)
theorem Mem.setExt (M : Mem C H w F en) {i : Nat} {R R' : Obj → Prop} (hi : H[i]? = some (.ext R)) (hg : w.grownBy w' (some (en.blk i))) (hx : ∃ x, w'.heap[en.blk i]? = some x ∧ R' x) : Mem C (H.set i (.ext R')) w' F en ∧ Later w F w' F := by
  have hlt : i < H.length := (List.getElem?_eq_some_iff.1 hi).1
  obtain ⟨hF, _⟩ := M.heap.ob i _ hi
  have hown : Owner en H i (en.blk i) := by unfold Owner; rw [hi]
  have T : Touch w w' (Owner en H i) := ⟨hg.os, hg.tape, hg.output, hg.size, fun b hb hn => hg.block b hb (fun e => hn (by injection e with e; subst e; exact hown))⟩
  refine ⟨M.change (o := i) (.ext R') (by simp [M.heap.len]) (by simp) (fun o' hn => by rw [List.getElem?_set_ne (Ne.symm hn)]) (by simp [hlt]) (EnvLe.refl en) (fun _ _ _ => ⟨rfl, rfl⟩) T ⟨hF, hx⟩ (fun b hb => ?_), M.later T⟩
  unfold Owner at hb
  simp [hlt] at hb
  subst hb
  exact .inl hown

theorem mp_inv {i : Nat} {x : Value} (h : Rep w F en (.mp i) x) : x = .map (some (en.blk i)) := by cases h; rfl

/-- A set is made. -/
theorem OpP.make (k e : TypeId) (ho : o.op = .makeMap t none) (hd : S.okD o.dst = true) (hK : putH S (S.heap ++ [.ext (mapI P k e [])]) o.dst (.mp S.heap.length) K) : OpP P o S K := by
  rw [putH_eq] at hK
  refine ⟨fun C a w F en Q h => ?_⟩
  have hr : (execOp a.eval o).run P w = .ok (.value (.map (some w.heap.size))) (w.alloc (.map #[] 0)) := by
    have : (Instr.makeMap t none).run P w = .ok (.map (some w.heap.size)) (w.alloc (.map #[] 0)) := rfl
    simp [execOp, ho, this, Result.andThen]
  have hb : (en.pushVar w.heap.size).blk S.heap.length = w.heap.size := by simp only [Env.pushVar]; rw [← h.mem.heap.len]; exact upd_same _ _ _
  have hlt : S.heap.length < (en.pushVar w.heap.size).len := by show S.heap.length < en.len + 1; rw [h.mem.heap.len]; omega
  have hm : mapI P k e [] (.map #[] 0) := by
    obtain ⟨es, clock, hb, F, _, hD⟩ := World.ownsMap_made w P k (plainElem (H := Unit) P e)
    have h1 := heap_alloc_new w (.map #[] 0)
    rw [h1] at hb
    injection hb with hb
    injection hb with hb1 hb2
    subst hb1 hb2
    exact ⟨List.nodup_nil, #[], 0, rfl, F, fun x => rfl, fun x zd hx => by cases hx⟩
  refine goes_value hr hK (h.next (h.mem.later (touch_alloc w _ (Owner en S.heap S.heap.length))) (EnvLe.pushVar en w.heap.size) (h.mem.pushExt hm) ?_ hd)
  have := Rep.mp (w := w.alloc (.map #[] 0)) (F := F) hlt
  rw [hb] at this
  exact this
/-- A key is put in. -/
theorem OpP.set {m x v : Operand} {i : Nat} {n : Int} (ho : o.op = .mapUpdate t m x v) (hd : S.okD o.dst = true) (hm : S.ev m = .mp i) (hi : S.heap[i]? = some (.ext (mapI P k e ks))) (hx : S.ev x = .v (.int .i64 n)) (hv : S.ev v = .v (.bool true))
    (ht : P.underlying t = some (.map k e)) (hk : P.underlying k = some (.int .i64)) (he : P.underlying e = some .bool) (hn : In64 n ∧ ks.length < 1073741824) (hK : putH S (S.heap.set i (.ext (mapI P k e (insI ks n)))) o.dst .dead K) : OpP P o S K := by
  rw [putH_eq] at hK
  refine ⟨fun C a w F en Q h => ?_⟩
  have h1 := h.here.ev m
  have h2 := h.here.ev x
  have h3 := h.here.ev v
  rw [hm] at h1; rw [hx] at h2; rw [hv] at h3
  have h1 := mp_inv h1
  have h2 := h2.v_inv
  have h3 := h3.v_inv
  obtain ⟨hF, ob, hb, hmap⟩ := h.mem.heap.ob i _ hi
  obtain ⟨D, hown, d1, d2⟩ := hmap.own hb hk
  have hkey := keyOf_int_mk (P := P) hk (wf_in hn.1)
  obtain ⟨w', hrun, hown', hg⟩ := hown.update (int_keyed hk) ht (by unfold maxLen; omega) hkey (plainElem_bool he true)
  have hkl : WideAt.IsKeyLit (Lit.int .i64 n) := trivial
  have hmp := isMap_own hown
  have hob := mapI.mk (ks := insI ks n) hown' (insI_nodup hmap.1 n) (fun y => by
    by_cases hy : y = n
    · subst hy; rw [has_put_same hmp hkl]; simp [insI_mem]
    · rw [has_put_other (by simpa using hy), d1]; simp [insI_mem, hy]) (fun y zd hy => by
    by_cases hyn : y = n
    · subst hyn; rw [atKey_put_same hmp hkl]
    · rw [atKey_put_other (by simpa using hyn)]
      exact d2 y zd (by rcases (insI_mem ks n y).1 hy with h | h; exact absurd h hyn; exact h))
  obtain ⟨M', L⟩ := h.mem.setExt hi hg hob
  have hr : (execOp a.eval o).run P w = .ok .skip w' := by
    simp [execOp, ho, h1, h2, h3, hrun, Result.andThen]
  exact goes_skip hr hK (h.next L (EnvLe.refl en) M' .dead hd)
/-- Is a key in? -/
theorem OpP.get {m x : Operand} {i : Nat} {n : Int} (ho : o.op = .lookup t m x false) (hd : S.okD o.dst = true) (hm : S.ev m = .mp i) (hi : S.heap[i]? = some (.ext (mapI P k e ks))) (hx : S.ev x = .v (.int .i64 n))
    (ht : P.underlying t = some (.map k e)) (hk : P.underlying k = some (.int .i64)) (he : P.underlying e = some .bool) (hz : ∀ w, (zeroValue e).run P w = .ok (.bool false) w) (hn : In64 n) (hK : putS S o.dst (.v (.bool (decide (n ∈ ks)))) K) : OpP P o S K := by
  rw [putS_eq] at hK
  refine ⟨fun C a w F en Q h => ?_⟩
  have h1 := h.here.ev m
  have h2 := h.here.ev x
  rw [hm] at h1; rw [hx] at h2
  have h1 := mp_inv h1
  have h2 := h2.v_inv
  obtain ⟨hF, ob, hb, hmap⟩ := h.mem.heap.ob i _ hi
  obtain ⟨D, hown, d1, d2⟩ := hmap.own hb hk
  have hkey := keyOf_int_mk (P := P) hk (wf_in hn)
  obtain ⟨v, ps, hrun, hR⟩ := hown.lookup (int_keyed hk) ht (hz w) (plainElem_bool he false) hkey
  have hval : v = .bool (decide (n ∈ ks)) := by
    have hat : D.atKey (.int .i64 n) (.lit (.bool false)) = .lit (.bool (decide (n ∈ ks))) := by
      by_cases hin : n ∈ ks
      · rw [d2 n _ hin]; simp [hin]
      · rw [atKey_of_not_has (by rw [d1]; simp [hin])]; simp [hin]
    rw [hat] at hR
    unfold plainElem at hR
    rw [he] at hR
    cases v <;> simp at hR
    rw [hR.1]
  have hr : (execOp a.eval o).run P w = .ok (.value v) w := by
    simp [execOp, ho, h1, h2, hrun, Result.andThen]
  rw [hval] at hr
  exact goes_value hr hK (h.next (Later.refl w F) (EnvLe.refl en) h.mem .v hd)
/-- A key is taken out. -/
theorem OpP.del {m x : Operand} {i : Nat} {n : Int} (ho : o.op = .call { callee := .builtin .delete, args := #[m, x], argTypes := #[t, k] }) (hd : S.okD o.dst = true) (hm : S.ev m = .mp i) (hi : S.heap[i]? = some (.ext (mapI P k e ks))) (hx : S.ev x = .v (.int .i64 n))
    (ht : P.underlying t = some (.map k e)) (hk : P.underlying k = some (.int .i64)) (he : P.underlying e = some .bool) (hn : In64 n) (hK : putH S (S.heap.set i (.ext (mapI P k e (delI ks n)))) o.dst .dead K) : OpP P o S K := by
  rw [putH_eq] at hK
  refine ⟨fun C a w F en Q h => ?_⟩
  have h1 := h.here.ev m
  have h2 := h.here.ev x
  rw [hm] at h1; rw [hx] at h2
  have h1 := mp_inv h1
  have h2 := h2.v_inv
  obtain ⟨hF, ob, hb, hmap⟩ := h.mem.heap.ob i _ hi
  obtain ⟨D, hown, d1, d2⟩ := hmap.own hb hk
  have hkey := keyOf_int_mk (P := P) hk (wf_in hn)
  obtain ⟨w', hrun, hown', ht'⟩ := hown.drop (int_keyed hk) ht hkey o.type
  have hob := mapI.mk (ks := delI ks n) hown' (delI_nodup hmap.1 n) (fun y => by
    by_cases hy : y = n
    · subst hy; rw [has_del_same]; simp [delI_mem]
    · rw [has_del_other (by simpa using hy), d1]; simp [delI_mem, hy]) (fun y zd hy => by
    obtain ⟨hy1, hy2⟩ := (delI_mem ks n y).1 hy
    rw [atKey_del_other (by simpa using hy2)]
    exact d2 y zd hy1)
  obtain ⟨M', L⟩ := h.mem.setExt hi ht'.grown hob
  have hr : (execOp a.eval o).run P w = .ok (.value (.tuple #[])) w' := by
    simp [execOp, ho, resolve, invoke, builtin, h1, h2, hrun, Result.andThen]
  exact goes_value hr hK (h.next L (EnvLe.refl en) M' .dead hd)
end
end Go.Ab
