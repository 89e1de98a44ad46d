/- A variable that is an array becomes a row that is ours; rounds of a loop told one by one. -/
import Derived.Test.YthhddlhgkejhbaaStAbsW
import Derived.LoopN
namespace Go.Ab
set_option linter.unusedVariables false
set_option linter.unusedSimpArgs false
section
variable {P : Program} {C : Ctx} {S : St} {a : Act} {H : List Ob} {w : World} {F : Nat → Prop} {e : Env}

theorem Mem.pushOwn (M : Mem C H w F e) {el sz : Nat} {xs : List (List AV)} {x : Value} (hr : OwnRow w F el sz xs x) (hb : ∀ n c b, x = .slice (some ⟨b, 0, none⟩) n c → (∀ o, ¬ Owner e H o b) ∧ (C.w0.heap.size ≤ b ∨ C.own0 b)) :
    Mem C (H ++ [.row el sz xs]) w F (e.pushRow xs.length x) := by
  have hlen := M.heap.len
  have E := EnvLe.pushRow e xs.length x
  have h1 : (e.pushRow xs.length x).rlen H.length = xs.length := by simp only [Env.pushRow]; rw [← hlen]; exact upd_same _ _ _
  have h2 : (e.pushRow xs.length x).rowv H.length = x := by simp only [Env.pushRow]; rw [← hlen]; exact upd_same _ _ _
  have hlt : ∀ o b, Owner e H o b → o < H.length := by
    intro o b h
    unfold Owner at h
    cases hg : H[o]? with
    | none => rw [hg] at h; exact h.elim
    | some y => exact (List.getElem?_eq_some_iff.1 hg).1
  have old : ∀ o b, o < H.length → (Owner (e.pushRow xs.length x) (H ++ [.row el sz xs]) o b ↔ Owner e H o b) := by
    intro o b ho
    unfold Owner
    rw [List.getElem?_append_left ho]
    have e1 : (e.pushRow xs.length x).blk o = e.blk o := E.blk o (by omega)
    have e2 : (e.pushRow xs.length x).rowv o = e.rowv o := by simp only [Env.pushRow]; exact upd_other _ _ _ (by omega)
    cases H[o]? with
    | none => simp
    | some y => cases y <;> simp [e1, e2]
  have new : ∀ b, Owner (e.pushRow xs.length x) (H ++ [.row el sz xs]) H.length b → ∃ n c, x = .slice (some ⟨b, 0, none⟩) n c := by
    intro b h
    unfold Owner at h
    simp at h
    rw [h2] at h
    exact h
  have bound : ∀ o b, Owner (e.pushRow xs.length x) (H ++ [.row el sz xs]) o b → o < H.length ∨ o = H.length := by
    intro o b h
    unfold Owner at h
    cases hg : (H ++ [Ob.row el sz xs])[o]? with
    | none => rw [hg] at h; exact h.elim
    | some y =>
      have := (List.getElem?_eq_some_iff.1 hg).1
      simp at this
      omega
  refine ⟨⟨by simp [Env.pushRow, hlen], fun o y hy => ?_, fun o o' b ho ho' => ?_⟩, M.mod, fun o b ho => ?_, M.sub, M.bound, M.fresh, M.env.trans E⟩
  · rcases Nat.lt_or_ge o H.length with hlo | hge
    · rw [List.getElem?_append_left hlo] at hy
      exact ObRep.keep hy (by omega) (M.heap.ob o y hy) (Later.refl w F) (fun b hb => .inl hb) E (by simp only [Env.pushRow]; exact upd_other _ _ _ (by omega)) (by simp only [Env.pushRow]; exact upd_other _ _ _ (by omega)) (fun b hb => rfl)
    · have : o = H.length := by
        have := (List.getElem?_eq_some_iff.1 hy).1
        simp at this
        omega
      subst this
      simp at hy
      subst hy
      exact ⟨h1, by rw [h2]; exact hr⟩
  · rcases bound o b ho with h | h <;> rcases bound o' b ho' with h' | h'
    · exact M.heap.one o o' b ((old o b h).1 ho) ((old o' b h').1 ho')
    · subst h'
      obtain ⟨n, c, hx⟩ := new b ho'
      exact absurd ((old o b h).1 ho) ((hb n c b hx).1 o)
    · subst h
      obtain ⟨n, c, hx⟩ := new b ho
      exact absurd ((old o' b h').1 ho') ((hb n c b hx).1 o')
    · omega
  · rcases bound o b ho with h | h
    · exact M.ours o b ((old o b h).1 ho)
    · subst h
      obtain ⟨n, c, hx⟩ := new b ho
      exact (hb n c b hx).2

/-- A variable that is an array of one cell each becomes a row of ours; the register that points to it points to the row. -/
theorem weak_arr (t o T n : Nat) (cs : List AV) (ht : S.regs t = .ptr o 0) (ho : S.heap[o]? = some (.var T cs)) (h1 : ones cs = true) (hv : withins 0 cs = true) (hn : cs.length = n) (hmax : Nat.ble n 1000 = true) :
    Weak S ⟨S.n, S.base, upd S.regs t (.rptr S.heap.length n 1 0 0), S.heap.set o .gone ++ [.row T 1 (cs.map fun s => [s])]⟩ := by
  subst hn
  refine ⟨fun C a w F e h => ?_⟩
  have hlo : o < S.heap.length := (List.getElem?_eq_some_iff.1 ho).1
  obtain ⟨hF, vs, hblk, hsz, hrep⟩ := h.mem.heap.ob o _ ho
  have hown : Owner e S.heap o (e.blk o) := by unfold Owner; rw [ho]
  have hrow : OwnRow w F T 1 (cs.map fun s => [s]) (.slice (some ⟨e.blk o, 0, none⟩) cs.length cs.length) := by
    refine ⟨fun i x hx => ?_, .inr ⟨e.blk o, cs.length, vs, by rw [List.length_map], hF, hblk, by omega, by rw [List.length_map]; exact Nat.le_refl _, by have := Nat.le_of_ble_eq_true hmax; unfold maxLen; omega, fun i x j s hx hj => ?_⟩⟩
    · rw [List.getElem?_map] at hx
      cases hg : cs[i]? with
      | none => rw [hg] at hx; cases hx
      | some s =>
        rw [hg] at hx
        injection hx with hx
        subst hx
        refine ⟨rfl, ?_⟩
        have := List.all_eq_true.1 h1 s (List.mem_of_getElem? hg)
        simp [ones, this]
    · rw [List.getElem?_map] at hx
      cases hg : cs[i]? with
      | none => rw [hg] at hx; cases hx
      | some s' =>
        rw [hg] at hx
        injection hx with hx
        subst hx
        have hj0 : j = 0 := by
          have := (List.getElem?_eq_some_iff.1 hj).1
          simpa using this
        subst hj0
        simp at hj
        subst hj
        have hi : i < cs.length := (List.getElem?_eq_some_iff.1 hg).1
        refine ⟨vs.getD i undef, ?_, ?_⟩
        · rw [Nat.mul_one, Nat.add_zero]; exact getElem?_of_getD (by omega)
        · exact (withins_cut (m := 0) cs (fun j => vs.getD j undef) hv hrep i s' hg).mono (Later.refl w F) ⟨Nat.le_refl 0, fun _ h => absurd h (Nat.not_lt_zero _), fun _ h => absurd h (Nat.not_lt_zero _)⟩
  have M1 := h.mem.letgo o
  have M := M1.pushOwn hrow (fun n c b hx => by
    injection hx with hx _ _
    injection hx with hx
    injection hx with hx _ _
    subst hx
    refine ⟨fun o' ho' => ?_, h.mem.ours o _ hown⟩
    unfold Owner at ho'
    rw [List.getElem?_set] at ho'
    by_cases hoo : o = o'
    · rw [if_pos hoo] at ho'
      rw [if_pos (by first | exact hlo | omega)] at ho'
      exact ho'.elim
    · rw [if_neg hoo] at ho'
      exact hoo (h.mem.heap.one o o' _ hown ho'))
  rw [List.length_map] at M
  refine ⟨F, e.pushRow cs.length (.slice (some ⟨e.blk o, 0, none⟩) cs.length cs.length), h.defers, h.size, h.base, fun s => ?_, M⟩
  simp only
  by_cases hs : s = t
  · subst hs
    rw [upd_same]
    have hv := h.regs s
    rw [ht] at hv
    obtain ⟨_, hv⟩ := hv.ptr_inv
    rw [hv]
    have hlen := h.mem.heap.len
    have hlt : S.heap.length < (e.pushRow cs.length (.slice (some ⟨e.blk o, 0, none⟩) cs.length cs.length)).len := by show S.heap.length < e.len + 1; rw [hlen]; omega
    have := Rep.rptr (w := w) (F := F) (e := e.pushRow cs.length (.slice (some ⟨e.blk o, 0, none⟩) cs.length cs.length)) (o := S.heap.length) (n := cs.length) (sz := 1) (i := 0) (off := 0) (b := e.blk o) (m := cs.length) (c := cs.length) hlt
      (by simp only [Env.pushRow]; rw [← hlen, upd_same]) (by simp only [Env.pushRow]; rw [← hlen, upd_same])
    simpa using this
  · rw [upd_other _ _ _ hs]
    exact (h.regs s).mono (Later.refl w F) (EnvLe.pushRow e _ _)
end

/-! ### Rounds, one by one -/
structure TriL (P : Program) (c : Code) (Q : Exit → St → Prop) (n : Nat) (S : St) : Prop where
  out : ∀ C a w F e, Sat C S a w F e → Code.rounds P c (fun x a' w' => ∃ S' F' e', Q x S' ∧ Sat C S' a' w' F' e') n a w
theorem Tri.rounds {P : Program} {c : Code} {Q : Exit → St → Prop} {S : St} (n : Nat) (h : TriL P c Q n S) : Tri P (.loop c) S Q :=
  ⟨fun C a w F e hs => wp_loop_rounds n (h.out C a w F e hs)⟩
theorem TriL.step {P : Program} {c : Code} {Q : Exit → St → Prop} {S : St} {n : Nat} (h : Tri P c S fun x S' => match x with | .normal => TriL P c Q n S' | x => Q x S') : TriL P c Q (n + 1) S := by
  refine ⟨fun C a w F e hs => ?_⟩
  rw [rounds_succ]
  refine wp_mono (h.out C a w F e hs) ?_
  rintro ex a' w' ⟨S', F', e', hq, hs'⟩
  cases ex with
  | normal => exact hq.out C a' w' F' e' hs'
  | _ => exact ⟨S', F', e', hq, hs'⟩
end Go.Ab
