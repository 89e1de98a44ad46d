/- Calls; and the one theorem on a step. -/
import Derived.Test.YthhddlhgkejhbaaStAbsO
namespace Go.Ab
set_option linter.unusedVariables false
set_option linter.unusedSimpArgs false
section
variable {P : Program} {G : Gm} {C : Ctx} {S : St} {a : Act} {H H' : List Ob} {w w' : World} {F F' : Nat → Prop} {e e' : Env}

theorem Froze.trans {H1 H2 H3 : List Ob} (h : Froze H1 H2) (k : Froze H2 H3) : Froze H1 H3 := by
  refine ⟨k.1.trans h.1, fun o => ?_⟩
  rcases h.2 o with h1 | ⟨el, sz, xs, h1, h2⟩ <;> rcases k.2 o with k1 | ⟨el', sz', xs', k1, k2⟩
  · exact .inl (k1.trans h1)
  · exact .inr ⟨el', sz', xs', h1 ▸ k1, k2⟩
  · exact .inr ⟨el, sz, xs, h1, k1.trans h2⟩
  · rw [h2] at k1; cases k1

theorem frozeL : ∀ (cs : List AV) (H : List Ob), Froze H (frzL H cs)
  | [], H => Froze.refl H
  | a :: r, H => ((Froze.refl H).step a).trans (frozeL r _)
theorem frozeA (a : AV) (H : List Ob) : Froze H (frzA H a) := by
  unfold frzA
  split
  · exact frozeL _ H
  · exact (Froze.refl H).step _

theorem purA_sound {H0 : List Ob} (hf : Froze H0 H) (M : Mem C H w F e) {a : AV} {x : Value} (hx : Rep w F e a x) {k : AV → Prop} (h : purA H0 a k) :
    ∃ a' F', k a' ∧ Later w F w F' ∧ Mem C (frzA H a) w F' e ∧ Rep w F' Env.nil a' x := by
  unfold purA at h
  split at h
  · rename_i cs
    obtain ⟨vs, rfl, h1, h2⟩ := hx.agg_inv
    obtain ⟨cs', F', hk, L, M', l, r, _⟩ := purL_sound cs hf M (fun j => vs.getD j undef) h2 h
    exact ⟨_, F', hk, L, M', .agg (by rw [l]; exact h1) r⟩
  · rename_i hne
    obtain ⟨a', F', hk, L, M', r, _⟩ := purC_sound hf M hx h
    refine ⟨a', F', hk, L, ?_, r⟩
    unfold frzA
    split
    · exact absurd rfl (hne _)
    · exact M'

theorem purAs_sound {H0 : List Ob} : ∀ (as : List AV) {H : List Ob} {F : Nat → Prop} (hf : Froze H0 H) (M : Mem C H w F e) (f : Nat → Value) (hx : ∀ (j : Nat) s, as[j]? = some s → Rep w F e s (f j)) {k : List AV → Prop} (h : purAs H0 as k),
    ∃ as' F', k as' ∧ Later w F w F' ∧ Mem C (frzAs H as) w F' e ∧ as'.length = as.length ∧ (∀ (j : Nat) s, as'[j]? = some s → Rep w F' Env.nil s (f j))
  | [], H, F, hf, M, f, hx, k, h => ⟨[], F, h, Later.refl w F, M, rfl, fun j s hj => by simp at hj⟩
  | a :: r, H, F, hf, M, f, hx, k, h => by
    simp only [purAs] at h
    obtain ⟨a', F1, h1, L1, M1, r1⟩ := purA_sound hf M (hx 0 a rfl) h
    obtain ⟨as', F2, h2, L2, M2, l2, r2⟩ := purAs_sound r (hf.trans (frozeA a H)) M1 (fun j => f (j + 1)) (fun j s hj => (hx (j + 1) s (by simpa using hj)).mono L1 (EnvLe.refl e)) h1
    refine ⟨a' :: as', F2, h2, L1.trans L2, M2, by simp [l2], fun j s hj => ?_⟩
    cases j with
    | zero => simp at hj; subst hj; exact r1.mono L2 (EnvLe.refl _)
    | succ j => exact r2 j s (by simpa using hj)

theorem scalar_rep {r : AV} (hs : scalarB r = true) {x : Value} (h : Rep w F e r x) {w' : World} {F' : Nat → Prop} {e' : Env} : Rep w' F' e' r x := by
  cases r <;> simp only [scalarB, Bool.false_eq_true] at hs
  case v y => rw [h.v_inv]; exact .v
  case tup vs =>
    obtain ⟨us, rfl, h1, h2⟩ := h.tup_inv
    refine .tup h1 (fun j s hj => ?_)
    have := List.all_eq_true.1 hs s (List.mem_of_getElem? hj)
    have h3 := h2 j s hj
    cases s <;> simp only [isV, Bool.false_eq_true] at this
    rw [h3.v_inv]; exact .v

theorem call_run {o : Oper} {c : Call} {f : Operand} {g : FuncId} {fs cs : Array Value} (ho : o.op = .call c) (hc : c.callee = .value f) (hf : a.eval f = .func (.func g) fs cs) (hg : Callable P g) :
    (execOp a.eval o).run P w = .ok (.enter g (fs ++ c.args.map a.eval ++ cs)) w := by
  simp [execOp, ho, resolve, hc, hf, Deferred.ofValue, invoke, run_callFunc hg]

theorem args_rep (h : Here S a w F e) {first caps : List AV} {fs cs : Array Value} (args : Array Operand) (h1 : RepCells w F e first fs) (h2 : RepCells w F e caps cs) :
    RepCells w F e (first ++ args.toList.map S.ev ++ caps) (fs ++ args.map a.eval ++ cs) := by
  have hm : RepCells w F e (args.toList.map S.ev) (args.map a.eval) := by
    refine ⟨by simp, fun j s hj => ?_⟩
    rw [List.getElem?_map] at hj
    cases hx : args.toList[j]? with
    | none => rw [hx] at hj; cases hj
    | some x =>
      rw [hx] at hj
      simp at hj
      subst hj
      have hx' : args[j]? = some x := by simpa using hx
      rw [Array.getD_eq_getD_getElem?, Array.getElem?_map, hx']
      exact h.ev x
  have app : ∀ {xs ys : List AV} {us vs : Array Value}, RepCells w F e xs us → RepCells w F e ys vs → RepCells w F e (xs ++ ys) (us ++ vs) := by
    intro xs ys us vs p q
    refine ⟨by simp [p.1, q.1], fun j s hj => ?_⟩
    rw [Array.getD_eq_getD_getElem?, Array.getElem?_append]
    rcases Nat.lt_or_ge j xs.length with hlt | hge
    · rw [List.getElem?_append_left hlt] at hj
      rw [if_pos (by rw [p.1]; exact hlt), ← Array.getD_eq_getD_getElem?]
      exact p.2 j s hj
    · rw [List.getElem?_append_right hge] at hj
      rw [if_neg (by rw [p.1]; omega), p.1, ← Array.getD_eq_getD_getElem?]
      exact q.2 _ s hj
  exact app (app h1 hm) h2

theorem call_goes (h : Sat C S a w F e) {o : Oper} {c : Call} {f : Operand} {g : FuncId} {first caps : List AV} (ho : o.op = .call c) (hc : c.callee = .value f) (hf : S.ev f = .fn (.func g) first caps) {K : St → Prop} {Q : Exit → Act → World → Prop}
    (hd : S.okD o.dst = true) (hs : callS P G S g (first ++ c.args.toList.map S.ev ++ caps) fun r S' => K (S'.put o.dst r)) : Goes P C o a w K Q := by
  have hfr := h.here.ev f
  rw [hf] at hfr
  generalize hX : a.eval f = X at hfr
  cases hfr with
  | @fn _ _ _ _ fs cs s1 s2 r1 r2 =>
    have hargs := args_rep h.here c.args (first := first) (caps := caps) (fs := fs) (cs := cs) ⟨s1, r1⟩ ⟨s2, r2⟩
    unfold callS at hs
    split at hs
    · split at hs
      · rename_i p hp0
        obtain ⟨as', F1, hp, L1, M1, l1, rr⟩ := purAs_sound _ (Froze.refl S.heap) h.mem (fun j => (fs ++ c.args.map a.eval ++ cs).getD j undef) hargs.2 hs
        have hrun := call_run (P := P) (w := w) (a := a) ho hc hX hp.call
        unfold Goes Oper.wp
        rw [hrun]
        refine (hp.run w F1 _ M1.bound ⟨by rw [l1]; exact hargs.1, rr⟩).mono ?_
        rintro en w' ⟨xs, x, F', rfl, hK, hrow, hblk, k1, k2, k3, T⟩
        have M' := M1.calm T k1 k2 k3
        have L2 : Later w F1 w' F' := ⟨k1, fun b hb => T.block b (M1.bound b hb) (fun h => h)⟩
        obtain ⟨M2, hx⟩ := M'.adopt hrow (fun b hb ho => by
          have := ho.choose_spec.lt M1.heap
          have := hblk b hb
          omega) (fun b hb => .inl (Nat.le_trans M1.mod.size (hblk b hb)))
        exact ⟨_, F', _, hK, h.next (L1.trans L2) (EnvLe.pushRow e _ _) M2 hx hd⟩
      obtain ⟨as', F1, hp, L1, M1, l1, rr⟩ := purAs_sound _ (Froze.refl S.heap) h.mem (fun j => (fs ++ c.args.map a.eval ++ cs).getD j undef) hargs.2 hs
      have hrun := call_run (P := P) (w := w) (a := a) ho hc hX hp.call
      unfold Goes Oper.wp
      rw [hrun]
      refine (hp.run w F1 _ M1.bound ⟨by rw [l1]; exact hargs.1, rr⟩).mono ?_
      rintro en w' ⟨r, x, F', rfl, hK, hr, k1, k2, k3, T⟩
      split at hK
      · rename_i hsc
        have M' := h.mem.calm T (fun b hb => hb) (fun b hb => .inl hb) (fun b hb => Nat.lt_of_lt_of_le (h.mem.bound b hb) T.size)
        exact ⟨_, F, e, hK, h.next (h.mem.later (T.mono (own' := Owner e S.heap 0) fun _ h => h.elim)) (EnvLe.refl e) M' (scalar_rep hsc hr) hd⟩
      · have M' := M1.calm T k1 k2 k3
        have L2 : Later w F1 w' F' := ⟨k1, fun b hb => T.block b (M1.bound b hb) (fun h => h)⟩
        exact ⟨_, F', e, hK, h.next (L1.trans L2) (EnvLe.refl e) M' hr.env hd⟩
    · split at hs
      · split at hs
        case h_2 => exact hs.elim
        rename_i ob n rest hargseq
        split at hs
        case h_2 => exact hs.elim
        rename_i el sz xs hob
        have hh := hs.elim
        clear hs
        obtain ⟨hpur, ⟨hn, hs⟩⟩ := hh
        rw [hargseq] at hargs
        have hsz : (fs ++ c.args.map a.eval ++ cs).size = rest.length + 1 := by rw [hargs.1]; simp
        obtain ⟨v, vs, hvs⟩ : ∃ v vs, fs ++ c.args.map a.eval ++ cs = #[v] ++ vs := by
          cases hl : (fs ++ c.args.map a.eval ++ cs).toList with
          | nil =>
            have : (fs ++ c.args.map a.eval ++ cs).toList.length = 0 := by rw [hl]; rfl
            rw [Array.length_toList] at this; omega
          | cons v r => exact ⟨v, r.toArray, by apply Array.ext'; rw [hl]; simp⟩
        rw [hvs] at hargs hsz
        have hv0 := hargs.2 0 _ rfl
        have hvr : ∀ (j : Nat) s, rest[j]? = some s → Rep w F e s (vs.getD j undef) := by
          intro j s hj
          have := hargs.2 (j + 1) s (by simpa using hj)
          rw [Array.getD_eq_getD_getElem?, Array.getElem?_append_right (by simp)] at this
          rw [Array.getD_eq_getD_getElem?]
          simpa using this
        obtain ⟨as', F1, hp, L1, M1, l1, rr⟩ := purAs_sound rest (Froze.refl S.heap) h.mem (fun j => vs.getD j undef) hvr hs
        have hv1 : v = e.rowv ob := by
          have h1 : Rep w F e (.row ob n) v := by
            have h2 := hv0
            rw [Array.getD_eq_getD_getElem?, Array.getElem?_append_left (by simp)] at h2
            simpa using h2
          have hrl := (M1.heap.ob ob _ hob).1
          cases h1 with
          | row hl hn' hv => exact hv.symm
          | rowold hl hn' => omega
        have hrow := (M1.heap.ob ob _ hob).2
        rw [← hv1] at hrow
        have hrun := call_run (P := P) (w := w) (a := a) ho hc hX hp.call
        rw [hvs] at hrun
        unfold Goes Oper.wp
        rw [hrun]
        refine (hp.run w F1 v _ M1.bound hrow ⟨by rw [l1]; simp at hsz; omega, rr⟩).mono ?_
        rintro en w' ⟨ys, x, F', rfl, hK, hrow', hblk, k1, k2, k3, T⟩
        have hownv : ∀ b, v.ownBlock = some b → Owner e (frzAs S.heap rest) ob b := fun b hb => own_block hob M1 (by rw [← hv1]; exact hb)
        have Mg := M1.letgo ob
        have hgone : ∀ o' b, Owner e ((frzAs S.heap rest).set ob .gone) o' b → o' ≠ ob ∧ Owner e (frzAs S.heap rest) o' b := by
          intro o' b ho'
          unfold Owner at ho'
          rw [List.getElem?_set] at ho'
          by_cases hn2 : ob = o'
          · subst hn2
            have hl := (List.getElem?_eq_some_iff.1 hob).1
            rw [if_pos rfl] at ho'
            first | (rw [if_pos hl] at ho'; exact ho'.elim) | exact ho'.elim
          · rw [if_neg hn2] at ho'
            exact ⟨Ne.symm hn2, ho'⟩
        obtain ⟨Ma, La⟩ := Mg.aside (F' := F') T (fun b hb => (hownv b hb).notF M1.heap) (fun b hb ⟨o', ho'⟩ => (hgone o' b ho').1 (M1.heap.one _ _ _ (hgone o' b ho').2 (hownv b hb))) (fun b hb => M1.ours _ _ (hownv b hb)) k1 k2 k3
        obtain ⟨M2, hx⟩ := Ma.adopt hrow' (fun b hb ⟨o', ho'⟩ => by
          obtain ⟨h1, h2⟩ := hgone o' b ho'
          rcases hblk b hb with k | k
          · exact h1 (M1.heap.one _ _ _ h2 (hownv b k))
          · have := h2.lt M1.heap; omega) (fun b hb => by
          rcases hblk b hb with k | k
          · exact M1.ours _ _ (hownv b k)
          · exact .inl (Nat.le_trans M1.mod.size k))
        exact ⟨_, F', _, hK, h.next (L1.trans La) (EnvLe.pushRow e _ _) M2 hx hd⟩
      have hrun := call_run (P := P) (w := w) (a := a) ho hc hX hs.call
      unfold Goes Oper.wp
      rw [hrun]
      refine (hs.run C w F e _ h.mem hargs).mono ?_
      rintro en w' ⟨r, x, H', F', e', rfl, hK, M', hr, E, L⟩
      exact ⟨_, F', e', hK, h.next L E M' hr hd⟩

theorem step_sound (hG : TyOk P G.tys) (h : Sat C S a w F e) (o : Oper) (K : St → Prop) (Q : Exit → Act → World → Prop) (hs : step P G S o K) : Goes P C o a w K Q := by
  have hh := hs.elim
  clear hs
  obtain ⟨hd, hs⟩ := hh
  split at hs
  · rename_i T ho
    split at hs
    · rename_i ti ht; exact alloc_goes hG h ho ht hd hs
    · exact hs.elim
  · rename_i T x ho
    split at hs
    · rename_i cs hc; exact box_goes h ho hc hd hs
    · exact hs.elim
  · rename_i T A x ho
    split at hs
    · rename_i ti ys ht hc; have hq := hs.elim.1; simp only [Bool.and_eq_true] at hq; exact store_goes hG h ho ht hc hd (Nat.eq_of_beq_eq_true hq.1) hq.2 hs.elim.2
    · exact hs.elim
  · rename_i T n parts ho
    split at hs
    case h_2 => exact hs.elim
    rename_i tl htl
    split at hs
    case h_2 => exact hs.elim
    rename_i el hu
    split at hs
    case h_2 => exact hs.elim
    rename_i te hte
    have hq := hs.elim.1
    simp only [Bool.and_eq_true] at hq
    exact buildSlice_goes hG h ho htl hu hte hd (by rw [← Array.length_toList]; exact Nat.eq_of_beq_eq_true hq.1.1) (Nat.le_of_ble_eq_true hq.1.2) (Nat.le_of_ble_eq_true hq.2) hs.elim.2
  · rename_i c ho
    unfold callOp at hs
    split at hs
    · rename_i b hc
      split at hs
      · rename_i s x T T' h1 h2
        have hh := hs.eqn
        clear hs
        obtain ⟨rfl, hs⟩ := hh
        exact append_goes hG h ho hc h1 h2 hd hs
      · rename_i x T h1 h2
        exact clear_goes hG h ho hc h1 h2 hd hs
      · exact val_goes hG h hd (by rw [ho] at hs; rw [ho]; exact hs)
    · rename_i f hc
      split at hs
      · rename_i g first caps hf
        exact call_goes h ho hc hf hd hs
      · exact hs.elim
    · exact hs.elim
  · exact val_goes hG h hd hs

end
end Go.Ab
