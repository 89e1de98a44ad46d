/- Whole pieces of code: the machine does what the abstract run says. -/
import Derived.Test.YthhddlhgkejhbaaStAbsQs
import Derived.Deep.LoopGhost
namespace Go.Ab
set_option linter.unusedVariables false
set_option linter.unusedSimpArgs false
section
variable {P : Program} {G : Gm} {C : Ctx} {fst : Bool} {S S' : St} {a a' : Act} {w w' w0 : World} {F F' F0 : Nat → Prop} {e e' e0 : Env} {W : List Nat} {H0 : List Ob}

/-- What may have changed of the old blocks: rows of ours, and variables that are named. -/
def Open (e0 : Env) (W : List Nat) (H0 : List Ob) : Nat → Prop := fun b => ∃ o, Owner e0 (hideH W 0 H0) o b

/-- Where a walk by a plan stands. -/
structure At (C : Ctx) (W : List Nat) (H0 : List Ob) (w0 : World) (F0 : Nat → Prop) (e0 : Env) (first : Bool) (S : St) (a : Act) (w : World) (F : Nat → Prop) (e : Env) : Prop where
  sat : Sat C S a w F e
  agree : Agree (Open e0 W H0) w0 w
  env : EnvLe e0 e
  vis : ∀ o b, Owner e (hideH W 0 S.heap) o b → b < w0.heap.size → Open e0 W H0 b
  start : HRep w0 F0 e0 H0
  bound : ∀ b, F0 b → b < w0.heap.size
  same : first = true → F = F0

theorem yields_kept (h : At C W H0 w0 F0 e0 fst S a w F e) (hG : TyOk P G.tys) {o : Oper} {k : AV → Prop} (ht : takeB fst W H0 S o.op = true) (hv : valOp G.tys S o.op k) :
    ∃ r x, k r ∧ Rep w F e r x ∧ ∀ w', Agree (Open e0 W H0) w0 w' → (execOp a.eval o).run P w' = .ok (.value x) w' := by
  have hs := h.sat
  have any : ∀ (X : Nat → Prop), XOk X F e S o.op → (∀ w', Agree (Open e0 W H0) w0 w' → Agree X w w') → ∃ r x, k r ∧ Rep w F e r x ∧ ∀ w', Agree (Open e0 W H0) w0 w' → (execOp a.eval o).run P w' = .ok (.value x) w' := by
    intro X hX hag
    obtain ⟨r, x, hK, hr, hy⟩ := valOp_sound (X := X) hG hs.here o _ hX hv
    exact ⟨r, x, hK, hr, fun w' hw => hy w' (hag w' hw)⟩
  by_cases hl : ∃ T A, o.op = .load T A
  · obtain ⟨T, A, hl⟩ := hl
    rw [hl] at ht
    simp only [takeB] at ht
    split at ht
    · rename_i ob off hA
      unfold stillB at ht
      split at ht
      case h_2 => cases ht
      rename_i T' cs hob
      have hm : memB W ob = false := by cases hm : memB W ob with | false => rfl | true => rw [hm] at ht; cases ht
      have hi : ob < e0.len := by rw [h.start.len]; exact (List.getElem?_eq_some_iff.1 hob).1
      have hb0 : e.blk ob = e0.blk ob := h.env.blk ob hi
      have hown : Owner e0 H0 ob (e0.blk ob) := by unfold Owner; rw [hob]
      have hnot : ¬ Open e0 W H0 (e0.blk ob) := by
        rintro ⟨q, hq⟩
        obtain ⟨h1, h2⟩ := hide_owner hq
        have := h.start.one _ _ _ hown h1
        subst this
        have := h2 T' cs hob
        rw [hm] at this; cases this
      refine any (fun b => b ≠ e.blk ob) ⟨fun T1 A1 cs1 h1 h2 => ?_, fun T1 A1 o1 off1 h1 h2 => ?_, fun T1 A1 o1 n sz i off1 h1 h2 => ?_, fun s1 d1 A1 h1 => by rw [hl] at h1; cases h1⟩ (fun w' hw b hb hn => ?_)
      · rw [hl] at h1; injection h1 with _ h1; subst h1; rw [hA] at h2; cases h2
      · rw [hl] at h1; injection h1 with _ h1; subst h1; rw [hA] at h2; injection h2 with h2 _; subst h2; exact fun hh => hh rfl
      · rw [hl] at h1; injection h1 with _ h1; subst h1; rw [hA] at h2; cases h2
      · have : b = e0.blk ob := by rw [← hb0]; exact Classical.not_not.1 hn
        subst this
        have hlt := hown.lt h.start
        rw [hw _ hlt hnot, h.agree _ hlt hnot]
    · rename_i cs hA
      have hF := h.same ht
      refine any (fun b => ¬ F0 b) ⟨fun T1 A1 cs1 h1 h2 b hb => ?_, fun T1 A1 o1 off1 h1 h2 => ?_, fun T1 A1 o1 n sz i off1 h1 h2 => ?_, fun s1 d1 A1 h1 => by rw [hl] at h1; cases h1⟩ (fun w' hw b hb hn => ?_)
      · rw [hF] at hb; exact fun hh => hh hb
      · rw [hl] at h1; injection h1 with _ h1; subst h1; rw [hA] at h2; cases h2
      · rw [hl] at h1; injection h1 with _ h1; subst h1; rw [hA] at h2; cases h2
      · have hF0 : F0 b := Classical.not_not.1 hn
        have hnot : ¬ Open e0 W H0 b := fun ⟨q, hq⟩ => Owner.notF h.start (hide_owner hq).1 hF0
        rw [hw _ (h.bound b hF0) hnot, h.agree _ (h.bound b hF0) hnot]
    · cases ht
  · refine any (fun _ => True) ⟨fun T1 A1 cs1 h1 => absurd ⟨T1, A1, h1⟩ hl, fun T1 A1 o1 off1 h1 => absurd ⟨T1, A1, h1⟩ hl, fun T1 A1 o1 n sz i off1 h1 => absurd ⟨T1, A1, h1⟩ hl, fun s1 d1 A1 h1 => .inl (by rw [h1] at ht; simp only [takeB] at ht; split at ht; exact ⟨_, by assumption⟩; cases ht)⟩ (fun w' hw b hb hn => absurd trivial hn)

theorem At.put (h : At C W H0 w0 F0 e0 fst S a w F e) {d : Option Nat} {r : AV} {x : Value} (hr : Rep w F e r x) (hd : S.okD d = true) : At C W H0 w0 F0 e0 fst (S.put d r) (a.put d x) w F e := by
  refine ⟨?_, h.agree, h.env, ?_, h.start, h.bound, h.same⟩
  · have := h.sat.next (Later.refl w F) (EnvLe.refl e) h.sat.mem hr hd
    exact this
  · have : (S.put d r).heap = S.heap := by cases d <;> rfl
    rw [this]; exact h.vis
theorem At.swap (h : At C W H0 w0 F0 e0 fst S a w F e) {S1 : St} (hs : Sat C S1 a w F e) (hh : S1.heap = S.heap) : At C W H0 w0 F0 e0 fst S1 a w F e :=
  ⟨hs, h.agree, h.env, by rw [hh]; exact h.vis, h.start, h.bound, h.same⟩

/-- The guard's states differ from the one at hand in one register alone. -/
theorem guard_sound' {all : List Oper} (h : Sat C S a w F e) (o : Oper) {yes no : St → Prop} (hg : guardS S all o.guard yes no) :
    (Region.wanted o (yielded all.toArray a.tmps) = true ∧ ∃ S', yes S' ∧ Sat C S' a w F e ∧ S'.heap = S.heap) ∨ (Region.wanted o (yielded all.toArray a.tmps) = false ∧ ∃ S', no S' ∧ Sat C S' a w F e ∧ S'.heap = S.heap) := by
  have := guard_sound (all := all) h o (yes := fun S' => yes S' ∧ S'.heap = S.heap) (no := fun S' => no S' ∧ S'.heap = S.heap) ?_
  · rcases this with ⟨h1, S', ⟨h2, h3⟩, h4⟩ | ⟨h1, S', ⟨h2, h3⟩, h4⟩
    · exact .inl ⟨h1, S', h2, h4, h3⟩
    · exact .inr ⟨h1, S', h2, h4, h3⟩
  · unfold guardS at hg ⊢
    split at hg
    · exact ⟨hg, rfl⟩
    · split at hg
      case h_2 => exact hg.elim
      split at hg
      case h_2 => exact hg.elim
      split at hg
      case h_3 => exact hg.elim
      case h_2 => exact ⟨hg, rfl⟩
      rename_i b hb
      split at hg <;> simp only [CondP] at hg ⊢ <;> cases b <;> exact ⟨hg, rfl⟩

theorem mem_alts_none {ops : Array Oper} {n : Nat} {q : Plan} {f : Nat} {had : Array Bool} (h : planB ops n q f had false = true) : (∃ i p r, q = .alt i p r) ∨ q = .nil := by
  cases q with
  | fin => simp [planB] at h
  | take i p => simp [planB] at h
  | alt i p r => exact .inl ⟨i, p, r, rfl⟩
  | nil => exact .inr rfl

theorem plan_sound (hG : TyOk P G.tys) {all : List Oper} {n : Nat} {K : St → Prop} {R : Act → World → Prop} (hsel : Region.noSelect all.toArray = true) (hh : HeadOnly all.toArray n) :
    ∀ (pl : Plan) (f : Nat) (had : Array Bool) (fst top : Bool) (S : St) (a : Act) (w : World) (F : Nat → Prop) (e : Env), At C W H0 w0 F0 e0 fst S a w F e → HeadInv .any all.toArray n had → planB all.toArray n pl f had top = true → runPlan P G all W H0 pl fst S K →
      (top = true → Mix P all.toArray (Calm R) (Agree (Open e0 W H0) w0) n (fun a w => ∃ S F e, K S ∧ Sat C S a w F e) f had a w) ∧
      (top = false → ∀ i ∈ pl.alts, i ∈ Region.ready .any all.toArray had → i < n ∧ ∃ f', f = f' + 1 ∧ wpOp P all.toArray (Calm R) i (fun a' w' => Agree (Open e0 W H0) w0 w' ∧ Mix P all.toArray (Calm R) (Agree (Open e0 W H0) w0) n (fun a w => ∃ S F e, K S ∧ Sat C S a w F e) f' (had.setIfInBounds i true) a' w') a w) := by
  intro pl
  induction pl with
  | fin =>
    intro f had fst top S a w F e h inv hB hr
    simp only [planB, Bool.and_eq_true] at hB
    refine ⟨fun _ => ?_, fun ht => by rw [ht] at hB; simp at hB⟩
    obtain ⟨⟨_, hf⟩, hs⟩ := hB
    have hf0 : f = 0 := Nat.eq_of_beq_eq_true hf
    subst hf0
    exact ⟨hs, S, F, e, hr, h.sat⟩
  | take i p ih =>
    intro f had fst top S a w F e h inv hB hr
    refine ⟨fun ht => ?_, fun ht => by rw [ht] at hB; simp [planB] at hB⟩
    subst ht
    cases f with
    | zero => simp [planB] at hB
    | succ f =>
      simp only [planB, Bool.and_eq_true, Bool.true_and] at hB
      obtain ⟨⟨⟨hlt, hrd⟩, hfree⟩, hB⟩ := hB
      have hin : i < n := by simpa [Nat.blt_eq] using hlt
      have hrd' : i ∈ Region.ready .any all.toArray had := by simpa using hrd
      rw [runPlan_take] at hr
      obtain ⟨_, o, hoi, _⟩ := mem_ready.1 hrd'
      have hoi' : all[i]? = some o := by simpa using hoi
      rw [hoi'] at hr
      simp only [putS_eq, hookR_eq] at hr
      have hinv := inv.set hrd' hin
      rcases guard_sound' h.sat o hr with ⟨hw, S', hy, hS, hheap⟩ | ⟨hw, S', hdn, hS, hheap⟩
      · have hA := h.swap hS hheap
        obtain ⟨hd, hy⟩ := hy.elim
        obtain ⟨htk, hy⟩ := hy.elim
        obtain ⟨r, x, hk, hrep, hex⟩ := yields_kept hA hG htk hy
        refine mix_take hoi hsel hh hin Calm.noPanic f had a w inv (Region.free_spec hoi hfree) hrd' (.inl ⟨hw, hex⟩) hA.agree ?_
        exact (ih f _ fst true _ _ w F e (hA.put hrep hd) hinv hB hk).1 rfl
      · have hA := h.swap hS hheap
        obtain ⟨hd, hn⟩ := hdn.elim
        refine mix_take hoi hsel hh hin Calm.noPanic f had a w inv (Region.free_spec hoi hfree) hrd' (v := undef) (.inr ⟨hw, rfl⟩) hA.agree ?_
        exact (ih f _ fst true _ _ w F e (hA.put .v hd) hinv hB hn).1 rfl
  | alt i p q ihp ihq =>
    intro f had fst top S a w F e h inv hB hr
    have hB0 := hB
    simp only [planB, Bool.and_eq_true] at hB
    obtain ⟨⟨htop, hBp⟩, hBq⟩ := hB
    rw [runPlan_alt] at hr
    cases f with
    | zero => simp at hBp
    | succ f =>
      simp only [Bool.and_eq_true] at hBp
      obtain ⟨hlt, hBp⟩ := hBp
      have hin : i < n := by simpa [Nat.blt_eq] using hlt
      have each : ∀ j ∈ (Plan.alt i p q).alts, j ∈ Region.ready .any all.toArray had → j < n ∧ ∃ f', f + 1 = f' + 1 ∧ wpOp P all.toArray (Calm R) j (fun a' w' => Agree (Open e0 W H0) w0 w' ∧ Mix P all.toArray (Calm R) (Agree (Open e0 W H0) w0) n (fun a w => ∃ S F e, K S ∧ Sat C S a w F e) f' (had.setIfInBounds j true) a' w') a w := by
        intro j hj hjr
        simp only [Plan.alts, List.mem_cons] at hj
        by_cases hji : j = i
        · subst hji
          refine ⟨hin, f, rfl, ?_⟩
          obtain ⟨_, o, hoi, _⟩ := mem_ready.1 hjr
          have hoi' : all[j]? = some o := by simpa using hoi
          have hr1 := hr.l
          rw [hoi'] at hr1
          simp only [putS_eq, hideF_eq, unhideF_eq, step2_eq] at hr1
          have hinv := inv.set hjr hin
          unfold wpOp
          simp only [hoi]
          rcases guard_sound' h.sat o hr1 with ⟨hw, S', hy, hS, hheap⟩ | ⟨hw, S', hdn, hS, hheap⟩
          · have hA := h.swap hS hheap
            simp only [hw, if_true]
            left
            have hg := step_sound (C := Ctx.at w F e W S'.heap) hG (hS.hide W) o _ (Calm R) hy
            refine Oper.wp_mono ?_ hg
            rintro a' w' ⟨S2, F2, e2, hk, hs2⟩
            obtain ⟨hsat, hblk, hvis⟩ := hS.unhide hs2
            have hag : Agree (Open e0 W H0) w0 w' := by
              intro b hb hn
              have hbw : b < w.heap.size := by
                have := h.agree b hb hn
                rcases Nat.lt_or_ge b w.heap.size with hlt | hge
                · exact hlt
                · rw [Array.getElem?_eq_none hge, Array.getElem?_eq_getElem hb] at this; cases this
              rw [hblk b hbw (fun ⟨q, hq⟩ => hn (hA.vis q b hq hb))]
              exact h.agree b hb hn
            refine ⟨hag, (ihp f _ false true _ _ w' F2 e2 ⟨hsat, hag, h.env.trans hs2.mem.env, fun o b hb hlt => ?_, h.start, h.bound, fun hf => by cases hf⟩ hinv hBp hk).1 rfl⟩
            rcases hvis o b hb with h4 | ⟨q, hq⟩
            · by_cases hn : Open e0 W H0 b
              · exact hn
              · have := h.agree b hlt hn
                rw [Array.getElem?_eq_none h4, Array.getElem?_eq_getElem hlt] at this; cases this
            · exact hA.vis q b hq hlt
          · have hA := h.swap hS hheap
            simp only [hw, Bool.false_eq_true, if_false]
            obtain ⟨hd, hn⟩ := hdn.elim
            have hA2 := hA.put (x := undef) .v hd
            refine ⟨hA.agree, (ihp f _ false true _ _ w F e ⟨hA2.sat, hA2.agree, hA2.env, hA2.vis, hA2.start, hA2.bound, fun hf => by cases hf⟩ hinv hBp hn).1 rfl⟩
        · have hjq : j ∈ q.alts := hj.resolve_left hji
          exact (ihq (f + 1) had fst false S a w F e h inv hBq hr.r).2 rfl j hjq hjr
      refine ⟨fun ht => ?_, fun _ => each⟩
      subst ht
      simp only [Bool.not_true, Bool.false_or, beq_iff_eq] at htop
      refine ⟨by rw [htop]; simp [Plan.alts], fun j hj => ?_⟩
      obtain ⟨h1, f', h2, h3⟩ := each j (by rw [← htop]; exact hj) hj
      have : f = f' := by omega
      subst this
      exact ⟨h1, h3⟩
  | nil =>
    intro f had fst top S a w F e h inv hB hr
    refine ⟨fun ht => by rw [ht] at hB; simp [planB] at hB, fun _ i hi => by simp [Plan.alts] at hi⟩

/-- What stands behind a piece of code. -/
def Post (C : Ctx) (Q : Exit → St → Prop) : Exit → Act → World → Prop := fun x a' w' => ∃ S' F' e', Q x S' ∧ Sat C S' a' w' F' e'

theorem Draw.sound (hG : TyOk P G.tys) (hm : P.follows .mixedOrders = true) (h : Sat C S a w F e) {id : Nat} {ops : Array Oper} {Q : Exit → St → Prop} (hr : Draw P G ops S (Q .normal)) : (Code.region id ops true).wp P (Post C Q) a w := by
  obtain ⟨n, pl, W, M, hB, hrun, hM⟩ := hr.out
  simp only [drawB, Bool.and_eq_true] at hB
  obtain ⟨⟨hsel, hhead⟩, hplan⟩ := hB
  have hn : n ≤ ops.size := by
    simp only [Bool.or_eq_true, Bool.and_eq_true, decide_eq_true_eq] at hhead
    omega
  have hw := h.calm (touch_drew w)
  let w1 : World := { w with drawn := w.drawn + 1 }
  have inv0 : HeadInv .any ops n (Array.replicate ops.size false) :=
    ⟨by simp, fun j oj _ hl => (by rw [getD_replicate_false] at hl; cases hl), fun t _ ht => getD_in (by simpa using ht) (getD_replicate_false _ _)⟩
  have e1 : ops.toList.toArray = ops := by simp
  have hat : At C W S.heap w1 F e true S a w1 F e :=
    ⟨hw, Agree.refl _, EnvLe.refl e, fun o b hb _ => ⟨o, hb⟩, hw.mem.heap, hw.mem.bound, fun _ => rfl⟩
  have key := (plan_sound (R := fun a' w' => Post C Q .normal a' w') hG (all := ops.toList) (n := n) (K := M) (by rw [e1]; exact hsel) (by rw [e1]; exact headOnly_of hhead) pl n _ true true S a w1 F e hat (by rw [e1]; exact inv0) (by rw [e1]; exact hplan) hrun).1 rfl
  rw [e1] at key
  have hdl : (ops.toList.drop n).length = ops.size - n := by simp
  refine wp_mono (Q := Calm fun a' w' => Post C Q .normal a' w') (wp_region_any hm ?_) (fun x a' w' hx => by rw [hx.1]; exact hx.2)
  have := mix_any (fun had a' w' hs hL => ?_) n _ a w1 key
  · rw [show n + (ops.size - n) = ops.size by omega] at this
    exact this
  · obtain ⟨S', F', e', hk, hsat⟩ := hL
    obtain ⟨S'', hwk, hops⟩ := hM S' hk
    obtain ⟨F2, e2, hs2⟩ := hwk.out C a' w' F' e' hsat
    have := wpAny_of_seq (md := .any) (P := P) (ops := ops) (Q' := Calm fun a' w' => Post C Q .normal a' w') (ops.toList.drop n) n had a' w' (fun j => by simp [List.getElem?_drop]) (by rw [hdl]; exact hs) ?_
    · rwa [hdl] at this
    · have := runOps_sound hG ops.toList (Q .normal) (Calm fun a' w' => Post C Q .normal a' w') (fun S2 a2 w2 F2 e2 hk2 hs2 => ⟨rfl, S2, F2, e2, hk2, hs2⟩) (ops.toList.drop n) S'' a' w' F2 e2 hs2 hops
      rwa [e1] at this

theorem run_sound (hG : TyOk P G.tys) (hm : P.follows .mixedOrders = true) : ∀ (c : Code) (S : St) (Q : Exit → St → Prop) (a : Act) (w : World) (F : Nat → Prop) (e : Env), Sat C S a w F e → run P G c S Q → c.wp P (Post C Q) a w
  | .skip, S, Q, a, w, F, e, h, hr => wp_skip ⟨S, F, e, hr, h⟩
  | .region _ ops false, S, Q, a, w, F, e, h, hr => by
    refine wp_region_list ?_
    have := runOps_sound hG ops.toList (Q .normal) (Post C Q) (fun S2 a2 w2 F2 e2 hk2 hs2 => ⟨S2, F2, e2, hk2, hs2⟩) ops.toList S a w F e h hr
    simpa using this
  | .region _ ops true, S, Q, a, w, F, e, h, hr => Draw.sound hG hm h hr
  | .seq x y, S, Q, a, w, F, e, h, hr => by
    refine wp_seq (wp_mono (run_sound hG hm x S _ a w F e h hr) ?_)
    rintro ex a' w' ⟨S', F', e', hq, hs⟩
    cases ex with
    | normal => exact run_sound hG hm y S' Q a' w' F' e' hs hq
    | _ => exact ⟨S', F', e', hq, hs⟩
  | .cond c x y, S, Q, a, w, F, e, h, hr => by
    rw [run_cond] at hr
    split at hr
    case h_2 => exact hr.elim
    rename_i b hb
    have hc := h.here.ev c
    rw [hb] at hc
    have hc := hc.v_inv
    have href : ∀ t, b = t → Sat C (refineC S c t) a w F e := by
      intro t ht
      unfold refineC
      split
      · exact h.refine hb ht
      · exact h
    cases b
    · exact wp_cond_false hc (run_sound hG hm y _ Q a w F e (href false rfl) hr)
    · exact wp_cond_true hc (run_sound hG hm x _ Q a w F e (href true rfl) hr)
  | .block id c, S, Q, a, w, F, e, h, hr => by
    refine wp_block (wp_mono (run_sound hG hm c S _ a w F e h hr) ?_)
    rintro ex a' w' ⟨S', F', e', hq, hs⟩
    cases ex with
    | exit i =>
      simp only [blockK] at hq
      unfold Exit.inBlock
      split at hq
      · rename_i hi
        have := Nat.eq_of_beq_eq_true hi
        simp only [this, if_true]
        exact ⟨S', F', e', hq, hs⟩
      · rename_i hi
        have : i ≠ id := fun hh => by subst hh; simp at hi
        simp only [this, if_false]
        exact ⟨S', F', e', hq, hs⟩
    | _ => exact ⟨S', F', e', hq, hs⟩
  | .loop c, S, Q, a, w, F, e, h, hr => False.elim hr
  | .exit id, S, Q, a, w, F, e, h, hr => wp_exit ⟨S, F, e, hr, h⟩
  | .scope c, S, Q, a, w, F, e, h, hr => by
    refine wp_scope_straight (wp_mono (run_sound hG hm c S _ a w F e h hr) ?_)
    rintro ex a' w' ⟨S', F', e', hq, hs⟩
    cases ex with
    | goto l => exact hq.elim
    | _ => exact ⟨S', F', e', hq, hs⟩
  | .label _, S, Q, a, w, F, e, h, hr => wp_label ⟨S, F, e, hr, h⟩
  | .ret, S, Q, a, w, F, e, h, hr => wp_ret ⟨S, F, e, hr, h⟩
  | .rangeFunc .., S, Q, a, w, F, e, h, hr => False.elim hr
  | .goto _, S, Q, a, w, F, e, h, hr => False.elim hr
  | .refuse _, S, Q, a, w, F, e, h, hr => False.elim hr

/-! ### Pieces of code, by what they come to -/
/-- From state S on, the piece of code c comes to an end that Q lets in. -/
structure Tri (P : Program) (c : Code) (S : St) (Q : Exit → St → Prop) : Prop where
  out : ∀ (C : Ctx) (a : Act) (w : World) (F : Nat → Prop) (e : Env), Sat C S a w F e → c.wp P (Post C Q) a w

theorem Tri.run (hG : TyOk P G.tys) (hm : P.follows .mixedOrders = true) {c : Code} {Q : Exit → St → Prop} (h : Go.Ab.run P G c S Q) : Tri P c S Q :=
  ⟨fun C a w F e hs => run_sound hG hm c S Q a w F e hs h⟩
theorem Tri.mono {c : Code} {Q Q' : Exit → St → Prop} (h : Tri P c S Q) (hq : ∀ x S', Q x S' → Q' x S') : Tri P c S Q' :=
  ⟨fun C a w F e hs => wp_mono (h.out C a w F e hs) (by rintro x a' w' ⟨S', F', e', h1, h2⟩; exact ⟨S', F', e', hq _ _ h1, h2⟩)⟩
theorem Tri.weak {c : Code} {Q : Exit → St → Prop} (hw : Weak S S') (h : Tri P c S' Q) : Tri P c S Q :=
  ⟨fun C a w F e hs => let ⟨F', e', hs'⟩ := hw.out C a w F e hs; h.out C a w F' e' hs'⟩
theorem Tri.seq {x y : Code} {Q : Exit → St → Prop} (I : Exit → St → Prop) (h : Tri P x S I) (hy : ∀ S', I .normal S' → Tri P y S' Q) (hx : ∀ ex S', ex ≠ .normal → I ex S' → Q ex S') : Tri P (.seq x y) S Q := by
  refine ⟨fun C a w F e hs => wp_seq (wp_mono (h.out C a w F e hs) ?_)⟩
  rintro ex a' w' ⟨S', F', e', hq, hs'⟩
  cases ex with
  | normal => exact (hy S' hq).out C a' w' F' e' hs'
  | _ => exact ⟨S', F', e', hx _ S' (by simp) hq, hs'⟩
theorem Tri.seqK {x y : Code} {Q : Exit → St → Prop} (h : Tri P x S fun ex S' => match ex with | .normal => Tri P y S' Q | ex => Q ex S') : Tri P (.seq x y) S Q := by
  refine ⟨fun C a w F e hs => wp_seq (wp_mono (h.out C a w F e hs) ?_)⟩
  rintro ex a' w' ⟨S', F', e', hq, hs'⟩
  cases ex with
  | normal => exact hq.out C a' w' F' e' hs'
  | _ => exact ⟨S', F', e', hq, hs'⟩
theorem Tri.cond {c : Operand} {x y : Code} {Q : Exit → St → Prop} {b : Bool} (hb : S.ev c = .v (.bool b)) (h1 : b = true → Tri P x (refineC S c true) Q) (h2 : b = false → Tri P y (refineC S c false) Q) : Tri P (.cond c x y) S Q := by
  refine ⟨fun C a w F e h => ?_⟩
  have hc := h.here.ev c
  rw [hb] at hc
  have hc := hc.v_inv
  have href : ∀ t, b = t → Sat C (refineC S c t) a w F e := by
    intro t ht
    unfold refineC
    split
    · exact h.refine hb ht
    · exact h
  cases b
  · exact wp_cond_false hc ((h2 rfl).out C a w F e (href false rfl))
  · exact wp_cond_true hc ((h1 rfl).out C a w F e (href true rfl))
theorem Tri.block {id : Nat} {c : Code} {Q : Exit → St → Prop} (h : Tri P c S (blockK id Q)) : Tri P (.block id c) S Q := by
  refine ⟨fun C a w F e hs => wp_block (wp_mono (h.out C a w F e hs) ?_)⟩
  rintro ex a' w' ⟨S', F', e', hq, hs⟩
  cases ex with
  | exit i =>
    simp only [blockK] at hq
    unfold Exit.inBlock
    split at hq
    · rename_i hi
      have := Nat.eq_of_beq_eq_true hi
      simp only [this, if_true]
      exact ⟨S', F', e', hq, hs⟩
    · rename_i hi
      have : i ≠ id := fun hh => by subst hh; simp at hi
      simp only [this, if_false]
      exact ⟨S', F', e', hq, hs⟩
  | _ => exact ⟨S', F', e', hq, hs⟩
theorem Tri.scope {c : Code} {Q : Exit → St → Prop} (h : Tri P c S (scopeK Q)) : Tri P (.scope c) S Q := by
  refine ⟨fun C a w F e hs => wp_scope_straight (wp_mono (h.out C a w F e hs) ?_)⟩
  rintro ex a' w' ⟨S', F', e', hq, hs⟩
  cases ex with
  | goto l => exact hq.elim
  | _ => exact ⟨S', F', e', hq, hs⟩
/-- A loop, by a relation with a count. -/
theorem Tri.loop {c : Code} {Q : Exit → St → Prop} (I : Nat → St → Prop) (n0 : Nat) (S0 : St) (h0 : Weak S S0) (i0 : I n0 S0)
    (round : ∀ n S1, I n S1 → Tri P c S1 fun x S2 => match x with | .normal => ∃ S3 n', Weak S2 S3 ∧ I n' S3 ∧ n' < n | x => Q x S2) : Tri P (.loop c) S Q := by
  refine ⟨fun C a w F e h => ?_⟩
  obtain ⟨F0, e0, h0⟩ := h0.out C a w F e h
  refine wp_loop_ghost (fun n a w => ∃ S F e, I n S ∧ Sat C S a w F e) n0 ⟨S0, F0, e0, i0, h0⟩ ?_
  rintro n a' w' ⟨S1, F1, e1, hI, hs⟩
  refine wp_mono ((round n S1 hI).out C a' w' F1 e1 hs) ?_
  rintro ex a2 w2 ⟨S2, F2, e2, hq, hs2⟩
  cases ex with
  | normal =>
    obtain ⟨S3, n', hw3, hI3, hlt⟩ := hq
    obtain ⟨F3, e3, hs3⟩ := hw3.out C a2 w2 F2 e2 hs2
    exact ⟨n', hlt, S3, F3, e3, hI3, hs3⟩
  | _ => exact ⟨S2, F2, e2, hq, hs2⟩

end
end Go.Ab
