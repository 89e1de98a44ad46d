/- The program's functions as plain Lean functions, and that the program comes to what they come to. Printed by a program of this session. -/
import Derived.Test.YtdoceelfokmhfaaTy
import Derived.Test.YtdoceelfokmhfaaSh
namespace Go.Ab
open Go.Proofs
set_option linter.unusedVariables false
set_option linter.unusedSimpArgs false
set_option maxRecDepth 100000
set_option maxHeartbeats 4000000
noncomputable def ref09_Key (mode : Int) (key : Str) : Option (Want) :=
  need (key.length + ([0] : Str).length ≤ 9223372036854775807) <|
  some ({ Mode := mode, Lo := key, Hi := (key ++ [0]) } : Want)
def gm_ref09_Key : Gm := ⟨tys, [], [], []⟩
theorem ref09_Key_walk (mode : Int) (key : Str) (r : Want) (h : ref09_Key mode key = some r) : PureP Try.prog 46 [.v (.int .i64 mode), .v (.string (bs key))] (fun a => a = .agg [.v (.int .i64 r.Mode), .v (.string (bs r.Lo)), .v (.string (bs r.Hi))]) := by
  unfold ref09_Key at h
  refine pureW (G := gm_ref09_Key) tyOk Try.func46 rfl (by kernel_rfl) (by simp [Try.f46]) ?_
  refine Tri.seqK ?_
  refine Tri.run (G := gm_ref09_Key) tyOk mixed ?_
  conv => whnf
  refine Tri.seqK ?_
  refine Tri.run (G := gm_ref09_Key) tyOk mixed ?_
  conv => whnf
  replace h := need_some h
  obtain ⟨p1, h⟩ := h
  refine ⟨p1, ?_⟩
  conv => whnf
  refine ⟨⟨bs (key ++ [0]), bs_append _ _, ?_⟩⟩
  conv => whnf
  refine Tri.run (G := gm_ref09_Key) tyOk mixed ?_
  conv => whnf
  refine fin_here ?_
  conv => whnf
  cases h
  rfl
noncomputable def span_empty (w : Want) : Option (Bool) :=
  if (!decide (w.Hi = [])) then
    some (ltS w.Hi w.Lo || decide (w.Hi = w.Lo))
  else
    some false
def gm_span_empty : Gm := ⟨tys, [], [], []⟩
theorem span_empty_walk (w : Want) (r : Bool) (h : span_empty w = some r) : PureP Try.prog 88 [.agg [.v (.int .i64 w.Mode), .v (.string (bs w.Lo)), .v (.string (bs w.Hi))]] (fun a => a = .v (.bool r)) := by
  unfold span_empty at h
  refine pureW (G := gm_span_empty) tyOk Try.func88 rfl (by kernel_rfl) (by simp [Try.f88]) ?_
  refine Tri.seqK ?_
  refine Tri.run (G := gm_span_empty) tyOk mixed ?_
  conv => whnf
  refine Tri.seqK ?_
  refine Tri.run (G := gm_span_empty) tyOk mixed ?_
  conv => whnf
  refine ⟨⟨(!decide (w.Hi = [])), bs_ne _ _, ?_⟩⟩
  conv => whnf
  refine cond_mk (fun c1 => ?_) (fun c1 => ?_)
  · replace h := if_t c1 h
    conv => whnf
    refine ⟨⟨(ltS w.Hi w.Lo || decide (w.Hi = w.Lo)), bs_le _ _, ?_⟩⟩
    conv => whnf
    refine Tri.run (G := gm_span_empty) tyOk mixed ?_
    conv => whnf
    refine fin_here ?_
    conv => whnf
    cases h
    rfl
  · replace h := if_f c1 h
    conv => whnf
    refine Tri.run (G := gm_span_empty) tyOk mixed ?_
    conv => whnf
    refine fin_here ?_
    conv => whnf
    cases h
    rfl
noncomputable def span_May (w : Want) : Option (Bool) :=
  (
    if ((!(decide (w.Mode = 1))) && (!(decide (w.Mode = 2)))) then
      some (.inl ())
    else
      (span_empty w).bind fun y97 =>
      if y97 then
        some (.inl ())
      else
        some (.inr ())).bind fun (y81 : (Unit) ⊕ (Unit)) =>
  match y81 with
  | (.inl v83) =>
    some false
  | (.inr v84) =>
    some true
def gm_span_May : Gm := ⟨tys, [], [], []⟩
theorem span_May_walk (w : Want) (r : Bool) (h : span_May w = some r) : PureP Try.prog 74 [.agg [.v (.int .i64 w.Mode), .v (.string (bs w.Lo)), .v (.string (bs w.Hi))]] (fun a => a = .v (.bool r)) := by
  unfold span_May at h
  refine pureW (G := gm_span_May) tyOk Try.func74 rfl (by kernel_rfl) (by simp [Try.f74]) ?_
  refine Tri.seqK ?_
  refine Tri.run (G := gm_span_May) tyOk mixed ?_
  conv => whnf
  refine Tri.seqK ?_
  refine Tri.block ?_
  refine Tri.seqK ?_
  replace h := bind_some h
  obtain ⟨y81, q82, h⟩ := h
  refine Tri.cut (fun ex S' => (∃ v83 : Unit, y81 = (.inl v83) ∧ ex = .normal ∧ Weak S' ⟨15, 0, ofRegs [], []⟩) ∨ (∃ v84 : Unit, y81 = (.inr v84) ∧ ex = (.exit 0) ∧ Weak S' ⟨15, 0, ofRegs [], []⟩)) ?_ ?_
  · refine Tri.block ?_
    refine Tri.block ?_
    refine Tri.seqK ?_
    refine Tri.seqK ?_
    refine Tri.seqK ?_
    refine Tri.cut (fun ex S' => ex = .normal ∧ Weak S' ⟨15, 0, ofRegs [(1, .ptr 0 0), (3, .v (.bool ((!(decide (w.Mode = 1))) && (!(decide (w.Mode = 2))))))], [.var 44 [.v (.int .i64 w.Mode), .v (.string (bs w.Lo)), .v (.string (bs w.Hi))]]⟩) ?_ ?_
    · refine Tri.run (G := gm_span_May) tyOk mixed ?_
      conv => whnf
      refine cond_mk (fun c94 => ?_) (fun c94 => ?_)
      · replace c94 : (!(decide (w.Mode = 1))) = true := c94
        conv => whnf
        exact ⟨rfl, weak_fin _ rfl rfl rfl (.cons (.same rfl) (LeH.rest)) (.cons (.one (.same rfl)) (.cons (.one (.same (show (.v (.bool (!(decide (w.Mode = 2)))) : AV) = (.v (.bool ((!(decide (w.Mode = 1))) && (!(decide (w.Mode = 2))))) : AV) from by first | (simp [c94]; done) | simp only [c94, Bool.or_true, Bool.true_or, Bool.false_or, Bool.or_false, Bool.and_true, Bool.true_and, Bool.and_false, Bool.false_and, Bool.not_true, Bool.not_false, if_true, if_false, Bool.false_eq_true]))) (.nil))) rfl rfl⟩
      · replace c94 : (!(decide (w.Mode = 1))) = false := c94
        conv => whnf
        exact ⟨rfl, weak_fin _ rfl rfl rfl (.cons (.same rfl) (LeH.rest)) (.cons (.one (.same rfl)) (.cons (.one (.same (show (.v (.bool false) : AV) = (.v (.bool ((!(decide (w.Mode = 1))) && (!(decide (w.Mode = 2))))) : AV) from by first | (simp [c94]; done) | simp only [c94, Bool.or_true, Bool.true_or, Bool.false_or, Bool.or_false, Bool.and_true, Bool.true_and, Bool.and_false, Bool.false_and, Bool.not_true, Bool.not_false, if_true, if_false, Bool.false_eq_true]))) (.nil))) rfl rfl⟩
    · rintro ex S' ⟨rfl, w95⟩
      conv => whnf
      refine Tri.weak w95 ?_
      refine Tri.cond rfl (fun c96 => ?_) (fun c96 => ?_)
      · replace q82 := if_t c96 q82
        refine Tri.run (G := gm_span_May) tyOk mixed ?_
        conv => whnf
        cases q82
        exact Or.inl ⟨_, rfl, rfl, weak_fin _ rfl rfl rfl (LeH.rest) (.nil) rfl rfl⟩
      · replace q82 := if_f c96 q82
        refine Tri.run (G := gm_span_May) tyOk mixed ?_
        conv => whnf
        refine Tri.seqK ?_
        refine Tri.run (G := gm_span_May) tyOk mixed ?_
        conv => whnf
        replace q82 := bind_some q82
        obtain ⟨y97, q98, q82⟩ := q82
        refine PureP.mono (span_empty_walk w y97 q98) ?_
        rintro _ rfl
        conv => whnf
        refine Tri.cond rfl (fun c99 => ?_) (fun c99 => ?_)
        · replace q82 := if_t c99 q82
          refine Tri.run (G := gm_span_May) tyOk mixed ?_
          conv => whnf
          cases q82
          exact Or.inl ⟨_, rfl, rfl, weak_fin _ rfl rfl rfl (LeH.rest) (.nil) rfl rfl⟩
        · replace q82 := if_f c99 q82
          refine Tri.run (G := gm_span_May) tyOk mixed ?_
          conv => whnf
          refine Tri.run (G := gm_span_May) tyOk mixed ?_
          conv => whnf
          cases q82
          exact Or.inr (⟨_, rfl, rfl, weak_fin _ rfl rfl rfl (LeH.rest) (.nil) rfl rfl⟩)
  · rintro ex S' (⟨v83, rfl, rfl, w100⟩ | ⟨v84, rfl, rfl, w100⟩)
    · dsimp only at h
      conv => whnf
      refine Tri.weak w100 ?_
      refine Tri.seqK ?_
      refine Tri.seqK ?_
      refine Tri.run (G := gm_span_May) tyOk mixed ?_
      conv => whnf
      refine Tri.run (G := gm_span_May) tyOk mixed ?_
      conv => whnf
      refine fin_here ?_
      conv => whnf
      cases h
      rfl
    · dsimp only at h
      conv => whnf
      refine Tri.weak w100 ?_
      refine Tri.seqK ?_
      refine Tri.run (G := gm_span_May) tyOk mixed ?_
      conv => whnf
      refine Tri.run (G := gm_span_May) tyOk mixed ?_
      conv => whnf
      refine fin_here ?_
      conv => whnf
      cases h
      rfl
noncomputable def lock_Waits_1 (c : Claim) (v : Int) : Option (Bool) :=
  some (decide (c.Txn = v))
def gm_lock_Waits_1 : Gm := ⟨tys, [], [], []⟩
theorem lock_Waits_1_walk (c : Claim) (v : Int) (r : Bool) (h : lock_Waits_1 c v = some r) : CallP Try.prog 68 [.var 3 [.v (.int .i64 v)]] [.agg [.v (.int .i64 c.Txn), .v (.int .i64 c.W.Mode), .v (.string (bs c.W.Lo)), .v (.string (bs c.W.Hi)), .v (.int .u64 c.Until)], .ptr 0 0] (fun a H' => a = .v (.bool r) ∧ H'.take ([.var 3 [.v (.int .i64 v)]] : List Ob).length = [.var 3 [.v (.int .i64 v)]]) := by
  unfold lock_Waits_1 at h
  refine callW (G := gm_lock_Waits_1) tyOk Try.func68 rfl (by kernel_rfl) (by simp [Try.f68]) ?_
  refine Tri.seqK ?_
  refine Tri.run (G := gm_lock_Waits_1) tyOk mixed ?_
  conv => whnf
  refine Tri.seqK ?_
  refine Tri.run (G := gm_lock_Waits_1) tyOk mixed ?_
  conv => whnf
  refine Tri.run (G := gm_lock_Waits_1) tyOk mixed ?_
  conv => whnf
  refine fin_pre (S' := ⟨8, 1, ofRegs [(3, .v (.bool (decide (c.Txn = v))))], [.var 3 [.v (.int .i64 v)]]⟩) (weak_fin _ rfl rfl rfl (.cons (.same rfl) (LeH.rest)) (.cons (.one (.same rfl)) (.nil)) rfl rfl) ?_
  conv => whnf
  cases h
  exact ⟨rfl, rfl⟩
noncomputable def slices_IndexFunc_Claim__lock_Waits_1_l4 (s : (List Claim)) (v : Int) (a164 : Int) : Option ((Int) ⊕ ((Int) ⊕ (Unit))) :=
  if (decide (a164 < (s.length : Int))) then
    (ix s a164).bind fun x179 =>
    (lock_Waits_1 x179 v).bind fun y181 =>
    if y181 then
      some (.inr (.inl a164))
    else
      some (.inl (IntKind.i64.wrap (a164 + 1)))
  else
    some (.inr (.inr ()))
noncomputable def slices_IndexFunc_Claim__lock_Waits_1 (s : (List Claim)) (v : Int) : Option (Int) :=
  (loop (fun (s169 : Int) => slices_IndexFunc_Claim__lock_Waits_1_l4 s v s169) (0 : Int)).bind fun (y165 : (Int) ⊕ (Unit)) =>
  match y165 with
  | (.inl v167) =>
    some v167
  | (.inr v168) =>
    some (-1)
def gm_slices_IndexFunc_Claim__lock_Waits_1 : Gm := ⟨tys, [68], [], []⟩
theorem slices_IndexFunc_Claim__lock_Waits_1_walk (s : (List Claim)) (v : Int) (r : Int) (h : slices_IndexFunc_Claim__lock_Waits_1 s v = some r) : CallP Try.prog 86 [.var 3 [.v (.int .i64 v)]] [.sl (List.map encClaim s), .fn (.func 68) [] [.ptr 0 0]] (fun a H' => a = .v (.int .i64 r) ∧ H'.take ([.var 3 [.v (.int .i64 v)]] : List Ob).length = [.var 3 [.v (.int .i64 v)]]) := by
  unfold slices_IndexFunc_Claim__lock_Waits_1 at h
  refine callW (G := gm_slices_IndexFunc_Claim__lock_Waits_1) tyOk Try.func86 rfl (by kernel_rfl) (by simp [Try.f86]) ?_
  refine Tri.seqK ?_
  refine Tri.run (G := gm_slices_IndexFunc_Claim__lock_Waits_1) tyOk mixed ?_
  conv => whnf
  refine Tri.seqK ?_
  refine Tri.seqK ?_
  refine Tri.run (G := gm_slices_IndexFunc_Claim__lock_Waits_1) tyOk mixed ?_
  conv => whnf
  refine ⟨⟨(s.length : Int), (len_map _ _).symm, ?_⟩⟩
  conv => whnf
  refine Tri.block ?_
  replace h := bind_some h
  obtain ⟨y165, q166, h⟩ := h
  refine Tri.cut (fun ex S' => (∃ v167 : Int, y165 = (.inl v167) ∧ ex = .ret ∧ Weak S' ⟨19, 1, ofRegs [(4, .v (.int .i64 v167))], [.var 3 [.v (.int .i64 v)]]⟩) ∨ (∃ v168 : Unit, y165 = (.inr v168) ∧ ex = (.exit 0) ∧ Weak S' ⟨19, 1, ofRegs [], [.var 3 [.v (.int .i64 v)]]⟩)) ?_ ?_
  · refine Tri.loopF (fun (s169 : Int) => (⟨19, 1, ofRegs [(0, .sl (List.map encClaim s)), (1, .fn (.func 68) [] [.ptr 0 0]), (7, .v (.int .i64 (s.length : Int))), (8, .v (.int .i64 s169))], [.var 3 [.v (.int .i64 v)]]⟩ : St)) q166 (weak_fin _ rfl rfl rfl (.cons (.same rfl) (LeH.rest)) (.cons (.one (.same rfl)) (.cons (.one (.same rfl)) (.cons (.one (.same rfl)) (.cons (.one (.same rfl)) (.nil))))) rfl rfl) ?_
    rintro a164 v170 hv r171
    have hv : slices_IndexFunc_Claim__lock_Waits_1_l4 s v a164 = some v170 := hv
    unfold slices_IndexFunc_Claim__lock_Waits_1_l4 at hv
    refine Tri.seqK ?_
    refine Tri.run (G := gm_slices_IndexFunc_Claim__lock_Waits_1) tyOk mixed ?_
    conv => whnf
    refine Tri.seqK ?_
    refine Tri.cond rfl (fun c173 => ?_) (fun c173 => ?_)
    · replace hv := if_t c173 hv
      refine Tri.run (G := gm_slices_IndexFunc_Claim__lock_Waits_1) tyOk mixed ?_
      conv => whnf
      refine Tri.seqK ?_
      refine Tri.block ?_
      refine Tri.seqK ?_
      refine Tri.run (G := gm_slices_IndexFunc_Claim__lock_Waits_1) tyOk mixed ?_
      conv => whnf
      refine Tri.seqK ?_
      refine Tri.run (G := gm_slices_IndexFunc_Claim__lock_Waits_1) tyOk mixed ?_
      conv => whnf
      replace hv := bind_some hv
      obtain ⟨x179, q180, hv⟩ := hv
      refine ⟨(ix_some q180).1, ?_⟩
      conv => whnf
      refine ⟨⟨_, map_get encClaim (ix_some q180).2, ?_⟩⟩
      conv => whnf
      refine ⟨rfl, ?_⟩
      conv => whnf
      replace hv := bind_some hv
      obtain ⟨y181, q182, hv⟩ := hv
      refine CallP.use (lock_Waits_1_walk x179 v y181 q182) [0] rfl rfl rfl rfl rfl rfl rfl rfl rfl ?_
      conv => whnf
      refine Tri.cond rfl (fun c183 => ?_) (fun c183 => ?_)
      · replace hv := if_t c183 hv
        refine Tri.seqK ?_
        refine Tri.run (G := gm_slices_IndexFunc_Claim__lock_Waits_1) tyOk mixed ?_
        conv => whnf
        refine Tri.run (G := gm_slices_IndexFunc_Claim__lock_Waits_1) tyOk mixed ?_
        conv => whnf
        cases hv
        obtain rfl := r171 _ rfl
        exact Or.inl ⟨_, rfl, rfl, weak_fin _ rfl rfl rfl (.cons (.same rfl) (LeH.rest)) (.cons (.one (.same rfl)) (.nil)) rfl rfl⟩
      · replace hv := if_f c183 hv
        refine Tri.run (G := gm_slices_IndexFunc_Claim__lock_Waits_1) tyOk mixed ?_
        conv => whnf
        refine Tri.run (G := gm_slices_IndexFunc_Claim__lock_Waits_1) tyOk mixed ?_
        conv => whnf
        cases hv
        exact ⟨_, rfl, weak_fin _ rfl rfl rfl (.cons (.same rfl) (LeH.rest)) (.cons (.one (.same rfl)) (.cons (.one (.same rfl)) (.cons (.one (.same rfl)) (.cons (.one (.same rfl)) (.nil))))) rfl rfl⟩
    · replace hv := if_f c173 hv
      refine Tri.run (G := gm_slices_IndexFunc_Claim__lock_Waits_1) tyOk mixed ?_
      conv => whnf
      cases hv
      obtain rfl := r171 _ rfl
      exact Or.inr (⟨_, rfl, rfl, weak_fin _ rfl rfl rfl (.cons (.same rfl) (LeH.rest)) (.nil) rfl rfl⟩)
  · rintro ex S' (⟨v167, rfl, rfl, w184⟩ | ⟨v168, rfl, rfl, w184⟩)
    · dsimp only at h
      conv => whnf
      refine fin_pre (S' := ⟨19, 1, ofRegs [(4, .v (.int .i64 v167))], [.var 3 [.v (.int .i64 v)]]⟩) (Weak.trans w184 (weak_fin _ rfl rfl rfl (.cons (.same rfl) (LeH.rest)) (.cons (.one (.same rfl)) (.nil)) rfl rfl)) ?_
      conv => whnf
      cases h
      exact ⟨rfl, rfl⟩
    · dsimp only at h
      conv => whnf
      refine Tri.weak w184 ?_
      refine Tri.seqK ?_
      refine Tri.run (G := gm_slices_IndexFunc_Claim__lock_Waits_1) tyOk mixed ?_
      conv => whnf
      refine Tri.run (G := gm_slices_IndexFunc_Claim__lock_Waits_1) tyOk mixed ?_
      conv => whnf
      refine fin_pre (S' := ⟨19, 1, ofRegs [(4, .v (.int .i64 (-1)))], [.var 3 [.v (.int .i64 v)]]⟩) (weak_fin _ rfl rfl rfl (.cons (.same rfl) (LeH.rest)) (.cons (.one (.same rfl)) (.nil)) rfl rfl) ?_
      conv => whnf
      cases h
      exact ⟨rfl, rfl⟩
noncomputable def slices_ContainsFunc_Claim__lock_Waits_1 (s : (List Claim)) (v : Int) : Option (Bool) :=
  (slices_IndexFunc_Claim__lock_Waits_1 s v).bind fun y3 =>
  some (decide (y3 ≥ 0))
def gm_slices_ContainsFunc_Claim__lock_Waits_1 : Gm := ⟨tys, [86], [], []⟩
theorem slices_ContainsFunc_Claim__lock_Waits_1_walk (s : (List Claim)) (v : Int) (r : Bool) (h : slices_ContainsFunc_Claim__lock_Waits_1 s v = some r) : CallP Try.prog 67 [.var 3 [.v (.int .i64 v)]] [.sl (List.map encClaim s), .fn (.func 68) [] [.ptr 0 0]] (fun a H' => a = .v (.bool r) ∧ H'.take ([.var 3 [.v (.int .i64 v)]] : List Ob).length = [.var 3 [.v (.int .i64 v)]]) := by
  unfold slices_ContainsFunc_Claim__lock_Waits_1 at h
  refine callW (G := gm_slices_ContainsFunc_Claim__lock_Waits_1) tyOk Try.func67 rfl (by kernel_rfl) (by simp [Try.f67]) ?_
  refine Tri.seqK ?_
  refine Tri.run (G := gm_slices_ContainsFunc_Claim__lock_Waits_1) tyOk mixed ?_
  conv => whnf
  refine Tri.seqK ?_
  refine Tri.run (G := gm_slices_ContainsFunc_Claim__lock_Waits_1) tyOk mixed ?_
  conv => whnf
  replace h := bind_some h
  obtain ⟨y3, q4, h⟩ := h
  refine CallP.use (slices_IndexFunc_Claim__lock_Waits_1_walk s v y3 q4) [0] rfl rfl rfl rfl rfl rfl rfl rfl rfl ?_
  conv => whnf
  refine Tri.run (G := gm_slices_ContainsFunc_Claim__lock_Waits_1) tyOk mixed ?_
  conv => whnf
  refine fin_pre (S' := ⟨9, 1, ofRegs [(4, .v (.bool (decide (y3 ≥ 0))))], [.var 3 [.v (.int .i64 v)]]⟩) (weak_fin _ rfl rfl rfl (.cons (.same rfl) (LeH.rest)) (.cons (.one (.same rfl)) (.nil)) rfl rfl) ?_
  conv => whnf
  cases h
  exact ⟨rfl, rfl⟩
noncomputable def lock_Waits (l : Locks) (txn : Int) : Option (Bool) :=
  (slices_ContainsFunc_Claim__lock_Waits_1 l.Queue txn).bind fun y1 =>
  some y1
def gm_lock_Waits : Gm := ⟨tys, [67], [], []⟩
theorem lock_Waits_walk (l : Locks) (txn : Int) (r : Bool) (h : lock_Waits l txn = some r) : PureP Try.prog 37 [.agg [.sl (List.map encHold l.Held), .sl (List.map encClaim l.Queue)], .v (.int .i64 txn)] (fun a => a = .v (.bool r)) := by
  unfold lock_Waits at h
  refine pureW (G := gm_lock_Waits) tyOk Try.func37 rfl (by kernel_rfl) (by simp [Try.f37]) ?_
  refine Tri.seqK ?_
  refine Tri.run (G := gm_lock_Waits) tyOk mixed ?_
  conv => whnf
  refine Tri.seqK ?_
  refine Tri.run (G := gm_lock_Waits) tyOk mixed ?_
  conv => whnf
  replace h := bind_some h
  obtain ⟨y1, q2, h⟩ := h
  refine CallP.use (slices_ContainsFunc_Claim__lock_Waits_1_walk l.Queue txn y1 q2) [1] rfl rfl rfl rfl rfl rfl rfl rfl rfl ?_
  conv => whnf
  refine Tri.run (G := gm_lock_Waits) tyOk mixed ?_
  conv => whnf
  refine fin_here ?_
  conv => whnf
  cases h
  rfl
noncomputable def span_Covers (a : Want) (b : Want) : Option (Bool) :=
  (
    (span_May b).bind fun y236 =>
    if (!y236) then
      some (.inl ())
    else
      if ((!(decide (a.Mode = 2))) && (decide (b.Mode = 2))) then
        some (.inl ())
      else
        if (decide (a = b)) then
          some (.inr (.inl ()))
        else
          some (.inr (.inr ()))).bind fun (y228 : (Unit) ⊕ (Unit) ⊕ (Unit)) =>
  match y228 with
  | (.inl v230) =>
    some false
  | (.inr (.inl v231)) =>
    some true
  | (.inr (.inr v232)) =>
    if (ltS a.Lo b.Lo || decide (a.Lo = b.Lo)) then
      if (decide (a.Hi = [])) then
        some true
      else
        if (!decide (b.Hi = [])) then
          some (ltS b.Hi a.Hi || decide (b.Hi = a.Hi))
        else
          some false
    else
      some false
def gm_span_Covers : Gm := ⟨tys, [], [], []⟩
theorem span_Covers_walk (a : Want) (b : Want) (r : Bool) (h : span_Covers a b = some r) : PureP Try.prog 73 [.agg [.v (.int .i64 a.Mode), .v (.string (bs a.Lo)), .v (.string (bs a.Hi))], .agg [.v (.int .i64 b.Mode), .v (.string (bs b.Lo)), .v (.string (bs b.Hi))]] (fun a => a = .v (.bool r)) := by
  unfold span_Covers at h
  refine pureW (G := gm_span_Covers) tyOk Try.func73 rfl (by kernel_rfl) (by simp [Try.f73]) ?_
  refine Tri.seqK ?_
  refine Tri.run (G := gm_span_Covers) tyOk mixed ?_
  conv => whnf
  refine Tri.seqK ?_
  refine Tri.block ?_
  refine Tri.seqK ?_
  refine Tri.block ?_
  refine Tri.seqK ?_
  replace h := bind_some h
  obtain ⟨y228, q229, h⟩ := h
  refine Tri.cut (fun ex S' => (∃ v230 : Unit, y228 = (.inl v230) ∧ ex = .normal ∧ Weak S' ⟨44, 0, ofRegs [], []⟩) ∨ (∃ v231 : Unit, y228 = (.inr (.inl v231)) ∧ ex = (.exit 3) ∧ Weak S' ⟨44, 0, ofRegs [], []⟩) ∨ (∃ v232 : Unit, y228 = (.inr (.inr v232)) ∧ ex = (.exit 0) ∧ Weak S' ⟨44, 0, ofRegs [(2, .ptr 0 0), (3, .ptr 1 0)], [.var 44 [.v (.int .i64 a.Mode), .v (.string (bs a.Lo)), .v (.string (bs a.Hi))], .var 44 [.v (.int .i64 b.Mode), .v (.string (bs b.Lo)), .v (.string (bs b.Hi))]]⟩)) ?_ ?_
  · refine Tri.block ?_
    refine Tri.block ?_
    refine Tri.seqK ?_
    refine Tri.seqK ?_
    refine Tri.seqK ?_
    refine Tri.run (G := gm_span_Covers) tyOk mixed ?_
    conv => whnf
    replace q229 := bind_some q229
    obtain ⟨y236, q237, q229⟩ := q229
    refine PureP.mono (span_May_walk b y236 q237) ?_
    rintro _ rfl
    conv => whnf
    refine Tri.cond rfl (fun c238 => ?_) (fun c238 => ?_)
    · replace q229 := if_t c238 q229
      refine Tri.run (G := gm_span_Covers) tyOk mixed ?_
      conv => whnf
      cases q229
      exact Or.inl ⟨_, rfl, rfl, weak_fin _ rfl rfl rfl (LeH.rest) (.nil) rfl rfl⟩
    · replace q229 := if_f c238 q229
      refine Tri.run (G := gm_span_Covers) tyOk mixed ?_
      conv => whnf
      refine Tri.seqK ?_
      refine Tri.seqK ?_
      refine Tri.cut (fun ex S' => ex = .normal ∧ Weak S' ⟨44, 0, ofRegs [(2, .ptr 0 0), (3, .ptr 1 0), (9, .v (.bool ((!(decide (a.Mode = 2))) && (decide (b.Mode = 2)))))], [.var 44 [.v (.int .i64 a.Mode), .v (.string (bs a.Lo)), .v (.string (bs a.Hi))], .var 44 [.v (.int .i64 b.Mode), .v (.string (bs b.Lo)), .v (.string (bs b.Hi))]]⟩) ?_ ?_
      · refine Tri.run (G := gm_span_Covers) tyOk mixed ?_
        conv => whnf
        refine cond_mk (fun c248 => ?_) (fun c248 => ?_)
        · replace c248 : (!(decide (a.Mode = 2))) = true := c248
          conv => whnf
          exact ⟨rfl, weak_fin _ rfl rfl rfl (.cons (.same rfl) (.cons (.same rfl) (LeH.rest))) (.cons (.one (.same rfl)) (.cons (.one (.same rfl)) (.cons (.one (.same (show (.v (.bool (decide (b.Mode = 2))) : AV) = (.v (.bool ((!(decide (a.Mode = 2))) && (decide (b.Mode = 2)))) : AV) from by first | (simp [c248]; done) | simp only [c248, Bool.or_true, Bool.true_or, Bool.false_or, Bool.or_false, Bool.and_true, Bool.true_and, Bool.and_false, Bool.false_and, Bool.not_true, Bool.not_false, if_true, if_false, Bool.false_eq_true]))) (.nil)))) rfl rfl⟩
        · replace c248 : (!(decide (a.Mode = 2))) = false := c248
          conv => whnf
          exact ⟨rfl, weak_fin _ rfl rfl rfl (.cons (.same rfl) (.cons (.same rfl) (LeH.rest))) (.cons (.one (.same rfl)) (.cons (.one (.same rfl)) (.cons (.one (.same (show (.v (.bool false) : AV) = (.v (.bool ((!(decide (a.Mode = 2))) && (decide (b.Mode = 2)))) : AV) from by first | (simp [c248]; done) | simp only [c248, Bool.or_true, Bool.true_or, Bool.false_or, Bool.or_false, Bool.and_true, Bool.true_and, Bool.and_false, Bool.false_and, Bool.not_true, Bool.not_false, if_true, if_false, Bool.false_eq_true]))) (.nil)))) rfl rfl⟩
      · rintro ex S' ⟨rfl, w249⟩
        conv => whnf
        refine Tri.weak w249 ?_
        refine Tri.cond rfl (fun c250 => ?_) (fun c250 => ?_)
        · replace q229 := if_t c250 q229
          refine Tri.run (G := gm_span_Covers) tyOk mixed ?_
          conv => whnf
          cases q229
          exact Or.inl ⟨_, rfl, rfl, weak_fin _ rfl rfl rfl (LeH.rest) (.nil) rfl rfl⟩
        · replace q229 := if_f c250 q229
          refine Tri.run (G := gm_span_Covers) tyOk mixed ?_
          conv => whnf
          refine Tri.seqK ?_
          refine Tri.run (G := gm_span_Covers) tyOk mixed ?_
          conv => whnf
          refine ⟨⟨(decide (a = b)), eq_Want _ _, ?_⟩⟩
          conv => whnf
          refine Tri.cond rfl (fun c251 => ?_) (fun c251 => ?_)
          · replace q229 := if_t c251 q229
            refine Tri.run (G := gm_span_Covers) tyOk mixed ?_
            conv => whnf
            cases q229
            exact Or.inr (Or.inl ⟨_, rfl, rfl, weak_fin _ rfl rfl rfl (LeH.rest) (.nil) rfl rfl⟩)
          · replace q229 := if_f c251 q229
            refine Tri.run (G := gm_span_Covers) tyOk mixed ?_
            conv => whnf
            refine Tri.run (G := gm_span_Covers) tyOk mixed ?_
            conv => whnf
            cases q229
            exact Or.inr (Or.inr (⟨_, rfl, rfl, weak_fin _ rfl rfl rfl (.cons (.same rfl) (.cons (.same rfl) (LeH.rest))) (.cons (.one (.same rfl)) (.cons (.one (.same rfl)) (.nil))) rfl rfl⟩))
  · rintro ex S' (⟨v230, rfl, rfl, w252⟩ | ⟨v231, rfl, rfl, w252⟩ | ⟨v232, rfl, rfl, w252⟩)
    · dsimp only at h
      conv => whnf
      refine Tri.weak w252 ?_
      refine Tri.seqK ?_
      refine Tri.seqK ?_
      refine Tri.run (G := gm_span_Covers) tyOk mixed ?_
      conv => whnf
      refine Tri.run (G := gm_span_Covers) tyOk mixed ?_
      conv => whnf
      refine fin_here ?_
      conv => whnf
      cases h
      rfl
    · dsimp only at h
      conv => whnf
      refine Tri.weak w252 ?_
      refine Tri.seqK ?_
      refine Tri.seqK ?_
      refine Tri.run (G := gm_span_Covers) tyOk mixed ?_
      conv => whnf
      refine Tri.run (G := gm_span_Covers) tyOk mixed ?_
      conv => whnf
      refine fin_here ?_
      conv => whnf
      cases h
      rfl
    · dsimp only at h
      conv => whnf
      refine Tri.weak w252 ?_
      refine Tri.seqK ?_
      refine Tri.run (G := gm_span_Covers) tyOk mixed ?_
      conv => whnf
      refine ⟨⟨(ltS a.Lo b.Lo || decide (a.Lo = b.Lo)), bs_le _ _, ?_⟩⟩
      conv => whnf
      refine cond_mk (fun c253 => ?_) (fun c253 => ?_)
      · replace h := if_t c253 h
        conv => whnf
        refine ⟨⟨(decide (a.Hi = [])), bs_eq _ _, ?_⟩⟩
        conv => whnf
        refine cond_mk (fun c254 => ?_) (fun c254 => ?_)
        · replace h := if_t c254 h
          conv => whnf
          refine Tri.run (G := gm_span_Covers) tyOk mixed ?_
          conv => whnf
          refine fin_here ?_
          conv => whnf
          cases h
          rfl
        · replace h := if_f c254 h
          conv => whnf
          refine ⟨⟨(!decide (b.Hi = [])), bs_ne _ _, ?_⟩⟩
          conv => whnf
          refine cond_mk (fun c255 => ?_) (fun c255 => ?_)
          · replace h := if_t c255 h
            conv => whnf
            refine ⟨⟨(ltS b.Hi a.Hi || decide (b.Hi = a.Hi)), bs_le _ _, ?_⟩⟩
            conv => whnf
            refine Tri.run (G := gm_span_Covers) tyOk mixed ?_
            conv => whnf
            refine fin_here ?_
            conv => whnf
            cases h
            rfl
          · replace h := if_f c255 h
            conv => whnf
            refine Tri.run (G := gm_span_Covers) tyOk mixed ?_
            conv => whnf
            refine fin_here ?_
            conv => whnf
            cases h
            rfl
      · replace h := if_f c253 h
        conv => whnf
        refine Tri.run (G := gm_span_Covers) tyOk mixed ?_
        conv => whnf
        refine fin_here ?_
        conv => whnf
        cases h
        rfl
noncomputable def lock_Ask_1 (h_ : Hold) (v : Int) (v2 : Want) : Option (Bool) :=
  if (decide (h_.Txn = v)) then
    (span_Covers h_.W v2).bind fun y5 =>
    some y5
  else
    some false
def gm_lock_Ask_1 : Gm := ⟨tys, [], [], []⟩
theorem lock_Ask_1_walk (h_ : Hold) (v : Int) (v2 : Want) (r : Bool) (h : lock_Ask_1 h_ v v2 = some r) : CallP Try.prog 72 [.var 3 [.v (.int .i64 v)], .var 44 [.v (.int .i64 v2.Mode), .v (.string (bs v2.Lo)), .v (.string (bs v2.Hi))]] [.agg [.v (.int .i64 h_.Txn), .v (.int .i64 h_.W.Mode), .v (.string (bs h_.W.Lo)), .v (.string (bs h_.W.Hi))], .ptr 0 0, .ptr 1 0] (fun a H' => a = .v (.bool r) ∧ H'.take ([.var 3 [.v (.int .i64 v)], .var 44 [.v (.int .i64 v2.Mode), .v (.string (bs v2.Lo)), .v (.string (bs v2.Hi))]] : List Ob).length = [.var 3 [.v (.int .i64 v)], .var 44 [.v (.int .i64 v2.Mode), .v (.string (bs v2.Lo)), .v (.string (bs v2.Hi))]]) := by
  unfold lock_Ask_1 at h
  refine callW (G := gm_lock_Ask_1) tyOk Try.func72 rfl (by kernel_rfl) (by simp [Try.f72]) ?_
  refine Tri.seqK ?_
  refine Tri.run (G := gm_lock_Ask_1) tyOk mixed ?_
  conv => whnf
  refine Tri.seqK ?_
  refine Tri.run (G := gm_lock_Ask_1) tyOk mixed ?_
  conv => whnf
  refine cond_mk (fun c4 => ?_) (fun c4 => ?_)
  · replace h := if_t c4 h
    conv => whnf
    replace h := bind_some h
    obtain ⟨y5, q6, h⟩ := h
    refine PureP.mono (span_Covers_walk h_.W v2 y5 q6) ?_
    rintro _ rfl
    conv => whnf
    refine Tri.run (G := gm_lock_Ask_1) tyOk mixed ?_
    conv => whnf
    refine fin_pre (S' := ⟨15, 2, ofRegs [(4, .v (.bool y5))], [.var 3 [.v (.int .i64 v)], .var 44 [.v (.int .i64 v2.Mode), .v (.string (bs v2.Lo)), .v (.string (bs v2.Hi))]]⟩) (weak_fin _ rfl rfl rfl (.cons (.same rfl) (.cons (.same rfl) (LeH.rest))) (.cons (.one (.same rfl)) (.nil)) rfl rfl) ?_
    conv => whnf
    cases h
    exact ⟨rfl, rfl⟩
  · replace h := if_f c4 h
    conv => whnf
    refine Tri.run (G := gm_lock_Ask_1) tyOk mixed ?_
    conv => whnf
    refine fin_pre (S' := ⟨15, 2, ofRegs [(4, .v (.bool false))], [.var 3 [.v (.int .i64 v)], .var 44 [.v (.int .i64 v2.Mode), .v (.string (bs v2.Lo)), .v (.string (bs v2.Hi))]]⟩) (weak_fin _ rfl rfl rfl (.cons (.same rfl) (.cons (.same rfl) (LeH.rest))) (.cons (.one (.same rfl)) (.nil)) rfl rfl) ?_
    conv => whnf
    cases h
    exact ⟨rfl, rfl⟩
noncomputable def slices_IndexFunc_Hold__lock_Ask_1_l4 (s : (List Hold)) (v : Int) (v2 : Want) (a164 : Int) : Option ((Int) ⊕ ((Int) ⊕ (Unit))) :=
  if (decide (a164 < (s.length : Int))) then
    (ix s a164).bind fun x179 =>
    (lock_Ask_1 x179 v v2).bind fun y181 =>
    if y181 then
      some (.inr (.inl a164))
    else
      some (.inl (IntKind.i64.wrap (a164 + 1)))
  else
    some (.inr (.inr ()))
noncomputable def slices_IndexFunc_Hold__lock_Ask_1 (s : (List Hold)) (v : Int) (v2 : Want) : Option (Int) :=
  (loop (fun (s169 : Int) => slices_IndexFunc_Hold__lock_Ask_1_l4 s v v2 s169) (0 : Int)).bind fun (y165 : (Int) ⊕ (Unit)) =>
  match y165 with
  | (.inl v167) =>
    some v167
  | (.inr v168) =>
    some (-1)
def gm_slices_IndexFunc_Hold__lock_Ask_1 : Gm := ⟨tys, [72], [], []⟩
theorem slices_IndexFunc_Hold__lock_Ask_1_walk (s : (List Hold)) (v : Int) (v2 : Want) (r : Int) (h : slices_IndexFunc_Hold__lock_Ask_1 s v v2 = some r) : CallP Try.prog 85 [.var 3 [.v (.int .i64 v)], .var 44 [.v (.int .i64 v2.Mode), .v (.string (bs v2.Lo)), .v (.string (bs v2.Hi))]] [.sl (List.map encHold s), .fn (.func 72) [] [.ptr 0 0, .ptr 1 0]] (fun a H' => a = .v (.int .i64 r) ∧ H'.take ([.var 3 [.v (.int .i64 v)], .var 44 [.v (.int .i64 v2.Mode), .v (.string (bs v2.Lo)), .v (.string (bs v2.Hi))]] : List Ob).length = [.var 3 [.v (.int .i64 v)], .var 44 [.v (.int .i64 v2.Mode), .v (.string (bs v2.Lo)), .v (.string (bs v2.Hi))]]) := by
  unfold slices_IndexFunc_Hold__lock_Ask_1 at h
  refine callW (G := gm_slices_IndexFunc_Hold__lock_Ask_1) tyOk Try.func85 rfl (by kernel_rfl) (by simp [Try.f85]) ?_
  refine Tri.seqK ?_
  refine Tri.run (G := gm_slices_IndexFunc_Hold__lock_Ask_1) tyOk mixed ?_
  conv => whnf
  refine Tri.seqK ?_
  refine Tri.seqK ?_
  refine Tri.run (G := gm_slices_IndexFunc_Hold__lock_Ask_1) tyOk mixed ?_
  conv => whnf
  refine ⟨⟨(s.length : Int), (len_map _ _).symm, ?_⟩⟩
  conv => whnf
  refine Tri.block ?_
  replace h := bind_some h
  obtain ⟨y165, q166, h⟩ := h
  refine Tri.cut (fun ex S' => (∃ v167 : Int, y165 = (.inl v167) ∧ ex = .ret ∧ Weak S' ⟨19, 2, ofRegs [(4, .v (.int .i64 v167))], [.var 3 [.v (.int .i64 v)], .var 44 [.v (.int .i64 v2.Mode), .v (.string (bs v2.Lo)), .v (.string (bs v2.Hi))]]⟩) ∨ (∃ v168 : Unit, y165 = (.inr v168) ∧ ex = (.exit 0) ∧ Weak S' ⟨19, 2, ofRegs [], [.var 3 [.v (.int .i64 v)], .var 44 [.v (.int .i64 v2.Mode), .v (.string (bs v2.Lo)), .v (.string (bs v2.Hi))]]⟩)) ?_ ?_
  · refine Tri.loopF (fun (s169 : Int) => (⟨19, 2, ofRegs [(0, .sl (List.map encHold s)), (1, .fn (.func 72) [] [.ptr 0 0, .ptr 1 0]), (7, .v (.int .i64 (s.length : Int))), (8, .v (.int .i64 s169))], [.var 3 [.v (.int .i64 v)], .var 44 [.v (.int .i64 v2.Mode), .v (.string (bs v2.Lo)), .v (.string (bs v2.Hi))]]⟩ : St)) q166 (weak_fin _ rfl rfl rfl (.cons (.same rfl) (.cons (.same rfl) (LeH.rest))) (.cons (.one (.same rfl)) (.cons (.one (.same rfl)) (.cons (.one (.same rfl)) (.cons (.one (.same rfl)) (.nil))))) rfl rfl) ?_
    rintro a164 v170 hv r171
    have hv : slices_IndexFunc_Hold__lock_Ask_1_l4 s v v2 a164 = some v170 := hv
    unfold slices_IndexFunc_Hold__lock_Ask_1_l4 at hv
    refine Tri.seqK ?_
    refine Tri.run (G := gm_slices_IndexFunc_Hold__lock_Ask_1) tyOk mixed ?_
    conv => whnf
    refine Tri.seqK ?_
    refine Tri.cond rfl (fun c173 => ?_) (fun c173 => ?_)
    · replace hv := if_t c173 hv
      refine Tri.run (G := gm_slices_IndexFunc_Hold__lock_Ask_1) tyOk mixed ?_
      conv => whnf
      refine Tri.seqK ?_
      refine Tri.block ?_
      refine Tri.seqK ?_
      refine Tri.run (G := gm_slices_IndexFunc_Hold__lock_Ask_1) tyOk mixed ?_
      conv => whnf
      refine Tri.seqK ?_
      refine Tri.run (G := gm_slices_IndexFunc_Hold__lock_Ask_1) tyOk mixed ?_
      conv => whnf
      replace hv := bind_some hv
      obtain ⟨x179, q180, hv⟩ := hv
      refine ⟨(ix_some q180).1, ?_⟩
      conv => whnf
      refine ⟨⟨_, map_get encHold (ix_some q180).2, ?_⟩⟩
      conv => whnf
      refine ⟨rfl, ?_⟩
      conv => whnf
      replace hv := bind_some hv
      obtain ⟨y181, q182, hv⟩ := hv
      refine CallP.use (lock_Ask_1_walk x179 v v2 y181 q182) [0, 1] rfl rfl rfl rfl rfl rfl rfl rfl rfl ?_
      conv => whnf
      refine Tri.cond rfl (fun c183 => ?_) (fun c183 => ?_)
      · replace hv := if_t c183 hv
        refine Tri.seqK ?_
        refine Tri.run (G := gm_slices_IndexFunc_Hold__lock_Ask_1) tyOk mixed ?_
        conv => whnf
        refine Tri.run (G := gm_slices_IndexFunc_Hold__lock_Ask_1) tyOk mixed ?_
        conv => whnf
        cases hv
        obtain rfl := r171 _ rfl
        exact Or.inl ⟨_, rfl, rfl, weak_fin _ rfl rfl rfl (.cons (.same rfl) (.cons (.same rfl) (LeH.rest))) (.cons (.one (.same rfl)) (.nil)) rfl rfl⟩
      · replace hv := if_f c183 hv
        refine Tri.run (G := gm_slices_IndexFunc_Hold__lock_Ask_1) tyOk mixed ?_
        conv => whnf
        refine Tri.run (G := gm_slices_IndexFunc_Hold__lock_Ask_1) tyOk mixed ?_
        conv => whnf
        cases hv
        exact ⟨_, rfl, weak_fin _ rfl rfl rfl (.cons (.same rfl) (.cons (.same rfl) (LeH.rest))) (.cons (.one (.same rfl)) (.cons (.one (.same rfl)) (.cons (.one (.same rfl)) (.cons (.one (.same rfl)) (.nil))))) rfl rfl⟩
    · replace hv := if_f c173 hv
      refine Tri.run (G := gm_slices_IndexFunc_Hold__lock_Ask_1) tyOk mixed ?_
      conv => whnf
      cases hv
      obtain rfl := r171 _ rfl
      exact Or.inr (⟨_, rfl, rfl, weak_fin _ rfl rfl rfl (.cons (.same rfl) (.cons (.same rfl) (LeH.rest))) (.nil) rfl rfl⟩)
  · rintro ex S' (⟨v167, rfl, rfl, w184⟩ | ⟨v168, rfl, rfl, w184⟩)
    · dsimp only at h
      conv => whnf
      refine fin_pre (S' := ⟨19, 2, ofRegs [(4, .v (.int .i64 v167))], [.var 3 [.v (.int .i64 v)], .var 44 [.v (.int .i64 v2.Mode), .v (.string (bs v2.Lo)), .v (.string (bs v2.Hi))]]⟩) (Weak.trans w184 (weak_fin _ rfl rfl rfl (.cons (.same rfl) (.cons (.same rfl) (LeH.rest))) (.cons (.one (.same rfl)) (.nil)) rfl rfl)) ?_
      conv => whnf
      cases h
      exact ⟨rfl, rfl⟩
    · dsimp only at h
      conv => whnf
      refine Tri.weak w184 ?_
      refine Tri.seqK ?_
      refine Tri.run (G := gm_slices_IndexFunc_Hold__lock_Ask_1) tyOk mixed ?_
      conv => whnf
      refine Tri.run (G := gm_slices_IndexFunc_Hold__lock_Ask_1) tyOk mixed ?_
      conv => whnf
      refine fin_pre (S' := ⟨19, 2, ofRegs [(4, .v (.int .i64 (-1)))], [.var 3 [.v (.int .i64 v)], .var 44 [.v (.int .i64 v2.Mode), .v (.string (bs v2.Lo)), .v (.string (bs v2.Hi))]]⟩) (weak_fin _ rfl rfl rfl (.cons (.same rfl) (.cons (.same rfl) (LeH.rest))) (.cons (.one (.same rfl)) (.nil)) rfl rfl) ?_
      conv => whnf
      cases h
      exact ⟨rfl, rfl⟩
noncomputable def slices_ContainsFunc_Hold__lock_Ask_1 (s : (List Hold)) (v : Int) (v2 : Want) : Option (Bool) :=
  (slices_IndexFunc_Hold__lock_Ask_1 s v v2).bind fun y3 =>
  some (decide (y3 ≥ 0))
def gm_slices_ContainsFunc_Hold__lock_Ask_1 : Gm := ⟨tys, [85], [], []⟩
theorem slices_ContainsFunc_Hold__lock_Ask_1_walk (s : (List Hold)) (v : Int) (v2 : Want) (r : Bool) (h : slices_ContainsFunc_Hold__lock_Ask_1 s v v2 = some r) : CallP Try.prog 75 [.var 3 [.v (.int .i64 v)], .var 44 [.v (.int .i64 v2.Mode), .v (.string (bs v2.Lo)), .v (.string (bs v2.Hi))]] [.sl (List.map encHold s), .fn (.func 72) [] [.ptr 0 0, .ptr 1 0]] (fun a H' => a = .v (.bool r) ∧ H'.take ([.var 3 [.v (.int .i64 v)], .var 44 [.v (.int .i64 v2.Mode), .v (.string (bs v2.Lo)), .v (.string (bs v2.Hi))]] : List Ob).length = [.var 3 [.v (.int .i64 v)], .var 44 [.v (.int .i64 v2.Mode), .v (.string (bs v2.Lo)), .v (.string (bs v2.Hi))]]) := by
  unfold slices_ContainsFunc_Hold__lock_Ask_1 at h
  refine callW (G := gm_slices_ContainsFunc_Hold__lock_Ask_1) tyOk Try.func75 rfl (by kernel_rfl) (by simp [Try.f75]) ?_
  refine Tri.seqK ?_
  refine Tri.run (G := gm_slices_ContainsFunc_Hold__lock_Ask_1) tyOk mixed ?_
  conv => whnf
  refine Tri.seqK ?_
  refine Tri.run (G := gm_slices_ContainsFunc_Hold__lock_Ask_1) tyOk mixed ?_
  conv => whnf
  replace h := bind_some h
  obtain ⟨y3, q4, h⟩ := h
  refine CallP.use (slices_IndexFunc_Hold__lock_Ask_1_walk s v v2 y3 q4) [0, 1] rfl rfl rfl rfl rfl rfl rfl rfl rfl ?_
  conv => whnf
  refine Tri.run (G := gm_slices_ContainsFunc_Hold__lock_Ask_1) tyOk mixed ?_
  conv => whnf
  refine fin_pre (S' := ⟨9, 2, ofRegs [(4, .v (.bool (decide (y3 ≥ 0))))], [.var 3 [.v (.int .i64 v)], .var 44 [.v (.int .i64 v2.Mode), .v (.string (bs v2.Lo)), .v (.string (bs v2.Hi))]]⟩) (weak_fin _ rfl rfl rfl (.cons (.same rfl) (.cons (.same rfl) (LeH.rest))) (.cons (.one (.same rfl)) (.nil)) rfl rfl) ?_
  conv => whnf
  cases h
  exact ⟨rfl, rfl⟩
noncomputable def span_In (w : Want) (key : Str) : Option (Bool) :=
  if (!ltS key w.Lo) then
    if (decide (w.Hi = [])) then
      some true
    else
      some (ltS key w.Hi)
  else
    some false
def gm_span_In : Gm := ⟨tys, [], [], []⟩
theorem span_In_walk (w : Want) (key : Str) (r : Bool) (h : span_In w key = some r) : PureP Try.prog 101 [.agg [.v (.int .i64 w.Mode), .v (.string (bs w.Lo)), .v (.string (bs w.Hi))], .v (.string (bs key))] (fun a => a = .v (.bool r)) := by
  unfold span_In at h
  refine pureW (G := gm_span_In) tyOk Try.func101 rfl (by kernel_rfl) (by simp [Try.f101]) ?_
  refine Tri.seqK ?_
  refine Tri.run (G := gm_span_In) tyOk mixed ?_
  conv => whnf
  refine Tri.seqK ?_
  refine Tri.run (G := gm_span_In) tyOk mixed ?_
  conv => whnf
  refine ⟨⟨(!ltS key w.Lo), bs_ge _ _, ?_⟩⟩
  conv => whnf
  refine cond_mk (fun c1 => ?_) (fun c1 => ?_)
  · replace h := if_t c1 h
    conv => whnf
    refine ⟨⟨(decide (w.Hi = [])), bs_eq _ _, ?_⟩⟩
    conv => whnf
    refine cond_mk (fun c2 => ?_) (fun c2 => ?_)
    · replace h := if_t c2 h
      conv => whnf
      refine Tri.run (G := gm_span_In) tyOk mixed ?_
      conv => whnf
      refine fin_here ?_
      conv => whnf
      cases h
      rfl
    · replace h := if_f c2 h
      conv => whnf
      refine ⟨⟨(ltS key w.Hi), bs_lt _ _, ?_⟩⟩
      conv => whnf
      refine Tri.run (G := gm_span_In) tyOk mixed ?_
      conv => whnf
      refine fin_here ?_
      conv => whnf
      cases h
      rfl
  · replace h := if_f c1 h
    conv => whnf
    refine Tri.run (G := gm_span_In) tyOk mixed ?_
    conv => whnf
    refine fin_here ?_
    conv => whnf
    cases h
    rfl
noncomputable def span_Overlap (a : Want) (b : Want) : Option (Bool) :=
  (
    (span_empty a).bind fun y32 =>
    if y32 then
      some true
    else
      (span_empty b).bind fun y35 =>
      some y35).bind fun (y30 : Bool) =>
  if y30 then
    some false
  else
    (span_In a b.Lo).bind fun y39 =>
    if y39 then
      some true
    else
      (span_In b a.Lo).bind fun y42 =>
      some y42
def gm_span_Overlap : Gm := ⟨tys, [], [], []⟩
theorem span_Overlap_walk (a : Want) (b : Want) (r : Bool) (h : span_Overlap a b = some r) : PureP Try.prog 87 [.agg [.v (.int .i64 a.Mode), .v (.string (bs a.Lo)), .v (.string (bs a.Hi))], .agg [.v (.int .i64 b.Mode), .v (.string (bs b.Lo)), .v (.string (bs b.Hi))]] (fun a => a = .v (.bool r)) := by
  unfold span_Overlap at h
  refine pureW (G := gm_span_Overlap) tyOk Try.func87 rfl (by kernel_rfl) (by simp [Try.f87]) ?_
  refine Tri.seqK ?_
  refine Tri.run (G := gm_span_Overlap) tyOk mixed ?_
  conv => whnf
  refine Tri.seqK ?_
  refine Tri.seqK ?_
  replace h := bind_some h
  obtain ⟨y30, q31, h⟩ := h
  refine Tri.cut (fun ex S' => ex = .normal ∧ Weak S' ⟨21, 0, ofRegs [(2, .ptr 0 0), (3, .ptr 1 0), (10, .v (.bool y30))], [.var 44 [.v (.int .i64 a.Mode), .v (.string (bs a.Lo)), .v (.string (bs a.Hi))], .var 44 [.v (.int .i64 b.Mode), .v (.string (bs b.Lo)), .v (.string (bs b.Hi))]]⟩) ?_ ?_
  · refine Tri.run (G := gm_span_Overlap) tyOk mixed ?_
    conv => whnf
    replace q31 := bind_some q31
    obtain ⟨y32, q33, q31⟩ := q31
    refine PureP.mono (span_empty_walk a y32 q33) ?_
    rintro _ rfl
    conv => whnf
    refine cond_mk (fun c34 => ?_) (fun c34 => ?_)
    · replace q31 := if_t c34 q31
      conv => whnf
      cases q31
      exact ⟨rfl, weak_fin _ rfl rfl rfl (.cons (.same rfl) (.cons (.same rfl) (LeH.rest))) (.cons (.one (.same rfl)) (.cons (.one (.same rfl)) (.cons (.one (.same rfl)) (.nil)))) rfl rfl⟩
    · replace q31 := if_f c34 q31
      conv => whnf
      replace q31 := bind_some q31
      obtain ⟨y35, q36, q31⟩ := q31
      refine PureP.mono (span_empty_walk b y35 q36) ?_
      rintro _ rfl
      conv => whnf
      cases q31
      exact ⟨rfl, weak_fin _ rfl rfl rfl (.cons (.same rfl) (.cons (.same rfl) (LeH.rest))) (.cons (.one (.same rfl)) (.cons (.one (.same rfl)) (.cons (.one (.same rfl)) (.nil)))) rfl rfl⟩
  · rintro ex S' ⟨rfl, w37⟩
    conv => whnf
    refine Tri.weak w37 ?_
    refine Tri.cond rfl (fun c38 => ?_) (fun c38 => ?_)
    · replace h := if_t c38 h
      refine Tri.seqK ?_
      refine Tri.run (G := gm_span_Overlap) tyOk mixed ?_
      conv => whnf
      refine Tri.run (G := gm_span_Overlap) tyOk mixed ?_
      conv => whnf
      refine fin_here ?_
      conv => whnf
      cases h
      rfl
    · replace h := if_f c38 h
      refine Tri.run (G := gm_span_Overlap) tyOk mixed ?_
      conv => whnf
      refine Tri.seqK ?_
      refine Tri.run (G := gm_span_Overlap) tyOk mixed ?_
      conv => whnf
      replace h := bind_some h
      obtain ⟨y39, q40, h⟩ := h
      refine PureP.mono (span_In_walk a b.Lo y39 q40) ?_
      rintro _ rfl
      conv => whnf
      refine cond_mk (fun c41 => ?_) (fun c41 => ?_)
      · replace h := if_t c41 h
        conv => whnf
        refine Tri.run (G := gm_span_Overlap) tyOk mixed ?_
        conv => whnf
        refine fin_here ?_
        conv => whnf
        cases h
        rfl
      · replace h := if_f c41 h
        conv => whnf
        replace h := bind_some h
        obtain ⟨y42, q43, h⟩ := h
        refine PureP.mono (span_In_walk b a.Lo y42 q43) ?_
        rintro _ rfl
        conv => whnf
        refine Tri.run (G := gm_span_Overlap) tyOk mixed ?_
        conv => whnf
        refine fin_here ?_
        conv => whnf
        cases h
        rfl
noncomputable def span_Clash (a : Want) (b : Want) : Option (Bool) :=
  (span_Overlap a b).bind fun y1 =>
  if y1 then
    if (decide (a.Mode = 2)) then
      some true
    else
      some (decide (b.Mode = 2))
  else
    some false
def gm_span_Clash : Gm := ⟨tys, [], [], []⟩
theorem span_Clash_walk (a : Want) (b : Want) (r : Bool) (h : span_Clash a b = some r) : PureP Try.prog 66 [.agg [.v (.int .i64 a.Mode), .v (.string (bs a.Lo)), .v (.string (bs a.Hi))], .agg [.v (.int .i64 b.Mode), .v (.string (bs b.Lo)), .v (.string (bs b.Hi))]] (fun a => a = .v (.bool r)) := by
  unfold span_Clash at h
  refine pureW (G := gm_span_Clash) tyOk Try.func66 rfl (by kernel_rfl) (by simp [Try.f66]) ?_
  refine Tri.seqK ?_
  refine Tri.run (G := gm_span_Clash) tyOk mixed ?_
  conv => whnf
  refine Tri.seqK ?_
  refine Tri.run (G := gm_span_Clash) tyOk mixed ?_
  conv => whnf
  replace h := bind_some h
  obtain ⟨y1, q2, h⟩ := h
  refine PureP.mono (span_Overlap_walk a b y1 q2) ?_
  rintro _ rfl
  conv => whnf
  refine cond_mk (fun c3 => ?_) (fun c3 => ?_)
  · replace h := if_t c3 h
    conv => whnf
    refine cond_mk (fun c4 => ?_) (fun c4 => ?_)
    · replace h := if_t c4 h
      conv => whnf
      refine Tri.run (G := gm_span_Clash) tyOk mixed ?_
      conv => whnf
      refine fin_here ?_
      conv => whnf
      cases h
      rfl
    · replace h := if_f c4 h
      conv => whnf
      refine Tri.run (G := gm_span_Clash) tyOk mixed ?_
      conv => whnf
      refine fin_here ?_
      conv => whnf
      cases h
      rfl
  · replace h := if_f c3 h
    conv => whnf
    refine Tri.run (G := gm_span_Clash) tyOk mixed ?_
    conv => whnf
    refine fin_here ?_
    conv => whnf
    cases h
    rfl
noncomputable def lock_Blockers_l2 (l : Locks) (txn : Int) (w : Want) (a278 : Int) (a279 : (List Int)) : Option ((Int × (List Int)) ⊕ ((List Int))) :=
  if (decide (a278 < (l.Held.length : Int))) then
    (
      (ix l.Held a278).bind fun x321 =>
      (
        if (!(decide (x321.Txn = txn))) then
          (span_Clash x321.W w).bind fun y332 =>
          some y332
        else
          some false).bind fun (y329 : Bool) =>
      if y329 then
        need ((-9223372036854775808 ≤ x321.Txn ∧ x321.Txn ≤ 9223372036854775807) ∧ a279.length < 1073741824) <|
        some (insI a279 x321.Txn)
      else
        some a279).bind fun (y319 : (List Int)) =>
    some (.inl ((IntKind.i64.wrap (a278 + 1)), y319))
  else
    some (.inr a279)
noncomputable def lock_Blockers_l4 (l : Locks) (txn : Int) (w : Want) (n : Int) (a618 : Int) (a619 : (List Int)) : Option ((Int × (List Int)) ⊕ ((List Int))) :=
  if (decide (a618 < ((cut l.Queue 0 (if (l.Queue.length : Int) < (if n < 0 then 0 else n) then (l.Queue.length : Int) else (if n < 0 then 0 else n))).length : Int))) then
    (
      (ix (cut l.Queue 0 (if (l.Queue.length : Int) < (if n < 0 then 0 else n) then (l.Queue.length : Int) else (if n < 0 then 0 else n))) a618).bind fun x661 =>
      (
        if (!(decide (x661.Txn = txn))) then
          (span_Clash x661.W w).bind fun y672 =>
          some y672
        else
          some false).bind fun (y669 : Bool) =>
      if y669 then
        need ((-9223372036854775808 ≤ x661.Txn ∧ x661.Txn ≤ 9223372036854775807) ∧ a619.length < 1073741824) <|
        some (insI a619 x661.Txn)
      else
        some a619).bind fun (y659 : (List Int)) =>
    some (.inl ((IntKind.i64.wrap (a618 + 1)), y659))
  else
    some (.inr a619)
noncomputable def lock_Blockers (l : Locks) (txn : Int) (w : Want) (n : Int) : Option ((List Int)) :=
  (loop (fun (s282 : Int × (List Int)) => lock_Blockers_l2 l txn w s282.1 s282.2) ((0 : Int), ([] : List Int))).bind fun (y280 : (List Int)) =>
  need (0 ≤ (0 : Int) ∧ 0 ≤ (if (l.Queue.length : Int) < (if n < 0 then 0 else n) then (l.Queue.length : Int) else (if n < 0 then 0 else n)) ∧ (if (l.Queue.length : Int) < (if n < 0 then 0 else n) then (l.Queue.length : Int) else (if n < 0 then 0 else n)) ≤ (l.Queue.length : Int)) <|
  (loop (fun (s622 : Int × (List Int)) => lock_Blockers_l4 l txn w n s622.1 s622.2) ((0 : Int), y280)).bind fun (y620 : (List Int)) =>
  need (y620.length < 1073741824) <|
  some (List.mergeSort y620 leI)
def gm_lock_Blockers : Gm := ⟨tys, [51, 52], [], []⟩
theorem lock_Blockers_walk (l : Locks) (txn : Int) (w : Want) (n : Int) (r : (List Int)) (h : lock_Blockers l txn w n = some r) : PureP Try.prog 36 [.agg [.sl (List.map encHold l.Held), .sl (List.map encClaim l.Queue)], .v (.int .i64 txn), .agg [.v (.int .i64 w.Mode), .v (.string (bs w.Lo)), .v (.string (bs w.Hi))], .v (.int .i64 n)] (fun a => a = .sl (List.map (encI .i64) r)) := by
  unfold lock_Blockers at h
  refine pureW (G := gm_lock_Blockers) tyOk Try.func36 rfl (by kernel_rfl) (by simp [Try.f36]) ?_
  refine Tri.seqK ?_
  refine Tri.run (G := gm_lock_Blockers) tyOk mixed ?_
  conv => whnf
  refine Tri.seqK ?_
  refine Tri.run (G := gm_lock_Blockers) tyOk mixed ?_
  conv => whnf
  refine OpP.make 3 4 rfl rfl ?_
  conv => whnf
  refine Tri.seqK ?_
  refine Tri.seqK ?_
  refine Tri.run (G := gm_lock_Blockers) tyOk mixed ?_
  conv => whnf
  refine ⟨⟨(l.Held.length : Int), (len_map _ _).symm, ?_⟩⟩
  conv => whnf
  refine Tri.block ?_
  replace h := bind_some h
  obtain ⟨y280, q281, h⟩ := h
  refine Tri.cut (fun ex S' => ex = (.exit 0) ∧ Weak S' ⟨67, 0, ofRegs [(1, .v (.int .i64 txn)), (3, .v (.int .i64 n)), (4, .ptr 0 0), (6, .ptr 1 0), (9, .mp 2)], [.var 25 [.sl (List.map encHold l.Held), .sl (List.map encClaim l.Queue)], .var 44 [.v (.int .i64 w.Mode), .v (.string (bs w.Lo)), .v (.string (bs w.Hi))], .ext (mapI Try.prog 3 4 y280)]⟩) ?_ ?_
  · refine Tri.loopF (fun (s282 : Int × (List Int)) => (⟨67, 0, ofRegs [(1, .v (.int .i64 txn)), (3, .v (.int .i64 n)), (4, .ptr 0 0), (6, .ptr 1 0), (9, .mp 2), (16, .sl (List.map encHold l.Held)), (17, .v (.int .i64 (l.Held.length : Int))), (18, .v (.int .i64 s282.1))], [.var 25 [.sl (List.map encHold l.Held), .sl (List.map encClaim l.Queue)], .var 44 [.v (.int .i64 w.Mode), .v (.string (bs w.Lo)), .v (.string (bs w.Hi))], .ext (mapI Try.prog 3 4 s282.2)]⟩ : St)) q281 (weak_fin _ rfl rfl rfl (.cons (.same rfl) (.cons (.same rfl) (.cons (.same rfl) (LeH.rest)))) (.cons (.one (.same rfl)) (.cons (.one (.same rfl)) (.cons (.one (.same rfl)) (.cons (.one (.same rfl)) (.cons (.one (.same rfl)) (.cons (.one (.same rfl)) (.cons (.one (.same rfl)) (.cons (.one (.same rfl)) (.nil))))))))) rfl rfl) ?_
    rintro ⟨a278, a279⟩ v283 hv r284
    have hv : lock_Blockers_l2 l txn w a278 a279 = some v283 := hv
    unfold lock_Blockers_l2 at hv
    dsimp only
    refine Tri.seqK ?_
    refine Tri.run (G := gm_lock_Blockers) tyOk mixed ?_
    conv => whnf
    refine Tri.seqK ?_
    refine Tri.cond rfl (fun c286 => ?_) (fun c286 => ?_)
    · replace hv := if_t c286 hv
      refine Tri.run (G := gm_lock_Blockers) tyOk mixed ?_
      conv => whnf
      refine Tri.seqK ?_
      replace hv := bind_some hv
      obtain ⟨y319, q320, hv⟩ := hv
      refine Tri.cut (fun ex S' => ex = .normal ∧ Weak S' ⟨67, 0, ofRegs [(1, .v (.int .i64 txn)), (3, .v (.int .i64 n)), (4, .ptr 0 0), (6, .ptr 1 0), (9, .mp 2), (16, .sl (List.map encHold l.Held)), (17, .v (.int .i64 (l.Held.length : Int))), (18, .v (.int .i64 a278))], [.var 25 [.sl (List.map encHold l.Held), .sl (List.map encClaim l.Queue)], .var 44 [.v (.int .i64 w.Mode), .v (.string (bs w.Lo)), .v (.string (bs w.Hi))], .ext (mapI Try.prog 3 4 y319)]⟩) ?_ ?_
      · refine Tri.block ?_
        refine Tri.seqK ?_
        refine Tri.run (G := gm_lock_Blockers) tyOk mixed ?_
        conv => whnf
        replace q320 := bind_some q320
        obtain ⟨x321, q322, q320⟩ := q320
        refine ⟨(ix_some q322).1, ?_⟩
        conv => whnf
        refine ⟨⟨_, map_get encHold (ix_some q322).2, ?_⟩⟩
        conv => whnf
        refine ⟨rfl, ?_⟩
        conv => whnf
        refine Tri.seqK ?_
        replace q320 := bind_some q320
        obtain ⟨y329, q330, q320⟩ := q320
        refine Tri.cut (fun ex S' => ex = .normal ∧ Weak S' ⟨67, 0, ofRegs [(1, .v (.int .i64 txn)), (3, .v (.int .i64 n)), (4, .ptr 0 0), (6, .ptr 1 0), (9, .mp 2), (11, .ptr 3 0), (16, .sl (List.map encHold l.Held)), (17, .v (.int .i64 (l.Held.length : Int))), (18, .v (.int .i64 a278)), (31, .v (.bool y329))], [.var 25 [.sl (List.map encHold l.Held), .sl (List.map encClaim l.Queue)], .var 44 [.v (.int .i64 w.Mode), .v (.string (bs w.Lo)), .v (.string (bs w.Hi))], .ext (mapI Try.prog 3 4 a279), .var 46 [.v (.int .i64 x321.Txn), .v (.int .i64 x321.W.Mode), .v (.string (bs x321.W.Lo)), .v (.string (bs x321.W.Hi))]]⟩) ?_ ?_
        · refine Tri.run (G := gm_lock_Blockers) tyOk mixed ?_
          conv => whnf
          refine cond_mk (fun c331 => ?_) (fun c331 => ?_)
          · replace q330 := if_t c331 q330
            conv => whnf
            replace q330 := bind_some q330
            obtain ⟨y332, q333, q330⟩ := q330
            refine PureP.mono (span_Clash_walk x321.W w y332 q333) ?_
            rintro _ rfl
            conv => whnf
            cases q330
            exact ⟨rfl, weak_fin _ rfl rfl rfl (.cons (.same rfl) (.cons (.same rfl) (.cons (.same rfl) (.cons (.same rfl) (LeH.rest))))) (.cons (.one (.same rfl)) (.cons (.one (.same rfl)) (.cons (.one (.same rfl)) (.cons (.one (.same rfl)) (.cons (.one (.same rfl)) (.cons (.one (.same rfl)) (.cons (.one (.same rfl)) (.cons (.one (.same rfl)) (.cons (.one (.same rfl)) (.cons (.one (.same rfl)) (.nil))))))))))) rfl rfl⟩
          · replace q330 := if_f c331 q330
            conv => whnf
            cases q330
            exact ⟨rfl, weak_fin _ rfl rfl rfl (.cons (.same rfl) (.cons (.same rfl) (.cons (.same rfl) (.cons (.same rfl) (LeH.rest))))) (.cons (.one (.same rfl)) (.cons (.one (.same rfl)) (.cons (.one (.same rfl)) (.cons (.one (.same rfl)) (.cons (.one (.same rfl)) (.cons (.one (.same rfl)) (.cons (.one (.same rfl)) (.cons (.one (.same rfl)) (.cons (.one (.same rfl)) (.cons (.one (.same rfl)) (.nil))))))))))) rfl rfl⟩
        · rintro ex S' ⟨rfl, w334⟩
          conv => whnf
          refine Tri.weak w334 ?_
          refine Tri.cond rfl (fun c335 => ?_) (fun c335 => ?_)
          · replace q320 := if_t c335 q320
            refine Tri.run (G := gm_lock_Blockers) tyOk mixed ?_
            conv => whnf
            replace q320 := need_some q320
            obtain ⟨p336, q320⟩ := q320
            refine OpP.set rfl rfl rfl rfl rfl rfl Try.underlying70 Try.underlying3 Try.underlying4 p336 ?_
            conv => whnf
            cases q320
            exact ⟨rfl, weak_fin _ rfl rfl rfl (.cons (.same rfl) (.cons (.same rfl) (.cons (.same rfl) (LeH.rest)))) (.cons (.one (.same rfl)) (.cons (.one (.same rfl)) (.cons (.one (.same rfl)) (.cons (.one (.same rfl)) (.cons (.one (.same rfl)) (.cons (.one (.same rfl)) (.cons (.one (.same rfl)) (.cons (.one (.same rfl)) (.nil))))))))) rfl rfl⟩
          · replace q320 := if_f c335 q320
            refine Tri.run (G := gm_lock_Blockers) tyOk mixed ?_
            conv => whnf
            cases q320
            exact ⟨rfl, weak_fin _ rfl rfl rfl (.cons (.same rfl) (.cons (.same rfl) (.cons (.same rfl) (LeH.rest)))) (.cons (.one (.same rfl)) (.cons (.one (.same rfl)) (.cons (.one (.same rfl)) (.cons (.one (.same rfl)) (.cons (.one (.same rfl)) (.cons (.one (.same rfl)) (.cons (.one (.same rfl)) (.cons (.one (.same rfl)) (.nil))))))))) rfl rfl⟩
      · rintro ex S' ⟨rfl, w337⟩
        conv => whnf
        refine Tri.weak w337 ?_
        refine Tri.run (G := gm_lock_Blockers) tyOk mixed ?_
        conv => whnf
        cases hv
        exact ⟨_, rfl, weak_fin _ rfl rfl rfl (.cons (.same rfl) (.cons (.same rfl) (.cons (.same rfl) (LeH.rest)))) (.cons (.one (.same rfl)) (.cons (.one (.same rfl)) (.cons (.one (.same rfl)) (.cons (.one (.same rfl)) (.cons (.one (.same rfl)) (.cons (.one (.same rfl)) (.cons (.one (.same rfl)) (.cons (.one (.same rfl)) (.nil))))))))) rfl rfl⟩
    · replace hv := if_f c286 hv
      refine Tri.run (G := gm_lock_Blockers) tyOk mixed ?_
      conv => whnf
      cases hv
      obtain rfl := r284 _ rfl
      exact ⟨rfl, weak_fin _ rfl rfl rfl (.cons (.same rfl) (.cons (.same rfl) (.cons (.same rfl) (LeH.rest)))) (.cons (.one (.same rfl)) (.cons (.one (.same rfl)) (.cons (.one (.same rfl)) (.cons (.one (.same rfl)) (.cons (.one (.same rfl)) (.nil)))))) rfl rfl⟩
  · rintro ex S' ⟨rfl, w338⟩
    conv => whnf
    refine Tri.weak w338 ?_
    refine Tri.seqK ?_
    refine Tri.seqK ?_
    refine Tri.run (G := gm_lock_Blockers) tyOk mixed ?_
    conv => whnf
    refine ⟨⟨(l.Queue.length : Int), (len_map _ _).symm, ?_⟩⟩
    conv => whnf
    refine ⟨map_len (f := encClaim) (n := 5) (fun _ => rfl) _, ?_⟩
    conv => whnf
    replace h := need_some h
    obtain ⟨p509, h⟩ := h
    refine ⟨by simpa only [List.length_map, if_true, if_false, Bool.false_eq_true] using p509, ?_⟩
    conv => whnf
    refine ⟨⟨List.map encClaim (cut l.Queue 0 (if (l.Queue.length : Int) < (if n < 0 then 0 else n) then (l.Queue.length : Int) else (if n < 0 then 0 else n))), map_cut _ _ _ _, ?_⟩⟩
    conv => whnf
    refine ⟨⟨((cut l.Queue 0 (if (l.Queue.length : Int) < (if n < 0 then 0 else n) then (l.Queue.length : Int) else (if n < 0 then 0 else n))).length : Int), (len_map _ _).symm, ?_⟩⟩
    conv => whnf
    refine Tri.block ?_
    replace h := bind_some h
    obtain ⟨y620, q621, h⟩ := h
    refine Tri.cut (fun ex S' => ex = (.exit 2) ∧ Weak S' ⟨67, 0, ofRegs [(9, .mp 2)], [.gone, .gone, .ext (mapI Try.prog 3 4 y620)]⟩) ?_ ?_
    · refine Tri.loopF (fun (s622 : Int × (List Int)) => (⟨67, 0, ofRegs [(1, .v (.int .i64 txn)), (6, .ptr 1 0), (9, .mp 2), (44, .sl (List.map encClaim (cut l.Queue 0 (if (l.Queue.length : Int) < (if n < 0 then 0 else n) then (l.Queue.length : Int) else (if n < 0 then 0 else n))))), (45, .v (.int .i64 ((cut l.Queue 0 (if (l.Queue.length : Int) < (if n < 0 then 0 else n) then (l.Queue.length : Int) else (if n < 0 then 0 else n))).length : Int))), (46, .v (.int .i64 s622.1))], [.gone, .var 44 [.v (.int .i64 w.Mode), .v (.string (bs w.Lo)), .v (.string (bs w.Hi))], .ext (mapI Try.prog 3 4 s622.2)]⟩ : St)) q621 (weak_fin _ rfl rfl rfl (.cons (.gone) (.cons (.same rfl) (.cons (.same rfl) (LeH.rest)))) (.cons (.one (.same rfl)) (.cons (.one (.same rfl)) (.cons (.one (.same rfl)) (.cons (.one (.same rfl)) (.cons (.one (.same rfl)) (.cons (.one (.same rfl)) (.nil))))))) rfl rfl) ?_
      rintro ⟨a618, a619⟩ v623 hv r624
      have hv : lock_Blockers_l4 l txn w n a618 a619 = some v623 := hv
      unfold lock_Blockers_l4 at hv
      dsimp only
      refine Tri.seqK ?_
      refine Tri.run (G := gm_lock_Blockers) tyOk mixed ?_
      conv => whnf
      refine Tri.seqK ?_
      refine Tri.cond rfl (fun c626 => ?_) (fun c626 => ?_)
      · replace hv := if_t c626 hv
        refine Tri.run (G := gm_lock_Blockers) tyOk mixed ?_
        conv => whnf
        refine Tri.seqK ?_
        replace hv := bind_some hv
        obtain ⟨y659, q660, hv⟩ := hv
        refine Tri.cut (fun ex S' => ex = .normal ∧ Weak S' ⟨67, 0, ofRegs [(1, .v (.int .i64 txn)), (6, .ptr 1 0), (9, .mp 2), (44, .sl (List.map encClaim (cut l.Queue 0 (if (l.Queue.length : Int) < (if n < 0 then 0 else n) then (l.Queue.length : Int) else (if n < 0 then 0 else n))))), (45, .v (.int .i64 ((cut l.Queue 0 (if (l.Queue.length : Int) < (if n < 0 then 0 else n) then (l.Queue.length : Int) else (if n < 0 then 0 else n))).length : Int))), (46, .v (.int .i64 a618))], [.gone, .var 44 [.v (.int .i64 w.Mode), .v (.string (bs w.Lo)), .v (.string (bs w.Hi))], .ext (mapI Try.prog 3 4 y659)]⟩) ?_ ?_
        · refine Tri.block ?_
          refine Tri.seqK ?_
          refine Tri.run (G := gm_lock_Blockers) tyOk mixed ?_
          conv => whnf
          replace q660 := bind_some q660
          obtain ⟨x661, q662, q660⟩ := q660
          refine ⟨(ix_some q662).1, ?_⟩
          conv => whnf
          refine ⟨⟨_, map_get encClaim (ix_some q662).2, ?_⟩⟩
          conv => whnf
          refine ⟨rfl, ?_⟩
          conv => whnf
          refine Tri.seqK ?_
          replace q660 := bind_some q660
          obtain ⟨y669, q670, q660⟩ := q660
          refine Tri.cut (fun ex S' => ex = .normal ∧ Weak S' ⟨67, 0, ofRegs [(1, .v (.int .i64 txn)), (6, .ptr 1 0), (9, .mp 2), (13, .ptr 3 0), (44, .sl (List.map encClaim (cut l.Queue 0 (if (l.Queue.length : Int) < (if n < 0 then 0 else n) then (l.Queue.length : Int) else (if n < 0 then 0 else n))))), (45, .v (.int .i64 ((cut l.Queue 0 (if (l.Queue.length : Int) < (if n < 0 then 0 else n) then (l.Queue.length : Int) else (if n < 0 then 0 else n))).length : Int))), (46, .v (.int .i64 a618)), (59, .v (.bool y669))], [.gone, .var 44 [.v (.int .i64 w.Mode), .v (.string (bs w.Lo)), .v (.string (bs w.Hi))], .ext (mapI Try.prog 3 4 a619), .var 51 [.v (.int .i64 x661.Txn), .v (.int .i64 x661.W.Mode), .v (.string (bs x661.W.Lo)), .v (.string (bs x661.W.Hi)), .v (.int .u64 x661.Until)]]⟩) ?_ ?_
          · refine Tri.run (G := gm_lock_Blockers) tyOk mixed ?_
            conv => whnf
            refine cond_mk (fun c671 => ?_) (fun c671 => ?_)
            · replace q670 := if_t c671 q670
              conv => whnf
              replace q670 := bind_some q670
              obtain ⟨y672, q673, q670⟩ := q670
              refine PureP.mono (span_Clash_walk x661.W w y672 q673) ?_
              rintro _ rfl
              conv => whnf
              cases q670
              exact ⟨rfl, weak_fin _ rfl rfl rfl (.cons (.same rfl) (.cons (.same rfl) (.cons (.same rfl) (.cons (.same rfl) (LeH.rest))))) (.cons (.one (.same rfl)) (.cons (.one (.same rfl)) (.cons (.one (.same rfl)) (.cons (.one (.same rfl)) (.cons (.one (.same rfl)) (.cons (.one (.same rfl)) (.cons (.one (.same rfl)) (.cons (.one (.same rfl)) (.nil))))))))) rfl rfl⟩
            · replace q670 := if_f c671 q670
              conv => whnf
              cases q670
              exact ⟨rfl, weak_fin _ rfl rfl rfl (.cons (.same rfl) (.cons (.same rfl) (.cons (.same rfl) (.cons (.same rfl) (LeH.rest))))) (.cons (.one (.same rfl)) (.cons (.one (.same rfl)) (.cons (.one (.same rfl)) (.cons (.one (.same rfl)) (.cons (.one (.same rfl)) (.cons (.one (.same rfl)) (.cons (.one (.same rfl)) (.cons (.one (.same rfl)) (.nil))))))))) rfl rfl⟩
          · rintro ex S' ⟨rfl, w674⟩
            conv => whnf
            refine Tri.weak w674 ?_
            refine Tri.cond rfl (fun c675 => ?_) (fun c675 => ?_)
            · replace q660 := if_t c675 q660
              refine Tri.run (G := gm_lock_Blockers) tyOk mixed ?_
              conv => whnf
              replace q660 := need_some q660
              obtain ⟨p676, q660⟩ := q660
              refine OpP.set rfl rfl rfl rfl rfl rfl Try.underlying70 Try.underlying3 Try.underlying4 p676 ?_
              conv => whnf
              cases q660
              exact ⟨rfl, weak_fin _ rfl rfl rfl (.cons (.same rfl) (.cons (.same rfl) (.cons (.same rfl) (LeH.rest)))) (.cons (.one (.same rfl)) (.cons (.one (.same rfl)) (.cons (.one (.same rfl)) (.cons (.one (.same rfl)) (.cons (.one (.same rfl)) (.cons (.one (.same rfl)) (.nil))))))) rfl rfl⟩
            · replace q660 := if_f c675 q660
              refine Tri.run (G := gm_lock_Blockers) tyOk mixed ?_
              conv => whnf
              cases q660
              exact ⟨rfl, weak_fin _ rfl rfl rfl (.cons (.same rfl) (.cons (.same rfl) (.cons (.same rfl) (LeH.rest)))) (.cons (.one (.same rfl)) (.cons (.one (.same rfl)) (.cons (.one (.same rfl)) (.cons (.one (.same rfl)) (.cons (.one (.same rfl)) (.cons (.one (.same rfl)) (.nil))))))) rfl rfl⟩
        · rintro ex S' ⟨rfl, w677⟩
          conv => whnf
          refine Tri.weak w677 ?_
          refine Tri.run (G := gm_lock_Blockers) tyOk mixed ?_
          conv => whnf
          cases hv
          exact ⟨_, rfl, weak_fin _ rfl rfl rfl (.cons (.same rfl) (.cons (.same rfl) (.cons (.same rfl) (LeH.rest)))) (.cons (.one (.same rfl)) (.cons (.one (.same rfl)) (.cons (.one (.same rfl)) (.cons (.one (.same rfl)) (.cons (.one (.same rfl)) (.cons (.one (.same rfl)) (.nil))))))) rfl rfl⟩
      · replace hv := if_f c626 hv
        refine Tri.run (G := gm_lock_Blockers) tyOk mixed ?_
        conv => whnf
        cases hv
        obtain rfl := r624 _ rfl
        exact ⟨rfl, weak_fin _ rfl rfl rfl (.cons (.same rfl) (.cons (.gone) (.cons (.same rfl) (LeH.rest)))) (.cons (.one (.same rfl)) (.nil)) rfl rfl⟩
    · rintro ex S' ⟨rfl, w678⟩
      conv => whnf
      refine Tri.weak w678 ?_
      refine Tri.seqK ?_
      refine Tri.run (G := gm_lock_Blockers) tyOk mixed ?_
      conv => whnf
      refine keys_52 ?_
      conv => whnf
      replace h := need_some h
      obtain ⟨p679, h⟩ := h
      refine sorted_51 rfl rfl p679 ?_
      conv => whnf
      refine Tri.run (G := gm_lock_Blockers) tyOk mixed ?_
      conv => whnf
      refine fin_here ?_
      conv => whnf
      refine ⟨by first | (simp; done) | (simp only [List.length_map, List.length_append, List.length_take, List.length_drop, List.length_replicate, List.length_set, List.length_mergeSort]; omega), ?_⟩
      conv => whnf
      cases h
      rfl
noncomputable def lock_Ask (l : Locks) (txn : Int) (w : Want) (until_ : Int) : Option (Locks × Int) :=
  (
    if (decide (txn < 1)) then
      some true
    else
      (span_May w).bind fun y43 =>
      some (!y43)).bind fun (y40 : Bool) =>
  if y40 then
    some (l, 1)
  else
    (lock_Waits l txn).bind fun y47 =>
    if y47 then
      some (l, 8)
    else
      (slices_ContainsFunc_Hold__lock_Ask_1 l.Held txn w).bind fun y50 =>
      if y50 then
        some (l, 0)
      else
        (lock_Blockers l txn w (l.Queue.length : Int)).bind fun y53 =>
        if (decide ((y53.length : Int) = 0)) then
          need (l.Held.length * 48 ≤ 140737488355328) <|
          need ((l.Held.length + 1) * 48 ≤ 140737488355328) <|
          some (({ Held := (l.Held ++ [({ Txn := txn, W := w } : Hold)]), Queue := l.Queue } : Locks), 0)
        else
          if (decide ((l.Queue.length : Int) ≥ 16)) then
            some (l, 11)
          else
            need (l.Queue.length * 56 ≤ 140737488355328) <|
            need ((l.Queue.length + 1) * 56 ≤ 140737488355328) <|
            some (({ Held := l.Held, Queue := (l.Queue ++ [({ Txn := txn, W := w, Until := until_ } : Claim)]) } : Locks), 12)
def gm_lock_Ask : Gm := ⟨tys, [75], [(60, 46, 4), (59, 51, 5)], []⟩
theorem lock_Ask_walk (l : Locks) (txn : Int) (w : Want) (until_ : Int) (r : Locks × Int) (h : lock_Ask l txn w until_ = some r) : PureP Try.prog 39 [.agg [.sl (List.map encHold l.Held), .sl (List.map encClaim l.Queue)], .v (.int .i64 txn), .agg [.v (.int .i64 w.Mode), .v (.string (bs w.Lo)), .v (.string (bs w.Hi))], .v (.int .u64 until_)] (fun a => a = .tup [.agg [.sl (List.map encHold r.1.Held), .sl (List.map encClaim r.1.Queue)], .v (.int .i64 r.2)]) := by
  unfold lock_Ask at h
  refine pureW (G := gm_lock_Ask) tyOk Try.func39 rfl (by kernel_rfl) (by simp [Try.f39]) ?_
  refine Tri.seqK ?_
  refine Tri.run (G := gm_lock_Ask) tyOk mixed ?_
  conv => whnf
  refine Tri.seqK ?_
  refine Tri.run (G := gm_lock_Ask) tyOk mixed ?_
  conv => whnf
  refine Tri.seqK ?_
  refine Tri.block ?_
  refine Tri.seqK ?_
  replace h := bind_some h
  obtain ⟨y40, q41, h⟩ := h
  refine Tri.cut (fun ex S' => ex = .normal ∧ Weak S' ⟨69, 0, ofRegs [(3, .v (.int .u64 until_)), (4, .ptr 0 0), (5, .ptr 1 0), (6, .ptr 2 0), (8, .ptr 3 0), (10, .fn (.func 72) [] [.ptr 1 0, .ptr 2 0]), (12, .v (.bool y40))], [.var 25 [.sl (List.map encHold l.Held), .sl (List.map encClaim l.Queue)], .var 3 [.v (.int .i64 txn)], .var 44 [.v (.int .i64 w.Mode), .v (.string (bs w.Lo)), .v (.string (bs w.Hi))], .var 25 [.v (.slice none 0 0), .v (.slice none 0 0)]]⟩) ?_ ?_
  · refine Tri.run (G := gm_lock_Ask) tyOk mixed ?_
    conv => whnf
    refine cond_mk (fun c42 => ?_) (fun c42 => ?_)
    · replace q41 := if_t c42 q41
      conv => whnf
      cases q41
      exact ⟨rfl, weak_fin _ rfl rfl rfl (.cons (.same rfl) (.cons (.same rfl) (.cons (.same rfl) (.cons (.same rfl) (LeH.rest))))) (.cons (.one (.same rfl)) (.cons (.one (.same rfl)) (.cons (.one (.same rfl)) (.cons (.one (.same rfl)) (.cons (.one (.same rfl)) (.cons (.one (.same rfl)) (.cons (.one (.same rfl)) (.nil)))))))) rfl rfl⟩
    · replace q41 := if_f c42 q41
      conv => whnf
      replace q41 := bind_some q41
      obtain ⟨y43, q44, q41⟩ := q41
      refine PureP.mono (span_May_walk w y43 q44) ?_
      rintro _ rfl
      conv => whnf
      cases q41
      exact ⟨rfl, weak_fin _ rfl rfl rfl (.cons (.same rfl) (.cons (.same rfl) (.cons (.same rfl) (.cons (.same rfl) (LeH.rest))))) (.cons (.one (.same rfl)) (.cons (.one (.same rfl)) (.cons (.one (.same rfl)) (.cons (.one (.same rfl)) (.cons (.one (.same rfl)) (.cons (.one (.same rfl)) (.cons (.one (.same rfl)) (.nil)))))))) rfl rfl⟩
  · rintro ex S' ⟨rfl, w45⟩
    conv => whnf
    refine Tri.weak w45 ?_
    refine Tri.cond rfl (fun c46 => ?_) (fun c46 => ?_)
    · replace h := if_t c46 h
      refine Tri.seqK ?_
      refine Tri.run (G := gm_lock_Ask) tyOk mixed ?_
      conv => whnf
      refine Tri.run (G := gm_lock_Ask) tyOk mixed ?_
      conv => whnf
      refine fin_here ?_
      conv => whnf
      cases h
      rfl
    · replace h := if_f c46 h
      refine Tri.seqK ?_
      refine Tri.run (G := gm_lock_Ask) tyOk mixed ?_
      conv => whnf
      replace h := bind_some h
      obtain ⟨y47, q48, h⟩ := h
      refine PureP.mono (lock_Waits_walk l txn y47 q48) ?_
      rintro _ rfl
      conv => whnf
      refine Tri.cond rfl (fun c49 => ?_) (fun c49 => ?_)
      · replace h := if_t c49 h
        refine Tri.seqK ?_
        refine Tri.run (G := gm_lock_Ask) tyOk mixed ?_
        conv => whnf
        refine Tri.run (G := gm_lock_Ask) tyOk mixed ?_
        conv => whnf
        refine fin_here ?_
        conv => whnf
        cases h
        rfl
      · replace h := if_f c49 h
        refine Tri.seqK ?_
        refine Tri.run (G := gm_lock_Ask) tyOk mixed ?_
        conv => whnf
        replace h := bind_some h
        obtain ⟨y50, q51, h⟩ := h
        refine CallP.use (slices_ContainsFunc_Hold__lock_Ask_1_walk l.Held txn w y50 q51) [1, 2] rfl rfl rfl rfl rfl rfl rfl rfl rfl ?_
        conv => whnf
        refine Tri.cond rfl (fun c52 => ?_) (fun c52 => ?_)
        · replace h := if_t c52 h
          refine Tri.seqK ?_
          refine Tri.run (G := gm_lock_Ask) tyOk mixed ?_
          conv => whnf
          refine Tri.run (G := gm_lock_Ask) tyOk mixed ?_
          conv => whnf
          refine fin_here ?_
          conv => whnf
          cases h
          rfl
        · replace h := if_f c52 h
          refine Tri.seqK ?_
          refine Tri.run (G := gm_lock_Ask) tyOk mixed ?_
          conv => whnf
          refine ⟨⟨(l.Queue.length : Int), (len_map _ _).symm, ?_⟩⟩
          conv => whnf
          replace h := bind_some h
          obtain ⟨y53, q54, h⟩ := h
          refine PureP.mono (lock_Blockers_walk l txn w (l.Queue.length : Int) y53 q54) ?_
          rintro _ rfl
          conv => whnf
          refine ⟨⟨(y53.length : Int), (len_map _ _).symm, ?_⟩⟩
          conv => whnf
          refine Tri.cond rfl (fun c55 => ?_) (fun c55 => ?_)
          · replace h := if_t c55 h
            refine Tri.seqK ?_
            refine Tri.run (G := gm_lock_Ask) tyOk mixed ?_
            conv => whnf
            replace h := need_some h
            obtain ⟨p64, h⟩ := h
            replace h := need_some h
            obtain ⟨p65, h⟩ := h
            refine Draw.many 9 (.take 0 (.take 1 (.take 3 (.take 4 (.take 5 (.alt 2 (.alt 6 (.alt 7 (.take 8 (.fin)) (.nil)) (.nil)) (.alt 6 (.alt 2 (.alt 7 (.take 8 (.fin)) (.nil)) (.nil)) (.nil)))))))) [] (⟨69, 0, ofRegs [(4, .ptr 0 0), (8, .ptr 3 0), (49, .sl (List.map encHold (l.Held ++ [({ Txn := txn, W := w } : Hold)]))), (50, .ptr 0 0)], [.var 25 [.sl (List.map encHold l.Held), .sl (List.map encClaim l.Queue)], .var 3 [.v (.int .i64 txn)], .var 44 [.v (.int .i64 w.Mode), .v (.string (bs w.Lo)), .v (.string (bs w.Hi))], .var 25 [.v (.slice none 0 0), .v (.slice none 0 0)]]⟩) (by kernel_rfl) ?_ ?_
            · conv => whnf
              refine ⟨?_, ?_⟩
              · conv => whnf
                refine FreshP.mono (clone_60 l.Held p64) ?_
                rintro _ rfl
                conv => whnf
                refine ⟨?_, ?_⟩
                · conv => whnf
                  refine ⟨⟨List.map encHold [({ Txn := txn, W := w } : Hold)], rfl, ?_⟩⟩
                  conv => whnf
                  refine ⟨?_, ?_⟩
                  · conv => whnf
                    refine ⟨rfl, ?_⟩
                    conv => whnf
                    refine ⟨rfl, ?_⟩
                    conv => whnf
                    refine ⟨by simp only [List.length_map]; exact p65, ?_⟩
                    conv => whnf
                    refine ⟨⟨List.map encHold (l.Held ++ [({ Txn := txn, W := w } : Hold)]), map_app encHold _ _ rfl rfl, ?_⟩⟩
                    conv => whnf
                    exact Weak.trans (weak_freeze 4 rfl) (weak_fin _ rfl rfl rfl (.cons (.same rfl) (.cons (.same rfl) (.cons (.same rfl) (.cons (.same rfl) (LeH.rest))))) (.cons (.one (.same rfl)) (.cons (.one (.same rfl)) (.cons (.one (.frz rfl (rfl))) (.cons (.one (.same rfl)) (.nil))))) rfl rfl)
                  · conv => whnf
                    trivial
                · conv => whnf
                  trivial
              · conv => whnf
                refine ⟨?_, ?_⟩
                · conv => whnf
                  refine ⟨⟨List.map encHold [({ Txn := txn, W := w } : Hold)], rfl, ?_⟩⟩
                  conv => whnf
                  refine ⟨?_, ?_⟩
                  · conv => whnf
                    refine FreshP.mono (clone_60 l.Held p64) ?_
                    rintro _ rfl
                    conv => whnf
                    refine ⟨?_, ?_⟩
                    · conv => whnf
                      refine ⟨rfl, ?_⟩
                      conv => whnf
                      refine ⟨rfl, ?_⟩
                      conv => whnf
                      refine ⟨by simp only [List.length_map]; exact p65, ?_⟩
                      conv => whnf
                      refine ⟨⟨List.map encHold (l.Held ++ [({ Txn := txn, W := w } : Hold)]), map_app encHold _ _ rfl rfl, ?_⟩⟩
                      conv => whnf
                      exact Weak.trans (weak_freeze 5 rfl) (weak_fin _ rfl rfl rfl (.cons (.same rfl) (.cons (.same rfl) (.cons (.same rfl) (.cons (.same rfl) (LeH.rest))))) (.cons (.one (.same rfl)) (.cons (.one (.same rfl)) (.cons (.one (.frz rfl (rfl))) (.cons (.one (.same rfl)) (.nil))))) rfl rfl)
                    · conv => whnf
                      trivial
                  · conv => whnf
                    trivial
                · conv => whnf
                  trivial
            · conv => whnf
              refine Tri.seqK ?_
              refine Tri.run (G := gm_lock_Ask) tyOk mixed ?_
              conv => whnf
              refine Tri.run (G := gm_lock_Ask) tyOk mixed ?_
              conv => whnf
              refine fin_here ?_
              conv => whnf
              cases h
              rfl
          · replace h := if_f c55 h
            refine Tri.seqK ?_
            refine Tri.run (G := gm_lock_Ask) tyOk mixed ?_
            conv => whnf
            refine ⟨⟨(l.Queue.length : Int), (len_map _ _).symm, ?_⟩⟩
            conv => whnf
            refine Tri.cond rfl (fun c66 => ?_) (fun c66 => ?_)
            · replace h := if_t c66 h
              refine Tri.seqK ?_
              refine Tri.run (G := gm_lock_Ask) tyOk mixed ?_
              conv => whnf
              refine Tri.run (G := gm_lock_Ask) tyOk mixed ?_
              conv => whnf
              refine fin_here ?_
              conv => whnf
              cases h
              rfl
            · replace h := if_f c66 h
              refine Tri.run (G := gm_lock_Ask) tyOk mixed ?_
              conv => whnf
              refine Tri.seqK ?_
              refine Tri.run (G := gm_lock_Ask) tyOk mixed ?_
              conv => whnf
              replace h := need_some h
              obtain ⟨p75, h⟩ := h
              replace h := need_some h
              obtain ⟨p76, h⟩ := h
              refine Draw.many 10 (.take 0 (.take 1 (.take 3 (.take 4 (.take 5 (.take 6 (.alt 2 (.alt 7 (.alt 8 (.take 9 (.fin)) (.nil)) (.nil)) (.alt 7 (.alt 2 (.alt 8 (.take 9 (.fin)) (.nil)) (.nil)) (.nil))))))))) [] (⟨69, 0, ofRegs [(4, .ptr 0 0), (8, .ptr 3 0), (66, .sl (List.map encClaim (l.Queue ++ [({ Txn := txn, W := w, Until := until_ } : Claim)]))), (67, .ptr 0 1)], [.var 25 [.sl (List.map encHold l.Held), .sl (List.map encClaim l.Queue)], .var 3 [.v (.int .i64 txn)], .var 44 [.v (.int .i64 w.Mode), .v (.string (bs w.Lo)), .v (.string (bs w.Hi))], .var 25 [.v (.slice none 0 0), .v (.slice none 0 0)]]⟩) (by kernel_rfl) ?_ ?_
              · conv => whnf
                refine ⟨?_, ?_⟩
                · conv => whnf
                  refine FreshP.mono (clone_59 l.Queue p75) ?_
                  rintro _ rfl
                  conv => whnf
                  refine ⟨?_, ?_⟩
                  · conv => whnf
                    refine ⟨⟨List.map encClaim [({ Txn := txn, W := w, Until := until_ } : Claim)], rfl, ?_⟩⟩
                    conv => whnf
                    refine ⟨?_, ?_⟩
                    · conv => whnf
                      refine ⟨rfl, ?_⟩
                      conv => whnf
                      refine ⟨rfl, ?_⟩
                      conv => whnf
                      refine ⟨by simp only [List.length_map]; exact p76, ?_⟩
                      conv => whnf
                      refine ⟨⟨List.map encClaim (l.Queue ++ [({ Txn := txn, W := w, Until := until_ } : Claim)]), map_app encClaim _ _ rfl rfl, ?_⟩⟩
                      conv => whnf
                      exact Weak.trans (weak_freeze 4 rfl) (weak_fin _ rfl rfl rfl (.cons (.same rfl) (.cons (.same rfl) (.cons (.same rfl) (.cons (.same rfl) (LeH.rest))))) (.cons (.one (.same rfl)) (.cons (.one (.same rfl)) (.cons (.one (.frz rfl (rfl))) (.cons (.one (.same rfl)) (.nil))))) rfl rfl)
                    · conv => whnf
                      trivial
                  · conv => whnf
                    trivial
                · conv => whnf
                  refine ⟨?_, ?_⟩
                  · conv => whnf
                    refine ⟨⟨List.map encClaim [({ Txn := txn, W := w, Until := until_ } : Claim)], rfl, ?_⟩⟩
                    conv => whnf
                    refine ⟨?_, ?_⟩
                    · conv => whnf
                      refine FreshP.mono (clone_59 l.Queue p75) ?_
                      rintro _ rfl
                      conv => whnf
                      refine ⟨?_, ?_⟩
                      · conv => whnf
                        refine ⟨rfl, ?_⟩
                        conv => whnf
                        refine ⟨rfl, ?_⟩
                        conv => whnf
                        refine ⟨by simp only [List.length_map]; exact p76, ?_⟩
                        conv => whnf
                        refine ⟨⟨List.map encClaim (l.Queue ++ [({ Txn := txn, W := w, Until := until_ } : Claim)]), map_app encClaim _ _ rfl rfl, ?_⟩⟩
                        conv => whnf
                        exact Weak.trans (weak_freeze 5 rfl) (weak_fin _ rfl rfl rfl (.cons (.same rfl) (.cons (.same rfl) (.cons (.same rfl) (.cons (.same rfl) (LeH.rest))))) (.cons (.one (.same rfl)) (.cons (.one (.same rfl)) (.cons (.one (.frz rfl (rfl))) (.cons (.one (.same rfl)) (.nil))))) rfl rfl)
                      · conv => whnf
                        trivial
                    · conv => whnf
                      trivial
                  · conv => whnf
                    trivial
              · conv => whnf
                refine Tri.seqK ?_
                refine Tri.run (G := gm_lock_Ask) tyOk mixed ?_
                conv => whnf
                refine Tri.run (G := gm_lock_Ask) tyOk mixed ?_
                conv => whnf
                refine fin_here ?_
                conv => whnf
                cases h
                rfl
noncomputable def lock_Free_1 (h_ : Hold) (v : Int) : Option (Bool) :=
  some (decide (h_.Txn = v))
def gm_lock_Free_1 : Gm := ⟨tys, [], [], []⟩
theorem lock_Free_1_walk (h_ : Hold) (v : Int) (r : Bool) (h : lock_Free_1 h_ v = some r) : CallP Try.prog 62 [.var 3 [.v (.int .i64 v)]] [.agg [.v (.int .i64 h_.Txn), .v (.int .i64 h_.W.Mode), .v (.string (bs h_.W.Lo)), .v (.string (bs h_.W.Hi))], .ptr 0 0] (fun a H' => a = .v (.bool r) ∧ H'.take ([.var 3 [.v (.int .i64 v)]] : List Ob).length = [.var 3 [.v (.int .i64 v)]]) := by
  unfold lock_Free_1 at h
  refine callW (G := gm_lock_Free_1) tyOk Try.func62 rfl (by kernel_rfl) (by simp [Try.f62]) ?_
  refine Tri.seqK ?_
  refine Tri.run (G := gm_lock_Free_1) tyOk mixed ?_
  conv => whnf
  refine Tri.seqK ?_
  refine Tri.run (G := gm_lock_Free_1) tyOk mixed ?_
  conv => whnf
  refine Tri.run (G := gm_lock_Free_1) tyOk mixed ?_
  conv => whnf
  refine fin_pre (S' := ⟨8, 1, ofRegs [(3, .v (.bool (decide (h_.Txn = v))))], [.var 3 [.v (.int .i64 v)]]⟩) (weak_fin _ rfl rfl rfl (.cons (.same rfl) (LeH.rest)) (.cons (.one (.same rfl)) (.nil)) rfl rfl) ?_
  conv => whnf
  cases h
  exact ⟨rfl, rfl⟩
noncomputable def slices_IndexFunc_Hold__lock_Free_1_l4 (l : (List Hold)) (v : Int) (a164 : Int) : Option ((Int) ⊕ ((Int) ⊕ (Unit))) :=
  if (decide (a164 < (l.length : Int))) then
    (ix l a164).bind fun x179 =>
    (lock_Free_1 x179 v).bind fun y181 =>
    if y181 then
      some (.inr (.inl a164))
    else
      some (.inl (IntKind.i64.wrap (a164 + 1)))
  else
    some (.inr (.inr ()))
noncomputable def slices_IndexFunc_Hold__lock_Free_1 (l : (List Hold)) (v : Int) : Option (Int) :=
  (loop (fun (s169 : Int) => slices_IndexFunc_Hold__lock_Free_1_l4 l v s169) (0 : Int)).bind fun (y165 : (Int) ⊕ (Unit)) =>
  match y165 with
  | (.inl v167) =>
    some v167
  | (.inr v168) =>
    some (-1)
def gm_slices_IndexFunc_Hold__lock_Free_1 : Gm := ⟨tys, [62], [], []⟩
theorem slices_IndexFunc_Hold__lock_Free_1_walk (l : (List Hold)) (v : Int) (r : Int) (h : slices_IndexFunc_Hold__lock_Free_1 l v = some r) : CallP Try.prog 85 [.row 46 4 (List.map encHold l), .var 3 [.v (.int .i64 v)]] [.row 0 ((List.map encHold l).length), .fn (.func 62) [] [.ptr 1 0]] (fun a H' => a = .v (.int .i64 r) ∧ H'.take ([.row 46 4 (List.map encHold l), .var 3 [.v (.int .i64 v)]] : List Ob).length = [.row 46 4 (List.map encHold l), .var 3 [.v (.int .i64 v)]]) := by
  unfold slices_IndexFunc_Hold__lock_Free_1 at h
  refine callW (G := gm_slices_IndexFunc_Hold__lock_Free_1) tyOk Try.func85 rfl (by kernel_rfl) (by simp [Try.f85]) ?_
  refine Tri.seqK ?_
  refine Tri.run (G := gm_slices_IndexFunc_Hold__lock_Free_1) tyOk mixed ?_
  conv => whnf
  refine Tri.seqK ?_
  refine Tri.seqK ?_
  refine Tri.run (G := gm_slices_IndexFunc_Hold__lock_Free_1) tyOk mixed ?_
  conv => whnf
  refine ⟨rfl, ?_⟩
  conv => whnf
  refine ⟨⟨(l.length : Int), by simp, ?_⟩⟩
  conv => whnf
  refine Tri.block ?_
  replace h := bind_some h
  obtain ⟨y165, q166, h⟩ := h
  refine Tri.cut (fun ex S' => (∃ v167 : Int, y165 = (.inl v167) ∧ ex = .ret ∧ Weak S' ⟨19, 2, ofRegs [(4, .v (.int .i64 v167))], [.row 46 4 (List.map encHold l), .var 3 [.v (.int .i64 v)]]⟩) ∨ (∃ v168 : Unit, y165 = (.inr v168) ∧ ex = (.exit 0) ∧ Weak S' ⟨19, 2, ofRegs [], [.row 46 4 (List.map encHold l), .var 3 [.v (.int .i64 v)]]⟩)) ?_ ?_
  · refine Tri.loopF (fun (s169 : Int) => (⟨19, 2, ofRegs [(0, .row 0 ((List.map encHold l).length)), (1, .fn (.func 62) [] [.ptr 1 0]), (7, .v (.int .i64 (l.length : Int))), (8, .v (.int .i64 s169))], [.row 46 4 (List.map encHold l), .var 3 [.v (.int .i64 v)]]⟩ : St)) q166 (weak_fin _ rfl rfl rfl (.cons (.same rfl) (.cons (.same rfl) (LeH.rest))) (.cons (.one (.same rfl)) (.cons (.one (.same rfl)) (.cons (.one (.same rfl)) (.cons (.one (.same rfl)) (.nil))))) rfl rfl) ?_
    rintro a164 v170 hv r171
    have hv : slices_IndexFunc_Hold__lock_Free_1_l4 l v a164 = some v170 := hv
    unfold slices_IndexFunc_Hold__lock_Free_1_l4 at hv
    refine Tri.seqK ?_
    refine Tri.run (G := gm_slices_IndexFunc_Hold__lock_Free_1) tyOk mixed ?_
    conv => whnf
    refine Tri.seqK ?_
    refine Tri.cond rfl (fun c173 => ?_) (fun c173 => ?_)
    · replace hv := if_t c173 hv
      refine Tri.run (G := gm_slices_IndexFunc_Hold__lock_Free_1) tyOk mixed ?_
      conv => whnf
      refine Tri.seqK ?_
      refine Tri.block ?_
      refine Tri.seqK ?_
      refine Tri.run (G := gm_slices_IndexFunc_Hold__lock_Free_1) tyOk mixed ?_
      conv => whnf
      refine Tri.seqK ?_
      refine Tri.run (G := gm_slices_IndexFunc_Hold__lock_Free_1) tyOk mixed ?_
      conv => whnf
      replace hv := bind_some hv
      obtain ⟨x179, q180, hv⟩ := hv
      refine ⟨⟨rfl, (ix_lt q180).1, by have := ix_lt q180; simp only [List.length_map, List.length_set, List.length_cons, List.length_nil] at *; omega⟩, ?_⟩
      conv => whnf
      refine ⟨rfl, ?_⟩
      conv => whnf
      refine ⟨⟨_, map_get encHold (ix_some q180).2, ?_⟩⟩
      conv => whnf
      replace hv := bind_some hv
      obtain ⟨y181, q182, hv⟩ := hv
      refine CallP.use (lock_Free_1_walk x179 v y181 q182) [1] rfl rfl rfl rfl rfl rfl rfl rfl rfl ?_
      conv => whnf
      refine Tri.cond rfl (fun c183 => ?_) (fun c183 => ?_)
      · replace hv := if_t c183 hv
        refine Tri.seqK ?_
        refine Tri.run (G := gm_slices_IndexFunc_Hold__lock_Free_1) tyOk mixed ?_
        conv => whnf
        refine Tri.run (G := gm_slices_IndexFunc_Hold__lock_Free_1) tyOk mixed ?_
        conv => whnf
        cases hv
        obtain rfl := r171 _ rfl
        exact Or.inl ⟨_, rfl, rfl, weak_fin _ rfl rfl rfl (.cons (.same rfl) (.cons (.same rfl) (LeH.rest))) (.cons (.one (.same rfl)) (.nil)) rfl rfl⟩
      · replace hv := if_f c183 hv
        refine Tri.run (G := gm_slices_IndexFunc_Hold__lock_Free_1) tyOk mixed ?_
        conv => whnf
        refine Tri.run (G := gm_slices_IndexFunc_Hold__lock_Free_1) tyOk mixed ?_
        conv => whnf
        cases hv
        exact ⟨_, rfl, weak_fin _ rfl rfl rfl (.cons (.same rfl) (.cons (.same rfl) (LeH.rest))) (.cons (.one (.same rfl)) (.cons (.one (.same rfl)) (.cons (.one (.same rfl)) (.cons (.one (.same rfl)) (.nil))))) rfl rfl⟩
    · replace hv := if_f c173 hv
      refine Tri.run (G := gm_slices_IndexFunc_Hold__lock_Free_1) tyOk mixed ?_
      conv => whnf
      cases hv
      obtain rfl := r171 _ rfl
      exact Or.inr (⟨_, rfl, rfl, weak_fin _ rfl rfl rfl (.cons (.same rfl) (.cons (.same rfl) (LeH.rest))) (.nil) rfl rfl⟩)
  · rintro ex S' (⟨v167, rfl, rfl, w184⟩ | ⟨v168, rfl, rfl, w184⟩)
    · dsimp only at h
      conv => whnf
      refine fin_pre (S' := ⟨19, 2, ofRegs [(4, .v (.int .i64 v167))], [.row 46 4 (List.map encHold l), .var 3 [.v (.int .i64 v)]]⟩) (Weak.trans w184 (weak_fin _ rfl rfl rfl (.cons (.same rfl) (.cons (.same rfl) (LeH.rest))) (.cons (.one (.same rfl)) (.nil)) rfl rfl)) ?_
      conv => whnf
      cases h
      exact ⟨rfl, rfl⟩
    · dsimp only at h
      conv => whnf
      refine Tri.weak w184 ?_
      refine Tri.seqK ?_
      refine Tri.run (G := gm_slices_IndexFunc_Hold__lock_Free_1) tyOk mixed ?_
      conv => whnf
      refine Tri.run (G := gm_slices_IndexFunc_Hold__lock_Free_1) tyOk mixed ?_
      conv => whnf
      refine fin_pre (S' := ⟨19, 2, ofRegs [(4, .v (.int .i64 (-1)))], [.row 46 4 (List.map encHold l), .var 3 [.v (.int .i64 v)]]⟩) (weak_fin _ rfl rfl rfl (.cons (.same rfl) (.cons (.same rfl) (LeH.rest))) (.cons (.one (.same rfl)) (.nil)) rfl rfl) ?_
      conv => whnf
      cases h
      exact ⟨rfl, rfl⟩
noncomputable def slices_DeleteFunc_Hold__lock_Free_1_l4 (v : Int) (a338 : Int) (a339 : Int) (a340 : (List Hold)) : Option ((Int × Int × (List Hold)) ⊕ (Int × (List Hold))) :=
  if (decide (a339 < (a340.length : Int))) then
    (
      (ix a340 a339).bind fun x364 =>
      (lock_Free_1 x364 v).bind fun y366 =>
      if (!y366) then
        (ix a340 a338).bind fun x369 =>
        some ((IntKind.i64.wrap (a338 + 1)), (List.set a340 (a338).toNat x364))
      else
        some (a338, a340)).bind fun (y362 : Int × (List Hold)) =>
    some (.inl (y362.1, (IntKind.i64.wrap (a339 + 1)), y362.2))
  else
    some (.inr (a338, a340))
noncomputable def slices_DeleteFunc_Hold__lock_Free_1 (l : (List Hold)) (v : Int) : Option ((List Hold)) :=
  (slices_IndexFunc_Hold__lock_Free_1 l v).bind fun y189 =>
  if (decide (y189 = (-1))) then
    some l
  else
    (loop (fun (s343 : Int × Int × (List Hold)) => slices_DeleteFunc_Hold__lock_Free_1_l4 v s343.1 s343.2.1 s343.2.2) (y189, (IntKind.i64.wrap (y189 + 1)), l)).bind fun (y341 : Int × (List Hold)) =>
    need (0 < y341.2.length) <|
    need (0 ≤ y341.1 ∧ y341.1 ≤ (y341.2.length : Int) ∧ (y341.2.length : Int) ≤ (y341.2.length : Int)) <|
    need (0 < (List.take ((y341.1).toNat) y341.2 ++ List.replicate (((((List.map encHold y341.2).length : Nat) : Int).toNat) - ((y341.1).toNat)) (({ Txn := 0, W := ({ Mode := 0, Lo := [], Hi := [] } : Want) } : Hold) : Hold) ++ List.drop ((((List.map encHold y341.2).length : Nat) : Int).toNat) y341.2).length) <|
    need (0 ≤ (0 : Int) ∧ 0 ≤ y341.1 ∧ y341.1 ≤ ((List.take ((y341.1).toNat) y341.2 ++ List.replicate (((((List.map encHold y341.2).length : Nat) : Int).toNat) - ((y341.1).toNat)) (({ Txn := 0, W := ({ Mode := 0, Lo := [], Hi := [] } : Want) } : Hold) : Hold) ++ List.drop ((((List.map encHold y341.2).length : Nat) : Int).toNat) y341.2).length : Int)) <|
    some (List.drop ((0 : Int).toNat) (List.take ((y341.1).toNat) (List.take ((y341.1).toNat) y341.2 ++ List.replicate (((((List.map encHold y341.2).length : Nat) : Int).toNat) - ((y341.1).toNat)) (({ Txn := 0, W := ({ Mode := 0, Lo := [], Hi := [] } : Want) } : Hold) : Hold) ++ List.drop ((((List.map encHold y341.2).length : Nat) : Int).toNat) y341.2)))
def gm_slices_DeleteFunc_Hold__lock_Free_1 : Gm := ⟨tys, [62, 85], [], []⟩
theorem slices_DeleteFunc_Hold__lock_Free_1_walk (l : (List Hold)) (v : Int) (r : (List Hold)) (h : slices_DeleteFunc_Hold__lock_Free_1 l v = some r) : CallP Try.prog 61 [.row 46 4 (List.map encHold l), .var 3 [.v (.int .i64 v)]] [.row 0 ((List.map encHold l).length), .fn (.func 62) [] [.ptr 1 0]] (fun a H' => a = .sl (List.map encHold r) ∧ H'.take ([.gone, .var 3 [.v (.int .i64 v)]] : List Ob).length = [.gone, .var 3 [.v (.int .i64 v)]]) := by
  unfold slices_DeleteFunc_Hold__lock_Free_1 at h
  refine callW (G := gm_slices_DeleteFunc_Hold__lock_Free_1) tyOk Try.func61 rfl (by kernel_rfl) (by simp [Try.f61]) ?_
  refine Tri.seqK ?_
  refine Tri.run (G := gm_slices_DeleteFunc_Hold__lock_Free_1) tyOk mixed ?_
  conv => whnf
  refine Tri.seqK ?_
  refine Tri.run (G := gm_slices_DeleteFunc_Hold__lock_Free_1) tyOk mixed ?_
  conv => whnf
  replace h := bind_some h
  obtain ⟨y189, q190, h⟩ := h
  refine CallP.use (slices_IndexFunc_Hold__lock_Free_1_walk l v y189 q190) [0, 1] rfl rfl rfl rfl rfl rfl rfl rfl rfl ?_
  conv => whnf
  refine Tri.seqK ?_
  refine Tri.seqK ?_
  refine Tri.run (G := gm_slices_DeleteFunc_Hold__lock_Free_1) tyOk mixed ?_
  conv => whnf
  refine Tri.cond rfl (fun c192 => ?_) (fun c192 => ?_)
  · replace h := if_t c192 h
    refine Tri.seqK ?_
    refine Tri.run (G := gm_slices_DeleteFunc_Hold__lock_Free_1) tyOk mixed ?_
    conv => whnf
    refine Tri.run (G := gm_slices_DeleteFunc_Hold__lock_Free_1) tyOk mixed ?_
    conv => whnf
    refine fin_pre (S' := ⟨42, 2, ofRegs [(4, .sl (List.map encHold l))], [.gone, .var 3 [.v (.int .i64 v)]]⟩) (Weak.trans (weak_freeze 0 rfl) (weak_fin _ rfl rfl rfl (.cons (.gone) (.cons (.same rfl) (LeH.rest))) (.cons (.one (.frz rfl (rfl))) (.nil)) rfl rfl)) ?_
    conv => whnf
    cases h
    exact ⟨rfl, rfl⟩
  · replace h := if_f c192 h
    refine Tri.run (G := gm_slices_DeleteFunc_Hold__lock_Free_1) tyOk mixed ?_
    conv => whnf
    refine Tri.seqK ?_
    refine Tri.seqK ?_
    refine Tri.run (G := gm_slices_DeleteFunc_Hold__lock_Free_1) tyOk mixed ?_
    conv => whnf
    refine Tri.block ?_
    replace h := bind_some h
    obtain ⟨y341, q342, h⟩ := h
    refine Tri.cut (fun ex S' => ex = (.exit 0) ∧ Weak S' ⟨42, 2, ofRegs [(0, .row 0 ((List.map encHold y341.2).length)), (5, .v (.int .i64 y341.1))], [.row 46 4 (List.map encHold y341.2), .var 3 [.v (.int .i64 v)]]⟩) ?_ ?_
    · refine Tri.loopF (fun (s343 : Int × Int × (List Hold)) => (⟨42, 2, ofRegs [(0, .row 0 ((List.map encHold s343.2.2).length)), (1, .fn (.func 62) [] [.ptr 1 0]), (5, .v (.int .i64 s343.1)), (6, .v (.int .i64 s343.2.1))], [.row 46 4 (List.map encHold s343.2.2), .var 3 [.v (.int .i64 v)]]⟩ : St)) q342 (weak_fin _ rfl rfl rfl (.cons (.same rfl) (.cons (.same rfl) (LeH.rest))) (.cons (.one (.same rfl)) (.cons (.one (.same rfl)) (.cons (.one (.same rfl)) (.cons (.one (.same rfl)) (.nil))))) rfl rfl) ?_
      rintro ⟨a338, a339, a340⟩ v344 hv r345
      have hv : slices_DeleteFunc_Hold__lock_Free_1_l4 v a338 a339 a340 = some v344 := hv
      unfold slices_DeleteFunc_Hold__lock_Free_1_l4 at hv
      dsimp only
      refine Tri.seqK ?_
      refine Tri.seqK ?_
      refine Tri.run (G := gm_slices_DeleteFunc_Hold__lock_Free_1) tyOk mixed ?_
      conv => whnf
      refine ⟨rfl, ?_⟩
      conv => whnf
      refine ⟨⟨(a340.length : Int), by simp, ?_⟩⟩
      conv => whnf
      refine Tri.cond rfl (fun c347 => ?_) (fun c347 => ?_)
      · replace hv := if_t c347 hv
        refine Tri.run (G := gm_slices_DeleteFunc_Hold__lock_Free_1) tyOk mixed ?_
        conv => whnf
        refine Tri.seqK ?_
        replace hv := bind_some hv
        obtain ⟨y362, q363, hv⟩ := hv
        refine Tri.cut (fun ex S' => ex = .normal ∧ Weak S' ⟨42, 2, ofRegs [(0, .row 0 ((List.map encHold y362.2).length)), (1, .fn (.func 62) [] [.ptr 1 0]), (5, .v (.int .i64 y362.1)), (6, .v (.int .i64 a339))], [.row 46 4 (List.map encHold y362.2), .var 3 [.v (.int .i64 v)]]⟩) ?_ ?_
        · refine Tri.block ?_
          refine Tri.seqK ?_
          refine Tri.run (G := gm_slices_DeleteFunc_Hold__lock_Free_1) tyOk mixed ?_
          conv => whnf
          replace q363 := bind_some q363
          obtain ⟨x364, q365, q363⟩ := q363
          refine ⟨⟨rfl, (ix_lt q365).1, by have := ix_lt q365; simp only [List.length_map, List.length_set, List.length_cons, List.length_nil] at *; omega⟩, ?_⟩
          conv => whnf
          refine ⟨rfl, ?_⟩
          conv => whnf
          refine ⟨⟨_, map_get encHold (ix_some q365).2, ?_⟩⟩
          conv => whnf
          refine Tri.seqK ?_
          refine Tri.run (G := gm_slices_DeleteFunc_Hold__lock_Free_1) tyOk mixed ?_
          conv => whnf
          replace q363 := bind_some q363
          obtain ⟨y366, q367, q363⟩ := q363
          refine CallP.use (lock_Free_1_walk x364 v y366 q367) [1] rfl rfl rfl rfl rfl rfl rfl rfl rfl ?_
          conv => whnf
          refine Tri.cond rfl (fun c368 => ?_) (fun c368 => ?_)
          · replace q363 := if_t c368 q363
            refine Tri.seqK ?_
            refine Tri.run (G := gm_slices_DeleteFunc_Hold__lock_Free_1) tyOk mixed ?_
            conv => whnf
            replace q363 := bind_some q363
            obtain ⟨x369, q370, q363⟩ := q363
            refine ⟨⟨rfl, (ix_lt q370).1, by have := ix_lt q370; simp only [List.length_map, List.length_set, List.length_cons, List.length_nil] at *; omega⟩, ?_⟩
            conv => whnf
            refine ⟨rfl, ?_⟩
            conv => whnf
            refine ⟨⟨_, map_get encHold (ix_some q370).2, ?_⟩⟩
            conv => whnf
            refine ⟨Nat.le_of_ble_eq_true rfl, ?_⟩
            conv => whnf
            refine ⟨⟨List.map encHold (List.set a340 (a338).toNat x364), map_set encHold _ _ _ rfl, ?_⟩⟩
            conv => whnf
            refine Tri.run (G := gm_slices_DeleteFunc_Hold__lock_Free_1) tyOk mixed ?_
            conv => whnf
            cases q363
            exact ⟨rfl, weak_fin _ rfl rfl rfl (.cons (.same rfl) (.cons (.same rfl) (LeH.rest))) (.cons (.one (.same (show (.row 0 ((List.map encHold a340).length) : AV) = (.row 0 ((List.map encHold (List.set a340 (a338).toNat x364)).length) : AV) from congrArg (AV.row 0) (by simp)))) (.cons (.one (.same rfl)) (.cons (.one (.same rfl)) (.cons (.one (.same rfl)) (.nil))))) rfl rfl⟩
          · replace q363 := if_f c368 q363
            refine Tri.run (G := gm_slices_DeleteFunc_Hold__lock_Free_1) tyOk mixed ?_
            conv => whnf
            cases q363
            exact ⟨rfl, weak_fin _ rfl rfl rfl (.cons (.same rfl) (.cons (.same rfl) (LeH.rest))) (.cons (.one (.same rfl)) (.cons (.one (.same rfl)) (.cons (.one (.same rfl)) (.cons (.one (.same rfl)) (.nil))))) rfl rfl⟩
        · rintro ex S' ⟨rfl, w371⟩
          conv => whnf
          refine Tri.weak w371 ?_
          refine Tri.run (G := gm_slices_DeleteFunc_Hold__lock_Free_1) tyOk mixed ?_
          conv => whnf
          cases hv
          exact ⟨_, rfl, weak_fin _ rfl rfl rfl (.cons (.same rfl) (.cons (.same rfl) (LeH.rest))) (.cons (.one (.same rfl)) (.cons (.one (.same rfl)) (.cons (.one (.same rfl)) (.cons (.one (.same rfl)) (.nil))))) rfl rfl⟩
      · replace hv := if_f c347 hv
        refine Tri.run (G := gm_slices_DeleteFunc_Hold__lock_Free_1) tyOk mixed ?_
        conv => whnf
        cases hv
        obtain rfl := r345 _ rfl
        exact ⟨rfl, weak_fin _ rfl rfl rfl (.cons (.same rfl) (.cons (.same rfl) (LeH.rest))) (.cons (.one (.same rfl)) (.cons (.one (.same rfl)) (.nil))) rfl rfl⟩
    · rintro ex S' ⟨rfl, w372⟩
      conv => whnf
      refine Tri.weak w372 ?_
      refine Tri.seqK ?_
      refine Tri.run (G := gm_slices_DeleteFunc_Hold__lock_Free_1) tyOk mixed ?_
      conv => whnf
      replace h := need_some h
      obtain ⟨p373, h⟩ := h
      refine ⟨⟨rfl, by have := p373; simp only [List.length_map, List.length_append, List.length_take, List.length_drop, List.length_replicate, List.length_set] at *; omega⟩, ?_⟩
      conv => whnf
      replace h := need_some h
      obtain ⟨p374, h⟩ := h
      refine ⟨by have := p374; simp only [List.length_map, List.length_append, List.length_take, List.length_drop, List.length_replicate, List.length_set] at *; omega, ?_⟩
      conv => whnf
      refine ⟨rfl, ?_⟩
      conv => whnf
      refine ⟨⟨List.map encHold (List.take ((y341.1).toNat) y341.2 ++ List.replicate (((((List.map encHold y341.2).length : Nat) : Int).toNat) - ((y341.1).toNat)) (({ Txn := 0, W := ({ Mode := 0, Lo := [], Hi := [] } : Want) } : Hold) : Hold) ++ List.drop ((((List.map encHold y341.2).length : Nat) : Int).toNat) y341.2), by rw [List.map_append, List.map_append, List.map_take, List.map_drop, List.map_replicate]; rfl, ?_⟩⟩
      conv => whnf
      refine Tri.seqK ?_
      refine Tri.run (G := gm_slices_DeleteFunc_Hold__lock_Free_1) tyOk mixed ?_
      conv => whnf
      replace h := need_some h
      obtain ⟨p375, h⟩ := h
      refine ⟨⟨by first | (simp; done) | (simp only [List.length_map, List.length_append, List.length_take, List.length_drop, List.length_replicate, List.length_set, List.length_mergeSort]; omega), by have := p375; simp only [List.length_map, List.length_append, List.length_take, List.length_drop, List.length_replicate, List.length_set] at *; omega⟩, ?_⟩
      conv => whnf
      replace h := need_some h
      obtain ⟨p376, h⟩ := h
      refine ⟨by have := p376; simp only [List.length_map, List.length_append, List.length_take, List.length_drop, List.length_replicate, List.length_set] at *; omega, ?_⟩
      conv => whnf
      refine Tri.run (G := gm_slices_DeleteFunc_Hold__lock_Free_1) tyOk mixed ?_
      conv => whnf
      refine fin_pre (S' := ⟨42, 2, ofRegs [(4, .sl (List.map encHold (List.drop ((0 : Int).toNat) (List.take ((y341.1).toNat) (List.take ((y341.1).toNat) y341.2 ++ List.replicate (((((List.map encHold y341.2).length : Nat) : Int).toNat) - ((y341.1).toNat)) (({ Txn := 0, W := ({ Mode := 0, Lo := [], Hi := [] } : Want) } : Hold) : Hold) ++ List.drop ((((List.map encHold y341.2).length : Nat) : Int).toNat) y341.2)))))], [.gone, .var 3 [.v (.int .i64 v)]]⟩) (Weak.trans (weak_freeze 0 rfl) (weak_fin _ rfl rfl rfl (.cons (.gone) (.cons (.same rfl) (LeH.rest))) (.cons (.one (.frzvw rfl (by first | (simp; done) | (simp only [List.length_map, List.length_append, List.length_take, List.length_drop, List.length_replicate, List.length_set, List.length_mergeSort]; omega)) (by rw [List.map_drop, List.map_take]))) (.nil)) rfl rfl)) ?_
      conv => whnf
      cases h
      exact ⟨rfl, rfl⟩
noncomputable def lock_Free_2 (c : Claim) (v : Int) : Option (Bool) :=
  some (decide (c.Txn = v))
def gm_lock_Free_2 : Gm := ⟨tys, [], [], []⟩
theorem lock_Free_2_walk (c : Claim) (v : Int) (r : Bool) (h : lock_Free_2 c v = some r) : CallP Try.prog 64 [.var 3 [.v (.int .i64 v)]] [.agg [.v (.int .i64 c.Txn), .v (.int .i64 c.W.Mode), .v (.string (bs c.W.Lo)), .v (.string (bs c.W.Hi)), .v (.int .u64 c.Until)], .ptr 0 0] (fun a H' => a = .v (.bool r) ∧ H'.take ([.var 3 [.v (.int .i64 v)]] : List Ob).length = [.var 3 [.v (.int .i64 v)]]) := by
  unfold lock_Free_2 at h
  refine callW (G := gm_lock_Free_2) tyOk Try.func64 rfl (by kernel_rfl) (by simp [Try.f64]) ?_
  refine Tri.seqK ?_
  refine Tri.run (G := gm_lock_Free_2) tyOk mixed ?_
  conv => whnf
  refine Tri.seqK ?_
  refine Tri.run (G := gm_lock_Free_2) tyOk mixed ?_
  conv => whnf
  refine Tri.run (G := gm_lock_Free_2) tyOk mixed ?_
  conv => whnf
  refine fin_pre (S' := ⟨8, 1, ofRegs [(3, .v (.bool (decide (c.Txn = v))))], [.var 3 [.v (.int .i64 v)]]⟩) (weak_fin _ rfl rfl rfl (.cons (.same rfl) (LeH.rest)) (.cons (.one (.same rfl)) (.nil)) rfl rfl) ?_
  conv => whnf
  cases h
  exact ⟨rfl, rfl⟩
noncomputable def slices_IndexFunc_Claim__lock_Free_2_l4 (l : (List Claim)) (v : Int) (a164 : Int) : Option ((Int) ⊕ ((Int) ⊕ (Unit))) :=
  if (decide (a164 < (l.length : Int))) then
    (ix l a164).bind fun x179 =>
    (lock_Free_2 x179 v).bind fun y181 =>
    if y181 then
      some (.inr (.inl a164))
    else
      some (.inl (IntKind.i64.wrap (a164 + 1)))
  else
    some (.inr (.inr ()))
noncomputable def slices_IndexFunc_Claim__lock_Free_2 (l : (List Claim)) (v : Int) : Option (Int) :=
  (loop (fun (s169 : Int) => slices_IndexFunc_Claim__lock_Free_2_l4 l v s169) (0 : Int)).bind fun (y165 : (Int) ⊕ (Unit)) =>
  match y165 with
  | (.inl v167) =>
    some v167
  | (.inr v168) =>
    some (-1)
def gm_slices_IndexFunc_Claim__lock_Free_2 : Gm := ⟨tys, [64], [], []⟩
theorem slices_IndexFunc_Claim__lock_Free_2_walk (l : (List Claim)) (v : Int) (r : Int) (h : slices_IndexFunc_Claim__lock_Free_2 l v = some r) : CallP Try.prog 86 [.row 51 5 (List.map encClaim l), .var 3 [.v (.int .i64 v)]] [.row 0 ((List.map encClaim l).length), .fn (.func 64) [] [.ptr 1 0]] (fun a H' => a = .v (.int .i64 r) ∧ H'.take ([.row 51 5 (List.map encClaim l), .var 3 [.v (.int .i64 v)]] : List Ob).length = [.row 51 5 (List.map encClaim l), .var 3 [.v (.int .i64 v)]]) := by
  unfold slices_IndexFunc_Claim__lock_Free_2 at h
  refine callW (G := gm_slices_IndexFunc_Claim__lock_Free_2) tyOk Try.func86 rfl (by kernel_rfl) (by simp [Try.f86]) ?_
  refine Tri.seqK ?_
  refine Tri.run (G := gm_slices_IndexFunc_Claim__lock_Free_2) tyOk mixed ?_
  conv => whnf
  refine Tri.seqK ?_
  refine Tri.seqK ?_
  refine Tri.run (G := gm_slices_IndexFunc_Claim__lock_Free_2) tyOk mixed ?_
  conv => whnf
  refine ⟨rfl, ?_⟩
  conv => whnf
  refine ⟨⟨(l.length : Int), by simp, ?_⟩⟩
  conv => whnf
  refine Tri.block ?_
  replace h := bind_some h
  obtain ⟨y165, q166, h⟩ := h
  refine Tri.cut (fun ex S' => (∃ v167 : Int, y165 = (.inl v167) ∧ ex = .ret ∧ Weak S' ⟨19, 2, ofRegs [(4, .v (.int .i64 v167))], [.row 51 5 (List.map encClaim l), .var 3 [.v (.int .i64 v)]]⟩) ∨ (∃ v168 : Unit, y165 = (.inr v168) ∧ ex = (.exit 0) ∧ Weak S' ⟨19, 2, ofRegs [], [.row 51 5 (List.map encClaim l), .var 3 [.v (.int .i64 v)]]⟩)) ?_ ?_
  · refine Tri.loopF (fun (s169 : Int) => (⟨19, 2, ofRegs [(0, .row 0 ((List.map encClaim l).length)), (1, .fn (.func 64) [] [.ptr 1 0]), (7, .v (.int .i64 (l.length : Int))), (8, .v (.int .i64 s169))], [.row 51 5 (List.map encClaim l), .var 3 [.v (.int .i64 v)]]⟩ : St)) q166 (weak_fin _ rfl rfl rfl (.cons (.same rfl) (.cons (.same rfl) (LeH.rest))) (.cons (.one (.same rfl)) (.cons (.one (.same rfl)) (.cons (.one (.same rfl)) (.cons (.one (.same rfl)) (.nil))))) rfl rfl) ?_
    rintro a164 v170 hv r171
    have hv : slices_IndexFunc_Claim__lock_Free_2_l4 l v a164 = some v170 := hv
    unfold slices_IndexFunc_Claim__lock_Free_2_l4 at hv
    refine Tri.seqK ?_
    refine Tri.run (G := gm_slices_IndexFunc_Claim__lock_Free_2) tyOk mixed ?_
    conv => whnf
    refine Tri.seqK ?_
    refine Tri.cond rfl (fun c173 => ?_) (fun c173 => ?_)
    · replace hv := if_t c173 hv
      refine Tri.run (G := gm_slices_IndexFunc_Claim__lock_Free_2) tyOk mixed ?_
      conv => whnf
      refine Tri.seqK ?_
      refine Tri.block ?_
      refine Tri.seqK ?_
      refine Tri.run (G := gm_slices_IndexFunc_Claim__lock_Free_2) tyOk mixed ?_
      conv => whnf
      refine Tri.seqK ?_
      refine Tri.run (G := gm_slices_IndexFunc_Claim__lock_Free_2) tyOk mixed ?_
      conv => whnf
      replace hv := bind_some hv
      obtain ⟨x179, q180, hv⟩ := hv
      refine ⟨⟨rfl, (ix_lt q180).1, by have := ix_lt q180; simp only [List.length_map, List.length_set, List.length_cons, List.length_nil] at *; omega⟩, ?_⟩
      conv => whnf
      refine ⟨rfl, ?_⟩
      conv => whnf
      refine ⟨⟨_, map_get encClaim (ix_some q180).2, ?_⟩⟩
      conv => whnf
      replace hv := bind_some hv
      obtain ⟨y181, q182, hv⟩ := hv
      refine CallP.use (lock_Free_2_walk x179 v y181 q182) [1] rfl rfl rfl rfl rfl rfl rfl rfl rfl ?_
      conv => whnf
      refine Tri.cond rfl (fun c183 => ?_) (fun c183 => ?_)
      · replace hv := if_t c183 hv
        refine Tri.seqK ?_
        refine Tri.run (G := gm_slices_IndexFunc_Claim__lock_Free_2) tyOk mixed ?_
        conv => whnf
        refine Tri.run (G := gm_slices_IndexFunc_Claim__lock_Free_2) tyOk mixed ?_
        conv => whnf
        cases hv
        obtain rfl := r171 _ rfl
        exact Or.inl ⟨_, rfl, rfl, weak_fin _ rfl rfl rfl (.cons (.same rfl) (.cons (.same rfl) (LeH.rest))) (.cons (.one (.same rfl)) (.nil)) rfl rfl⟩
      · replace hv := if_f c183 hv
        refine Tri.run (G := gm_slices_IndexFunc_Claim__lock_Free_2) tyOk mixed ?_
        conv => whnf
        refine Tri.run (G := gm_slices_IndexFunc_Claim__lock_Free_2) tyOk mixed ?_
        conv => whnf
        cases hv
        exact ⟨_, rfl, weak_fin _ rfl rfl rfl (.cons (.same rfl) (.cons (.same rfl) (LeH.rest))) (.cons (.one (.same rfl)) (.cons (.one (.same rfl)) (.cons (.one (.same rfl)) (.cons (.one (.same rfl)) (.nil))))) rfl rfl⟩
    · replace hv := if_f c173 hv
      refine Tri.run (G := gm_slices_IndexFunc_Claim__lock_Free_2) tyOk mixed ?_
      conv => whnf
      cases hv
      obtain rfl := r171 _ rfl
      exact Or.inr (⟨_, rfl, rfl, weak_fin _ rfl rfl rfl (.cons (.same rfl) (.cons (.same rfl) (LeH.rest))) (.nil) rfl rfl⟩)
  · rintro ex S' (⟨v167, rfl, rfl, w184⟩ | ⟨v168, rfl, rfl, w184⟩)
    · dsimp only at h
      conv => whnf
      refine fin_pre (S' := ⟨19, 2, ofRegs [(4, .v (.int .i64 v167))], [.row 51 5 (List.map encClaim l), .var 3 [.v (.int .i64 v)]]⟩) (Weak.trans w184 (weak_fin _ rfl rfl rfl (.cons (.same rfl) (.cons (.same rfl) (LeH.rest))) (.cons (.one (.same rfl)) (.nil)) rfl rfl)) ?_
      conv => whnf
      cases h
      exact ⟨rfl, rfl⟩
    · dsimp only at h
      conv => whnf
      refine Tri.weak w184 ?_
      refine Tri.seqK ?_
      refine Tri.run (G := gm_slices_IndexFunc_Claim__lock_Free_2) tyOk mixed ?_
      conv => whnf
      refine Tri.run (G := gm_slices_IndexFunc_Claim__lock_Free_2) tyOk mixed ?_
      conv => whnf
      refine fin_pre (S' := ⟨19, 2, ofRegs [(4, .v (.int .i64 (-1)))], [.row 51 5 (List.map encClaim l), .var 3 [.v (.int .i64 v)]]⟩) (weak_fin _ rfl rfl rfl (.cons (.same rfl) (.cons (.same rfl) (LeH.rest))) (.cons (.one (.same rfl)) (.nil)) rfl rfl) ?_
      conv => whnf
      cases h
      exact ⟨rfl, rfl⟩
noncomputable def slices_DeleteFunc_Claim__lock_Free_2_l4 (v : Int) (a338 : Int) (a339 : Int) (a340 : (List Claim)) : Option ((Int × Int × (List Claim)) ⊕ (Int × (List Claim))) :=
  if (decide (a339 < (a340.length : Int))) then
    (
      (ix a340 a339).bind fun x364 =>
      (lock_Free_2 x364 v).bind fun y366 =>
      if (!y366) then
        (ix a340 a338).bind fun x369 =>
        some ((IntKind.i64.wrap (a338 + 1)), (List.set a340 (a338).toNat x364))
      else
        some (a338, a340)).bind fun (y362 : Int × (List Claim)) =>
    some (.inl (y362.1, (IntKind.i64.wrap (a339 + 1)), y362.2))
  else
    some (.inr (a338, a340))
noncomputable def slices_DeleteFunc_Claim__lock_Free_2 (l : (List Claim)) (v : Int) : Option ((List Claim)) :=
  (slices_IndexFunc_Claim__lock_Free_2 l v).bind fun y189 =>
  if (decide (y189 = (-1))) then
    some l
  else
    (loop (fun (s343 : Int × Int × (List Claim)) => slices_DeleteFunc_Claim__lock_Free_2_l4 v s343.1 s343.2.1 s343.2.2) (y189, (IntKind.i64.wrap (y189 + 1)), l)).bind fun (y341 : Int × (List Claim)) =>
    need (0 < y341.2.length) <|
    need (0 ≤ y341.1 ∧ y341.1 ≤ (y341.2.length : Int) ∧ (y341.2.length : Int) ≤ (y341.2.length : Int)) <|
    need (0 < (List.take ((y341.1).toNat) y341.2 ++ List.replicate (((((List.map encClaim y341.2).length : Nat) : Int).toNat) - ((y341.1).toNat)) (({ Txn := 0, W := ({ Mode := 0, Lo := [], Hi := [] } : Want), Until := 0 } : Claim) : Claim) ++ List.drop ((((List.map encClaim y341.2).length : Nat) : Int).toNat) y341.2).length) <|
    need (0 ≤ (0 : Int) ∧ 0 ≤ y341.1 ∧ y341.1 ≤ ((List.take ((y341.1).toNat) y341.2 ++ List.replicate (((((List.map encClaim y341.2).length : Nat) : Int).toNat) - ((y341.1).toNat)) (({ Txn := 0, W := ({ Mode := 0, Lo := [], Hi := [] } : Want), Until := 0 } : Claim) : Claim) ++ List.drop ((((List.map encClaim y341.2).length : Nat) : Int).toNat) y341.2).length : Int)) <|
    some (List.drop ((0 : Int).toNat) (List.take ((y341.1).toNat) (List.take ((y341.1).toNat) y341.2 ++ List.replicate (((((List.map encClaim y341.2).length : Nat) : Int).toNat) - ((y341.1).toNat)) (({ Txn := 0, W := ({ Mode := 0, Lo := [], Hi := [] } : Want), Until := 0 } : Claim) : Claim) ++ List.drop ((((List.map encClaim y341.2).length : Nat) : Int).toNat) y341.2)))
def gm_slices_DeleteFunc_Claim__lock_Free_2 : Gm := ⟨tys, [64, 86], [], []⟩
theorem slices_DeleteFunc_Claim__lock_Free_2_walk (l : (List Claim)) (v : Int) (r : (List Claim)) (h : slices_DeleteFunc_Claim__lock_Free_2 l v = some r) : CallP Try.prog 63 [.row 51 5 (List.map encClaim l), .var 3 [.v (.int .i64 v)]] [.row 0 ((List.map encClaim l).length), .fn (.func 64) [] [.ptr 1 0]] (fun a H' => a = .sl (List.map encClaim r) ∧ H'.take ([.gone, .var 3 [.v (.int .i64 v)]] : List Ob).length = [.gone, .var 3 [.v (.int .i64 v)]]) := by
  unfold slices_DeleteFunc_Claim__lock_Free_2 at h
  refine callW (G := gm_slices_DeleteFunc_Claim__lock_Free_2) tyOk Try.func63 rfl (by kernel_rfl) (by simp [Try.f63]) ?_
  refine Tri.seqK ?_
  refine Tri.run (G := gm_slices_DeleteFunc_Claim__lock_Free_2) tyOk mixed ?_
  conv => whnf
  refine Tri.seqK ?_
  refine Tri.run (G := gm_slices_DeleteFunc_Claim__lock_Free_2) tyOk mixed ?_
  conv => whnf
  replace h := bind_some h
  obtain ⟨y189, q190, h⟩ := h
  refine CallP.use (slices_IndexFunc_Claim__lock_Free_2_walk l v y189 q190) [0, 1] rfl rfl rfl rfl rfl rfl rfl rfl rfl ?_
  conv => whnf
  refine Tri.seqK ?_
  refine Tri.seqK ?_
  refine Tri.run (G := gm_slices_DeleteFunc_Claim__lock_Free_2) tyOk mixed ?_
  conv => whnf
  refine Tri.cond rfl (fun c192 => ?_) (fun c192 => ?_)
  · replace h := if_t c192 h
    refine Tri.seqK ?_
    refine Tri.run (G := gm_slices_DeleteFunc_Claim__lock_Free_2) tyOk mixed ?_
    conv => whnf
    refine Tri.run (G := gm_slices_DeleteFunc_Claim__lock_Free_2) tyOk mixed ?_
    conv => whnf
    refine fin_pre (S' := ⟨42, 2, ofRegs [(4, .sl (List.map encClaim l))], [.gone, .var 3 [.v (.int .i64 v)]]⟩) (Weak.trans (weak_freeze 0 rfl) (weak_fin _ rfl rfl rfl (.cons (.gone) (.cons (.same rfl) (LeH.rest))) (.cons (.one (.frz rfl (rfl))) (.nil)) rfl rfl)) ?_
    conv => whnf
    cases h
    exact ⟨rfl, rfl⟩
  · replace h := if_f c192 h
    refine Tri.run (G := gm_slices_DeleteFunc_Claim__lock_Free_2) tyOk mixed ?_
    conv => whnf
    refine Tri.seqK ?_
    refine Tri.seqK ?_
    refine Tri.run (G := gm_slices_DeleteFunc_Claim__lock_Free_2) tyOk mixed ?_
    conv => whnf
    refine Tri.block ?_
    replace h := bind_some h
    obtain ⟨y341, q342, h⟩ := h
    refine Tri.cut (fun ex S' => ex = (.exit 0) ∧ Weak S' ⟨42, 2, ofRegs [(0, .row 0 ((List.map encClaim y341.2).length)), (5, .v (.int .i64 y341.1))], [.row 51 5 (List.map encClaim y341.2), .var 3 [.v (.int .i64 v)]]⟩) ?_ ?_
    · refine Tri.loopF (fun (s343 : Int × Int × (List Claim)) => (⟨42, 2, ofRegs [(0, .row 0 ((List.map encClaim s343.2.2).length)), (1, .fn (.func 64) [] [.ptr 1 0]), (5, .v (.int .i64 s343.1)), (6, .v (.int .i64 s343.2.1))], [.row 51 5 (List.map encClaim s343.2.2), .var 3 [.v (.int .i64 v)]]⟩ : St)) q342 (weak_fin _ rfl rfl rfl (.cons (.same rfl) (.cons (.same rfl) (LeH.rest))) (.cons (.one (.same rfl)) (.cons (.one (.same rfl)) (.cons (.one (.same rfl)) (.cons (.one (.same rfl)) (.nil))))) rfl rfl) ?_
      rintro ⟨a338, a339, a340⟩ v344 hv r345
      have hv : slices_DeleteFunc_Claim__lock_Free_2_l4 v a338 a339 a340 = some v344 := hv
      unfold slices_DeleteFunc_Claim__lock_Free_2_l4 at hv
      dsimp only
      refine Tri.seqK ?_
      refine Tri.seqK ?_
      refine Tri.run (G := gm_slices_DeleteFunc_Claim__lock_Free_2) tyOk mixed ?_
      conv => whnf
      refine ⟨rfl, ?_⟩
      conv => whnf
      refine ⟨⟨(a340.length : Int), by simp, ?_⟩⟩
      conv => whnf
      refine Tri.cond rfl (fun c347 => ?_) (fun c347 => ?_)
      · replace hv := if_t c347 hv
        refine Tri.run (G := gm_slices_DeleteFunc_Claim__lock_Free_2) tyOk mixed ?_
        conv => whnf
        refine Tri.seqK ?_
        replace hv := bind_some hv
        obtain ⟨y362, q363, hv⟩ := hv
        refine Tri.cut (fun ex S' => ex = .normal ∧ Weak S' ⟨42, 2, ofRegs [(0, .row 0 ((List.map encClaim y362.2).length)), (1, .fn (.func 64) [] [.ptr 1 0]), (5, .v (.int .i64 y362.1)), (6, .v (.int .i64 a339))], [.row 51 5 (List.map encClaim y362.2), .var 3 [.v (.int .i64 v)]]⟩) ?_ ?_
        · refine Tri.block ?_
          refine Tri.seqK ?_
          refine Tri.run (G := gm_slices_DeleteFunc_Claim__lock_Free_2) tyOk mixed ?_
          conv => whnf
          replace q363 := bind_some q363
          obtain ⟨x364, q365, q363⟩ := q363
          refine ⟨⟨rfl, (ix_lt q365).1, by have := ix_lt q365; simp only [List.length_map, List.length_set, List.length_cons, List.length_nil] at *; omega⟩, ?_⟩
          conv => whnf
          refine ⟨rfl, ?_⟩
          conv => whnf
          refine ⟨⟨_, map_get encClaim (ix_some q365).2, ?_⟩⟩
          conv => whnf
          refine Tri.seqK ?_
          refine Tri.run (G := gm_slices_DeleteFunc_Claim__lock_Free_2) tyOk mixed ?_
          conv => whnf
          replace q363 := bind_some q363
          obtain ⟨y366, q367, q363⟩ := q363
          refine CallP.use (lock_Free_2_walk x364 v y366 q367) [1] rfl rfl rfl rfl rfl rfl rfl rfl rfl ?_
          conv => whnf
          refine Tri.cond rfl (fun c368 => ?_) (fun c368 => ?_)
          · replace q363 := if_t c368 q363
            refine Tri.seqK ?_
            refine Tri.run (G := gm_slices_DeleteFunc_Claim__lock_Free_2) tyOk mixed ?_
            conv => whnf
            replace q363 := bind_some q363
            obtain ⟨x369, q370, q363⟩ := q363
            refine ⟨⟨rfl, (ix_lt q370).1, by have := ix_lt q370; simp only [List.length_map, List.length_set, List.length_cons, List.length_nil] at *; omega⟩, ?_⟩
            conv => whnf
            refine ⟨rfl, ?_⟩
            conv => whnf
            refine ⟨⟨_, map_get encClaim (ix_some q370).2, ?_⟩⟩
            conv => whnf
            refine ⟨Nat.le_of_ble_eq_true rfl, ?_⟩
            conv => whnf
            refine ⟨⟨List.map encClaim (List.set a340 (a338).toNat x364), map_set encClaim _ _ _ rfl, ?_⟩⟩
            conv => whnf
            refine Tri.run (G := gm_slices_DeleteFunc_Claim__lock_Free_2) tyOk mixed ?_
            conv => whnf
            cases q363
            exact ⟨rfl, weak_fin _ rfl rfl rfl (.cons (.same rfl) (.cons (.same rfl) (LeH.rest))) (.cons (.one (.same (show (.row 0 ((List.map encClaim a340).length) : AV) = (.row 0 ((List.map encClaim (List.set a340 (a338).toNat x364)).length) : AV) from congrArg (AV.row 0) (by simp)))) (.cons (.one (.same rfl)) (.cons (.one (.same rfl)) (.cons (.one (.same rfl)) (.nil))))) rfl rfl⟩
          · replace q363 := if_f c368 q363
            refine Tri.run (G := gm_slices_DeleteFunc_Claim__lock_Free_2) tyOk mixed ?_
            conv => whnf
            cases q363
            exact ⟨rfl, weak_fin _ rfl rfl rfl (.cons (.same rfl) (.cons (.same rfl) (LeH.rest))) (.cons (.one (.same rfl)) (.cons (.one (.same rfl)) (.cons (.one (.same rfl)) (.cons (.one (.same rfl)) (.nil))))) rfl rfl⟩
        · rintro ex S' ⟨rfl, w371⟩
          conv => whnf
          refine Tri.weak w371 ?_
          refine Tri.run (G := gm_slices_DeleteFunc_Claim__lock_Free_2) tyOk mixed ?_
          conv => whnf
          cases hv
          exact ⟨_, rfl, weak_fin _ rfl rfl rfl (.cons (.same rfl) (.cons (.same rfl) (LeH.rest))) (.cons (.one (.same rfl)) (.cons (.one (.same rfl)) (.cons (.one (.same rfl)) (.cons (.one (.same rfl)) (.nil))))) rfl rfl⟩
      · replace hv := if_f c347 hv
        refine Tri.run (G := gm_slices_DeleteFunc_Claim__lock_Free_2) tyOk mixed ?_
        conv => whnf
        cases hv
        obtain rfl := r345 _ rfl
        exact ⟨rfl, weak_fin _ rfl rfl rfl (.cons (.same rfl) (.cons (.same rfl) (LeH.rest))) (.cons (.one (.same rfl)) (.cons (.one (.same rfl)) (.nil))) rfl rfl⟩
    · rintro ex S' ⟨rfl, w372⟩
      conv => whnf
      refine Tri.weak w372 ?_
      refine Tri.seqK ?_
      refine Tri.run (G := gm_slices_DeleteFunc_Claim__lock_Free_2) tyOk mixed ?_
      conv => whnf
      replace h := need_some h
      obtain ⟨p373, h⟩ := h
      refine ⟨⟨rfl, by have := p373; simp only [List.length_map, List.length_append, List.length_take, List.length_drop, List.length_replicate, List.length_set] at *; omega⟩, ?_⟩
      conv => whnf
      replace h := need_some h
      obtain ⟨p374, h⟩ := h
      refine ⟨by have := p374; simp only [List.length_map, List.length_append, List.length_take, List.length_drop, List.length_replicate, List.length_set] at *; omega, ?_⟩
      conv => whnf
      refine ⟨rfl, ?_⟩
      conv => whnf
      refine ⟨⟨List.map encClaim (List.take ((y341.1).toNat) y341.2 ++ List.replicate (((((List.map encClaim y341.2).length : Nat) : Int).toNat) - ((y341.1).toNat)) (({ Txn := 0, W := ({ Mode := 0, Lo := [], Hi := [] } : Want), Until := 0 } : Claim) : Claim) ++ List.drop ((((List.map encClaim y341.2).length : Nat) : Int).toNat) y341.2), by rw [List.map_append, List.map_append, List.map_take, List.map_drop, List.map_replicate]; rfl, ?_⟩⟩
      conv => whnf
      refine Tri.seqK ?_
      refine Tri.run (G := gm_slices_DeleteFunc_Claim__lock_Free_2) tyOk mixed ?_
      conv => whnf
      replace h := need_some h
      obtain ⟨p375, h⟩ := h
      refine ⟨⟨by first | (simp; done) | (simp only [List.length_map, List.length_append, List.length_take, List.length_drop, List.length_replicate, List.length_set, List.length_mergeSort]; omega), by have := p375; simp only [List.length_map, List.length_append, List.length_take, List.length_drop, List.length_replicate, List.length_set] at *; omega⟩, ?_⟩
      conv => whnf
      replace h := need_some h
      obtain ⟨p376, h⟩ := h
      refine ⟨by have := p376; simp only [List.length_map, List.length_append, List.length_take, List.length_drop, List.length_replicate, List.length_set] at *; omega, ?_⟩
      conv => whnf
      refine Tri.run (G := gm_slices_DeleteFunc_Claim__lock_Free_2) tyOk mixed ?_
      conv => whnf
      refine fin_pre (S' := ⟨42, 2, ofRegs [(4, .sl (List.map encClaim (List.drop ((0 : Int).toNat) (List.take ((y341.1).toNat) (List.take ((y341.1).toNat) y341.2 ++ List.replicate (((((List.map encClaim y341.2).length : Nat) : Int).toNat) - ((y341.1).toNat)) (({ Txn := 0, W := ({ Mode := 0, Lo := [], Hi := [] } : Want), Until := 0 } : Claim) : Claim) ++ List.drop ((((List.map encClaim y341.2).length : Nat) : Int).toNat) y341.2)))))], [.gone, .var 3 [.v (.int .i64 v)]]⟩) (Weak.trans (weak_freeze 0 rfl) (weak_fin _ rfl rfl rfl (.cons (.gone) (.cons (.same rfl) (LeH.rest))) (.cons (.one (.frzvw rfl (by first | (simp; done) | (simp only [List.length_map, List.length_append, List.length_take, List.length_drop, List.length_replicate, List.length_set, List.length_mergeSort]; omega)) (by rw [List.map_drop, List.map_take]))) (.nil)) rfl rfl)) ?_
      conv => whnf
      cases h
      exact ⟨rfl, rfl⟩
noncomputable def lock_Settle_l9 (a881 : (List Hold)) (a882 : (List Claim)) (a883 : (List Int)) (a1120 : Int) : Option ((Int) ⊕ (((List Hold) × (List Claim) × (List Int)) ⊕ (Unit))) :=
  if (decide (a1120 < (a882.length : Int))) then
    (ix a882 a1120).bind fun x1151 =>
    (lock_Blockers ({ Held := a881, Queue := a882 } : Locks) x1151.Txn x1151.W a1120).bind fun y1156 =>
    if (decide ((y1156.length : Int) > 0)) then
      some (.inl (IntKind.i64.wrap (a1120 + 1)))
    else
      need (a882.length * 56 ≤ 140737488355328) <|
      need (0 ≤ a1120 ∧ a1120 ≤ (IntKind.i64.wrap (a1120 + 1)) ∧ (IntKind.i64.wrap (a1120 + 1)) ≤ (a882.length : Int) ∧ (a882.length : Int) < 4611686018427387904 ∧ 0 < a882.length) <|
      need (a881.length * 48 ≤ 140737488355328) <|
      need ((a881.length + 1) * 48 ≤ 140737488355328) <|
      need ((a883.length + 1) * 8 ≤ 140737488355328) <|
      some (.inr (.inl ((a881 ++ [({ Txn := x1151.Txn, W := x1151.W } : Hold)]), (List.take a1120.toNat a882 ++ List.drop (IntKind.i64.wrap (a1120 + 1)).toNat a882), (a883 ++ [x1151.Txn]))))
  else
    some (.inr (.inr ()))
noncomputable def lock_Settle_l7 (a881 : (List Hold)) (a882 : (List Claim)) (a883 : (List Int)) : Option (((List Hold) × (List Claim) × (List Int)) ⊕ ((List Hold) × (List Claim) × (List Int))) :=
  (loop (fun (s1125 : Int) => lock_Settle_l9 a881 a882 a883 s1125) (0 : Int)).bind fun (y1121 : ((List Hold) × (List Claim) × (List Int)) ⊕ (Unit)) =>
  match y1121 with
  | (.inl v1123) =>
    some (.inl (v1123.1, v1123.2.1, v1123.2.2))
  | (.inr v1124) =>
    some (.inr (a881, a882, a883))
noncomputable def lock_Settle (l : Locks) : Option (Locks × (List Int)) :=
  (loop (fun (s886 : (List Hold) × (List Claim) × (List Int)) => lock_Settle_l7 s886.1 s886.2.1 s886.2.2) (l.Held, l.Queue, ([] : (List Int)))).bind fun (y884 : (List Hold) × (List Claim) × (List Int)) =>
  some (({ Held := y884.1, Queue := y884.2.1 } : Locks), y884.2.2)
def gm_lock_Settle : Gm := ⟨tys, [58], [(59, 51, 5), (60, 46, 4)], [58]⟩
theorem lock_Settle_walk (l : Locks) (r : Locks × (List Int)) (h : lock_Settle l = some r) : PureP Try.prog 30 [.agg [.sl (List.map encHold l.Held), .sl (List.map encClaim l.Queue)]] (fun a => a = .tup [.agg [.sl (List.map encHold r.1.Held), .sl (List.map encClaim r.1.Queue)], .sl (List.map (encI .i64) r.2)]) := by
  unfold lock_Settle at h
  refine pureW (G := gm_lock_Settle) tyOk Try.func30 rfl (by kernel_rfl) (by simp [Try.f30]) ?_
  refine Tri.seqK ?_
  refine Tri.run (G := gm_lock_Settle) tyOk mixed ?_
  conv => whnf
  refine Tri.scope ?_
  refine Tri.seqK ?_
  refine Tri.run (G := gm_lock_Settle) tyOk mixed ?_
  conv => whnf
  refine Tri.seqK ?_
  refine Tri.run (G := gm_lock_Settle) tyOk mixed ?_
  conv => whnf
  refine Tri.block ?_
  replace h := bind_some h
  obtain ⟨y884, q885, h⟩ := h
  refine Tri.cut (fun ex S' => ex = .ret ∧ Weak S' ⟨51, 0, ofRegs [(2, .ptr 1 0), (3, .row 2 ((List.map (encI .i64) y884.2.2).length))], [.gone, .var 25 [.sl (List.map encHold y884.1), .sl (List.map encClaim y884.2.1)], .row 3 1 (List.map (encI .i64) y884.2.2)]⟩) ?_ ?_
  · refine Tri.loopF (fun (s886 : (List Hold) × (List Claim) × (List Int)) => (⟨51, 0, ofRegs [(1, .ptr 0 0), (2, .ptr 1 0), (4, .row 2 ((List.map (encI .i64) s886.2.2).length))], [.var 25 [.sl (List.map encHold s886.1), .sl (List.map encClaim s886.2.1)], .var 25 [.v (.slice none 0 0), .v (.slice none 0 0)], .row 3 1 (List.map (encI .i64) s886.2.2)]⟩ : St)) q885 (Weak.trans (weak_nil 4 3 1 rfl) (weak_fin _ rfl rfl rfl (.cons (.same rfl) (.cons (.same rfl) (.cons (.same rfl) (LeH.rest)))) (.cons (.one (.same rfl)) (.cons (.one (.same rfl)) (.cons (.one (.same (show (.row 2 0 : AV) = (.row 2 ((List.map (encI .i64) []).length) : AV) from congrArg (AV.row 2) (by simp)))) (.nil)))) rfl rfl)) ?_
    rintro ⟨a881, a882, a883⟩ v887 hv r888
    have hv : lock_Settle_l7 a881 a882 a883 = some v887 := hv
    unfold lock_Settle_l7 at hv
    dsimp only
    refine Tri.block ?_
    refine Tri.seqK ?_
    refine Tri.seqK ?_
    refine Tri.run (G := gm_lock_Settle) tyOk mixed ?_
    conv => whnf
    refine ⟨⟨(a882.length : Int), (len_map _ _).symm, ?_⟩⟩
    conv => whnf
    refine Tri.block ?_
    replace hv := bind_some hv
    obtain ⟨y1121, q1122, hv⟩ := hv
    refine Tri.cut (fun ex S' => (∃ v1123 : (List Hold) × (List Claim) × (List Int), y1121 = (.inl v1123) ∧ ex = (.exit 1) ∧ Weak S' ⟨51, 0, ofRegs [(1, .ptr 0 0), (2, .ptr 1 0), (4, .row 2 ((List.map (encI .i64) v1123.2.2).length))], [.var 25 [.sl (List.map encHold v1123.1), .sl (List.map encClaim v1123.2.1)], .var 25 [.v (.slice none 0 0), .v (.slice none 0 0)], .row 3 1 (List.map (encI .i64) v1123.2.2)]⟩) ∨ (∃ v1124 : Unit, y1121 = (.inr v1124) ∧ ex = (.exit 2) ∧ Weak S' ⟨51, 0, ofRegs [(1, .ptr 0 0), (2, .ptr 1 0), (4, .row 2 ((List.map (encI .i64) a883).length))], [.var 25 [.sl (List.map encHold a881), .sl (List.map encClaim a882)], .var 25 [.v (.slice none 0 0), .v (.slice none 0 0)], .row 3 1 (List.map (encI .i64) a883)]⟩)) ?_ ?_
    · refine Tri.loopF (fun (s1125 : Int) => (⟨51, 0, ofRegs [(1, .ptr 0 0), (2, .ptr 1 0), (4, .row 2 ((List.map (encI .i64) a883).length)), (8, .sl (List.map encClaim a882)), (9, .v (.int .i64 (a882.length : Int))), (10, .v (.int .i64 s1125))], [.var 25 [.sl (List.map encHold a881), .sl (List.map encClaim a882)], .var 25 [.v (.slice none 0 0), .v (.slice none 0 0)], .row 3 1 (List.map (encI .i64) a883)]⟩ : St)) q1122 (weak_fin _ rfl rfl rfl (.cons (.same rfl) (.cons (.same rfl) (.cons (.same rfl) (LeH.rest)))) (.cons (.one (.same rfl)) (.cons (.one (.same rfl)) (.cons (.one (.same rfl)) (.cons (.one (.same rfl)) (.cons (.one (.same rfl)) (.cons (.one (.same rfl)) (.nil))))))) rfl rfl) ?_
      rintro a1120 v1126 hv r1127
      have hv : lock_Settle_l9 a881 a882 a883 a1120 = some v1126 := hv
      unfold lock_Settle_l9 at hv
      refine Tri.seqK ?_
      refine Tri.run (G := gm_lock_Settle) tyOk mixed ?_
      conv => whnf
      refine Tri.seqK ?_
      refine Tri.cond rfl (fun c1129 => ?_) (fun c1129 => ?_)
      · replace hv := if_t c1129 hv
        refine Tri.run (G := gm_lock_Settle) tyOk mixed ?_
        conv => whnf
        refine Tri.seqK ?_
        refine Tri.block ?_
        refine Tri.seqK ?_
        refine Tri.run (G := gm_lock_Settle) tyOk mixed ?_
        conv => whnf
        replace hv := bind_some hv
        obtain ⟨x1151, q1152, hv⟩ := hv
        refine ⟨(ix_some q1152).1, ?_⟩
        conv => whnf
        refine ⟨⟨_, map_get encClaim (ix_some q1152).2, ?_⟩⟩
        conv => whnf
        refine ⟨rfl, ?_⟩
        conv => whnf
        refine Tri.seqK ?_
        refine Tri.seqK ?_
        refine Tri.run (G := gm_lock_Settle) tyOk mixed ?_
        conv => whnf
        replace hv := bind_some hv
        obtain ⟨y1156, q1157, hv⟩ := hv
        refine PureP.mono (lock_Blockers_walk ({ Held := a881, Queue := a882 } : Locks) x1151.Txn x1151.W a1120 y1156 q1157) ?_
        rintro _ rfl
        conv => whnf
        refine ⟨⟨(y1156.length : Int), (len_map _ _).symm, ?_⟩⟩
        conv => whnf
        refine Tri.cond rfl (fun c1158 => ?_) (fun c1158 => ?_)
        · replace hv := if_t c1158 hv
          refine Tri.run (G := gm_lock_Settle) tyOk mixed ?_
          conv => whnf
          refine Tri.run (G := gm_lock_Settle) tyOk mixed ?_
          conv => whnf
          cases hv
          exact ⟨_, rfl, weak_fin _ rfl rfl rfl (.cons (.same rfl) (.cons (.same rfl) (.cons (.same rfl) (LeH.rest)))) (.cons (.one (.same rfl)) (.cons (.one (.same rfl)) (.cons (.one (.same rfl)) (.cons (.one (.same rfl)) (.cons (.one (.same rfl)) (.cons (.one (.same rfl)) (.nil))))))) rfl rfl⟩
        · replace hv := if_f c1158 hv
          refine Tri.run (G := gm_lock_Settle) tyOk mixed ?_
          conv => whnf
          refine Tri.seqK ?_
          refine Tri.run (G := gm_lock_Settle) tyOk mixed ?_
          conv => whnf
          replace hv := need_some hv
          obtain ⟨p1159, hv⟩ := hv
          refine FreshP.mono (clone_59 a882 p1159) ?_
          rintro _ rfl
          conv => whnf
          refine ⟨rfl, ?_⟩
          conv => whnf
          replace hv := need_some hv
          obtain ⟨p1160, hv⟩ := hv
          refine EatP.mono (delete_58 a882 a1120 (IntKind.i64.wrap (a1120 + 1)) p1160) ?_
          rintro _ rfl
          conv => whnf
          refine Tri.seqK ?_
          refine Tri.run (G := gm_lock_Settle) tyOk mixed ?_
          conv => whnf
          replace hv := need_some hv
          obtain ⟨p1169, hv⟩ := hv
          replace hv := need_some hv
          obtain ⟨p1170, hv⟩ := hv
          refine Draw.many 11 (.take 0 (.take 1 (.take 3 (.take 4 (.take 5 (.take 6 (.take 7 (.alt 2 (.alt 8 (.alt 9 (.take 10 (.fin)) (.nil)) (.nil)) (.alt 8 (.alt 2 (.alt 9 (.take 10 (.fin)) (.nil)) (.nil)) (.nil)))))))))) [] (⟨51, 0, ofRegs [(1, .ptr 0 0), (2, .ptr 1 0), (4, .row 2 ((List.map (encI .i64) a883).length)), (6, .ptr 3 0), (41, .sl (List.map encHold (a881 ++ [({ Txn := x1151.Txn, W := x1151.W } : Hold)]))), (42, .ptr 0 0)], [.var 25 [.sl (List.map encHold a881), .row 5 ((List.map encClaim (List.take a1120.toNat a882 ++ List.drop (IntKind.i64.wrap (a1120 + 1)).toNat a882)).length)], .var 25 [.v (.slice none 0 0), .v (.slice none 0 0)], .row 3 1 (List.map (encI .i64) a883), .var 51 [.v (.int .i64 x1151.Txn), .v (.int .i64 x1151.W.Mode), .v (.string (bs x1151.W.Lo)), .v (.string (bs x1151.W.Hi)), .v (.int .u64 x1151.Until)], .gone, .row 51 5 (List.map encClaim (List.take a1120.toNat a882 ++ List.drop (IntKind.i64.wrap (a1120 + 1)).toNat a882))]⟩) (by kernel_rfl) ?_ ?_
          · conv => whnf
            refine ⟨?_, ?_⟩
            · conv => whnf
              refine FreshP.mono (clone_60 a881 p1169) ?_
              rintro _ rfl
              conv => whnf
              refine ⟨?_, ?_⟩
              · conv => whnf
                refine ⟨⟨List.map encHold [({ Txn := x1151.Txn, W := x1151.W } : Hold)], rfl, ?_⟩⟩
                conv => whnf
                refine ⟨?_, ?_⟩
                · conv => whnf
                  refine ⟨rfl, ?_⟩
                  conv => whnf
                  refine ⟨rfl, ?_⟩
                  conv => whnf
                  refine ⟨by simp only [List.length_map]; exact p1170, ?_⟩
                  conv => whnf
                  refine ⟨⟨List.map encHold (a881 ++ [({ Txn := x1151.Txn, W := x1151.W } : Hold)]), map_app encHold _ _ rfl rfl, ?_⟩⟩
                  conv => whnf
                  exact Weak.trans (weak_freeze 6 rfl) (weak_fin _ rfl rfl rfl (.cons (.same rfl) (.cons (.same rfl) (.cons (.same rfl) (.cons (.same rfl) (.cons (.same rfl) (.cons (.same rfl) (LeH.rest))))))) (.cons (.one (.same rfl)) (.cons (.one (.same rfl)) (.cons (.one (.same rfl)) (.cons (.one (.same rfl)) (.cons (.one (.frz rfl (rfl))) (.cons (.one (.same rfl)) (.nil))))))) rfl rfl)
                · conv => whnf
                  trivial
              · conv => whnf
                trivial
            · conv => whnf
              refine ⟨?_, ?_⟩
              · conv => whnf
                refine ⟨⟨List.map encHold [({ Txn := x1151.Txn, W := x1151.W } : Hold)], rfl, ?_⟩⟩
                conv => whnf
                refine ⟨?_, ?_⟩
                · conv => whnf
                  refine FreshP.mono (clone_60 a881 p1169) ?_
                  rintro _ rfl
                  conv => whnf
                  refine ⟨?_, ?_⟩
                  · conv => whnf
                    refine ⟨rfl, ?_⟩
                    conv => whnf
                    refine ⟨rfl, ?_⟩
                    conv => whnf
                    refine ⟨by simp only [List.length_map]; exact p1170, ?_⟩
                    conv => whnf
                    refine ⟨⟨List.map encHold (a881 ++ [({ Txn := x1151.Txn, W := x1151.W } : Hold)]), map_app encHold _ _ rfl rfl, ?_⟩⟩
                    conv => whnf
                    exact Weak.trans (weak_freeze 7 rfl) (weak_fin _ rfl rfl rfl (.cons (.same rfl) (.cons (.same rfl) (.cons (.same rfl) (.cons (.same rfl) (.cons (.same rfl) (.cons (.same rfl) (LeH.rest))))))) (.cons (.one (.same rfl)) (.cons (.one (.same rfl)) (.cons (.one (.same rfl)) (.cons (.one (.same rfl)) (.cons (.one (.frz rfl (rfl))) (.cons (.one (.same rfl)) (.nil))))))) rfl rfl)
                  · conv => whnf
                    trivial
                · conv => whnf
                  trivial
              · conv => whnf
                trivial
          · conv => whnf
            refine Tri.seqK ?_
            refine Tri.run (G := gm_lock_Settle) tyOk mixed ?_
            conv => whnf
            refine ⟨⟨List.map (encI .i64) [x1151.Txn], rfl, ?_⟩⟩
            conv => whnf
            refine ⟨rfl, ?_⟩
            conv => whnf
            refine ⟨rfl, ?_⟩
            conv => whnf
            replace hv := need_some hv
            obtain ⟨p1171, hv⟩ := hv
            refine ⟨by simp only [List.length_map]; exact p1171, ?_⟩
            conv => whnf
            refine ⟨⟨List.map (encI .i64) (a883 ++ [x1151.Txn]), map_app (encI .i64) _ _ rfl rfl, ?_⟩⟩
            conv => whnf
            refine Tri.run (G := gm_lock_Settle) tyOk mixed ?_
            conv => whnf
            cases hv
            obtain rfl := r1127 _ rfl
            exact Or.inl ⟨_, rfl, rfl, Weak.trans (weak_freeze 5 rfl) (weak_fin _ rfl rfl rfl (.cons (.var (.cons (.same rfl) (.cons (.frz rfl (rfl)) (.nil)))) (.cons (.same rfl) (.cons (.same rfl) (LeH.rest)))) (.cons (.one (.same rfl)) (.cons (.one (.same rfl)) (.cons (.one (.same rfl)) (.nil)))) rfl rfl)⟩
      · replace hv := if_f c1129 hv
        refine Tri.run (G := gm_lock_Settle) tyOk mixed ?_
        conv => whnf
        cases hv
        obtain rfl := r1127 _ rfl
        exact Or.inr (⟨_, rfl, rfl, weak_fin _ rfl rfl rfl (.cons (.same rfl) (.cons (.same rfl) (.cons (.same rfl) (LeH.rest)))) (.cons (.one (.same rfl)) (.cons (.one (.same rfl)) (.cons (.one (.same rfl)) (.nil)))) rfl rfl⟩)
    · rintro ex S' (⟨v1123, rfl, rfl, w1172⟩ | ⟨v1124, rfl, rfl, w1172⟩)
      · dsimp only at hv
        conv => whnf
        cases hv
        exact ⟨_, rfl, Weak.trans w1172 (weak_fin _ rfl rfl rfl (.cons (.same rfl) (.cons (.same rfl) (.cons (.same rfl) (LeH.rest)))) (.cons (.one (.same rfl)) (.cons (.one (.same rfl)) (.cons (.one (.same rfl)) (.nil)))) rfl rfl)⟩
      · dsimp only at hv
        conv => whnf
        refine Tri.weak w1172 ?_
        refine Tri.seqK ?_
        refine Tri.run (G := gm_lock_Settle) tyOk mixed ?_
        conv => whnf
        refine Tri.run (G := gm_lock_Settle) tyOk mixed ?_
        conv => whnf
        cases hv
        obtain rfl := r888 _ rfl
        exact ⟨rfl, weak_fin _ rfl rfl rfl (.cons (.gone) (.cons (.same rfl) (.cons (.same rfl) (LeH.rest)))) (.cons (.one (.same rfl)) (.cons (.one (.same rfl)) (.nil))) rfl rfl⟩
  · rintro ex S' ⟨rfl, w1173⟩
    conv => whnf
    refine fin_pre w1173 ?_
    conv => whnf
    refine ⟨rfl, ?_⟩
    conv => whnf
    cases h
    rfl
noncomputable def lock_Free (l : Locks) (txn : Int) : Option (Locks × (List Int)) :=
  need (l.Held.length * 48 ≤ 140737488355328) <|
  (slices_DeleteFunc_Hold__lock_Free_1 l.Held txn).bind fun y2 =>
  need (l.Queue.length * 56 ≤ 140737488355328) <|
  (slices_DeleteFunc_Claim__lock_Free_2 l.Queue txn).bind fun y5 =>
  (lock_Settle ({ Held := y2, Queue := y5 } : Locks)).bind fun y7 =>
  some (y7.1, y7.2)
def gm_lock_Free : Gm := ⟨tys, [61, 63], [(60, 46, 4), (59, 51, 5)], []⟩
theorem lock_Free_walk (l : Locks) (txn : Int) (r : Locks × (List Int)) (h : lock_Free l txn = some r) : PureP Try.prog 32 [.agg [.sl (List.map encHold l.Held), .sl (List.map encClaim l.Queue)], .v (.int .i64 txn)] (fun a => a = .tup [.agg [.sl (List.map encHold r.1.Held), .sl (List.map encClaim r.1.Queue)], .sl (List.map (encI .i64) r.2)]) := by
  unfold lock_Free at h
  refine pureW (G := gm_lock_Free) tyOk Try.func32 rfl (by kernel_rfl) (by simp [Try.f32]) ?_
  refine Tri.seqK ?_
  refine Tri.run (G := gm_lock_Free) tyOk mixed ?_
  conv => whnf
  refine Tri.seqK ?_
  refine Tri.run (G := gm_lock_Free) tyOk mixed ?_
  conv => whnf
  replace h := need_some h
  obtain ⟨p1, h⟩ := h
  refine FreshP.mono (clone_60 l.Held p1) ?_
  rintro _ rfl
  conv => whnf
  replace h := bind_some h
  obtain ⟨y2, q3, h⟩ := h
  refine CallP.use (slices_DeleteFunc_Hold__lock_Free_1_walk l.Held txn y2 q3) [3, 1] rfl rfl rfl rfl rfl rfl rfl rfl rfl ?_
  conv => whnf
  refine Tri.seqK ?_
  refine Tri.run (G := gm_lock_Free) tyOk mixed ?_
  conv => whnf
  replace h := need_some h
  obtain ⟨p4, h⟩ := h
  refine FreshP.mono (clone_59 l.Queue p4) ?_
  rintro _ rfl
  conv => whnf
  replace h := bind_some h
  obtain ⟨y5, q6, h⟩ := h
  refine CallP.use (slices_DeleteFunc_Claim__lock_Free_2_walk l.Queue txn y5 q6) [4, 1] rfl rfl rfl rfl rfl rfl rfl rfl rfl ?_
  conv => whnf
  refine Tri.seqK ?_
  refine Tri.run (G := gm_lock_Free) tyOk mixed ?_
  conv => whnf
  replace h := bind_some h
  obtain ⟨y7, q8, h⟩ := h
  refine PureP.mono (lock_Settle_walk ({ Held := y2, Queue := y5 } : Locks) y7 q8) ?_
  rintro _ rfl
  conv => whnf
  refine Tri.run (G := gm_lock_Free) tyOk mixed ?_
  conv => whnf
  refine fin_here ?_
  conv => whnf
  cases h
  rfl
noncomputable def law10_shown  : Option (Bool) :=
  (ref09_Key 2 [97]).bind fun y1 =>
  (lock_Ask ({ Held := [], Queue := [] } : Locks) 1 y1 9).bind fun y3 =>
  (ref09_Key 1 [97]).bind fun y13 =>
  (lock_Ask y3.1 2 y13 9).bind fun y15 =>
  (lock_Free y15.1 1).bind fun y23 =>
  if (decide (y3.2 = 0)) then
    if (decide (y15.2 = 12)) then
      if (decide ((y23.2.length : Int) = 1)) then
        (ix y23.2 0).bind fun x28 =>
        some (decide (x28 = 2))
      else
        some false
    else
      some false
  else
    some false
def gm_law10_shown : Gm := ⟨tys, [], [], []⟩
theorem law10_shown_walk  (r : Bool) (h : law10_shown = some r) : PureP Try.prog 28 [] (fun a => a = .v (.bool r)) := by
  unfold law10_shown at h
  refine pureW (G := gm_law10_shown) tyOk Try.func28 rfl (by kernel_rfl) (by simp [Try.f28]) ?_
  refine Tri.seqK ?_
  refine Tri.run (G := gm_law10_shown) tyOk mixed ?_
  conv => whnf
  refine Tri.seqK ?_
  refine Tri.run (G := gm_law10_shown) tyOk mixed ?_
  conv => whnf
  replace h := bind_some h
  obtain ⟨y1, q2, h⟩ := h
  refine PureP.mono (ref09_Key_walk 2 [97] y1 q2) ?_
  rintro _ rfl
  conv => whnf
  replace h := bind_some h
  obtain ⟨y3, q4, h⟩ := h
  refine PureP.mono (lock_Ask_walk ({ Held := [], Queue := [] } : Locks) 1 y1 9 y3 q4) ?_
  rintro _ rfl
  conv => whnf
  refine Tri.seqK ?_
  refine Tri.run (G := gm_law10_shown) tyOk mixed ?_
  conv => whnf
  replace h := bind_some h
  obtain ⟨y13, q21, h⟩ := h
  replace h := bind_some h
  obtain ⟨y15, q22, h⟩ := h
  refine Draw.many 7 (.alt 0 (.alt 1 (.alt 2 (.take 3 (.take 4 (.take 5 (.alt 6 (.fin) (.nil))))) (.nil)) (.nil)) (.alt 1 (.alt 0 (.alt 2 (.take 3 (.take 4 (.take 5 (.alt 6 (.fin) (.nil))))) (.nil)) (.nil)) (.nil))) [0, 1, 2, 3, 4, 5, 6] (⟨40, 0, ofRegs [(1, .ptr 0 0), (2, .v (.int .i64 y3.2)), (17, .v (.int .i64 y15.2))], [.var 25 [.sl (List.map encHold y15.1.Held), .sl (List.map encClaim y15.1.Queue)]]⟩) (by kernel_rfl) ?_ ?_
  · conv => whnf
    refine ⟨?_, ?_⟩
    · conv => whnf
      refine ⟨?_, ?_⟩
      · conv => whnf
        refine PureP.mono (ref09_Key_walk 1 [97] y13 q21) ?_
        rintro _ rfl
        conv => whnf
        refine ⟨?_, ?_⟩
        · conv => whnf
          refine PureP.mono (lock_Ask_walk y3.1 2 y13 9 y15 q22) ?_
          rintro _ rfl
          conv => whnf
          refine ⟨?_, ?_⟩
          · conv => whnf
            exact weak_fin _ rfl rfl rfl (.cons (.same rfl) (LeH.rest)) (.cons (.one (.same rfl)) (.cons (.one (.same rfl)) (.cons (.one (.same rfl)) (.nil)))) rfl rfl
          · conv => whnf
            trivial
        · conv => whnf
          trivial
      · conv => whnf
        trivial
    · conv => whnf
      refine ⟨?_, ?_⟩
      · conv => whnf
        refine PureP.mono (ref09_Key_walk 1 [97] y13 q21) ?_
        rintro _ rfl
        conv => whnf
        refine ⟨?_, ?_⟩
        · conv => whnf
          refine ⟨?_, ?_⟩
          · conv => whnf
            refine PureP.mono (lock_Ask_walk y3.1 2 y13 9 y15 q22) ?_
            rintro _ rfl
            conv => whnf
            refine ⟨?_, ?_⟩
            · conv => whnf
              exact weak_fin _ rfl rfl rfl (.cons (.same rfl) (LeH.rest)) (.cons (.one (.same rfl)) (.cons (.one (.same rfl)) (.cons (.one (.same rfl)) (.nil)))) rfl rfl
            · conv => whnf
              trivial
          · conv => whnf
            trivial
        · conv => whnf
          trivial
      · conv => whnf
        trivial
  · conv => whnf
    refine Tri.seqK ?_
    refine Tri.run (G := gm_law10_shown) tyOk mixed ?_
    conv => whnf
    replace h := bind_some h
    obtain ⟨y23, q24, h⟩ := h
    refine PureP.mono (lock_Free_walk y15.1 1 y23 q24) ?_
    rintro _ rfl
    conv => whnf
    refine Tri.seqK ?_
    refine Tri.run (G := gm_law10_shown) tyOk mixed ?_
    conv => whnf
    refine cond_mk (fun c25 => ?_) (fun c25 => ?_)
    · replace h := if_t c25 h
      conv => whnf
      refine cond_mk (fun c26 => ?_) (fun c26 => ?_)
      · replace h := if_t c26 h
        conv => whnf
        refine ⟨⟨(y23.2.length : Int), (len_map _ _).symm, ?_⟩⟩
        conv => whnf
        refine cond_mk (fun c27 => ?_) (fun c27 => ?_)
        · replace h := if_t c27 h
          conv => whnf
          replace h := bind_some h
          obtain ⟨x28, q29, h⟩ := h
          refine ⟨(ix_some q29).1, ?_⟩
          conv => whnf
          refine ⟨⟨_, map_get (encI .i64) (ix_some q29).2, ?_⟩⟩
          conv => whnf
          refine ⟨rfl, ?_⟩
          conv => whnf
          refine Tri.run (G := gm_law10_shown) tyOk mixed ?_
          conv => whnf
          refine fin_here ?_
          conv => whnf
          cases h
          rfl
        · replace h := if_f c27 h
          conv => whnf
          refine Tri.run (G := gm_law10_shown) tyOk mixed ?_
          conv => whnf
          refine fin_here ?_
          conv => whnf
          cases h
          rfl
      · replace h := if_f c26 h
        conv => whnf
        refine Tri.run (G := gm_law10_shown) tyOk mixed ?_
        conv => whnf
        refine fin_here ?_
        conv => whnf
        cases h
        rfl
    · replace h := if_f c25 h
      conv => whnf
      refine Tri.run (G := gm_law10_shown) tyOk mixed ?_
      conv => whnf
      refine fin_here ?_
      conv => whnf
      cases h
      rfl
noncomputable def law10_small (l : Locks) : Option (Bool) :=
  if (decide ((l.Held.length : Int) ≤ 200)) then
    some (decide ((l.Queue.length : Int) ≤ 40))
  else
    some false
def gm_law10_small : Gm := ⟨tys, [], [], []⟩
theorem law10_small_walk (l : Locks) (r : Bool) (h : law10_small l = some r) : PureP Try.prog 29 [.agg [.sl (List.map encHold l.Held), .sl (List.map encClaim l.Queue)]] (fun a => a = .v (.bool r)) := by
  unfold law10_small at h
  refine pureW (G := gm_law10_small) tyOk Try.func29 rfl (by kernel_rfl) (by simp [Try.f29]) ?_
  refine Tri.seqK ?_
  refine Tri.run (G := gm_law10_small) tyOk mixed ?_
  conv => whnf
  refine Tri.seqK ?_
  refine Tri.run (G := gm_law10_small) tyOk mixed ?_
  conv => whnf
  refine ⟨⟨(l.Held.length : Int), (len_map _ _).symm, ?_⟩⟩
  conv => whnf
  refine cond_mk (fun c1 => ?_) (fun c1 => ?_)
  · replace h := if_t c1 h
    conv => whnf
    refine ⟨⟨(l.Queue.length : Int), (len_map _ _).symm, ?_⟩⟩
    conv => whnf
    refine Tri.run (G := gm_law10_small) tyOk mixed ?_
    conv => whnf
    refine fin_here ?_
    conv => whnf
    cases h
    rfl
  · replace h := if_f c1 h
    conv => whnf
    refine Tri.run (G := gm_law10_small) tyOk mixed ?_
    conv => whnf
    refine fin_here ?_
    conv => whnf
    cases h
    rfl
noncomputable def ref01_Less_l2 (a : Str) (b : Str) (a162 : Int) : Option ((Int) ⊕ ((Bool) ⊕ (Unit))) :=
  if ((decide (a162 < (a.length : Int))) && (decide (a162 < (b.length : Int)))) then
    (ix a a162).bind fun x195 =>
    (ix b a162).bind fun x197 =>
    if (!(decide ((x195.toNat : Int) = (x197.toNat : Int)))) then
      some (.inr (.inl (decide ((x195.toNat : Int) < (x197.toNat : Int)))))
    else
      some (.inl (IntKind.i64.wrap (a162 + 1)))
  else
    some (.inr (.inr ()))
noncomputable def ref01_Less (a : Str) (b : Str) : Option (Bool) :=
  (loop (fun (s167 : Int) => ref01_Less_l2 a b s167) (0 : Int)).bind fun (y163 : (Bool) ⊕ (Unit)) =>
  match y163 with
  | (.inl v165) =>
    some v165
  | (.inr v166) =>
    some (decide ((a.length : Int) < (b.length : Int)))
def gm_ref01_Less : Gm := ⟨tys, [], [], []⟩
theorem ref01_Less_walk (a : Str) (b : Str) (r : Bool) (h : ref01_Less a b = some r) : PureP Try.prog 71 [.v (.string (bs a)), .v (.string (bs b))] (fun a => a = .v (.bool r)) := by
  unfold ref01_Less at h
  refine pureW (G := gm_ref01_Less) tyOk Try.func71 rfl (by kernel_rfl) (by simp [Try.f71]) ?_
  refine Tri.seqK ?_
  refine Tri.run (G := gm_ref01_Less) tyOk mixed ?_
  conv => whnf
  refine Tri.seqK ?_
  refine Tri.seqK ?_
  refine Tri.run (G := gm_ref01_Less) tyOk mixed ?_
  conv => whnf
  refine Tri.block ?_
  replace h := bind_some h
  obtain ⟨y163, q164, h⟩ := h
  refine Tri.cut (fun ex S' => (∃ v165 : Bool, y163 = (.inl v165) ∧ ex = .ret ∧ Weak S' ⟨37, 0, ofRegs [(4, .v (.bool v165))], []⟩) ∨ (∃ v166 : Unit, y163 = (.inr v166) ∧ ex = (.exit 0) ∧ Weak S' ⟨37, 0, ofRegs [(0, .v (.string (bs a))), (1, .v (.string (bs b)))], []⟩)) ?_ ?_
  · refine Tri.loopF (fun (s167 : Int) => (⟨37, 0, ofRegs [(0, .v (.string (bs a))), (1, .v (.string (bs b))), (5, .v (.int .i64 s167))], []⟩ : St)) q164 (weak_fin _ rfl rfl rfl (LeH.rest) (.cons (.one (.same rfl)) (.cons (.one (.same rfl)) (.cons (.one (.same rfl)) (.nil)))) rfl rfl) ?_
    rintro a162 v168 hv r169
    have hv : ref01_Less_l2 a b a162 = some v168 := hv
    unfold ref01_Less_l2 at hv
    refine Tri.seqK ?_
    refine Tri.seqK ?_
    refine Tri.cut (fun ex S' => ex = .normal ∧ Weak S' ⟨37, 0, ofRegs [(0, .v (.string (bs a))), (1, .v (.string (bs b))), (5, .v (.int .i64 a162)), (15, .v (.bool ((decide (a162 < (a.length : Int))) && (decide (a162 < (b.length : Int))))))], []⟩) ?_ ?_
    · refine Tri.run (G := gm_ref01_Less) tyOk mixed ?_
      conv => whnf
      refine ⟨⟨(a.length : Int), rfl, ?_⟩⟩
      conv => whnf
      refine cond_mk (fun c179 => ?_) (fun c179 => ?_)
      · replace c179 : (decide (a162 < (a.length : Int))) = true := c179
        conv => whnf
        refine ⟨⟨(b.length : Int), rfl, ?_⟩⟩
        conv => whnf
        exact ⟨rfl, weak_fin _ rfl rfl rfl (LeH.rest) (.cons (.one (.same rfl)) (.cons (.one (.same rfl)) (.cons (.one (.same rfl)) (.cons (.one (.same (show (.v (.bool (decide (a162 < (b.length : Int)))) : AV) = (.v (.bool ((decide (a162 < (a.length : Int))) && (decide (a162 < (b.length : Int))))) : AV) from by first | (simp [c179]; done) | simp only [c179, Bool.or_true, Bool.true_or, Bool.false_or, Bool.or_false, Bool.and_true, Bool.true_and, Bool.and_false, Bool.false_and, Bool.not_true, Bool.not_false, if_true, if_false, Bool.false_eq_true]))) (.nil))))) rfl rfl⟩
      · replace c179 : (decide (a162 < (a.length : Int))) = false := c179
        conv => whnf
        exact ⟨rfl, weak_fin _ rfl rfl rfl (LeH.rest) (.cons (.one (.same rfl)) (.cons (.one (.same rfl)) (.cons (.one (.same rfl)) (.cons (.one (.same (show (.v (.bool false) : AV) = (.v (.bool ((decide (a162 < (a.length : Int))) && (decide (a162 < (b.length : Int))))) : AV) from by first | (simp [c179]; done) | simp only [c179, Bool.or_true, Bool.true_or, Bool.false_or, Bool.or_false, Bool.and_true, Bool.true_and, Bool.and_false, Bool.false_and, Bool.not_true, Bool.not_false, if_true, if_false, Bool.false_eq_true]))) (.nil))))) rfl rfl⟩
    · rintro ex S' ⟨rfl, w180⟩
      conv => whnf
      refine Tri.weak w180 ?_
      refine Tri.cond rfl (fun c181 => ?_) (fun c181 => ?_)
      · replace hv := if_t c181 hv
        refine Tri.run (G := gm_ref01_Less) tyOk mixed ?_
        conv => whnf
        refine Tri.seqK ?_
        refine Tri.block ?_
        refine Tri.seqK ?_
        refine Tri.run (G := gm_ref01_Less) tyOk mixed ?_
        conv => whnf
        refine Draw.one 7 (.take 0 (.take 1 (.take 2 (.take 3 (.take 4 (.take 5 (.take 6 (.fin)))))))) [] (by kernel_rfl) ?_
        conv => whnf
        replace hv := bind_some hv
        obtain ⟨x195, q196, hv⟩ := hv
        refine ⟨bs_bound q196, ?_⟩
        conv => whnf
        refine ⟨⟨(x195.toNat : Int), bs_at q196, ?_⟩⟩
        conv => whnf
        replace hv := bind_some hv
        obtain ⟨x197, q198, hv⟩ := hv
        refine ⟨bs_bound q198, ?_⟩
        conv => whnf
        refine ⟨⟨(x197.toNat : Int), bs_at q198, ?_⟩⟩
        conv => whnf
        refine Tri.cond rfl (fun c199 => ?_) (fun c199 => ?_)
        · replace hv := if_t c199 hv
          refine Tri.seqK ?_
          refine Tri.run (G := gm_ref01_Less) tyOk mixed ?_
          conv => whnf
          refine Draw.one 8 (.take 0 (.take 1 (.take 2 (.take 3 (.take 4 (.take 5 (.take 6 (.take 7 (.fin))))))))) [] (by kernel_rfl) ?_
          conv => whnf
          refine ⟨bs_bound q196, ?_⟩
          conv => whnf
          refine ⟨⟨(x195.toNat : Int), bs_at q196, ?_⟩⟩
          conv => whnf
          refine ⟨bs_bound q198, ?_⟩
          conv => whnf
          refine ⟨⟨(x197.toNat : Int), bs_at q198, ?_⟩⟩
          conv => whnf
          refine Tri.run (G := gm_ref01_Less) tyOk mixed ?_
          conv => whnf
          cases hv
          obtain rfl := r169 _ rfl
          exact Or.inl ⟨_, rfl, rfl, weak_fin _ rfl rfl rfl (LeH.rest) (.cons (.one (.same rfl)) (.nil)) rfl rfl⟩
        · replace hv := if_f c199 hv
          refine Tri.run (G := gm_ref01_Less) tyOk mixed ?_
          conv => whnf
          refine Tri.run (G := gm_ref01_Less) tyOk mixed ?_
          conv => whnf
          cases hv
          exact ⟨_, rfl, weak_fin _ rfl rfl rfl (LeH.rest) (.cons (.one (.same rfl)) (.cons (.one (.same rfl)) (.cons (.one (.same rfl)) (.nil)))) rfl rfl⟩
      · replace hv := if_f c181 hv
        refine Tri.run (G := gm_ref01_Less) tyOk mixed ?_
        conv => whnf
        cases hv
        obtain rfl := r169 _ rfl
        exact Or.inr (⟨_, rfl, rfl, weak_fin _ rfl rfl rfl (LeH.rest) (.cons (.one (.same rfl)) (.cons (.one (.same rfl)) (.nil))) rfl rfl⟩)
  · rintro ex S' (⟨v165, rfl, rfl, w200⟩ | ⟨v166, rfl, rfl, w200⟩)
    · dsimp only at h
      conv => whnf
      refine fin_pre w200 ?_
      conv => whnf
      cases h
      rfl
    · dsimp only at h
      conv => whnf
      refine Tri.weak w200 ?_
      refine Tri.seqK ?_
      refine Tri.run (G := gm_ref01_Less) tyOk mixed ?_
      conv => whnf
      refine ⟨⟨(a.length : Int), rfl, ?_⟩⟩
      conv => whnf
      refine ⟨⟨(b.length : Int), rfl, ?_⟩⟩
      conv => whnf
      refine Tri.run (G := gm_ref01_Less) tyOk mixed ?_
      conv => whnf
      refine fin_here ?_
      conv => whnf
      cases h
      rfl
noncomputable def ref09_May (w : Want) : Option (Bool) :=
  (
    if (decide (w.Hi = [])) then
      some true
    else
      (ref01_Less w.Lo w.Hi).bind fun y10 =>
      some y10).bind fun (y7 : Bool) =>
  if y7 then
    if (decide (w.Mode = 1)) then
      some true
    else
      some (decide (w.Mode = 2))
  else
    some false
def gm_ref09_May : Gm := ⟨tys, [], [], []⟩
theorem ref09_May_walk (w : Want) (r : Bool) (h : ref09_May w = some r) : PureP Try.prog 69 [.agg [.v (.int .i64 w.Mode), .v (.string (bs w.Lo)), .v (.string (bs w.Hi))]] (fun a => a = .v (.bool r)) := by
  unfold ref09_May at h
  refine pureW (G := gm_ref09_May) tyOk Try.func69 rfl (by kernel_rfl) (by simp [Try.f69]) ?_
  refine Tri.seqK ?_
  refine Tri.run (G := gm_ref09_May) tyOk mixed ?_
  conv => whnf
  refine Tri.seqK ?_
  replace h := bind_some h
  obtain ⟨y7, q8, h⟩ := h
  refine Tri.cut (fun ex S' => ex = .normal ∧ Weak S' ⟨25, 0, ofRegs [(1, .ptr 0 0), (3, .v (.bool y7))], [.var 44 [.v (.int .i64 w.Mode), .v (.string (bs w.Lo)), .v (.string (bs w.Hi))]]⟩) ?_ ?_
  · refine Tri.run (G := gm_ref09_May) tyOk mixed ?_
    conv => whnf
    refine ⟨⟨(decide (w.Hi = [])), bs_eq _ _, ?_⟩⟩
    conv => whnf
    refine cond_mk (fun c9 => ?_) (fun c9 => ?_)
    · replace q8 := if_t c9 q8
      conv => whnf
      cases q8
      exact ⟨rfl, weak_fin _ rfl rfl rfl (.cons (.same rfl) (LeH.rest)) (.cons (.one (.same rfl)) (.cons (.one (.same rfl)) (.nil))) rfl rfl⟩
    · replace q8 := if_f c9 q8
      conv => whnf
      replace q8 := bind_some q8
      obtain ⟨y10, q11, q8⟩ := q8
      refine PureP.mono (ref01_Less_walk w.Lo w.Hi y10 q11) ?_
      rintro _ rfl
      conv => whnf
      cases q8
      exact ⟨rfl, weak_fin _ rfl rfl rfl (.cons (.same rfl) (LeH.rest)) (.cons (.one (.same rfl)) (.cons (.one (.same rfl)) (.nil))) rfl rfl⟩
  · rintro ex S' ⟨rfl, w12⟩
    conv => whnf
    refine Tri.weak w12 ?_
    refine Tri.seqK ?_
    refine Tri.run (G := gm_ref09_May) tyOk mixed ?_
    conv => whnf
    refine cond_mk (fun c13 => ?_) (fun c13 => ?_)
    · replace h := if_t c13 h
      conv => whnf
      refine cond_mk (fun c14 => ?_) (fun c14 => ?_)
      · replace h := if_t c14 h
        conv => whnf
        refine Tri.run (G := gm_ref09_May) tyOk mixed ?_
        conv => whnf
        refine fin_here ?_
        conv => whnf
        cases h
        rfl
      · replace h := if_f c14 h
        conv => whnf
        refine Tri.run (G := gm_ref09_May) tyOk mixed ?_
        conv => whnf
        refine fin_here ?_
        conv => whnf
        cases h
        rfl
    · replace h := if_f c13 h
      conv => whnf
      refine Tri.run (G := gm_ref09_May) tyOk mixed ?_
      conv => whnf
      refine fin_here ?_
      conv => whnf
      cases h
      rfl
noncomputable def ref10_Waits_l2 (l : Locks) (txn : Int) (a52 : Int) : Option ((Int) ⊕ ((Unit) ⊕ (Unit))) :=
  if (decide (a52 < (l.Queue.length : Int))) then
    (ix l.Queue a52).bind fun x65 =>
    if (decide (x65.Txn = txn)) then
      some (.inr (.inl ()))
    else
      some (.inl (IntKind.i64.wrap (a52 + 1)))
  else
    some (.inr (.inr ()))
noncomputable def ref10_Waits (l : Locks) (txn : Int) : Option (Bool) :=
  (loop (fun (s57 : Int) => ref10_Waits_l2 l txn s57) (0 : Int)).bind fun (y53 : (Unit) ⊕ (Unit)) =>
  match y53 with
  | (.inl v55) =>
    some true
  | (.inr v56) =>
    some false
def gm_ref10_Waits : Gm := ⟨tys, [], [], []⟩
theorem ref10_Waits_walk (l : Locks) (txn : Int) (r : Bool) (h : ref10_Waits l txn = some r) : PureP Try.prog 45 [.agg [.sl (List.map encHold l.Held), .sl (List.map encClaim l.Queue)], .v (.int .i64 txn)] (fun a => a = .v (.bool r)) := by
  unfold ref10_Waits at h
  refine pureW (G := gm_ref10_Waits) tyOk Try.func45 rfl (by kernel_rfl) (by simp [Try.f45]) ?_
  refine Tri.seqK ?_
  refine Tri.run (G := gm_ref10_Waits) tyOk mixed ?_
  conv => whnf
  refine Tri.seqK ?_
  refine Tri.seqK ?_
  refine Tri.run (G := gm_ref10_Waits) tyOk mixed ?_
  conv => whnf
  refine Tri.block ?_
  replace h := bind_some h
  obtain ⟨y53, q54, h⟩ := h
  refine Tri.cut (fun ex S' => (∃ v55 : Unit, y53 = (.inl v55) ∧ ex = .ret ∧ Weak S' ⟨21, 0, ofRegs [(4, .v (.bool true))], []⟩) ∨ (∃ v56 : Unit, y53 = (.inr v56) ∧ ex = (.exit 0) ∧ Weak S' ⟨21, 0, ofRegs [], []⟩)) ?_ ?_
  · refine Tri.loopF (fun (s57 : Int) => (⟨21, 0, ofRegs [(1, .v (.int .i64 txn)), (2, .ptr 0 0), (5, .v (.int .i64 s57))], [.var 25 [.sl (List.map encHold l.Held), .sl (List.map encClaim l.Queue)]]⟩ : St)) q54 (weak_fin _ rfl rfl rfl (.cons (.same rfl) (LeH.rest)) (.cons (.one (.same rfl)) (.cons (.one (.same rfl)) (.cons (.one (.same rfl)) (.nil)))) rfl rfl) ?_
    rintro a52 v58 hv r59
    have hv : ref10_Waits_l2 l txn a52 = some v58 := hv
    unfold ref10_Waits_l2 at hv
    refine Tri.seqK ?_
    refine Tri.seqK ?_
    refine Tri.run (G := gm_ref10_Waits) tyOk mixed ?_
    conv => whnf
    refine ⟨⟨(l.Queue.length : Int), (len_map _ _).symm, ?_⟩⟩
    conv => whnf
    refine Tri.cond rfl (fun c61 => ?_) (fun c61 => ?_)
    · replace hv := if_t c61 hv
      refine Tri.run (G := gm_ref10_Waits) tyOk mixed ?_
      conv => whnf
      refine Tri.seqK ?_
      refine Tri.block ?_
      refine Tri.seqK ?_
      refine Tri.run (G := gm_ref10_Waits) tyOk mixed ?_
      conv => whnf
      replace hv := bind_some hv
      obtain ⟨x65, q66, hv⟩ := hv
      refine ⟨(ix_some q66).1, ?_⟩
      conv => whnf
      refine ⟨⟨_, map_get encClaim (ix_some q66).2, ?_⟩⟩
      conv => whnf
      refine ⟨rfl, ?_⟩
      conv => whnf
      refine Tri.cond rfl (fun c67 => ?_) (fun c67 => ?_)
      · replace hv := if_t c67 hv
        refine Tri.seqK ?_
        refine Tri.run (G := gm_ref10_Waits) tyOk mixed ?_
        conv => whnf
        refine Tri.run (G := gm_ref10_Waits) tyOk mixed ?_
        conv => whnf
        cases hv
        obtain rfl := r59 _ rfl
        exact Or.inl ⟨_, rfl, rfl, weak_fin _ rfl rfl rfl (LeH.rest) (.cons (.one (.same rfl)) (.nil)) rfl rfl⟩
      · replace hv := if_f c67 hv
        refine Tri.run (G := gm_ref10_Waits) tyOk mixed ?_
        conv => whnf
        refine Tri.run (G := gm_ref10_Waits) tyOk mixed ?_
        conv => whnf
        cases hv
        exact ⟨_, rfl, weak_fin _ rfl rfl rfl (.cons (.same rfl) (LeH.rest)) (.cons (.one (.same rfl)) (.cons (.one (.same rfl)) (.cons (.one (.same rfl)) (.nil)))) rfl rfl⟩
    · replace hv := if_f c61 hv
      refine Tri.run (G := gm_ref10_Waits) tyOk mixed ?_
      conv => whnf
      cases hv
      obtain rfl := r59 _ rfl
      exact Or.inr (⟨_, rfl, rfl, weak_fin _ rfl rfl rfl (LeH.rest) (.nil) rfl rfl⟩)
  · rintro ex S' (⟨v55, rfl, rfl, w68⟩ | ⟨v56, rfl, rfl, w68⟩)
    · dsimp only at h
      conv => whnf
      refine fin_pre w68 ?_
      conv => whnf
      cases h
      rfl
    · dsimp only at h
      conv => whnf
      refine Tri.weak w68 ?_
      refine Tri.seqK ?_
      refine Tri.run (G := gm_ref10_Waits) tyOk mixed ?_
      conv => whnf
      refine Tri.run (G := gm_ref10_Waits) tyOk mixed ?_
      conv => whnf
      refine fin_here ?_
      conv => whnf
      cases h
      rfl
noncomputable def ref09_In (w : Want) (key : Str) : Option (Bool) :=
  (ref01_Less key w.Lo).bind fun y1 =>
  if (!y1) then
    if (decide (w.Hi = [])) then
      some true
    else
      (ref01_Less key w.Hi).bind fun y5 =>
      some y5
  else
    some false
def gm_ref09_In : Gm := ⟨tys, [], [], []⟩
theorem ref09_In_walk (w : Want) (key : Str) (r : Bool) (h : ref09_In w key = some r) : PureP Try.prog 70 [.agg [.v (.int .i64 w.Mode), .v (.string (bs w.Lo)), .v (.string (bs w.Hi))], .v (.string (bs key))] (fun a => a = .v (.bool r)) := by
  unfold ref09_In at h
  refine pureW (G := gm_ref09_In) tyOk Try.func70 rfl (by kernel_rfl) (by simp [Try.f70]) ?_
  refine Tri.seqK ?_
  refine Tri.run (G := gm_ref09_In) tyOk mixed ?_
  conv => whnf
  refine Tri.seqK ?_
  refine Tri.run (G := gm_ref09_In) tyOk mixed ?_
  conv => whnf
  replace h := bind_some h
  obtain ⟨y1, q2, h⟩ := h
  refine PureP.mono (ref01_Less_walk key w.Lo y1 q2) ?_
  rintro _ rfl
  conv => whnf
  refine Tri.seqK ?_
  refine Tri.run (G := gm_ref09_In) tyOk mixed ?_
  conv => whnf
  refine cond_mk (fun c3 => ?_) (fun c3 => ?_)
  · replace h := if_t c3 h
    conv => whnf
    refine ⟨⟨(decide (w.Hi = [])), bs_eq _ _, ?_⟩⟩
    conv => whnf
    refine cond_mk (fun c4 => ?_) (fun c4 => ?_)
    · replace h := if_t c4 h
      conv => whnf
      refine Tri.run (G := gm_ref09_In) tyOk mixed ?_
      conv => whnf
      refine fin_here ?_
      conv => whnf
      cases h
      rfl
    · replace h := if_f c4 h
      conv => whnf
      replace h := bind_some h
      obtain ⟨y5, q6, h⟩ := h
      refine PureP.mono (ref01_Less_walk key w.Hi y5 q6) ?_
      rintro _ rfl
      conv => whnf
      refine Tri.run (G := gm_ref09_In) tyOk mixed ?_
      conv => whnf
      refine fin_here ?_
      conv => whnf
      cases h
      rfl
  · replace h := if_f c3 h
    conv => whnf
    refine Tri.run (G := gm_ref09_In) tyOk mixed ?_
    conv => whnf
    refine fin_here ?_
    conv => whnf
    cases h
    rfl
noncomputable def ref09_Covers (a : Want) (b : Want) : Option (Bool) :=
  (ref09_May b).bind fun y1 =>
  if ((!y1) || ((!(decide (a.Mode = 2))) && (decide (b.Mode = 2)))) then
    some false
  else
    (ref09_In a b.Lo).bind fun y23 =>
    if (!y23) then
      some false
    else
      if (decide (a.Hi = [])) then
        some true
      else
        (ref01_Less a.Hi b.Hi).bind fun y29 =>
        if (!decide (b.Hi = [])) then
          some (!y29)
        else
          some false
def gm_ref09_Covers : Gm := ⟨tys, [], [], []⟩
theorem ref09_Covers_walk (a : Want) (b : Want) (r : Bool) (h : ref09_Covers a b = some r) : PureP Try.prog 38 [.agg [.v (.int .i64 a.Mode), .v (.string (bs a.Lo)), .v (.string (bs a.Hi))], .agg [.v (.int .i64 b.Mode), .v (.string (bs b.Lo)), .v (.string (bs b.Hi))]] (fun a => a = .v (.bool r)) := by
  unfold ref09_Covers at h
  refine pureW (G := gm_ref09_Covers) tyOk Try.func38 rfl (by kernel_rfl) (by simp [Try.f38]) ?_
  refine Tri.seqK ?_
  refine Tri.run (G := gm_ref09_Covers) tyOk mixed ?_
  conv => whnf
  refine Tri.seqK ?_
  refine Tri.run (G := gm_ref09_Covers) tyOk mixed ?_
  conv => whnf
  replace h := bind_some h
  obtain ⟨y1, q2, h⟩ := h
  refine PureP.mono (ref09_May_walk b y1 q2) ?_
  rintro _ rfl
  conv => whnf
  refine Tri.seqK ?_
  refine Tri.seqK ?_
  refine Tri.cut (fun ex S' => ex = .normal ∧ Weak S' ⟨43, 0, ofRegs [(2, .ptr 0 0), (3, .ptr 1 0), (21, .v (.bool ((!y1) || ((!(decide (a.Mode = 2))) && (decide (b.Mode = 2))))))], [.var 44 [.v (.int .i64 a.Mode), .v (.string (bs a.Lo)), .v (.string (bs a.Hi))], .var 44 [.v (.int .i64 b.Mode), .v (.string (bs b.Lo)), .v (.string (bs b.Hi))]]⟩) ?_ ?_
  · refine Tri.run (G := gm_ref09_Covers) tyOk mixed ?_
    conv => whnf
    refine cond_mk (fun c19 => ?_) (fun c19 => ?_)
    · replace c19 : (!y1) = true := c19
      conv => whnf
      exact ⟨rfl, weak_fin _ rfl rfl rfl (.cons (.same rfl) (.cons (.same rfl) (LeH.rest))) (.cons (.one (.same rfl)) (.cons (.one (.same rfl)) (.cons (.one (.same (show (.v (.bool true) : AV) = (.v (.bool ((!y1) || ((!(decide (a.Mode = 2))) && (decide (b.Mode = 2))))) : AV) from by first | (simp [c19]; done) | simp only [c19, Bool.or_true, Bool.true_or, Bool.false_or, Bool.or_false, Bool.and_true, Bool.true_and, Bool.and_false, Bool.false_and, Bool.not_true, Bool.not_false, if_true, if_false, Bool.false_eq_true]))) (.nil)))) rfl rfl⟩
    · replace c19 : (!y1) = false := c19
      conv => whnf
      refine cond_mk (fun c20 => ?_) (fun c20 => ?_)
      · replace c20 : (!(decide (a.Mode = 2))) = true := c20
        conv => whnf
        exact ⟨rfl, weak_fin _ rfl rfl rfl (.cons (.same rfl) (.cons (.same rfl) (LeH.rest))) (.cons (.one (.same rfl)) (.cons (.one (.same rfl)) (.cons (.one (.same (show (.v (.bool (decide (b.Mode = 2))) : AV) = (.v (.bool ((!y1) || ((!(decide (a.Mode = 2))) && (decide (b.Mode = 2))))) : AV) from by first | (simp [c19, c20]; done) | simp only [c19, c20, Bool.or_true, Bool.true_or, Bool.false_or, Bool.or_false, Bool.and_true, Bool.true_and, Bool.and_false, Bool.false_and, Bool.not_true, Bool.not_false, if_true, if_false, Bool.false_eq_true]))) (.nil)))) rfl rfl⟩
      · replace c20 : (!(decide (a.Mode = 2))) = false := c20
        conv => whnf
        exact ⟨rfl, weak_fin _ rfl rfl rfl (.cons (.same rfl) (.cons (.same rfl) (LeH.rest))) (.cons (.one (.same rfl)) (.cons (.one (.same rfl)) (.cons (.one (.same (show (.v (.bool false) : AV) = (.v (.bool ((!y1) || ((!(decide (a.Mode = 2))) && (decide (b.Mode = 2))))) : AV) from by first | (simp [c19, c20]; done) | simp only [c19, c20, Bool.or_true, Bool.true_or, Bool.false_or, Bool.or_false, Bool.and_true, Bool.true_and, Bool.and_false, Bool.false_and, Bool.not_true, Bool.not_false, if_true, if_false, Bool.false_eq_true]))) (.nil)))) rfl rfl⟩
  · rintro ex S' ⟨rfl, w21⟩
    conv => whnf
    refine Tri.weak w21 ?_
    refine Tri.cond rfl (fun c22 => ?_) (fun c22 => ?_)
    · replace h := if_t c22 h
      refine Tri.seqK ?_
      refine Tri.run (G := gm_ref09_Covers) tyOk mixed ?_
      conv => whnf
      refine Tri.run (G := gm_ref09_Covers) tyOk mixed ?_
      conv => whnf
      refine fin_here ?_
      conv => whnf
      cases h
      rfl
    · replace h := if_f c22 h
      refine Tri.run (G := gm_ref09_Covers) tyOk mixed ?_
      conv => whnf
      refine Tri.seqK ?_
      refine Tri.run (G := gm_ref09_Covers) tyOk mixed ?_
      conv => whnf
      replace h := bind_some h
      obtain ⟨y23, q24, h⟩ := h
      refine PureP.mono (ref09_In_walk a b.Lo y23 q24) ?_
      rintro _ rfl
      conv => whnf
      refine Tri.seqK ?_
      refine Tri.seqK ?_
      refine Tri.run (G := gm_ref09_Covers) tyOk mixed ?_
      conv => whnf
      refine Tri.cond rfl (fun c26 => ?_) (fun c26 => ?_)
      · replace h := if_t c26 h
        refine Tri.seqK ?_
        refine Tri.run (G := gm_ref09_Covers) tyOk mixed ?_
        conv => whnf
        refine Tri.run (G := gm_ref09_Covers) tyOk mixed ?_
        conv => whnf
        refine fin_here ?_
        conv => whnf
        cases h
        rfl
      · replace h := if_f c26 h
        refine Tri.run (G := gm_ref09_Covers) tyOk mixed ?_
        conv => whnf
        refine Tri.seqK ?_
        refine Tri.seqK ?_
        refine Tri.run (G := gm_ref09_Covers) tyOk mixed ?_
        conv => whnf
        refine ⟨⟨(decide (a.Hi = [])), bs_eq _ _, ?_⟩⟩
        conv => whnf
        refine Tri.cond rfl (fun c28 => ?_) (fun c28 => ?_)
        · replace h := if_t c28 h
          refine Tri.seqK ?_
          refine Tri.run (G := gm_ref09_Covers) tyOk mixed ?_
          conv => whnf
          refine Tri.run (G := gm_ref09_Covers) tyOk mixed ?_
          conv => whnf
          refine fin_here ?_
          conv => whnf
          cases h
          rfl
        · replace h := if_f c28 h
          refine Tri.run (G := gm_ref09_Covers) tyOk mixed ?_
          conv => whnf
          refine Tri.seqK ?_
          refine Tri.run (G := gm_ref09_Covers) tyOk mixed ?_
          conv => whnf
          replace h := bind_some h
          obtain ⟨y29, q30, h⟩ := h
          refine PureP.mono (ref01_Less_walk a.Hi b.Hi y29 q30) ?_
          rintro _ rfl
          conv => whnf
          refine Tri.seqK ?_
          refine Tri.run (G := gm_ref09_Covers) tyOk mixed ?_
          conv => whnf
          refine ⟨⟨(!decide (b.Hi = [])), bs_ne _ _, ?_⟩⟩
          conv => whnf
          refine cond_mk (fun c31 => ?_) (fun c31 => ?_)
          · replace h := if_t c31 h
            conv => whnf
            refine Tri.run (G := gm_ref09_Covers) tyOk mixed ?_
            conv => whnf
            refine fin_here ?_
            conv => whnf
            cases h
            rfl
          · replace h := if_f c31 h
            conv => whnf
            refine Tri.run (G := gm_ref09_Covers) tyOk mixed ?_
            conv => whnf
            refine fin_here ?_
            conv => whnf
            cases h
            rfl
noncomputable def ref09_Overlap (a : Want) (b : Want) : Option (Bool) :=
  (ref01_Less a.Lo b.Lo).bind fun y1 =>
  (ref09_In a (if y1 then b.Lo else a.Lo)).bind fun y8 =>
  if y8 then
    (ref09_In b (if y1 then b.Lo else a.Lo)).bind fun y11 =>
    some y11
  else
    some false
def gm_ref09_Overlap : Gm := ⟨tys, [], [], []⟩
theorem ref09_Overlap_walk (a : Want) (b : Want) (r : Bool) (h : ref09_Overlap a b = some r) : PureP Try.prog 65 [.agg [.v (.int .i64 a.Mode), .v (.string (bs a.Lo)), .v (.string (bs a.Hi))], .agg [.v (.int .i64 b.Mode), .v (.string (bs b.Lo)), .v (.string (bs b.Hi))]] (fun a => a = .v (.bool r)) := by
  unfold ref09_Overlap at h
  refine pureW (G := gm_ref09_Overlap) tyOk Try.func65 rfl (by kernel_rfl) (by simp [Try.f65]) ?_
  refine Tri.seqK ?_
  refine Tri.run (G := gm_ref09_Overlap) tyOk mixed ?_
  conv => whnf
  refine Tri.seqK ?_
  refine Tri.run (G := gm_ref09_Overlap) tyOk mixed ?_
  conv => whnf
  refine Tri.seqK ?_
  refine Tri.run (G := gm_ref09_Overlap) tyOk mixed ?_
  conv => whnf
  replace h := bind_some h
  obtain ⟨y1, q2, h⟩ := h
  refine PureP.mono (ref01_Less_walk a.Lo b.Lo y1 q2) ?_
  rintro _ rfl
  conv => whnf
  refine Tri.seqK ?_
  refine Tri.cut (fun ex S' => ex = .normal ∧ Weak S' ⟨27, 0, ofRegs [(2, .ptr 0 0), (3, .ptr 1 0), (5, .v (.string (bs (if y1 then b.Lo else a.Lo))))], [.var 44 [.v (.int .i64 a.Mode), .v (.string (bs a.Lo)), .v (.string (bs a.Hi))], .var 44 [.v (.int .i64 b.Mode), .v (.string (bs b.Lo)), .v (.string (bs b.Hi))]]⟩) ?_ ?_
  · refine Tri.seqK ?_
    refine Tri.run (G := gm_ref09_Overlap) tyOk mixed ?_
    conv => whnf
    refine Tri.cond rfl (fun c6 => ?_) (fun c6 => ?_)
    · replace c6 : y1 = true := c6
      refine Tri.run (G := gm_ref09_Overlap) tyOk mixed ?_
      conv => whnf
      exact ⟨rfl, weak_fin _ rfl rfl rfl (.cons (.same rfl) (.cons (.same rfl) (LeH.rest))) (.cons (.one (.same rfl)) (.cons (.one (.same rfl)) (.cons (.one (.same (show (.v (.string (bs b.Lo)) : AV) = (.v (.string (bs (if y1 then b.Lo else a.Lo))) : AV) from by first | (simp [c6]; done) | simp only [c6, Bool.or_true, Bool.true_or, Bool.false_or, Bool.or_false, Bool.and_true, Bool.true_and, Bool.and_false, Bool.false_and, Bool.not_true, Bool.not_false, if_true, if_false, Bool.false_eq_true]))) (.nil)))) rfl rfl⟩
    · replace c6 : y1 = false := c6
      refine Tri.run (G := gm_ref09_Overlap) tyOk mixed ?_
      conv => whnf
      exact ⟨rfl, weak_fin _ rfl rfl rfl (.cons (.same rfl) (.cons (.same rfl) (LeH.rest))) (.cons (.one (.same rfl)) (.cons (.one (.same rfl)) (.cons (.one (.same (show (.v (.string (bs a.Lo)) : AV) = (.v (.string (bs (if y1 then b.Lo else a.Lo))) : AV) from by first | (simp [c6]; done) | simp only [c6, Bool.or_true, Bool.true_or, Bool.false_or, Bool.or_false, Bool.and_true, Bool.true_and, Bool.and_false, Bool.false_and, Bool.not_true, Bool.not_false, if_true, if_false, Bool.false_eq_true]))) (.nil)))) rfl rfl⟩
  · rintro ex S' ⟨rfl, w7⟩
    conv => whnf
    refine Tri.weak w7 ?_
    refine Tri.seqK ?_
    refine Tri.run (G := gm_ref09_Overlap) tyOk mixed ?_
    conv => whnf
    replace h := bind_some h
    obtain ⟨y8, q9, h⟩ := h
    refine PureP.mono (ref09_In_walk a (if y1 then b.Lo else a.Lo) y8 q9) ?_
    rintro _ rfl
    conv => whnf
    refine Tri.seqK ?_
    refine Tri.run (G := gm_ref09_Overlap) tyOk mixed ?_
    conv => whnf
    refine cond_mk (fun c10 => ?_) (fun c10 => ?_)
    · replace h := if_t c10 h
      conv => whnf
      replace h := bind_some h
      obtain ⟨y11, q12, h⟩ := h
      refine PureP.mono (ref09_In_walk b (if y1 then b.Lo else a.Lo) y11 q12) ?_
      rintro _ rfl
      conv => whnf
      refine Tri.run (G := gm_ref09_Overlap) tyOk mixed ?_
      conv => whnf
      refine fin_here ?_
      conv => whnf
      cases h
      rfl
    · replace h := if_f c10 h
      conv => whnf
      refine Tri.run (G := gm_ref09_Overlap) tyOk mixed ?_
      conv => whnf
      refine fin_here ?_
      conv => whnf
      cases h
      rfl
noncomputable def ref09_Clash (a : Want) (b : Want) : Option (Bool) :=
  (ref09_Overlap a b).bind fun y1 =>
  if y1 then
    if (decide (a.Mode = 2)) then
      some true
    else
      some (decide (b.Mode = 2))
  else
    some false
def gm_ref09_Clash : Gm := ⟨tys, [], [], []⟩
theorem ref09_Clash_walk (a : Want) (b : Want) (r : Bool) (h : ref09_Clash a b = some r) : PureP Try.prog 35 [.agg [.v (.int .i64 a.Mode), .v (.string (bs a.Lo)), .v (.string (bs a.Hi))], .agg [.v (.int .i64 b.Mode), .v (.string (bs b.Lo)), .v (.string (bs b.Hi))]] (fun a => a = .v (.bool r)) := by
  unfold ref09_Clash at h
  refine pureW (G := gm_ref09_Clash) tyOk Try.func35 rfl (by kernel_rfl) (by simp [Try.f35]) ?_
  refine Tri.seqK ?_
  refine Tri.run (G := gm_ref09_Clash) tyOk mixed ?_
  conv => whnf
  refine Tri.seqK ?_
  refine Tri.run (G := gm_ref09_Clash) tyOk mixed ?_
  conv => whnf
  replace h := bind_some h
  obtain ⟨y1, q2, h⟩ := h
  refine PureP.mono (ref09_Overlap_walk a b y1 q2) ?_
  rintro _ rfl
  conv => whnf
  refine Tri.seqK ?_
  refine Tri.run (G := gm_ref09_Clash) tyOk mixed ?_
  conv => whnf
  refine cond_mk (fun c3 => ?_) (fun c3 => ?_)
  · replace h := if_t c3 h
    conv => whnf
    refine cond_mk (fun c4 => ?_) (fun c4 => ?_)
    · replace h := if_t c4 h
      conv => whnf
      refine Tri.run (G := gm_ref09_Clash) tyOk mixed ?_
      conv => whnf
      refine fin_here ?_
      conv => whnf
      cases h
      rfl
    · replace h := if_f c4 h
      conv => whnf
      refine Tri.run (G := gm_ref09_Clash) tyOk mixed ?_
      conv => whnf
      refine fin_here ?_
      conv => whnf
      cases h
      rfl
  · replace h := if_f c3 h
    conv => whnf
    refine Tri.run (G := gm_ref09_Clash) tyOk mixed ?_
    conv => whnf
    refine fin_here ?_
    conv => whnf
    cases h
    rfl
end Go.Ab
