/- The program's functions as plain Lean functions, and that the program comes to what they come to. Printed by a program of this session. -/
import Derived.Test.YtdoceelfokmhfaaW3
import Derived.Test.YtdoceelfokmhfaaSh
namespace Go.Ab
open Go.Proofs
set_option linter.unusedVariables false
set_option linter.unusedSimpArgs false
set_option maxRecDepth 100000
set_option maxHeartbeats 4000000
noncomputable def slices_DeleteFunc_int__ring_Ring_1_l4 (v : Locks) (v2 : Int) (a338 : Int) (a339 : Int) (a340 : (List Int)) : Option ((Int × Int × (List Int)) ⊕ (Int × (List Int))) :=
  if (decide (a339 < (a340.length : Int))) then
    (
      (ix a340 a339).bind fun x364 =>
      (ring_Ring_1 x364 v v2).bind fun y366 =>
      if (!y366) then
        (ix a340 a338).bind fun x369 =>
        some ((IntKind.i64.wrap (a338 + 1)), (List.set a340 (a338).toNat x364))
      else
        some (a338, a340)).bind fun (y362 : Int × (List Int)) =>
    some (.inl (y362.1, (IntKind.i64.wrap (a339 + 1)), y362.2))
  else
    some (.inr (a338, a340))
noncomputable def slices_DeleteFunc_int__ring_Ring_1 (l : (List Int)) (v : Locks) (v2 : Int) : Option ((List Int)) :=
  (slices_IndexFunc_int__ring_Ring_1 l v v2).bind fun y189 =>
  if (decide (y189 = (-1))) then
    some l
  else
    (loop (fun (s343 : Int × Int × (List Int)) => slices_DeleteFunc_int__ring_Ring_1_l4 v v2 s343.1 s343.2.1 s343.2.2) (y189, (IntKind.i64.wrap (y189 + 1)), l)).bind fun (y341 : Int × (List Int)) =>
    need (0 < y341.2.length) <|
    need (0 ≤ y341.1 ∧ y341.1 ≤ (y341.2.length : Int) ∧ (y341.2.length : Int) ≤ (y341.2.length : Int)) <|
    need (0 < (List.take ((y341.1).toNat) y341.2 ++ List.replicate (((((List.map (encI .i64) y341.2).length : Nat) : Int).toNat) - ((y341.1).toNat)) (0 : Int) ++ List.drop ((((List.map (encI .i64) y341.2).length : Nat) : Int).toNat) y341.2).length) <|
    need (0 ≤ (0 : Int) ∧ 0 ≤ y341.1 ∧ y341.1 ≤ ((List.take ((y341.1).toNat) y341.2 ++ List.replicate (((((List.map (encI .i64) y341.2).length : Nat) : Int).toNat) - ((y341.1).toNat)) (0 : Int) ++ List.drop ((((List.map (encI .i64) y341.2).length : Nat) : Int).toNat) y341.2).length : Int)) <|
    some (List.drop ((0 : Int).toNat) (List.take ((y341.1).toNat) (List.take ((y341.1).toNat) y341.2 ++ List.replicate (((((List.map (encI .i64) y341.2).length : Nat) : Int).toNat) - ((y341.1).toNat)) (0 : Int) ++ List.drop ((((List.map (encI .i64) y341.2).length : Nat) : Int).toNat) y341.2)))
def gm_slices_DeleteFunc_int__ring_Ring_1 : Gm := ⟨tys, [56, 84], [], []⟩
theorem slices_DeleteFunc_int__ring_Ring_1_walk (l : (List Int)) (v : Locks) (v2 : Int) (r : (List Int)) (h : slices_DeleteFunc_int__ring_Ring_1 l v v2 = some r) : CallP Try.prog 55 [.row 3 1 (List.map (encI .i64) l), .var 25 [.sl (List.map encHold v.Held), .sl (List.map encClaim v.Queue)], .var 3 [.v (.int .i64 v2)]] [.row 0 ((List.map (encI .i64) l).length), .fn (.func 56) [] [.ptr 1 0, .ptr 2 0]] (fun a H' => a = .sl (List.map (encI .i64) r) ∧ H'.take ([.gone, .var 25 [.sl (List.map encHold v.Held), .sl (List.map encClaim v.Queue)], .var 3 [.v (.int .i64 v2)]] : List Ob).length = [.gone, .var 25 [.sl (List.map encHold v.Held), .sl (List.map encClaim v.Queue)], .var 3 [.v (.int .i64 v2)]]) := by
  unfold slices_DeleteFunc_int__ring_Ring_1 at h
  refine callW (G := gm_slices_DeleteFunc_int__ring_Ring_1) tyOk Try.func55 rfl (by kernel_rfl) (by simp [Try.f55]) ?_
  refine Tri.seqK ?_
  refine Tri.run (G := gm_slices_DeleteFunc_int__ring_Ring_1) tyOk mixed ?_
  conv => whnf
  refine Tri.seqK ?_
  refine Tri.run (G := gm_slices_DeleteFunc_int__ring_Ring_1) tyOk mixed ?_
  conv => whnf
  replace h := bind_some h
  obtain ⟨y189, q190, h⟩ := h
  refine CallP.use (slices_IndexFunc_int__ring_Ring_1_walk l v v2 y189 q190) [0, 1, 2] rfl rfl rfl rfl rfl rfl rfl rfl rfl ?_
  conv => whnf
  refine Tri.seqK ?_
  refine Tri.seqK ?_
  refine Tri.run (G := gm_slices_DeleteFunc_int__ring_Ring_1) tyOk mixed ?_
  conv => whnf
  refine Tri.cond rfl (fun c192 => ?_) (fun c192 => ?_)
  · replace h := if_t c192 h
    refine Tri.seqK ?_
    refine Tri.run (G := gm_slices_DeleteFunc_int__ring_Ring_1) tyOk mixed ?_
    conv => whnf
    refine Tri.run (G := gm_slices_DeleteFunc_int__ring_Ring_1) tyOk mixed ?_
    conv => whnf
    refine fin_pre (S' := ⟨42, 3, ofRegs [(4, .sl (List.map (encI .i64) l))], [.gone, .var 25 [.sl (List.map encHold v.Held), .sl (List.map encClaim v.Queue)], .var 3 [.v (.int .i64 v2)]]⟩) (Weak.trans (weak_freeze 0 rfl) (weak_fin _ rfl rfl rfl (.cons (.gone) (.cons (.same rfl) (.cons (.same rfl) (LeH.rest)))) (.cons (.one (.frz rfl (rfl))) (.nil)) rfl rfl)) ?_
    conv => whnf
    cases h
    exact ⟨rfl, rfl⟩
  · replace h := if_f c192 h
    refine Tri.run (G := gm_slices_DeleteFunc_int__ring_Ring_1) tyOk mixed ?_
    conv => whnf
    refine Tri.seqK ?_
    refine Tri.seqK ?_
    refine Tri.run (G := gm_slices_DeleteFunc_int__ring_Ring_1) tyOk mixed ?_
    conv => whnf
    refine Tri.block ?_
    replace h := bind_some h
    obtain ⟨y341, q342, h⟩ := h
    refine Tri.cut (fun ex S' => ex = (.exit 0) ∧ Weak S' ⟨42, 3, ofRegs [(0, .row 0 ((List.map (encI .i64) y341.2).length)), (5, .v (.int .i64 y341.1))], [.row 3 1 (List.map (encI .i64) y341.2), .var 25 [.sl (List.map encHold v.Held), .sl (List.map encClaim v.Queue)], .var 3 [.v (.int .i64 v2)]]⟩) ?_ ?_
    · refine Tri.loopF (fun (s343 : Int × Int × (List Int)) => (⟨42, 3, ofRegs [(0, .row 0 ((List.map (encI .i64) s343.2.2).length)), (1, .fn (.func 56) [] [.ptr 1 0, .ptr 2 0]), (5, .v (.int .i64 s343.1)), (6, .v (.int .i64 s343.2.1))], [.row 3 1 (List.map (encI .i64) s343.2.2), .var 25 [.sl (List.map encHold v.Held), .sl (List.map encClaim v.Queue)], .var 3 [.v (.int .i64 v2)]]⟩ : St)) q342 (weak_fin _ rfl rfl rfl (.cons (.same rfl) (.cons (.same rfl) (.cons (.same rfl) (LeH.rest)))) (.cons (.one (.same rfl)) (.cons (.one (.same rfl)) (.cons (.one (.same rfl)) (.cons (.one (.same rfl)) (.nil))))) rfl rfl) ?_
      rintro ⟨a338, a339, a340⟩ v344 hv r345
      have hv : slices_DeleteFunc_int__ring_Ring_1_l4 v v2 a338 a339 a340 = some v344 := hv
      unfold slices_DeleteFunc_int__ring_Ring_1_l4 at hv
      dsimp only
      refine Tri.seqK ?_
      refine Tri.seqK ?_
      refine Tri.run (G := gm_slices_DeleteFunc_int__ring_Ring_1) tyOk mixed ?_
      conv => whnf
      refine ⟨rfl, ?_⟩
      conv => whnf
      refine ⟨⟨(a340.length : Int), by simp, ?_⟩⟩
      conv => whnf
      refine Tri.cond rfl (fun c347 => ?_) (fun c347 => ?_)
      · replace hv := if_t c347 hv
        refine Tri.run (G := gm_slices_DeleteFunc_int__ring_Ring_1) tyOk mixed ?_
        conv => whnf
        refine Tri.seqK ?_
        replace hv := bind_some hv
        obtain ⟨y362, q363, hv⟩ := hv
        refine Tri.cut (fun ex S' => ex = .normal ∧ Weak S' ⟨42, 3, ofRegs [(0, .row 0 ((List.map (encI .i64) y362.2).length)), (1, .fn (.func 56) [] [.ptr 1 0, .ptr 2 0]), (5, .v (.int .i64 y362.1)), (6, .v (.int .i64 a339))], [.row 3 1 (List.map (encI .i64) y362.2), .var 25 [.sl (List.map encHold v.Held), .sl (List.map encClaim v.Queue)], .var 3 [.v (.int .i64 v2)]]⟩) ?_ ?_
        · refine Tri.block ?_
          refine Tri.seqK ?_
          refine Tri.run (G := gm_slices_DeleteFunc_int__ring_Ring_1) tyOk mixed ?_
          conv => whnf
          replace q363 := bind_some q363
          obtain ⟨x364, q365, q363⟩ := q363
          refine ⟨⟨rfl, (ix_lt q365).1, by have := ix_lt q365; simp only [List.length_map, List.length_set, List.length_cons, List.length_nil] at *; omega⟩, ?_⟩
          conv => whnf
          refine ⟨rfl, ?_⟩
          conv => whnf
          refine ⟨⟨_, map_get (encI .i64) (ix_some q365).2, ?_⟩⟩
          conv => whnf
          refine Tri.seqK ?_
          refine Tri.run (G := gm_slices_DeleteFunc_int__ring_Ring_1) tyOk mixed ?_
          conv => whnf
          replace q363 := bind_some q363
          obtain ⟨y366, q367, q363⟩ := q363
          refine CallP.use (ring_Ring_1_walk x364 v v2 y366 q367) [1, 2] rfl rfl rfl rfl rfl rfl rfl rfl rfl ?_
          conv => whnf
          refine Tri.cond rfl (fun c368 => ?_) (fun c368 => ?_)
          · replace q363 := if_t c368 q363
            refine Tri.seqK ?_
            refine Tri.run (G := gm_slices_DeleteFunc_int__ring_Ring_1) tyOk mixed ?_
            conv => whnf
            replace q363 := bind_some q363
            obtain ⟨x369, q370, q363⟩ := q363
            refine ⟨⟨rfl, (ix_lt q370).1, by have := ix_lt q370; simp only [List.length_map, List.length_set, List.length_cons, List.length_nil] at *; omega⟩, ?_⟩
            conv => whnf
            refine ⟨rfl, ?_⟩
            conv => whnf
            refine ⟨⟨_, map_get (encI .i64) (ix_some q370).2, ?_⟩⟩
            conv => whnf
            refine ⟨Nat.le_of_ble_eq_true rfl, ?_⟩
            conv => whnf
            refine ⟨⟨List.map (encI .i64) (List.set a340 (a338).toNat x364), map_set (encI .i64) _ _ _ rfl, ?_⟩⟩
            conv => whnf
            refine Tri.run (G := gm_slices_DeleteFunc_int__ring_Ring_1) tyOk mixed ?_
            conv => whnf
            cases q363
            exact ⟨rfl, weak_fin _ rfl rfl rfl (.cons (.same rfl) (.cons (.same rfl) (.cons (.same rfl) (LeH.rest)))) (.cons (.one (.same (show (.row 0 ((List.map (encI .i64) a340).length) : AV) = (.row 0 ((List.map (encI .i64) (List.set a340 (a338).toNat x364)).length) : AV) from congrArg (AV.row 0) (by simp)))) (.cons (.one (.same rfl)) (.cons (.one (.same rfl)) (.cons (.one (.same rfl)) (.nil))))) rfl rfl⟩
          · replace q363 := if_f c368 q363
            refine Tri.run (G := gm_slices_DeleteFunc_int__ring_Ring_1) tyOk mixed ?_
            conv => whnf
            cases q363
            exact ⟨rfl, weak_fin _ rfl rfl rfl (.cons (.same rfl) (.cons (.same rfl) (.cons (.same rfl) (LeH.rest)))) (.cons (.one (.same rfl)) (.cons (.one (.same rfl)) (.cons (.one (.same rfl)) (.cons (.one (.same rfl)) (.nil))))) rfl rfl⟩
        · rintro ex S' ⟨rfl, w371⟩
          conv => whnf
          refine Tri.weak w371 ?_
          refine Tri.run (G := gm_slices_DeleteFunc_int__ring_Ring_1) tyOk mixed ?_
          conv => whnf
          cases hv
          exact ⟨_, rfl, weak_fin _ rfl rfl rfl (.cons (.same rfl) (.cons (.same rfl) (.cons (.same rfl) (LeH.rest)))) (.cons (.one (.same rfl)) (.cons (.one (.same rfl)) (.cons (.one (.same rfl)) (.cons (.one (.same rfl)) (.nil))))) rfl rfl⟩
      · replace hv := if_f c347 hv
        refine Tri.run (G := gm_slices_DeleteFunc_int__ring_Ring_1) tyOk mixed ?_
        conv => whnf
        cases hv
        obtain rfl := r345 _ rfl
        exact ⟨rfl, weak_fin _ rfl rfl rfl (.cons (.same rfl) (.cons (.same rfl) (.cons (.same rfl) (LeH.rest)))) (.cons (.one (.same rfl)) (.cons (.one (.same rfl)) (.nil))) rfl rfl⟩
    · rintro ex S' ⟨rfl, w372⟩
      conv => whnf
      refine Tri.weak w372 ?_
      refine Tri.seqK ?_
      refine Tri.run (G := gm_slices_DeleteFunc_int__ring_Ring_1) tyOk mixed ?_
      conv => whnf
      replace h := need_some h
      obtain ⟨p373, h⟩ := h
      refine ⟨⟨rfl, by have := p373; simp only [List.length_map, List.length_append, List.length_take, List.length_drop, List.length_replicate, List.length_set] at *; omega⟩, ?_⟩
      conv => whnf
      replace h := need_some h
      obtain ⟨p374, h⟩ := h
      refine ⟨by have := p374; simp only [List.length_map, List.length_append, List.length_take, List.length_drop, List.length_replicate, List.length_set] at *; omega, ?_⟩
      conv => whnf
      refine ⟨rfl, ?_⟩
      conv => whnf
      refine ⟨⟨List.map (encI .i64) (List.take ((y341.1).toNat) y341.2 ++ List.replicate (((((List.map (encI .i64) y341.2).length : Nat) : Int).toNat) - ((y341.1).toNat)) (0 : Int) ++ List.drop ((((List.map (encI .i64) y341.2).length : Nat) : Int).toNat) y341.2), by rw [List.map_append, List.map_append, List.map_take, List.map_drop, List.map_replicate]; rfl, ?_⟩⟩
      conv => whnf
      refine Tri.seqK ?_
      refine Tri.run (G := gm_slices_DeleteFunc_int__ring_Ring_1) tyOk mixed ?_
      conv => whnf
      replace h := need_some h
      obtain ⟨p375, h⟩ := h
      refine ⟨⟨by first | (simp; done) | (simp only [List.length_map, List.length_append, List.length_take, List.length_drop, List.length_replicate, List.length_set, List.length_mergeSort]; omega), by have := p375; simp only [List.length_map, List.length_append, List.length_take, List.length_drop, List.length_replicate, List.length_set] at *; omega⟩, ?_⟩
      conv => whnf
      replace h := need_some h
      obtain ⟨p376, h⟩ := h
      refine ⟨by have := p376; simp only [List.length_map, List.length_append, List.length_take, List.length_drop, List.length_replicate, List.length_set] at *; omega, ?_⟩
      conv => whnf
      refine Tri.run (G := gm_slices_DeleteFunc_int__ring_Ring_1) tyOk mixed ?_
      conv => whnf
      refine fin_pre (S' := ⟨42, 3, ofRegs [(4, .sl (List.map (encI .i64) (List.drop ((0 : Int).toNat) (List.take ((y341.1).toNat) (List.take ((y341.1).toNat) y341.2 ++ List.replicate (((((List.map (encI .i64) y341.2).length : Nat) : Int).toNat) - ((y341.1).toNat)) (0 : Int) ++ List.drop ((((List.map (encI .i64) y341.2).length : Nat) : Int).toNat) y341.2)))))], [.gone, .var 25 [.sl (List.map encHold v.Held), .sl (List.map encClaim v.Queue)], .var 3 [.v (.int .i64 v2)]]⟩) (Weak.trans (weak_freeze 0 rfl) (weak_fin _ rfl rfl rfl (.cons (.gone) (.cons (.same rfl) (.cons (.same rfl) (LeH.rest)))) (.cons (.one (.frzvw rfl (by first | (simp; done) | (simp only [List.length_map, List.length_append, List.length_take, List.length_drop, List.length_replicate, List.length_set, List.length_mergeSort]; omega)) (by rw [List.map_drop, List.map_take]))) (.nil)) rfl rfl)) ?_
      conv => whnf
      cases h
      exact ⟨rfl, rfl⟩
noncomputable def ring_Ring (l : Locks) (txn : Int) : Option ((List Int)) :=
  (ring_Reach l txn).bind fun y1 =>
  (slices_Contains_int y1 txn).bind fun y6 =>
  if (!y6) then
    some ([] : (List Int))
  else
    (slices_DeleteFunc_int__ring_Ring_1 y1 l txn).bind fun y9 =>
    some y9
def gm_ring_Ring : Gm := ⟨tys, [55], [(20, 3, 1)], []⟩
theorem ring_Ring_walk (l : Locks) (txn : Int) (r : (List Int)) (h : ring_Ring l txn = some r) : PureP Try.prog 22 [.agg [.sl (List.map encHold l.Held), .sl (List.map encClaim l.Queue)], .v (.int .i64 txn)] (fun a => a = .sl (List.map (encI .i64) r)) := by
  unfold ring_Ring at h
  refine pureW (G := gm_ring_Ring) tyOk Try.func22 rfl (by kernel_rfl) (by simp [Try.f22]) ?_
  refine Tri.seqK ?_
  refine Tri.run (G := gm_ring_Ring) tyOk mixed ?_
  conv => whnf
  refine Tri.seqK ?_
  refine Tri.run (G := gm_ring_Ring) tyOk mixed ?_
  conv => whnf
  replace h := bind_some h
  obtain ⟨y1, q2, h⟩ := h
  refine FreshP.mono (ring_Reach_walk l txn y1 q2) ?_
  rintro _ rfl
  conv => whnf
  refine Tri.seqK ?_
  refine Tri.seqK ?_
  refine Tri.run (G := gm_ring_Ring) tyOk mixed ?_
  conv => whnf
  refine ⟨rfl, ?_⟩
  conv => whnf
  replace h := bind_some h
  obtain ⟨y6, q7, h⟩ := h
  refine PureP.mono (slices_Contains_int_walk y1 txn y6 q7) ?_
  rintro _ rfl
  conv => whnf
  refine Tri.cond rfl (fun c8 => ?_) (fun c8 => ?_)
  · replace h := if_t c8 h
    refine Tri.seqK ?_
    refine Tri.run (G := gm_ring_Ring) tyOk mixed ?_
    conv => whnf
    refine Tri.run (G := gm_ring_Ring) tyOk mixed ?_
    conv => whnf
    refine fin_here ?_
    conv => whnf
    cases h
    rfl
  · replace h := if_f c8 h
    refine Tri.run (G := gm_ring_Ring) tyOk mixed ?_
    conv => whnf
    refine Tri.seqK ?_
    refine Tri.run (G := gm_ring_Ring) tyOk mixed ?_
    conv => whnf
    replace h := bind_some h
    obtain ⟨y9, q10, h⟩ := h
    refine CallP.use (slices_DeleteFunc_int__ring_Ring_1_walk y1 l txn y9 q10) [2, 0, 1] rfl rfl rfl rfl rfl rfl rfl rfl rfl ?_
    conv => whnf
    refine Tri.run (G := gm_ring_Ring) tyOk mixed ?_
    conv => whnf
    refine fin_here ?_
    conv => whnf
    cases h
    rfl
noncomputable def slices_Max_int_l2 (x : (List Int)) (a37 : Int) (a38 : Int) : Option ((Int × Int) ⊕ (Int)) :=
  if (decide (a38 < (x.length : Int))) then
    (ix x a38).bind fun x46 =>
    some (.inl ((if a37 < x46 then x46 else a37), (IntKind.i64.wrap (a38 + 1))))
  else
    some (.inr a37)
noncomputable def slices_Max_int (x : (List Int)) : Option (Int) :=
  if (decide ((x.length : Int) < 1)) then
    none
  else
    (ix x 0).bind fun x3 =>
    (loop (fun (s41 : Int × Int) => slices_Max_int_l2 x s41.1 s41.2) (x3, (1 : Int))).bind fun (y39 : Int) =>
    some y39
def gm_slices_Max_int : Gm := ⟨tys, [], [], []⟩
theorem slices_Max_int_walk (x : (List Int)) (r : Int) (h : slices_Max_int x = some r) : PureP Try.prog 57 [.sl (List.map (encI .i64) x)] (fun a => a = .v (.int .i64 r)) := by
  unfold slices_Max_int at h
  refine pureW (G := gm_slices_Max_int) tyOk Try.func57 rfl (by kernel_rfl) (by simp [Try.f57]) ?_
  refine Tri.seqK ?_
  refine Tri.run (G := gm_slices_Max_int) tyOk mixed ?_
  conv => whnf
  refine Tri.seqK ?_
  refine Tri.seqK ?_
  refine Tri.run (G := gm_slices_Max_int) tyOk mixed ?_
  conv => whnf
  refine ⟨⟨(x.length : Int), (len_map _ _).symm, ?_⟩⟩
  conv => whnf
  refine Tri.cond rfl (fun c2 => ?_) (fun c2 => ?_)
  · replace h := if_t c2 h
    refine Tri.run (G := gm_slices_Max_int) tyOk mixed ?_
    conv => whnf
    cases h
  · replace h := if_f c2 h
    refine Tri.run (G := gm_slices_Max_int) tyOk mixed ?_
    conv => whnf
    refine Tri.seqK ?_
    refine Tri.run (G := gm_slices_Max_int) tyOk mixed ?_
    conv => whnf
    replace h := bind_some h
    obtain ⟨x3, q4, h⟩ := h
    refine ⟨(ix_some q4).1, ?_⟩
    conv => whnf
    refine ⟨⟨_, map_get (encI .i64) (ix_some q4).2, ?_⟩⟩
    conv => whnf
    refine ⟨rfl, ?_⟩
    conv => whnf
    refine Tri.seqK ?_
    refine Tri.seqK ?_
    refine Tri.run (G := gm_slices_Max_int) tyOk mixed ?_
    conv => whnf
    refine Tri.block ?_
    replace h := bind_some h
    obtain ⟨y39, q40, h⟩ := h
    refine Tri.cut (fun ex S' => ex = (.exit 0) ∧ Weak S' ⟨25, 0, ofRegs [(3, .v (.int .i64 y39))], []⟩) ?_ ?_
    · refine Tri.loopF (fun (s41 : Int × Int) => (⟨25, 0, ofRegs [(0, .sl (List.map (encI .i64) x)), (3, .v (.int .i64 s41.1)), (4, .v (.int .i64 s41.2))], []⟩ : St)) q40 (weak_fin _ rfl rfl rfl (LeH.rest) (.cons (.one (.same rfl)) (.cons (.one (.same rfl)) (.cons (.one (.same rfl)) (.nil)))) rfl rfl) ?_
      rintro ⟨a37, a38⟩ v42 hv r43
      have hv : slices_Max_int_l2 x a37 a38 = some v42 := hv
      unfold slices_Max_int_l2 at hv
      dsimp only
      refine Tri.seqK ?_
      refine Tri.seqK ?_
      refine Tri.run (G := gm_slices_Max_int) tyOk mixed ?_
      conv => whnf
      refine ⟨⟨(x.length : Int), (len_map _ _).symm, ?_⟩⟩
      conv => whnf
      refine Tri.cond rfl (fun c45 => ?_) (fun c45 => ?_)
      · replace hv := if_t c45 hv
        refine Tri.run (G := gm_slices_Max_int) tyOk mixed ?_
        conv => whnf
        refine Tri.seqK ?_
        refine Tri.block ?_
        refine Tri.run (G := gm_slices_Max_int) tyOk mixed ?_
        conv => whnf
        replace hv := bind_some hv
        obtain ⟨x46, q47, hv⟩ := hv
        refine ⟨(ix_some q47).1, ?_⟩
        conv => whnf
        refine ⟨⟨_, map_get (encI .i64) (ix_some q47).2, ?_⟩⟩
        conv => whnf
        refine ⟨rfl, ?_⟩
        conv => whnf
        refine Tri.run (G := gm_slices_Max_int) tyOk mixed ?_
        conv => whnf
        cases hv
        exact ⟨_, rfl, weak_fin _ rfl rfl rfl (LeH.rest) (.cons (.one (.same rfl)) (.cons (.one (.same rfl)) (.cons (.one (.same rfl)) (.nil)))) rfl rfl⟩
      · replace hv := if_f c45 hv
        refine Tri.run (G := gm_slices_Max_int) tyOk mixed ?_
        conv => whnf
        cases hv
        obtain rfl := r43 _ rfl
        exact ⟨rfl, weak_fin _ rfl rfl rfl (LeH.rest) (.cons (.one (.same rfl)) (.nil)) rfl rfl⟩
    · rintro ex S' ⟨rfl, w48⟩
      conv => whnf
      refine Tri.weak w48 ?_
      refine Tri.seqK ?_
      refine Tri.run (G := gm_slices_Max_int) tyOk mixed ?_
      conv => whnf
      refine Tri.run (G := gm_slices_Max_int) tyOk mixed ?_
      conv => whnf
      refine fin_here ?_
      conv => whnf
      cases h
      rfl
noncomputable def ring_Victim (l : Locks) (txn : Int) : Option (Int × Bool) :=
  (ring_Ring l txn).bind fun y1 =>
  if (decide ((y1.length : Int) = 0)) then
    some (0, false)
  else
    (slices_Max_int y1).bind fun y5 =>
    some (y5, true)
def gm_ring_Victim : Gm := ⟨tys, [], [], []⟩
theorem ring_Victim_walk (l : Locks) (txn : Int) (r : Int × Bool) (h : ring_Victim l txn = some r) : PureP Try.prog 24 [.agg [.sl (List.map encHold l.Held), .sl (List.map encClaim l.Queue)], .v (.int .i64 txn)] (fun a => a = .tup [.v (.int .i64 r.1), .v (.bool r.2)]) := by
  unfold ring_Victim at h
  refine pureW (G := gm_ring_Victim) tyOk Try.func24 rfl (by kernel_rfl) (by simp [Try.f24]) ?_
  refine Tri.seqK ?_
  refine Tri.run (G := gm_ring_Victim) tyOk mixed ?_
  conv => whnf
  refine Tri.seqK ?_
  refine Tri.run (G := gm_ring_Victim) tyOk mixed ?_
  conv => whnf
  replace h := bind_some h
  obtain ⟨y1, q2, h⟩ := h
  refine PureP.mono (ring_Ring_walk l txn y1 q2) ?_
  rintro _ rfl
  conv => whnf
  refine Tri.seqK ?_
  refine Tri.seqK ?_
  refine Tri.run (G := gm_ring_Victim) tyOk mixed ?_
  conv => whnf
  refine ⟨⟨(y1.length : Int), (len_map _ _).symm, ?_⟩⟩
  conv => whnf
  refine Tri.cond rfl (fun c4 => ?_) (fun c4 => ?_)
  · replace h := if_t c4 h
    refine Tri.seqK ?_
    refine Tri.run (G := gm_ring_Victim) tyOk mixed ?_
    conv => whnf
    refine Tri.run (G := gm_ring_Victim) tyOk mixed ?_
    conv => whnf
    refine fin_here ?_
    conv => whnf
    cases h
    rfl
  · replace h := if_f c4 h
    refine Tri.run (G := gm_ring_Victim) tyOk mixed ?_
    conv => whnf
    refine Tri.seqK ?_
    refine Tri.run (G := gm_ring_Victim) tyOk mixed ?_
    conv => whnf
    replace h := bind_some h
    obtain ⟨y5, q6, h⟩ := h
    refine PureP.mono (slices_Max_int_walk y1 y5 q6) ?_
    rintro _ rfl
    conv => whnf
    refine Tri.run (G := gm_ring_Victim) tyOk mixed ?_
    conv => whnf
    refine fin_here ?_
    conv => whnf
    cases h
    rfl
noncomputable def law11_shown  : Option (Bool) :=
  (ref09_Key 2 [97]).bind fun y1 =>
  (ref10_Ask ({ Held := [], Queue := [] } : Locks) 1 y1 9).bind fun y3 =>
  (ref09_Key 2 [98]).bind fun y13 =>
  (ref10_Ask y3.1 2 y13 9).bind fun y15 =>
  (ref10_Ask y15.1 1 y13 9).bind fun y27 =>
  (ref09_Key 2 [97]).bind fun y40 =>
  (ref10_Ask y27.1 2 y40 9).bind fun y42 =>
  (ring_Ring y42.1 1).bind fun y50 =>
  (ring_Victim y42.1 1).bind fun y52 =>
  if (decide ((y50.length : Int) = 2)) then
    (ix y50 0).bind fun x55 =>
    if (decide (x55 = 1)) then
      (ix y50 1).bind fun x58 =>
      if (decide (x58 = 2)) then
        if (decide (y52.1 = 2)) then
          some y52.2
        else
          some false
      else
        some false
    else
      some false
  else
    some false
def gm_law11_shown : Gm := ⟨tys, [], [], []⟩
theorem law11_shown_walk  (r : Bool) (h : law11_shown = some r) : PureP Try.prog 15 [] (fun a => a = .v (.bool r)) := by
  unfold law11_shown at h
  refine pureW (G := gm_law11_shown) tyOk Try.func15 rfl (by kernel_rfl) (by simp [Try.f15]) ?_
  refine Tri.seqK ?_
  refine Tri.run (G := gm_law11_shown) tyOk mixed ?_
  conv => whnf
  refine Tri.seqK ?_
  refine Tri.run (G := gm_law11_shown) tyOk mixed ?_
  conv => whnf
  replace h := bind_some h
  obtain ⟨y1, q2, h⟩ := h
  refine PureP.mono (ref09_Key_walk 2 [97] y1 q2) ?_
  rintro _ rfl
  conv => whnf
  replace h := bind_some h
  obtain ⟨y3, q4, h⟩ := h
  refine PureP.mono (ref10_Ask_walk ({ Held := [], Queue := [] } : Locks) 1 y1 9 y3 q4) ?_
  rintro _ rfl
  conv => whnf
  refine Tri.seqK ?_
  refine Tri.run (G := gm_law11_shown) tyOk mixed ?_
  conv => whnf
  replace h := bind_some h
  obtain ⟨y13, q21, h⟩ := h
  replace h := bind_some h
  obtain ⟨y15, q22, h⟩ := h
  refine Draw.many 7 (.alt 0 (.alt 1 (.alt 2 (.take 3 (.take 4 (.take 5 (.alt 6 (.fin) (.nil))))) (.nil)) (.nil)) (.alt 1 (.alt 0 (.alt 2 (.take 3 (.take 4 (.take 5 (.alt 6 (.fin) (.nil))))) (.nil)) (.nil)) (.nil))) [0, 1, 2, 3, 4, 5, 6] (⟨59, 0, ofRegs [(1, .ptr 0 0)], [.var 25 [.sl (List.map encHold y15.1.Held), .sl (List.map encClaim y15.1.Queue)]]⟩) (by kernel_rfl) ?_ ?_
  · conv => whnf
    refine ⟨?_, ?_⟩
    · conv => whnf
      refine ⟨?_, ?_⟩
      · conv => whnf
        refine PureP.mono (ref09_Key_walk 2 [98] y13 q21) ?_
        rintro _ rfl
        conv => whnf
        refine ⟨?_, ?_⟩
        · conv => whnf
          refine PureP.mono (ref10_Ask_walk y3.1 2 y13 9 y15 q22) ?_
          rintro _ rfl
          conv => whnf
          refine ⟨?_, ?_⟩
          · conv => whnf
            exact weak_fin _ rfl rfl rfl (.cons (.same rfl) (LeH.rest)) (.cons (.one (.same rfl)) (.nil)) rfl rfl
          · conv => whnf
            trivial
        · conv => whnf
          trivial
      · conv => whnf
        trivial
    · conv => whnf
      refine ⟨?_, ?_⟩
      · conv => whnf
        refine PureP.mono (ref09_Key_walk 2 [98] y13 q21) ?_
        rintro _ rfl
        conv => whnf
        refine ⟨?_, ?_⟩
        · conv => whnf
          refine ⟨?_, ?_⟩
          · conv => whnf
            refine PureP.mono (ref10_Ask_walk y3.1 2 y13 9 y15 q22) ?_
            rintro _ rfl
            conv => whnf
            refine ⟨?_, ?_⟩
            · conv => whnf
              exact weak_fin _ rfl rfl rfl (.cons (.same rfl) (LeH.rest)) (.cons (.one (.same rfl)) (.nil)) rfl rfl
            · conv => whnf
              trivial
          · conv => whnf
            trivial
        · conv => whnf
          trivial
      · conv => whnf
        trivial
  · conv => whnf
    refine Tri.seqK ?_
    refine Tri.run (G := gm_law11_shown) tyOk mixed ?_
    conv => whnf
    replace h := bind_some h
    obtain ⟨y27, q31, h⟩ := h
    refine Draw.many 7 (.alt 0 (.alt 1 (.alt 2 (.take 3 (.take 4 (.take 5 (.alt 6 (.fin) (.nil))))) (.nil)) (.nil)) (.alt 1 (.alt 0 (.alt 2 (.take 3 (.take 4 (.take 5 (.alt 6 (.fin) (.nil))))) (.nil)) (.nil)) (.nil))) [0, 1, 2, 3, 4, 5, 6] (⟨59, 0, ofRegs [(1, .ptr 0 0)], [.var 25 [.sl (List.map encHold y27.1.Held), .sl (List.map encClaim y27.1.Queue)]]⟩) (by kernel_rfl) ?_ ?_
    · conv => whnf
      refine ⟨?_, ?_⟩
      · conv => whnf
        refine ⟨?_, ?_⟩
        · conv => whnf
          refine PureP.mono (ref09_Key_walk 2 [98] y13 q21) ?_
          rintro _ rfl
          conv => whnf
          refine ⟨?_, ?_⟩
          · conv => whnf
            refine PureP.mono (ref10_Ask_walk y15.1 1 y13 9 y27 q31) ?_
            rintro _ rfl
            conv => whnf
            refine ⟨?_, ?_⟩
            · conv => whnf
              exact weak_fin _ rfl rfl rfl (.cons (.same rfl) (LeH.rest)) (.cons (.one (.same rfl)) (.nil)) rfl rfl
            · conv => whnf
              trivial
          · conv => whnf
            trivial
        · conv => whnf
          trivial
      · conv => whnf
        refine ⟨?_, ?_⟩
        · conv => whnf
          refine PureP.mono (ref09_Key_walk 2 [98] y13 q21) ?_
          rintro _ rfl
          conv => whnf
          refine ⟨?_, ?_⟩
          · conv => whnf
            refine ⟨?_, ?_⟩
            · conv => whnf
              refine PureP.mono (ref10_Ask_walk y15.1 1 y13 9 y27 q31) ?_
              rintro _ rfl
              conv => whnf
              refine ⟨?_, ?_⟩
              · conv => whnf
                exact weak_fin _ rfl rfl rfl (.cons (.same rfl) (LeH.rest)) (.cons (.one (.same rfl)) (.nil)) rfl rfl
              · conv => whnf
                trivial
            · conv => whnf
              trivial
          · conv => whnf
            trivial
        · conv => whnf
          trivial
    · conv => whnf
      refine Tri.seqK ?_
      refine Tri.run (G := gm_law11_shown) tyOk mixed ?_
      conv => whnf
      replace h := bind_some h
      obtain ⟨y40, q48, h⟩ := h
      replace h := bind_some h
      obtain ⟨y42, q49, h⟩ := h
      refine Draw.many 7 (.alt 0 (.alt 1 (.alt 2 (.take 3 (.take 4 (.take 5 (.alt 6 (.fin) (.nil))))) (.nil)) (.nil)) (.alt 1 (.alt 0 (.alt 2 (.take 3 (.take 4 (.take 5 (.alt 6 (.fin) (.nil))))) (.nil)) (.nil)) (.nil))) [0, 1, 2, 3, 4, 5, 6] (⟨59, 0, ofRegs [(1, .ptr 0 0)], [.var 25 [.sl (List.map encHold y42.1.Held), .sl (List.map encClaim y42.1.Queue)]]⟩) (by kernel_rfl) ?_ ?_
      · conv => whnf
        refine ⟨?_, ?_⟩
        · conv => whnf
          refine ⟨?_, ?_⟩
          · conv => whnf
            refine PureP.mono (ref09_Key_walk 2 [97] y40 q48) ?_
            rintro _ rfl
            conv => whnf
            refine ⟨?_, ?_⟩
            · conv => whnf
              refine PureP.mono (ref10_Ask_walk y27.1 2 y40 9 y42 q49) ?_
              rintro _ rfl
              conv => whnf
              refine ⟨?_, ?_⟩
              · conv => whnf
                exact weak_fin _ rfl rfl rfl (.cons (.same rfl) (LeH.rest)) (.cons (.one (.same rfl)) (.nil)) rfl rfl
              · conv => whnf
                trivial
            · conv => whnf
              trivial
          · conv => whnf
            trivial
        · conv => whnf
          refine ⟨?_, ?_⟩
          · conv => whnf
            refine PureP.mono (ref09_Key_walk 2 [97] y40 q48) ?_
            rintro _ rfl
            conv => whnf
            refine ⟨?_, ?_⟩
            · conv => whnf
              refine ⟨?_, ?_⟩
              · conv => whnf
                refine PureP.mono (ref10_Ask_walk y27.1 2 y40 9 y42 q49) ?_
                rintro _ rfl
                conv => whnf
                refine ⟨?_, ?_⟩
                · conv => whnf
                  exact weak_fin _ rfl rfl rfl (.cons (.same rfl) (LeH.rest)) (.cons (.one (.same rfl)) (.nil)) rfl rfl
                · conv => whnf
                  trivial
              · conv => whnf
                trivial
            · conv => whnf
              trivial
          · conv => whnf
            trivial
      · conv => whnf
        refine Tri.seqK ?_
        refine Tri.run (G := gm_law11_shown) tyOk mixed ?_
        conv => whnf
        replace h := bind_some h
        obtain ⟨y50, q51, h⟩ := h
        refine PureP.mono (ring_Ring_walk y42.1 1 y50 q51) ?_
        rintro _ rfl
        conv => whnf
        refine Tri.seqK ?_
        refine Tri.run (G := gm_law11_shown) tyOk mixed ?_
        conv => whnf
        replace h := bind_some h
        obtain ⟨y52, q53, h⟩ := h
        refine PureP.mono (ring_Victim_walk y42.1 1 y52 q53) ?_
        rintro _ rfl
        conv => whnf
        refine Tri.seqK ?_
        refine Tri.run (G := gm_law11_shown) tyOk mixed ?_
        conv => whnf
        refine ⟨⟨(y50.length : Int), (len_map _ _).symm, ?_⟩⟩
        conv => whnf
        refine cond_mk (fun c54 => ?_) (fun c54 => ?_)
        · replace h := if_t c54 h
          conv => whnf
          replace h := bind_some h
          obtain ⟨x55, q56, h⟩ := h
          refine ⟨(ix_some q56).1, ?_⟩
          conv => whnf
          refine ⟨⟨_, map_get (encI .i64) (ix_some q56).2, ?_⟩⟩
          conv => whnf
          refine ⟨rfl, ?_⟩
          conv => whnf
          refine cond_mk (fun c57 => ?_) (fun c57 => ?_)
          · replace h := if_t c57 h
            conv => whnf
            replace h := bind_some h
            obtain ⟨x58, q59, h⟩ := h
            refine ⟨(ix_some q59).1, ?_⟩
            conv => whnf
            refine ⟨⟨_, map_get (encI .i64) (ix_some q59).2, ?_⟩⟩
            conv => whnf
            refine ⟨rfl, ?_⟩
            conv => whnf
            refine cond_mk (fun c60 => ?_) (fun c60 => ?_)
            · replace h := if_t c60 h
              conv => whnf
              refine cond_mk (fun c61 => ?_) (fun c61 => ?_)
              · replace h := if_t c61 h
                conv => whnf
                refine Tri.run (G := gm_law11_shown) tyOk mixed ?_
                conv => whnf
                refine fin_here ?_
                conv => whnf
                cases h
                rfl
              · replace h := if_f c61 h
                conv => whnf
                refine Tri.run (G := gm_law11_shown) tyOk mixed ?_
                conv => whnf
                refine fin_here ?_
                conv => whnf
                cases h
                rfl
            · replace h := if_f c60 h
              conv => whnf
              refine Tri.run (G := gm_law11_shown) tyOk mixed ?_
              conv => whnf
              refine fin_here ?_
              conv => whnf
              cases h
              rfl
          · replace h := if_f c57 h
            conv => whnf
            refine Tri.run (G := gm_law11_shown) tyOk mixed ?_
            conv => whnf
            refine fin_here ?_
            conv => whnf
            cases h
            rfl
        · replace h := if_f c54 h
          conv => whnf
          refine Tri.run (G := gm_law11_shown) tyOk mixed ?_
          conv => whnf
          refine fin_here ?_
          conv => whnf
          cases h
          rfl
noncomputable def law11_small (l : Locks) : Option (Bool) :=
  if (decide ((l.Held.length : Int) ≤ 30)) then
    some (decide ((l.Queue.length : Int) ≤ 12))
  else
    some false
def gm_law11_small : Gm := ⟨tys, [], [], []⟩
theorem law11_small_walk (l : Locks) (r : Bool) (h : law11_small l = some r) : PureP Try.prog 16 [.agg [.sl (List.map encHold l.Held), .sl (List.map encClaim l.Queue)]] (fun a => a = .v (.bool r)) := by
  unfold law11_small at h
  refine pureW (G := gm_law11_small) tyOk Try.func16 rfl (by kernel_rfl) (by simp [Try.f16]) ?_
  refine Tri.seqK ?_
  refine Tri.run (G := gm_law11_small) tyOk mixed ?_
  conv => whnf
  refine Tri.seqK ?_
  refine Tri.run (G := gm_law11_small) tyOk mixed ?_
  conv => whnf
  refine ⟨⟨(l.Held.length : Int), (len_map _ _).symm, ?_⟩⟩
  conv => whnf
  refine cond_mk (fun c1 => ?_) (fun c1 => ?_)
  · replace h := if_t c1 h
    conv => whnf
    refine ⟨⟨(l.Queue.length : Int), (len_map _ _).symm, ?_⟩⟩
    conv => whnf
    refine Tri.run (G := gm_law11_small) tyOk mixed ?_
    conv => whnf
    refine fin_here ?_
    conv => whnf
    cases h
    rfl
  · replace h := if_f c1 h
    conv => whnf
    refine Tri.run (G := gm_law11_small) tyOk mixed ?_
    conv => whnf
    refine fin_here ?_
    conv => whnf
    cases h
    rfl
noncomputable def ref11_has_l2 (l : (List Int)) (n : Int) (a52 : Int) : Option ((Int) ⊕ ((Unit) ⊕ (Unit))) :=
  if (decide (a52 < (l.length : Int))) then
    (ix l a52).bind fun x65 =>
    if (decide (x65 = n)) then
      some (.inr (.inl ()))
    else
      some (.inl (IntKind.i64.wrap (a52 + 1)))
  else
    some (.inr (.inr ()))
noncomputable def ref11_has (l : (List Int)) (n : Int) : Option (Bool) :=
  (loop (fun (s57 : Int) => ref11_has_l2 l n s57) (0 : Int)).bind fun (y53 : (Unit) ⊕ (Unit)) =>
  match y53 with
  | (.inl v55) =>
    some true
  | (.inr v56) =>
    some false
def gm_ref11_has : Gm := ⟨tys, [], [], []⟩
theorem ref11_has_walk (l : (List Int)) (n : Int) (r : Bool) (h : ref11_has l n = some r) : PureP Try.prog 53 [.sl (List.map (encI .i64) l), .v (.int .i64 n)] (fun a => a = .v (.bool r)) := by
  unfold ref11_has at h
  refine pureW (G := gm_ref11_has) tyOk Try.func53 rfl (by kernel_rfl) (by simp [Try.f53]) ?_
  refine Tri.seqK ?_
  refine Tri.run (G := gm_ref11_has) tyOk mixed ?_
  conv => whnf
  refine Tri.seqK ?_
  refine Tri.seqK ?_
  refine Tri.run (G := gm_ref11_has) tyOk mixed ?_
  conv => whnf
  refine Tri.block ?_
  replace h := bind_some h
  obtain ⟨y53, q54, h⟩ := h
  refine Tri.cut (fun ex S' => (∃ v55 : Unit, y53 = (.inl v55) ∧ ex = .ret ∧ Weak S' ⟨18, 0, ofRegs [(4, .v (.bool true))], []⟩) ∨ (∃ v56 : Unit, y53 = (.inr v56) ∧ ex = (.exit 0) ∧ Weak S' ⟨18, 0, ofRegs [], []⟩)) ?_ ?_
  · refine Tri.loopF (fun (s57 : Int) => (⟨18, 0, ofRegs [(0, .sl (List.map (encI .i64) l)), (1, .v (.int .i64 n)), (5, .v (.int .i64 s57))], []⟩ : St)) q54 (weak_fin _ rfl rfl rfl (LeH.rest) (.cons (.one (.same rfl)) (.cons (.one (.same rfl)) (.cons (.one (.same rfl)) (.nil)))) rfl rfl) ?_
    rintro a52 v58 hv r59
    have hv : ref11_has_l2 l n a52 = some v58 := hv
    unfold ref11_has_l2 at hv
    refine Tri.seqK ?_
    refine Tri.seqK ?_
    refine Tri.run (G := gm_ref11_has) tyOk mixed ?_
    conv => whnf
    refine ⟨⟨(l.length : Int), (len_map _ _).symm, ?_⟩⟩
    conv => whnf
    refine Tri.cond rfl (fun c61 => ?_) (fun c61 => ?_)
    · replace hv := if_t c61 hv
      refine Tri.run (G := gm_ref11_has) tyOk mixed ?_
      conv => whnf
      refine Tri.seqK ?_
      refine Tri.block ?_
      refine Tri.seqK ?_
      refine Tri.run (G := gm_ref11_has) tyOk mixed ?_
      conv => whnf
      replace hv := bind_some hv
      obtain ⟨x65, q66, hv⟩ := hv
      refine ⟨(ix_some q66).1, ?_⟩
      conv => whnf
      refine ⟨⟨_, map_get (encI .i64) (ix_some q66).2, ?_⟩⟩
      conv => whnf
      refine ⟨rfl, ?_⟩
      conv => whnf
      refine Tri.cond rfl (fun c67 => ?_) (fun c67 => ?_)
      · replace hv := if_t c67 hv
        refine Tri.seqK ?_
        refine Tri.run (G := gm_ref11_has) tyOk mixed ?_
        conv => whnf
        refine Tri.run (G := gm_ref11_has) tyOk mixed ?_
        conv => whnf
        cases hv
        obtain rfl := r59 _ rfl
        exact Or.inl ⟨_, rfl, rfl, weak_fin _ rfl rfl rfl (LeH.rest) (.cons (.one (.same rfl)) (.nil)) rfl rfl⟩
      · replace hv := if_f c67 hv
        refine Tri.run (G := gm_ref11_has) tyOk mixed ?_
        conv => whnf
        refine Tri.run (G := gm_ref11_has) tyOk mixed ?_
        conv => whnf
        cases hv
        exact ⟨_, rfl, weak_fin _ rfl rfl rfl (LeH.rest) (.cons (.one (.same rfl)) (.cons (.one (.same rfl)) (.cons (.one (.same rfl)) (.nil)))) rfl rfl⟩
    · replace hv := if_f c61 hv
      refine Tri.run (G := gm_ref11_has) tyOk mixed ?_
      conv => whnf
      cases hv
      obtain rfl := r59 _ rfl
      exact Or.inr (⟨_, rfl, rfl, weak_fin _ rfl rfl rfl (LeH.rest) (.nil) rfl rfl⟩)
  · rintro ex S' (⟨v55, rfl, rfl, w68⟩ | ⟨v56, rfl, rfl, w68⟩)
    · dsimp only at h
      conv => whnf
      refine fin_pre w68 ?_
      conv => whnf
      cases h
      rfl
    · dsimp only at h
      conv => whnf
      refine Tri.weak w68 ?_
      refine Tri.seqK ?_
      refine Tri.run (G := gm_ref11_has) tyOk mixed ?_
      conv => whnf
      refine Tri.run (G := gm_ref11_has) tyOk mixed ?_
      conv => whnf
      refine fin_here ?_
      conv => whnf
      cases h
      rfl
noncomputable def ref11_put_l2 (l : (List Int)) (n : Int) (a144 : Int) : Option ((Int) ⊕ (Int)) :=
  (
    if (decide (a144 < (l.length : Int))) then
      (ix l a144).bind fun x172 =>
      some (decide (x172 < n))
    else
      some false).bind fun (y169 : Bool) =>
  if y169 then
    some (.inl (IntKind.i64.wrap (a144 + 1)))
  else
    some (.inr a144)
noncomputable def ref11_put (l : (List Int)) (n : Int) : Option ((List Int)) :=
  (ref11_has l n).bind fun y1 =>
  if y1 then
    some l
  else
    (loop (fun (s147 : Int) => ref11_put_l2 l n s147) (0 : Int)).bind fun (y145 : Int) =>
    need (0 ≤ (0 : Int) ∧ 0 ≤ y145 ∧ y145 ≤ (l.length : Int)) <|
    need ((([] : List Int).length + (cut l 0 y145).length) * 8 ≤ 140737488355328) <|
    need (((([] : List Int) ++ (cut l 0 y145)).length + 1) * 8 ≤ 140737488355328) <|
    need (0 ≤ y145 ∧ y145 ≤ (l.length : Int) ∧ (l.length : Int) ≤ (l.length : Int)) <|
    need ((((([] : List Int) ++ (cut l 0 y145)) ++ [n]).length + (cut l y145 (l.length : Int)).length) * 8 ≤ 140737488355328) <|
    some (((([] : List Int) ++ (cut l 0 y145)) ++ [n]) ++ (cut l y145 (l.length : Int)))
def gm_ref11_put : Gm := ⟨tys, [], [], []⟩
theorem ref11_put_walk (l : (List Int)) (n : Int) (r : (List Int)) (h : ref11_put l n = some r) : PureP Try.prog 49 [.sl (List.map (encI .i64) l), .v (.int .i64 n)] (fun a => a = .sl (List.map (encI .i64) r)) := by
  unfold ref11_put at h
  refine pureW (G := gm_ref11_put) tyOk Try.func49 rfl (by kernel_rfl) (by simp [Try.f49]) ?_
  refine Tri.seqK ?_
  refine Tri.run (G := gm_ref11_put) tyOk mixed ?_
  conv => whnf
  refine Tri.seqK ?_
  refine Tri.run (G := gm_ref11_put) tyOk mixed ?_
  conv => whnf
  replace h := bind_some h
  obtain ⟨y1, q2, h⟩ := h
  refine PureP.mono (ref11_has_walk l n y1 q2) ?_
  rintro _ rfl
  conv => whnf
  refine Tri.seqK ?_
  refine Tri.seqK ?_
  refine Tri.run (G := gm_ref11_put) tyOk mixed ?_
  conv => whnf
  refine Tri.cond rfl (fun c4 => ?_) (fun c4 => ?_)
  · replace h := if_t c4 h
    refine Tri.seqK ?_
    refine Tri.run (G := gm_ref11_put) tyOk mixed ?_
    conv => whnf
    refine Tri.run (G := gm_ref11_put) tyOk mixed ?_
    conv => whnf
    refine fin_here ?_
    conv => whnf
    cases h
    rfl
  · replace h := if_f c4 h
    refine Tri.run (G := gm_ref11_put) tyOk mixed ?_
    conv => whnf
    refine Tri.seqK ?_
    refine Tri.run (G := gm_ref11_put) tyOk mixed ?_
    conv => whnf
    refine Tri.seqK ?_
    refine Tri.block ?_
    replace h := bind_some h
    obtain ⟨y145, q146, h⟩ := h
    refine Tri.cut (fun ex S' => ex = (.exit 0) ∧ Weak S' ⟨41, 0, ofRegs [(0, .sl (List.map (encI .i64) l)), (1, .v (.int .i64 n)), (6, .v (.int .i64 y145))], []⟩) ?_ ?_
    · refine Tri.loopF (fun (s147 : Int) => (⟨41, 0, ofRegs [(0, .sl (List.map (encI .i64) l)), (1, .v (.int .i64 n)), (6, .v (.int .i64 s147))], []⟩ : St)) q146 (weak_fin _ rfl rfl rfl (LeH.rest) (.cons (.one (.same rfl)) (.cons (.one (.same rfl)) (.cons (.one (.same rfl)) (.nil)))) rfl rfl) ?_
      rintro a144 v148 hv r149
      have hv : ref11_put_l2 l n a144 = some v148 := hv
      unfold ref11_put_l2 at hv
      refine Tri.seqK ?_
      refine Tri.seqK ?_
      replace hv := bind_some hv
      obtain ⟨y169, q170, hv⟩ := hv
      refine Tri.cut (fun ex S' => ex = .normal ∧ Weak S' ⟨41, 0, ofRegs [(0, .sl (List.map (encI .i64) l)), (1, .v (.int .i64 n)), (6, .v (.int .i64 a144)), (24, .v (.bool y169))], []⟩) ?_ ?_
      · refine Tri.run (G := gm_ref11_put) tyOk mixed ?_
        conv => whnf
        refine ⟨⟨(l.length : Int), (len_map _ _).symm, ?_⟩⟩
        conv => whnf
        refine cond_mk (fun c171 => ?_) (fun c171 => ?_)
        · replace q170 := if_t c171 q170
          conv => whnf
          replace q170 := bind_some q170
          obtain ⟨x172, q173, q170⟩ := q170
          refine ⟨(ix_some q173).1, ?_⟩
          conv => whnf
          refine ⟨⟨_, map_get (encI .i64) (ix_some q173).2, ?_⟩⟩
          conv => whnf
          refine ⟨rfl, ?_⟩
          conv => whnf
          cases q170
          exact ⟨rfl, weak_fin _ rfl rfl rfl (LeH.rest) (.cons (.one (.same rfl)) (.cons (.one (.same rfl)) (.cons (.one (.same rfl)) (.cons (.one (.same rfl)) (.nil))))) rfl rfl⟩
        · replace q170 := if_f c171 q170
          conv => whnf
          cases q170
          exact ⟨rfl, weak_fin _ rfl rfl rfl (LeH.rest) (.cons (.one (.same rfl)) (.cons (.one (.same rfl)) (.cons (.one (.same rfl)) (.cons (.one (.same rfl)) (.nil))))) rfl rfl⟩
      · rintro ex S' ⟨rfl, w174⟩
        conv => whnf
        refine Tri.weak w174 ?_
        refine Tri.cond rfl (fun c175 => ?_) (fun c175 => ?_)
        · replace hv := if_t c175 hv
          refine Tri.run (G := gm_ref11_put) tyOk mixed ?_
          conv => whnf
          refine Tri.block ?_
          refine Tri.run (G := gm_ref11_put) tyOk mixed ?_
          conv => whnf
          cases hv
          exact ⟨_, rfl, weak_fin _ rfl rfl rfl (LeH.rest) (.cons (.one (.same rfl)) (.cons (.one (.same rfl)) (.cons (.one (.same rfl)) (.nil)))) rfl rfl⟩
        · replace hv := if_f c175 hv
          refine Tri.run (G := gm_ref11_put) tyOk mixed ?_
          conv => whnf
          cases hv
          obtain rfl := r149 _ rfl
          exact ⟨rfl, weak_fin _ rfl rfl rfl (LeH.rest) (.cons (.one (.same rfl)) (.cons (.one (.same rfl)) (.cons (.one (.same rfl)) (.nil)))) rfl rfl⟩
    · rintro ex S' ⟨rfl, w176⟩
      conv => whnf
      refine Tri.weak w176 ?_
      refine Tri.seqK ?_
      refine Tri.run (G := gm_ref11_put) tyOk mixed ?_
      conv => whnf
      refine ⟨⟨List.map (encI .i64) ([] : List Int), rfl, ?_⟩⟩
      conv => whnf
      refine ⟨map_len (f := (encI .i64)) (n := 1) (fun _ => rfl) _, ?_⟩
      conv => whnf
      replace h := need_some h
      obtain ⟨p177, h⟩ := h
      refine ⟨by simpa only [List.length_map] using p177, ?_⟩
      conv => whnf
      refine ⟨⟨List.map (encI .i64) (cut l 0 y145), map_cut _ _ _ _, ?_⟩⟩
      conv => whnf
      refine ⟨rfl, ?_⟩
      conv => whnf
      refine ⟨map_len (f := (encI .i64)) (n := 1) (fun _ => rfl) _, ?_⟩
      conv => whnf
      replace h := need_some h
      obtain ⟨p178, h⟩ := h
      refine ⟨by simp only [List.length_map]; exact p178, ?_⟩
      conv => whnf
      refine ⟨⟨List.map (encI .i64) (([] : List Int) ++ (cut l 0 y145)), map_app (encI .i64) _ _ rfl rfl, ?_⟩⟩
      conv => whnf
      refine Tri.seqK ?_
      refine Tri.run (G := gm_ref11_put) tyOk mixed ?_
      conv => whnf
      refine ⟨⟨List.map (encI .i64) [n], rfl, ?_⟩⟩
      conv => whnf
      refine ⟨rfl, ?_⟩
      conv => whnf
      refine ⟨rfl, ?_⟩
      conv => whnf
      replace h := need_some h
      obtain ⟨p179, h⟩ := h
      refine ⟨by simp only [List.length_map]; exact p179, ?_⟩
      conv => whnf
      refine ⟨⟨List.map (encI .i64) ((([] : List Int) ++ (cut l 0 y145)) ++ [n]), map_app (encI .i64) _ _ rfl rfl, ?_⟩⟩
      conv => whnf
      refine Tri.seqK ?_
      refine Tri.run (G := gm_ref11_put) tyOk mixed ?_
      conv => whnf
      refine ⟨map_len (f := (encI .i64)) (n := 1) (fun _ => rfl) _, ?_⟩
      conv => whnf
      replace h := need_some h
      obtain ⟨p180, h⟩ := h
      refine ⟨by simpa only [List.length_map] using p180, ?_⟩
      conv => whnf
      refine ⟨⟨List.map (encI .i64) (cut l y145 (l.length : Int)), by rw [map_cut, len_map], ?_⟩⟩
      conv => whnf
      refine ⟨rfl, ?_⟩
      conv => whnf
      refine ⟨map_len (f := (encI .i64)) (n := 1) (fun _ => rfl) _, ?_⟩
      conv => whnf
      replace h := need_some h
      obtain ⟨p181, h⟩ := h
      refine ⟨by simp only [List.length_map]; exact p181, ?_⟩
      conv => whnf
      refine ⟨⟨List.map (encI .i64) (((([] : List Int) ++ (cut l 0 y145)) ++ [n]) ++ (cut l y145 (l.length : Int))), map_app (encI .i64) _ _ rfl rfl, ?_⟩⟩
      conv => whnf
      refine Tri.run (G := gm_ref11_put) tyOk mixed ?_
      conv => whnf
      refine fin_here ?_
      conv => whnf
      refine ⟨rfl, ?_⟩
      conv => whnf
      cases h
      rfl
noncomputable def ref11_After_l20 (y703 : (List Int)) (a719 : (List Int)) (a720 : Int) : Option (((List Int) × Int) ⊕ ((List Int))) :=
  if (decide (a720 < (y703.length : Int))) then
    (ix y703 a720).bind fun x728 =>
    (ref11_put a719 x728).bind fun y730 =>
    some (.inl (y730, (IntKind.i64.wrap (a720 + 1))))
  else
    some (.inr a719)
noncomputable def ref11_After_l17 (l : Locks) (txn : Int) (a608 : (List Int)) (a609 : Int) : Option (((List Int) × Int) ⊕ ((List Int))) :=
  if (decide (a609 < (l.Queue.length : Int))) then
    (
      (ix l.Queue a609).bind fun x698 =>
      if (!(decide (x698.Txn = txn))) then
        some a608
      else
        (ref10_Blockers l txn x698.W a609).bind fun y703 =>
        (loop (fun (s723 : (List Int) × Int) => ref11_After_l20 y703 s723.1 s723.2) (a608, (0 : Int))).bind fun (y721 : (List Int)) =>
        some y721).bind fun (y693 : (List Int)) =>
    some (.inl (y693, (IntKind.i64.wrap (a609 + 1))))
  else
    some (.inr a608)
noncomputable def ref11_After (l : Locks) (txn : Int) : Option ((List Int)) :=
  (loop (fun (s612 : (List Int) × Int) => ref11_After_l17 l txn s612.1 s612.2) (([] : (List Int)), (0 : Int))).bind fun (y610 : (List Int)) =>
  some y610
def gm_ref11_After : Gm := ⟨tys, [], [], []⟩
theorem ref11_After_walk (l : Locks) (txn : Int) (r : (List Int)) (h : ref11_After l txn = some r) : PureP Try.prog 19 [.agg [.sl (List.map encHold l.Held), .sl (List.map encClaim l.Queue)], .v (.int .i64 txn)] (fun a => a = .sl (List.map (encI .i64) r)) := by
  unfold ref11_After at h
  refine pureW (G := gm_ref11_After) tyOk Try.func19 rfl (by kernel_rfl) (by simp [Try.f19]) ?_
  refine Tri.seqK ?_
  refine Tri.run (G := gm_ref11_After) tyOk mixed ?_
  conv => whnf
  refine Tri.seqK ?_
  refine Tri.run (G := gm_ref11_After) tyOk mixed ?_
  conv => whnf
  refine Tri.seqK ?_
  refine Tri.seqK ?_
  refine Tri.run (G := gm_ref11_After) tyOk mixed ?_
  conv => whnf
  refine Tri.block ?_
  replace h := bind_some h
  obtain ⟨y610, q611, h⟩ := h
  refine Tri.cut (fun ex S' => ex = (.exit 0) ∧ Weak S' ⟨47, 0, ofRegs [(5, .sl (List.map (encI .i64) y610))], []⟩) ?_ ?_
  · refine Tri.loopF (fun (s612 : (List Int) × Int) => (⟨47, 0, ofRegs [(1, .v (.int .i64 txn)), (2, .ptr 0 0), (5, .sl (List.map (encI .i64) s612.1)), (6, .v (.int .i64 s612.2))], [.var 25 [.sl (List.map encHold l.Held), .sl (List.map encClaim l.Queue)]]⟩ : St)) q611 (weak_fin _ rfl rfl rfl (.cons (.same rfl) (LeH.rest)) (.cons (.one (.same rfl)) (.cons (.one (.same rfl)) (.cons (.one (.nil)) (.cons (.one (.same rfl)) (.nil))))) rfl rfl) ?_
    rintro ⟨a608, a609⟩ v613 hv r614
    have hv : ref11_After_l17 l txn a608 a609 = some v613 := hv
    unfold ref11_After_l17 at hv
    dsimp only
    refine Tri.seqK ?_
    refine Tri.seqK ?_
    refine Tri.run (G := gm_ref11_After) tyOk mixed ?_
    conv => whnf
    refine ⟨⟨(l.Queue.length : Int), (len_map _ _).symm, ?_⟩⟩
    conv => whnf
    refine Tri.cond rfl (fun c616 => ?_) (fun c616 => ?_)
    · replace hv := if_t c616 hv
      refine Tri.run (G := gm_ref11_After) tyOk mixed ?_
      conv => whnf
      refine Tri.seqK ?_
      replace hv := bind_some hv
      obtain ⟨y693, q694, hv⟩ := hv
      refine Tri.cut (fun ex S' => ex = .normal ∧ Weak S' ⟨47, 0, ofRegs [(1, .v (.int .i64 txn)), (2, .ptr 0 0), (5, .sl (List.map (encI .i64) y693)), (6, .v (.int .i64 a609))], [.var 25 [.sl (List.map encHold l.Held), .sl (List.map encClaim l.Queue)]]⟩) ?_ ?_
      · refine Tri.block ?_
        refine Tri.seqK ?_
        refine Tri.seqK ?_
        refine Tri.run (G := gm_ref11_After) tyOk mixed ?_
        conv => whnf
        replace q694 := bind_some q694
        obtain ⟨x698, q699, q694⟩ := q694
        refine ⟨(ix_some q699).1, ?_⟩
        conv => whnf
        refine ⟨⟨_, map_get encClaim (ix_some q699).2, ?_⟩⟩
        conv => whnf
        refine ⟨rfl, ?_⟩
        conv => whnf
        refine Tri.cond rfl (fun c700 => ?_) (fun c700 => ?_)
        · replace q694 := if_t c700 q694
          refine Tri.run (G := gm_ref11_After) tyOk mixed ?_
          conv => whnf
          cases q694
          exact ⟨rfl, weak_fin _ rfl rfl rfl (.cons (.same rfl) (LeH.rest)) (.cons (.one (.same rfl)) (.cons (.one (.same rfl)) (.cons (.one (.same rfl)) (.cons (.one (.same rfl)) (.nil))))) rfl rfl⟩
        · replace q694 := if_f c700 q694
          refine Tri.run (G := gm_ref11_After) tyOk mixed ?_
          conv => whnf
          refine Tri.seqK ?_
          refine Tri.run (G := gm_ref11_After) tyOk mixed ?_
          conv => whnf
          refine Draw.one 11 (.take 0 (.take 1 (.take 2 (.take 3 (.take 4 (.take 5 (.take 6 (.take 7 (.take 8 (.alt 9 (.take 10 (.fin)) (.nil))))))))))) [] (by kernel_rfl) ?_
          conv => whnf
          refine ⟨(ix_some q699).1, ?_⟩
          conv => whnf
          refine ⟨⟨_, map_get encClaim (ix_some q699).2, ?_⟩⟩
          conv => whnf
          refine ⟨rfl, ?_⟩
          conv => whnf
          refine ⟨?_, ?_⟩
          · conv => whnf
            replace q694 := bind_some q694
            obtain ⟨y703, q704, q694⟩ := q694
            refine PureP.mono (ref10_Blockers_walk l txn x698.W a609 y703 q704) ?_
            rintro _ rfl
            conv => whnf
            refine Tri.seqK ?_
            refine Tri.run (G := gm_ref11_After) tyOk mixed ?_
            conv => whnf
            refine Tri.block ?_
            replace q694 := bind_some q694
            obtain ⟨y721, q722, q694⟩ := q694
            refine Tri.cut (fun ex S' => ex = (.exit 2) ∧ Weak S' ⟨47, 0, ofRegs [(1, .v (.int .i64 txn)), (2, .ptr 0 0), (5, .sl (List.map (encI .i64) y721)), (6, .v (.int .i64 a609))], [.var 25 [.sl (List.map encHold l.Held), .sl (List.map encClaim l.Queue)]]⟩) ?_ ?_
            · refine Tri.loopF (fun (s723 : (List Int) × Int) => (⟨47, 0, ofRegs [(1, .v (.int .i64 txn)), (2, .ptr 0 0), (5, .sl (List.map (encI .i64) s723.1)), (6, .v (.int .i64 a609)), (7, .sl (List.map (encI .i64) y703)), (8, .v (.int .i64 s723.2))], [.var 25 [.sl (List.map encHold l.Held), .sl (List.map encClaim l.Queue)]]⟩ : St)) q722 (weak_fin _ rfl rfl rfl (.cons (.same rfl) (LeH.rest)) (.cons (.one (.same rfl)) (.cons (.one (.same rfl)) (.cons (.one (.same rfl)) (.cons (.one (.same rfl)) (.cons (.one (.same rfl)) (.cons (.one (.same rfl)) (.nil))))))) rfl rfl) ?_
              rintro ⟨a719, a720⟩ v724 hv r725
              have hv : ref11_After_l20 y703 a719 a720 = some v724 := hv
              unfold ref11_After_l20 at hv
              dsimp only
              refine Tri.seqK ?_
              refine Tri.seqK ?_
              refine Tri.run (G := gm_ref11_After) tyOk mixed ?_
              conv => whnf
              refine ⟨⟨(y703.length : Int), (len_map _ _).symm, ?_⟩⟩
              conv => whnf
              refine Tri.cond rfl (fun c727 => ?_) (fun c727 => ?_)
              · replace hv := if_t c727 hv
                refine Tri.run (G := gm_ref11_After) tyOk mixed ?_
                conv => whnf
                refine Tri.seqK ?_
                refine Tri.block ?_
                refine Tri.run (G := gm_ref11_After) tyOk mixed ?_
                conv => whnf
                replace hv := bind_some hv
                obtain ⟨x728, q729, hv⟩ := hv
                refine ⟨(ix_some q729).1, ?_⟩
                conv => whnf
                refine ⟨⟨_, map_get (encI .i64) (ix_some q729).2, ?_⟩⟩
                conv => whnf
                refine ⟨rfl, ?_⟩
                conv => whnf
                replace hv := bind_some hv
                obtain ⟨y730, q731, hv⟩ := hv
                refine PureP.mono (ref11_put_walk a719 x728 y730 q731) ?_
                rintro _ rfl
                conv => whnf
                refine Tri.run (G := gm_ref11_After) tyOk mixed ?_
                conv => whnf
                cases hv
                exact ⟨_, rfl, weak_fin _ rfl rfl rfl (.cons (.same rfl) (LeH.rest)) (.cons (.one (.same rfl)) (.cons (.one (.same rfl)) (.cons (.one (.same rfl)) (.cons (.one (.same rfl)) (.cons (.one (.same rfl)) (.cons (.one (.same rfl)) (.nil))))))) rfl rfl⟩
              · replace hv := if_f c727 hv
                refine Tri.run (G := gm_ref11_After) tyOk mixed ?_
                conv => whnf
                cases hv
                obtain rfl := r725 _ rfl
                exact ⟨rfl, weak_fin _ rfl rfl rfl (.cons (.same rfl) (LeH.rest)) (.cons (.one (.same rfl)) (.cons (.one (.same rfl)) (.cons (.one (.same rfl)) (.cons (.one (.same rfl)) (.nil))))) rfl rfl⟩
            · rintro ex S' ⟨rfl, w732⟩
              conv => whnf
              cases q694
              exact ⟨rfl, Weak.trans w732 (weak_fin _ rfl rfl rfl (.cons (.same rfl) (LeH.rest)) (.cons (.one (.same rfl)) (.cons (.one (.same rfl)) (.cons (.one (.same rfl)) (.cons (.one (.same rfl)) (.nil))))) rfl rfl)⟩
          · conv => whnf
            trivial
      · rintro ex S' ⟨rfl, w733⟩
        conv => whnf
        refine Tri.weak w733 ?_
        refine Tri.run (G := gm_ref11_After) tyOk mixed ?_
        conv => whnf
        cases hv
        exact ⟨_, rfl, weak_fin _ rfl rfl rfl (.cons (.same rfl) (LeH.rest)) (.cons (.one (.same rfl)) (.cons (.one (.same rfl)) (.cons (.one (.same rfl)) (.cons (.one (.same rfl)) (.nil))))) rfl rfl⟩
    · replace hv := if_f c616 hv
      refine Tri.run (G := gm_ref11_After) tyOk mixed ?_
      conv => whnf
      cases hv
      obtain rfl := r614 _ rfl
      exact ⟨rfl, weak_fin _ rfl rfl rfl (LeH.rest) (.cons (.one (.same rfl)) (.nil)) rfl rfl⟩
  · rintro ex S' ⟨rfl, w734⟩
    conv => whnf
    refine Tri.weak w734 ?_
    refine Tri.seqK ?_
    refine Tri.run (G := gm_ref11_After) tyOk mixed ?_
    conv => whnf
    refine Tri.run (G := gm_ref11_After) tyOk mixed ?_
    conv => whnf
    refine fin_here ?_
    conv => whnf
    cases h
    rfl
noncomputable def ref11_Reach_l44 (y3573 : (List Int)) (a3630 : (List Int)) (a3631 : Bool) (a3632 : Int) : Option (((List Int) × Bool × Int) ⊕ ((List Int) × Bool)) :=
  if (decide (a3632 < (y3573.length : Int))) then
    (
      (ix y3573 a3632).bind fun x3656 =>
      (ref11_has a3630 x3656).bind fun y3658 =>
      if (!y3658) then
        (ref11_put a3630 x3656).bind fun y3661 =>
        some (y3661, true)
      else
        some (a3630, a3631)).bind fun (y3654 : (List Int) × Bool) =>
    some (.inl (y3654.1, y3654.2, (IntKind.i64.wrap (a3632 + 1))))
  else
    some (.inr (a3630, a3631))
noncomputable def ref11_Reach_l42 (l : Locks) (a3051 : (List Int)) (a3459 : (List Int)) (a3460 : Bool) (a3461 : Int) : Option (((List Int) × Bool × Int) ⊕ ((List Int) × Bool)) :=
  if (decide (a3461 < (a3051.length : Int))) then
    (ix a3051 a3461).bind fun x3571 =>
    (ref11_After l x3571).bind fun y3573 =>
    (loop (fun (s3635 : (List Int) × Bool × Int) => ref11_Reach_l44 y3573 s3635.1 s3635.2.1 s3635.2.2) (a3459, a3460, (0 : Int))).bind fun (y3633 : (List Int) × Bool) =>
    some (.inl (y3633.1, y3633.2, (IntKind.i64.wrap (a3461 + 1))))
  else
    some (.inr (a3459, a3460))
noncomputable def ref11_Reach_l37 (l : Locks) (a3051 : (List Int)) (a3052 : Bool) : Option (((List Int) × Bool) ⊕ ((List Int))) :=
  if a3052 then
    (loop (fun (s3464 : (List Int) × Bool × Int) => ref11_Reach_l42 l a3051 s3464.1 s3464.2.1 s3464.2.2) (a3051, false, (0 : Int))).bind fun (y3462 : (List Int) × Bool) =>
    some (.inl (y3462.1, y3462.2))
  else
    some (.inr a3051)
noncomputable def ref11_Reach (l : Locks) (txn : Int) : Option ((List Int)) :=
  (ref11_After l txn).bind fun y1 =>
  (loop (fun (s3055 : (List Int) × Bool) => ref11_Reach_l37 l s3055.1 s3055.2) (y1, true)).bind fun (y3053 : (List Int)) =>
  some y3053
def gm_ref11_Reach : Gm := ⟨tys, [], [], []⟩
theorem ref11_Reach_walk (l : Locks) (txn : Int) (r : (List Int)) (h : ref11_Reach l txn = some r) : PureP Try.prog 21 [.agg [.sl (List.map encHold l.Held), .sl (List.map encClaim l.Queue)], .v (.int .i64 txn)] (fun a => a = .sl (List.map (encI .i64) r)) := by
  unfold ref11_Reach at h
  refine pureW (G := gm_ref11_Reach) tyOk Try.func21 rfl (by kernel_rfl) (by simp [Try.f21]) ?_
  refine Tri.seqK ?_
  refine Tri.run (G := gm_ref11_Reach) tyOk mixed ?_
  conv => whnf
  refine Tri.seqK ?_
  refine Tri.run (G := gm_ref11_Reach) tyOk mixed ?_
  conv => whnf
  replace h := bind_some h
  obtain ⟨y1, q2, h⟩ := h
  refine PureP.mono (ref11_After_walk l txn y1 q2) ?_
  rintro _ rfl
  conv => whnf
  refine Tri.seqK ?_
  refine Tri.run (G := gm_ref11_Reach) tyOk mixed ?_
  conv => whnf
  refine Tri.seqK ?_
  refine Tri.block ?_
  replace h := bind_some h
  obtain ⟨y3053, q3054, h⟩ := h
  refine Tri.cut (fun ex S' => ex = (.exit 0) ∧ Weak S' ⟨50, 0, ofRegs [(5, .sl (List.map (encI .i64) y3053))], []⟩) ?_ ?_
  · refine Tri.loopF (fun (s3055 : (List Int) × Bool) => (⟨50, 0, ofRegs [(2, .ptr 0 0), (5, .sl (List.map (encI .i64) s3055.1)), (6, .v (.bool s3055.2))], [.var 25 [.sl (List.map encHold l.Held), .sl (List.map encClaim l.Queue)]]⟩ : St)) q3054 (weak_fin _ rfl rfl rfl (.cons (.same rfl) (LeH.rest)) (.cons (.one (.same rfl)) (.cons (.one (.same rfl)) (.cons (.one (.same rfl)) (.nil)))) rfl rfl) ?_
    rintro ⟨a3051, a3052⟩ v3056 hv r3057
    have hv : ref11_Reach_l37 l a3051 a3052 = some v3056 := hv
    unfold ref11_Reach_l37 at hv
    dsimp only
    refine Tri.seqK ?_
    refine Tri.seqK ?_
    refine Tri.run (G := gm_ref11_Reach) tyOk mixed ?_
    conv => whnf
    refine Tri.cond rfl (fun c3059 => ?_) (fun c3059 => ?_)
    · replace hv := if_t c3059 hv
      refine Tri.run (G := gm_ref11_Reach) tyOk mixed ?_
      conv => whnf
      refine Tri.block ?_
      refine Tri.seqK ?_
      refine Tri.run (G := gm_ref11_Reach) tyOk mixed ?_
      conv => whnf
      refine Tri.seqK ?_
      refine Tri.run (G := gm_ref11_Reach) tyOk mixed ?_
      conv => whnf
      refine Tri.seqK ?_
      refine Tri.run (G := gm_ref11_Reach) tyOk mixed ?_
      conv => whnf
      refine Tri.block ?_
      replace hv := bind_some hv
      obtain ⟨y3462, q3463, hv⟩ := hv
      refine Tri.cut (fun ex S' => ex = (.exit 2) ∧ Weak S' ⟨50, 0, ofRegs [(2, .ptr 0 0), (5, .sl (List.map (encI .i64) y3462.1)), (6, .v (.bool y3462.2))], [.var 25 [.sl (List.map encHold l.Held), .sl (List.map encClaim l.Queue)]]⟩) ?_ ?_
      · refine Tri.loopF (fun (s3464 : (List Int) × Bool × Int) => (⟨50, 0, ofRegs [(2, .ptr 0 0), (5, .sl (List.map (encI .i64) s3464.1)), (6, .v (.bool s3464.2.1)), (7, .sl (List.map (encI .i64) a3051)), (8, .v (.int .i64 s3464.2.2))], [.var 25 [.sl (List.map encHold l.Held), .sl (List.map encClaim l.Queue)]]⟩ : St)) q3463 (weak_fin _ rfl rfl rfl (.cons (.same rfl) (LeH.rest)) (.cons (.one (.same rfl)) (.cons (.one (.same rfl)) (.cons (.one (.same rfl)) (.cons (.one (.same rfl)) (.cons (.one (.same rfl)) (.nil)))))) rfl rfl) ?_
        rintro ⟨a3459, a3460, a3461⟩ v3465 hv r3466
        have hv : ref11_Reach_l42 l a3051 a3459 a3460 a3461 = some v3465 := hv
        unfold ref11_Reach_l42 at hv
        dsimp only
        refine Tri.seqK ?_
        refine Tri.seqK ?_
        refine Tri.run (G := gm_ref11_Reach) tyOk mixed ?_
        conv => whnf
        refine ⟨⟨(a3051.length : Int), (len_map _ _).symm, ?_⟩⟩
        conv => whnf
        refine Tri.cond rfl (fun c3468 => ?_) (fun c3468 => ?_)
        · replace hv := if_t c3468 hv
          refine Tri.run (G := gm_ref11_Reach) tyOk mixed ?_
          conv => whnf
          refine Tri.seqK ?_
          refine Tri.block ?_
          refine Tri.seqK ?_
          refine Tri.run (G := gm_ref11_Reach) tyOk mixed ?_
          conv => whnf
          refine Draw.one 7 (.take 0 (.take 1 (.take 2 (.take 3 (.take 4 (.alt 5 (.take 6 (.fin)) (.nil))))))) [] (by kernel_rfl) ?_
          conv => whnf
          replace hv := bind_some hv
          obtain ⟨x3571, q3572, hv⟩ := hv
          refine ⟨(ix_some q3572).1, ?_⟩
          conv => whnf
          refine ⟨⟨_, map_get (encI .i64) (ix_some q3572).2, ?_⟩⟩
          conv => whnf
          refine ⟨rfl, ?_⟩
          conv => whnf
          refine ⟨?_, ?_⟩
          · conv => whnf
            replace hv := bind_some hv
            obtain ⟨y3573, q3574, hv⟩ := hv
            refine PureP.mono (ref11_After_walk l x3571 y3573 q3574) ?_
            rintro _ rfl
            conv => whnf
            refine Tri.seqK ?_
            refine Tri.run (G := gm_ref11_Reach) tyOk mixed ?_
            conv => whnf
            refine Tri.block ?_
            replace hv := bind_some hv
            obtain ⟨y3633, q3634, hv⟩ := hv
            refine Tri.cut (fun ex S' => ex = (.exit 4) ∧ Weak S' ⟨50, 0, ofRegs [(2, .ptr 0 0), (5, .sl (List.map (encI .i64) y3633.1)), (6, .v (.bool y3633.2)), (7, .sl (List.map (encI .i64) a3051)), (8, .v (.int .i64 a3461))], [.var 25 [.sl (List.map encHold l.Held), .sl (List.map encClaim l.Queue)]]⟩) ?_ ?_
            · refine Tri.loopF (fun (s3635 : (List Int) × Bool × Int) => (⟨50, 0, ofRegs [(2, .ptr 0 0), (5, .sl (List.map (encI .i64) s3635.1)), (6, .v (.bool s3635.2.1)), (7, .sl (List.map (encI .i64) a3051)), (8, .v (.int .i64 a3461)), (9, .sl (List.map (encI .i64) y3573)), (10, .v (.int .i64 s3635.2.2))], [.var 25 [.sl (List.map encHold l.Held), .sl (List.map encClaim l.Queue)]]⟩ : St)) q3634 (weak_fin _ rfl rfl rfl (.cons (.same rfl) (LeH.rest)) (.cons (.one (.same rfl)) (.cons (.one (.same rfl)) (.cons (.one (.same rfl)) (.cons (.one (.same rfl)) (.cons (.one (.same rfl)) (.cons (.one (.same rfl)) (.cons (.one (.same rfl)) (.nil)))))))) rfl rfl) ?_
              rintro ⟨a3630, a3631, a3632⟩ v3636 hv r3637
              have hv : ref11_Reach_l44 y3573 a3630 a3631 a3632 = some v3636 := hv
              unfold ref11_Reach_l44 at hv
              dsimp only
              refine Tri.seqK ?_
              refine Tri.seqK ?_
              refine Tri.run (G := gm_ref11_Reach) tyOk mixed ?_
              conv => whnf
              refine ⟨⟨(y3573.length : Int), (len_map _ _).symm, ?_⟩⟩
              conv => whnf
              refine Tri.cond rfl (fun c3639 => ?_) (fun c3639 => ?_)
              · replace hv := if_t c3639 hv
                refine Tri.run (G := gm_ref11_Reach) tyOk mixed ?_
                conv => whnf
                refine Tri.seqK ?_
                replace hv := bind_some hv
                obtain ⟨y3654, q3655, hv⟩ := hv
                refine Tri.cut (fun ex S' => ex = .normal ∧ Weak S' ⟨50, 0, ofRegs [(2, .ptr 0 0), (5, .sl (List.map (encI .i64) y3654.1)), (6, .v (.bool y3654.2)), (7, .sl (List.map (encI .i64) a3051)), (8, .v (.int .i64 a3461)), (9, .sl (List.map (encI .i64) y3573)), (10, .v (.int .i64 a3632))], [.var 25 [.sl (List.map encHold l.Held), .sl (List.map encClaim l.Queue)]]⟩) ?_ ?_
                · refine Tri.block ?_
                  refine Tri.seqK ?_
                  refine Tri.run (G := gm_ref11_Reach) tyOk mixed ?_
                  conv => whnf
                  replace q3655 := bind_some q3655
                  obtain ⟨x3656, q3657, q3655⟩ := q3655
                  refine ⟨(ix_some q3657).1, ?_⟩
                  conv => whnf
                  refine ⟨⟨_, map_get (encI .i64) (ix_some q3657).2, ?_⟩⟩
                  conv => whnf
                  refine ⟨rfl, ?_⟩
                  conv => whnf
                  replace q3655 := bind_some q3655
                  obtain ⟨y3658, q3659, q3655⟩ := q3655
                  refine PureP.mono (ref11_has_walk a3630 x3656 y3658 q3659) ?_
                  rintro _ rfl
                  conv => whnf
                  refine Tri.seqK ?_
                  refine Tri.run (G := gm_ref11_Reach) tyOk mixed ?_
                  conv => whnf
                  refine Tri.cond rfl (fun c3660 => ?_) (fun c3660 => ?_)
                  · replace q3655 := if_t c3660 q3655
                    refine Tri.seqK ?_
                    refine Tri.run (G := gm_ref11_Reach) tyOk mixed ?_
                    conv => whnf
                    refine ⟨(ix_some q3657).1, ?_⟩
                    conv => whnf
                    refine ⟨⟨_, map_get (encI .i64) (ix_some q3657).2, ?_⟩⟩
                    conv => whnf
                    refine ⟨rfl, ?_⟩
                    conv => whnf
                    replace q3655 := bind_some q3655
                    obtain ⟨y3661, q3662, q3655⟩ := q3655
                    refine PureP.mono (ref11_put_walk a3630 x3656 y3661 q3662) ?_
                    rintro _ rfl
                    conv => whnf
                    refine Tri.run (G := gm_ref11_Reach) tyOk mixed ?_
                    conv => whnf
                    cases q3655
                    exact ⟨rfl, weak_fin _ rfl rfl rfl (.cons (.same rfl) (LeH.rest)) (.cons (.one (.same rfl)) (.cons (.one (.same rfl)) (.cons (.one (.same rfl)) (.cons (.one (.same rfl)) (.cons (.one (.same rfl)) (.cons (.one (.same rfl)) (.cons (.one (.same rfl)) (.nil)))))))) rfl rfl⟩
                  · replace q3655 := if_f c3660 q3655
                    refine Tri.run (G := gm_ref11_Reach) tyOk mixed ?_
                    conv => whnf
                    cases q3655
                    exact ⟨rfl, weak_fin _ rfl rfl rfl (.cons (.same rfl) (LeH.rest)) (.cons (.one (.same rfl)) (.cons (.one (.same rfl)) (.cons (.one (.same rfl)) (.cons (.one (.same rfl)) (.cons (.one (.same rfl)) (.cons (.one (.same rfl)) (.cons (.one (.same rfl)) (.nil)))))))) rfl rfl⟩
                · rintro ex S' ⟨rfl, w3663⟩
                  conv => whnf
                  refine Tri.weak w3663 ?_
                  refine Tri.run (G := gm_ref11_Reach) tyOk mixed ?_
                  conv => whnf
                  cases hv
                  exact ⟨_, rfl, weak_fin _ rfl rfl rfl (.cons (.same rfl) (LeH.rest)) (.cons (.one (.same rfl)) (.cons (.one (.same rfl)) (.cons (.one (.same rfl)) (.cons (.one (.same rfl)) (.cons (.one (.same rfl)) (.cons (.one (.same rfl)) (.cons (.one (.same rfl)) (.nil)))))))) rfl rfl⟩
              · replace hv := if_f c3639 hv
                refine Tri.run (G := gm_ref11_Reach) tyOk mixed ?_
                conv => whnf
                cases hv
                obtain rfl := r3637 _ rfl
                exact ⟨rfl, weak_fin _ rfl rfl rfl (.cons (.same rfl) (LeH.rest)) (.cons (.one (.same rfl)) (.cons (.one (.same rfl)) (.cons (.one (.same rfl)) (.cons (.one (.same rfl)) (.cons (.one (.same rfl)) (.nil)))))) rfl rfl⟩
            · rintro ex S' ⟨rfl, w3664⟩
              conv => whnf
              refine Tri.weak w3664 ?_
              refine Tri.run (G := gm_ref11_Reach) tyOk mixed ?_
              conv => whnf
              cases hv
              exact ⟨_, rfl, weak_fin _ rfl rfl rfl (.cons (.same rfl) (LeH.rest)) (.cons (.one (.same rfl)) (.cons (.one (.same rfl)) (.cons (.one (.same rfl)) (.cons (.one (.same rfl)) (.cons (.one (.same rfl)) (.nil)))))) rfl rfl⟩
          · conv => whnf
            trivial
        · replace hv := if_f c3468 hv
          refine Tri.run (G := gm_ref11_Reach) tyOk mixed ?_
          conv => whnf
          cases hv
          obtain rfl := r3466 _ rfl
          exact ⟨rfl, weak_fin _ rfl rfl rfl (.cons (.same rfl) (LeH.rest)) (.cons (.one (.same rfl)) (.cons (.one (.same rfl)) (.cons (.one (.same rfl)) (.nil)))) rfl rfl⟩
      · rintro ex S' ⟨rfl, w3665⟩
        conv => whnf
        cases hv
        exact ⟨_, rfl, Weak.trans w3665 (weak_fin _ rfl rfl rfl (.cons (.same rfl) (LeH.rest)) (.cons (.one (.same rfl)) (.cons (.one (.same rfl)) (.cons (.one (.same rfl)) (.nil)))) rfl rfl)⟩
    · replace hv := if_f c3059 hv
      refine Tri.run (G := gm_ref11_Reach) tyOk mixed ?_
      conv => whnf
      cases hv
      obtain rfl := r3057 _ rfl
      exact ⟨rfl, weak_fin _ rfl rfl rfl (LeH.rest) (.cons (.one (.same rfl)) (.nil)) rfl rfl⟩
  · rintro ex S' ⟨rfl, w3666⟩
    conv => whnf
    refine Tri.weak w3666 ?_
    refine Tri.seqK ?_
    refine Tri.run (G := gm_ref11_Reach) tyOk mixed ?_
    conv => whnf
    refine Tri.run (G := gm_ref11_Reach) tyOk mixed ?_
    conv => whnf
    refine fin_here ?_
    conv => whnf
    cases h
    rfl
noncomputable def ref11_Ring_l2 (l : Locks) (txn : Int) (y1 : (List Int)) (a382 : Int) (a383 : (List Int)) : Option ((Int × (List Int)) ⊕ ((List Int))) :=
  if (decide (a382 < (y1.length : Int))) then
    (
      (ix y1 a382).bind fun x427 =>
      (ref11_Reach l x427).bind fun y429 =>
      (ref11_has y429 txn).bind fun y431 =>
      if y431 then
        need ((a383.length + 1) * 8 ≤ 140737488355328) <|
        some (a383 ++ [x427])
      else
        some a383).bind fun (y419 : (List Int)) =>
    some (.inl ((IntKind.i64.wrap (a382 + 1)), y419))
  else
    some (.inr a383)
noncomputable def ref11_Ring (l : Locks) (txn : Int) : Option ((List Int)) :=
  (ref11_Reach l txn).bind fun y1 =>
  (ref11_has y1 txn).bind fun y3 =>
  if (!y3) then
    some ([] : (List Int))
  else
    (loop (fun (s386 : Int × (List Int)) => ref11_Ring_l2 l txn y1 s386.1 s386.2) ((0 : Int), ([] : (List Int)))).bind fun (y384 : (List Int)) =>
    some y384
def gm_ref11_Ring : Gm := ⟨tys, [], [], []⟩
theorem ref11_Ring_walk (l : Locks) (txn : Int) (r : (List Int)) (h : ref11_Ring l txn = some r) : PureP Try.prog 23 [.agg [.sl (List.map encHold l.Held), .sl (List.map encClaim l.Queue)], .v (.int .i64 txn)] (fun a => a = .sl (List.map (encI .i64) r)) := by
  unfold ref11_Ring at h
  refine pureW (G := gm_ref11_Ring) tyOk Try.func23 rfl (by kernel_rfl) (by simp [Try.f23]) ?_
  refine Tri.seqK ?_
  refine Tri.run (G := gm_ref11_Ring) tyOk mixed ?_
  conv => whnf
  refine Tri.seqK ?_
  refine Tri.run (G := gm_ref11_Ring) tyOk mixed ?_
  conv => whnf
  replace h := bind_some h
  obtain ⟨y1, q2, h⟩ := h
  refine PureP.mono (ref11_Reach_walk l txn y1 q2) ?_
  rintro _ rfl
  conv => whnf
  refine Tri.seqK ?_
  refine Tri.run (G := gm_ref11_Ring) tyOk mixed ?_
  conv => whnf
  replace h := bind_some h
  obtain ⟨y3, q4, h⟩ := h
  refine PureP.mono (ref11_has_walk y1 txn y3 q4) ?_
  rintro _ rfl
  conv => whnf
  refine Tri.seqK ?_
  refine Tri.seqK ?_
  refine Tri.run (G := gm_ref11_Ring) tyOk mixed ?_
  conv => whnf
  refine Tri.cond rfl (fun c6 => ?_) (fun c6 => ?_)
  · replace h := if_t c6 h
    refine Tri.seqK ?_
    refine Tri.run (G := gm_ref11_Ring) tyOk mixed ?_
    conv => whnf
    refine Tri.run (G := gm_ref11_Ring) tyOk mixed ?_
    conv => whnf
    refine fin_here ?_
    conv => whnf
    cases h
    rfl
  · replace h := if_f c6 h
    refine Tri.run (G := gm_ref11_Ring) tyOk mixed ?_
    conv => whnf
    refine Tri.seqK ?_
    refine Tri.run (G := gm_ref11_Ring) tyOk mixed ?_
    conv => whnf
    refine Tri.seqK ?_
    refine Tri.seqK ?_
    refine Tri.run (G := gm_ref11_Ring) tyOk mixed ?_
    conv => whnf
    refine Tri.block ?_
    replace h := bind_some h
    obtain ⟨y384, q385, h⟩ := h
    refine Tri.cut (fun ex S' => ex = (.exit 0) ∧ Weak S' ⟨41, 0, ofRegs [(7, .row 1 ((List.map (encI .i64) y384).length))], [.gone, .row 3 1 (List.map (encI .i64) y384)]⟩) ?_ ?_
    · refine Tri.loopF (fun (s386 : Int × (List Int)) => (⟨41, 0, ofRegs [(1, .v (.int .i64 txn)), (2, .ptr 0 0), (5, .sl (List.map (encI .i64) y1)), (7, .row 1 ((List.map (encI .i64) s386.2).length)), (8, .v (.int .i64 s386.1))], [.var 25 [.sl (List.map encHold l.Held), .sl (List.map encClaim l.Queue)], .row 3 1 (List.map (encI .i64) s386.2)]⟩ : St)) q385 (Weak.trans (weak_nil 7 3 1 rfl) (weak_fin _ rfl rfl rfl (.cons (.same rfl) (.cons (.same rfl) (LeH.rest))) (.cons (.one (.same rfl)) (.cons (.one (.same rfl)) (.cons (.one (.same rfl)) (.cons (.one (.same (show (.row 1 0 : AV) = (.row 1 ((List.map (encI .i64) []).length) : AV) from congrArg (AV.row 1) (by simp)))) (.cons (.one (.same rfl)) (.nil)))))) rfl rfl)) ?_
      rintro ⟨a382, a383⟩ v387 hv r388
      have hv : ref11_Ring_l2 l txn y1 a382 a383 = some v387 := hv
      unfold ref11_Ring_l2 at hv
      dsimp only
      refine Tri.seqK ?_
      refine Tri.seqK ?_
      refine Tri.run (G := gm_ref11_Ring) tyOk mixed ?_
      conv => whnf
      refine ⟨⟨(y1.length : Int), (len_map _ _).symm, ?_⟩⟩
      conv => whnf
      refine Tri.cond rfl (fun c390 => ?_) (fun c390 => ?_)
      · replace hv := if_t c390 hv
        refine Tri.run (G := gm_ref11_Ring) tyOk mixed ?_
        conv => whnf
        refine Tri.seqK ?_
        replace hv := bind_some hv
        obtain ⟨y419, q420, hv⟩ := hv
        refine Tri.cut (fun ex S' => ex = .normal ∧ Weak S' ⟨41, 0, ofRegs [(1, .v (.int .i64 txn)), (2, .ptr 0 0), (5, .sl (List.map (encI .i64) y1)), (7, .row 1 ((List.map (encI .i64) y419).length)), (8, .v (.int .i64 a382))], [.var 25 [.sl (List.map encHold l.Held), .sl (List.map encClaim l.Queue)], .row 3 1 (List.map (encI .i64) y419)]⟩) ?_ ?_
        · refine Tri.block ?_
          refine Tri.seqK ?_
          refine Tri.run (G := gm_ref11_Ring) tyOk mixed ?_
          conv => whnf
          refine Draw.one 9 (.take 0 (.take 1 (.take 2 (.take 3 (.take 4 (.take 6 (.alt 5 (.alt 7 (.take 8 (.fin)) (.nil)) (.nil)))))))) [] (by kernel_rfl) ?_
          conv => whnf
          replace q420 := bind_some q420
          obtain ⟨x427, q428, q420⟩ := q420
          refine ⟨(ix_some q428).1, ?_⟩
          conv => whnf
          refine ⟨⟨_, map_get (encI .i64) (ix_some q428).2, ?_⟩⟩
          conv => whnf
          refine ⟨rfl, ?_⟩
          conv => whnf
          refine ⟨?_, ?_⟩
          · conv => whnf
            replace q420 := bind_some q420
            obtain ⟨y429, q430, q420⟩ := q420
            refine PureP.mono (ref11_Reach_walk l x427 y429 q430) ?_
            rintro _ rfl
            conv => whnf
            refine ⟨?_, ?_⟩
            · conv => whnf
              replace q420 := bind_some q420
              obtain ⟨y431, q432, q420⟩ := q420
              refine PureP.mono (ref11_has_walk y429 txn y431 q432) ?_
              rintro _ rfl
              conv => whnf
              refine Tri.seqK ?_
              refine Tri.run (G := gm_ref11_Ring) tyOk mixed ?_
              conv => whnf
              refine Tri.cond rfl (fun c433 => ?_) (fun c433 => ?_)
              · replace q420 := if_t c433 q420
                refine Tri.run (G := gm_ref11_Ring) tyOk mixed ?_
                conv => whnf
                refine ⟨(ix_some q428).1, ?_⟩
                conv => whnf
                refine ⟨⟨_, map_get (encI .i64) (ix_some q428).2, ?_⟩⟩
                conv => whnf
                refine ⟨rfl, ?_⟩
                conv => whnf
                refine ⟨⟨List.map (encI .i64) [x427], rfl, ?_⟩⟩
                conv => whnf
                refine ⟨rfl, ?_⟩
                conv => whnf
                refine ⟨rfl, ?_⟩
                conv => whnf
                replace q420 := need_some q420
                obtain ⟨p434, q420⟩ := q420
                refine ⟨by simp only [List.length_map]; exact p434, ?_⟩
                conv => whnf
                refine ⟨⟨List.map (encI .i64) (a383 ++ [x427]), map_app (encI .i64) _ _ rfl rfl, ?_⟩⟩
                conv => whnf
                cases q420
                exact ⟨rfl, weak_fin _ rfl rfl rfl (.cons (.same rfl) (.cons (.same rfl) (LeH.rest))) (.cons (.one (.same rfl)) (.cons (.one (.same rfl)) (.cons (.one (.same rfl)) (.cons (.one (.same rfl)) (.cons (.one (.same rfl)) (.nil)))))) rfl rfl⟩
              · replace q420 := if_f c433 q420
                refine Tri.run (G := gm_ref11_Ring) tyOk mixed ?_
                conv => whnf
                cases q420
                exact ⟨rfl, weak_fin _ rfl rfl rfl (.cons (.same rfl) (.cons (.same rfl) (LeH.rest))) (.cons (.one (.same rfl)) (.cons (.one (.same rfl)) (.cons (.one (.same rfl)) (.cons (.one (.same rfl)) (.cons (.one (.same rfl)) (.nil)))))) rfl rfl⟩
            · conv => whnf
              trivial
          · conv => whnf
            trivial
        · rintro ex S' ⟨rfl, w435⟩
          conv => whnf
          refine Tri.weak w435 ?_
          refine Tri.run (G := gm_ref11_Ring) tyOk mixed ?_
          conv => whnf
          cases hv
          exact ⟨_, rfl, weak_fin _ rfl rfl rfl (.cons (.same rfl) (.cons (.same rfl) (LeH.rest))) (.cons (.one (.same rfl)) (.cons (.one (.same rfl)) (.cons (.one (.same rfl)) (.cons (.one (.same rfl)) (.cons (.one (.same rfl)) (.nil)))))) rfl rfl⟩
      · replace hv := if_f c390 hv
        refine Tri.run (G := gm_ref11_Ring) tyOk mixed ?_
        conv => whnf
        cases hv
        obtain rfl := r388 _ rfl
        exact ⟨rfl, weak_fin _ rfl rfl rfl (.cons (.gone) (.cons (.same rfl) (LeH.rest))) (.cons (.one (.same rfl)) (.nil)) rfl rfl⟩
    · rintro ex S' ⟨rfl, w436⟩
      conv => whnf
      refine Tri.weak w436 ?_
      refine Tri.seqK ?_
      refine Tri.run (G := gm_ref11_Ring) tyOk mixed ?_
      conv => whnf
      refine Tri.run (G := gm_ref11_Ring) tyOk mixed ?_
      conv => whnf
      refine fin_here ?_
      conv => whnf
      refine ⟨rfl, ?_⟩
      conv => whnf
      cases h
      rfl
noncomputable def ref11_Victim (l : Locks) (txn : Int) : Option (Int × Bool) :=
  (ref11_Ring l txn).bind fun y1 =>
  if (decide ((y1.length : Int) = 0)) then
    some (0, false)
  else
    (ix y1 (IntKind.i64.wrap ((y1.length : Int) - 1))).bind fun x5 =>
    some (x5, true)
def gm_ref11_Victim : Gm := ⟨tys, [], [], []⟩
theorem ref11_Victim_walk (l : Locks) (txn : Int) (r : Int × Bool) (h : ref11_Victim l txn = some r) : PureP Try.prog 25 [.agg [.sl (List.map encHold l.Held), .sl (List.map encClaim l.Queue)], .v (.int .i64 txn)] (fun a => a = .tup [.v (.int .i64 r.1), .v (.bool r.2)]) := by
  unfold ref11_Victim at h
  refine pureW (G := gm_ref11_Victim) tyOk Try.func25 rfl (by kernel_rfl) (by simp [Try.f25]) ?_
  refine Tri.seqK ?_
  refine Tri.run (G := gm_ref11_Victim) tyOk mixed ?_
  conv => whnf
  refine Tri.seqK ?_
  refine Tri.run (G := gm_ref11_Victim) tyOk mixed ?_
  conv => whnf
  replace h := bind_some h
  obtain ⟨y1, q2, h⟩ := h
  refine PureP.mono (ref11_Ring_walk l txn y1 q2) ?_
  rintro _ rfl
  conv => whnf
  refine Tri.seqK ?_
  refine Tri.seqK ?_
  refine Tri.run (G := gm_ref11_Victim) tyOk mixed ?_
  conv => whnf
  refine ⟨⟨(y1.length : Int), (len_map _ _).symm, ?_⟩⟩
  conv => whnf
  refine Tri.cond rfl (fun c4 => ?_) (fun c4 => ?_)
  · replace h := if_t c4 h
    refine Tri.seqK ?_
    refine Tri.run (G := gm_ref11_Victim) tyOk mixed ?_
    conv => whnf
    refine Tri.run (G := gm_ref11_Victim) tyOk mixed ?_
    conv => whnf
    refine fin_here ?_
    conv => whnf
    cases h
    rfl
  · replace h := if_f c4 h
    refine Tri.run (G := gm_ref11_Victim) tyOk mixed ?_
    conv => whnf
    refine Tri.seqK ?_
    refine Tri.run (G := gm_ref11_Victim) tyOk mixed ?_
    conv => whnf
    refine ⟨⟨(y1.length : Int), (len_map _ _).symm, ?_⟩⟩
    conv => whnf
    replace h := bind_some h
    obtain ⟨x5, q6, h⟩ := h
    refine ⟨(ix_some q6).1, ?_⟩
    conv => whnf
    refine ⟨⟨_, map_get (encI .i64) (ix_some q6).2, ?_⟩⟩
    conv => whnf
    refine ⟨rfl, ?_⟩
    conv => whnf
    refine Tri.run (G := gm_ref11_Victim) tyOk mixed ?_
    conv => whnf
    refine fin_here ?_
    conv => whnf
    cases h
    rfl
noncomputable def law11_RingTells (l : Locks) (txn : Int) : Option (Bool) :=
  law11_shown.bind fun y1 =>
  (law11_small l).bind fun y3 =>
  if ((!y1) || (!y3)) then
    some y1
  else
    (ring_After l txn).bind fun y23 =>
    (ref11_After l txn).bind fun y25 =>
    (ref10_Ints y23 y25).bind fun y27 =>
    (ring_Reach l txn).bind fun y35 =>
    (ref11_Reach l txn).bind fun y37 =>
    (ref10_Ints y35 y37).bind fun y39 =>
    (ring_Ring l txn).bind fun y47 =>
    (ref11_Ring l txn).bind fun y49 =>
    (ref10_Ints y47 y49).bind fun y51 =>
    (ring_Victim l txn).bind fun y53 =>
    (ref11_Victim l txn).bind fun y55 =>
    if y27 then
      if y39 then
        if y51 then
          if (decide (y53.1 = y55.1)) then
            some (y53.2 == y55.2)
          else
            some false
        else
          some false
      else
        some false
    else
      some false
def gm_law11_RingTells : Gm := ⟨tys, [], [(20, 3, 1)], []⟩
theorem law11_RingTells_walk (l : Locks) (txn : Int) (r : Bool) (h : law11_RingTells l txn = some r) : PureP Try.prog 3 [.agg [.sl (List.map encHold l.Held), .sl (List.map encClaim l.Queue)], .v (.int .i64 txn)] (fun a => a = .v (.bool r)) := by
  unfold law11_RingTells at h
  refine pureW (G := gm_law11_RingTells) tyOk Try.func3 rfl (by kernel_rfl) (by simp [Try.f3]) ?_
  refine Tri.seqK ?_
  refine Tri.run (G := gm_law11_RingTells) tyOk mixed ?_
  conv => whnf
  refine Tri.seqK ?_
  refine Tri.run (G := gm_law11_RingTells) tyOk mixed ?_
  conv => whnf
  replace h := bind_some h
  obtain ⟨y1, q2, h⟩ := h
  refine PureP.mono (law11_shown_walk y1 q2) ?_
  rintro _ rfl
  conv => whnf
  refine Tri.seqK ?_
  refine Tri.run (G := gm_law11_RingTells) tyOk mixed ?_
  conv => whnf
  replace h := bind_some h
  obtain ⟨y3, q4, h⟩ := h
  refine PureP.mono (law11_small_walk l y3 q4) ?_
  rintro _ rfl
  conv => whnf
  refine Tri.seqK ?_
  refine Tri.seqK ?_
  refine Tri.cut (fun ex S' => ex = .normal ∧ Weak S' ⟨74, 0, ofRegs [(1, .v (.int .i64 txn)), (2, .ptr 0 0), (5, .v (.bool y1)), (22, .v (.bool ((!y1) || (!y3))))], [.var 25 [.sl (List.map encHold l.Held), .sl (List.map encClaim l.Queue)]]⟩) ?_ ?_
  · refine Tri.run (G := gm_law11_RingTells) tyOk mixed ?_
    conv => whnf
    refine cond_mk (fun c14 => ?_) (fun c14 => ?_)
    · replace c14 : (!y1) = true := c14
      conv => whnf
      exact ⟨rfl, weak_fin _ rfl rfl rfl (.cons (.same rfl) (LeH.rest)) (.cons (.one (.same rfl)) (.cons (.one (.same rfl)) (.cons (.one (.same rfl)) (.cons (.one (.same (show (.v (.bool true) : AV) = (.v (.bool ((!y1) || (!y3))) : AV) from by first | (simp [c14]; done) | simp only [c14, Bool.or_true, Bool.true_or, Bool.false_or, Bool.or_false, Bool.and_true, Bool.true_and, Bool.and_false, Bool.false_and, Bool.not_true, Bool.not_false, if_true, if_false, Bool.false_eq_true]))) (.nil))))) rfl rfl⟩
    · replace c14 : (!y1) = false := c14
      conv => whnf
      exact ⟨rfl, weak_fin _ rfl rfl rfl (.cons (.same rfl) (LeH.rest)) (.cons (.one (.same rfl)) (.cons (.one (.same rfl)) (.cons (.one (.same rfl)) (.cons (.one (.same (show (.v (.bool (!y3)) : AV) = (.v (.bool ((!y1) || (!y3))) : AV) from by first | (simp [c14]; done) | simp only [c14, Bool.or_true, Bool.true_or, Bool.false_or, Bool.or_false, Bool.and_true, Bool.true_and, Bool.and_false, Bool.false_and, Bool.not_true, Bool.not_false, if_true, if_false, Bool.false_eq_true]))) (.nil))))) rfl rfl⟩
  · rintro ex S' ⟨rfl, w15⟩
    conv => whnf
    refine Tri.weak w15 ?_
    refine Tri.cond rfl (fun c16 => ?_) (fun c16 => ?_)
    · replace h := if_t c16 h
      refine Tri.seqK ?_
      refine Tri.run (G := gm_law11_RingTells) tyOk mixed ?_
      conv => whnf
      refine Tri.run (G := gm_law11_RingTells) tyOk mixed ?_
      conv => whnf
      refine fin_here ?_
      conv => whnf
      cases h
      rfl
    · replace h := if_f c16 h
      refine Tri.run (G := gm_law11_RingTells) tyOk mixed ?_
      conv => whnf
      refine Tri.seqK ?_
      refine Tri.run (G := gm_law11_RingTells) tyOk mixed ?_
      conv => whnf
      refine Draw.one 8 (.take 0 (.take 1 (.take 3 (.take 4 (.alt 2 (.alt 5 (.alt 6 (.take 7 (.fin)) (.nil)) (.nil)) (.nil)))))) [] (by kernel_rfl) ?_
      conv => whnf
      refine ⟨?_, ?_⟩
      · conv => whnf
        replace h := bind_some h
        obtain ⟨y23, q24, h⟩ := h
        refine PureP.mono (ring_After_walk l txn y23 q24) ?_
        rintro _ rfl
        conv => whnf
        refine ⟨?_, ?_⟩
        · conv => whnf
          replace h := bind_some h
          obtain ⟨y25, q26, h⟩ := h
          refine PureP.mono (ref11_After_walk l txn y25 q26) ?_
          rintro _ rfl
          conv => whnf
          refine ⟨?_, ?_⟩
          · conv => whnf
            replace h := bind_some h
            obtain ⟨y27, q28, h⟩ := h
            refine PureP.mono (ref10_Ints_walk y23 y25 y27 q28) ?_
            rintro _ rfl
            conv => whnf
            refine Tri.seqK ?_
            refine Tri.run (G := gm_law11_RingTells) tyOk mixed ?_
            conv => whnf
            refine Draw.one 8 (.take 0 (.take 1 (.take 3 (.take 4 (.alt 2 (.alt 5 (.alt 6 (.take 7 (.fin)) (.nil)) (.nil)) (.nil)))))) [] (by kernel_rfl) ?_
            conv => whnf
            refine ⟨?_, ?_⟩
            · conv => whnf
              replace h := bind_some h
              obtain ⟨y35, q36, h⟩ := h
              refine FreshP.mono (ring_Reach_walk l txn y35 q36) ?_
              rintro _ rfl
              conv => whnf
              refine ⟨?_, ?_⟩
              · conv => whnf
                replace h := bind_some h
                obtain ⟨y37, q38, h⟩ := h
                refine PureP.mono (ref11_Reach_walk l txn y37 q38) ?_
                rintro _ rfl
                conv => whnf
                refine ⟨?_, ?_⟩
                · conv => whnf
                  refine ⟨rfl, ?_⟩
                  conv => whnf
                  replace h := bind_some h
                  obtain ⟨y39, q40, h⟩ := h
                  refine PureP.mono (ref10_Ints_walk y35 y37 y39 q40) ?_
                  rintro _ rfl
                  conv => whnf
                  refine Tri.seqK ?_
                  refine Tri.run (G := gm_law11_RingTells) tyOk mixed ?_
                  conv => whnf
                  refine Draw.one 8 (.take 0 (.take 1 (.take 3 (.take 4 (.alt 2 (.alt 5 (.alt 6 (.take 7 (.fin)) (.nil)) (.nil)) (.nil)))))) [] (by kernel_rfl) ?_
                  conv => whnf
                  refine ⟨?_, ?_⟩
                  · conv => whnf
                    replace h := bind_some h
                    obtain ⟨y47, q48, h⟩ := h
                    refine PureP.mono (ring_Ring_walk l txn y47 q48) ?_
                    rintro _ rfl
                    conv => whnf
                    refine ⟨?_, ?_⟩
                    · conv => whnf
                      replace h := bind_some h
                      obtain ⟨y49, q50, h⟩ := h
                      refine PureP.mono (ref11_Ring_walk l txn y49 q50) ?_
                      rintro _ rfl
                      conv => whnf
                      refine ⟨?_, ?_⟩
                      · conv => whnf
                        replace h := bind_some h
                        obtain ⟨y51, q52, h⟩ := h
                        refine PureP.mono (ref10_Ints_walk y47 y49 y51 q52) ?_
                        rintro _ rfl
                        conv => whnf
                        refine Tri.seqK ?_
                        refine Tri.run (G := gm_law11_RingTells) tyOk mixed ?_
                        conv => whnf
                        replace h := bind_some h
                        obtain ⟨y53, q54, h⟩ := h
                        refine PureP.mono (ring_Victim_walk l txn y53 q54) ?_
                        rintro _ rfl
                        conv => whnf
                        refine Tri.seqK ?_
                        refine Tri.run (G := gm_law11_RingTells) tyOk mixed ?_
                        conv => whnf
                        replace h := bind_some h
                        obtain ⟨y55, q56, h⟩ := h
                        refine PureP.mono (ref11_Victim_walk l txn y55 q56) ?_
                        rintro _ rfl
                        conv => whnf
                        refine Tri.seqK ?_
                        refine Tri.run (G := gm_law11_RingTells) tyOk mixed ?_
                        conv => whnf
                        refine cond_mk (fun c57 => ?_) (fun c57 => ?_)
                        · replace h := if_t c57 h
                          conv => whnf
                          refine cond_mk (fun c58 => ?_) (fun c58 => ?_)
                          · replace h := if_t c58 h
                            conv => whnf
                            refine cond_mk (fun c59 => ?_) (fun c59 => ?_)
                            · replace h := if_t c59 h
                              conv => whnf
                              refine cond_mk (fun c60 => ?_) (fun c60 => ?_)
                              · replace h := if_t c60 h
                                conv => whnf
                                refine Tri.run (G := gm_law11_RingTells) tyOk mixed ?_
                                conv => whnf
                                refine fin_here ?_
                                conv => whnf
                                cases h
                                rfl
                              · replace h := if_f c60 h
                                conv => whnf
                                refine Tri.run (G := gm_law11_RingTells) tyOk mixed ?_
                                conv => whnf
                                refine fin_here ?_
                                conv => whnf
                                cases h
                                rfl
                            · replace h := if_f c59 h
                              conv => whnf
                              refine Tri.run (G := gm_law11_RingTells) tyOk mixed ?_
                              conv => whnf
                              refine fin_here ?_
                              conv => whnf
                              cases h
                              rfl
                          · replace h := if_f c58 h
                            conv => whnf
                            refine Tri.run (G := gm_law11_RingTells) tyOk mixed ?_
                            conv => whnf
                            refine fin_here ?_
                            conv => whnf
                            cases h
                            rfl
                        · replace h := if_f c57 h
                          conv => whnf
                          refine Tri.run (G := gm_law11_RingTells) tyOk mixed ?_
                          conv => whnf
                          refine fin_here ?_
                          conv => whnf
                          cases h
                          rfl
                      · conv => whnf
                        trivial
                    · conv => whnf
                      trivial
                  · conv => whnf
                    trivial
                · conv => whnf
                  trivial
              · conv => whnf
                trivial
            · conv => whnf
              trivial
          · conv => whnf
            trivial
        · conv => whnf
          trivial
      · conv => whnf
        trivial
noncomputable def law11_has_l2 (l : (List Int)) (n : Int) (a52 : Int) : Option ((Int) ⊕ ((Unit) ⊕ (Unit))) :=
  if (decide (a52 < (l.length : Int))) then
    (ix l a52).bind fun x65 =>
    if (decide (x65 = n)) then
      some (.inr (.inl ()))
    else
      some (.inl (IntKind.i64.wrap (a52 + 1)))
  else
    some (.inr (.inr ()))
noncomputable def law11_has (l : (List Int)) (n : Int) : Option (Bool) :=
  (loop (fun (s57 : Int) => law11_has_l2 l n s57) (0 : Int)).bind fun (y53 : (Unit) ⊕ (Unit)) =>
  match y53 with
  | (.inl v55) =>
    some true
  | (.inr v56) =>
    some false
def gm_law11_has : Gm := ⟨tys, [], [], []⟩
theorem law11_has_walk (l : (List Int)) (n : Int) (r : Bool) (h : law11_has l n = some r) : PureP Try.prog 26 [.sl (List.map (encI .i64) l), .v (.int .i64 n)] (fun a => a = .v (.bool r)) := by
  unfold law11_has at h
  refine pureW (G := gm_law11_has) tyOk Try.func26 rfl (by kernel_rfl) (by simp [Try.f26]) ?_
  refine Tri.seqK ?_
  refine Tri.run (G := gm_law11_has) tyOk mixed ?_
  conv => whnf
  refine Tri.seqK ?_
  refine Tri.seqK ?_
  refine Tri.run (G := gm_law11_has) tyOk mixed ?_
  conv => whnf
  refine Tri.block ?_
  replace h := bind_some h
  obtain ⟨y53, q54, h⟩ := h
  refine Tri.cut (fun ex S' => (∃ v55 : Unit, y53 = (.inl v55) ∧ ex = .ret ∧ Weak S' ⟨18, 0, ofRegs [(4, .v (.bool true))], []⟩) ∨ (∃ v56 : Unit, y53 = (.inr v56) ∧ ex = (.exit 0) ∧ Weak S' ⟨18, 0, ofRegs [], []⟩)) ?_ ?_
  · refine Tri.loopF (fun (s57 : Int) => (⟨18, 0, ofRegs [(0, .sl (List.map (encI .i64) l)), (1, .v (.int .i64 n)), (5, .v (.int .i64 s57))], []⟩ : St)) q54 (weak_fin _ rfl rfl rfl (LeH.rest) (.cons (.one (.same rfl)) (.cons (.one (.same rfl)) (.cons (.one (.same rfl)) (.nil)))) rfl rfl) ?_
    rintro a52 v58 hv r59
    have hv : law11_has_l2 l n a52 = some v58 := hv
    unfold law11_has_l2 at hv
    refine Tri.seqK ?_
    refine Tri.seqK ?_
    refine Tri.run (G := gm_law11_has) tyOk mixed ?_
    conv => whnf
    refine ⟨⟨(l.length : Int), (len_map _ _).symm, ?_⟩⟩
    conv => whnf
    refine Tri.cond rfl (fun c61 => ?_) (fun c61 => ?_)
    · replace hv := if_t c61 hv
      refine Tri.run (G := gm_law11_has) tyOk mixed ?_
      conv => whnf
      refine Tri.seqK ?_
      refine Tri.block ?_
      refine Tri.seqK ?_
      refine Tri.run (G := gm_law11_has) tyOk mixed ?_
      conv => whnf
      replace hv := bind_some hv
      obtain ⟨x65, q66, hv⟩ := hv
      refine ⟨(ix_some q66).1, ?_⟩
      conv => whnf
      refine ⟨⟨_, map_get (encI .i64) (ix_some q66).2, ?_⟩⟩
      conv => whnf
      refine ⟨rfl, ?_⟩
      conv => whnf
      refine Tri.cond rfl (fun c67 => ?_) (fun c67 => ?_)
      · replace hv := if_t c67 hv
        refine Tri.seqK ?_
        refine Tri.run (G := gm_law11_has) tyOk mixed ?_
        conv => whnf
        refine Tri.run (G := gm_law11_has) tyOk mixed ?_
        conv => whnf
        cases hv
        obtain rfl := r59 _ rfl
        exact Or.inl ⟨_, rfl, rfl, weak_fin _ rfl rfl rfl (LeH.rest) (.cons (.one (.same rfl)) (.nil)) rfl rfl⟩
      · replace hv := if_f c67 hv
        refine Tri.run (G := gm_law11_has) tyOk mixed ?_
        conv => whnf
        refine Tri.run (G := gm_law11_has) tyOk mixed ?_
        conv => whnf
        cases hv
        exact ⟨_, rfl, weak_fin _ rfl rfl rfl (LeH.rest) (.cons (.one (.same rfl)) (.cons (.one (.same rfl)) (.cons (.one (.same rfl)) (.nil)))) rfl rfl⟩
    · replace hv := if_f c61 hv
      refine Tri.run (G := gm_law11_has) tyOk mixed ?_
      conv => whnf
      cases hv
      obtain rfl := r59 _ rfl
      exact Or.inr (⟨_, rfl, rfl, weak_fin _ rfl rfl rfl (LeH.rest) (.nil) rfl rfl⟩)
  · rintro ex S' (⟨v55, rfl, rfl, w68⟩ | ⟨v56, rfl, rfl, w68⟩)
    · dsimp only at h
      conv => whnf
      refine fin_pre w68 ?_
      conv => whnf
      cases h
      rfl
    · dsimp only at h
      conv => whnf
      refine Tri.weak w68 ?_
      refine Tri.seqK ?_
      refine Tri.run (G := gm_law11_has) tyOk mixed ?_
      conv => whnf
      refine Tri.run (G := gm_law11_has) tyOk mixed ?_
      conv => whnf
      refine fin_here ?_
      conv => whnf
      cases h
      rfl
noncomputable def law11_RingSame_l26 (y17 : (List Int)) (y2003 : (List Int)) (a2097 : Bool) (a2098 : Int) : Option ((Bool × Int) ⊕ (Bool)) :=
  if (decide (a2098 < (y2003.length : Int))) then
    (
      if a2097 then
        some true
      else
        (ix y2003 a2098).bind fun x2119 =>
        (law11_has y17 x2119).bind fun y2121 =>
        some y2121).bind fun (y2116 : Bool) =>
    some (.inl (y2116, (IntKind.i64.wrap (a2098 + 1))))
  else
    some (.inr a2097)
noncomputable def law11_RingSame_l22 (l : Locks) (y17 : (List Int)) (a1770 : Int) : Option ((Int) ⊕ ((Unit) ⊕ (Unit))) :=
  if (decide (a1770 < (y17.length : Int))) then
    (ix y17 a1770).bind fun x1959 =>
    (ring_Ring l x1959).bind fun y1961 =>
    (ref10_Ints y17 y1961).bind fun y1963 =>
    (ring_Victim l x1959).bind fun y1967 =>
    (
      if (!y1963) then
        some true
      else
        if (!y1967.2) then
          some true
        else
          (ix y17 (IntKind.i64.wrap ((y17.length : Int) - 1))).bind fun x1997 =>
          some (!(decide (y1967.1 = x1997)))).bind fun (y1993 : Bool) =>
    if y1993 then
      some (.inr (.inl ()))
    else
      (ring_After l x1959).bind fun y2003 =>
      (loop (fun (s2101 : Bool × Int) => law11_RingSame_l26 y17 y2003 s2101.1 s2101.2) (false, (0 : Int))).bind fun (y2099 : Bool) =>
      if (!y2099) then
        some (.inr (.inl ()))
      else
        some (.inl (IntKind.i64.wrap (a1770 + 1)))
  else
    some (.inr (.inr ()))
noncomputable def law11_RingSame (l : Locks) (txn : Int) : Option (Bool) :=
  law11_shown.bind fun y1 =>
  (law11_small l).bind fun y3 =>
  if ((!y1) || (!y3)) then
    some y1
  else
    (ring_Ring l txn).bind fun y17 =>
    (loop (fun (s1775 : Int) => law11_RingSame_l22 l y17 s1775) (0 : Int)).bind fun (y1771 : (Unit) ⊕ (Unit)) =>
    match y1771 with
    | (.inl v1773) =>
      some false
    | (.inr v1774) =>
      some true
def gm_law11_RingSame : Gm := ⟨tys, [], [], []⟩
theorem law11_RingSame_walk (l : Locks) (txn : Int) (r : Bool) (h : law11_RingSame l txn = some r) : PureP Try.prog 4 [.agg [.sl (List.map encHold l.Held), .sl (List.map encClaim l.Queue)], .v (.int .i64 txn)] (fun a => a = .v (.bool r)) := by
  unfold law11_RingSame at h
  refine pureW (G := gm_law11_RingSame) tyOk Try.func4 rfl (by kernel_rfl) (by simp [Try.f4]) ?_
  refine Tri.seqK ?_
  refine Tri.run (G := gm_law11_RingSame) tyOk mixed ?_
  conv => whnf
  refine Tri.seqK ?_
  refine Tri.run (G := gm_law11_RingSame) tyOk mixed ?_
  conv => whnf
  replace h := bind_some h
  obtain ⟨y1, q2, h⟩ := h
  refine PureP.mono (law11_shown_walk y1 q2) ?_
  rintro _ rfl
  conv => whnf
  refine Tri.seqK ?_
  refine Tri.run (G := gm_law11_RingSame) tyOk mixed ?_
  conv => whnf
  replace h := bind_some h
  obtain ⟨y3, q4, h⟩ := h
  refine PureP.mono (law11_small_walk l y3 q4) ?_
  rintro _ rfl
  conv => whnf
  refine Tri.seqK ?_
  refine Tri.seqK ?_
  refine Tri.cut (fun ex S' => ex = .normal ∧ Weak S' ⟨90, 0, ofRegs [(1, .v (.int .i64 txn)), (2, .ptr 0 0), (5, .v (.bool y1)), (23, .v (.bool ((!y1) || (!y3))))], [.var 25 [.sl (List.map encHold l.Held), .sl (List.map encClaim l.Queue)]]⟩) ?_ ?_
  · refine Tri.run (G := gm_law11_RingSame) tyOk mixed ?_
    conv => whnf
    refine cond_mk (fun c14 => ?_) (fun c14 => ?_)
    · replace c14 : (!y1) = true := c14
      conv => whnf
      exact ⟨rfl, weak_fin _ rfl rfl rfl (.cons (.same rfl) (LeH.rest)) (.cons (.one (.same rfl)) (.cons (.one (.same rfl)) (.cons (.one (.same rfl)) (.cons (.one (.same (show (.v (.bool true) : AV) = (.v (.bool ((!y1) || (!y3))) : AV) from by first | (simp [c14]; done) | simp only [c14, Bool.or_true, Bool.true_or, Bool.false_or, Bool.or_false, Bool.and_true, Bool.true_and, Bool.and_false, Bool.false_and, Bool.not_true, Bool.not_false, if_true, if_false, Bool.false_eq_true]))) (.nil))))) rfl rfl⟩
    · replace c14 : (!y1) = false := c14
      conv => whnf
      exact ⟨rfl, weak_fin _ rfl rfl rfl (.cons (.same rfl) (LeH.rest)) (.cons (.one (.same rfl)) (.cons (.one (.same rfl)) (.cons (.one (.same rfl)) (.cons (.one (.same (show (.v (.bool (!y3)) : AV) = (.v (.bool ((!y1) || (!y3))) : AV) from by first | (simp [c14]; done) | simp only [c14, Bool.or_true, Bool.true_or, Bool.false_or, Bool.or_false, Bool.and_true, Bool.true_and, Bool.and_false, Bool.false_and, Bool.not_true, Bool.not_false, if_true, if_false, Bool.false_eq_true]))) (.nil))))) rfl rfl⟩
  · rintro ex S' ⟨rfl, w15⟩
    conv => whnf
    refine Tri.weak w15 ?_
    refine Tri.cond rfl (fun c16 => ?_) (fun c16 => ?_)
    · replace h := if_t c16 h
      refine Tri.seqK ?_
      refine Tri.run (G := gm_law11_RingSame) tyOk mixed ?_
      conv => whnf
      refine Tri.run (G := gm_law11_RingSame) tyOk mixed ?_
      conv => whnf
      refine fin_here ?_
      conv => whnf
      cases h
      rfl
    · replace h := if_f c16 h
      refine Tri.run (G := gm_law11_RingSame) tyOk mixed ?_
      conv => whnf
      refine Tri.seqK ?_
      refine Tri.run (G := gm_law11_RingSame) tyOk mixed ?_
      conv => whnf
      replace h := bind_some h
      obtain ⟨y17, q18, h⟩ := h
      refine PureP.mono (ring_Ring_walk l txn y17 q18) ?_
      rintro _ rfl
      conv => whnf
      refine Tri.seqK ?_
      refine Tri.seqK ?_
      refine Tri.run (G := gm_law11_RingSame) tyOk mixed ?_
      conv => whnf
      refine Tri.block ?_
      replace h := bind_some h
      obtain ⟨y1771, q1772, h⟩ := h
      refine Tri.cut (fun ex S' => (∃ v1773 : Unit, y1771 = (.inl v1773) ∧ ex = .ret ∧ Weak S' ⟨90, 0, ofRegs [(4, .v (.bool false))], []⟩) ∨ (∃ v1774 : Unit, y1771 = (.inr v1774) ∧ ex = (.exit 0) ∧ Weak S' ⟨90, 0, ofRegs [], []⟩)) ?_ ?_
      · refine Tri.loopF (fun (s1775 : Int) => (⟨90, 0, ofRegs [(2, .ptr 0 0), (7, .sl (List.map (encI .i64) y17)), (8, .v (.int .i64 s1775))], [.var 25 [.sl (List.map encHold l.Held), .sl (List.map encClaim l.Queue)]]⟩ : St)) q1772 (weak_fin _ rfl rfl rfl (.cons (.same rfl) (LeH.rest)) (.cons (.one (.same rfl)) (.cons (.one (.same rfl)) (.cons (.one (.same rfl)) (.nil)))) rfl rfl) ?_
        rintro a1770 v1776 hv r1777
        have hv : law11_RingSame_l22 l y17 a1770 = some v1776 := hv
        unfold law11_RingSame_l22 at hv
        refine Tri.seqK ?_
        refine Tri.seqK ?_
        refine Tri.run (G := gm_law11_RingSame) tyOk mixed ?_
        conv => whnf
        refine ⟨⟨(y17.length : Int), (len_map _ _).symm, ?_⟩⟩
        conv => whnf
        refine Tri.cond rfl (fun c1779 => ?_) (fun c1779 => ?_)
        · replace hv := if_t c1779 hv
          refine Tri.run (G := gm_law11_RingSame) tyOk mixed ?_
          conv => whnf
          refine Tri.seqK ?_
          refine Tri.block ?_
          refine Tri.seqK ?_
          refine Tri.run (G := gm_law11_RingSame) tyOk mixed ?_
          conv => whnf
          refine Draw.one 9 (.take 0 (.take 1 (.take 2 (.take 3 (.take 4 (.take 5 (.alt 6 (.alt 7 (.take 8 (.fin)) (.nil)) (.nil)))))))) [] (by kernel_rfl) ?_
          conv => whnf
          replace hv := bind_some hv
          obtain ⟨x1959, q1960, hv⟩ := hv
          refine ⟨(ix_some q1960).1, ?_⟩
          conv => whnf
          refine ⟨⟨_, map_get (encI .i64) (ix_some q1960).2, ?_⟩⟩
          conv => whnf
          refine ⟨rfl, ?_⟩
          conv => whnf
          refine ⟨?_, ?_⟩
          · conv => whnf
            replace hv := bind_some hv
            obtain ⟨y1961, q1962, hv⟩ := hv
            refine PureP.mono (ring_Ring_walk l x1959 y1961 q1962) ?_
            rintro _ rfl
            conv => whnf
            refine ⟨?_, ?_⟩
            · conv => whnf
              replace hv := bind_some hv
              obtain ⟨y1963, q1964, hv⟩ := hv
              refine PureP.mono (ref10_Ints_walk y17 y1961 y1963 q1964) ?_
              rintro _ rfl
              conv => whnf
              refine Tri.seqK ?_
              refine Tri.run (G := gm_law11_RingSame) tyOk mixed ?_
              conv => whnf
              refine Draw.one 11 (.take 0 (.take 1 (.take 2 (.take 3 (.take 4 (.alt 5 (.take 6 (.take 7 (.take 8 (.take 9 (.take 10 (.fin)))))) (.nil))))))) [] (by kernel_rfl) ?_
              conv => whnf
              refine ⟨(ix_some q1960).1, ?_⟩
              conv => whnf
              refine ⟨⟨_, map_get (encI .i64) (ix_some q1960).2, ?_⟩⟩
              conv => whnf
              refine ⟨rfl, ?_⟩
              conv => whnf
              refine ⟨?_, ?_⟩
              · conv => whnf
                replace hv := bind_some hv
                obtain ⟨y1967, q1968, hv⟩ := hv
                refine PureP.mono (ring_Victim_walk l x1959 y1967 q1968) ?_
                rintro _ rfl
                conv => whnf
                refine Tri.seqK ?_
                refine Tri.seqK ?_
                replace hv := bind_some hv
                obtain ⟨y1993, q1994, hv⟩ := hv
                refine Tri.cut (fun ex S' => ex = .normal ∧ Weak S' ⟨90, 0, ofRegs [(2, .ptr 0 0), (7, .sl (List.map (encI .i64) y17)), (8, .v (.int .i64 a1770)), (66, .v (.bool y1993))], [.var 25 [.sl (List.map encHold l.Held), .sl (List.map encClaim l.Queue)]]⟩) ?_ ?_
                · refine Tri.run (G := gm_law11_RingSame) tyOk mixed ?_
                  conv => whnf
                  refine cond_mk (fun c1995 => ?_) (fun c1995 => ?_)
                  · replace q1994 := if_t c1995 q1994
                    conv => whnf
                    cases q1994
                    exact ⟨rfl, weak_fin _ rfl rfl rfl (.cons (.same rfl) (LeH.rest)) (.cons (.one (.same rfl)) (.cons (.one (.same rfl)) (.cons (.one (.same rfl)) (.cons (.one (.same rfl)) (.nil))))) rfl rfl⟩
                  · replace q1994 := if_f c1995 q1994
                    conv => whnf
                    refine cond_mk (fun c1996 => ?_) (fun c1996 => ?_)
                    · replace q1994 := if_t c1996 q1994
                      conv => whnf
                      cases q1994
                      exact ⟨rfl, weak_fin _ rfl rfl rfl (.cons (.same rfl) (LeH.rest)) (.cons (.one (.same rfl)) (.cons (.one (.same rfl)) (.cons (.one (.same rfl)) (.cons (.one (.same rfl)) (.nil))))) rfl rfl⟩
                    · replace q1994 := if_f c1996 q1994
                      conv => whnf
                      refine ⟨⟨(y17.length : Int), (len_map _ _).symm, ?_⟩⟩
                      conv => whnf
                      replace q1994 := bind_some q1994
                      obtain ⟨x1997, q1998, q1994⟩ := q1994
                      refine ⟨(ix_some q1998).1, ?_⟩
                      conv => whnf
                      refine ⟨⟨_, map_get (encI .i64) (ix_some q1998).2, ?_⟩⟩
                      conv => whnf
                      refine ⟨rfl, ?_⟩
                      conv => whnf
                      cases q1994
                      exact ⟨rfl, weak_fin _ rfl rfl rfl (.cons (.same rfl) (LeH.rest)) (.cons (.one (.same rfl)) (.cons (.one (.same rfl)) (.cons (.one (.same rfl)) (.cons (.one (.same rfl)) (.nil))))) rfl rfl⟩
                · rintro ex S' ⟨rfl, w1999⟩
                  conv => whnf
                  refine Tri.weak w1999 ?_
                  refine Tri.cond rfl (fun c2000 => ?_) (fun c2000 => ?_)
                  · replace hv := if_t c2000 hv
                    refine Tri.seqK ?_
                    refine Tri.run (G := gm_law11_RingSame) tyOk mixed ?_
                    conv => whnf
                    refine Tri.run (G := gm_law11_RingSame) tyOk mixed ?_
                    conv => whnf
                    cases hv
                    obtain rfl := r1777 _ rfl
                    exact Or.inl ⟨_, rfl, rfl, weak_fin _ rfl rfl rfl (LeH.rest) (.cons (.one (.same rfl)) (.nil)) rfl rfl⟩
                  · replace hv := if_f c2000 hv
                    refine Tri.run (G := gm_law11_RingSame) tyOk mixed ?_
                    conv => whnf
                    refine Tri.seqK ?_
                    refine Tri.run (G := gm_law11_RingSame) tyOk mixed ?_
                    conv => whnf
                    refine Draw.one 7 (.take 0 (.take 1 (.take 2 (.take 3 (.take 4 (.alt 5 (.take 6 (.fin)) (.nil))))))) [] (by kernel_rfl) ?_
                    conv => whnf
                    refine ⟨(ix_some q1960).1, ?_⟩
                    conv => whnf
                    refine ⟨⟨_, map_get (encI .i64) (ix_some q1960).2, ?_⟩⟩
                    conv => whnf
                    refine ⟨rfl, ?_⟩
                    conv => whnf
                    refine ⟨?_, ?_⟩
                    · conv => whnf
                      replace hv := bind_some hv
                      obtain ⟨y2003, q2004, hv⟩ := hv
                      refine PureP.mono (ring_After_walk l x1959 y2003 q2004) ?_
                      rintro _ rfl
                      conv => whnf
                      refine Tri.seqK ?_
                      refine Tri.run (G := gm_law11_RingSame) tyOk mixed ?_
                      conv => whnf
                      refine Tri.seqK ?_
                      refine Tri.seqK ?_
                      refine Tri.run (G := gm_law11_RingSame) tyOk mixed ?_
                      conv => whnf
                      refine Tri.block ?_
                      replace hv := bind_some hv
                      obtain ⟨y2099, q2100, hv⟩ := hv
                      refine Tri.cut (fun ex S' => ex = (.exit 2) ∧ Weak S' ⟨90, 0, ofRegs [(2, .ptr 0 0), (7, .sl (List.map (encI .i64) y17)), (8, .v (.int .i64 a1770)), (13, .v (.bool y2099))], [.var 25 [.sl (List.map encHold l.Held), .sl (List.map encClaim l.Queue)]]⟩) ?_ ?_
                      · refine Tri.loopF (fun (s2101 : Bool × Int) => (⟨90, 0, ofRegs [(2, .ptr 0 0), (7, .sl (List.map (encI .i64) y17)), (8, .v (.int .i64 a1770)), (12, .sl (List.map (encI .i64) y2003)), (13, .v (.bool s2101.1)), (14, .v (.int .i64 s2101.2))], [.var 25 [.sl (List.map encHold l.Held), .sl (List.map encClaim l.Queue)]]⟩ : St)) q2100 (weak_fin _ rfl rfl rfl (.cons (.same rfl) (LeH.rest)) (.cons (.one (.same rfl)) (.cons (.one (.same rfl)) (.cons (.one (.same rfl)) (.cons (.one (.same rfl)) (.cons (.one (.same rfl)) (.cons (.one (.same rfl)) (.nil))))))) rfl rfl) ?_
                        rintro ⟨a2097, a2098⟩ v2102 hv r2103
                        have hv : law11_RingSame_l26 y17 y2003 a2097 a2098 = some v2102 := hv
                        unfold law11_RingSame_l26 at hv
                        dsimp only
                        refine Tri.seqK ?_
                        refine Tri.seqK ?_
                        refine Tri.run (G := gm_law11_RingSame) tyOk mixed ?_
                        conv => whnf
                        refine ⟨⟨(y2003.length : Int), (len_map _ _).symm, ?_⟩⟩
                        conv => whnf
                        refine Tri.cond rfl (fun c2105 => ?_) (fun c2105 => ?_)
                        · replace hv := if_t c2105 hv
                          refine Tri.run (G := gm_law11_RingSame) tyOk mixed ?_
                          conv => whnf
                          refine Tri.seqK ?_
                          replace hv := bind_some hv
                          obtain ⟨y2116, q2117, hv⟩ := hv
                          refine Tri.cut (fun ex S' => ex = .normal ∧ Weak S' ⟨90, 0, ofRegs [(2, .ptr 0 0), (7, .sl (List.map (encI .i64) y17)), (8, .v (.int .i64 a1770)), (12, .sl (List.map (encI .i64) y2003)), (13, .v (.bool y2116)), (14, .v (.int .i64 a2098))], [.var 25 [.sl (List.map encHold l.Held), .sl (List.map encClaim l.Queue)]]⟩) ?_ ?_
                          · refine Tri.block ?_
                            refine Tri.run (G := gm_law11_RingSame) tyOk mixed ?_
                            conv => whnf
                            refine cond_mk (fun c2118 => ?_) (fun c2118 => ?_)
                            · replace q2117 := if_t c2118 q2117
                              conv => whnf
                              cases q2117
                              exact ⟨rfl, weak_fin _ rfl rfl rfl (.cons (.same rfl) (LeH.rest)) (.cons (.one (.same rfl)) (.cons (.one (.same rfl)) (.cons (.one (.same rfl)) (.cons (.one (.same rfl)) (.cons (.one (.same rfl)) (.cons (.one (.same rfl)) (.nil))))))) rfl rfl⟩
                            · replace q2117 := if_f c2118 q2117
                              conv => whnf
                              replace q2117 := bind_some q2117
                              obtain ⟨x2119, q2120, q2117⟩ := q2117
                              refine ⟨(ix_some q2120).1, ?_⟩
                              conv => whnf
                              refine ⟨⟨_, map_get (encI .i64) (ix_some q2120).2, ?_⟩⟩
                              conv => whnf
                              refine ⟨rfl, ?_⟩
                              conv => whnf
                              replace q2117 := bind_some q2117
                              obtain ⟨y2121, q2122, q2117⟩ := q2117
                              refine PureP.mono (law11_has_walk y17 x2119 y2121 q2122) ?_
                              rintro _ rfl
                              conv => whnf
                              cases q2117
                              exact ⟨rfl, weak_fin _ rfl rfl rfl (.cons (.same rfl) (LeH.rest)) (.cons (.one (.same rfl)) (.cons (.one (.same rfl)) (.cons (.one (.same rfl)) (.cons (.one (.same rfl)) (.cons (.one (.same rfl)) (.cons (.one (.same rfl)) (.nil))))))) rfl rfl⟩
                          · rintro ex S' ⟨rfl, w2123⟩
                            conv => whnf
                            refine Tri.weak w2123 ?_
                            refine Tri.run (G := gm_law11_RingSame) tyOk mixed ?_
                            conv => whnf
                            cases hv
                            exact ⟨_, rfl, weak_fin _ rfl rfl rfl (.cons (.same rfl) (LeH.rest)) (.cons (.one (.same rfl)) (.cons (.one (.same rfl)) (.cons (.one (.same rfl)) (.cons (.one (.same rfl)) (.cons (.one (.same rfl)) (.cons (.one (.same rfl)) (.nil))))))) rfl rfl⟩
                        · replace hv := if_f c2105 hv
                          refine Tri.run (G := gm_law11_RingSame) tyOk mixed ?_
                          conv => whnf
                          cases hv
                          obtain rfl := r2103 _ rfl
                          exact ⟨rfl, weak_fin _ rfl rfl rfl (.cons (.same rfl) (LeH.rest)) (.cons (.one (.same rfl)) (.cons (.one (.same rfl)) (.cons (.one (.same rfl)) (.cons (.one (.same rfl)) (.nil))))) rfl rfl⟩
                      · rintro ex S' ⟨rfl, w2124⟩
                        conv => whnf
                        refine Tri.weak w2124 ?_
                        refine Tri.seqK ?_
                        refine Tri.run (G := gm_law11_RingSame) tyOk mixed ?_
                        conv => whnf
                        refine Tri.cond rfl (fun c2125 => ?_) (fun c2125 => ?_)
                        · replace hv := if_t c2125 hv
                          refine Tri.seqK ?_
                          refine Tri.run (G := gm_law11_RingSame) tyOk mixed ?_
                          conv => whnf
                          refine Tri.run (G := gm_law11_RingSame) tyOk mixed ?_
                          conv => whnf
                          cases hv
                          obtain rfl := r1777 _ rfl
                          exact Or.inl ⟨_, rfl, rfl, weak_fin _ rfl rfl rfl (LeH.rest) (.cons (.one (.same rfl)) (.nil)) rfl rfl⟩
                        · replace hv := if_f c2125 hv
                          refine Tri.run (G := gm_law11_RingSame) tyOk mixed ?_
                          conv => whnf
                          refine Tri.run (G := gm_law11_RingSame) tyOk mixed ?_
                          conv => whnf
                          cases hv
                          exact ⟨_, rfl, weak_fin _ rfl rfl rfl (.cons (.same rfl) (LeH.rest)) (.cons (.one (.same rfl)) (.cons (.one (.same rfl)) (.cons (.one (.same rfl)) (.nil)))) rfl rfl⟩
                    · conv => whnf
                      trivial
              · conv => whnf
                trivial
            · conv => whnf
              trivial
          · conv => whnf
            trivial
        · replace hv := if_f c1779 hv
          refine Tri.run (G := gm_law11_RingSame) tyOk mixed ?_
          conv => whnf
          cases hv
          obtain rfl := r1777 _ rfl
          exact Or.inr (⟨_, rfl, rfl, weak_fin _ rfl rfl rfl (LeH.rest) (.nil) rfl rfl⟩)
      · rintro ex S' (⟨v1773, rfl, rfl, w2126⟩ | ⟨v1774, rfl, rfl, w2126⟩)
        · dsimp only at h
          conv => whnf
          refine fin_pre w2126 ?_
          conv => whnf
          cases h
          rfl
        · dsimp only at h
          conv => whnf
          refine Tri.weak w2126 ?_
          refine Tri.seqK ?_
          refine Tri.run (G := gm_law11_RingSame) tyOk mixed ?_
          conv => whnf
          refine Tri.run (G := gm_law11_RingSame) tyOk mixed ?_
          conv => whnf
          refine fin_here ?_
          conv => whnf
          cases h
          rfl
noncomputable def law11_RingBreaks (l : Locks) (txn : Int) (other : Int) : Option (Bool) :=
  law11_shown.bind fun y1 =>
  (law11_small l).bind fun y3 =>
  if ((!y1) || (!y3)) then
    some y1
  else
    (ring_Ring l other).bind fun y17 =>
    (ref10_Free l txn).bind fun y19 =>
    (ring_Ring y19.1 txn).bind fun y21 =>
    (ring_Ring y19.1 other).bind fun y23 =>
    if (decide ((y21.length : Int) = 0)) then
      if (decide ((y17.length : Int) > 0)) then
        some true
      else
        some (decide ((y23.length : Int) = 0))
    else
      some false
def gm_law11_RingBreaks : Gm := ⟨tys, [], [], []⟩
theorem law11_RingBreaks_walk (l : Locks) (txn : Int) (other : Int) (r : Bool) (h : law11_RingBreaks l txn other = some r) : PureP Try.prog 5 [.agg [.sl (List.map encHold l.Held), .sl (List.map encClaim l.Queue)], .v (.int .i64 txn), .v (.int .i64 other)] (fun a => a = .v (.bool r)) := by
  unfold law11_RingBreaks at h
  refine pureW (G := gm_law11_RingBreaks) tyOk Try.func5 rfl (by kernel_rfl) (by simp [Try.f5]) ?_
  refine Tri.seqK ?_
  refine Tri.run (G := gm_law11_RingBreaks) tyOk mixed ?_
  conv => whnf
  refine Tri.seqK ?_
  refine Tri.run (G := gm_law11_RingBreaks) tyOk mixed ?_
  conv => whnf
  replace h := bind_some h
  obtain ⟨y1, q2, h⟩ := h
  refine PureP.mono (law11_shown_walk y1 q2) ?_
  rintro _ rfl
  conv => whnf
  refine Tri.seqK ?_
  refine Tri.run (G := gm_law11_RingBreaks) tyOk mixed ?_
  conv => whnf
  replace h := bind_some h
  obtain ⟨y3, q4, h⟩ := h
  refine PureP.mono (law11_small_walk l y3 q4) ?_
  rintro _ rfl
  conv => whnf
  refine Tri.seqK ?_
  refine Tri.seqK ?_
  refine Tri.cut (fun ex S' => ex = .normal ∧ Weak S' ⟨52, 0, ofRegs [(1, .v (.int .i64 txn)), (2, .v (.int .i64 other)), (3, .ptr 0 0), (7, .v (.bool y1)), (22, .v (.bool ((!y1) || (!y3))))], [.var 25 [.sl (List.map encHold l.Held), .sl (List.map encClaim l.Queue)]]⟩) ?_ ?_
  · refine Tri.run (G := gm_law11_RingBreaks) tyOk mixed ?_
    conv => whnf
    refine cond_mk (fun c14 => ?_) (fun c14 => ?_)
    · replace c14 : (!y1) = true := c14
      conv => whnf
      exact ⟨rfl, weak_fin _ rfl rfl rfl (.cons (.same rfl) (LeH.rest)) (.cons (.one (.same rfl)) (.cons (.one (.same rfl)) (.cons (.one (.same rfl)) (.cons (.one (.same rfl)) (.cons (.one (.same (show (.v (.bool true) : AV) = (.v (.bool ((!y1) || (!y3))) : AV) from by first | (simp [c14]; done) | simp only [c14, Bool.or_true, Bool.true_or, Bool.false_or, Bool.or_false, Bool.and_true, Bool.true_and, Bool.and_false, Bool.false_and, Bool.not_true, Bool.not_false, if_true, if_false, Bool.false_eq_true]))) (.nil)))))) rfl rfl⟩
    · replace c14 : (!y1) = false := c14
      conv => whnf
      exact ⟨rfl, weak_fin _ rfl rfl rfl (.cons (.same rfl) (LeH.rest)) (.cons (.one (.same rfl)) (.cons (.one (.same rfl)) (.cons (.one (.same rfl)) (.cons (.one (.same rfl)) (.cons (.one (.same (show (.v (.bool (!y3)) : AV) = (.v (.bool ((!y1) || (!y3))) : AV) from by first | (simp [c14]; done) | simp only [c14, Bool.or_true, Bool.true_or, Bool.false_or, Bool.or_false, Bool.and_true, Bool.true_and, Bool.and_false, Bool.false_and, Bool.not_true, Bool.not_false, if_true, if_false, Bool.false_eq_true]))) (.nil)))))) rfl rfl⟩
  · rintro ex S' ⟨rfl, w15⟩
    conv => whnf
    refine Tri.weak w15 ?_
    refine Tri.cond rfl (fun c16 => ?_) (fun c16 => ?_)
    · replace h := if_t c16 h
      refine Tri.seqK ?_
      refine Tri.run (G := gm_law11_RingBreaks) tyOk mixed ?_
      conv => whnf
      refine Tri.run (G := gm_law11_RingBreaks) tyOk mixed ?_
      conv => whnf
      refine fin_here ?_
      conv => whnf
      cases h
      rfl
    · replace h := if_f c16 h
      refine Tri.run (G := gm_law11_RingBreaks) tyOk mixed ?_
      conv => whnf
      refine Tri.seqK ?_
      refine Tri.run (G := gm_law11_RingBreaks) tyOk mixed ?_
      conv => whnf
      replace h := bind_some h
      obtain ⟨y17, q18, h⟩ := h
      refine PureP.mono (ring_Ring_walk l other y17 q18) ?_
      rintro _ rfl
      conv => whnf
      refine Tri.seqK ?_
      refine Tri.run (G := gm_law11_RingBreaks) tyOk mixed ?_
      conv => whnf
      replace h := bind_some h
      obtain ⟨y19, q20, h⟩ := h
      refine PureP.mono (ref10_Free_walk l txn y19 q20) ?_
      rintro _ rfl
      conv => whnf
      refine Tri.seqK ?_
      refine Tri.run (G := gm_law11_RingBreaks) tyOk mixed ?_
      conv => whnf
      replace h := bind_some h
      obtain ⟨y21, q22, h⟩ := h
      refine PureP.mono (ring_Ring_walk y19.1 txn y21 q22) ?_
      rintro _ rfl
      conv => whnf
      refine Tri.seqK ?_
      refine Tri.run (G := gm_law11_RingBreaks) tyOk mixed ?_
      conv => whnf
      replace h := bind_some h
      obtain ⟨y23, q24, h⟩ := h
      refine PureP.mono (ring_Ring_walk y19.1 other y23 q24) ?_
      rintro _ rfl
      conv => whnf
      refine Tri.seqK ?_
      refine Tri.run (G := gm_law11_RingBreaks) tyOk mixed ?_
      conv => whnf
      refine ⟨⟨(y21.length : Int), (len_map _ _).symm, ?_⟩⟩
      conv => whnf
      refine cond_mk (fun c25 => ?_) (fun c25 => ?_)
      · replace h := if_t c25 h
        conv => whnf
        refine ⟨⟨(y17.length : Int), (len_map _ _).symm, ?_⟩⟩
        conv => whnf
        refine cond_mk (fun c26 => ?_) (fun c26 => ?_)
        · replace h := if_t c26 h
          conv => whnf
          refine Tri.run (G := gm_law11_RingBreaks) tyOk mixed ?_
          conv => whnf
          refine fin_here ?_
          conv => whnf
          cases h
          rfl
        · replace h := if_f c26 h
          conv => whnf
          refine ⟨⟨(y23.length : Int), (len_map _ _).symm, ?_⟩⟩
          conv => whnf
          refine Tri.run (G := gm_law11_RingBreaks) tyOk mixed ?_
          conv => whnf
          refine fin_here ?_
          conv => whnf
          cases h
          rfl
      · replace h := if_f c25 h
        conv => whnf
        refine Tri.run (G := gm_law11_RingBreaks) tyOk mixed ?_
        conv => whnf
        refine fin_here ?_
        conv => whnf
        cases h
        rfl
noncomputable def law11_RingNone_l2 (y17 : (List Int)) (y19 : (List Int)) (a98 : Int) : Option ((Int) ⊕ ((Unit) ⊕ (Unit))) :=
  if (decide (a98 < (y17.length : Int))) then
    (ix y17 a98).bind fun x113 =>
    (law11_has y19 x113).bind fun y115 =>
    if (!y115) then
      some (.inr (.inl ()))
    else
      some (.inl (IntKind.i64.wrap (a98 + 1)))
  else
    some (.inr (.inr ()))
noncomputable def law11_RingNone (l : Locks) (txn : Int) : Option (Bool) :=
  law11_shown.bind fun y1 =>
  (law11_small l).bind fun y3 =>
  if ((!y1) || (!y3)) then
    some y1
  else
    (ring_After l txn).bind fun y17 =>
    (ring_Reach l txn).bind fun y19 =>
    (ring_Ring l txn).bind fun y21 =>
    if (decide ((y17.length : Int) = 0)) then
      if (decide ((y19.length : Int) = 0)) then
        some (decide ((y21.length : Int) = 0))
      else
        some false
    else
      (loop (fun (s103 : Int) => law11_RingNone_l2 y17 y19 s103) (0 : Int)).bind fun (y99 : (Unit) ⊕ (Unit)) =>
      match y99 with
      | (.inl v101) =>
        some false
      | (.inr v102) =>
        (law11_has y19 txn).bind fun y119 =>
        some (y119 == (decide ((y21.length : Int) > 0)))
def gm_law11_RingNone : Gm := ⟨tys, [], [(20, 3, 1)], []⟩
theorem law11_RingNone_walk (l : Locks) (txn : Int) (r : Bool) (h : law11_RingNone l txn = some r) : PureP Try.prog 6 [.agg [.sl (List.map encHold l.Held), .sl (List.map encClaim l.Queue)], .v (.int .i64 txn)] (fun a => a = .v (.bool r)) := by
  unfold law11_RingNone at h
  refine pureW (G := gm_law11_RingNone) tyOk Try.func6 rfl (by kernel_rfl) (by simp [Try.f6]) ?_
  refine Tri.seqK ?_
  refine Tri.run (G := gm_law11_RingNone) tyOk mixed ?_
  conv => whnf
  refine Tri.seqK ?_
  refine Tri.run (G := gm_law11_RingNone) tyOk mixed ?_
  conv => whnf
  replace h := bind_some h
  obtain ⟨y1, q2, h⟩ := h
  refine PureP.mono (law11_shown_walk y1 q2) ?_
  rintro _ rfl
  conv => whnf
  refine Tri.seqK ?_
  refine Tri.run (G := gm_law11_RingNone) tyOk mixed ?_
  conv => whnf
  replace h := bind_some h
  obtain ⟨y3, q4, h⟩ := h
  refine PureP.mono (law11_small_walk l y3 q4) ?_
  rintro _ rfl
  conv => whnf
  refine Tri.seqK ?_
  refine Tri.seqK ?_
  refine Tri.cut (fun ex S' => ex = .normal ∧ Weak S' ⟨63, 0, ofRegs [(1, .v (.int .i64 txn)), (2, .ptr 0 0), (5, .v (.bool y1)), (20, .v (.bool ((!y1) || (!y3))))], [.var 25 [.sl (List.map encHold l.Held), .sl (List.map encClaim l.Queue)]]⟩) ?_ ?_
  · refine Tri.run (G := gm_law11_RingNone) tyOk mixed ?_
    conv => whnf
    refine cond_mk (fun c14 => ?_) (fun c14 => ?_)
    · replace c14 : (!y1) = true := c14
      conv => whnf
      exact ⟨rfl, weak_fin _ rfl rfl rfl (.cons (.same rfl) (LeH.rest)) (.cons (.one (.same rfl)) (.cons (.one (.same rfl)) (.cons (.one (.same rfl)) (.cons (.one (.same (show (.v (.bool true) : AV) = (.v (.bool ((!y1) || (!y3))) : AV) from by first | (simp [c14]; done) | simp only [c14, Bool.or_true, Bool.true_or, Bool.false_or, Bool.or_false, Bool.and_true, Bool.true_and, Bool.and_false, Bool.false_and, Bool.not_true, Bool.not_false, if_true, if_false, Bool.false_eq_true]))) (.nil))))) rfl rfl⟩
    · replace c14 : (!y1) = false := c14
      conv => whnf
      exact ⟨rfl, weak_fin _ rfl rfl rfl (.cons (.same rfl) (LeH.rest)) (.cons (.one (.same rfl)) (.cons (.one (.same rfl)) (.cons (.one (.same rfl)) (.cons (.one (.same (show (.v (.bool (!y3)) : AV) = (.v (.bool ((!y1) || (!y3))) : AV) from by first | (simp [c14]; done) | simp only [c14, Bool.or_true, Bool.true_or, Bool.false_or, Bool.or_false, Bool.and_true, Bool.true_and, Bool.and_false, Bool.false_and, Bool.not_true, Bool.not_false, if_true, if_false, Bool.false_eq_true]))) (.nil))))) rfl rfl⟩
  · rintro ex S' ⟨rfl, w15⟩
    conv => whnf
    refine Tri.weak w15 ?_
    refine Tri.cond rfl (fun c16 => ?_) (fun c16 => ?_)
    · replace h := if_t c16 h
      refine Tri.seqK ?_
      refine Tri.run (G := gm_law11_RingNone) tyOk mixed ?_
      conv => whnf
      refine Tri.run (G := gm_law11_RingNone) tyOk mixed ?_
      conv => whnf
      refine fin_here ?_
      conv => whnf
      cases h
      rfl
    · replace h := if_f c16 h
      refine Tri.run (G := gm_law11_RingNone) tyOk mixed ?_
      conv => whnf
      refine Tri.seqK ?_
      refine Tri.run (G := gm_law11_RingNone) tyOk mixed ?_
      conv => whnf
      replace h := bind_some h
      obtain ⟨y17, q18, h⟩ := h
      refine PureP.mono (ring_After_walk l txn y17 q18) ?_
      rintro _ rfl
      conv => whnf
      refine Tri.seqK ?_
      refine Tri.run (G := gm_law11_RingNone) tyOk mixed ?_
      conv => whnf
      replace h := bind_some h
      obtain ⟨y19, q20, h⟩ := h
      refine FreshP.mono (ring_Reach_walk l txn y19 q20) ?_
      rintro _ rfl
      conv => whnf
      refine Tri.seqK ?_
      refine Tri.run (G := gm_law11_RingNone) tyOk mixed ?_
      conv => whnf
      replace h := bind_some h
      obtain ⟨y21, q22, h⟩ := h
      refine PureP.mono (ring_Ring_walk l txn y21 q22) ?_
      rintro _ rfl
      conv => whnf
      refine Tri.seqK ?_
      refine Tri.seqK ?_
      refine Tri.run (G := gm_law11_RingNone) tyOk mixed ?_
      conv => whnf
      refine ⟨⟨(y17.length : Int), (len_map _ _).symm, ?_⟩⟩
      conv => whnf
      refine Tri.cond rfl (fun c25 => ?_) (fun c25 => ?_)
      · replace h := if_t c25 h
        refine Tri.seqK ?_
        refine Tri.run (G := gm_law11_RingNone) tyOk mixed ?_
        conv => whnf
        refine ⟨rfl, ?_⟩
        conv => whnf
        refine ⟨⟨(y19.length : Int), by simp, ?_⟩⟩
        conv => whnf
        refine cond_mk (fun c26 => ?_) (fun c26 => ?_)
        · replace h := if_t c26 h
          conv => whnf
          refine ⟨⟨(y21.length : Int), (len_map _ _).symm, ?_⟩⟩
          conv => whnf
          refine Tri.run (G := gm_law11_RingNone) tyOk mixed ?_
          conv => whnf
          refine fin_here ?_
          conv => whnf
          cases h
          rfl
        · replace h := if_f c26 h
          conv => whnf
          refine Tri.run (G := gm_law11_RingNone) tyOk mixed ?_
          conv => whnf
          refine fin_here ?_
          conv => whnf
          cases h
          rfl
      · replace h := if_f c25 h
        refine Tri.run (G := gm_law11_RingNone) tyOk mixed ?_
        conv => whnf
        refine Tri.seqK ?_
        refine Tri.seqK ?_
        refine Tri.run (G := gm_law11_RingNone) tyOk mixed ?_
        conv => whnf
        refine Tri.block ?_
        replace h := bind_some h
        obtain ⟨y99, q100, h⟩ := h
        refine Tri.cut (fun ex S' => (∃ v101 : Unit, y99 = (.inl v101) ∧ ex = .ret ∧ Weak S' ⟨63, 0, ofRegs [(4, .v (.bool false))], []⟩) ∨ (∃ v102 : Unit, y99 = (.inr v102) ∧ ex = (.exit 0) ∧ Weak S' ⟨63, 0, ofRegs [(1, .v (.int .i64 txn)), (8, .row 1 ((List.map (encI .i64) y19).length)), (9, .sl (List.map (encI .i64) y21))], [.gone, .row 3 1 (List.map (encI .i64) y19)]⟩)) ?_ ?_
        · refine Tri.loopF (fun (s103 : Int) => (⟨63, 0, ofRegs [(1, .v (.int .i64 txn)), (7, .sl (List.map (encI .i64) y17)), (8, .row 1 ((List.map (encI .i64) y19).length)), (9, .sl (List.map (encI .i64) y21)), (10, .v (.int .i64 s103))], [.gone, .row 3 1 (List.map (encI .i64) y19)]⟩ : St)) q100 (weak_fin _ rfl rfl rfl (.cons (.gone) (.cons (.same rfl) (LeH.rest))) (.cons (.one (.same rfl)) (.cons (.one (.same rfl)) (.cons (.one (.same rfl)) (.cons (.one (.same rfl)) (.cons (.one (.same rfl)) (.nil)))))) rfl rfl) ?_
          rintro a98 v104 hv r105
          have hv : law11_RingNone_l2 y17 y19 a98 = some v104 := hv
          unfold law11_RingNone_l2 at hv
          refine Tri.seqK ?_
          refine Tri.seqK ?_
          refine Tri.run (G := gm_law11_RingNone) tyOk mixed ?_
          conv => whnf
          refine ⟨⟨(y17.length : Int), (len_map _ _).symm, ?_⟩⟩
          conv => whnf
          refine Tri.cond rfl (fun c107 => ?_) (fun c107 => ?_)
          · replace hv := if_t c107 hv
            refine Tri.run (G := gm_law11_RingNone) tyOk mixed ?_
            conv => whnf
            refine Tri.seqK ?_
            refine Tri.block ?_
            refine Tri.seqK ?_
            refine Tri.run (G := gm_law11_RingNone) tyOk mixed ?_
            conv => whnf
            replace hv := bind_some hv
            obtain ⟨x113, q114, hv⟩ := hv
            refine ⟨(ix_some q114).1, ?_⟩
            conv => whnf
            refine ⟨⟨_, map_get (encI .i64) (ix_some q114).2, ?_⟩⟩
            conv => whnf
            refine ⟨rfl, ?_⟩
            conv => whnf
            refine ⟨rfl, ?_⟩
            conv => whnf
            replace hv := bind_some hv
            obtain ⟨y115, q116, hv⟩ := hv
            refine PureP.mono (law11_has_walk y19 x113 y115 q116) ?_
            rintro _ rfl
            conv => whnf
            refine Tri.seqK ?_
            refine Tri.run (G := gm_law11_RingNone) tyOk mixed ?_
            conv => whnf
            refine Tri.cond rfl (fun c117 => ?_) (fun c117 => ?_)
            · replace hv := if_t c117 hv
              refine Tri.seqK ?_
              refine Tri.run (G := gm_law11_RingNone) tyOk mixed ?_
              conv => whnf
              refine Tri.run (G := gm_law11_RingNone) tyOk mixed ?_
              conv => whnf
              cases hv
              obtain rfl := r105 _ rfl
              exact Or.inl ⟨_, rfl, rfl, weak_fin _ rfl rfl rfl (LeH.rest) (.cons (.one (.same rfl)) (.nil)) rfl rfl⟩
            · replace hv := if_f c117 hv
              refine Tri.run (G := gm_law11_RingNone) tyOk mixed ?_
              conv => whnf
              refine Tri.run (G := gm_law11_RingNone) tyOk mixed ?_
              conv => whnf
              cases hv
              exact ⟨_, rfl, weak_fin _ rfl rfl rfl (.cons (.same rfl) (.cons (.same rfl) (LeH.rest))) (.cons (.one (.same rfl)) (.cons (.one (.same rfl)) (.cons (.one (.same rfl)) (.cons (.one (.same rfl)) (.cons (.one (.same rfl)) (.nil)))))) rfl rfl⟩
          · replace hv := if_f c107 hv
            refine Tri.run (G := gm_law11_RingNone) tyOk mixed ?_
            conv => whnf
            cases hv
            obtain rfl := r105 _ rfl
            exact Or.inr (⟨_, rfl, rfl, weak_fin _ rfl rfl rfl (.cons (.same rfl) (.cons (.same rfl) (LeH.rest))) (.cons (.one (.same rfl)) (.cons (.one (.same rfl)) (.cons (.one (.same rfl)) (.nil)))) rfl rfl⟩)
        · rintro ex S' (⟨v101, rfl, rfl, w118⟩ | ⟨v102, rfl, rfl, w118⟩)
          · dsimp only at h
            conv => whnf
            refine fin_pre w118 ?_
            conv => whnf
            cases h
            rfl
          · dsimp only at h
            conv => whnf
            refine Tri.weak w118 ?_
            refine Tri.seqK ?_
            refine Tri.run (G := gm_law11_RingNone) tyOk mixed ?_
            conv => whnf
            refine ⟨rfl, ?_⟩
            conv => whnf
            replace h := bind_some h
            obtain ⟨y119, q120, h⟩ := h
            refine PureP.mono (law11_has_walk y19 txn y119 q120) ?_
            rintro _ rfl
            conv => whnf
            refine ⟨⟨(y21.length : Int), (len_map _ _).symm, ?_⟩⟩
            conv => whnf
            refine Tri.run (G := gm_law11_RingNone) tyOk mixed ?_
            conv => whnf
            refine fin_here ?_
            conv => whnf
            cases h
            rfl
noncomputable def law11_RingVictim_l2 (txn : Int) (y17 : (List Int)) (a106 : Int) (a107 : (List Hold)) (a108 : (List Claim)) : Option ((Int × (List Hold) × (List Claim)) ⊕ ((Unit) ⊕ ((List Hold) × (List Claim)))) :=
  if (decide (a106 < (y17.length : Int))) then
    (ring_Victim ({ Held := a107, Queue := a108 } : Locks) txn).bind fun y124 =>
    if (!y124.2) then
      some (.inr (.inl ()))
    else
      (ref10_Free ({ Held := a107, Queue := a108 } : Locks) y124.1).bind fun y128 =>
      some (.inl ((IntKind.i64.wrap (a106 + 1)), y128.1.Held, y128.1.Queue))
  else
    some (.inr (.inr (a107, a108)))
noncomputable def law11_RingVictim (l : Locks) (txn : Int) : Option (Bool) :=
  law11_shown.bind fun y1 =>
  (law11_small l).bind fun y3 =>
  if ((!y1) || (!y3)) then
    some y1
  else
    (ring_Ring l txn).bind fun y17 =>
    (loop (fun (s113 : Int × (List Hold) × (List Claim)) => law11_RingVictim_l2 txn y17 s113.1 s113.2.1 s113.2.2) ((0 : Int), l.Held, l.Queue)).bind fun (y109 : (Unit) ⊕ ((List Hold) × (List Claim))) =>
    match y109 with
    | (.inl v111) =>
      some true
    | (.inr v112) =>
      (ring_Victim ({ Held := v112.1, Queue := v112.2 } : Locks) txn).bind fun y131 =>
      some (!y131.2)
def gm_law11_RingVictim : Gm := ⟨tys, [], [], []⟩
theorem law11_RingVictim_walk (l : Locks) (txn : Int) (r : Bool) (h : law11_RingVictim l txn = some r) : PureP Try.prog 7 [.agg [.sl (List.map encHold l.Held), .sl (List.map encClaim l.Queue)], .v (.int .i64 txn)] (fun a => a = .v (.bool r)) := by
  unfold law11_RingVictim at h
  refine pureW (G := gm_law11_RingVictim) tyOk Try.func7 rfl (by kernel_rfl) (by simp [Try.f7]) ?_
  refine Tri.seqK ?_
  refine Tri.run (G := gm_law11_RingVictim) tyOk mixed ?_
  conv => whnf
  refine Tri.seqK ?_
  refine Tri.run (G := gm_law11_RingVictim) tyOk mixed ?_
  conv => whnf
  replace h := bind_some h
  obtain ⟨y1, q2, h⟩ := h
  refine PureP.mono (law11_shown_walk y1 q2) ?_
  rintro _ rfl
  conv => whnf
  refine Tri.seqK ?_
  refine Tri.run (G := gm_law11_RingVictim) tyOk mixed ?_
  conv => whnf
  replace h := bind_some h
  obtain ⟨y3, q4, h⟩ := h
  refine PureP.mono (law11_small_walk l y3 q4) ?_
  rintro _ rfl
  conv => whnf
  refine Tri.seqK ?_
  refine Tri.seqK ?_
  refine Tri.cut (fun ex S' => ex = .normal ∧ Weak S' ⟨57, 0, ofRegs [(1, .v (.int .i64 txn)), (2, .ptr 0 0), (5, .v (.bool y1)), (23, .v (.bool ((!y1) || (!y3))))], [.var 25 [.sl (List.map encHold l.Held), .sl (List.map encClaim l.Queue)]]⟩) ?_ ?_
  · refine Tri.run (G := gm_law11_RingVictim) tyOk mixed ?_
    conv => whnf
    refine cond_mk (fun c14 => ?_) (fun c14 => ?_)
    · replace c14 : (!y1) = true := c14
      conv => whnf
      exact ⟨rfl, weak_fin _ rfl rfl rfl (.cons (.same rfl) (LeH.rest)) (.cons (.one (.same rfl)) (.cons (.one (.same rfl)) (.cons (.one (.same rfl)) (.cons (.one (.same (show (.v (.bool true) : AV) = (.v (.bool ((!y1) || (!y3))) : AV) from by first | (simp [c14]; done) | simp only [c14, Bool.or_true, Bool.true_or, Bool.false_or, Bool.or_false, Bool.and_true, Bool.true_and, Bool.and_false, Bool.false_and, Bool.not_true, Bool.not_false, if_true, if_false, Bool.false_eq_true]))) (.nil))))) rfl rfl⟩
    · replace c14 : (!y1) = false := c14
      conv => whnf
      exact ⟨rfl, weak_fin _ rfl rfl rfl (.cons (.same rfl) (LeH.rest)) (.cons (.one (.same rfl)) (.cons (.one (.same rfl)) (.cons (.one (.same rfl)) (.cons (.one (.same (show (.v (.bool (!y3)) : AV) = (.v (.bool ((!y1) || (!y3))) : AV) from by first | (simp [c14]; done) | simp only [c14, Bool.or_true, Bool.true_or, Bool.false_or, Bool.or_false, Bool.and_true, Bool.true_and, Bool.and_false, Bool.false_and, Bool.not_true, Bool.not_false, if_true, if_false, Bool.false_eq_true]))) (.nil))))) rfl rfl⟩
  · rintro ex S' ⟨rfl, w15⟩
    conv => whnf
    refine Tri.weak w15 ?_
    refine Tri.cond rfl (fun c16 => ?_) (fun c16 => ?_)
    · replace h := if_t c16 h
      refine Tri.seqK ?_
      refine Tri.run (G := gm_law11_RingVictim) tyOk mixed ?_
      conv => whnf
      refine Tri.run (G := gm_law11_RingVictim) tyOk mixed ?_
      conv => whnf
      refine fin_here ?_
      conv => whnf
      cases h
      rfl
    · replace h := if_f c16 h
      refine Tri.run (G := gm_law11_RingVictim) tyOk mixed ?_
      conv => whnf
      refine Tri.seqK ?_
      refine Tri.run (G := gm_law11_RingVictim) tyOk mixed ?_
      conv => whnf
      replace h := bind_some h
      obtain ⟨y17, q18, h⟩ := h
      refine PureP.mono (ring_Ring_walk l txn y17 q18) ?_
      rintro _ rfl
      conv => whnf
      refine ⟨⟨(y17.length : Int), (len_map _ _).symm, ?_⟩⟩
      conv => whnf
      refine Tri.seqK ?_
      refine Tri.seqK ?_
      refine Tri.run (G := gm_law11_RingVictim) tyOk mixed ?_
      conv => whnf
      refine Tri.block ?_
      replace h := bind_some h
      obtain ⟨y109, q110, h⟩ := h
      refine Tri.cut (fun ex S' => (∃ v111 : Unit, y109 = (.inl v111) ∧ ex = .ret ∧ Weak S' ⟨57, 0, ofRegs [(4, .v (.bool true))], []⟩) ∨ (∃ v112 : (List Hold) × (List Claim), y109 = (.inr v112) ∧ ex = (.exit 0) ∧ Weak S' ⟨57, 0, ofRegs [(1, .v (.int .i64 txn)), (2, .ptr 0 0)], [.var 25 [.sl (List.map encHold v112.1), .sl (List.map encClaim v112.2)]]⟩)) ?_ ?_
      · refine Tri.loopF (fun (s113 : Int × (List Hold) × (List Claim)) => (⟨57, 0, ofRegs [(1, .v (.int .i64 txn)), (2, .ptr 0 0), (7, .v (.int .i64 (y17.length : Int))), (8, .v (.int .i64 s113.1))], [.var 25 [.sl (List.map encHold s113.2.1), .sl (List.map encClaim s113.2.2)]]⟩ : St)) q110 (weak_fin _ rfl rfl rfl (.cons (.same rfl) (LeH.rest)) (.cons (.one (.same rfl)) (.cons (.one (.same rfl)) (.cons (.one (.same rfl)) (.cons (.one (.same rfl)) (.nil))))) rfl rfl) ?_
        rintro ⟨a106, a107, a108⟩ v114 hv r115
        have hv : law11_RingVictim_l2 txn y17 a106 a107 a108 = some v114 := hv
        unfold law11_RingVictim_l2 at hv
        dsimp only
        refine Tri.seqK ?_
        refine Tri.seqK ?_
        refine Tri.run (G := gm_law11_RingVictim) tyOk mixed ?_
        conv => whnf
        refine Tri.cond rfl (fun c117 => ?_) (fun c117 => ?_)
        · replace hv := if_t c117 hv
          refine Tri.run (G := gm_law11_RingVictim) tyOk mixed ?_
          conv => whnf
          refine Tri.seqK ?_
          refine Tri.block ?_
          refine Tri.seqK ?_
          refine Tri.run (G := gm_law11_RingVictim) tyOk mixed ?_
          conv => whnf
          replace hv := bind_some hv
          obtain ⟨y124, q125, hv⟩ := hv
          refine PureP.mono (ring_Victim_walk ({ Held := a107, Queue := a108 } : Locks) txn y124 q125) ?_
          rintro _ rfl
          conv => whnf
          refine Tri.seqK ?_
          refine Tri.seqK ?_
          refine Tri.run (G := gm_law11_RingVictim) tyOk mixed ?_
          conv => whnf
          refine Tri.cond rfl (fun c127 => ?_) (fun c127 => ?_)
          · replace hv := if_t c127 hv
            refine Tri.seqK ?_
            refine Tri.run (G := gm_law11_RingVictim) tyOk mixed ?_
            conv => whnf
            refine Tri.run (G := gm_law11_RingVictim) tyOk mixed ?_
            conv => whnf
            cases hv
            obtain rfl := r115 _ rfl
            exact Or.inl ⟨_, rfl, rfl, weak_fin _ rfl rfl rfl (LeH.rest) (.cons (.one (.same rfl)) (.nil)) rfl rfl⟩
          · replace hv := if_f c127 hv
            refine Tri.run (G := gm_law11_RingVictim) tyOk mixed ?_
            conv => whnf
            refine Tri.seqK ?_
            refine Tri.run (G := gm_law11_RingVictim) tyOk mixed ?_
            conv => whnf
            replace hv := bind_some hv
            obtain ⟨y128, q129, hv⟩ := hv
            refine PureP.mono (ref10_Free_walk ({ Held := a107, Queue := a108 } : Locks) y124.1 y128 q129) ?_
            rintro _ rfl
            conv => whnf
            refine Tri.run (G := gm_law11_RingVictim) tyOk mixed ?_
            conv => whnf
            refine Tri.run (G := gm_law11_RingVictim) tyOk mixed ?_
            conv => whnf
            cases hv
            exact ⟨_, rfl, weak_fin _ rfl rfl rfl (.cons (.same rfl) (LeH.rest)) (.cons (.one (.same rfl)) (.cons (.one (.same rfl)) (.cons (.one (.same rfl)) (.cons (.one (.same rfl)) (.nil))))) rfl rfl⟩
        · replace hv := if_f c117 hv
          refine Tri.run (G := gm_law11_RingVictim) tyOk mixed ?_
          conv => whnf
          cases hv
          obtain rfl := r115 _ rfl
          exact Or.inr (⟨_, rfl, rfl, weak_fin _ rfl rfl rfl (.cons (.same rfl) (LeH.rest)) (.cons (.one (.same rfl)) (.cons (.one (.same rfl)) (.nil))) rfl rfl⟩)
      · rintro ex S' (⟨v111, rfl, rfl, w130⟩ | ⟨v112, rfl, rfl, w130⟩)
        · dsimp only at h
          conv => whnf
          refine fin_pre w130 ?_
          conv => whnf
          cases h
          rfl
        · dsimp only at h
          conv => whnf
          refine Tri.weak w130 ?_
          refine Tri.seqK ?_
          refine Tri.run (G := gm_law11_RingVictim) tyOk mixed ?_
          conv => whnf
          replace h := bind_some h
          obtain ⟨y131, q132, h⟩ := h
          refine PureP.mono (ring_Victim_walk ({ Held := v112.1, Queue := v112.2 } : Locks) txn y131 q132) ?_
          rintro _ rfl
          conv => whnf
          refine Tri.seqK ?_
          refine Tri.run (G := gm_law11_RingVictim) tyOk mixed ?_
          conv => whnf
          refine Tri.run (G := gm_law11_RingVictim) tyOk mixed ?_
          conv => whnf
          refine fin_here ?_
          conv => whnf
          cases h
          rfl
end Go.Ab
