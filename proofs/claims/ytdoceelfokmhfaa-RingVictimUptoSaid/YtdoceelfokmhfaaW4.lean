/- The program's functions as plain Lean functions, and that the program comes to what they come to. Printed by a program of this session. -/
import Derived.Test.YtdoceelfokmhfaaW3
import Derived.Test.YtdoceelfokmhfaaSh
namespace Go.Ab
open Go.Proofs
set_option linter.unusedVariables false
set_option linter.unusedSimpArgs false
set_option maxRecDepth 100000
set_option maxHeartbeats 4000000
noncomputable def slices_DeleteFunc_Claim__lock_Free_2_l4 (v : Int) (a338 : Int) (a339 : Int) (a340 : (List Claim)) : Option ((Int × Int × (List Claim)) ⊕ (Int × (List Claim))) :=
  if (decide (a339 < (a340.length : Int))) then
    (
      (ix a340 a339).bind fun x364 =>
      (lock_Free_2 x364 v).bind fun y366 =>
      if (!y366) then
        (ix a340 a338).bind fun x369 =>
        some ((IntKind.i64.wrap (a338 + 1)), (List.set a340 (a338).toNat x364))
      else
        some (a338, a340)).bind fun (y362 : Int × (List Claim)) =>
    some (.inl (y362.1, (IntKind.i64.wrap (a339 + 1)), y362.2))
  else
    some (.inr (a338, a340))
noncomputable def slices_DeleteFunc_Claim__lock_Free_2 (l : (List Claim)) (v : Int) : Option ((List Claim)) :=
  (slices_IndexFunc_Claim__lock_Free_2 l v).bind fun y189 =>
  if (decide (y189 = (-1))) then
    some l
  else
    (loop (fun (s343 : Int × Int × (List Claim)) => slices_DeleteFunc_Claim__lock_Free_2_l4 v s343.1 s343.2.1 s343.2.2) (y189, (IntKind.i64.wrap (y189 + 1)), l)).bind fun (y341 : Int × (List Claim)) =>
    need (0 < y341.2.length) <|
    need (0 ≤ y341.1 ∧ y341.1 ≤ (y341.2.length : Int) ∧ (y341.2.length : Int) ≤ (y341.2.length : Int)) <|
    need (0 < (List.take ((y341.1).toNat) y341.2 ++ List.replicate (((((List.map encClaim y341.2).length : Nat) : Int).toNat) - ((y341.1).toNat)) (({ Txn := 0, W := ({ Mode := 0, Lo := [], Hi := [] } : Want), Until := 0 } : Claim) : Claim) ++ List.drop ((((List.map encClaim y341.2).length : Nat) : Int).toNat) y341.2).length) <|
    need (0 ≤ (0 : Int) ∧ 0 ≤ y341.1 ∧ y341.1 ≤ ((List.take ((y341.1).toNat) y341.2 ++ List.replicate (((((List.map encClaim y341.2).length : Nat) : Int).toNat) - ((y341.1).toNat)) (({ Txn := 0, W := ({ Mode := 0, Lo := [], Hi := [] } : Want), Until := 0 } : Claim) : Claim) ++ List.drop ((((List.map encClaim y341.2).length : Nat) : Int).toNat) y341.2).length : Int)) <|
    some (List.drop ((0 : Int).toNat) (List.take ((y341.1).toNat) (List.take ((y341.1).toNat) y341.2 ++ List.replicate (((((List.map encClaim y341.2).length : Nat) : Int).toNat) - ((y341.1).toNat)) (({ Txn := 0, W := ({ Mode := 0, Lo := [], Hi := [] } : Want), Until := 0 } : Claim) : Claim) ++ List.drop ((((List.map encClaim y341.2).length : Nat) : Int).toNat) y341.2)))
def gm_slices_DeleteFunc_Claim__lock_Free_2 : Gm := ⟨tys, [64, 86], [], []⟩
theorem slices_DeleteFunc_Claim__lock_Free_2_walk (l : (List Claim)) (v : Int) (r : (List Claim)) (h : slices_DeleteFunc_Claim__lock_Free_2 l v = some r) : CallP Try.prog 63 [.row 51 5 (List.map encClaim l), .var 3 [.v (.int .i64 v)]] [.row 0 ((List.map encClaim l).length), .fn (.func 64) [] [.ptr 1 0]] (fun a H' => a = .sl (List.map encClaim r) ∧ H'.take ([.gone, .var 3 [.v (.int .i64 v)]] : List Ob).length = [.gone, .var 3 [.v (.int .i64 v)]]) := by
  unfold slices_DeleteFunc_Claim__lock_Free_2 at h
  refine callW (G := gm_slices_DeleteFunc_Claim__lock_Free_2) tyOk Try.func63 rfl (by kernel_rfl) (by simp [Try.f63]) ?_
  refine Tri.seqK ?_
  refine Tri.run (G := gm_slices_DeleteFunc_Claim__lock_Free_2) tyOk mixed ?_
  conv => whnf
  refine Tri.seqK ?_
  refine Tri.run (G := gm_slices_DeleteFunc_Claim__lock_Free_2) tyOk mixed ?_
  conv => whnf
  replace h := bind_some h
  obtain ⟨y189, q190, h⟩ := h
  refine CallP.use (slices_IndexFunc_Claim__lock_Free_2_walk l v y189 q190) [0, 1] rfl rfl rfl rfl rfl rfl rfl rfl rfl ?_
  conv => whnf
  refine Tri.seqK ?_
  refine Tri.seqK ?_
  refine Tri.run (G := gm_slices_DeleteFunc_Claim__lock_Free_2) tyOk mixed ?_
  conv => whnf
  refine Tri.cond rfl (fun c192 => ?_) (fun c192 => ?_)
  · replace h := if_t c192 h
    refine Tri.seqK ?_
    refine Tri.run (G := gm_slices_DeleteFunc_Claim__lock_Free_2) tyOk mixed ?_
    conv => whnf
    refine Tri.run (G := gm_slices_DeleteFunc_Claim__lock_Free_2) tyOk mixed ?_
    conv => whnf
    refine fin_pre (S' := ⟨42, 2, ofRegs [(4, .sl (List.map encClaim l))], [.gone, .var 3 [.v (.int .i64 v)]]⟩) (Weak.trans (weak_freeze 0 rfl) (weak_fin _ rfl rfl rfl (.cons (.gone) (.cons (.same rfl) (LeH.rest))) (.cons (.one (.frz rfl (rfl))) (.nil)) rfl rfl)) ?_
    conv => whnf
    cases h
    exact ⟨rfl, rfl⟩
  · replace h := if_f c192 h
    refine Tri.run (G := gm_slices_DeleteFunc_Claim__lock_Free_2) tyOk mixed ?_
    conv => whnf
    refine Tri.seqK ?_
    refine Tri.seqK ?_
    refine Tri.run (G := gm_slices_DeleteFunc_Claim__lock_Free_2) tyOk mixed ?_
    conv => whnf
    refine Tri.block ?_
    replace h := bind_some h
    obtain ⟨y341, q342, h⟩ := h
    refine Tri.cut (fun ex S' => ex = (.exit 0) ∧ Weak S' ⟨42, 2, ofRegs [(0, .row 0 ((List.map encClaim y341.2).length)), (5, .v (.int .i64 y341.1))], [.row 51 5 (List.map encClaim y341.2), .var 3 [.v (.int .i64 v)]]⟩) ?_ ?_
    · refine Tri.loopF (fun (s343 : Int × Int × (List Claim)) => (⟨42, 2, ofRegs [(0, .row 0 ((List.map encClaim s343.2.2).length)), (1, .fn (.func 64) [] [.ptr 1 0]), (5, .v (.int .i64 s343.1)), (6, .v (.int .i64 s343.2.1))], [.row 51 5 (List.map encClaim s343.2.2), .var 3 [.v (.int .i64 v)]]⟩ : St)) q342 (weak_fin _ rfl rfl rfl (.cons (.same rfl) (.cons (.same rfl) (LeH.rest))) (.cons (.one (.same rfl)) (.cons (.one (.same rfl)) (.cons (.one (.same rfl)) (.cons (.one (.same rfl)) (.nil))))) rfl rfl) ?_
      rintro ⟨a338, a339, a340⟩ v344 hv r345
      have hv : slices_DeleteFunc_Claim__lock_Free_2_l4 v a338 a339 a340 = some v344 := hv
      unfold slices_DeleteFunc_Claim__lock_Free_2_l4 at hv
      dsimp only
      refine Tri.seqK ?_
      refine Tri.seqK ?_
      refine Tri.run (G := gm_slices_DeleteFunc_Claim__lock_Free_2) tyOk mixed ?_
      conv => whnf
      refine ⟨rfl, ?_⟩
      conv => whnf
      refine ⟨⟨(a340.length : Int), by simp, ?_⟩⟩
      conv => whnf
      refine Tri.cond rfl (fun c347 => ?_) (fun c347 => ?_)
      · replace hv := if_t c347 hv
        refine Tri.run (G := gm_slices_DeleteFunc_Claim__lock_Free_2) tyOk mixed ?_
        conv => whnf
        refine Tri.seqK ?_
        replace hv := bind_some hv
        obtain ⟨y362, q363, hv⟩ := hv
        refine Tri.cut (fun ex S' => ex = .normal ∧ Weak S' ⟨42, 2, ofRegs [(0, .row 0 ((List.map encClaim y362.2).length)), (1, .fn (.func 64) [] [.ptr 1 0]), (5, .v (.int .i64 y362.1)), (6, .v (.int .i64 a339))], [.row 51 5 (List.map encClaim y362.2), .var 3 [.v (.int .i64 v)]]⟩) ?_ ?_
        · refine Tri.block ?_
          refine Tri.seqK ?_
          refine Tri.run (G := gm_slices_DeleteFunc_Claim__lock_Free_2) tyOk mixed ?_
          conv => whnf
          replace q363 := bind_some q363
          obtain ⟨x364, q365, q363⟩ := q363
          refine ⟨⟨rfl, (ix_lt q365).1, by have := ix_lt q365; simp only [List.length_map, List.length_set, List.length_cons, List.length_nil] at *; omega⟩, ?_⟩
          conv => whnf
          refine ⟨rfl, ?_⟩
          conv => whnf
          refine ⟨⟨_, map_get encClaim (ix_some q365).2, ?_⟩⟩
          conv => whnf
          refine Tri.seqK ?_
          refine Tri.run (G := gm_slices_DeleteFunc_Claim__lock_Free_2) tyOk mixed ?_
          conv => whnf
          replace q363 := bind_some q363
          obtain ⟨y366, q367, q363⟩ := q363
          refine CallP.use (lock_Free_2_walk x364 v y366 q367) [1] rfl rfl rfl rfl rfl rfl rfl rfl rfl ?_
          conv => whnf
          refine Tri.cond rfl (fun c368 => ?_) (fun c368 => ?_)
          · replace q363 := if_t c368 q363
            refine Tri.seqK ?_
            refine Tri.run (G := gm_slices_DeleteFunc_Claim__lock_Free_2) tyOk mixed ?_
            conv => whnf
            replace q363 := bind_some q363
            obtain ⟨x369, q370, q363⟩ := q363
            refine ⟨⟨rfl, (ix_lt q370).1, by have := ix_lt q370; simp only [List.length_map, List.length_set, List.length_cons, List.length_nil] at *; omega⟩, ?_⟩
            conv => whnf
            refine ⟨rfl, ?_⟩
            conv => whnf
            refine ⟨⟨_, map_get encClaim (ix_some q370).2, ?_⟩⟩
            conv => whnf
            refine ⟨Nat.le_of_ble_eq_true rfl, ?_⟩
            conv => whnf
            refine ⟨⟨List.map encClaim (List.set a340 (a338).toNat x364), map_set encClaim _ _ _ rfl, ?_⟩⟩
            conv => whnf
            refine Tri.run (G := gm_slices_DeleteFunc_Claim__lock_Free_2) tyOk mixed ?_
            conv => whnf
            cases q363
            exact ⟨rfl, weak_fin _ rfl rfl rfl (.cons (.same rfl) (.cons (.same rfl) (LeH.rest))) (.cons (.one (.same (show (.row 0 ((List.map encClaim a340).length) : AV) = (.row 0 ((List.map encClaim (List.set a340 (a338).toNat x364)).length) : AV) from congrArg (AV.row 0) (by simp)))) (.cons (.one (.same rfl)) (.cons (.one (.same rfl)) (.cons (.one (.same rfl)) (.nil))))) rfl rfl⟩
          · replace q363 := if_f c368 q363
            refine Tri.run (G := gm_slices_DeleteFunc_Claim__lock_Free_2) tyOk mixed ?_
            conv => whnf
            cases q363
            exact ⟨rfl, weak_fin _ rfl rfl rfl (.cons (.same rfl) (.cons (.same rfl) (LeH.rest))) (.cons (.one (.same rfl)) (.cons (.one (.same rfl)) (.cons (.one (.same rfl)) (.cons (.one (.same rfl)) (.nil))))) rfl rfl⟩
        · rintro ex S' ⟨rfl, w371⟩
          conv => whnf
          refine Tri.weak w371 ?_
          refine Tri.run (G := gm_slices_DeleteFunc_Claim__lock_Free_2) tyOk mixed ?_
          conv => whnf
          cases hv
          exact ⟨_, rfl, weak_fin _ rfl rfl rfl (.cons (.same rfl) (.cons (.same rfl) (LeH.rest))) (.cons (.one (.same rfl)) (.cons (.one (.same rfl)) (.cons (.one (.same rfl)) (.cons (.one (.same rfl)) (.nil))))) rfl rfl⟩
      · replace hv := if_f c347 hv
        refine Tri.run (G := gm_slices_DeleteFunc_Claim__lock_Free_2) tyOk mixed ?_
        conv => whnf
        cases hv
        obtain rfl := r345 _ rfl
        exact ⟨rfl, weak_fin _ rfl rfl rfl (.cons (.same rfl) (.cons (.same rfl) (LeH.rest))) (.cons (.one (.same rfl)) (.cons (.one (.same rfl)) (.nil))) rfl rfl⟩
    · rintro ex S' ⟨rfl, w372⟩
      conv => whnf
      refine Tri.weak w372 ?_
      refine Tri.seqK ?_
      refine Tri.run (G := gm_slices_DeleteFunc_Claim__lock_Free_2) tyOk mixed ?_
      conv => whnf
      replace h := need_some h
      obtain ⟨p373, h⟩ := h
      refine ⟨⟨rfl, by have := p373; simp only [List.length_map, List.length_append, List.length_take, List.length_drop, List.length_replicate, List.length_set] at *; omega⟩, ?_⟩
      conv => whnf
      replace h := need_some h
      obtain ⟨p374, h⟩ := h
      refine ⟨by have := p374; simp only [List.length_map, List.length_append, List.length_take, List.length_drop, List.length_replicate, List.length_set] at *; omega, ?_⟩
      conv => whnf
      refine ⟨rfl, ?_⟩
      conv => whnf
      refine ⟨⟨List.map encClaim (List.take ((y341.1).toNat) y341.2 ++ List.replicate (((((List.map encClaim y341.2).length : Nat) : Int).toNat) - ((y341.1).toNat)) (({ Txn := 0, W := ({ Mode := 0, Lo := [], Hi := [] } : Want), Until := 0 } : Claim) : Claim) ++ List.drop ((((List.map encClaim y341.2).length : Nat) : Int).toNat) y341.2), by rw [List.map_append, List.map_append, List.map_take, List.map_drop, List.map_replicate]; rfl, ?_⟩⟩
      conv => whnf
      refine Tri.seqK ?_
      refine Tri.run (G := gm_slices_DeleteFunc_Claim__lock_Free_2) tyOk mixed ?_
      conv => whnf
      replace h := need_some h
      obtain ⟨p375, h⟩ := h
      refine ⟨⟨by first | (simp; done) | (simp only [List.length_map, List.length_append, List.length_take, List.length_drop, List.length_replicate, List.length_set, List.length_mergeSort]; omega), by have := p375; simp only [List.length_map, List.length_append, List.length_take, List.length_drop, List.length_replicate, List.length_set] at *; omega⟩, ?_⟩
      conv => whnf
      replace h := need_some h
      obtain ⟨p376, h⟩ := h
      refine ⟨by have := p376; simp only [List.length_map, List.length_append, List.length_take, List.length_drop, List.length_replicate, List.length_set] at *; omega, ?_⟩
      conv => whnf
      refine Tri.run (G := gm_slices_DeleteFunc_Claim__lock_Free_2) tyOk mixed ?_
      conv => whnf
      refine fin_pre (S' := ⟨42, 2, ofRegs [(4, .sl (List.map encClaim (List.drop ((0 : Int).toNat) (List.take ((y341.1).toNat) (List.take ((y341.1).toNat) y341.2 ++ List.replicate (((((List.map encClaim y341.2).length : Nat) : Int).toNat) - ((y341.1).toNat)) (({ Txn := 0, W := ({ Mode := 0, Lo := [], Hi := [] } : Want), Until := 0 } : Claim) : Claim) ++ List.drop ((((List.map encClaim y341.2).length : Nat) : Int).toNat) y341.2)))))], [.gone, .var 3 [.v (.int .i64 v)]]⟩) (Weak.trans (weak_freeze 0 rfl) (weak_fin _ rfl rfl rfl (.cons (.gone) (.cons (.same rfl) (LeH.rest))) (.cons (.one (.frzvw rfl (by first | (simp; done) | (simp only [List.length_map, List.length_append, List.length_take, List.length_drop, List.length_replicate, List.length_set, List.length_mergeSort]; omega)) (by rw [List.map_drop, List.map_take]))) (.nil)) rfl rfl)) ?_
      conv => whnf
      cases h
      exact ⟨rfl, rfl⟩
noncomputable def lock_Settle_l9 (a881 : (List Hold)) (a882 : (List Claim)) (a883 : (List Int)) (a1120 : Int) : Option ((Int) ⊕ (((List Hold) × (List Claim) × (List Int)) ⊕ (Unit))) :=
  if (decide (a1120 < (a882.length : Int))) then
    (ix a882 a1120).bind fun x1151 =>
    (lock_Blockers ({ Held := a881, Queue := a882 } : Locks) x1151.Txn x1151.W a1120).bind fun y1156 =>
    if (decide ((y1156.length : Int) > 0)) then
      some (.inl (IntKind.i64.wrap (a1120 + 1)))
    else
      need (a882.length * 56 ≤ 140737488355328) <|
      need (0 ≤ a1120 ∧ a1120 ≤ (IntKind.i64.wrap (a1120 + 1)) ∧ (IntKind.i64.wrap (a1120 + 1)) ≤ (a882.length : Int) ∧ (a882.length : Int) < 4611686018427387904 ∧ 0 < a882.length) <|
      need (a881.length * 48 ≤ 140737488355328) <|
      need ((a881.length + 1) * 48 ≤ 140737488355328) <|
      need ((a883.length + 1) * 8 ≤ 140737488355328) <|
      some (.inr (.inl ((a881 ++ [({ Txn := x1151.Txn, W := x1151.W } : Hold)]), (List.take a1120.toNat a882 ++ List.drop (IntKind.i64.wrap (a1120 + 1)).toNat a882), (a883 ++ [x1151.Txn]))))
  else
    some (.inr (.inr ()))
noncomputable def lock_Settle_l7 (a881 : (List Hold)) (a882 : (List Claim)) (a883 : (List Int)) : Option (((List Hold) × (List Claim) × (List Int)) ⊕ ((List Hold) × (List Claim) × (List Int))) :=
  (loop (fun (s1125 : Int) => lock_Settle_l9 a881 a882 a883 s1125) (0 : Int)).bind fun (y1121 : ((List Hold) × (List Claim) × (List Int)) ⊕ (Unit)) =>
  match y1121 with
  | (.inl v1123) =>
    some (.inl (v1123.1, v1123.2.1, v1123.2.2))
  | (.inr v1124) =>
    some (.inr (a881, a882, a883))
noncomputable def lock_Settle (l : Locks) : Option (Locks × (List Int)) :=
  (loop (fun (s886 : (List Hold) × (List Claim) × (List Int)) => lock_Settle_l7 s886.1 s886.2.1 s886.2.2) (l.Held, l.Queue, ([] : (List Int)))).bind fun (y884 : (List Hold) × (List Claim) × (List Int)) =>
  some (({ Held := y884.1, Queue := y884.2.1 } : Locks), y884.2.2)
def gm_lock_Settle : Gm := ⟨tys, [58], [(59, 51, 5), (60, 46, 4)], [58]⟩
theorem lock_Settle_walk (l : Locks) (r : Locks × (List Int)) (h : lock_Settle l = some r) : PureP Try.prog 30 [.agg [.sl (List.map encHold l.Held), .sl (List.map encClaim l.Queue)]] (fun a => a = .tup [.agg [.sl (List.map encHold r.1.Held), .sl (List.map encClaim r.1.Queue)], .sl (List.map (encI .i64) r.2)]) := by
  unfold lock_Settle at h
  refine pureW (G := gm_lock_Settle) tyOk Try.func30 rfl (by kernel_rfl) (by simp [Try.f30]) ?_
  refine Tri.seqK ?_
  refine Tri.run (G := gm_lock_Settle) tyOk mixed ?_
  conv => whnf
  refine Tri.scope ?_
  refine Tri.seqK ?_
  refine Tri.run (G := gm_lock_Settle) tyOk mixed ?_
  conv => whnf
  refine Tri.seqK ?_
  refine Tri.run (G := gm_lock_Settle) tyOk mixed ?_
  conv => whnf
  refine Tri.block ?_
  replace h := bind_some h
  obtain ⟨y884, q885, h⟩ := h
  refine Tri.cut (fun ex S' => ex = .ret ∧ Weak S' ⟨51, 0, ofRegs [(2, .ptr 1 0), (3, .row 2 ((List.map (encI .i64) y884.2.2).length))], [.gone, .var 25 [.sl (List.map encHold y884.1), .sl (List.map encClaim y884.2.1)], .row 3 1 (List.map (encI .i64) y884.2.2)]⟩) ?_ ?_
  · refine Tri.loopF (fun (s886 : (List Hold) × (List Claim) × (List Int)) => (⟨51, 0, ofRegs [(1, .ptr 0 0), (2, .ptr 1 0), (4, .row 2 ((List.map (encI .i64) s886.2.2).length))], [.var 25 [.sl (List.map encHold s886.1), .sl (List.map encClaim s886.2.1)], .var 25 [.v (.slice none 0 0), .v (.slice none 0 0)], .row 3 1 (List.map (encI .i64) s886.2.2)]⟩ : St)) q885 (Weak.trans (weak_nil 4 3 1 rfl) (weak_fin _ rfl rfl rfl (.cons (.same rfl) (.cons (.same rfl) (.cons (.same rfl) (LeH.rest)))) (.cons (.one (.same rfl)) (.cons (.one (.same rfl)) (.cons (.one (.same (show (.row 2 0 : AV) = (.row 2 ((List.map (encI .i64) []).length) : AV) from congrArg (AV.row 2) (by simp)))) (.nil)))) rfl rfl)) ?_
    rintro ⟨a881, a882, a883⟩ v887 hv r888
    have hv : lock_Settle_l7 a881 a882 a883 = some v887 := hv
    unfold lock_Settle_l7 at hv
    dsimp only
    refine Tri.block ?_
    refine Tri.seqK ?_
    refine Tri.seqK ?_
    refine Tri.run (G := gm_lock_Settle) tyOk mixed ?_
    conv => whnf
    refine ⟨⟨(a882.length : Int), (len_map _ _).symm, ?_⟩⟩
    conv => whnf
    refine Tri.block ?_
    replace hv := bind_some hv
    obtain ⟨y1121, q1122, hv⟩ := hv
    refine Tri.cut (fun ex S' => (∃ v1123 : (List Hold) × (List Claim) × (List Int), y1121 = (.inl v1123) ∧ ex = (.exit 1) ∧ Weak S' ⟨51, 0, ofRegs [(1, .ptr 0 0), (2, .ptr 1 0), (4, .row 2 ((List.map (encI .i64) v1123.2.2).length))], [.var 25 [.sl (List.map encHold v1123.1), .sl (List.map encClaim v1123.2.1)], .var 25 [.v (.slice none 0 0), .v (.slice none 0 0)], .row 3 1 (List.map (encI .i64) v1123.2.2)]⟩) ∨ (∃ v1124 : Unit, y1121 = (.inr v1124) ∧ ex = (.exit 2) ∧ Weak S' ⟨51, 0, ofRegs [(1, .ptr 0 0), (2, .ptr 1 0), (4, .row 2 ((List.map (encI .i64) a883).length))], [.var 25 [.sl (List.map encHold a881), .sl (List.map encClaim a882)], .var 25 [.v (.slice none 0 0), .v (.slice none 0 0)], .row 3 1 (List.map (encI .i64) a883)]⟩)) ?_ ?_
    · refine Tri.loopF (fun (s1125 : Int) => (⟨51, 0, ofRegs [(1, .ptr 0 0), (2, .ptr 1 0), (4, .row 2 ((List.map (encI .i64) a883).length)), (8, .sl (List.map encClaim a882)), (9, .v (.int .i64 (a882.length : Int))), (10, .v (.int .i64 s1125))], [.var 25 [.sl (List.map encHold a881), .sl (List.map encClaim a882)], .var 25 [.v (.slice none 0 0), .v (.slice none 0 0)], .row 3 1 (List.map (encI .i64) a883)]⟩ : St)) q1122 (weak_fin _ rfl rfl rfl (.cons (.same rfl) (.cons (.same rfl) (.cons (.same rfl) (LeH.rest)))) (.cons (.one (.same rfl)) (.cons (.one (.same rfl)) (.cons (.one (.same rfl)) (.cons (.one (.same rfl)) (.cons (.one (.same rfl)) (.cons (.one (.same rfl)) (.nil))))))) rfl rfl) ?_
      rintro a1120 v1126 hv r1127
      have hv : lock_Settle_l9 a881 a882 a883 a1120 = some v1126 := hv
      unfold lock_Settle_l9 at hv
      refine Tri.seqK ?_
      refine Tri.run (G := gm_lock_Settle) tyOk mixed ?_
      conv => whnf
      refine Tri.seqK ?_
      refine Tri.cond rfl (fun c1129 => ?_) (fun c1129 => ?_)
      · replace hv := if_t c1129 hv
        refine Tri.run (G := gm_lock_Settle) tyOk mixed ?_
        conv => whnf
        refine Tri.seqK ?_
        refine Tri.block ?_
        refine Tri.seqK ?_
        refine Tri.run (G := gm_lock_Settle) tyOk mixed ?_
        conv => whnf
        replace hv := bind_some hv
        obtain ⟨x1151, q1152, hv⟩ := hv
        refine ⟨(ix_some q1152).1, ?_⟩
        conv => whnf
        refine ⟨⟨_, map_get encClaim (ix_some q1152).2, ?_⟩⟩
        conv => whnf
        refine ⟨rfl, ?_⟩
        conv => whnf
        refine Tri.seqK ?_
        refine Tri.seqK ?_
        refine Tri.run (G := gm_lock_Settle) tyOk mixed ?_
        conv => whnf
        replace hv := bind_some hv
        obtain ⟨y1156, q1157, hv⟩ := hv
        refine PureP.mono (lock_Blockers_walk ({ Held := a881, Queue := a882 } : Locks) x1151.Txn x1151.W a1120 y1156 q1157) ?_
        rintro _ rfl
        conv => whnf
        refine ⟨⟨(y1156.length : Int), (len_map _ _).symm, ?_⟩⟩
        conv => whnf
        refine Tri.cond rfl (fun c1158 => ?_) (fun c1158 => ?_)
        · replace hv := if_t c1158 hv
          refine Tri.run (G := gm_lock_Settle) tyOk mixed ?_
          conv => whnf
          refine Tri.run (G := gm_lock_Settle) tyOk mixed ?_
          conv => whnf
          cases hv
          exact ⟨_, rfl, weak_fin _ rfl rfl rfl (.cons (.same rfl) (.cons (.same rfl) (.cons (.same rfl) (LeH.rest)))) (.cons (.one (.same rfl)) (.cons (.one (.same rfl)) (.cons (.one (.same rfl)) (.cons (.one (.same rfl)) (.cons (.one (.same rfl)) (.cons (.one (.same rfl)) (.nil))))))) rfl rfl⟩
        · replace hv := if_f c1158 hv
          refine Tri.run (G := gm_lock_Settle) tyOk mixed ?_
          conv => whnf
          refine Tri.seqK ?_
          refine Tri.run (G := gm_lock_Settle) tyOk mixed ?_
          conv => whnf
          replace hv := need_some hv
          obtain ⟨p1159, hv⟩ := hv
          refine FreshP.mono (clone_59 a882 p1159) ?_
          rintro _ rfl
          conv => whnf
          refine ⟨rfl, ?_⟩
          conv => whnf
          replace hv := need_some hv
          obtain ⟨p1160, hv⟩ := hv
          refine EatP.mono (delete_58 a882 a1120 (IntKind.i64.wrap (a1120 + 1)) p1160) ?_
          rintro _ rfl
          conv => whnf
          refine Tri.seqK ?_
          refine Tri.run (G := gm_lock_Settle) tyOk mixed ?_
          conv => whnf
          replace hv := need_some hv
          obtain ⟨p1169, hv⟩ := hv
          replace hv := need_some hv
          obtain ⟨p1170, hv⟩ := hv
          refine Draw.many 11 (.take 0 (.take 1 (.take 3 (.take 4 (.take 5 (.take 6 (.take 7 (.alt 2 (.alt 8 (.alt 9 (.take 10 (.fin)) (.nil)) (.nil)) (.alt 8 (.alt 2 (.alt 9 (.take 10 (.fin)) (.nil)) (.nil)) (.nil)))))))))) [] (⟨51, 0, ofRegs [(1, .ptr 0 0), (2, .ptr 1 0), (4, .row 2 ((List.map (encI .i64) a883).length)), (6, .ptr 3 0), (41, .sl (List.map encHold (a881 ++ [({ Txn := x1151.Txn, W := x1151.W } : Hold)]))), (42, .ptr 0 0)], [.var 25 [.sl (List.map encHold a881), .row 5 ((List.map encClaim (List.take a1120.toNat a882 ++ List.drop (IntKind.i64.wrap (a1120 + 1)).toNat a882)).length)], .var 25 [.v (.slice none 0 0), .v (.slice none 0 0)], .row 3 1 (List.map (encI .i64) a883), .var 51 [.v (.int .i64 x1151.Txn), .v (.int .i64 x1151.W.Mode), .v (.string (bs x1151.W.Lo)), .v (.string (bs x1151.W.Hi)), .v (.int .u64 x1151.Until)], .gone, .row 51 5 (List.map encClaim (List.take a1120.toNat a882 ++ List.drop (IntKind.i64.wrap (a1120 + 1)).toNat a882))]⟩) (by kernel_rfl) ?_ ?_
          · conv => whnf
            refine ⟨?_, ?_⟩
            · conv => whnf
              refine FreshP.mono (clone_60 a881 p1169) ?_
              rintro _ rfl
              conv => whnf
              refine ⟨?_, ?_⟩
              · conv => whnf
                refine ⟨⟨List.map encHold [({ Txn := x1151.Txn, W := x1151.W } : Hold)], rfl, ?_⟩⟩
                conv => whnf
                refine ⟨?_, ?_⟩
                · conv => whnf
                  refine ⟨rfl, ?_⟩
                  conv => whnf
                  refine ⟨rfl, ?_⟩
                  conv => whnf
                  refine ⟨by simp only [List.length_map]; exact p1170, ?_⟩
                  conv => whnf
                  refine ⟨⟨List.map encHold (a881 ++ [({ Txn := x1151.Txn, W := x1151.W } : Hold)]), map_app encHold _ _ rfl rfl, ?_⟩⟩
                  conv => whnf
                  exact Weak.trans (weak_freeze 6 rfl) (weak_fin _ rfl rfl rfl (.cons (.same rfl) (.cons (.same rfl) (.cons (.same rfl) (.cons (.same rfl) (.cons (.same rfl) (.cons (.same rfl) (LeH.rest))))))) (.cons (.one (.same rfl)) (.cons (.one (.same rfl)) (.cons (.one (.same rfl)) (.cons (.one (.same rfl)) (.cons (.one (.frz rfl (rfl))) (.cons (.one (.same rfl)) (.nil))))))) rfl rfl)
                · conv => whnf
                  trivial
              · conv => whnf
                trivial
            · conv => whnf
              refine ⟨?_, ?_⟩
              · conv => whnf
                refine ⟨⟨List.map encHold [({ Txn := x1151.Txn, W := x1151.W } : Hold)], rfl, ?_⟩⟩
                conv => whnf
                refine ⟨?_, ?_⟩
                · conv => whnf
                  refine FreshP.mono (clone_60 a881 p1169) ?_
                  rintro _ rfl
                  conv => whnf
                  refine ⟨?_, ?_⟩
                  · conv => whnf
                    refine ⟨rfl, ?_⟩
                    conv => whnf
                    refine ⟨rfl, ?_⟩
                    conv => whnf
                    refine ⟨by simp only [List.length_map]; exact p1170, ?_⟩
                    conv => whnf
                    refine ⟨⟨List.map encHold (a881 ++ [({ Txn := x1151.Txn, W := x1151.W } : Hold)]), map_app encHold _ _ rfl rfl, ?_⟩⟩
                    conv => whnf
                    exact Weak.trans (weak_freeze 7 rfl) (weak_fin _ rfl rfl rfl (.cons (.same rfl) (.cons (.same rfl) (.cons (.same rfl) (.cons (.same rfl) (.cons (.same rfl) (.cons (.same rfl) (LeH.rest))))))) (.cons (.one (.same rfl)) (.cons (.one (.same rfl)) (.cons (.one (.same rfl)) (.cons (.one (.same rfl)) (.cons (.one (.frz rfl (rfl))) (.cons (.one (.same rfl)) (.nil))))))) rfl rfl)
                  · conv => whnf
                    trivial
                · conv => whnf
                  trivial
              · conv => whnf
                trivial
          · conv => whnf
            refine Tri.seqK ?_
            refine Tri.run (G := gm_lock_Settle) tyOk mixed ?_
            conv => whnf
            refine ⟨⟨List.map (encI .i64) [x1151.Txn], rfl, ?_⟩⟩
            conv => whnf
            refine ⟨rfl, ?_⟩
            conv => whnf
            refine ⟨rfl, ?_⟩
            conv => whnf
            replace hv := need_some hv
            obtain ⟨p1171, hv⟩ := hv
            refine ⟨by simp only [List.length_map]; exact p1171, ?_⟩
            conv => whnf
            refine ⟨⟨List.map (encI .i64) (a883 ++ [x1151.Txn]), map_app (encI .i64) _ _ rfl rfl, ?_⟩⟩
            conv => whnf
            refine Tri.run (G := gm_lock_Settle) tyOk mixed ?_
            conv => whnf
            cases hv
            obtain rfl := r1127 _ rfl
            exact Or.inl ⟨_, rfl, rfl, Weak.trans (weak_freeze 5 rfl) (weak_fin _ rfl rfl rfl (.cons (.var (.cons (.same rfl) (.cons (.frz rfl (rfl)) (.nil)))) (.cons (.same rfl) (.cons (.same rfl) (LeH.rest)))) (.cons (.one (.same rfl)) (.cons (.one (.same rfl)) (.cons (.one (.same rfl)) (.nil)))) rfl rfl)⟩
      · replace hv := if_f c1129 hv
        refine Tri.run (G := gm_lock_Settle) tyOk mixed ?_
        conv => whnf
        cases hv
        obtain rfl := r1127 _ rfl
        exact Or.inr (⟨_, rfl, rfl, weak_fin _ rfl rfl rfl (.cons (.same rfl) (.cons (.same rfl) (.cons (.same rfl) (LeH.rest)))) (.cons (.one (.same rfl)) (.cons (.one (.same rfl)) (.cons (.one (.same rfl)) (.nil)))) rfl rfl⟩)
    · rintro ex S' (⟨v1123, rfl, rfl, w1172⟩ | ⟨v1124, rfl, rfl, w1172⟩)
      · dsimp only at hv
        conv => whnf
        cases hv
        exact ⟨_, rfl, Weak.trans w1172 (weak_fin _ rfl rfl rfl (.cons (.same rfl) (.cons (.same rfl) (.cons (.same rfl) (LeH.rest)))) (.cons (.one (.same rfl)) (.cons (.one (.same rfl)) (.cons (.one (.same rfl)) (.nil)))) rfl rfl)⟩
      · dsimp only at hv
        conv => whnf
        refine Tri.weak w1172 ?_
        refine Tri.seqK ?_
        refine Tri.run (G := gm_lock_Settle) tyOk mixed ?_
        conv => whnf
        refine Tri.run (G := gm_lock_Settle) tyOk mixed ?_
        conv => whnf
        cases hv
        obtain rfl := r888 _ rfl
        exact ⟨rfl, weak_fin _ rfl rfl rfl (.cons (.gone) (.cons (.same rfl) (.cons (.same rfl) (LeH.rest)))) (.cons (.one (.same rfl)) (.cons (.one (.same rfl)) (.nil))) rfl rfl⟩
  · rintro ex S' ⟨rfl, w1173⟩
    conv => whnf
    refine fin_pre w1173 ?_
    conv => whnf
    refine ⟨rfl, ?_⟩
    conv => whnf
    cases h
    rfl
noncomputable def lock_Free (l : Locks) (txn : Int) : Option (Locks × (List Int)) :=
  need (l.Held.length * 48 ≤ 140737488355328) <|
  (slices_DeleteFunc_Hold__lock_Free_1 l.Held txn).bind fun y2 =>
  need (l.Queue.length * 56 ≤ 140737488355328) <|
  (slices_DeleteFunc_Claim__lock_Free_2 l.Queue txn).bind fun y5 =>
  (lock_Settle ({ Held := y2, Queue := y5 } : Locks)).bind fun y7 =>
  some (y7.1, y7.2)
def gm_lock_Free : Gm := ⟨tys, [61, 63], [(60, 46, 4), (59, 51, 5)], []⟩
theorem lock_Free_walk (l : Locks) (txn : Int) (r : Locks × (List Int)) (h : lock_Free l txn = some r) : PureP Try.prog 32 [.agg [.sl (List.map encHold l.Held), .sl (List.map encClaim l.Queue)], .v (.int .i64 txn)] (fun a => a = .tup [.agg [.sl (List.map encHold r.1.Held), .sl (List.map encClaim r.1.Queue)], .sl (List.map (encI .i64) r.2)]) := by
  unfold lock_Free at h
  refine pureW (G := gm_lock_Free) tyOk Try.func32 rfl (by kernel_rfl) (by simp [Try.f32]) ?_
  refine Tri.seqK ?_
  refine Tri.run (G := gm_lock_Free) tyOk mixed ?_
  conv => whnf
  refine Tri.seqK ?_
  refine Tri.run (G := gm_lock_Free) tyOk mixed ?_
  conv => whnf
  replace h := need_some h
  obtain ⟨p1, h⟩ := h
  refine FreshP.mono (clone_60 l.Held p1) ?_
  rintro _ rfl
  conv => whnf
  replace h := bind_some h
  obtain ⟨y2, q3, h⟩ := h
  refine CallP.use (slices_DeleteFunc_Hold__lock_Free_1_walk l.Held txn y2 q3) [3, 1] rfl rfl rfl rfl rfl rfl rfl rfl rfl ?_
  conv => whnf
  refine Tri.seqK ?_
  refine Tri.run (G := gm_lock_Free) tyOk mixed ?_
  conv => whnf
  replace h := need_some h
  obtain ⟨p4, h⟩ := h
  refine FreshP.mono (clone_59 l.Queue p4) ?_
  rintro _ rfl
  conv => whnf
  replace h := bind_some h
  obtain ⟨y5, q6, h⟩ := h
  refine CallP.use (slices_DeleteFunc_Claim__lock_Free_2_walk l.Queue txn y5 q6) [4, 1] rfl rfl rfl rfl rfl rfl rfl rfl rfl ?_
  conv => whnf
  refine Tri.seqK ?_
  refine Tri.run (G := gm_lock_Free) tyOk mixed ?_
  conv => whnf
  replace h := bind_some h
  obtain ⟨y7, q8, h⟩ := h
  refine PureP.mono (lock_Settle_walk ({ Held := y2, Queue := y5 } : Locks) y7 q8) ?_
  rintro _ rfl
  conv => whnf
  refine Tri.run (G := gm_lock_Free) tyOk mixed ?_
  conv => whnf
  refine fin_here ?_
  conv => whnf
  cases h
  rfl
noncomputable def law10_shown  : Option (Bool) :=
  (ref09_Key 2 [97]).bind fun y1 =>
  (lock_Ask ({ Held := [], Queue := [] } : Locks) 1 y1 9).bind fun y3 =>
  (ref09_Key 1 [97]).bind fun y13 =>
  (lock_Ask y3.1 2 y13 9).bind fun y15 =>
  (lock_Free y15.1 1).bind fun y23 =>
  if (decide (y3.2 = 0)) then
    if (decide (y15.2 = 12)) then
      if (decide ((y23.2.length : Int) = 1)) then
        (ix y23.2 0).bind fun x28 =>
        some (decide (x28 = 2))
      else
        some false
    else
      some false
  else
    some false
def gm_law10_shown : Gm := ⟨tys, [], [], []⟩
theorem law10_shown_walk  (r : Bool) (h : law10_shown = some r) : PureP Try.prog 28 [] (fun a => a = .v (.bool r)) := by
  unfold law10_shown at h
  refine pureW (G := gm_law10_shown) tyOk Try.func28 rfl (by kernel_rfl) (by simp [Try.f28]) ?_
  refine Tri.seqK ?_
  refine Tri.run (G := gm_law10_shown) tyOk mixed ?_
  conv => whnf
  refine Tri.seqK ?_
  refine Tri.run (G := gm_law10_shown) tyOk mixed ?_
  conv => whnf
  replace h := bind_some h
  obtain ⟨y1, q2, h⟩ := h
  refine PureP.mono (ref09_Key_walk 2 [97] y1 q2) ?_
  rintro _ rfl
  conv => whnf
  replace h := bind_some h
  obtain ⟨y3, q4, h⟩ := h
  refine PureP.mono (lock_Ask_walk ({ Held := [], Queue := [] } : Locks) 1 y1 9 y3 q4) ?_
  rintro _ rfl
  conv => whnf
  refine Tri.seqK ?_
  refine Tri.run (G := gm_law10_shown) tyOk mixed ?_
  conv => whnf
  replace h := bind_some h
  obtain ⟨y13, q21, h⟩ := h
  replace h := bind_some h
  obtain ⟨y15, q22, h⟩ := h
  refine Draw.many 7 (.alt 0 (.alt 1 (.alt 2 (.take 3 (.take 4 (.take 5 (.alt 6 (.fin) (.nil))))) (.nil)) (.nil)) (.alt 1 (.alt 0 (.alt 2 (.take 3 (.take 4 (.take 5 (.alt 6 (.fin) (.nil))))) (.nil)) (.nil)) (.nil))) [0, 1, 2, 3, 4, 5, 6] (⟨40, 0, ofRegs [(1, .ptr 0 0), (2, .v (.int .i64 y3.2)), (17, .v (.int .i64 y15.2))], [.var 25 [.sl (List.map encHold y15.1.Held), .sl (List.map encClaim y15.1.Queue)]]⟩) (by kernel_rfl) ?_ ?_
  · conv => whnf
    refine ⟨?_, ?_⟩
    · conv => whnf
      refine ⟨?_, ?_⟩
      · conv => whnf
        refine PureP.mono (ref09_Key_walk 1 [97] y13 q21) ?_
        rintro _ rfl
        conv => whnf
        refine ⟨?_, ?_⟩
        · conv => whnf
          refine PureP.mono (lock_Ask_walk y3.1 2 y13 9 y15 q22) ?_
          rintro _ rfl
          conv => whnf
          refine ⟨?_, ?_⟩
          · conv => whnf
            exact weak_fin _ rfl rfl rfl (.cons (.same rfl) (LeH.rest)) (.cons (.one (.same rfl)) (.cons (.one (.same rfl)) (.cons (.one (.same rfl)) (.nil)))) rfl rfl
          · conv => whnf
            trivial
        · conv => whnf
          trivial
      · conv => whnf
        trivial
    · conv => whnf
      refine ⟨?_, ?_⟩
      · conv => whnf
        refine PureP.mono (ref09_Key_walk 1 [97] y13 q21) ?_
        rintro _ rfl
        conv => whnf
        refine ⟨?_, ?_⟩
        · conv => whnf
          refine ⟨?_, ?_⟩
          · conv => whnf
            refine PureP.mono (lock_Ask_walk y3.1 2 y13 9 y15 q22) ?_
            rintro _ rfl
            conv => whnf
            refine ⟨?_, ?_⟩
            · conv => whnf
              exact weak_fin _ rfl rfl rfl (.cons (.same rfl) (LeH.rest)) (.cons (.one (.same rfl)) (.cons (.one (.same rfl)) (.cons (.one (.same rfl)) (.nil)))) rfl rfl
            · conv => whnf
              trivial
          · conv => whnf
            trivial
        · conv => whnf
          trivial
      · conv => whnf
        trivial
  · conv => whnf
    refine Tri.seqK ?_
    refine Tri.run (G := gm_law10_shown) tyOk mixed ?_
    conv => whnf
    replace h := bind_some h
    obtain ⟨y23, q24, h⟩ := h
    refine PureP.mono (lock_Free_walk y15.1 1 y23 q24) ?_
    rintro _ rfl
    conv => whnf
    refine Tri.seqK ?_
    refine Tri.run (G := gm_law10_shown) tyOk mixed ?_
    conv => whnf
    refine cond_mk (fun c25 => ?_) (fun c25 => ?_)
    · replace h := if_t c25 h
      conv => whnf
      refine cond_mk (fun c26 => ?_) (fun c26 => ?_)
      · replace h := if_t c26 h
        conv => whnf
        refine ⟨⟨(y23.2.length : Int), (len_map _ _).symm, ?_⟩⟩
        conv => whnf
        refine cond_mk (fun c27 => ?_) (fun c27 => ?_)
        · replace h := if_t c27 h
          conv => whnf
          replace h := bind_some h
          obtain ⟨x28, q29, h⟩ := h
          refine ⟨(ix_some q29).1, ?_⟩
          conv => whnf
          refine ⟨⟨_, map_get (encI .i64) (ix_some q29).2, ?_⟩⟩
          conv => whnf
          refine ⟨rfl, ?_⟩
          conv => whnf
          refine Tri.run (G := gm_law10_shown) tyOk mixed ?_
          conv => whnf
          refine fin_here ?_
          conv => whnf
          cases h
          rfl
        · replace h := if_f c27 h
          conv => whnf
          refine Tri.run (G := gm_law10_shown) tyOk mixed ?_
          conv => whnf
          refine fin_here ?_
          conv => whnf
          cases h
          rfl
      · replace h := if_f c26 h
        conv => whnf
        refine Tri.run (G := gm_law10_shown) tyOk mixed ?_
        conv => whnf
        refine fin_here ?_
        conv => whnf
        cases h
        rfl
    · replace h := if_f c25 h
      conv => whnf
      refine Tri.run (G := gm_law10_shown) tyOk mixed ?_
      conv => whnf
      refine fin_here ?_
      conv => whnf
      cases h
      rfl
noncomputable def law10_small (l : Locks) : Option (Bool) :=
  if (decide ((l.Held.length : Int) ≤ 200)) then
    some (decide ((l.Queue.length : Int) ≤ 40))
  else
    some false
def gm_law10_small : Gm := ⟨tys, [], [], []⟩
theorem law10_small_walk (l : Locks) (r : Bool) (h : law10_small l = some r) : PureP Try.prog 29 [.agg [.sl (List.map encHold l.Held), .sl (List.map encClaim l.Queue)]] (fun a => a = .v (.bool r)) := by
  unfold law10_small at h
  refine pureW (G := gm_law10_small) tyOk Try.func29 rfl (by kernel_rfl) (by simp [Try.f29]) ?_
  refine Tri.seqK ?_
  refine Tri.run (G := gm_law10_small) tyOk mixed ?_
  conv => whnf
  refine Tri.seqK ?_
  refine Tri.run (G := gm_law10_small) tyOk mixed ?_
  conv => whnf
  refine ⟨⟨(l.Held.length : Int), (len_map _ _).symm, ?_⟩⟩
  conv => whnf
  refine cond_mk (fun c1 => ?_) (fun c1 => ?_)
  · replace h := if_t c1 h
    conv => whnf
    refine ⟨⟨(l.Queue.length : Int), (len_map _ _).symm, ?_⟩⟩
    conv => whnf
    refine Tri.run (G := gm_law10_small) tyOk mixed ?_
    conv => whnf
    refine fin_here ?_
    conv => whnf
    cases h
    rfl
  · replace h := if_f c1 h
    conv => whnf
    refine Tri.run (G := gm_law10_small) tyOk mixed ?_
    conv => whnf
    refine fin_here ?_
    conv => whnf
    cases h
    rfl
noncomputable def ref10_Same_l2 (a : Locks) (b : Locks) (a124 : Int) : Option ((Int) ⊕ ((Unit) ⊕ (Unit))) :=
  if (decide (a124 < (a.Held.length : Int))) then
    (ix a.Held a124).bind fun x147 =>
    (ix b.Held a124).bind fun x149 =>
    if (!(decide (x147 = x149))) then
      some (.inr (.inl ()))
    else
      some (.inl (IntKind.i64.wrap (a124 + 1)))
  else
    some (.inr (.inr ()))
noncomputable def ref10_Same_l4 (a : Locks) (b : Locks) (a264 : Int) : Option ((Int) ⊕ ((Unit) ⊕ (Unit))) :=
  if (decide (a264 < (a.Queue.length : Int))) then
    (ix a.Queue a264).bind fun x287 =>
    (ix b.Queue a264).bind fun x289 =>
    if (!(decide (x287 = x289))) then
      some (.inr (.inl ()))
    else
      some (.inl (IntKind.i64.wrap (a264 + 1)))
  else
    some (.inr (.inr ()))
noncomputable def ref10_Same (a : Locks) (b : Locks) : Option (Bool) :=
  if ((!(decide ((a.Held.length : Int) = (b.Held.length : Int)))) || (!(decide ((a.Queue.length : Int) = (b.Queue.length : Int))))) then
    some false
  else
    (loop (fun (s129 : Int) => ref10_Same_l2 a b s129) (0 : Int)).bind fun (y125 : (Unit) ⊕ (Unit)) =>
    match y125 with
    | (.inl v127) =>
      some false
    | (.inr v128) =>
      (loop (fun (s269 : Int) => ref10_Same_l4 a b s269) (0 : Int)).bind fun (y265 : (Unit) ⊕ (Unit)) =>
      match y265 with
      | (.inl v267) =>
        some false
      | (.inr v268) =>
        some true
def gm_ref10_Same : Gm := ⟨tys, [], [], []⟩
theorem ref10_Same_walk (a : Locks) (b : Locks) (r : Bool) (h : ref10_Same a b = some r) : PureP Try.prog 33 [.agg [.sl (List.map encHold a.Held), .sl (List.map encClaim a.Queue)], .agg [.sl (List.map encHold b.Held), .sl (List.map encClaim b.Queue)]] (fun a => a = .v (.bool r)) := by
  unfold ref10_Same at h
  refine pureW (G := gm_ref10_Same) tyOk Try.func33 rfl (by kernel_rfl) (by simp [Try.f33]) ?_
  refine Tri.seqK ?_
  refine Tri.run (G := gm_ref10_Same) tyOk mixed ?_
  conv => whnf
  refine Tri.seqK ?_
  refine Tri.seqK ?_
  refine Tri.cut (fun ex S' => ex = .normal ∧ Weak S' ⟨59, 0, ofRegs [(2, .ptr 0 0), (3, .ptr 1 0), (22, .v (.bool ((!(decide ((a.Held.length : Int) = (b.Held.length : Int)))) || (!(decide ((a.Queue.length : Int) = (b.Queue.length : Int)))))))], [.var 25 [.sl (List.map encHold a.Held), .sl (List.map encClaim a.Queue)], .var 25 [.sl (List.map encHold b.Held), .sl (List.map encClaim b.Queue)]]⟩) ?_ ?_
  · refine Tri.run (G := gm_ref10_Same) tyOk mixed ?_
    conv => whnf
    refine ⟨⟨(a.Held.length : Int), (len_map _ _).symm, ?_⟩⟩
    conv => whnf
    refine ⟨⟨(b.Held.length : Int), (len_map _ _).symm, ?_⟩⟩
    conv => whnf
    refine cond_mk (fun c10 => ?_) (fun c10 => ?_)
    · replace c10 : (!(decide ((a.Held.length : Int) = (b.Held.length : Int)))) = true := c10
      conv => whnf
      exact ⟨rfl, weak_fin _ rfl rfl rfl (.cons (.same rfl) (.cons (.same rfl) (LeH.rest))) (.cons (.one (.same rfl)) (.cons (.one (.same rfl)) (.cons (.one (.same (show (.v (.bool true) : AV) = (.v (.bool ((!(decide ((a.Held.length : Int) = (b.Held.length : Int)))) || (!(decide ((a.Queue.length : Int) = (b.Queue.length : Int)))))) : AV) from by first | (simp [c10]; done) | simp only [c10, Bool.or_true, Bool.true_or, Bool.false_or, Bool.or_false, Bool.and_true, Bool.true_and, Bool.and_false, Bool.false_and, Bool.not_true, Bool.not_false, if_true, if_false, Bool.false_eq_true]))) (.nil)))) rfl rfl⟩
    · replace c10 : (!(decide ((a.Held.length : Int) = (b.Held.length : Int)))) = false := c10
      conv => whnf
      refine ⟨⟨(a.Queue.length : Int), (len_map _ _).symm, ?_⟩⟩
      conv => whnf
      refine ⟨⟨(b.Queue.length : Int), (len_map _ _).symm, ?_⟩⟩
      conv => whnf
      exact ⟨rfl, weak_fin _ rfl rfl rfl (.cons (.same rfl) (.cons (.same rfl) (LeH.rest))) (.cons (.one (.same rfl)) (.cons (.one (.same rfl)) (.cons (.one (.same (show (.v (.bool (!(decide ((a.Queue.length : Int) = (b.Queue.length : Int))))) : AV) = (.v (.bool ((!(decide ((a.Held.length : Int) = (b.Held.length : Int)))) || (!(decide ((a.Queue.length : Int) = (b.Queue.length : Int)))))) : AV) from by first | (simp [c10]; done) | simp only [c10, Bool.or_true, Bool.true_or, Bool.false_or, Bool.or_false, Bool.and_true, Bool.true_and, Bool.and_false, Bool.false_and, Bool.not_true, Bool.not_false, if_true, if_false, Bool.false_eq_true]))) (.nil)))) rfl rfl⟩
  · rintro ex S' ⟨rfl, w11⟩
    conv => whnf
    refine Tri.weak w11 ?_
    refine Tri.cond rfl (fun c12 => ?_) (fun c12 => ?_)
    · replace h := if_t c12 h
      refine Tri.seqK ?_
      refine Tri.run (G := gm_ref10_Same) tyOk mixed ?_
      conv => whnf
      refine Tri.run (G := gm_ref10_Same) tyOk mixed ?_
      conv => whnf
      refine fin_here ?_
      conv => whnf
      cases h
      rfl
    · replace h := if_f c12 h
      refine Tri.run (G := gm_ref10_Same) tyOk mixed ?_
      conv => whnf
      refine Tri.seqK ?_
      refine Tri.seqK ?_
      refine Tri.run (G := gm_ref10_Same) tyOk mixed ?_
      conv => whnf
      refine Tri.block ?_
      replace h := bind_some h
      obtain ⟨y125, q126, h⟩ := h
      refine Tri.cut (fun ex S' => (∃ v127 : Unit, y125 = (.inl v127) ∧ ex = .ret ∧ Weak S' ⟨59, 0, ofRegs [(4, .v (.bool false))], []⟩) ∨ (∃ v128 : Unit, y125 = (.inr v128) ∧ ex = (.exit 0) ∧ Weak S' ⟨59, 0, ofRegs [(2, .ptr 0 0), (3, .ptr 1 0)], [.var 25 [.sl (List.map encHold a.Held), .sl (List.map encClaim a.Queue)], .var 25 [.sl (List.map encHold b.Held), .sl (List.map encClaim b.Queue)]]⟩)) ?_ ?_
      · refine Tri.loopF (fun (s129 : Int) => (⟨59, 0, ofRegs [(2, .ptr 0 0), (3, .ptr 1 0), (5, .v (.int .i64 s129))], [.var 25 [.sl (List.map encHold a.Held), .sl (List.map encClaim a.Queue)], .var 25 [.sl (List.map encHold b.Held), .sl (List.map encClaim b.Queue)]]⟩ : St)) q126 (weak_fin _ rfl rfl rfl (.cons (.same rfl) (.cons (.same rfl) (LeH.rest))) (.cons (.one (.same rfl)) (.cons (.one (.same rfl)) (.cons (.one (.same rfl)) (.nil)))) rfl rfl) ?_
        rintro a124 v130 hv r131
        have hv : ref10_Same_l2 a b a124 = some v130 := hv
        unfold ref10_Same_l2 at hv
        refine Tri.seqK ?_
        refine Tri.seqK ?_
        refine Tri.run (G := gm_ref10_Same) tyOk mixed ?_
        conv => whnf
        refine ⟨⟨(a.Held.length : Int), (len_map _ _).symm, ?_⟩⟩
        conv => whnf
        refine Tri.cond rfl (fun c133 => ?_) (fun c133 => ?_)
        · replace hv := if_t c133 hv
          refine Tri.run (G := gm_ref10_Same) tyOk mixed ?_
          conv => whnf
          refine Tri.seqK ?_
          refine Tri.block ?_
          refine Tri.seqK ?_
          refine Tri.run (G := gm_ref10_Same) tyOk mixed ?_
          conv => whnf
          refine Draw.one 11 (.take 0 (.take 1 (.take 2 (.take 3 (.take 4 (.take 5 (.take 6 (.take 7 (.take 8 (.take 9 (.take 10 (.fin)))))))))))) [] (by kernel_rfl) ?_
          conv => whnf
          replace hv := bind_some hv
          obtain ⟨x147, q148, hv⟩ := hv
          refine ⟨(ix_some q148).1, ?_⟩
          conv => whnf
          refine ⟨⟨_, map_get encHold (ix_some q148).2, ?_⟩⟩
          conv => whnf
          refine ⟨rfl, ?_⟩
          conv => whnf
          replace hv := bind_some hv
          obtain ⟨x149, q150, hv⟩ := hv
          refine ⟨(ix_some q150).1, ?_⟩
          conv => whnf
          refine ⟨⟨_, map_get encHold (ix_some q150).2, ?_⟩⟩
          conv => whnf
          refine ⟨rfl, ?_⟩
          conv => whnf
          refine ⟨⟨(!(decide (x147 = x149))), congrArg Bool.not (eq_Hold _ _), ?_⟩⟩
          conv => whnf
          refine Tri.cond rfl (fun c151 => ?_) (fun c151 => ?_)
          · replace hv := if_t c151 hv
            refine Tri.seqK ?_
            refine Tri.run (G := gm_ref10_Same) tyOk mixed ?_
            conv => whnf
            refine Tri.run (G := gm_ref10_Same) tyOk mixed ?_
            conv => whnf
            cases hv
            obtain rfl := r131 _ rfl
            exact Or.inl ⟨_, rfl, rfl, weak_fin _ rfl rfl rfl (LeH.rest) (.cons (.one (.same rfl)) (.nil)) rfl rfl⟩
          · replace hv := if_f c151 hv
            refine Tri.run (G := gm_ref10_Same) tyOk mixed ?_
            conv => whnf
            refine Tri.run (G := gm_ref10_Same) tyOk mixed ?_
            conv => whnf
            cases hv
            exact ⟨_, rfl, weak_fin _ rfl rfl rfl (.cons (.same rfl) (.cons (.same rfl) (LeH.rest))) (.cons (.one (.same rfl)) (.cons (.one (.same rfl)) (.cons (.one (.same rfl)) (.nil)))) rfl rfl⟩
        · replace hv := if_f c133 hv
          refine Tri.run (G := gm_ref10_Same) tyOk mixed ?_
          conv => whnf
          cases hv
          obtain rfl := r131 _ rfl
          exact Or.inr (⟨_, rfl, rfl, weak_fin _ rfl rfl rfl (.cons (.same rfl) (.cons (.same rfl) (LeH.rest))) (.cons (.one (.same rfl)) (.cons (.one (.same rfl)) (.nil))) rfl rfl⟩)
      · rintro ex S' (⟨v127, rfl, rfl, w152⟩ | ⟨v128, rfl, rfl, w152⟩)
        · dsimp only at h
          conv => whnf
          refine fin_pre w152 ?_
          conv => whnf
          cases h
          rfl
        · dsimp only at h
          conv => whnf
          refine Tri.weak w152 ?_
          refine Tri.seqK ?_
          refine Tri.seqK ?_
          refine Tri.run (G := gm_ref10_Same) tyOk mixed ?_
          conv => whnf
          refine Tri.block ?_
          replace h := bind_some h
          obtain ⟨y265, q266, h⟩ := h
          refine Tri.cut (fun ex S' => (∃ v267 : Unit, y265 = (.inl v267) ∧ ex = .ret ∧ Weak S' ⟨59, 0, ofRegs [(4, .v (.bool false))], []⟩) ∨ (∃ v268 : Unit, y265 = (.inr v268) ∧ ex = (.exit 2) ∧ Weak S' ⟨59, 0, ofRegs [], []⟩)) ?_ ?_
          · refine Tri.loopF (fun (s269 : Int) => (⟨59, 0, ofRegs [(2, .ptr 0 0), (3, .ptr 1 0), (6, .v (.int .i64 s269))], [.var 25 [.sl (List.map encHold a.Held), .sl (List.map encClaim a.Queue)], .var 25 [.sl (List.map encHold b.Held), .sl (List.map encClaim b.Queue)]]⟩ : St)) q266 (weak_fin _ rfl rfl rfl (.cons (.same rfl) (.cons (.same rfl) (LeH.rest))) (.cons (.one (.same rfl)) (.cons (.one (.same rfl)) (.cons (.one (.same rfl)) (.nil)))) rfl rfl) ?_
            rintro a264 v270 hv r271
            have hv : ref10_Same_l4 a b a264 = some v270 := hv
            unfold ref10_Same_l4 at hv
            refine Tri.seqK ?_
            refine Tri.seqK ?_
            refine Tri.run (G := gm_ref10_Same) tyOk mixed ?_
            conv => whnf
            refine ⟨⟨(a.Queue.length : Int), (len_map _ _).symm, ?_⟩⟩
            conv => whnf
            refine Tri.cond rfl (fun c273 => ?_) (fun c273 => ?_)
            · replace hv := if_t c273 hv
              refine Tri.run (G := gm_ref10_Same) tyOk mixed ?_
              conv => whnf
              refine Tri.seqK ?_
              refine Tri.block ?_
              refine Tri.seqK ?_
              refine Tri.run (G := gm_ref10_Same) tyOk mixed ?_
              conv => whnf
              refine Draw.one 11 (.take 0 (.take 1 (.take 2 (.take 3 (.take 4 (.take 5 (.take 6 (.take 7 (.take 8 (.take 9 (.take 10 (.fin)))))))))))) [] (by kernel_rfl) ?_
              conv => whnf
              replace hv := bind_some hv
              obtain ⟨x287, q288, hv⟩ := hv
              refine ⟨(ix_some q288).1, ?_⟩
              conv => whnf
              refine ⟨⟨_, map_get encClaim (ix_some q288).2, ?_⟩⟩
              conv => whnf
              refine ⟨rfl, ?_⟩
              conv => whnf
              replace hv := bind_some hv
              obtain ⟨x289, q290, hv⟩ := hv
              refine ⟨(ix_some q290).1, ?_⟩
              conv => whnf
              refine ⟨⟨_, map_get encClaim (ix_some q290).2, ?_⟩⟩
              conv => whnf
              refine ⟨rfl, ?_⟩
              conv => whnf
              refine ⟨⟨(!(decide (x287 = x289))), congrArg Bool.not (eq_Claim _ _), ?_⟩⟩
              conv => whnf
              refine Tri.cond rfl (fun c291 => ?_) (fun c291 => ?_)
              · replace hv := if_t c291 hv
                refine Tri.seqK ?_
                refine Tri.run (G := gm_ref10_Same) tyOk mixed ?_
                conv => whnf
                refine Tri.run (G := gm_ref10_Same) tyOk mixed ?_
                conv => whnf
                cases hv
                obtain rfl := r271 _ rfl
                exact Or.inl ⟨_, rfl, rfl, weak_fin _ rfl rfl rfl (LeH.rest) (.cons (.one (.same rfl)) (.nil)) rfl rfl⟩
              · replace hv := if_f c291 hv
                refine Tri.run (G := gm_ref10_Same) tyOk mixed ?_
                conv => whnf
                refine Tri.run (G := gm_ref10_Same) tyOk mixed ?_
                conv => whnf
                cases hv
                exact ⟨_, rfl, weak_fin _ rfl rfl rfl (.cons (.same rfl) (.cons (.same rfl) (LeH.rest))) (.cons (.one (.same rfl)) (.cons (.one (.same rfl)) (.cons (.one (.same rfl)) (.nil)))) rfl rfl⟩
            · replace hv := if_f c273 hv
              refine Tri.run (G := gm_ref10_Same) tyOk mixed ?_
              conv => whnf
              cases hv
              obtain rfl := r271 _ rfl
              exact Or.inr (⟨_, rfl, rfl, weak_fin _ rfl rfl rfl (LeH.rest) (.nil) rfl rfl⟩)
          · rintro ex S' (⟨v267, rfl, rfl, w292⟩ | ⟨v268, rfl, rfl, w292⟩)
            · dsimp only at h
              conv => whnf
              refine fin_pre w292 ?_
              conv => whnf
              cases h
              rfl
            · dsimp only at h
              conv => whnf
              refine Tri.weak w292 ?_
              refine Tri.seqK ?_
              refine Tri.run (G := gm_ref10_Same) tyOk mixed ?_
              conv => whnf
              refine Tri.run (G := gm_ref10_Same) tyOk mixed ?_
              conv => whnf
              refine fin_here ?_
              conv => whnf
              cases h
              rfl
noncomputable def law10_LockFrees (l : Locks) (txn : Int) : Option (Bool) :=
  law10_shown.bind fun y1 =>
  (law10_small l).bind fun y3 =>
  if ((!y1) || (!y3)) then
    some y1
  else
    (lock_Settle l).bind fun y17 =>
    (ref10_Settle l).bind fun y19 =>
    (lock_Free l txn).bind fun y21 =>
    (ref10_Free l txn).bind fun y23 =>
    (
      (ref10_Same y17.1 y19.1).bind fun y37 =>
      if y37 then
        (ref10_Same y21.1 y23.1).bind fun y40 =>
        some y40
      else
        some false).bind fun (y35 : Bool) =>
    if y35 then
      (ref10_Ints y17.2 y19.2).bind fun y44 =>
      if y44 then
        (ref10_Ints y21.2 y23.2).bind fun y47 =>
        some y47
      else
        some false
    else
      some false
def gm_law10_LockFrees : Gm := ⟨tys, [], [], []⟩
theorem law10_LockFrees_walk (l : Locks) (txn : Int) (r : Bool) (h : law10_LockFrees l txn = some r) : PureP Try.prog 8 [.agg [.sl (List.map encHold l.Held), .sl (List.map encClaim l.Queue)], .v (.int .i64 txn)] (fun a => a = .v (.bool r)) := by
  unfold law10_LockFrees at h
  refine pureW (G := gm_law10_LockFrees) tyOk Try.func8 rfl (by kernel_rfl) (by simp [Try.f8]) ?_
  refine Tri.seqK ?_
  refine Tri.run (G := gm_law10_LockFrees) tyOk mixed ?_
  conv => whnf
  refine Tri.seqK ?_
  refine Tri.run (G := gm_law10_LockFrees) tyOk mixed ?_
  conv => whnf
  replace h := bind_some h
  obtain ⟨y1, q2, h⟩ := h
  refine PureP.mono (law10_shown_walk y1 q2) ?_
  rintro _ rfl
  conv => whnf
  refine Tri.seqK ?_
  refine Tri.run (G := gm_law10_LockFrees) tyOk mixed ?_
  conv => whnf
  replace h := bind_some h
  obtain ⟨y3, q4, h⟩ := h
  refine PureP.mono (law10_small_walk l y3 q4) ?_
  rintro _ rfl
  conv => whnf
  refine Tri.seqK ?_
  refine Tri.seqK ?_
  refine Tri.cut (fun ex S' => ex = .normal ∧ Weak S' ⟨67, 0, ofRegs [(1, .v (.int .i64 txn)), (2, .ptr 0 0), (5, .v (.bool y1)), (24, .v (.bool ((!y1) || (!y3))))], [.var 25 [.sl (List.map encHold l.Held), .sl (List.map encClaim l.Queue)]]⟩) ?_ ?_
  · refine Tri.run (G := gm_law10_LockFrees) tyOk mixed ?_
    conv => whnf
    refine cond_mk (fun c14 => ?_) (fun c14 => ?_)
    · replace c14 : (!y1) = true := c14
      conv => whnf
      exact ⟨rfl, weak_fin _ rfl rfl rfl (.cons (.same rfl) (LeH.rest)) (.cons (.one (.same rfl)) (.cons (.one (.same rfl)) (.cons (.one (.same rfl)) (.cons (.one (.same (show (.v (.bool true) : AV) = (.v (.bool ((!y1) || (!y3))) : AV) from by first | (simp [c14]; done) | simp only [c14, Bool.or_true, Bool.true_or, Bool.false_or, Bool.or_false, Bool.and_true, Bool.true_and, Bool.and_false, Bool.false_and, Bool.not_true, Bool.not_false, if_true, if_false, Bool.false_eq_true]))) (.nil))))) rfl rfl⟩
    · replace c14 : (!y1) = false := c14
      conv => whnf
      exact ⟨rfl, weak_fin _ rfl rfl rfl (.cons (.same rfl) (LeH.rest)) (.cons (.one (.same rfl)) (.cons (.one (.same rfl)) (.cons (.one (.same rfl)) (.cons (.one (.same (show (.v (.bool (!y3)) : AV) = (.v (.bool ((!y1) || (!y3))) : AV) from by first | (simp [c14]; done) | simp only [c14, Bool.or_true, Bool.true_or, Bool.false_or, Bool.or_false, Bool.and_true, Bool.true_and, Bool.and_false, Bool.false_and, Bool.not_true, Bool.not_false, if_true, if_false, Bool.false_eq_true]))) (.nil))))) rfl rfl⟩
  · rintro ex S' ⟨rfl, w15⟩
    conv => whnf
    refine Tri.weak w15 ?_
    refine Tri.cond rfl (fun c16 => ?_) (fun c16 => ?_)
    · replace h := if_t c16 h
      refine Tri.seqK ?_
      refine Tri.run (G := gm_law10_LockFrees) tyOk mixed ?_
      conv => whnf
      refine Tri.run (G := gm_law10_LockFrees) tyOk mixed ?_
      conv => whnf
      refine fin_here ?_
      conv => whnf
      cases h
      rfl
    · replace h := if_f c16 h
      refine Tri.run (G := gm_law10_LockFrees) tyOk mixed ?_
      conv => whnf
      refine Tri.seqK ?_
      refine Tri.run (G := gm_law10_LockFrees) tyOk mixed ?_
      conv => whnf
      replace h := bind_some h
      obtain ⟨y17, q18, h⟩ := h
      refine PureP.mono (lock_Settle_walk l y17 q18) ?_
      rintro _ rfl
      conv => whnf
      refine Tri.seqK ?_
      refine Tri.run (G := gm_law10_LockFrees) tyOk mixed ?_
      conv => whnf
      replace h := bind_some h
      obtain ⟨y19, q20, h⟩ := h
      refine PureP.mono (ref10_Settle_walk l y19 q20) ?_
      rintro _ rfl
      conv => whnf
      refine Tri.seqK ?_
      refine Tri.run (G := gm_law10_LockFrees) tyOk mixed ?_
      conv => whnf
      replace h := bind_some h
      obtain ⟨y21, q22, h⟩ := h
      refine PureP.mono (lock_Free_walk l txn y21 q22) ?_
      rintro _ rfl
      conv => whnf
      refine Tri.seqK ?_
      refine Tri.run (G := gm_law10_LockFrees) tyOk mixed ?_
      conv => whnf
      replace h := bind_some h
      obtain ⟨y23, q24, h⟩ := h
      refine PureP.mono (ref10_Free_walk l txn y23 q24) ?_
      rintro _ rfl
      conv => whnf
      refine Tri.seqK ?_
      replace h := bind_some h
      obtain ⟨y35, q36, h⟩ := h
      refine Tri.cut (fun ex S' => ex = .normal ∧ Weak S' ⟨67, 0, ofRegs [(8, .sl (List.map (encI .i64) y17.2)), (10, .sl (List.map (encI .i64) y19.2)), (12, .sl (List.map (encI .i64) y21.2)), (14, .sl (List.map (encI .i64) y23.2)), (15, .v (.bool y35))], []⟩) ?_ ?_
      · refine Tri.run (G := gm_law10_LockFrees) tyOk mixed ?_
        conv => whnf
        replace q36 := bind_some q36
        obtain ⟨y37, q38, q36⟩ := q36
        refine PureP.mono (ref10_Same_walk y17.1 y19.1 y37 q38) ?_
        rintro _ rfl
        conv => whnf
        refine cond_mk (fun c39 => ?_) (fun c39 => ?_)
        · replace q36 := if_t c39 q36
          conv => whnf
          replace q36 := bind_some q36
          obtain ⟨y40, q41, q36⟩ := q36
          refine PureP.mono (ref10_Same_walk y21.1 y23.1 y40 q41) ?_
          rintro _ rfl
          conv => whnf
          cases q36
          exact ⟨rfl, weak_fin _ rfl rfl rfl (LeH.rest) (.cons (.one (.same rfl)) (.cons (.one (.same rfl)) (.cons (.one (.same rfl)) (.cons (.one (.same rfl)) (.cons (.one (.same rfl)) (.nil)))))) rfl rfl⟩
        · replace q36 := if_f c39 q36
          conv => whnf
          cases q36
          exact ⟨rfl, weak_fin _ rfl rfl rfl (LeH.rest) (.cons (.one (.same rfl)) (.cons (.one (.same rfl)) (.cons (.one (.same rfl)) (.cons (.one (.same rfl)) (.cons (.one (.same rfl)) (.nil)))))) rfl rfl⟩
      · rintro ex S' ⟨rfl, w42⟩
        conv => whnf
        refine Tri.weak w42 ?_
        refine Tri.seqK ?_
        refine Tri.run (G := gm_law10_LockFrees) tyOk mixed ?_
        conv => whnf
        refine cond_mk (fun c43 => ?_) (fun c43 => ?_)
        · replace h := if_t c43 h
          conv => whnf
          replace h := bind_some h
          obtain ⟨y44, q45, h⟩ := h
          refine PureP.mono (ref10_Ints_walk y17.2 y19.2 y44 q45) ?_
          rintro _ rfl
          conv => whnf
          refine cond_mk (fun c46 => ?_) (fun c46 => ?_)
          · replace h := if_t c46 h
            conv => whnf
            replace h := bind_some h
            obtain ⟨y47, q48, h⟩ := h
            refine PureP.mono (ref10_Ints_walk y21.2 y23.2 y47 q48) ?_
            rintro _ rfl
            conv => whnf
            refine Tri.run (G := gm_law10_LockFrees) tyOk mixed ?_
            conv => whnf
            refine fin_here ?_
            conv => whnf
            cases h
            rfl
          · replace h := if_f c46 h
            conv => whnf
            refine Tri.run (G := gm_law10_LockFrees) tyOk mixed ?_
            conv => whnf
            refine fin_here ?_
            conv => whnf
            cases h
            rfl
        · replace h := if_f c43 h
          conv => whnf
          refine Tri.run (G := gm_law10_LockFrees) tyOk mixed ?_
          conv => whnf
          refine fin_here ?_
          conv => whnf
          cases h
          rfl
noncomputable def law10_plays_l2 (l : (List Act)) (a256 : Int) (a257 : (List Hold)) (a258 : (List Claim)) : Option ((Int × (List Hold) × (List Claim)) ⊕ ((List Hold) × (List Claim))) :=
  if ((decide (a256 < (l.length : Int))) && (decide (a256 < 100))) then
    (
      (ix l a256).bind fun x300 =>
      if (decide (x300.Kind = 1)) then
        (lock_Ask ({ Held := a257, Queue := a258 } : Locks) x300.Txn x300.W 9).bind fun y305 =>
        some (y305.1.Held, y305.1.Queue)
      else
        (lock_Free ({ Held := a257, Queue := a258 } : Locks) x300.Txn).bind fun y309 =>
        some (y309.1.Held, y309.1.Queue)).bind fun (y298 : (List Hold) × (List Claim)) =>
    some (.inl ((IntKind.i64.wrap (a256 + 1)), y298.1, y298.2))
  else
    some (.inr (a257, a258))
noncomputable def law10_plays (l : (List Act)) : Option (Locks) :=
  (loop (fun (s261 : Int × (List Hold) × (List Claim)) => law10_plays_l2 l s261.1 s261.2.1 s261.2.2) ((0 : Int), ([] : (List Hold)), ([] : (List Claim)))).bind fun (y259 : (List Hold) × (List Claim)) =>
  some ({ Held := y259.1, Queue := y259.2 } : Locks)
def gm_law10_plays : Gm := ⟨tys, [], [], []⟩
theorem law10_plays_walk (l : (List Act)) (r : Locks) (h : law10_plays l = some r) : PureP Try.prog 34 [.sl (List.map encAct l)] (fun a => a = .agg [.sl (List.map encHold r.Held), .sl (List.map encClaim r.Queue)]) := by
  unfold law10_plays at h
  refine pureW (G := gm_law10_plays) tyOk Try.func34 rfl (by kernel_rfl) (by simp [Try.f34]) ?_
  refine Tri.seqK ?_
  refine Tri.run (G := gm_law10_plays) tyOk mixed ?_
  conv => whnf
  refine Tri.seqK ?_
  refine Tri.run (G := gm_law10_plays) tyOk mixed ?_
  conv => whnf
  refine Tri.seqK ?_
  refine Tri.seqK ?_
  refine Tri.run (G := gm_law10_plays) tyOk mixed ?_
  conv => whnf
  refine Tri.block ?_
  replace h := bind_some h
  obtain ⟨y259, q260, h⟩ := h
  refine Tri.cut (fun ex S' => ex = (.exit 0) ∧ Weak S' ⟨48, 0, ofRegs [(2, .ptr 0 0), (3, .ptr 1 0)], [.var 25 [.v (.slice none 0 0), .v (.slice none 0 0)], .var 25 [.sl (List.map encHold y259.1), .sl (List.map encClaim y259.2)]]⟩) ?_ ?_
  · refine Tri.loopF (fun (s261 : Int × (List Hold) × (List Claim)) => (⟨48, 0, ofRegs [(0, .sl (List.map encAct l)), (2, .ptr 0 0), (3, .ptr 1 0), (4, .v (.int .i64 s261.1))], [.var 25 [.v (.slice none 0 0), .v (.slice none 0 0)], .var 25 [.sl (List.map encHold s261.2.1), .sl (List.map encClaim s261.2.2)]]⟩ : St)) q260 (weak_fin _ rfl rfl rfl (.cons (.same rfl) (.cons (.var (.cons (.nil) (.cons (.nil) (.nil)))) (LeH.rest))) (.cons (.one (.same rfl)) (.cons (.one (.same rfl)) (.cons (.one (.same rfl)) (.cons (.one (.same rfl)) (.nil))))) rfl rfl) ?_
    rintro ⟨a256, a257, a258⟩ v262 hv r263
    have hv : law10_plays_l2 l a256 a257 a258 = some v262 := hv
    unfold law10_plays_l2 at hv
    dsimp only
    refine Tri.seqK ?_
    refine Tri.seqK ?_
    refine Tri.cut (fun ex S' => ex = .normal ∧ Weak S' ⟨48, 0, ofRegs [(0, .sl (List.map encAct l)), (2, .ptr 0 0), (3, .ptr 1 0), (4, .v (.int .i64 a256)), (13, .v (.bool ((decide (a256 < (l.length : Int))) && (decide (a256 < 100)))))], [.var 25 [.v (.slice none 0 0), .v (.slice none 0 0)], .var 25 [.sl (List.map encHold a257), .sl (List.map encClaim a258)]]⟩) ?_ ?_
    · refine Tri.run (G := gm_law10_plays) tyOk mixed ?_
      conv => whnf
      refine ⟨⟨(l.length : Int), (len_map _ _).symm, ?_⟩⟩
      conv => whnf
      refine cond_mk (fun c273 => ?_) (fun c273 => ?_)
      · replace c273 : (decide (a256 < (l.length : Int))) = true := c273
        conv => whnf
        exact ⟨rfl, weak_fin _ rfl rfl rfl (.cons (.same rfl) (.cons (.same rfl) (LeH.rest))) (.cons (.one (.same rfl)) (.cons (.one (.same rfl)) (.cons (.one (.same rfl)) (.cons (.one (.same rfl)) (.cons (.one (.same (show (.v (.bool (decide (a256 < 100))) : AV) = (.v (.bool ((decide (a256 < (l.length : Int))) && (decide (a256 < 100)))) : AV) from by first | (simp [c273]; done) | simp only [c273, Bool.or_true, Bool.true_or, Bool.false_or, Bool.or_false, Bool.and_true, Bool.true_and, Bool.and_false, Bool.false_and, Bool.not_true, Bool.not_false, if_true, if_false, Bool.false_eq_true]))) (.nil)))))) rfl rfl⟩
      · replace c273 : (decide (a256 < (l.length : Int))) = false := c273
        conv => whnf
        exact ⟨rfl, weak_fin _ rfl rfl rfl (.cons (.same rfl) (.cons (.same rfl) (LeH.rest))) (.cons (.one (.same rfl)) (.cons (.one (.same rfl)) (.cons (.one (.same rfl)) (.cons (.one (.same rfl)) (.cons (.one (.same (show (.v (.bool false) : AV) = (.v (.bool ((decide (a256 < (l.length : Int))) && (decide (a256 < 100)))) : AV) from by first | (simp [c273]; done) | simp only [c273, Bool.or_true, Bool.true_or, Bool.false_or, Bool.or_false, Bool.and_true, Bool.true_and, Bool.and_false, Bool.false_and, Bool.not_true, Bool.not_false, if_true, if_false, Bool.false_eq_true]))) (.nil)))))) rfl rfl⟩
    · rintro ex S' ⟨rfl, w274⟩
      conv => whnf
      refine Tri.weak w274 ?_
      refine Tri.cond rfl (fun c275 => ?_) (fun c275 => ?_)
      · replace hv := if_t c275 hv
        refine Tri.run (G := gm_law10_plays) tyOk mixed ?_
        conv => whnf
        refine Tri.seqK ?_
        replace hv := bind_some hv
        obtain ⟨y298, q299, hv⟩ := hv
        refine Tri.cut (fun ex S' => ex = .normal ∧ Weak S' ⟨48, 0, ofRegs [(0, .sl (List.map encAct l)), (2, .ptr 0 0), (3, .ptr 1 0), (4, .v (.int .i64 a256))], [.var 25 [.v (.slice none 0 0), .v (.slice none 0 0)], .var 25 [.sl (List.map encHold y298.1), .sl (List.map encClaim y298.2)]]⟩) ?_ ?_
        · refine Tri.block ?_
          refine Tri.seqK ?_
          refine Tri.run (G := gm_law10_plays) tyOk mixed ?_
          conv => whnf
          replace q299 := bind_some q299
          obtain ⟨x300, q301, q299⟩ := q299
          refine ⟨(ix_some q301).1, ?_⟩
          conv => whnf
          refine ⟨⟨_, map_get encAct (ix_some q301).2, ?_⟩⟩
          conv => whnf
          refine ⟨rfl, ?_⟩
          conv => whnf
          refine Tri.cond rfl (fun c302 => ?_) (fun c302 => ?_)
          · replace q299 := if_t c302 q299
            refine Tri.run (G := gm_law10_plays) tyOk mixed ?_
            conv => whnf
            refine Draw.one 16 (.take 1 (.take 2 (.take 3 (.take 4 (.take 5 (.take 6 (.take 7 (.take 8 (.take 9 (.take 10 (.alt 0 (.alt 11 (.take 12 (.take 13 (.take 14 (.alt 15 (.fin) (.nil))))) (.nil)) (.nil)))))))))))) [1, 2, 3, 4, 5, 6, 7] (by kernel_rfl) ?_
            conv => whnf
            refine ⟨(ix_some q301).1, ?_⟩
            conv => whnf
            refine ⟨⟨_, map_get encAct (ix_some q301).2, ?_⟩⟩
            conv => whnf
            refine ⟨rfl, ?_⟩
            conv => whnf
            refine ⟨(ix_some q301).1, ?_⟩
            conv => whnf
            refine ⟨⟨_, map_get encAct (ix_some q301).2, ?_⟩⟩
            conv => whnf
            refine ⟨rfl, ?_⟩
            conv => whnf
            refine ⟨?_, ?_⟩
            · conv => whnf
              refine ⟨?_, ?_⟩
              · conv => whnf
                replace q299 := bind_some q299
                obtain ⟨y305, q306, q299⟩ := q299
                refine PureP.mono (lock_Ask_walk ({ Held := a257, Queue := a258 } : Locks) x300.Txn x300.W 9 y305 q306) ?_
                rintro _ rfl
                conv => whnf
                refine ⟨?_, ?_⟩
                · conv => whnf
                  cases q299
                  exact ⟨rfl, weak_fin _ rfl rfl rfl (.cons (.same rfl) (.cons (.same rfl) (LeH.rest))) (.cons (.one (.same rfl)) (.cons (.one (.same rfl)) (.cons (.one (.same rfl)) (.cons (.one (.same rfl)) (.nil))))) rfl rfl⟩
                · conv => whnf
                  trivial
              · conv => whnf
                trivial
            · conv => whnf
              trivial
          · replace q299 := if_f c302 q299
            refine Tri.run (G := gm_law10_plays) tyOk mixed ?_
            conv => whnf
            refine Draw.one 11 (.take 1 (.take 2 (.take 3 (.take 4 (.take 5 (.alt 0 (.alt 6 (.take 7 (.take 8 (.take 9 (.alt 10 (.fin) (.nil))))) (.nil)) (.nil))))))) [1, 2, 3, 4, 5, 6, 7] (by kernel_rfl) ?_
            conv => whnf
            refine ⟨(ix_some q301).1, ?_⟩
            conv => whnf
            refine ⟨⟨_, map_get encAct (ix_some q301).2, ?_⟩⟩
            conv => whnf
            refine ⟨rfl, ?_⟩
            conv => whnf
            refine ⟨?_, ?_⟩
            · conv => whnf
              refine ⟨?_, ?_⟩
              · conv => whnf
                replace q299 := bind_some q299
                obtain ⟨y309, q310, q299⟩ := q299
                refine PureP.mono (lock_Free_walk ({ Held := a257, Queue := a258 } : Locks) x300.Txn y309 q310) ?_
                rintro _ rfl
                conv => whnf
                refine ⟨?_, ?_⟩
                · conv => whnf
                  cases q299
                  exact ⟨rfl, weak_fin _ rfl rfl rfl (.cons (.same rfl) (.cons (.same rfl) (LeH.rest))) (.cons (.one (.same rfl)) (.cons (.one (.same rfl)) (.cons (.one (.same rfl)) (.cons (.one (.same rfl)) (.nil))))) rfl rfl⟩
                · conv => whnf
                  trivial
              · conv => whnf
                trivial
            · conv => whnf
              trivial
        · rintro ex S' ⟨rfl, w311⟩
          conv => whnf
          refine Tri.weak w311 ?_
          refine Tri.run (G := gm_law10_plays) tyOk mixed ?_
          conv => whnf
          cases hv
          exact ⟨_, rfl, weak_fin _ rfl rfl rfl (.cons (.same rfl) (.cons (.same rfl) (LeH.rest))) (.cons (.one (.same rfl)) (.cons (.one (.same rfl)) (.cons (.one (.same rfl)) (.cons (.one (.same rfl)) (.nil))))) rfl rfl⟩
      · replace hv := if_f c275 hv
        refine Tri.run (G := gm_law10_plays) tyOk mixed ?_
        conv => whnf
        cases hv
        obtain rfl := r263 _ rfl
        exact ⟨rfl, weak_fin _ rfl rfl rfl (.cons (.same rfl) (.cons (.same rfl) (LeH.rest))) (.cons (.one (.same rfl)) (.cons (.one (.same rfl)) (.nil))) rfl rfl⟩
  · rintro ex S' ⟨rfl, w312⟩
    conv => whnf
    refine Tri.weak w312 ?_
    refine Tri.seqK ?_
    refine Tri.run (G := gm_law10_plays) tyOk mixed ?_
    conv => whnf
    refine Tri.run (G := gm_law10_plays) tyOk mixed ?_
    conv => whnf
    refine fin_here ?_
    conv => whnf
    cases h
    rfl
noncomputable def law10_LockApart_l14 (y3 : Locks) (a938 : Int) (a1189 : Int) : Option ((Int) ⊕ ((Unit) ⊕ (Unit))) :=
  if (decide (a1189 < a938)) then
    (ix y3.Held a938).bind fun x1227 =>
    (ix y3.Held a1189).bind fun x1229 =>
    (ref09_Clash x1227.W x1229.W).bind fun y1231 =>
    if (y1231 && (!(decide (x1227.Txn = x1229.Txn)))) then
      some (.inr (.inl ()))
    else
      some (.inl (IntKind.i64.wrap (a1189 + 1)))
  else
    some (.inr (.inr ()))
noncomputable def law10_LockApart_l12 (y3 : Locks) (a938 : Int) : Option ((Int) ⊕ ((Unit) ⊕ (Unit))) :=
  if (decide (a938 < (y3.Held.length : Int))) then
    (loop (fun (s1194 : Int) => law10_LockApart_l14 y3 a938 s1194) (0 : Int)).bind fun (y1190 : (Unit) ⊕ (Unit)) =>
    match y1190 with
    | (.inl v1192) =>
      some (.inr (.inl ()))
    | (.inr v1193) =>
      some (.inl (IntKind.i64.wrap (a938 + 1)))
  else
    some (.inr (.inr ()))
noncomputable def law10_LockApart (l : (List Act)) : Option (Bool) :=
  law10_shown.bind fun y1 =>
  (law10_plays l).bind fun y3 =>
  (loop (fun (s943 : Int) => law10_LockApart_l12 y3 s943) (0 : Int)).bind fun (y939 : (Unit) ⊕ (Unit)) =>
  match y939 with
  | (.inl v941) =>
    some false
  | (.inr v942) =>
    some y1
def gm_law10_LockApart : Gm := ⟨tys, [], [], []⟩
theorem law10_LockApart_walk (l : (List Act)) (r : Bool) (h : law10_LockApart l = some r) : PureP Try.prog 9 [.sl (List.map encAct l)] (fun a => a = .v (.bool r)) := by
  unfold law10_LockApart at h
  refine pureW (G := gm_law10_LockApart) tyOk Try.func9 rfl (by kernel_rfl) (by simp [Try.f9]) ?_
  refine Tri.seqK ?_
  refine Tri.run (G := gm_law10_LockApart) tyOk mixed ?_
  conv => whnf
  refine Tri.seqK ?_
  refine Tri.run (G := gm_law10_LockApart) tyOk mixed ?_
  conv => whnf
  replace h := bind_some h
  obtain ⟨y1, q2, h⟩ := h
  refine PureP.mono (law10_shown_walk y1 q2) ?_
  rintro _ rfl
  conv => whnf
  refine Tri.seqK ?_
  refine Tri.run (G := gm_law10_LockApart) tyOk mixed ?_
  conv => whnf
  replace h := bind_some h
  obtain ⟨y3, q4, h⟩ := h
  refine PureP.mono (law10_plays_walk l y3 q4) ?_
  rintro _ rfl
  conv => whnf
  refine Tri.seqK ?_
  refine Tri.seqK ?_
  refine Tri.run (G := gm_law10_LockApart) tyOk mixed ?_
  conv => whnf
  refine Tri.block ?_
  replace h := bind_some h
  obtain ⟨y939, q940, h⟩ := h
  refine Tri.cut (fun ex S' => (∃ v941 : Unit, y939 = (.inl v941) ∧ ex = .ret ∧ Weak S' ⟨53, 0, ofRegs [(2, .v (.bool false))], []⟩) ∨ (∃ v942 : Unit, y939 = (.inr v942) ∧ ex = (.exit 0) ∧ Weak S' ⟨53, 0, ofRegs [(3, .v (.bool y1))], []⟩)) ?_ ?_
  · refine Tri.loopF (fun (s943 : Int) => (⟨53, 0, ofRegs [(3, .v (.bool y1)), (4, .ptr 0 0), (5, .v (.int .i64 s943))], [.var 25 [.sl (List.map encHold y3.Held), .sl (List.map encClaim y3.Queue)]]⟩ : St)) q940 (weak_fin _ rfl rfl rfl (.cons (.same rfl) (LeH.rest)) (.cons (.one (.same rfl)) (.cons (.one (.same rfl)) (.cons (.one (.same rfl)) (.nil)))) rfl rfl) ?_
    rintro a938 v944 hv r945
    have hv : law10_LockApart_l12 y3 a938 = some v944 := hv
    unfold law10_LockApart_l12 at hv
    refine Tri.seqK ?_
    refine Tri.seqK ?_
    refine Tri.run (G := gm_law10_LockApart) tyOk mixed ?_
    conv => whnf
    refine ⟨⟨(y3.Held.length : Int), (len_map _ _).symm, ?_⟩⟩
    conv => whnf
    refine Tri.cond rfl (fun c947 => ?_) (fun c947 => ?_)
    · replace hv := if_t c947 hv
      refine Tri.run (G := gm_law10_LockApart) tyOk mixed ?_
      conv => whnf
      refine Tri.seqK ?_
      refine Tri.block ?_
      refine Tri.seqK ?_
      refine Tri.run (G := gm_law10_LockApart) tyOk mixed ?_
      conv => whnf
      refine Tri.block ?_
      replace hv := bind_some hv
      obtain ⟨y1190, q1191, hv⟩ := hv
      refine Tri.cut (fun ex S' => (∃ v1192 : Unit, y1190 = (.inl v1192) ∧ ex = .ret ∧ Weak S' ⟨53, 0, ofRegs [(2, .v (.bool false))], []⟩) ∨ (∃ v1193 : Unit, y1190 = (.inr v1193) ∧ ex = (.exit 2) ∧ Weak S' ⟨53, 0, ofRegs [(3, .v (.bool y1)), (4, .ptr 0 0), (5, .v (.int .i64 a938))], [.var 25 [.sl (List.map encHold y3.Held), .sl (List.map encClaim y3.Queue)]]⟩)) ?_ ?_
      · refine Tri.loopF (fun (s1194 : Int) => (⟨53, 0, ofRegs [(3, .v (.bool y1)), (4, .ptr 0 0), (5, .v (.int .i64 a938)), (6, .v (.int .i64 s1194))], [.var 25 [.sl (List.map encHold y3.Held), .sl (List.map encClaim y3.Queue)]]⟩ : St)) q1191 (weak_fin _ rfl rfl rfl (.cons (.same rfl) (LeH.rest)) (.cons (.one (.same rfl)) (.cons (.one (.same rfl)) (.cons (.one (.same rfl)) (.cons (.one (.same rfl)) (.nil))))) rfl rfl) ?_
        rintro a1189 v1195 hv r1196
        have hv : law10_LockApart_l14 y3 a938 a1189 = some v1195 := hv
        unfold law10_LockApart_l14 at hv
        refine Tri.seqK ?_
        refine Tri.seqK ?_
        refine Tri.run (G := gm_law10_LockApart) tyOk mixed ?_
        conv => whnf
        refine Tri.cond rfl (fun c1198 => ?_) (fun c1198 => ?_)
        · replace hv := if_t c1198 hv
          refine Tri.run (G := gm_law10_LockApart) tyOk mixed ?_
          conv => whnf
          refine Tri.seqK ?_
          refine Tri.block ?_
          refine Tri.seqK ?_
          refine Tri.run (G := gm_law10_LockApart) tyOk mixed ?_
          conv => whnf
          refine Draw.one 14 (.take 0 (.take 1 (.take 2 (.take 3 (.take 4 (.take 5 (.take 6 (.take 7 (.take 8 (.take 9 (.take 10 (.take 11 (.alt 12 (.take 13 (.fin)) (.nil)))))))))))))) [] (by kernel_rfl) ?_
          conv => whnf
          replace hv := bind_some hv
          obtain ⟨x1227, q1228, hv⟩ := hv
          refine ⟨(ix_some q1228).1, ?_⟩
          conv => whnf
          refine ⟨⟨_, map_get encHold (ix_some q1228).2, ?_⟩⟩
          conv => whnf
          refine ⟨rfl, ?_⟩
          conv => whnf
          replace hv := bind_some hv
          obtain ⟨x1229, q1230, hv⟩ := hv
          refine ⟨(ix_some q1230).1, ?_⟩
          conv => whnf
          refine ⟨⟨_, map_get encHold (ix_some q1230).2, ?_⟩⟩
          conv => whnf
          refine ⟨rfl, ?_⟩
          conv => whnf
          refine ⟨?_, ?_⟩
          · conv => whnf
            replace hv := bind_some hv
            obtain ⟨y1231, q1232, hv⟩ := hv
            refine PureP.mono (ref09_Clash_walk x1227.W x1229.W y1231 q1232) ?_
            rintro _ rfl
            conv => whnf
            refine Tri.seqK ?_
            refine Tri.cut (fun ex S' => ex = .normal ∧ Weak S' ⟨53, 0, ofRegs [(3, .v (.bool y1)), (4, .ptr 0 0), (5, .v (.int .i64 a938)), (6, .v (.int .i64 a1189)), (51, .v (.bool (y1231 && (!(decide (x1227.Txn = x1229.Txn))))))], [.var 25 [.sl (List.map encHold y3.Held), .sl (List.map encClaim y3.Queue)]]⟩) ?_ ?_
            · refine Tri.run (G := gm_law10_LockApart) tyOk mixed ?_
              conv => whnf
              refine Draw.one 16 (.take 0 (.take 1 (.take 2 (.take 3 (.take 4 (.take 5 (.take 6 (.take 7 (.take 8 (.take 9 (.take 10 (.take 11 (.take 12 (.take 13 (.take 14 (.take 15 (.fin))))))))))))))))) [] (by kernel_rfl) ?_
              conv => whnf
              refine cond_mk (fun c1240 => ?_) (fun c1240 => ?_)
              · replace c1240 : y1231 = true := c1240
                conv => whnf
                refine ⟨(ix_some q1228).1, ?_⟩
                conv => whnf
                refine ⟨⟨_, map_get encHold (ix_some q1228).2, ?_⟩⟩
                conv => whnf
                refine ⟨rfl, ?_⟩
                conv => whnf
                refine ⟨(ix_some q1230).1, ?_⟩
                conv => whnf
                refine ⟨⟨_, map_get encHold (ix_some q1230).2, ?_⟩⟩
                conv => whnf
                refine ⟨rfl, ?_⟩
                conv => whnf
                exact ⟨rfl, weak_fin _ rfl rfl rfl (.cons (.same rfl) (LeH.rest)) (.cons (.one (.same rfl)) (.cons (.one (.same rfl)) (.cons (.one (.same rfl)) (.cons (.one (.same rfl)) (.cons (.one (.same (show (.v (.bool (!(decide (x1227.Txn = x1229.Txn)))) : AV) = (.v (.bool (y1231 && (!(decide (x1227.Txn = x1229.Txn))))) : AV) from by first | (simp [c1240]; done) | simp only [c1240, Bool.or_true, Bool.true_or, Bool.false_or, Bool.or_false, Bool.and_true, Bool.true_and, Bool.and_false, Bool.false_and, Bool.not_true, Bool.not_false, if_true, if_false, Bool.false_eq_true]))) (.nil)))))) rfl rfl⟩
              · replace c1240 : y1231 = false := c1240
                conv => whnf
                exact ⟨rfl, weak_fin _ rfl rfl rfl (.cons (.same rfl) (LeH.rest)) (.cons (.one (.same rfl)) (.cons (.one (.same rfl)) (.cons (.one (.same rfl)) (.cons (.one (.same rfl)) (.cons (.one (.same (show (.v (.bool false) : AV) = (.v (.bool (y1231 && (!(decide (x1227.Txn = x1229.Txn))))) : AV) from by first | (simp [c1240]; done) | simp only [c1240, Bool.or_true, Bool.true_or, Bool.false_or, Bool.or_false, Bool.and_true, Bool.true_and, Bool.and_false, Bool.false_and, Bool.not_true, Bool.not_false, if_true, if_false, Bool.false_eq_true]))) (.nil)))))) rfl rfl⟩
            · rintro ex S' ⟨rfl, w1241⟩
              conv => whnf
              refine Tri.weak w1241 ?_
              refine Tri.cond rfl (fun c1242 => ?_) (fun c1242 => ?_)
              · replace hv := if_t c1242 hv
                refine Tri.seqK ?_
                refine Tri.run (G := gm_law10_LockApart) tyOk mixed ?_
                conv => whnf
                refine Tri.run (G := gm_law10_LockApart) tyOk mixed ?_
                conv => whnf
                cases hv
                obtain rfl := r1196 _ rfl
                exact Or.inl ⟨_, rfl, rfl, weak_fin _ rfl rfl rfl (LeH.rest) (.cons (.one (.same rfl)) (.nil)) rfl rfl⟩
              · replace hv := if_f c1242 hv
                refine Tri.run (G := gm_law10_LockApart) tyOk mixed ?_
                conv => whnf
                refine Tri.run (G := gm_law10_LockApart) tyOk mixed ?_
                conv => whnf
                cases hv
                exact ⟨_, rfl, weak_fin _ rfl rfl rfl (.cons (.same rfl) (LeH.rest)) (.cons (.one (.same rfl)) (.cons (.one (.same rfl)) (.cons (.one (.same rfl)) (.cons (.one (.same rfl)) (.nil))))) rfl rfl⟩
          · conv => whnf
            trivial
        · replace hv := if_f c1198 hv
          refine Tri.run (G := gm_law10_LockApart) tyOk mixed ?_
          conv => whnf
          cases hv
          obtain rfl := r1196 _ rfl
          exact Or.inr (⟨_, rfl, rfl, weak_fin _ rfl rfl rfl (.cons (.same rfl) (LeH.rest)) (.cons (.one (.same rfl)) (.cons (.one (.same rfl)) (.cons (.one (.same rfl)) (.nil)))) rfl rfl⟩)
      · rintro ex S' (⟨v1192, rfl, rfl, w1243⟩ | ⟨v1193, rfl, rfl, w1243⟩)
        · dsimp only at hv
          conv => whnf
          cases hv
          obtain rfl := r945 _ rfl
          exact Or.inl ⟨_, rfl, rfl, Weak.trans w1243 (weak_fin _ rfl rfl rfl (LeH.rest) (.cons (.one (.same rfl)) (.nil)) rfl rfl)⟩
        · dsimp only at hv
          conv => whnf
          refine Tri.weak w1243 ?_
          refine Tri.run (G := gm_law10_LockApart) tyOk mixed ?_
          conv => whnf
          cases hv
          exact ⟨_, rfl, weak_fin _ rfl rfl rfl (.cons (.same rfl) (LeH.rest)) (.cons (.one (.same rfl)) (.cons (.one (.same rfl)) (.cons (.one (.same rfl)) (.nil)))) rfl rfl⟩
    · replace hv := if_f c947 hv
      refine Tri.run (G := gm_law10_LockApart) tyOk mixed ?_
      conv => whnf
      cases hv
      obtain rfl := r945 _ rfl
      exact Or.inr (⟨_, rfl, rfl, weak_fin _ rfl rfl rfl (LeH.rest) (.cons (.one (.same rfl)) (.nil)) rfl rfl⟩)
  · rintro ex S' (⟨v941, rfl, rfl, w1244⟩ | ⟨v942, rfl, rfl, w1244⟩)
    · dsimp only at h
      conv => whnf
      refine fin_pre w1244 ?_
      conv => whnf
      cases h
      rfl
    · dsimp only at h
      conv => whnf
      refine Tri.weak w1244 ?_
      refine Tri.seqK ?_
      refine Tri.run (G := gm_law10_LockApart) tyOk mixed ?_
      conv => whnf
      refine Tri.run (G := gm_law10_LockApart) tyOk mixed ?_
      conv => whnf
      refine fin_here ?_
      conv => whnf
      cases h
      rfl
noncomputable def law10_LockWaits_l14 (y3 : Locks) (a426 : Int) (x496 : Claim) (a527 : Int) : Option ((Int) ⊕ ((Unit) ⊕ (Unit))) :=
  if (decide (a527 < a426)) then
    (ix y3.Queue a527).bind fun x544 =>
    if (decide (x544.Txn = x496.Txn)) then
      some (.inr (.inl ()))
    else
      some (.inl (IntKind.i64.wrap (a527 + 1)))
  else
    some (.inr (.inr ()))
noncomputable def law10_LockWaits_l12 (y3 : Locks) (a426 : Int) : Option ((Int) ⊕ ((Unit) ⊕ (Unit))) :=
  if (decide (a426 < (y3.Queue.length : Int))) then
    (ix y3.Queue a426).bind fun x496 =>
    (lock_Blockers y3 x496.Txn x496.W a426).bind fun y498 =>
    if (decide ((y498.length : Int) = 0)) then
      some (.inr (.inl ()))
    else
      (loop (fun (s532 : Int) => law10_LockWaits_l14 y3 a426 x496 s532) (0 : Int)).bind fun (y528 : (Unit) ⊕ (Unit)) =>
      match y528 with
      | (.inl v530) =>
        some (.inr (.inl ()))
      | (.inr v531) =>
        some (.inl (IntKind.i64.wrap (a426 + 1)))
  else
    some (.inr (.inr ()))
noncomputable def law10_LockWaits (l : (List Act)) : Option (Bool) :=
  law10_shown.bind fun y1 =>
  (law10_plays l).bind fun y3 =>
  (loop (fun (s431 : Int) => law10_LockWaits_l12 y3 s431) (0 : Int)).bind fun (y427 : (Unit) ⊕ (Unit)) =>
  match y427 with
  | (.inl v429) =>
    some false
  | (.inr v430) =>
    if y1 then
      some (decide ((y3.Queue.length : Int) ≤ 16))
    else
      some false
def gm_law10_LockWaits : Gm := ⟨tys, [], [], []⟩
theorem law10_LockWaits_walk (l : (List Act)) (r : Bool) (h : law10_LockWaits l = some r) : PureP Try.prog 10 [.sl (List.map encAct l)] (fun a => a = .v (.bool r)) := by
  unfold law10_LockWaits at h
  refine pureW (G := gm_law10_LockWaits) tyOk Try.func10 rfl (by kernel_rfl) (by simp [Try.f10]) ?_
  refine Tri.seqK ?_
  refine Tri.run (G := gm_law10_LockWaits) tyOk mixed ?_
  conv => whnf
  refine Tri.seqK ?_
  refine Tri.run (G := gm_law10_LockWaits) tyOk mixed ?_
  conv => whnf
  replace h := bind_some h
  obtain ⟨y1, q2, h⟩ := h
  refine PureP.mono (law10_shown_walk y1 q2) ?_
  rintro _ rfl
  conv => whnf
  refine Tri.seqK ?_
  refine Tri.run (G := gm_law10_LockWaits) tyOk mixed ?_
  conv => whnf
  replace h := bind_some h
  obtain ⟨y3, q4, h⟩ := h
  refine PureP.mono (law10_plays_walk l y3 q4) ?_
  rintro _ rfl
  conv => whnf
  refine Tri.seqK ?_
  refine Tri.seqK ?_
  refine Tri.run (G := gm_law10_LockWaits) tyOk mixed ?_
  conv => whnf
  refine Tri.block ?_
  replace h := bind_some h
  obtain ⟨y427, q428, h⟩ := h
  refine Tri.cut (fun ex S' => (∃ v429 : Unit, y427 = (.inl v429) ∧ ex = .ret ∧ Weak S' ⟨61, 0, ofRegs [(2, .v (.bool false))], []⟩) ∨ (∃ v430 : Unit, y427 = (.inr v430) ∧ ex = (.exit 0) ∧ Weak S' ⟨61, 0, ofRegs [(3, .v (.bool y1)), (4, .ptr 0 0)], [.var 25 [.sl (List.map encHold y3.Held), .sl (List.map encClaim y3.Queue)]]⟩)) ?_ ?_
  · refine Tri.loopF (fun (s431 : Int) => (⟨61, 0, ofRegs [(3, .v (.bool y1)), (4, .ptr 0 0), (5, .v (.int .i64 s431))], [.var 25 [.sl (List.map encHold y3.Held), .sl (List.map encClaim y3.Queue)]]⟩ : St)) q428 (weak_fin _ rfl rfl rfl (.cons (.same rfl) (LeH.rest)) (.cons (.one (.same rfl)) (.cons (.one (.same rfl)) (.cons (.one (.same rfl)) (.nil)))) rfl rfl) ?_
    rintro a426 v432 hv r433
    have hv : law10_LockWaits_l12 y3 a426 = some v432 := hv
    unfold law10_LockWaits_l12 at hv
    refine Tri.seqK ?_
    refine Tri.seqK ?_
    refine Tri.run (G := gm_law10_LockWaits) tyOk mixed ?_
    conv => whnf
    refine ⟨⟨(y3.Queue.length : Int), (len_map _ _).symm, ?_⟩⟩
    conv => whnf
    refine Tri.cond rfl (fun c435 => ?_) (fun c435 => ?_)
    · replace hv := if_t c435 hv
      refine Tri.run (G := gm_law10_LockWaits) tyOk mixed ?_
      conv => whnf
      refine Tri.seqK ?_
      refine Tri.block ?_
      refine Tri.seqK ?_
      refine Tri.run (G := gm_law10_LockWaits) tyOk mixed ?_
      conv => whnf
      refine Draw.one 16 (.take 0 (.take 1 (.take 2 (.take 3 (.take 4 (.take 5 (.take 6 (.take 7 (.take 8 (.take 9 (.take 10 (.take 11 (.take 12 (.take 13 (.alt 14 (.take 15 (.fin)) (.nil)))))))))))))))) [] (by kernel_rfl) ?_
      conv => whnf
      replace hv := bind_some hv
      obtain ⟨x496, q497, hv⟩ := hv
      refine ⟨(ix_some q497).1, ?_⟩
      conv => whnf
      refine ⟨⟨_, map_get encClaim (ix_some q497).2, ?_⟩⟩
      conv => whnf
      refine ⟨rfl, ?_⟩
      conv => whnf
      refine ⟨(ix_some q497).1, ?_⟩
      conv => whnf
      refine ⟨⟨_, map_get encClaim (ix_some q497).2, ?_⟩⟩
      conv => whnf
      refine ⟨rfl, ?_⟩
      conv => whnf
      refine ⟨?_, ?_⟩
      · conv => whnf
        replace hv := bind_some hv
        obtain ⟨y498, q499, hv⟩ := hv
        refine PureP.mono (lock_Blockers_walk y3 x496.Txn x496.W a426 y498 q499) ?_
        rintro _ rfl
        conv => whnf
        refine Tri.seqK ?_
        refine Tri.seqK ?_
        refine Tri.run (G := gm_law10_LockWaits) tyOk mixed ?_
        conv => whnf
        refine ⟨⟨(y498.length : Int), (len_map _ _).symm, ?_⟩⟩
        conv => whnf
        refine Tri.cond rfl (fun c501 => ?_) (fun c501 => ?_)
        · replace hv := if_t c501 hv
          refine Tri.seqK ?_
          refine Tri.run (G := gm_law10_LockWaits) tyOk mixed ?_
          conv => whnf
          refine Tri.run (G := gm_law10_LockWaits) tyOk mixed ?_
          conv => whnf
          cases hv
          obtain rfl := r433 _ rfl
          exact Or.inl ⟨_, rfl, rfl, weak_fin _ rfl rfl rfl (LeH.rest) (.cons (.one (.same rfl)) (.nil)) rfl rfl⟩
        · replace hv := if_f c501 hv
          refine Tri.run (G := gm_law10_LockWaits) tyOk mixed ?_
          conv => whnf
          refine Tri.seqK ?_
          refine Tri.run (G := gm_law10_LockWaits) tyOk mixed ?_
          conv => whnf
          refine Tri.block ?_
          replace hv := bind_some hv
          obtain ⟨y528, q529, hv⟩ := hv
          refine Tri.cut (fun ex S' => (∃ v530 : Unit, y528 = (.inl v530) ∧ ex = .ret ∧ Weak S' ⟨61, 0, ofRegs [(2, .v (.bool false))], []⟩) ∨ (∃ v531 : Unit, y528 = (.inr v531) ∧ ex = (.exit 2) ∧ Weak S' ⟨61, 0, ofRegs [(3, .v (.bool y1)), (4, .ptr 0 0), (5, .v (.int .i64 a426))], [.var 25 [.sl (List.map encHold y3.Held), .sl (List.map encClaim y3.Queue)]]⟩)) ?_ ?_
          · refine Tri.loopF (fun (s532 : Int) => (⟨61, 0, ofRegs [(3, .v (.bool y1)), (4, .ptr 0 0), (5, .v (.int .i64 a426)), (7, .v (.int .i64 s532))], [.var 25 [.sl (List.map encHold y3.Held), .sl (List.map encClaim y3.Queue)]]⟩ : St)) q529 (weak_fin _ rfl rfl rfl (.cons (.same rfl) (LeH.rest)) (.cons (.one (.same rfl)) (.cons (.one (.same rfl)) (.cons (.one (.same rfl)) (.cons (.one (.same rfl)) (.nil))))) rfl rfl) ?_
            rintro a527 v533 hv r534
            have hv : law10_LockWaits_l14 y3 a426 x496 a527 = some v533 := hv
            unfold law10_LockWaits_l14 at hv
            refine Tri.seqK ?_
            refine Tri.seqK ?_
            refine Tri.run (G := gm_law10_LockWaits) tyOk mixed ?_
            conv => whnf
            refine Tri.cond rfl (fun c536 => ?_) (fun c536 => ?_)
            · replace hv := if_t c536 hv
              refine Tri.run (G := gm_law10_LockWaits) tyOk mixed ?_
              conv => whnf
              refine Tri.seqK ?_
              refine Tri.block ?_
              refine Tri.seqK ?_
              refine Tri.run (G := gm_law10_LockWaits) tyOk mixed ?_
              conv => whnf
              refine Draw.one 13 (.take 0 (.take 1 (.take 2 (.take 3 (.take 4 (.take 5 (.take 6 (.take 7 (.take 8 (.take 9 (.take 10 (.take 11 (.take 12 (.fin)))))))))))))) [] (by kernel_rfl) ?_
              conv => whnf
              replace hv := bind_some hv
              obtain ⟨x544, q545, hv⟩ := hv
              refine ⟨(ix_some q545).1, ?_⟩
              conv => whnf
              refine ⟨⟨_, map_get encClaim (ix_some q545).2, ?_⟩⟩
              conv => whnf
              refine ⟨rfl, ?_⟩
              conv => whnf
              refine ⟨(ix_some q497).1, ?_⟩
              conv => whnf
              refine ⟨⟨_, map_get encClaim (ix_some q497).2, ?_⟩⟩
              conv => whnf
              refine ⟨rfl, ?_⟩
              conv => whnf
              refine Tri.cond rfl (fun c546 => ?_) (fun c546 => ?_)
              · replace hv := if_t c546 hv
                refine Tri.seqK ?_
                refine Tri.run (G := gm_law10_LockWaits) tyOk mixed ?_
                conv => whnf
                refine Tri.run (G := gm_law10_LockWaits) tyOk mixed ?_
                conv => whnf
                cases hv
                obtain rfl := r534 _ rfl
                exact Or.inl ⟨_, rfl, rfl, weak_fin _ rfl rfl rfl (LeH.rest) (.cons (.one (.same rfl)) (.nil)) rfl rfl⟩
              · replace hv := if_f c546 hv
                refine Tri.run (G := gm_law10_LockWaits) tyOk mixed ?_
                conv => whnf
                refine Tri.run (G := gm_law10_LockWaits) tyOk mixed ?_
                conv => whnf
                cases hv
                exact ⟨_, rfl, weak_fin _ rfl rfl rfl (.cons (.same rfl) (LeH.rest)) (.cons (.one (.same rfl)) (.cons (.one (.same rfl)) (.cons (.one (.same rfl)) (.cons (.one (.same rfl)) (.nil))))) rfl rfl⟩
            · replace hv := if_f c536 hv
              refine Tri.run (G := gm_law10_LockWaits) tyOk mixed ?_
              conv => whnf
              cases hv
              obtain rfl := r534 _ rfl
              exact Or.inr (⟨_, rfl, rfl, weak_fin _ rfl rfl rfl (.cons (.same rfl) (LeH.rest)) (.cons (.one (.same rfl)) (.cons (.one (.same rfl)) (.cons (.one (.same rfl)) (.nil)))) rfl rfl⟩)
          · rintro ex S' (⟨v530, rfl, rfl, w547⟩ | ⟨v531, rfl, rfl, w547⟩)
            · dsimp only at hv
              conv => whnf
              cases hv
              obtain rfl := r433 _ rfl
              exact Or.inl ⟨_, rfl, rfl, Weak.trans w547 (weak_fin _ rfl rfl rfl (LeH.rest) (.cons (.one (.same rfl)) (.nil)) rfl rfl)⟩
            · dsimp only at hv
              conv => whnf
              refine Tri.weak w547 ?_
              refine Tri.run (G := gm_law10_LockWaits) tyOk mixed ?_
              conv => whnf
              cases hv
              exact ⟨_, rfl, weak_fin _ rfl rfl rfl (.cons (.same rfl) (LeH.rest)) (.cons (.one (.same rfl)) (.cons (.one (.same rfl)) (.cons (.one (.same rfl)) (.nil)))) rfl rfl⟩
      · conv => whnf
        trivial
    · replace hv := if_f c435 hv
      refine Tri.run (G := gm_law10_LockWaits) tyOk mixed ?_
      conv => whnf
      cases hv
      obtain rfl := r433 _ rfl
      exact Or.inr (⟨_, rfl, rfl, weak_fin _ rfl rfl rfl (.cons (.same rfl) (LeH.rest)) (.cons (.one (.same rfl)) (.cons (.one (.same rfl)) (.nil))) rfl rfl⟩)
  · rintro ex S' (⟨v429, rfl, rfl, w548⟩ | ⟨v430, rfl, rfl, w548⟩)
    · dsimp only at h
      conv => whnf
      refine fin_pre w548 ?_
      conv => whnf
      cases h
      rfl
    · dsimp only at h
      conv => whnf
      refine Tri.weak w548 ?_
      refine Tri.seqK ?_
      refine Tri.run (G := gm_law10_LockWaits) tyOk mixed ?_
      conv => whnf
      refine cond_mk (fun c549 => ?_) (fun c549 => ?_)
      · replace h := if_t c549 h
        conv => whnf
        refine ⟨⟨(y3.Queue.length : Int), (len_map _ _).symm, ?_⟩⟩
        conv => whnf
        refine Tri.run (G := gm_law10_LockWaits) tyOk mixed ?_
        conv => whnf
        refine fin_here ?_
        conv => whnf
        cases h
        rfl
      · replace h := if_f c549 h
        conv => whnf
        refine Tri.run (G := gm_law10_LockWaits) tyOk mixed ?_
        conv => whnf
        refine fin_here ?_
        conv => whnf
        cases h
        rfl
noncomputable def law10_LockGoes_l2 (txn : Int) (y17 : Locks × (List Int)) (a70 : Int) : Option ((Int) ⊕ ((Unit) ⊕ (Unit))) :=
  if (decide (a70 < (y17.1.Held.length : Int))) then
    (ix y17.1.Held a70).bind fun x83 =>
    if (decide (x83.Txn = txn)) then
      some (.inr (.inl ()))
    else
      some (.inl (IntKind.i64.wrap (a70 + 1)))
  else
    some (.inr (.inr ()))
noncomputable def law10_LockGoes_l4 (l : Locks) (txn : Int) (y17 : Locks × (List Int)) (a886 : Int) (a887 : Int) : Option ((Int × Int) ⊕ ((Unit) ⊕ (Int))) :=
  if (decide (a887 < (l.Held.length : Int))) then
    (
      (ix l.Held a887).bind fun x1004 =>
      if (decide (x1004.Txn = txn)) then
        some (.inl a886)
      else
        (
          if (decide (a886 ≥ (y17.1.Held.length : Int))) then
            some true
          else
            (ix y17.1.Held a886).bind fun x1047 =>
            some (!(decide (x1047 = x1004)))).bind fun (y1041 : Bool) =>
        if y1041 then
          some (.inr ())
        else
          some (.inl (IntKind.i64.wrap (a886 + 1)))).bind fun (y997 : (Int) ⊕ (Unit)) =>
    match y997 with
    | (.inl v999) =>
      some (.inl (v999, (IntKind.i64.wrap (a887 + 1))))
    | (.inr v1000) =>
      some (.inr (.inl ()))
  else
    some (.inr (.inr a886))
noncomputable def law10_LockGoes (l : Locks) (txn : Int) : Option (Bool) :=
  law10_shown.bind fun y1 =>
  (law10_small l).bind fun y3 =>
  if ((!y1) || (!y3)) then
    some y1
  else
    (lock_Free l txn).bind fun y17 =>
    (loop (fun (s75 : Int) => law10_LockGoes_l2 txn y17 s75) (0 : Int)).bind fun (y71 : (Unit) ⊕ (Unit)) =>
    match y71 with
    | (.inl v73) =>
      some false
    | (.inr v74) =>
      (loop (fun (s892 : Int × Int) => law10_LockGoes_l4 l txn y17 s892.1 s892.2) ((0 : Int), (0 : Int))).bind fun (y888 : (Unit) ⊕ (Int)) =>
      match y888 with
      | (.inl v890) =>
        some false
      | (.inr v891) =>
        (lock_Waits y17.1 txn).bind fun y1053 =>
        if (!y1053) then
          some (decide ((y17.1.Held.length : Int) = (IntKind.i64.wrap (v891 + (y17.2.length : Int)))))
        else
          some false
def gm_law10_LockGoes : Gm := ⟨tys, [], [], []⟩
theorem law10_LockGoes_walk (l : Locks) (txn : Int) (r : Bool) (h : law10_LockGoes l txn = some r) : PureP Try.prog 11 [.agg [.sl (List.map encHold l.Held), .sl (List.map encClaim l.Queue)], .v (.int .i64 txn)] (fun a => a = .v (.bool r)) := by
  unfold law10_LockGoes at h
  refine pureW (G := gm_law10_LockGoes) tyOk Try.func11 rfl (by kernel_rfl) (by simp [Try.f11]) ?_
  refine Tri.seqK ?_
  refine Tri.run (G := gm_law10_LockGoes) tyOk mixed ?_
  conv => whnf
  refine Tri.seqK ?_
  refine Tri.run (G := gm_law10_LockGoes) tyOk mixed ?_
  conv => whnf
  replace h := bind_some h
  obtain ⟨y1, q2, h⟩ := h
  refine PureP.mono (law10_shown_walk y1 q2) ?_
  rintro _ rfl
  conv => whnf
  refine Tri.seqK ?_
  refine Tri.run (G := gm_law10_LockGoes) tyOk mixed ?_
  conv => whnf
  replace h := bind_some h
  obtain ⟨y3, q4, h⟩ := h
  refine PureP.mono (law10_small_walk l y3 q4) ?_
  rintro _ rfl
  conv => whnf
  refine Tri.seqK ?_
  refine Tri.seqK ?_
  refine Tri.cut (fun ex S' => ex = .normal ∧ Weak S' ⟨92, 0, ofRegs [(1, .v (.int .i64 txn)), (2, .ptr 0 0), (5, .v (.bool y1)), (20, .v (.bool ((!y1) || (!y3))))], [.var 25 [.sl (List.map encHold l.Held), .sl (List.map encClaim l.Queue)]]⟩) ?_ ?_
  · refine Tri.run (G := gm_law10_LockGoes) tyOk mixed ?_
    conv => whnf
    refine cond_mk (fun c14 => ?_) (fun c14 => ?_)
    · replace c14 : (!y1) = true := c14
      conv => whnf
      exact ⟨rfl, weak_fin _ rfl rfl rfl (.cons (.same rfl) (LeH.rest)) (.cons (.one (.same rfl)) (.cons (.one (.same rfl)) (.cons (.one (.same rfl)) (.cons (.one (.same (show (.v (.bool true) : AV) = (.v (.bool ((!y1) || (!y3))) : AV) from by first | (simp [c14]; done) | simp only [c14, Bool.or_true, Bool.true_or, Bool.false_or, Bool.or_false, Bool.and_true, Bool.true_and, Bool.and_false, Bool.false_and, Bool.not_true, Bool.not_false, if_true, if_false, Bool.false_eq_true]))) (.nil))))) rfl rfl⟩
    · replace c14 : (!y1) = false := c14
      conv => whnf
      exact ⟨rfl, weak_fin _ rfl rfl rfl (.cons (.same rfl) (LeH.rest)) (.cons (.one (.same rfl)) (.cons (.one (.same rfl)) (.cons (.one (.same rfl)) (.cons (.one (.same (show (.v (.bool (!y3)) : AV) = (.v (.bool ((!y1) || (!y3))) : AV) from by first | (simp [c14]; done) | simp only [c14, Bool.or_true, Bool.true_or, Bool.false_or, Bool.or_false, Bool.and_true, Bool.true_and, Bool.and_false, Bool.false_and, Bool.not_true, Bool.not_false, if_true, if_false, Bool.false_eq_true]))) (.nil))))) rfl rfl⟩
  · rintro ex S' ⟨rfl, w15⟩
    conv => whnf
    refine Tri.weak w15 ?_
    refine Tri.cond rfl (fun c16 => ?_) (fun c16 => ?_)
    · replace h := if_t c16 h
      refine Tri.seqK ?_
      refine Tri.run (G := gm_law10_LockGoes) tyOk mixed ?_
      conv => whnf
      refine Tri.run (G := gm_law10_LockGoes) tyOk mixed ?_
      conv => whnf
      refine fin_here ?_
      conv => whnf
      cases h
      rfl
    · replace h := if_f c16 h
      refine Tri.run (G := gm_law10_LockGoes) tyOk mixed ?_
      conv => whnf
      refine Tri.seqK ?_
      refine Tri.run (G := gm_law10_LockGoes) tyOk mixed ?_
      conv => whnf
      replace h := bind_some h
      obtain ⟨y17, q18, h⟩ := h
      refine PureP.mono (lock_Free_walk l txn y17 q18) ?_
      rintro _ rfl
      conv => whnf
      refine Tri.seqK ?_
      refine Tri.seqK ?_
      refine Tri.run (G := gm_law10_LockGoes) tyOk mixed ?_
      conv => whnf
      refine Tri.block ?_
      replace h := bind_some h
      obtain ⟨y71, q72, h⟩ := h
      refine Tri.cut (fun ex S' => (∃ v73 : Unit, y71 = (.inl v73) ∧ ex = .ret ∧ Weak S' ⟨92, 0, ofRegs [(4, .v (.bool false))], []⟩) ∨ (∃ v74 : Unit, y71 = (.inr v74) ∧ ex = (.exit 0) ∧ Weak S' ⟨92, 0, ofRegs [(1, .v (.int .i64 txn)), (2, .ptr 0 0), (7, .ptr 1 0), (8, .sl (List.map (encI .i64) y17.2))], [.var 25 [.sl (List.map encHold l.Held), .sl (List.map encClaim l.Queue)], .var 25 [.sl (List.map encHold y17.1.Held), .sl (List.map encClaim y17.1.Queue)]]⟩)) ?_ ?_
      · refine Tri.loopF (fun (s75 : Int) => (⟨92, 0, ofRegs [(1, .v (.int .i64 txn)), (2, .ptr 0 0), (7, .ptr 1 0), (8, .sl (List.map (encI .i64) y17.2)), (9, .v (.int .i64 s75))], [.var 25 [.sl (List.map encHold l.Held), .sl (List.map encClaim l.Queue)], .var 25 [.sl (List.map encHold y17.1.Held), .sl (List.map encClaim y17.1.Queue)]]⟩ : St)) q72 (weak_fin _ rfl rfl rfl (.cons (.same rfl) (.cons (.same rfl) (LeH.rest))) (.cons (.one (.same rfl)) (.cons (.one (.same rfl)) (.cons (.one (.same rfl)) (.cons (.one (.same rfl)) (.cons (.one (.same rfl)) (.nil)))))) rfl rfl) ?_
        rintro a70 v76 hv r77
        have hv : law10_LockGoes_l2 txn y17 a70 = some v76 := hv
        unfold law10_LockGoes_l2 at hv
        refine Tri.seqK ?_
        refine Tri.seqK ?_
        refine Tri.run (G := gm_law10_LockGoes) tyOk mixed ?_
        conv => whnf
        refine ⟨⟨(y17.1.Held.length : Int), (len_map _ _).symm, ?_⟩⟩
        conv => whnf
        refine Tri.cond rfl (fun c79 => ?_) (fun c79 => ?_)
        · replace hv := if_t c79 hv
          refine Tri.run (G := gm_law10_LockGoes) tyOk mixed ?_
          conv => whnf
          refine Tri.seqK ?_
          refine Tri.block ?_
          refine Tri.seqK ?_
          refine Tri.run (G := gm_law10_LockGoes) tyOk mixed ?_
          conv => whnf
          replace hv := bind_some hv
          obtain ⟨x83, q84, hv⟩ := hv
          refine ⟨(ix_some q84).1, ?_⟩
          conv => whnf
          refine ⟨⟨_, map_get encHold (ix_some q84).2, ?_⟩⟩
          conv => whnf
          refine ⟨rfl, ?_⟩
          conv => whnf
          refine Tri.cond rfl (fun c85 => ?_) (fun c85 => ?_)
          · replace hv := if_t c85 hv
            refine Tri.seqK ?_
            refine Tri.run (G := gm_law10_LockGoes) tyOk mixed ?_
            conv => whnf
            refine Tri.run (G := gm_law10_LockGoes) tyOk mixed ?_
            conv => whnf
            cases hv
            obtain rfl := r77 _ rfl
            exact Or.inl ⟨_, rfl, rfl, weak_fin _ rfl rfl rfl (LeH.rest) (.cons (.one (.same rfl)) (.nil)) rfl rfl⟩
          · replace hv := if_f c85 hv
            refine Tri.run (G := gm_law10_LockGoes) tyOk mixed ?_
            conv => whnf
            refine Tri.run (G := gm_law10_LockGoes) tyOk mixed ?_
            conv => whnf
            cases hv
            exact ⟨_, rfl, weak_fin _ rfl rfl rfl (.cons (.same rfl) (.cons (.same rfl) (LeH.rest))) (.cons (.one (.same rfl)) (.cons (.one (.same rfl)) (.cons (.one (.same rfl)) (.cons (.one (.same rfl)) (.cons (.one (.same rfl)) (.nil)))))) rfl rfl⟩
        · replace hv := if_f c79 hv
          refine Tri.run (G := gm_law10_LockGoes) tyOk mixed ?_
          conv => whnf
          cases hv
          obtain rfl := r77 _ rfl
          exact Or.inr (⟨_, rfl, rfl, weak_fin _ rfl rfl rfl (.cons (.same rfl) (.cons (.same rfl) (LeH.rest))) (.cons (.one (.same rfl)) (.cons (.one (.same rfl)) (.cons (.one (.same rfl)) (.cons (.one (.same rfl)) (.nil))))) rfl rfl⟩)
      · rintro ex S' (⟨v73, rfl, rfl, w86⟩ | ⟨v74, rfl, rfl, w86⟩)
        · dsimp only at h
          conv => whnf
          refine fin_pre w86 ?_
          conv => whnf
          cases h
          rfl
        · dsimp only at h
          conv => whnf
          refine Tri.weak w86 ?_
          refine Tri.seqK ?_
          refine Tri.run (G := gm_law10_LockGoes) tyOk mixed ?_
          conv => whnf
          refine Tri.seqK ?_
          refine Tri.seqK ?_
          refine Tri.run (G := gm_law10_LockGoes) tyOk mixed ?_
          conv => whnf
          refine Tri.block ?_
          replace h := bind_some h
          obtain ⟨y888, q889, h⟩ := h
          refine Tri.cut (fun ex S' => (∃ v890 : Unit, y888 = (.inl v890) ∧ ex = .ret ∧ Weak S' ⟨92, 0, ofRegs [(4, .v (.bool false))], []⟩) ∨ (∃ v891 : Int, y888 = (.inr v891) ∧ ex = (.exit 2) ∧ Weak S' ⟨92, 0, ofRegs [(1, .v (.int .i64 txn)), (7, .ptr 1 0), (8, .sl (List.map (encI .i64) y17.2)), (10, .v (.int .i64 v891))], [.gone, .var 25 [.sl (List.map encHold y17.1.Held), .sl (List.map encClaim y17.1.Queue)]]⟩)) ?_ ?_
          · refine Tri.loopF (fun (s892 : Int × Int) => (⟨92, 0, ofRegs [(1, .v (.int .i64 txn)), (2, .ptr 0 0), (7, .ptr 1 0), (8, .sl (List.map (encI .i64) y17.2)), (10, .v (.int .i64 s892.1)), (11, .v (.int .i64 s892.2))], [.var 25 [.sl (List.map encHold l.Held), .sl (List.map encClaim l.Queue)], .var 25 [.sl (List.map encHold y17.1.Held), .sl (List.map encClaim y17.1.Queue)]]⟩ : St)) q889 (weak_fin _ rfl rfl rfl (.cons (.same rfl) (.cons (.same rfl) (LeH.rest))) (.cons (.one (.same rfl)) (.cons (.one (.same rfl)) (.cons (.one (.same rfl)) (.cons (.one (.same rfl)) (.cons (.one (.same rfl)) (.cons (.one (.same rfl)) (.nil))))))) rfl rfl) ?_
            rintro ⟨a886, a887⟩ v893 hv r894
            have hv : law10_LockGoes_l4 l txn y17 a886 a887 = some v893 := hv
            unfold law10_LockGoes_l4 at hv
            dsimp only
            refine Tri.seqK ?_
            refine Tri.seqK ?_
            refine Tri.run (G := gm_law10_LockGoes) tyOk mixed ?_
            conv => whnf
            refine ⟨⟨(l.Held.length : Int), (len_map _ _).symm, ?_⟩⟩
            conv => whnf
            refine Tri.cond rfl (fun c896 => ?_) (fun c896 => ?_)
            · replace hv := if_t c896 hv
              refine Tri.run (G := gm_law10_LockGoes) tyOk mixed ?_
              conv => whnf
              refine Tri.seqK ?_
              replace hv := bind_some hv
              obtain ⟨y997, q998, hv⟩ := hv
              refine Tri.cut (fun ex S' => (∃ v999 : Int, y997 = (.inl v999) ∧ ex = .normal ∧ Weak S' ⟨92, 0, ofRegs [(1, .v (.int .i64 txn)), (2, .ptr 0 0), (7, .ptr 1 0), (8, .sl (List.map (encI .i64) y17.2)), (10, .v (.int .i64 v999)), (11, .v (.int .i64 a887))], [.var 25 [.sl (List.map encHold l.Held), .sl (List.map encClaim l.Queue)], .var 25 [.sl (List.map encHold y17.1.Held), .sl (List.map encClaim y17.1.Queue)]]⟩) ∨ (∃ v1000 : Unit, y997 = (.inr v1000) ∧ ex = .ret ∧ Weak S' ⟨92, 0, ofRegs [(4, .v (.bool false))], []⟩)) ?_ ?_
              · refine Tri.block ?_
                refine Tri.seqK ?_
                refine Tri.seqK ?_
                refine Tri.run (G := gm_law10_LockGoes) tyOk mixed ?_
                conv => whnf
                replace q998 := bind_some q998
                obtain ⟨x1004, q1005, q998⟩ := q998
                refine ⟨(ix_some q1005).1, ?_⟩
                conv => whnf
                refine ⟨⟨_, map_get encHold (ix_some q1005).2, ?_⟩⟩
                conv => whnf
                refine ⟨rfl, ?_⟩
                conv => whnf
                refine Tri.cond rfl (fun c1006 => ?_) (fun c1006 => ?_)
                · replace q998 := if_t c1006 q998
                  refine Tri.run (G := gm_law10_LockGoes) tyOk mixed ?_
                  conv => whnf
                  cases q998
                  exact Or.inl ⟨_, rfl, rfl, weak_fin _ rfl rfl rfl (.cons (.same rfl) (.cons (.same rfl) (LeH.rest))) (.cons (.one (.same rfl)) (.cons (.one (.same rfl)) (.cons (.one (.same rfl)) (.cons (.one (.same rfl)) (.cons (.one (.same rfl)) (.cons (.one (.same rfl)) (.nil))))))) rfl rfl⟩
                · replace q998 := if_f c1006 q998
                  refine Tri.run (G := gm_law10_LockGoes) tyOk mixed ?_
                  conv => whnf
                  refine Tri.seqK ?_
                  refine Tri.seqK ?_
                  replace q998 := bind_some q998
                  obtain ⟨y1041, q1042, q998⟩ := q998
                  refine Tri.cut (fun ex S' => ex = .normal ∧ Weak S' ⟨92, 0, ofRegs [(1, .v (.int .i64 txn)), (2, .ptr 0 0), (7, .ptr 1 0), (8, .sl (List.map (encI .i64) y17.2)), (10, .v (.int .i64 a886)), (11, .v (.int .i64 a887)), (75, .v (.bool y1041))], [.var 25 [.sl (List.map encHold l.Held), .sl (List.map encClaim l.Queue)], .var 25 [.sl (List.map encHold y17.1.Held), .sl (List.map encClaim y17.1.Queue)]]⟩) ?_ ?_
                  · refine Tri.run (G := gm_law10_LockGoes) tyOk mixed ?_
                    conv => whnf
                    refine Draw.one 18 (.take 0 (.take 1 (.take 2 (.take 3 (.take 4 (.take 5 (.take 6 (.take 7 (.take 8 (.take 9 (.take 10 (.take 11 (.take 12 (.take 13 (.take 14 (.take 15 (.take 16 (.take 17 (.fin))))))))))))))))))) [] (by kernel_rfl) ?_
                    conv => whnf
                    refine ⟨⟨(y17.1.Held.length : Int), (len_map _ _).symm, ?_⟩⟩
                    conv => whnf
                    refine cond_mk (fun c1046 => ?_) (fun c1046 => ?_)
                    · replace q1042 := if_t c1046 q1042
                      conv => whnf
                      cases q1042
                      exact ⟨rfl, weak_fin _ rfl rfl rfl (.cons (.same rfl) (.cons (.same rfl) (LeH.rest))) (.cons (.one (.same rfl)) (.cons (.one (.same rfl)) (.cons (.one (.same rfl)) (.cons (.one (.same rfl)) (.cons (.one (.same rfl)) (.cons (.one (.same rfl)) (.cons (.one (.same rfl)) (.nil)))))))) rfl rfl⟩
                    · replace q1042 := if_f c1046 q1042
                      conv => whnf
                      replace q1042 := bind_some q1042
                      obtain ⟨x1047, q1048, q1042⟩ := q1042
                      refine ⟨(ix_some q1048).1, ?_⟩
                      conv => whnf
                      refine ⟨⟨_, map_get encHold (ix_some q1048).2, ?_⟩⟩
                      conv => whnf
                      refine ⟨rfl, ?_⟩
                      conv => whnf
                      refine ⟨(ix_some q1005).1, ?_⟩
                      conv => whnf
                      refine ⟨⟨_, map_get encHold (ix_some q1005).2, ?_⟩⟩
                      conv => whnf
                      refine ⟨rfl, ?_⟩
                      conv => whnf
                      refine ⟨⟨(!(decide (x1047 = x1004))), congrArg Bool.not (eq_Hold _ _), ?_⟩⟩
                      conv => whnf
                      cases q1042
                      exact ⟨rfl, weak_fin _ rfl rfl rfl (.cons (.same rfl) (.cons (.same rfl) (LeH.rest))) (.cons (.one (.same rfl)) (.cons (.one (.same rfl)) (.cons (.one (.same rfl)) (.cons (.one (.same rfl)) (.cons (.one (.same rfl)) (.cons (.one (.same rfl)) (.cons (.one (.same rfl)) (.nil)))))))) rfl rfl⟩
                  · rintro ex S' ⟨rfl, w1049⟩
                    conv => whnf
                    refine Tri.weak w1049 ?_
                    refine Tri.cond rfl (fun c1050 => ?_) (fun c1050 => ?_)
                    · replace q998 := if_t c1050 q998
                      refine Tri.seqK ?_
                      refine Tri.run (G := gm_law10_LockGoes) tyOk mixed ?_
                      conv => whnf
                      refine Tri.run (G := gm_law10_LockGoes) tyOk mixed ?_
                      conv => whnf
                      cases q998
                      exact Or.inr (⟨_, rfl, rfl, weak_fin _ rfl rfl rfl (LeH.rest) (.cons (.one (.same rfl)) (.nil)) rfl rfl⟩)
                    · replace q998 := if_f c1050 q998
                      refine Tri.run (G := gm_law10_LockGoes) tyOk mixed ?_
                      conv => whnf
                      refine Tri.run (G := gm_law10_LockGoes) tyOk mixed ?_
                      conv => whnf
                      cases q998
                      exact Or.inl ⟨_, rfl, rfl, weak_fin _ rfl rfl rfl (.cons (.same rfl) (.cons (.same rfl) (LeH.rest))) (.cons (.one (.same rfl)) (.cons (.one (.same rfl)) (.cons (.one (.same rfl)) (.cons (.one (.same rfl)) (.cons (.one (.same rfl)) (.cons (.one (.same rfl)) (.nil))))))) rfl rfl⟩
              · rintro ex S' (⟨v999, rfl, rfl, w1051⟩ | ⟨v1000, rfl, rfl, w1051⟩)
                · dsimp only at hv
                  conv => whnf
                  refine Tri.weak w1051 ?_
                  refine Tri.run (G := gm_law10_LockGoes) tyOk mixed ?_
                  conv => whnf
                  cases hv
                  exact ⟨_, rfl, weak_fin _ rfl rfl rfl (.cons (.same rfl) (.cons (.same rfl) (LeH.rest))) (.cons (.one (.same rfl)) (.cons (.one (.same rfl)) (.cons (.one (.same rfl)) (.cons (.one (.same rfl)) (.cons (.one (.same rfl)) (.cons (.one (.same rfl)) (.nil))))))) rfl rfl⟩
                · dsimp only at hv
                  conv => whnf
                  cases hv
                  obtain rfl := r894 _ rfl
                  exact Or.inl ⟨_, rfl, rfl, Weak.trans w1051 (weak_fin _ rfl rfl rfl (LeH.rest) (.cons (.one (.same rfl)) (.nil)) rfl rfl)⟩
            · replace hv := if_f c896 hv
              refine Tri.run (G := gm_law10_LockGoes) tyOk mixed ?_
              conv => whnf
              cases hv
              obtain rfl := r894 _ rfl
              exact Or.inr (⟨_, rfl, rfl, weak_fin _ rfl rfl rfl (.cons (.gone) (.cons (.same rfl) (LeH.rest))) (.cons (.one (.same rfl)) (.cons (.one (.same rfl)) (.cons (.one (.same rfl)) (.cons (.one (.same rfl)) (.nil))))) rfl rfl⟩)
          · rintro ex S' (⟨v890, rfl, rfl, w1052⟩ | ⟨v891, rfl, rfl, w1052⟩)
            · dsimp only at h
              conv => whnf
              refine fin_pre w1052 ?_
              conv => whnf
              cases h
              rfl
            · dsimp only at h
              conv => whnf
              refine Tri.weak w1052 ?_
              refine Tri.seqK ?_
              refine Tri.run (G := gm_law10_LockGoes) tyOk mixed ?_
              conv => whnf
              replace h := bind_some h
              obtain ⟨y1053, q1054, h⟩ := h
              refine PureP.mono (lock_Waits_walk y17.1 txn y1053 q1054) ?_
              rintro _ rfl
              conv => whnf
              refine cond_mk (fun c1055 => ?_) (fun c1055 => ?_)
              · replace h := if_t c1055 h
                conv => whnf
                refine ⟨⟨(y17.1.Held.length : Int), (len_map _ _).symm, ?_⟩⟩
                conv => whnf
                refine ⟨⟨(y17.2.length : Int), (len_map _ _).symm, ?_⟩⟩
                conv => whnf
                refine Tri.run (G := gm_law10_LockGoes) tyOk mixed ?_
                conv => whnf
                refine fin_here ?_
                conv => whnf
                cases h
                rfl
              · replace h := if_f c1055 h
                conv => whnf
                refine Tri.run (G := gm_law10_LockGoes) tyOk mixed ?_
                conv => whnf
                refine fin_here ?_
                conv => whnf
                cases h
                rfl
noncomputable def slices_Equal_Hold_l2 (s1 : (List Hold)) (s2 : (List Hold)) (a114 : Int) : Option ((Int) ⊕ ((Unit) ⊕ (Unit))) :=
  if (decide (a114 < (s1.length : Int))) then
    (ix s1 a114).bind fun x137 =>
    (ix s2 a114).bind fun x139 =>
    if (!(decide (x137 = x139))) then
      some (.inr (.inl ()))
    else
      some (.inl (IntKind.i64.wrap (a114 + 1)))
  else
    some (.inr (.inr ()))
noncomputable def slices_Equal_Hold (s1 : (List Hold)) (s2 : (List Hold)) : Option (Bool) :=
  if (!(decide ((s1.length : Int) = (s2.length : Int)))) then
    some false
  else
    (loop (fun (s119 : Int) => slices_Equal_Hold_l2 s1 s2 s119) (0 : Int)).bind fun (y115 : (Unit) ⊕ (Unit)) =>
    match y115 with
    | (.inl v117) =>
      some false
    | (.inr v118) =>
      some true
def gm_slices_Equal_Hold : Gm := ⟨tys, [], [], []⟩
theorem slices_Equal_Hold_walk (s1 : (List Hold)) (s2 : (List Hold)) (r : Bool) (h : slices_Equal_Hold s1 s2 = some r) : PureP Try.prog 76 [.sl (List.map encHold s1), .sl (List.map encHold s2)] (fun a => a = .v (.bool r)) := by
  unfold slices_Equal_Hold at h
  refine pureW (G := gm_slices_Equal_Hold) tyOk Try.func76 rfl (by kernel_rfl) (by simp [Try.f76]) ?_
  refine Tri.seqK ?_
  refine Tri.run (G := gm_slices_Equal_Hold) tyOk mixed ?_
  conv => whnf
  refine Tri.seqK ?_
  refine Tri.seqK ?_
  refine Tri.run (G := gm_slices_Equal_Hold) tyOk mixed ?_
  conv => whnf
  refine ⟨⟨(s1.length : Int), (len_map _ _).symm, ?_⟩⟩
  conv => whnf
  refine ⟨⟨(s2.length : Int), (len_map _ _).symm, ?_⟩⟩
  conv => whnf
  refine Tri.cond rfl (fun c2 => ?_) (fun c2 => ?_)
  · replace h := if_t c2 h
    refine Tri.seqK ?_
    refine Tri.run (G := gm_slices_Equal_Hold) tyOk mixed ?_
    conv => whnf
    refine Tri.run (G := gm_slices_Equal_Hold) tyOk mixed ?_
    conv => whnf
    refine fin_here ?_
    conv => whnf
    cases h
    rfl
  · replace h := if_f c2 h
    refine Tri.run (G := gm_slices_Equal_Hold) tyOk mixed ?_
    conv => whnf
    refine Tri.seqK ?_
    refine Tri.seqK ?_
    refine Tri.run (G := gm_slices_Equal_Hold) tyOk mixed ?_
    conv => whnf
    refine ⟨⟨(s1.length : Int), (len_map _ _).symm, ?_⟩⟩
    conv => whnf
    refine Tri.block ?_
    replace h := bind_some h
    obtain ⟨y115, q116, h⟩ := h
    refine Tri.cut (fun ex S' => (∃ v117 : Unit, y115 = (.inl v117) ∧ ex = .ret ∧ Weak S' ⟨26, 0, ofRegs [(4, .v (.bool false))], []⟩) ∨ (∃ v118 : Unit, y115 = (.inr v118) ∧ ex = (.exit 0) ∧ Weak S' ⟨26, 0, ofRegs [], []⟩)) ?_ ?_
    · refine Tri.loopF (fun (s119 : Int) => (⟨26, 0, ofRegs [(0, .sl (List.map encHold s1)), (1, .sl (List.map encHold s2)), (12, .v (.int .i64 (s1.length : Int))), (13, .v (.int .i64 s119))], []⟩ : St)) q116 (weak_fin _ rfl rfl rfl (LeH.rest) (.cons (.one (.same rfl)) (.cons (.one (.same rfl)) (.cons (.one (.same rfl)) (.cons (.one (.same rfl)) (.nil))))) rfl rfl) ?_
      rintro a114 v120 hv r121
      have hv : slices_Equal_Hold_l2 s1 s2 a114 = some v120 := hv
      unfold slices_Equal_Hold_l2 at hv
      refine Tri.seqK ?_
      refine Tri.run (G := gm_slices_Equal_Hold) tyOk mixed ?_
      conv => whnf
      refine Tri.seqK ?_
      refine Tri.cond rfl (fun c123 => ?_) (fun c123 => ?_)
      · replace hv := if_t c123 hv
        refine Tri.run (G := gm_slices_Equal_Hold) tyOk mixed ?_
        conv => whnf
        refine Tri.seqK ?_
        refine Tri.block ?_
        refine Tri.seqK ?_
        refine Tri.run (G := gm_slices_Equal_Hold) tyOk mixed ?_
        conv => whnf
        refine Tri.seqK ?_
        refine Tri.run (G := gm_slices_Equal_Hold) tyOk mixed ?_
        conv => whnf
        refine Draw.one 9 (.take 0 (.take 1 (.take 2 (.take 3 (.take 4 (.take 5 (.take 6 (.take 7 (.take 8 (.fin)))))))))) [] (by kernel_rfl) ?_
        conv => whnf
        replace hv := bind_some hv
        obtain ⟨x137, q138, hv⟩ := hv
        refine ⟨(ix_some q138).1, ?_⟩
        conv => whnf
        refine ⟨⟨_, map_get encHold (ix_some q138).2, ?_⟩⟩
        conv => whnf
        refine ⟨rfl, ?_⟩
        conv => whnf
        replace hv := bind_some hv
        obtain ⟨x139, q140, hv⟩ := hv
        refine ⟨(ix_some q140).1, ?_⟩
        conv => whnf
        refine ⟨⟨_, map_get encHold (ix_some q140).2, ?_⟩⟩
        conv => whnf
        refine ⟨rfl, ?_⟩
        conv => whnf
        refine ⟨⟨(!(decide (x137 = x139))), congrArg Bool.not (eq_Hold _ _), ?_⟩⟩
        conv => whnf
        refine Tri.cond rfl (fun c141 => ?_) (fun c141 => ?_)
        · replace hv := if_t c141 hv
          refine Tri.seqK ?_
          refine Tri.run (G := gm_slices_Equal_Hold) tyOk mixed ?_
          conv => whnf
          refine Tri.run (G := gm_slices_Equal_Hold) tyOk mixed ?_
          conv => whnf
          cases hv
          obtain rfl := r121 _ rfl
          exact Or.inl ⟨_, rfl, rfl, weak_fin _ rfl rfl rfl (LeH.rest) (.cons (.one (.same rfl)) (.nil)) rfl rfl⟩
        · replace hv := if_f c141 hv
          refine Tri.run (G := gm_slices_Equal_Hold) tyOk mixed ?_
          conv => whnf
          refine Tri.run (G := gm_slices_Equal_Hold) tyOk mixed ?_
          conv => whnf
          cases hv
          exact ⟨_, rfl, weak_fin _ rfl rfl rfl (LeH.rest) (.cons (.one (.same rfl)) (.cons (.one (.same rfl)) (.cons (.one (.same rfl)) (.cons (.one (.same rfl)) (.nil))))) rfl rfl⟩
      · replace hv := if_f c123 hv
        refine Tri.run (G := gm_slices_Equal_Hold) tyOk mixed ?_
        conv => whnf
        cases hv
        obtain rfl := r121 _ rfl
        exact Or.inr (⟨_, rfl, rfl, weak_fin _ rfl rfl rfl (LeH.rest) (.nil) rfl rfl⟩)
    · rintro ex S' (⟨v117, rfl, rfl, w142⟩ | ⟨v118, rfl, rfl, w142⟩)
      · dsimp only at h
        conv => whnf
        refine fin_pre w142 ?_
        conv => whnf
        cases h
        rfl
      · dsimp only at h
        conv => whnf
        refine Tri.weak w142 ?_
        refine Tri.seqK ?_
        refine Tri.run (G := gm_slices_Equal_Hold) tyOk mixed ?_
        conv => whnf
        refine Tri.run (G := gm_slices_Equal_Hold) tyOk mixed ?_
        conv => whnf
        refine fin_here ?_
        conv => whnf
        cases h
        rfl
noncomputable def slices_Equal_Claim_l2 (s1 : (List Claim)) (s2 : (List Claim)) (a114 : Int) : Option ((Int) ⊕ ((Unit) ⊕ (Unit))) :=
  if (decide (a114 < (s1.length : Int))) then
    (ix s1 a114).bind fun x137 =>
    (ix s2 a114).bind fun x139 =>
    if (!(decide (x137 = x139))) then
      some (.inr (.inl ()))
    else
      some (.inl (IntKind.i64.wrap (a114 + 1)))
  else
    some (.inr (.inr ()))
noncomputable def slices_Equal_Claim (s1 : (List Claim)) (s2 : (List Claim)) : Option (Bool) :=
  if (!(decide ((s1.length : Int) = (s2.length : Int)))) then
    some false
  else
    (loop (fun (s119 : Int) => slices_Equal_Claim_l2 s1 s2 s119) (0 : Int)).bind fun (y115 : (Unit) ⊕ (Unit)) =>
    match y115 with
    | (.inl v117) =>
      some false
    | (.inr v118) =>
      some true
def gm_slices_Equal_Claim : Gm := ⟨tys, [], [], []⟩
theorem slices_Equal_Claim_walk (s1 : (List Claim)) (s2 : (List Claim)) (r : Bool) (h : slices_Equal_Claim s1 s2 = some r) : PureP Try.prog 77 [.sl (List.map encClaim s1), .sl (List.map encClaim s2)] (fun a => a = .v (.bool r)) := by
  unfold slices_Equal_Claim at h
  refine pureW (G := gm_slices_Equal_Claim) tyOk Try.func77 rfl (by kernel_rfl) (by simp [Try.f77]) ?_
  refine Tri.seqK ?_
  refine Tri.run (G := gm_slices_Equal_Claim) tyOk mixed ?_
  conv => whnf
  refine Tri.seqK ?_
  refine Tri.seqK ?_
  refine Tri.run (G := gm_slices_Equal_Claim) tyOk mixed ?_
  conv => whnf
  refine ⟨⟨(s1.length : Int), (len_map _ _).symm, ?_⟩⟩
  conv => whnf
  refine ⟨⟨(s2.length : Int), (len_map _ _).symm, ?_⟩⟩
  conv => whnf
  refine Tri.cond rfl (fun c2 => ?_) (fun c2 => ?_)
  · replace h := if_t c2 h
    refine Tri.seqK ?_
    refine Tri.run (G := gm_slices_Equal_Claim) tyOk mixed ?_
    conv => whnf
    refine Tri.run (G := gm_slices_Equal_Claim) tyOk mixed ?_
    conv => whnf
    refine fin_here ?_
    conv => whnf
    cases h
    rfl
  · replace h := if_f c2 h
    refine Tri.run (G := gm_slices_Equal_Claim) tyOk mixed ?_
    conv => whnf
    refine Tri.seqK ?_
    refine Tri.seqK ?_
    refine Tri.run (G := gm_slices_Equal_Claim) tyOk mixed ?_
    conv => whnf
    refine ⟨⟨(s1.length : Int), (len_map _ _).symm, ?_⟩⟩
    conv => whnf
    refine Tri.block ?_
    replace h := bind_some h
    obtain ⟨y115, q116, h⟩ := h
    refine Tri.cut (fun ex S' => (∃ v117 : Unit, y115 = (.inl v117) ∧ ex = .ret ∧ Weak S' ⟨26, 0, ofRegs [(4, .v (.bool false))], []⟩) ∨ (∃ v118 : Unit, y115 = (.inr v118) ∧ ex = (.exit 0) ∧ Weak S' ⟨26, 0, ofRegs [], []⟩)) ?_ ?_
    · refine Tri.loopF (fun (s119 : Int) => (⟨26, 0, ofRegs [(0, .sl (List.map encClaim s1)), (1, .sl (List.map encClaim s2)), (12, .v (.int .i64 (s1.length : Int))), (13, .v (.int .i64 s119))], []⟩ : St)) q116 (weak_fin _ rfl rfl rfl (LeH.rest) (.cons (.one (.same rfl)) (.cons (.one (.same rfl)) (.cons (.one (.same rfl)) (.cons (.one (.same rfl)) (.nil))))) rfl rfl) ?_
      rintro a114 v120 hv r121
      have hv : slices_Equal_Claim_l2 s1 s2 a114 = some v120 := hv
      unfold slices_Equal_Claim_l2 at hv
      refine Tri.seqK ?_
      refine Tri.run (G := gm_slices_Equal_Claim) tyOk mixed ?_
      conv => whnf
      refine Tri.seqK ?_
      refine Tri.cond rfl (fun c123 => ?_) (fun c123 => ?_)
      · replace hv := if_t c123 hv
        refine Tri.run (G := gm_slices_Equal_Claim) tyOk mixed ?_
        conv => whnf
        refine Tri.seqK ?_
        refine Tri.block ?_
        refine Tri.seqK ?_
        refine Tri.run (G := gm_slices_Equal_Claim) tyOk mixed ?_
        conv => whnf
        refine Tri.seqK ?_
        refine Tri.run (G := gm_slices_Equal_Claim) tyOk mixed ?_
        conv => whnf
        refine Draw.one 9 (.take 0 (.take 1 (.take 2 (.take 3 (.take 4 (.take 5 (.take 6 (.take 7 (.take 8 (.fin)))))))))) [] (by kernel_rfl) ?_
        conv => whnf
        replace hv := bind_some hv
        obtain ⟨x137, q138, hv⟩ := hv
        refine ⟨(ix_some q138).1, ?_⟩
        conv => whnf
        refine ⟨⟨_, map_get encClaim (ix_some q138).2, ?_⟩⟩
        conv => whnf
        refine ⟨rfl, ?_⟩
        conv => whnf
        replace hv := bind_some hv
        obtain ⟨x139, q140, hv⟩ := hv
        refine ⟨(ix_some q140).1, ?_⟩
        conv => whnf
        refine ⟨⟨_, map_get encClaim (ix_some q140).2, ?_⟩⟩
        conv => whnf
        refine ⟨rfl, ?_⟩
        conv => whnf
        refine ⟨⟨(!(decide (x137 = x139))), congrArg Bool.not (eq_Claim _ _), ?_⟩⟩
        conv => whnf
        refine Tri.cond rfl (fun c141 => ?_) (fun c141 => ?_)
        · replace hv := if_t c141 hv
          refine Tri.seqK ?_
          refine Tri.run (G := gm_slices_Equal_Claim) tyOk mixed ?_
          conv => whnf
          refine Tri.run (G := gm_slices_Equal_Claim) tyOk mixed ?_
          conv => whnf
          cases hv
          obtain rfl := r121 _ rfl
          exact Or.inl ⟨_, rfl, rfl, weak_fin _ rfl rfl rfl (LeH.rest) (.cons (.one (.same rfl)) (.nil)) rfl rfl⟩
        · replace hv := if_f c141 hv
          refine Tri.run (G := gm_slices_Equal_Claim) tyOk mixed ?_
          conv => whnf
          refine Tri.run (G := gm_slices_Equal_Claim) tyOk mixed ?_
          conv => whnf
          cases hv
          exact ⟨_, rfl, weak_fin _ rfl rfl rfl (LeH.rest) (.cons (.one (.same rfl)) (.cons (.one (.same rfl)) (.cons (.one (.same rfl)) (.cons (.one (.same rfl)) (.nil))))) rfl rfl⟩
      · replace hv := if_f c123 hv
        refine Tri.run (G := gm_slices_Equal_Claim) tyOk mixed ?_
        conv => whnf
        cases hv
        obtain rfl := r121 _ rfl
        exact Or.inr (⟨_, rfl, rfl, weak_fin _ rfl rfl rfl (LeH.rest) (.nil) rfl rfl⟩)
    · rintro ex S' (⟨v117, rfl, rfl, w142⟩ | ⟨v118, rfl, rfl, w142⟩)
      · dsimp only at h
        conv => whnf
        refine fin_pre w142 ?_
        conv => whnf
        cases h
        rfl
      · dsimp only at h
        conv => whnf
        refine Tri.weak w142 ?_
        refine Tri.seqK ?_
        refine Tri.run (G := gm_slices_Equal_Claim) tyOk mixed ?_
        conv => whnf
        refine Tri.run (G := gm_slices_Equal_Claim) tyOk mixed ?_
        conv => whnf
        refine fin_here ?_
        conv => whnf
        cases h
        rfl
noncomputable def lock_Same (a : Locks) (b : Locks) : Option (Bool) :=
  (slices_Equal_Hold a.Held b.Held).bind fun y1 =>
  if y1 then
    (slices_Equal_Claim a.Queue b.Queue).bind fun y4 =>
    some y4
  else
    some false
def gm_lock_Same : Gm := ⟨tys, [], [], []⟩
theorem lock_Same_walk (a : Locks) (b : Locks) (r : Bool) (h : lock_Same a b = some r) : PureP Try.prog 40 [.agg [.sl (List.map encHold a.Held), .sl (List.map encClaim a.Queue)], .agg [.sl (List.map encHold b.Held), .sl (List.map encClaim b.Queue)]] (fun a => a = .v (.bool r)) := by
  unfold lock_Same at h
  refine pureW (G := gm_lock_Same) tyOk Try.func40 rfl (by kernel_rfl) (by simp [Try.f40]) ?_
  refine Tri.seqK ?_
  refine Tri.run (G := gm_lock_Same) tyOk mixed ?_
  conv => whnf
  refine Tri.seqK ?_
  refine Tri.run (G := gm_lock_Same) tyOk mixed ?_
  conv => whnf
  replace h := bind_some h
  obtain ⟨y1, q2, h⟩ := h
  refine PureP.mono (slices_Equal_Hold_walk a.Held b.Held y1 q2) ?_
  rintro _ rfl
  conv => whnf
  refine cond_mk (fun c3 => ?_) (fun c3 => ?_)
  · replace h := if_t c3 h
    conv => whnf
    replace h := bind_some h
    obtain ⟨y4, q5, h⟩ := h
    refine PureP.mono (slices_Equal_Claim_walk a.Queue b.Queue y4 q5) ?_
    rintro _ rfl
    conv => whnf
    refine Tri.run (G := gm_lock_Same) tyOk mixed ?_
    conv => whnf
    refine fin_here ?_
    conv => whnf
    cases h
    rfl
  · replace h := if_f c3 h
    conv => whnf
    refine Tri.run (G := gm_lock_Same) tyOk mixed ?_
    conv => whnf
    refine fin_here ?_
    conv => whnf
    cases h
    rfl
noncomputable def law10_LockCovered (l : Locks) (i : Int) (w : Want) : Option (Bool) :=
  law10_shown.bind fun y1 =>
  (law10_small l).bind fun y3 =>
  (
    if (!y1) then
      some true
    else
      if (!y3) then
        some true
      else
        if (decide (i < 0)) then
          some true
        else
          if (decide (i ≥ (l.Held.length : Int))) then
            some true
          else
            (ix l.Held i).bind fun x114 =>
            if (decide (x114.Txn < 1)) then
              some true
            else
              (lock_Waits l x114.Txn).bind fun y117 =>
              some y117).bind fun (y99 : Bool) =>
  if y99 then
    some y1
  else
    (ix l.Held i).bind fun x125 =>
    (ref09_Covers x125.W w).bind fun y127 =>
    if (!y127) then
      some y1
    else
      (lock_Ask l x125.Txn w 5).bind fun y135 =>
      if (decide (y135.2 = 0)) then
        (lock_Same y135.1 l).bind fun y141 =>
        some y141
      else
        some false
def gm_law10_LockCovered : Gm := ⟨tys, [], [], []⟩
theorem law10_LockCovered_walk (l : Locks) (i : Int) (w : Want) (r : Bool) (h : law10_LockCovered l i w = some r) : PureP Try.prog 12 [.agg [.sl (List.map encHold l.Held), .sl (List.map encClaim l.Queue)], .v (.int .i64 i), .agg [.v (.int .i64 w.Mode), .v (.string (bs w.Lo)), .v (.string (bs w.Hi))]] (fun a => a = .v (.bool r)) := by
  unfold law10_LockCovered at h
  refine pureW (G := gm_law10_LockCovered) tyOk Try.func12 rfl (by kernel_rfl) (by simp [Try.f12]) ?_
  refine Tri.seqK ?_
  refine Tri.run (G := gm_law10_LockCovered) tyOk mixed ?_
  conv => whnf
  refine Tri.seqK ?_
  refine Tri.run (G := gm_law10_LockCovered) tyOk mixed ?_
  conv => whnf
  replace h := bind_some h
  obtain ⟨y1, q2, h⟩ := h
  refine PureP.mono (law10_shown_walk y1 q2) ?_
  rintro _ rfl
  conv => whnf
  refine Tri.seqK ?_
  refine Tri.run (G := gm_law10_LockCovered) tyOk mixed ?_
  conv => whnf
  replace h := bind_some h
  obtain ⟨y3, q4, h⟩ := h
  refine PureP.mono (law10_small_walk l y3 q4) ?_
  rintro _ rfl
  conv => whnf
  refine Tri.seqK ?_
  refine Tri.seqK ?_
  replace h := bind_some h
  obtain ⟨y99, q100, h⟩ := h
  refine Tri.cut (fun ex S' => ex = .normal ∧ Weak S' ⟨82, 0, ofRegs [(1, .v (.int .i64 i)), (3, .ptr 0 0), (5, .ptr 1 0), (7, .v (.bool y1)), (50, .v (.bool y99))], [.var 25 [.sl (List.map encHold l.Held), .sl (List.map encClaim l.Queue)], .var 44 [.v (.int .i64 w.Mode), .v (.string (bs w.Lo)), .v (.string (bs w.Hi))]]⟩) ?_ ?_
  · refine Tri.run (G := gm_law10_LockCovered) tyOk mixed ?_
    conv => whnf
    refine Draw.one 36 (.take 0 (.take 1 (.take 2 (.take 3 (.take 4 (.take 5 (.take 6 (.take 7 (.take 8 (.take 9 (.take 10 (.take 11 (.take 12 (.take 13 (.take 14 (.take 15 (.take 16 (.take 17 (.take 18 (.take 19 (.take 20 (.take 21 (.take 22 (.take 23 (.take 24 (.take 25 (.take 26 (.take 27 (.take 28 (.take 29 (.take 30 (.take 31 (.take 32 (.take 33 (.alt 34 (.take 35 (.fin)) (.nil)))))))))))))))))))))))))))))))))))) [] (by kernel_rfl) ?_
    conv => whnf
    refine cond_mk (fun c110 => ?_) (fun c110 => ?_)
    · replace q100 := if_t c110 q100
      conv => whnf
      refine ⟨?_, ?_⟩
      · conv => whnf
        cases q100
        exact ⟨rfl, weak_fin _ rfl rfl rfl (.cons (.same rfl) (.cons (.same rfl) (LeH.rest))) (.cons (.one (.same rfl)) (.cons (.one (.same rfl)) (.cons (.one (.same rfl)) (.cons (.one (.same rfl)) (.cons (.one (.same rfl)) (.nil)))))) rfl rfl⟩
      · conv => whnf
        trivial
    · replace q100 := if_f c110 q100
      conv => whnf
      refine cond_mk (fun c111 => ?_) (fun c111 => ?_)
      · replace q100 := if_t c111 q100
        conv => whnf
        refine ⟨?_, ?_⟩
        · conv => whnf
          cases q100
          exact ⟨rfl, weak_fin _ rfl rfl rfl (.cons (.same rfl) (.cons (.same rfl) (LeH.rest))) (.cons (.one (.same rfl)) (.cons (.one (.same rfl)) (.cons (.one (.same rfl)) (.cons (.one (.same rfl)) (.cons (.one (.same rfl)) (.nil)))))) rfl rfl⟩
        · conv => whnf
          trivial
      · replace q100 := if_f c111 q100
        conv => whnf
        refine cond_mk (fun c112 => ?_) (fun c112 => ?_)
        · replace q100 := if_t c112 q100
          conv => whnf
          refine ⟨?_, ?_⟩
          · conv => whnf
            cases q100
            exact ⟨rfl, weak_fin _ rfl rfl rfl (.cons (.same rfl) (.cons (.same rfl) (LeH.rest))) (.cons (.one (.same rfl)) (.cons (.one (.same rfl)) (.cons (.one (.same rfl)) (.cons (.one (.same rfl)) (.cons (.one (.same rfl)) (.nil)))))) rfl rfl⟩
          · conv => whnf
            trivial
        · replace q100 := if_f c112 q100
          conv => whnf
          refine ⟨⟨(l.Held.length : Int), (len_map _ _).symm, ?_⟩⟩
          conv => whnf
          refine cond_mk (fun c113 => ?_) (fun c113 => ?_)
          · replace q100 := if_t c113 q100
            conv => whnf
            refine ⟨?_, ?_⟩
            · conv => whnf
              cases q100
              exact ⟨rfl, weak_fin _ rfl rfl rfl (.cons (.same rfl) (.cons (.same rfl) (LeH.rest))) (.cons (.one (.same rfl)) (.cons (.one (.same rfl)) (.cons (.one (.same rfl)) (.cons (.one (.same rfl)) (.cons (.one (.same rfl)) (.nil)))))) rfl rfl⟩
            · conv => whnf
              trivial
          · replace q100 := if_f c113 q100
            conv => whnf
            replace q100 := bind_some q100
            obtain ⟨x114, q115, q100⟩ := q100
            refine ⟨(ix_some q115).1, ?_⟩
            conv => whnf
            refine ⟨⟨_, map_get encHold (ix_some q115).2, ?_⟩⟩
            conv => whnf
            refine ⟨rfl, ?_⟩
            conv => whnf
            refine cond_mk (fun c116 => ?_) (fun c116 => ?_)
            · replace q100 := if_t c116 q100
              conv => whnf
              refine ⟨?_, ?_⟩
              · conv => whnf
                cases q100
                exact ⟨rfl, weak_fin _ rfl rfl rfl (.cons (.same rfl) (.cons (.same rfl) (LeH.rest))) (.cons (.one (.same rfl)) (.cons (.one (.same rfl)) (.cons (.one (.same rfl)) (.cons (.one (.same rfl)) (.cons (.one (.same rfl)) (.nil)))))) rfl rfl⟩
              · conv => whnf
                trivial
            · replace q100 := if_f c116 q100
              conv => whnf
              refine ⟨(ix_some q115).1, ?_⟩
              conv => whnf
              refine ⟨⟨_, map_get encHold (ix_some q115).2, ?_⟩⟩
              conv => whnf
              refine ⟨rfl, ?_⟩
              conv => whnf
              refine ⟨?_, ?_⟩
              · conv => whnf
                replace q100 := bind_some q100
                obtain ⟨y117, q118, q100⟩ := q100
                refine PureP.mono (lock_Waits_walk l x114.Txn y117 q118) ?_
                rintro _ rfl
                conv => whnf
                cases q100
                exact ⟨rfl, weak_fin _ rfl rfl rfl (.cons (.same rfl) (.cons (.same rfl) (LeH.rest))) (.cons (.one (.same rfl)) (.cons (.one (.same rfl)) (.cons (.one (.same rfl)) (.cons (.one (.same rfl)) (.cons (.one (.same rfl)) (.nil)))))) rfl rfl⟩
              · conv => whnf
                trivial
  · rintro ex S' ⟨rfl, w119⟩
    conv => whnf
    refine Tri.weak w119 ?_
    refine Tri.cond rfl (fun c120 => ?_) (fun c120 => ?_)
    · replace h := if_t c120 h
      refine Tri.seqK ?_
      refine Tri.run (G := gm_law10_LockCovered) tyOk mixed ?_
      conv => whnf
      refine Tri.run (G := gm_law10_LockCovered) tyOk mixed ?_
      conv => whnf
      refine fin_here ?_
      conv => whnf
      cases h
      rfl
    · replace h := if_f c120 h
      refine Tri.run (G := gm_law10_LockCovered) tyOk mixed ?_
      conv => whnf
      refine Tri.seqK ?_
      refine Tri.run (G := gm_law10_LockCovered) tyOk mixed ?_
      conv => whnf
      refine Draw.one 9 (.take 0 (.take 1 (.take 2 (.take 3 (.take 4 (.take 5 (.take 6 (.alt 7 (.take 8 (.fin)) (.nil))))))))) [] (by kernel_rfl) ?_
      conv => whnf
      replace h := bind_some h
      obtain ⟨x125, q126, h⟩ := h
      refine ⟨(ix_some q126).1, ?_⟩
      conv => whnf
      refine ⟨⟨_, map_get encHold (ix_some q126).2, ?_⟩⟩
      conv => whnf
      refine ⟨rfl, ?_⟩
      conv => whnf
      refine ⟨?_, ?_⟩
      · conv => whnf
        replace h := bind_some h
        obtain ⟨y127, q128, h⟩ := h
        refine PureP.mono (ref09_Covers_walk x125.W w y127 q128) ?_
        rintro _ rfl
        conv => whnf
        refine Tri.seqK ?_
        refine Tri.seqK ?_
        refine Tri.run (G := gm_law10_LockCovered) tyOk mixed ?_
        conv => whnf
        refine Tri.cond rfl (fun c130 => ?_) (fun c130 => ?_)
        · replace h := if_t c130 h
          refine Tri.seqK ?_
          refine Tri.run (G := gm_law10_LockCovered) tyOk mixed ?_
          conv => whnf
          refine Tri.run (G := gm_law10_LockCovered) tyOk mixed ?_
          conv => whnf
          refine fin_here ?_
          conv => whnf
          cases h
          rfl
        · replace h := if_f c130 h
          refine Tri.run (G := gm_law10_LockCovered) tyOk mixed ?_
          conv => whnf
          refine Tri.seqK ?_
          refine Tri.run (G := gm_law10_LockCovered) tyOk mixed ?_
          conv => whnf
          replace h := bind_some h
          obtain ⟨y135, q139, h⟩ := h
          refine Draw.many 14 (.take 0 (.take 1 (.take 2 (.take 3 (.take 4 (.take 5 (.take 6 (.take 7 (.alt 8 (.take 9 (.take 10 (.take 11 (.alt 12 (.alt 13 (.fin) (.nil)) (.nil))))) (.alt 12 (.alt 8 (.take 9 (.take 10 (.take 11 (.alt 13 (.fin) (.nil))))) (.nil)) (.nil))))))))))) [2, 3, 4, 5, 6, 7] (⟨82, 0, ofRegs [(3, .ptr 0 0), (10, .ptr 2 0), (74, .v (.int .i64 y135.2))], [.var 25 [.sl (List.map encHold l.Held), .sl (List.map encClaim l.Queue)], .var 44 [.v (.int .i64 w.Mode), .v (.string (bs w.Lo)), .v (.string (bs w.Hi))], .var 25 [.sl (List.map encHold y135.1.Held), .sl (List.map encClaim y135.1.Queue)]]⟩) (by kernel_rfl) ?_ ?_
          · conv => whnf
            refine ⟨(ix_some q126).1, ?_⟩
            conv => whnf
            refine ⟨⟨_, map_get encHold (ix_some q126).2, ?_⟩⟩
            conv => whnf
            refine ⟨rfl, ?_⟩
            conv => whnf
            refine ⟨?_, ?_⟩
            · conv => whnf
              refine PureP.mono (lock_Ask_walk l x125.Txn w 5 y135 q139) ?_
              rintro _ rfl
              conv => whnf
              refine ⟨?_, ?_⟩
              · conv => whnf
                refine ⟨?_, ?_⟩
                · conv => whnf
                  exact weak_fin _ rfl rfl rfl (.cons (.same rfl) (.cons (.same rfl) (.cons (.same rfl) (LeH.rest)))) (.cons (.one (.same rfl)) (.cons (.one (.same rfl)) (.cons (.one (.same rfl)) (.nil)))) rfl rfl
                · conv => whnf
                  trivial
              · conv => whnf
                trivial
            · conv => whnf
              refine ⟨?_, ?_⟩
              · conv => whnf
                refine ⟨?_, ?_⟩
                · conv => whnf
                  refine PureP.mono (lock_Ask_walk l x125.Txn w 5 y135 q139) ?_
                  rintro _ rfl
                  conv => whnf
                  refine ⟨?_, ?_⟩
                  · conv => whnf
                    exact weak_fin _ rfl rfl rfl (.cons (.same rfl) (.cons (.same rfl) (.cons (.same rfl) (LeH.rest)))) (.cons (.one (.same rfl)) (.cons (.one (.same rfl)) (.cons (.one (.same rfl)) (.nil)))) rfl rfl
                  · conv => whnf
                    trivial
                · conv => whnf
                  trivial
              · conv => whnf
                trivial
          · conv => whnf
            refine Tri.seqK ?_
            refine Tri.run (G := gm_law10_LockCovered) tyOk mixed ?_
            conv => whnf
            refine cond_mk (fun c140 => ?_) (fun c140 => ?_)
            · replace h := if_t c140 h
              conv => whnf
              replace h := bind_some h
              obtain ⟨y141, q142, h⟩ := h
              refine PureP.mono (lock_Same_walk y135.1 l y141 q142) ?_
              rintro _ rfl
              conv => whnf
              refine Tri.run (G := gm_law10_LockCovered) tyOk mixed ?_
              conv => whnf
              refine fin_here ?_
              conv => whnf
              cases h
              rfl
            · replace h := if_f c140 h
              conv => whnf
              refine Tri.run (G := gm_law10_LockCovered) tyOk mixed ?_
              conv => whnf
              refine fin_here ?_
              conv => whnf
              cases h
              rfl
      · conv => whnf
        trivial
noncomputable def law10_LockFair (with_ : LockFairIn) : Option (Bool) :=
  law10_shown.bind fun y1 =>
  (law10_small with_.L).bind fun y3 =>
  (
    if (!y1) then
      some true
    else
      if (!y3) then
        some true
      else
        if (decide (with_.I < 0)) then
          some true
        else
          if (decide (with_.I ≥ (with_.L.Queue.length : Int))) then
            some true
          else
            (ix with_.L.Queue with_.I).bind fun x45 =>
            some (decide (x45.Txn = with_.Txn))).bind fun (y39 : Bool) =>
  if y39 then
    some y1
  else
    (ix with_.L.Queue with_.I).bind fun x53 =>
    (ref09_Clash x53.W with_.W).bind fun y55 =>
    (lock_Ask with_.L with_.Txn with_.W 5).bind fun y57 =>
    if (!y55) then
      some true
    else
      if (!(decide (y57.2 = 0))) then
        some true
      else
        (lock_Same y57.1 with_.L).bind fun y61 =>
        some y61
def gm_law10_LockFair : Gm := ⟨tys, [], [], []⟩
theorem law10_LockFair_walk (with_ : LockFairIn) (r : Bool) (h : law10_LockFair with_ = some r) : PureP Try.prog 13 [.agg [.sl (List.map encHold with_.L.Held), .sl (List.map encClaim with_.L.Queue), .v (.int .i64 with_.Txn), .v (.int .i64 with_.W.Mode), .v (.string (bs with_.W.Lo)), .v (.string (bs with_.W.Hi)), .v (.int .i64 with_.I)]] (fun a => a = .v (.bool r)) := by
  unfold law10_LockFair at h
  refine pureW (G := gm_law10_LockFair) tyOk Try.func13 rfl (by kernel_rfl) (by simp [Try.f13]) ?_
  refine Tri.seqK ?_
  refine Tri.run (G := gm_law10_LockFair) tyOk mixed ?_
  conv => whnf
  refine Tri.seqK ?_
  refine Tri.run (G := gm_law10_LockFair) tyOk mixed ?_
  conv => whnf
  refine Tri.seqK ?_
  refine Tri.run (G := gm_law10_LockFair) tyOk mixed ?_
  conv => whnf
  refine Tri.seqK ?_
  refine Tri.run (G := gm_law10_LockFair) tyOk mixed ?_
  conv => whnf
  refine Tri.seqK ?_
  refine Tri.run (G := gm_law10_LockFair) tyOk mixed ?_
  conv => whnf
  refine Tri.seqK ?_
  refine Tri.run (G := gm_law10_LockFair) tyOk mixed ?_
  conv => whnf
  replace h := bind_some h
  obtain ⟨y1, q2, h⟩ := h
  refine PureP.mono (law10_shown_walk y1 q2) ?_
  rintro _ rfl
  conv => whnf
  refine Tri.seqK ?_
  refine Tri.run (G := gm_law10_LockFair) tyOk mixed ?_
  conv => whnf
  replace h := bind_some h
  obtain ⟨y3, q4, h⟩ := h
  refine PureP.mono (law10_small_walk with_.L y3 q4) ?_
  rintro _ rfl
  conv => whnf
  refine Tri.seqK ?_
  refine Tri.seqK ?_
  replace h := bind_some h
  obtain ⟨y39, q40, h⟩ := h
  refine Tri.cut (fun ex S' => ex = .normal ∧ Weak S' ⟨77, 0, ofRegs [(3, .ptr 1 0), (4, .v (.int .i64 with_.Txn)), (5, .ptr 2 0), (6, .v (.int .i64 with_.I)), (7, .v (.bool y1)), (49, .v (.bool y39))], [.gone, .var 25 [.sl (List.map encHold with_.L.Held), .sl (List.map encClaim with_.L.Queue)], .var 44 [.v (.int .i64 with_.W.Mode), .v (.string (bs with_.W.Lo)), .v (.string (bs with_.W.Hi))]]⟩) ?_ ?_
  · refine Tri.run (G := gm_law10_LockFair) tyOk mixed ?_
    conv => whnf
    refine cond_mk (fun c41 => ?_) (fun c41 => ?_)
    · replace q40 := if_t c41 q40
      conv => whnf
      cases q40
      exact ⟨rfl, weak_fin _ rfl rfl rfl (.cons (.gone) (.cons (.same rfl) (.cons (.same rfl) (LeH.rest)))) (.cons (.one (.same rfl)) (.cons (.one (.same rfl)) (.cons (.one (.same rfl)) (.cons (.one (.same rfl)) (.cons (.one (.same rfl)) (.cons (.one (.same rfl)) (.nil))))))) rfl rfl⟩
    · replace q40 := if_f c41 q40
      conv => whnf
      refine cond_mk (fun c42 => ?_) (fun c42 => ?_)
      · replace q40 := if_t c42 q40
        conv => whnf
        cases q40
        exact ⟨rfl, weak_fin _ rfl rfl rfl (.cons (.gone) (.cons (.same rfl) (.cons (.same rfl) (LeH.rest)))) (.cons (.one (.same rfl)) (.cons (.one (.same rfl)) (.cons (.one (.same rfl)) (.cons (.one (.same rfl)) (.cons (.one (.same rfl)) (.cons (.one (.same rfl)) (.nil))))))) rfl rfl⟩
      · replace q40 := if_f c42 q40
        conv => whnf
        refine cond_mk (fun c43 => ?_) (fun c43 => ?_)
        · replace q40 := if_t c43 q40
          conv => whnf
          cases q40
          exact ⟨rfl, weak_fin _ rfl rfl rfl (.cons (.gone) (.cons (.same rfl) (.cons (.same rfl) (LeH.rest)))) (.cons (.one (.same rfl)) (.cons (.one (.same rfl)) (.cons (.one (.same rfl)) (.cons (.one (.same rfl)) (.cons (.one (.same rfl)) (.cons (.one (.same rfl)) (.nil))))))) rfl rfl⟩
        · replace q40 := if_f c43 q40
          conv => whnf
          refine ⟨⟨(with_.L.Queue.length : Int), (len_map _ _).symm, ?_⟩⟩
          conv => whnf
          refine cond_mk (fun c44 => ?_) (fun c44 => ?_)
          · replace q40 := if_t c44 q40
            conv => whnf
            cases q40
            exact ⟨rfl, weak_fin _ rfl rfl rfl (.cons (.gone) (.cons (.same rfl) (.cons (.same rfl) (LeH.rest)))) (.cons (.one (.same rfl)) (.cons (.one (.same rfl)) (.cons (.one (.same rfl)) (.cons (.one (.same rfl)) (.cons (.one (.same rfl)) (.cons (.one (.same rfl)) (.nil))))))) rfl rfl⟩
          · replace q40 := if_f c44 q40
            conv => whnf
            replace q40 := bind_some q40
            obtain ⟨x45, q46, q40⟩ := q40
            refine ⟨(ix_some q46).1, ?_⟩
            conv => whnf
            refine ⟨⟨_, map_get encClaim (ix_some q46).2, ?_⟩⟩
            conv => whnf
            refine ⟨rfl, ?_⟩
            conv => whnf
            cases q40
            exact ⟨rfl, weak_fin _ rfl rfl rfl (.cons (.gone) (.cons (.same rfl) (.cons (.same rfl) (LeH.rest)))) (.cons (.one (.same rfl)) (.cons (.one (.same rfl)) (.cons (.one (.same rfl)) (.cons (.one (.same rfl)) (.cons (.one (.same rfl)) (.cons (.one (.same rfl)) (.nil))))))) rfl rfl⟩
  · rintro ex S' ⟨rfl, w47⟩
    conv => whnf
    refine Tri.weak w47 ?_
    refine Tri.cond rfl (fun c48 => ?_) (fun c48 => ?_)
    · replace h := if_t c48 h
      refine Tri.seqK ?_
      refine Tri.run (G := gm_law10_LockFair) tyOk mixed ?_
      conv => whnf
      refine Tri.run (G := gm_law10_LockFair) tyOk mixed ?_
      conv => whnf
      refine fin_here ?_
      conv => whnf
      cases h
      rfl
    · replace h := if_f c48 h
      refine Tri.run (G := gm_law10_LockFair) tyOk mixed ?_
      conv => whnf
      refine Tri.seqK ?_
      refine Tri.run (G := gm_law10_LockFair) tyOk mixed ?_
      conv => whnf
      refine Draw.one 9 (.take 0 (.take 1 (.take 2 (.take 3 (.take 4 (.take 5 (.take 6 (.alt 7 (.take 8 (.fin)) (.nil))))))))) [] (by kernel_rfl) ?_
      conv => whnf
      replace h := bind_some h
      obtain ⟨x53, q54, h⟩ := h
      refine ⟨(ix_some q54).1, ?_⟩
      conv => whnf
      refine ⟨⟨_, map_get encClaim (ix_some q54).2, ?_⟩⟩
      conv => whnf
      refine ⟨rfl, ?_⟩
      conv => whnf
      refine ⟨?_, ?_⟩
      · conv => whnf
        replace h := bind_some h
        obtain ⟨y55, q56, h⟩ := h
        refine PureP.mono (ref09_Clash_walk x53.W with_.W y55 q56) ?_
        rintro _ rfl
        conv => whnf
        refine Tri.seqK ?_
        refine Tri.run (G := gm_law10_LockFair) tyOk mixed ?_
        conv => whnf
        replace h := bind_some h
        obtain ⟨y57, q58, h⟩ := h
        refine PureP.mono (lock_Ask_walk with_.L with_.Txn with_.W 5 y57 q58) ?_
        rintro _ rfl
        conv => whnf
        refine Tri.seqK ?_
        refine Tri.run (G := gm_law10_LockFair) tyOk mixed ?_
        conv => whnf
        refine cond_mk (fun c59 => ?_) (fun c59 => ?_)
        · replace h := if_t c59 h
          conv => whnf
          refine Tri.run (G := gm_law10_LockFair) tyOk mixed ?_
          conv => whnf
          refine fin_here ?_
          conv => whnf
          cases h
          rfl
        · replace h := if_f c59 h
          conv => whnf
          refine cond_mk (fun c60 => ?_) (fun c60 => ?_)
          · replace h := if_t c60 h
            conv => whnf
            refine Tri.run (G := gm_law10_LockFair) tyOk mixed ?_
            conv => whnf
            refine fin_here ?_
            conv => whnf
            cases h
            rfl
          · replace h := if_f c60 h
            conv => whnf
            replace h := bind_some h
            obtain ⟨y61, q62, h⟩ := h
            refine PureP.mono (lock_Same_walk y57.1 with_.L y61 q62) ?_
            rintro _ rfl
            conv => whnf
            refine Tri.run (G := gm_law10_LockFair) tyOk mixed ?_
            conv => whnf
            refine fin_here ?_
            conv => whnf
            cases h
            rfl
      · conv => whnf
        trivial
noncomputable def lock_Late_l2 (l : Locks) (now : Int) (a146 : Int) (a147 : (List Int)) : Option ((Int × (List Int)) ⊕ ((List Int))) :=
  if (decide (a146 < (l.Queue.length : Int))) then
    (
      (ix l.Queue a146).bind fun x165 =>
      if (decide (x165.Until ≤ now)) then
        need ((a147.length + 1) * 8 ≤ 140737488355328) <|
        some (a147 ++ [x165.Txn])
      else
        some a147).bind fun (y163 : (List Int)) =>
    some (.inl ((IntKind.i64.wrap (a146 + 1)), y163))
  else
    some (.inr a147)
noncomputable def lock_Late (l : Locks) (now : Int) : Option ((List Int)) :=
  (loop (fun (s150 : Int × (List Int)) => lock_Late_l2 l now s150.1 s150.2) ((0 : Int), ([] : (List Int)))).bind fun (y148 : (List Int)) =>
  some y148
def gm_lock_Late : Gm := ⟨tys, [], [], []⟩
theorem lock_Late_walk (l : Locks) (now : Int) (r : (List Int)) (h : lock_Late l now = some r) : PureP Try.prog 43 [.agg [.sl (List.map encHold l.Held), .sl (List.map encClaim l.Queue)], .v (.int .u64 now)] (fun a => a = .sl (List.map (encI .i64) r)) := by
  unfold lock_Late at h
  refine pureW (G := gm_lock_Late) tyOk Try.func43 rfl (by kernel_rfl) (by simp [Try.f43]) ?_
  refine Tri.seqK ?_
  refine Tri.run (G := gm_lock_Late) tyOk mixed ?_
  conv => whnf
  refine Tri.seqK ?_
  refine Tri.run (G := gm_lock_Late) tyOk mixed ?_
  conv => whnf
  refine Tri.seqK ?_
  refine Tri.seqK ?_
  refine Tri.run (G := gm_lock_Late) tyOk mixed ?_
  conv => whnf
  refine ⟨⟨(l.Queue.length : Int), (len_map _ _).symm, ?_⟩⟩
  conv => whnf
  refine Tri.block ?_
  replace h := bind_some h
  obtain ⟨y148, q149, h⟩ := h
  refine Tri.cut (fun ex S' => ex = (.exit 0) ∧ Weak S' ⟨26, 0, ofRegs [(5, .row 1 ((List.map (encI .i64) y148).length))], [.gone, .row 3 1 (List.map (encI .i64) y148)]⟩) ?_ ?_
  · refine Tri.loopF (fun (s150 : Int × (List Int)) => (⟨26, 0, ofRegs [(1, .v (.int .u64 now)), (5, .row 1 ((List.map (encI .i64) s150.2).length)), (9, .sl (List.map encClaim l.Queue)), (10, .v (.int .i64 (l.Queue.length : Int))), (11, .v (.int .i64 s150.1))], [.gone, .row 3 1 (List.map (encI .i64) s150.2)]⟩ : St)) q149 (Weak.trans (weak_nil 5 3 1 rfl) (weak_fin _ rfl rfl rfl (.cons (.gone) (.cons (.same rfl) (LeH.rest))) (.cons (.one (.same rfl)) (.cons (.one (.same (show (.row 1 0 : AV) = (.row 1 ((List.map (encI .i64) []).length) : AV) from congrArg (AV.row 1) (by simp)))) (.cons (.one (.same rfl)) (.cons (.one (.same rfl)) (.cons (.one (.same rfl)) (.nil)))))) rfl rfl)) ?_
    rintro ⟨a146, a147⟩ v151 hv r152
    have hv : lock_Late_l2 l now a146 a147 = some v151 := hv
    unfold lock_Late_l2 at hv
    dsimp only
    refine Tri.seqK ?_
    refine Tri.run (G := gm_lock_Late) tyOk mixed ?_
    conv => whnf
    refine Tri.seqK ?_
    refine Tri.cond rfl (fun c154 => ?_) (fun c154 => ?_)
    · replace hv := if_t c154 hv
      refine Tri.run (G := gm_lock_Late) tyOk mixed ?_
      conv => whnf
      refine Tri.seqK ?_
      replace hv := bind_some hv
      obtain ⟨y163, q164, hv⟩ := hv
      refine Tri.cut (fun ex S' => ex = .normal ∧ Weak S' ⟨26, 0, ofRegs [(1, .v (.int .u64 now)), (5, .row 1 ((List.map (encI .i64) y163).length)), (9, .sl (List.map encClaim l.Queue)), (10, .v (.int .i64 (l.Queue.length : Int))), (11, .v (.int .i64 a146))], [.gone, .row 3 1 (List.map (encI .i64) y163)]⟩) ?_ ?_
      · refine Tri.block ?_
        refine Tri.seqK ?_
        refine Tri.run (G := gm_lock_Late) tyOk mixed ?_
        conv => whnf
        replace q164 := bind_some q164
        obtain ⟨x165, q166, q164⟩ := q164
        refine ⟨(ix_some q166).1, ?_⟩
        conv => whnf
        refine ⟨⟨_, map_get encClaim (ix_some q166).2, ?_⟩⟩
        conv => whnf
        refine ⟨rfl, ?_⟩
        conv => whnf
        refine Tri.seqK ?_
        refine Tri.run (G := gm_lock_Late) tyOk mixed ?_
        conv => whnf
        refine Tri.cond rfl (fun c167 => ?_) (fun c167 => ?_)
        · replace q164 := if_t c167 q164
          refine Tri.run (G := gm_lock_Late) tyOk mixed ?_
          conv => whnf
          refine ⟨⟨List.map (encI .i64) [x165.Txn], rfl, ?_⟩⟩
          conv => whnf
          refine ⟨rfl, ?_⟩
          conv => whnf
          refine ⟨rfl, ?_⟩
          conv => whnf
          replace q164 := need_some q164
          obtain ⟨p168, q164⟩ := q164
          refine ⟨by simp only [List.length_map]; exact p168, ?_⟩
          conv => whnf
          refine ⟨⟨List.map (encI .i64) (a147 ++ [x165.Txn]), map_app (encI .i64) _ _ rfl rfl, ?_⟩⟩
          conv => whnf
          cases q164
          exact ⟨rfl, weak_fin _ rfl rfl rfl (.cons (.same rfl) (.cons (.same rfl) (LeH.rest))) (.cons (.one (.same rfl)) (.cons (.one (.same rfl)) (.cons (.one (.same rfl)) (.cons (.one (.same rfl)) (.cons (.one (.same rfl)) (.nil)))))) rfl rfl⟩
        · replace q164 := if_f c167 q164
          refine Tri.run (G := gm_lock_Late) tyOk mixed ?_
          conv => whnf
          cases q164
          exact ⟨rfl, weak_fin _ rfl rfl rfl (.cons (.same rfl) (.cons (.same rfl) (LeH.rest))) (.cons (.one (.same rfl)) (.cons (.one (.same rfl)) (.cons (.one (.same rfl)) (.cons (.one (.same rfl)) (.cons (.one (.same rfl)) (.nil)))))) rfl rfl⟩
      · rintro ex S' ⟨rfl, w169⟩
        conv => whnf
        refine Tri.weak w169 ?_
        refine Tri.run (G := gm_lock_Late) tyOk mixed ?_
        conv => whnf
        cases hv
        exact ⟨_, rfl, weak_fin _ rfl rfl rfl (.cons (.same rfl) (.cons (.same rfl) (LeH.rest))) (.cons (.one (.same rfl)) (.cons (.one (.same rfl)) (.cons (.one (.same rfl)) (.cons (.one (.same rfl)) (.cons (.one (.same rfl)) (.nil)))))) rfl rfl⟩
    · replace hv := if_f c154 hv
      refine Tri.run (G := gm_lock_Late) tyOk mixed ?_
      conv => whnf
      cases hv
      obtain rfl := r152 _ rfl
      exact ⟨rfl, weak_fin _ rfl rfl rfl (.cons (.same rfl) (.cons (.same rfl) (LeH.rest))) (.cons (.one (.same rfl)) (.nil)) rfl rfl⟩
  · rintro ex S' ⟨rfl, w170⟩
    conv => whnf
    refine Tri.weak w170 ?_
    refine Tri.seqK ?_
    refine Tri.run (G := gm_lock_Late) tyOk mixed ?_
    conv => whnf
    refine Tri.run (G := gm_lock_Late) tyOk mixed ?_
    conv => whnf
    refine fin_here ?_
    conv => whnf
    refine ⟨rfl, ?_⟩
    conv => whnf
    cases h
    rfl
noncomputable def ref10_Late_l2 (l : Locks) (now : Int) (a146 : Int) (a147 : (List Int)) : Option ((Int × (List Int)) ⊕ ((List Int))) :=
  if (decide (a146 < (l.Queue.length : Int))) then
    (
      (ix l.Queue a146).bind fun x165 =>
      if (decide (x165.Until ≤ now)) then
        need ((a147.length + 1) * 8 ≤ 140737488355328) <|
        some (a147 ++ [x165.Txn])
      else
        some a147).bind fun (y163 : (List Int)) =>
    some (.inl ((IntKind.i64.wrap (a146 + 1)), y163))
  else
    some (.inr a147)
noncomputable def ref10_Late (l : Locks) (now : Int) : Option ((List Int)) :=
  (loop (fun (s150 : Int × (List Int)) => ref10_Late_l2 l now s150.1 s150.2) ((0 : Int), ([] : (List Int)))).bind fun (y148 : (List Int)) =>
  some y148
def gm_ref10_Late : Gm := ⟨tys, [], [], []⟩
theorem ref10_Late_walk (l : Locks) (now : Int) (r : (List Int)) (h : ref10_Late l now = some r) : PureP Try.prog 44 [.agg [.sl (List.map encHold l.Held), .sl (List.map encClaim l.Queue)], .v (.int .u64 now)] (fun a => a = .sl (List.map (encI .i64) r)) := by
  unfold ref10_Late at h
  refine pureW (G := gm_ref10_Late) tyOk Try.func44 rfl (by kernel_rfl) (by simp [Try.f44]) ?_
  refine Tri.seqK ?_
  refine Tri.run (G := gm_ref10_Late) tyOk mixed ?_
  conv => whnf
  refine Tri.seqK ?_
  refine Tri.run (G := gm_ref10_Late) tyOk mixed ?_
  conv => whnf
  refine Tri.seqK ?_
  refine Tri.seqK ?_
  refine Tri.run (G := gm_ref10_Late) tyOk mixed ?_
  conv => whnf
  refine Tri.block ?_
  replace h := bind_some h
  obtain ⟨y148, q149, h⟩ := h
  refine Tri.cut (fun ex S' => ex = (.exit 0) ∧ Weak S' ⟨32, 0, ofRegs [(5, .row 1 ((List.map (encI .i64) y148).length))], [.gone, .row 3 1 (List.map (encI .i64) y148)]⟩) ?_ ?_
  · refine Tri.loopF (fun (s150 : Int × (List Int)) => (⟨32, 0, ofRegs [(1, .v (.int .u64 now)), (2, .ptr 0 0), (5, .row 1 ((List.map (encI .i64) s150.2).length)), (6, .v (.int .i64 s150.1))], [.var 25 [.sl (List.map encHold l.Held), .sl (List.map encClaim l.Queue)], .row 3 1 (List.map (encI .i64) s150.2)]⟩ : St)) q149 (Weak.trans (weak_nil 5 3 1 rfl) (weak_fin _ rfl rfl rfl (.cons (.same rfl) (.cons (.same rfl) (LeH.rest))) (.cons (.one (.same rfl)) (.cons (.one (.same rfl)) (.cons (.one (.same (show (.row 1 0 : AV) = (.row 1 ((List.map (encI .i64) []).length) : AV) from congrArg (AV.row 1) (by simp)))) (.cons (.one (.same rfl)) (.nil))))) rfl rfl)) ?_
    rintro ⟨a146, a147⟩ v151 hv r152
    have hv : ref10_Late_l2 l now a146 a147 = some v151 := hv
    unfold ref10_Late_l2 at hv
    dsimp only
    refine Tri.seqK ?_
    refine Tri.seqK ?_
    refine Tri.run (G := gm_ref10_Late) tyOk mixed ?_
    conv => whnf
    refine ⟨⟨(l.Queue.length : Int), (len_map _ _).symm, ?_⟩⟩
    conv => whnf
    refine Tri.cond rfl (fun c154 => ?_) (fun c154 => ?_)
    · replace hv := if_t c154 hv
      refine Tri.run (G := gm_ref10_Late) tyOk mixed ?_
      conv => whnf
      refine Tri.seqK ?_
      replace hv := bind_some hv
      obtain ⟨y163, q164, hv⟩ := hv
      refine Tri.cut (fun ex S' => ex = .normal ∧ Weak S' ⟨32, 0, ofRegs [(1, .v (.int .u64 now)), (2, .ptr 0 0), (5, .row 1 ((List.map (encI .i64) y163).length)), (6, .v (.int .i64 a146))], [.var 25 [.sl (List.map encHold l.Held), .sl (List.map encClaim l.Queue)], .row 3 1 (List.map (encI .i64) y163)]⟩) ?_ ?_
      · refine Tri.block ?_
        refine Tri.seqK ?_
        refine Tri.run (G := gm_ref10_Late) tyOk mixed ?_
        conv => whnf
        replace q164 := bind_some q164
        obtain ⟨x165, q166, q164⟩ := q164
        refine ⟨(ix_some q166).1, ?_⟩
        conv => whnf
        refine ⟨⟨_, map_get encClaim (ix_some q166).2, ?_⟩⟩
        conv => whnf
        refine ⟨rfl, ?_⟩
        conv => whnf
        refine Tri.cond rfl (fun c167 => ?_) (fun c167 => ?_)
        · replace q164 := if_t c167 q164
          refine Tri.run (G := gm_ref10_Late) tyOk mixed ?_
          conv => whnf
          refine ⟨(ix_some q166).1, ?_⟩
          conv => whnf
          refine ⟨⟨_, map_get encClaim (ix_some q166).2, ?_⟩⟩
          conv => whnf
          refine ⟨rfl, ?_⟩
          conv => whnf
          refine ⟨⟨List.map (encI .i64) [x165.Txn], rfl, ?_⟩⟩
          conv => whnf
          refine ⟨rfl, ?_⟩
          conv => whnf
          refine ⟨rfl, ?_⟩
          conv => whnf
          replace q164 := need_some q164
          obtain ⟨p168, q164⟩ := q164
          refine ⟨by simp only [List.length_map]; exact p168, ?_⟩
          conv => whnf
          refine ⟨⟨List.map (encI .i64) (a147 ++ [x165.Txn]), map_app (encI .i64) _ _ rfl rfl, ?_⟩⟩
          conv => whnf
          cases q164
          exact ⟨rfl, weak_fin _ rfl rfl rfl (.cons (.same rfl) (.cons (.same rfl) (LeH.rest))) (.cons (.one (.same rfl)) (.cons (.one (.same rfl)) (.cons (.one (.same rfl)) (.cons (.one (.same rfl)) (.nil))))) rfl rfl⟩
        · replace q164 := if_f c167 q164
          refine Tri.run (G := gm_ref10_Late) tyOk mixed ?_
          conv => whnf
          cases q164
          exact ⟨rfl, weak_fin _ rfl rfl rfl (.cons (.same rfl) (.cons (.same rfl) (LeH.rest))) (.cons (.one (.same rfl)) (.cons (.one (.same rfl)) (.cons (.one (.same rfl)) (.cons (.one (.same rfl)) (.nil))))) rfl rfl⟩
      · rintro ex S' ⟨rfl, w169⟩
        conv => whnf
        refine Tri.weak w169 ?_
        refine Tri.run (G := gm_ref10_Late) tyOk mixed ?_
        conv => whnf
        cases hv
        exact ⟨_, rfl, weak_fin _ rfl rfl rfl (.cons (.same rfl) (.cons (.same rfl) (LeH.rest))) (.cons (.one (.same rfl)) (.cons (.one (.same rfl)) (.cons (.one (.same rfl)) (.cons (.one (.same rfl)) (.nil))))) rfl rfl⟩
    · replace hv := if_f c154 hv
      refine Tri.run (G := gm_ref10_Late) tyOk mixed ?_
      conv => whnf
      cases hv
      obtain rfl := r152 _ rfl
      exact ⟨rfl, weak_fin _ rfl rfl rfl (.cons (.gone) (.cons (.same rfl) (LeH.rest))) (.cons (.one (.same rfl)) (.nil)) rfl rfl⟩
  · rintro ex S' ⟨rfl, w170⟩
    conv => whnf
    refine Tri.weak w170 ?_
    refine Tri.seqK ?_
    refine Tri.run (G := gm_ref10_Late) tyOk mixed ?_
    conv => whnf
    refine Tri.run (G := gm_ref10_Late) tyOk mixed ?_
    conv => whnf
    refine fin_here ?_
    conv => whnf
    refine ⟨rfl, ?_⟩
    conv => whnf
    cases h
    rfl
end Go.Ab
