/- The program's functions as plain Lean functions, and that the program comes to what they come to. Printed by a program of this session. -/
import Derived.Test.YtdoceelfokmhfaaW1
import Derived.Test.YtdoceelfokmhfaaSh
namespace Go.Ab
open Go.Proofs
set_option linter.unusedVariables false
set_option linter.unusedSimpArgs false
set_option maxRecDepth 100000
set_option maxHeartbeats 4000000
noncomputable def ring_Reach_l91 (a6089 : (List Int)) (a6463 : Int) (a6464 : (List Int)) (a6465 : (List Int)) : Option ((Int × (List Int) × (List Int)) ⊕ ((List Int) × (List Int))) :=
  if (decide (a6463 < (a6089.length : Int))) then
    (
      (ix a6089 a6463).bind fun x6487 =>
      need (-9223372036854775808 ≤ x6487 ∧ x6487 ≤ 9223372036854775807) <|
      if (!(decide (x6487 ∈ a6464))) then
        need ((-9223372036854775808 ≤ x6487 ∧ x6487 ≤ 9223372036854775807) ∧ a6464.length < 1073741824) <|
        need ((-9223372036854775808 ≤ x6487 ∧ x6487 ≤ 9223372036854775807) ∧ a6465.length < 1073741824) <|
        some ((insI a6464 x6487), (insI a6465 x6487))
      else
        some (a6464, a6465)).bind fun (y6485 : (List Int) × (List Int)) =>
    some (.inl ((IntKind.i64.wrap (a6463 + 1)), y6485.1, y6485.2))
  else
    some (.inr (a6464, a6465))
noncomputable def ring_Reach_l92 (l : Locks) (y6466 : (List Int) × (List Int)) (a6532 : Int) (a6533 : (List Int)) (a6534 : (List Int)) : Option ((Int × (List Int) × (List Int)) ⊕ ((List Int) × (List Int))) :=
  if (decide (a6532 < ((List.mergeSort y6466.2 leI).length : Int))) then
    (ix (List.mergeSort y6466.2 leI) a6532).bind fun x6542 =>
    need (-9223372036854775808 ≤ x6542 ∧ x6542 ≤ 9223372036854775807) <|
    (ring_Reach_1 x6542 l).bind fun y6548 =>
    need ((a6534.length + y6548.length) * 8 ≤ 140737488355328) <|
    some (.inl ((IntKind.i64.wrap (a6532 + 1)), (delI a6533 x6542), (a6534 ++ y6548)))
  else
    some (.inr (a6533, a6534))
noncomputable def ring_Reach_l97 (a6090 : (List Int)) (a6901 : Int) (a6902 : (List Int)) (a6903 : (List Int)) : Option ((Int × (List Int) × (List Int)) ⊕ ((List Int) × (List Int))) :=
  if (decide (a6901 < (a6090.length : Int))) then
    (
      (ix a6090 a6901).bind fun x6925 =>
      need (-9223372036854775808 ≤ x6925 ∧ x6925 ≤ 9223372036854775807) <|
      if (!(decide (x6925 ∈ a6902))) then
        need ((-9223372036854775808 ≤ x6925 ∧ x6925 ≤ 9223372036854775807) ∧ a6902.length < 1073741824) <|
        need ((-9223372036854775808 ≤ x6925 ∧ x6925 ≤ 9223372036854775807) ∧ a6903.length < 1073741824) <|
        some ((insI a6902 x6925), (insI a6903 x6925))
      else
        some (a6902, a6903)).bind fun (y6923 : (List Int) × (List Int)) =>
    some (.inl ((IntKind.i64.wrap (a6901 + 1)), y6923.1, y6923.2))
  else
    some (.inr (a6902, a6903))
noncomputable def ring_Reach_l98 (l : Locks) (y6904 : (List Int) × (List Int)) (a6970 : Int) (a6971 : (List Int)) (a6972 : (List Int)) : Option ((Int × (List Int) × (List Int)) ⊕ ((List Int) × (List Int))) :=
  if (decide (a6970 < ((List.mergeSort y6904.2 leI).length : Int))) then
    (ix (List.mergeSort y6904.2 leI) a6970).bind fun x6980 =>
    need (-9223372036854775808 ≤ x6980 ∧ x6980 ≤ 9223372036854775807) <|
    (ring_Reach_1 x6980 l).bind fun y6986 =>
    need ((a6972.length + y6986.length) * 8 ≤ 140737488355328) <|
    some (.inl ((IntKind.i64.wrap (a6970 + 1)), (delI a6971 x6980), (a6972 ++ y6986)))
  else
    some (.inr (a6971, a6972))
noncomputable def ring_Reach_l86 (l : Locks) (a6086 : Int) (a6087 : (List Int)) (a6088 : (List Int)) (a6089 : (List Int)) (a6090 : (List Int)) : Option ((Int × (List Int) × (List Int) × (List Int) × (List Int)) ⊕ ((List Int))) :=
  (
    need (0 ≤ a6086 ∧ a6086 < 2) <|
    if (decide (a6086 = 0)) then
      if (decide ((a6089.length : Int) > 0)) then
        some (.inl ())
      else
        some (.inr (.inr ()))
    else
      if (decide ((a6090.length : Int) > 0)) then
        some (.inr (.inl ()))
      else
        some (.inr (.inr ()))).bind fun (y6104 : (Unit) ⊕ (Unit) ⊕ (Unit)) =>
  match y6104 with
  | (.inl v6106) =>
    (loop (fun (s6468 : Int × (List Int) × (List Int)) => ring_Reach_l91 a6089 s6468.1 s6468.2.1 s6468.2.2) ((0 : Int), a6087, a6088)).bind fun (y6466 : (List Int) × (List Int)) =>
    need (y6466.2.length < 1073741824) <|
    (loop (fun (s6537 : Int × (List Int) × (List Int)) => ring_Reach_l92 l y6466 s6537.1 s6537.2.1 s6537.2.2) ((0 : Int), y6466.2, ([] : (List Int)))).bind fun (y6535 : (List Int) × (List Int)) =>
    some (.inl (1, y6466.1, y6535.1, a6089, y6535.2))
  | (.inr (.inl v6107)) =>
    (loop (fun (s6906 : Int × (List Int) × (List Int)) => ring_Reach_l97 a6090 s6906.1 s6906.2.1 s6906.2.2) ((0 : Int), a6087, a6088)).bind fun (y6904 : (List Int) × (List Int)) =>
    need (y6904.2.length < 1073741824) <|
    (loop (fun (s6975 : Int × (List Int) × (List Int)) => ring_Reach_l98 l y6904 s6975.1 s6975.2.1 s6975.2.2) ((0 : Int), y6904.2, ([] : (List Int)))).bind fun (y6973 : (List Int) × (List Int)) =>
    some (.inl (0, y6904.1, y6973.1, y6973.2, a6090))
  | (.inr (.inr v6108)) =>
    some (.inr a6087)
noncomputable def ring_Reach (l : Locks) (txn : Int) : Option ((List Int)) :=
  (ring_Reach_1 txn l).bind fun y1 =>
  (loop (fun (s6093 : Int × (List Int) × (List Int) × (List Int) × (List Int)) => ring_Reach_l86 l s6093.1 s6093.2.1 s6093.2.2.1 s6093.2.2.2.1 s6093.2.2.2.2) ((0 : Int), ([] : List Int), ([] : List Int), y1, ([] : (List Int)))).bind fun (y6091 : (List Int)) =>
  need (y6091.length < 1073741824) <|
  some (List.mergeSort y6091 leI)
def gm_ring_Reach : Gm := ⟨tys, [50, 51, 52], [], []⟩
theorem ring_Reach_walk (l : Locks) (txn : Int) (r : (List Int)) (h : ring_Reach l txn = some r) : FreshP Try.prog 20 [.agg [.sl (List.map encHold l.Held), .sl (List.map encClaim l.Queue)], .v (.int .i64 txn)] 3 1 (fun ys => ys = List.map (encI .i64) r) := by
  unfold ring_Reach at h
  refine freshW (G := gm_ring_Reach) tyOk Try.func20 rfl (by kernel_rfl) (by simp [Try.f20]) ?_
  refine Tri.seqK ?_
  refine Tri.run (G := gm_ring_Reach) tyOk mixed ?_
  conv => whnf
  refine Tri.seqK ?_
  refine Tri.run (G := gm_ring_Reach) tyOk mixed ?_
  conv => whnf
  refine Tri.seqK ?_
  refine Tri.run (G := gm_ring_Reach) tyOk mixed ?_
  conv => whnf
  refine OpP.make 3 4 rfl rfl ?_
  conv => whnf
  refine Tri.seqK ?_
  refine Tri.run (G := gm_ring_Reach) tyOk mixed ?_
  conv => whnf
  refine OpP.make 3 4 rfl rfl ?_
  conv => whnf
  refine Tri.seqK ?_
  refine Tri.run (G := gm_ring_Reach) tyOk mixed ?_
  conv => whnf
  replace h := bind_some h
  obtain ⟨y1, q2, h⟩ := h
  refine CallP.use (ring_Reach_1_walk txn l y1 q2) [0] rfl rfl rfl rfl rfl rfl rfl rfl rfl ?_
  conv => whnf
  refine Tri.seqK ?_
  refine Tri.seqK ?_
  refine Tri.run (G := gm_ring_Reach) tyOk mixed ?_
  conv => whnf
  refine Tri.block ?_
  replace h := bind_some h
  obtain ⟨y6091, q6092, h⟩ := h
  refine Tri.cut (fun ex S' => ex = (.exit 0) ∧ Weak S' ⟨73, 0, ofRegs [(6, .mp 1)], [.gone, .ext (mapI Try.prog 3 4 y6091)]⟩) ?_ ?_
  · refine Tri.loopF (fun (s6093 : Int × (List Int) × (List Int) × (List Int) × (List Int)) => (⟨73, 0, ofRegs [(5, .fn (.func 50) [] [.ptr 0 0]), (6, .mp 1), (7, .mp 2), (8, .ptr 3 0), (9, .v (.int .i64 s6093.1))], [.var 25 [.sl (List.map encHold l.Held), .sl (List.map encClaim l.Queue)], .ext (mapI Try.prog 3 4 s6093.2.1), .ext (mapI Try.prog 3 4 s6093.2.2.1), .var 71 [.sl (List.map (encI .i64) s6093.2.2.2.1), .sl (List.map (encI .i64) s6093.2.2.2.2)]]⟩ : St)) q6092 (weak_fin _ rfl rfl rfl (.cons (.same rfl) (.cons (.same rfl) (.cons (.same rfl) (.cons (.var (.cons (.same rfl) (.cons (.nil) (.nil)))) (LeH.rest))))) (.cons (.one (.same rfl)) (.cons (.one (.same rfl)) (.cons (.one (.same rfl)) (.cons (.one (.same rfl)) (.cons (.one (.same rfl)) (.nil)))))) rfl rfl) ?_
    rintro ⟨a6086, a6087, a6088, a6089, a6090⟩ v6094 hv r6095
    have hv : ring_Reach_l86 l a6086 a6087 a6088 a6089 a6090 = some v6094 := hv
    unfold ring_Reach_l86 at hv
    dsimp only
    refine Tri.seqK ?_
    replace hv := bind_some hv
    obtain ⟨y6104, q6105, hv⟩ := hv
    refine Tri.cut (fun ex S' => (∃ v6106 : Unit, y6104 = (.inl v6106) ∧ ex = .normal ∧ Weak S' ⟨73, 0, ofRegs [(5, .fn (.func 50) [] [.ptr 0 0]), (6, .mp 1), (7, .mp 2), (8, .ptr 3 0), (9, .v (.int .i64 0))], [.var 25 [.sl (List.map encHold l.Held), .sl (List.map encClaim l.Queue)], .ext (mapI Try.prog 3 4 a6087), .ext (mapI Try.prog 3 4 a6088), .var 71 [.sl (List.map (encI .i64) a6089), .sl (List.map (encI .i64) a6090)]]⟩) ∨ (∃ v6107 : Unit, y6104 = (.inr (.inl v6107)) ∧ ex = .normal ∧ Weak S' ⟨73, 0, ofRegs [(5, .fn (.func 50) [] [.ptr 0 0]), (6, .mp 1), (7, .mp 2), (8, .ptr 3 0), (9, .v (.int .i64 1))], [.var 25 [.sl (List.map encHold l.Held), .sl (List.map encClaim l.Queue)], .ext (mapI Try.prog 3 4 a6087), .ext (mapI Try.prog 3 4 a6088), .var 71 [.sl (List.map (encI .i64) a6089), .sl (List.map (encI .i64) a6090)]]⟩) ∨ (∃ v6108 : Unit, y6104 = (.inr (.inr v6108)) ∧ ex = (.exit 0) ∧ Weak S' ⟨73, 0, ofRegs [(6, .mp 1)], [.gone, .ext (mapI Try.prog 3 4 a6087)]⟩)) ?_ ?_
    · refine Tri.seqK ?_
      refine Tri.run (G := gm_ring_Reach) tyOk mixed ?_
      conv => whnf
      replace q6105 := need_some q6105
      obtain ⟨p6109, q6105⟩ := q6105
      by_cases c6110 : (decide (a6086 = 0)) = true
      · replace q6105 := if_t c6110 q6105
        obtain rfl : a6086 = 0 := by simpa using c6110
        refine ⟨by decide, ?_⟩
        conv => whnf
        refine ⟨⟨(a6089.length : Int), (len_map _ _).symm, ?_⟩⟩
        conv => whnf
        refine Tri.cond rfl (fun c6111 => ?_) (fun c6111 => ?_)
        · replace q6105 := if_t c6111 q6105
          refine Tri.run (G := gm_ring_Reach) tyOk mixed ?_
          conv => whnf
          cases q6105
          exact Or.inl ⟨_, rfl, rfl, weak_fin _ rfl rfl rfl (.cons (.same rfl) (.cons (.same rfl) (.cons (.same rfl) (.cons (.same rfl) (LeH.rest))))) (.cons (.one (.same rfl)) (.cons (.one (.same rfl)) (.cons (.one (.same rfl)) (.cons (.one (.same rfl)) (.cons (.one (.same rfl)) (.nil)))))) rfl rfl⟩
        · replace q6105 := if_f c6111 q6105
          refine Tri.run (G := gm_ring_Reach) tyOk mixed ?_
          conv => whnf
          cases q6105
          exact Or.inr (Or.inr (⟨_, rfl, rfl, weak_fin _ rfl rfl rfl (.cons (.gone) (.cons (.same rfl) (LeH.rest))) (.cons (.one (.same rfl)) (.nil)) rfl rfl⟩))
      · replace c6110 := Bool.eq_false_iff.2 c6110
        replace q6105 := if_f c6110 q6105
        obtain rfl : a6086 = 1 := by have := c6110; simp at *; omega
        refine ⟨by decide, ?_⟩
        conv => whnf
        refine ⟨⟨(a6090.length : Int), (len_map _ _).symm, ?_⟩⟩
        conv => whnf
        refine Tri.cond rfl (fun c6112 => ?_) (fun c6112 => ?_)
        · replace q6105 := if_t c6112 q6105
          refine Tri.run (G := gm_ring_Reach) tyOk mixed ?_
          conv => whnf
          cases q6105
          exact Or.inr (Or.inl ⟨_, rfl, rfl, weak_fin _ rfl rfl rfl (.cons (.same rfl) (.cons (.same rfl) (.cons (.same rfl) (.cons (.same rfl) (LeH.rest))))) (.cons (.one (.same rfl)) (.cons (.one (.same rfl)) (.cons (.one (.same rfl)) (.cons (.one (.same rfl)) (.cons (.one (.same rfl)) (.nil)))))) rfl rfl⟩)
        · replace q6105 := if_f c6112 q6105
          refine Tri.run (G := gm_ring_Reach) tyOk mixed ?_
          conv => whnf
          cases q6105
          exact Or.inr (Or.inr (⟨_, rfl, rfl, weak_fin _ rfl rfl rfl (.cons (.gone) (.cons (.same rfl) (LeH.rest))) (.cons (.one (.same rfl)) (.nil)) rfl rfl⟩))
    · rintro ex S' (⟨v6106, rfl, rfl, w6113⟩ | ⟨v6107, rfl, rfl, w6113⟩ | ⟨v6108, rfl, rfl, w6113⟩)
      · dsimp only at hv
        conv => whnf
        refine Tri.weak w6113 ?_
        refine Tri.seqK ?_
        refine Tri.block ?_
        refine Tri.seqK ?_
        refine Tri.seqK ?_
        refine Tri.run (G := gm_ring_Reach) tyOk mixed ?_
        conv => whnf
        refine ⟨by decide, ?_⟩
        conv => whnf
        refine ⟨⟨(a6089.length : Int), (len_map _ _).symm, ?_⟩⟩
        conv => whnf
        refine Tri.block ?_
        replace hv := bind_some hv
        obtain ⟨y6466, q6467, hv⟩ := hv
        refine Tri.cut (fun ex S' => ex = (.exit 2) ∧ Weak S' ⟨73, 0, ofRegs [(5, .fn (.func 50) [] [.ptr 0 0]), (6, .mp 1), (7, .mp 2), (8, .ptr 3 0), (9, .v (.int .i64 0))], [.var 25 [.sl (List.map encHold l.Held), .sl (List.map encClaim l.Queue)], .ext (mapI Try.prog 3 4 y6466.1), .ext (mapI Try.prog 3 4 y6466.2), .var 71 [.sl (List.map (encI .i64) a6089), .sl (List.map (encI .i64) a6090)]]⟩) ?_ ?_
        · refine Tri.loopF (fun (s6468 : Int × (List Int) × (List Int)) => (⟨73, 0, ofRegs [(5, .fn (.func 50) [] [.ptr 0 0]), (6, .mp 1), (7, .mp 2), (8, .ptr 3 0), (9, .v (.int .i64 0)), (30, .sl (List.map (encI .i64) a6089)), (31, .v (.int .i64 (a6089.length : Int))), (32, .v (.int .i64 s6468.1))], [.var 25 [.sl (List.map encHold l.Held), .sl (List.map encClaim l.Queue)], .ext (mapI Try.prog 3 4 s6468.2.1), .ext (mapI Try.prog 3 4 s6468.2.2), .var 71 [.sl (List.map (encI .i64) a6089), .sl (List.map (encI .i64) a6090)]]⟩ : St)) q6467 (weak_fin _ rfl rfl rfl (.cons (.same rfl) (.cons (.same rfl) (.cons (.same rfl) (.cons (.same rfl) (LeH.rest))))) (.cons (.one (.same rfl)) (.cons (.one (.same rfl)) (.cons (.one (.same rfl)) (.cons (.one (.same rfl)) (.cons (.one (.same rfl)) (.cons (.one (.same rfl)) (.cons (.one (.same rfl)) (.cons (.one (.same rfl)) (.nil))))))))) rfl rfl) ?_
          rintro ⟨a6463, a6464, a6465⟩ v6469 hv r6470
          have hv : ring_Reach_l91 a6089 a6463 a6464 a6465 = some v6469 := hv
          unfold ring_Reach_l91 at hv
          dsimp only
          refine Tri.seqK ?_
          refine Tri.run (G := gm_ring_Reach) tyOk mixed ?_
          conv => whnf
          refine Tri.seqK ?_
          refine Tri.cond rfl (fun c6472 => ?_) (fun c6472 => ?_)
          · replace hv := if_t c6472 hv
            refine Tri.run (G := gm_ring_Reach) tyOk mixed ?_
            conv => whnf
            refine Tri.seqK ?_
            replace hv := bind_some hv
            obtain ⟨y6485, q6486, hv⟩ := hv
            refine Tri.cut (fun ex S' => ex = .normal ∧ Weak S' ⟨73, 0, ofRegs [(5, .fn (.func 50) [] [.ptr 0 0]), (6, .mp 1), (7, .mp 2), (8, .ptr 3 0), (9, .v (.int .i64 0)), (30, .sl (List.map (encI .i64) a6089)), (31, .v (.int .i64 (a6089.length : Int))), (32, .v (.int .i64 a6463))], [.var 25 [.sl (List.map encHold l.Held), .sl (List.map encClaim l.Queue)], .ext (mapI Try.prog 3 4 y6485.1), .ext (mapI Try.prog 3 4 y6485.2), .var 71 [.sl (List.map (encI .i64) a6089), .sl (List.map (encI .i64) a6090)]]⟩) ?_ ?_
            · refine Tri.block ?_
              refine Tri.seqK ?_
              refine Tri.run (G := gm_ring_Reach) tyOk mixed ?_
              conv => whnf
              replace q6486 := bind_some q6486
              obtain ⟨x6487, q6488, q6486⟩ := q6486
              refine ⟨(ix_some q6488).1, ?_⟩
              conv => whnf
              refine ⟨⟨_, map_get (encI .i64) (ix_some q6488).2, ?_⟩⟩
              conv => whnf
              refine ⟨rfl, ?_⟩
              conv => whnf
              refine Tri.seqK ?_
              refine Tri.run (G := gm_ring_Reach) tyOk mixed ?_
              conv => whnf
              replace q6486 := need_some q6486
              obtain ⟨p6489, q6486⟩ := q6486
              refine OpP.get rfl rfl rfl rfl rfl Try.underlying70 Try.underlying3 Try.underlying4 Try.zeroValue4 p6489 ?_
              conv => whnf
              refine Tri.cond rfl (fun c6490 => ?_) (fun c6490 => ?_)
              · replace q6486 := if_t c6490 q6486
                refine Tri.run (G := gm_ring_Reach) tyOk mixed ?_
                conv => whnf
                replace q6486 := need_some q6486
                obtain ⟨p6491, q6486⟩ := q6486
                refine OpP.set rfl rfl rfl rfl rfl rfl Try.underlying70 Try.underlying3 Try.underlying4 p6491 ?_
                conv => whnf
                replace q6486 := need_some q6486
                obtain ⟨p6492, q6486⟩ := q6486
                refine OpP.set rfl rfl rfl rfl rfl rfl Try.underlying70 Try.underlying3 Try.underlying4 p6492 ?_
                conv => whnf
                cases q6486
                exact ⟨rfl, weak_fin _ rfl rfl rfl (.cons (.same rfl) (.cons (.same rfl) (.cons (.same rfl) (.cons (.same rfl) (LeH.rest))))) (.cons (.one (.same rfl)) (.cons (.one (.same rfl)) (.cons (.one (.same rfl)) (.cons (.one (.same rfl)) (.cons (.one (.same rfl)) (.cons (.one (.same rfl)) (.cons (.one (.same rfl)) (.cons (.one (.same rfl)) (.nil))))))))) rfl rfl⟩
              · replace q6486 := if_f c6490 q6486
                refine Tri.run (G := gm_ring_Reach) tyOk mixed ?_
                conv => whnf
                cases q6486
                exact ⟨rfl, weak_fin _ rfl rfl rfl (.cons (.same rfl) (.cons (.same rfl) (.cons (.same rfl) (.cons (.same rfl) (LeH.rest))))) (.cons (.one (.same rfl)) (.cons (.one (.same rfl)) (.cons (.one (.same rfl)) (.cons (.one (.same rfl)) (.cons (.one (.same rfl)) (.cons (.one (.same rfl)) (.cons (.one (.same rfl)) (.cons (.one (.same rfl)) (.nil))))))))) rfl rfl⟩
            · rintro ex S' ⟨rfl, w6493⟩
              conv => whnf
              refine Tri.weak w6493 ?_
              refine Tri.run (G := gm_ring_Reach) tyOk mixed ?_
              conv => whnf
              cases hv
              exact ⟨_, rfl, weak_fin _ rfl rfl rfl (.cons (.same rfl) (.cons (.same rfl) (.cons (.same rfl) (.cons (.same rfl) (LeH.rest))))) (.cons (.one (.same rfl)) (.cons (.one (.same rfl)) (.cons (.one (.same rfl)) (.cons (.one (.same rfl)) (.cons (.one (.same rfl)) (.cons (.one (.same rfl)) (.cons (.one (.same rfl)) (.cons (.one (.same rfl)) (.nil))))))))) rfl rfl⟩
          · replace hv := if_f c6472 hv
            refine Tri.run (G := gm_ring_Reach) tyOk mixed ?_
            conv => whnf
            cases hv
            obtain rfl := r6470 _ rfl
            exact ⟨rfl, weak_fin _ rfl rfl rfl (.cons (.same rfl) (.cons (.same rfl) (.cons (.same rfl) (.cons (.same rfl) (LeH.rest))))) (.cons (.one (.same rfl)) (.cons (.one (.same rfl)) (.cons (.one (.same rfl)) (.cons (.one (.same rfl)) (.cons (.one (.same rfl)) (.nil)))))) rfl rfl⟩
        · rintro ex S' ⟨rfl, w6494⟩
          conv => whnf
          refine Tri.weak w6494 ?_
          refine Tri.seqK ?_
          refine Tri.run (G := gm_ring_Reach) tyOk mixed ?_
          conv => whnf
          refine ⟨by decide, ?_⟩
          conv => whnf
          refine Tri.seqK ?_
          refine Tri.run (G := gm_ring_Reach) tyOk mixed ?_
          conv => whnf
          refine keys_52 ?_
          conv => whnf
          replace hv := need_some hv
          obtain ⟨p6495, hv⟩ := hv
          refine sorted_51 rfl rfl p6495 ?_
          conv => whnf
          refine ⟨by first | (simp; done) | (simp only [List.length_map, List.length_append, List.length_take, List.length_drop, List.length_replicate, List.length_set, List.length_mergeSort]; omega), ?_⟩
          conv => whnf
          refine ⟨⟨((List.mergeSort y6466.2 leI).length : Int), by simp, ?_⟩⟩
          conv => whnf
          refine Tri.block ?_
          replace hv := bind_some hv
          obtain ⟨y6535, q6536, hv⟩ := hv
          refine Tri.cut (fun ex S' => ex = (.exit 4) ∧ Weak S' ⟨73, 0, ofRegs [(5, .fn (.func 50) [] [.ptr 0 0]), (6, .mp 1), (7, .mp 2), (8, .ptr 3 0), (9, .v (.int .i64 0))], [.var 25 [.sl (List.map encHold l.Held), .sl (List.map encClaim l.Queue)], .ext (mapI Try.prog 3 4 y6466.1), .ext (mapI Try.prog 3 4 y6535.1), .var 71 [.sl (List.map (encI .i64) a6089), .row 6 ((List.map (encI .i64) y6535.2).length)], .gone, .gone, .row 3 1 (List.map (encI .i64) y6535.2)]⟩) ?_ ?_
          · refine Tri.loopF (fun (s6537 : Int × (List Int) × (List Int)) => (⟨73, 0, ofRegs [(5, .fn (.func 50) [] [.ptr 0 0]), (6, .mp 1), (7, .mp 2), (8, .ptr 3 0), (9, .v (.int .i64 0)), (50, .row 5 ((List.map (encI .i64) (List.mergeSort y6466.2 leI)).length)), (51, .v (.int .i64 ((List.mergeSort y6466.2 leI).length : Int))), (52, .v (.int .i64 s6537.1))], [.var 25 [.sl (List.map encHold l.Held), .sl (List.map encClaim l.Queue)], .ext (mapI Try.prog 3 4 y6466.1), .ext (mapI Try.prog 3 4 s6537.2.1), .var 71 [.sl (List.map (encI .i64) a6089), .row 6 ((List.map (encI .i64) s6537.2.2).length)], .gone, .row 3 1 (List.map (encI .i64) (List.mergeSort y6466.2 leI)), .row 3 1 (List.map (encI .i64) s6537.2.2)]⟩ : St)) q6536 (Weak.trans (weak_nilcell 3 1 3 1 rfl rfl) (weak_fin _ rfl rfl rfl (.cons (.same rfl) (.cons (.same rfl) (.cons (.same rfl) (.cons (.var (.cons (.same rfl) (.cons (.same (show (.row 6 0 : AV) = (.row 6 ((List.map (encI .i64) []).length) : AV) from congrArg (AV.row 6) (by simp))) (.nil)))) (.cons (.gone) (.cons (.same rfl) (.cons (.same rfl) (LeH.rest)))))))) (.cons (.one (.same rfl)) (.cons (.one (.same rfl)) (.cons (.one (.same rfl)) (.cons (.one (.same rfl)) (.cons (.one (.same rfl)) (.cons (.one (.same (show (.row 5 ((List.mergeSort y6466.2 leI).length) : AV) = (.row 5 ((List.map (encI .i64) (List.mergeSort y6466.2 leI)).length) : AV) from congrArg (AV.row 5) (by simp)))) (.cons (.one (.same rfl)) (.cons (.one (.same rfl)) (.nil))))))))) rfl rfl)) ?_
            rintro ⟨a6532, a6533, a6534⟩ v6538 hv r6539
            have hv : ring_Reach_l92 l y6466 a6532 a6533 a6534 = some v6538 := hv
            unfold ring_Reach_l92 at hv
            dsimp only
            refine Tri.seqK ?_
            refine Tri.run (G := gm_ring_Reach) tyOk mixed ?_
            conv => whnf
            refine Tri.seqK ?_
            refine Tri.cond rfl (fun c6541 => ?_) (fun c6541 => ?_)
            · replace hv := if_t c6541 hv
              refine Tri.run (G := gm_ring_Reach) tyOk mixed ?_
              conv => whnf
              refine Tri.seqK ?_
              refine Tri.block ?_
              refine Tri.seqK ?_
              refine Tri.run (G := gm_ring_Reach) tyOk mixed ?_
              conv => whnf
              replace hv := bind_some hv
              obtain ⟨x6542, q6543, hv⟩ := hv
              refine ⟨⟨rfl, (ix_lt q6543).1, by have := ix_lt q6543; simp only [List.length_map, List.length_set, List.length_cons, List.length_nil] at *; omega⟩, ?_⟩
              conv => whnf
              refine ⟨rfl, ?_⟩
              conv => whnf
              refine ⟨⟨_, map_get (encI .i64) (ix_some q6543).2, ?_⟩⟩
              conv => whnf
              refine Tri.seqK ?_
              refine Tri.run (G := gm_ring_Reach) tyOk mixed ?_
              conv => whnf
              replace hv := need_some hv
              obtain ⟨p6544, hv⟩ := hv
              refine OpP.del rfl rfl rfl rfl rfl Try.underlying70 Try.underlying3 Try.underlying4 p6544 ?_
              conv => whnf
              refine Tri.run (G := gm_ring_Reach) tyOk mixed ?_
              conv => whnf
              refine Draw.one 11 (.take 0 (.take 1 (.take 2 (.take 3 (.take 4 (.take 5 (.take 6 (.take 7 (.alt 8 (.alt 9 (.take 10 (.fin)) (.nil)) (.nil)))))))))) [0] (by kernel_rfl) ?_
              conv => whnf
              refine ⟨by decide, ?_⟩
              conv => whnf
              refine ⟨?_, ?_⟩
              · conv => whnf
                replace hv := bind_some hv
                obtain ⟨y6548, q6549, hv⟩ := hv
                refine CallP.use (ring_Reach_1_walk x6542 l y6548 q6549) [0] rfl rfl rfl rfl rfl rfl rfl rfl rfl ?_
                conv => whnf
                refine ⟨?_, ?_⟩
                · conv => whnf
                  refine ⟨rfl, ?_⟩
                  conv => whnf
                  refine ⟨map_len (f := (encI .i64)) (n := 1) (fun _ => rfl) _, ?_⟩
                  conv => whnf
                  replace hv := need_some hv
                  obtain ⟨p6550, hv⟩ := hv
                  refine ⟨by simp only [List.length_map]; exact p6550, ?_⟩
                  conv => whnf
                  refine ⟨⟨List.map (encI .i64) (a6534 ++ y6548), map_app (encI .i64) _ _ rfl rfl, ?_⟩⟩
                  conv => whnf
                  refine ⟨by decide, ?_⟩
                  conv => whnf
                  refine Tri.run (G := gm_ring_Reach) tyOk mixed ?_
                  conv => whnf
                  cases hv
                  exact ⟨_, rfl, weak_fin _ rfl rfl rfl (.cons (.same rfl) (.cons (.same rfl) (.cons (.same rfl) (.cons (.same rfl) (.cons (.same rfl) (.cons (.same rfl) (.cons (.same rfl) (LeH.rest)))))))) (.cons (.one (.same rfl)) (.cons (.one (.same rfl)) (.cons (.one (.same rfl)) (.cons (.one (.same rfl)) (.cons (.one (.same rfl)) (.cons (.one (.same rfl)) (.cons (.one (.same rfl)) (.cons (.one (.same rfl)) (.nil))))))))) rfl rfl⟩
                · conv => whnf
                  trivial
              · conv => whnf
                trivial
            · replace hv := if_f c6541 hv
              refine Tri.run (G := gm_ring_Reach) tyOk mixed ?_
              conv => whnf
              cases hv
              obtain rfl := r6539 _ rfl
              exact ⟨rfl, weak_fin _ rfl rfl rfl (.cons (.same rfl) (.cons (.same rfl) (.cons (.same rfl) (.cons (.same rfl) (.cons (.same rfl) (.cons (.gone) (.cons (.same rfl) (LeH.rest)))))))) (.cons (.one (.same rfl)) (.cons (.one (.same rfl)) (.cons (.one (.same rfl)) (.cons (.one (.same rfl)) (.cons (.one (.same rfl)) (.nil)))))) rfl rfl⟩
          · rintro ex S' ⟨rfl, w6551⟩
            conv => whnf
            refine Tri.weak w6551 ?_
            refine Tri.run (G := gm_ring_Reach) tyOk mixed ?_
            conv => whnf
            cases hv
            exact ⟨_, rfl, Weak.trans (weak_freeze 6 rfl) (weak_fin _ rfl rfl rfl (.cons (.same rfl) (.cons (.same rfl) (.cons (.same rfl) (.cons (.var (.cons (.same rfl) (.cons (.frz rfl (rfl)) (.nil)))) (LeH.rest))))) (.cons (.one (.same rfl)) (.cons (.one (.same rfl)) (.cons (.one (.same rfl)) (.cons (.one (.same rfl)) (.cons (.one (.same rfl)) (.nil)))))) rfl rfl)⟩
      · dsimp only at hv
        conv => whnf
        refine Tri.weak w6113 ?_
        refine Tri.seqK ?_
        refine Tri.block ?_
        refine Tri.seqK ?_
        refine Tri.seqK ?_
        refine Tri.run (G := gm_ring_Reach) tyOk mixed ?_
        conv => whnf
        refine ⟨by decide, ?_⟩
        conv => whnf
        refine ⟨⟨(a6090.length : Int), (len_map _ _).symm, ?_⟩⟩
        conv => whnf
        refine Tri.block ?_
        replace hv := bind_some hv
        obtain ⟨y6904, q6905, hv⟩ := hv
        refine Tri.cut (fun ex S' => ex = (.exit 2) ∧ Weak S' ⟨73, 0, ofRegs [(5, .fn (.func 50) [] [.ptr 0 0]), (6, .mp 1), (7, .mp 2), (8, .ptr 3 0), (9, .v (.int .i64 1))], [.var 25 [.sl (List.map encHold l.Held), .sl (List.map encClaim l.Queue)], .ext (mapI Try.prog 3 4 y6904.1), .ext (mapI Try.prog 3 4 y6904.2), .var 71 [.sl (List.map (encI .i64) a6089), .sl (List.map (encI .i64) a6090)]]⟩) ?_ ?_
        · refine Tri.loopF (fun (s6906 : Int × (List Int) × (List Int)) => (⟨73, 0, ofRegs [(5, .fn (.func 50) [] [.ptr 0 0]), (6, .mp 1), (7, .mp 2), (8, .ptr 3 0), (9, .v (.int .i64 1)), (30, .sl (List.map (encI .i64) a6090)), (31, .v (.int .i64 (a6090.length : Int))), (32, .v (.int .i64 s6906.1))], [.var 25 [.sl (List.map encHold l.Held), .sl (List.map encClaim l.Queue)], .ext (mapI Try.prog 3 4 s6906.2.1), .ext (mapI Try.prog 3 4 s6906.2.2), .var 71 [.sl (List.map (encI .i64) a6089), .sl (List.map (encI .i64) a6090)]]⟩ : St)) q6905 (weak_fin _ rfl rfl rfl (.cons (.same rfl) (.cons (.same rfl) (.cons (.same rfl) (.cons (.same rfl) (LeH.rest))))) (.cons (.one (.same rfl)) (.cons (.one (.same rfl)) (.cons (.one (.same rfl)) (.cons (.one (.same rfl)) (.cons (.one (.same rfl)) (.cons (.one (.same rfl)) (.cons (.one (.same rfl)) (.cons (.one (.same rfl)) (.nil))))))))) rfl rfl) ?_
          rintro ⟨a6901, a6902, a6903⟩ v6907 hv r6908
          have hv : ring_Reach_l97 a6090 a6901 a6902 a6903 = some v6907 := hv
          unfold ring_Reach_l97 at hv
          dsimp only
          refine Tri.seqK ?_
          refine Tri.run (G := gm_ring_Reach) tyOk mixed ?_
          conv => whnf
          refine Tri.seqK ?_
          refine Tri.cond rfl (fun c6910 => ?_) (fun c6910 => ?_)
          · replace hv := if_t c6910 hv
            refine Tri.run (G := gm_ring_Reach) tyOk mixed ?_
            conv => whnf
            refine Tri.seqK ?_
            replace hv := bind_some hv
            obtain ⟨y6923, q6924, hv⟩ := hv
            refine Tri.cut (fun ex S' => ex = .normal ∧ Weak S' ⟨73, 0, ofRegs [(5, .fn (.func 50) [] [.ptr 0 0]), (6, .mp 1), (7, .mp 2), (8, .ptr 3 0), (9, .v (.int .i64 1)), (30, .sl (List.map (encI .i64) a6090)), (31, .v (.int .i64 (a6090.length : Int))), (32, .v (.int .i64 a6901))], [.var 25 [.sl (List.map encHold l.Held), .sl (List.map encClaim l.Queue)], .ext (mapI Try.prog 3 4 y6923.1), .ext (mapI Try.prog 3 4 y6923.2), .var 71 [.sl (List.map (encI .i64) a6089), .sl (List.map (encI .i64) a6090)]]⟩) ?_ ?_
            · refine Tri.block ?_
              refine Tri.seqK ?_
              refine Tri.run (G := gm_ring_Reach) tyOk mixed ?_
              conv => whnf
              replace q6924 := bind_some q6924
              obtain ⟨x6925, q6926, q6924⟩ := q6924
              refine ⟨(ix_some q6926).1, ?_⟩
              conv => whnf
              refine ⟨⟨_, map_get (encI .i64) (ix_some q6926).2, ?_⟩⟩
              conv => whnf
              refine ⟨rfl, ?_⟩
              conv => whnf
              refine Tri.seqK ?_
              refine Tri.run (G := gm_ring_Reach) tyOk mixed ?_
              conv => whnf
              replace q6924 := need_some q6924
              obtain ⟨p6927, q6924⟩ := q6924
              refine OpP.get rfl rfl rfl rfl rfl Try.underlying70 Try.underlying3 Try.underlying4 Try.zeroValue4 p6927 ?_
              conv => whnf
              refine Tri.cond rfl (fun c6928 => ?_) (fun c6928 => ?_)
              · replace q6924 := if_t c6928 q6924
                refine Tri.run (G := gm_ring_Reach) tyOk mixed ?_
                conv => whnf
                replace q6924 := need_some q6924
                obtain ⟨p6929, q6924⟩ := q6924
                refine OpP.set rfl rfl rfl rfl rfl rfl Try.underlying70 Try.underlying3 Try.underlying4 p6929 ?_
                conv => whnf
                replace q6924 := need_some q6924
                obtain ⟨p6930, q6924⟩ := q6924
                refine OpP.set rfl rfl rfl rfl rfl rfl Try.underlying70 Try.underlying3 Try.underlying4 p6930 ?_
                conv => whnf
                cases q6924
                exact ⟨rfl, weak_fin _ rfl rfl rfl (.cons (.same rfl) (.cons (.same rfl) (.cons (.same rfl) (.cons (.same rfl) (LeH.rest))))) (.cons (.one (.same rfl)) (.cons (.one (.same rfl)) (.cons (.one (.same rfl)) (.cons (.one (.same rfl)) (.cons (.one (.same rfl)) (.cons (.one (.same rfl)) (.cons (.one (.same rfl)) (.cons (.one (.same rfl)) (.nil))))))))) rfl rfl⟩
              · replace q6924 := if_f c6928 q6924
                refine Tri.run (G := gm_ring_Reach) tyOk mixed ?_
                conv => whnf
                cases q6924
                exact ⟨rfl, weak_fin _ rfl rfl rfl (.cons (.same rfl) (.cons (.same rfl) (.cons (.same rfl) (.cons (.same rfl) (LeH.rest))))) (.cons (.one (.same rfl)) (.cons (.one (.same rfl)) (.cons (.one (.same rfl)) (.cons (.one (.same rfl)) (.cons (.one (.same rfl)) (.cons (.one (.same rfl)) (.cons (.one (.same rfl)) (.cons (.one (.same rfl)) (.nil))))))))) rfl rfl⟩
            · rintro ex S' ⟨rfl, w6931⟩
              conv => whnf
              refine Tri.weak w6931 ?_
              refine Tri.run (G := gm_ring_Reach) tyOk mixed ?_
              conv => whnf
              cases hv
              exact ⟨_, rfl, weak_fin _ rfl rfl rfl (.cons (.same rfl) (.cons (.same rfl) (.cons (.same rfl) (.cons (.same rfl) (LeH.rest))))) (.cons (.one (.same rfl)) (.cons (.one (.same rfl)) (.cons (.one (.same rfl)) (.cons (.one (.same rfl)) (.cons (.one (.same rfl)) (.cons (.one (.same rfl)) (.cons (.one (.same rfl)) (.cons (.one (.same rfl)) (.nil))))))))) rfl rfl⟩
          · replace hv := if_f c6910 hv
            refine Tri.run (G := gm_ring_Reach) tyOk mixed ?_
            conv => whnf
            cases hv
            obtain rfl := r6908 _ rfl
            exact ⟨rfl, weak_fin _ rfl rfl rfl (.cons (.same rfl) (.cons (.same rfl) (.cons (.same rfl) (.cons (.same rfl) (LeH.rest))))) (.cons (.one (.same rfl)) (.cons (.one (.same rfl)) (.cons (.one (.same rfl)) (.cons (.one (.same rfl)) (.cons (.one (.same rfl)) (.nil)))))) rfl rfl⟩
        · rintro ex S' ⟨rfl, w6932⟩
          conv => whnf
          refine Tri.weak w6932 ?_
          refine Tri.seqK ?_
          refine Tri.run (G := gm_ring_Reach) tyOk mixed ?_
          conv => whnf
          refine ⟨by decide, ?_⟩
          conv => whnf
          refine Tri.seqK ?_
          refine Tri.run (G := gm_ring_Reach) tyOk mixed ?_
          conv => whnf
          refine keys_52 ?_
          conv => whnf
          replace hv := need_some hv
          obtain ⟨p6933, hv⟩ := hv
          refine sorted_51 rfl rfl p6933 ?_
          conv => whnf
          refine ⟨by first | (simp; done) | (simp only [List.length_map, List.length_append, List.length_take, List.length_drop, List.length_replicate, List.length_set, List.length_mergeSort]; omega), ?_⟩
          conv => whnf
          refine ⟨⟨((List.mergeSort y6904.2 leI).length : Int), by simp, ?_⟩⟩
          conv => whnf
          refine Tri.block ?_
          replace hv := bind_some hv
          obtain ⟨y6973, q6974, hv⟩ := hv
          refine Tri.cut (fun ex S' => ex = (.exit 4) ∧ Weak S' ⟨73, 0, ofRegs [(5, .fn (.func 50) [] [.ptr 0 0]), (6, .mp 1), (7, .mp 2), (8, .ptr 3 0), (9, .v (.int .i64 1))], [.var 25 [.sl (List.map encHold l.Held), .sl (List.map encClaim l.Queue)], .ext (mapI Try.prog 3 4 y6904.1), .ext (mapI Try.prog 3 4 y6973.1), .var 71 [.row 6 ((List.map (encI .i64) y6973.2).length), .sl (List.map (encI .i64) a6090)], .gone, .gone, .row 3 1 (List.map (encI .i64) y6973.2)]⟩) ?_ ?_
          · refine Tri.loopF (fun (s6975 : Int × (List Int) × (List Int)) => (⟨73, 0, ofRegs [(5, .fn (.func 50) [] [.ptr 0 0]), (6, .mp 1), (7, .mp 2), (8, .ptr 3 0), (9, .v (.int .i64 1)), (50, .row 5 ((List.map (encI .i64) (List.mergeSort y6904.2 leI)).length)), (51, .v (.int .i64 ((List.mergeSort y6904.2 leI).length : Int))), (52, .v (.int .i64 s6975.1))], [.var 25 [.sl (List.map encHold l.Held), .sl (List.map encClaim l.Queue)], .ext (mapI Try.prog 3 4 y6904.1), .ext (mapI Try.prog 3 4 s6975.2.1), .var 71 [.row 6 ((List.map (encI .i64) s6975.2.2).length), .sl (List.map (encI .i64) a6090)], .gone, .row 3 1 (List.map (encI .i64) (List.mergeSort y6904.2 leI)), .row 3 1 (List.map (encI .i64) s6975.2.2)]⟩ : St)) q6974 (Weak.trans (weak_nilcell 3 0 3 1 rfl rfl) (weak_fin _ rfl rfl rfl (.cons (.same rfl) (.cons (.same rfl) (.cons (.same rfl) (.cons (.var (.cons (.same (show (.row 6 0 : AV) = (.row 6 ((List.map (encI .i64) []).length) : AV) from congrArg (AV.row 6) (by simp))) (.cons (.same rfl) (.nil)))) (.cons (.gone) (.cons (.same rfl) (.cons (.same rfl) (LeH.rest)))))))) (.cons (.one (.same rfl)) (.cons (.one (.same rfl)) (.cons (.one (.same rfl)) (.cons (.one (.same rfl)) (.cons (.one (.same rfl)) (.cons (.one (.same (show (.row 5 ((List.mergeSort y6904.2 leI).length) : AV) = (.row 5 ((List.map (encI .i64) (List.mergeSort y6904.2 leI)).length) : AV) from congrArg (AV.row 5) (by simp)))) (.cons (.one (.same rfl)) (.cons (.one (.same rfl)) (.nil))))))))) rfl rfl)) ?_
            rintro ⟨a6970, a6971, a6972⟩ v6976 hv r6977
            have hv : ring_Reach_l98 l y6904 a6970 a6971 a6972 = some v6976 := hv
            unfold ring_Reach_l98 at hv
            dsimp only
            refine Tri.seqK ?_
            refine Tri.run (G := gm_ring_Reach) tyOk mixed ?_
            conv => whnf
            refine Tri.seqK ?_
            refine Tri.cond rfl (fun c6979 => ?_) (fun c6979 => ?_)
            · replace hv := if_t c6979 hv
              refine Tri.run (G := gm_ring_Reach) tyOk mixed ?_
              conv => whnf
              refine Tri.seqK ?_
              refine Tri.block ?_
              refine Tri.seqK ?_
              refine Tri.run (G := gm_ring_Reach) tyOk mixed ?_
              conv => whnf
              replace hv := bind_some hv
              obtain ⟨x6980, q6981, hv⟩ := hv
              refine ⟨⟨rfl, (ix_lt q6981).1, by have := ix_lt q6981; simp only [List.length_map, List.length_set, List.length_cons, List.length_nil] at *; omega⟩, ?_⟩
              conv => whnf
              refine ⟨rfl, ?_⟩
              conv => whnf
              refine ⟨⟨_, map_get (encI .i64) (ix_some q6981).2, ?_⟩⟩
              conv => whnf
              refine Tri.seqK ?_
              refine Tri.run (G := gm_ring_Reach) tyOk mixed ?_
              conv => whnf
              replace hv := need_some hv
              obtain ⟨p6982, hv⟩ := hv
              refine OpP.del rfl rfl rfl rfl rfl Try.underlying70 Try.underlying3 Try.underlying4 p6982 ?_
              conv => whnf
              refine Tri.run (G := gm_ring_Reach) tyOk mixed ?_
              conv => whnf
              refine Draw.one 11 (.take 0 (.take 1 (.take 2 (.take 3 (.take 4 (.take 5 (.take 6 (.take 7 (.alt 8 (.alt 9 (.take 10 (.fin)) (.nil)) (.nil)))))))))) [0] (by kernel_rfl) ?_
              conv => whnf
              refine ⟨by decide, ?_⟩
              conv => whnf
              refine ⟨?_, ?_⟩
              · conv => whnf
                replace hv := bind_some hv
                obtain ⟨y6986, q6987, hv⟩ := hv
                refine CallP.use (ring_Reach_1_walk x6980 l y6986 q6987) [0] rfl rfl rfl rfl rfl rfl rfl rfl rfl ?_
                conv => whnf
                refine ⟨?_, ?_⟩
                · conv => whnf
                  refine ⟨rfl, ?_⟩
                  conv => whnf
                  refine ⟨map_len (f := (encI .i64)) (n := 1) (fun _ => rfl) _, ?_⟩
                  conv => whnf
                  replace hv := need_some hv
                  obtain ⟨p6988, hv⟩ := hv
                  refine ⟨by simp only [List.length_map]; exact p6988, ?_⟩
                  conv => whnf
                  refine ⟨⟨List.map (encI .i64) (a6972 ++ y6986), map_app (encI .i64) _ _ rfl rfl, ?_⟩⟩
                  conv => whnf
                  refine ⟨by decide, ?_⟩
                  conv => whnf
                  refine Tri.run (G := gm_ring_Reach) tyOk mixed ?_
                  conv => whnf
                  cases hv
                  exact ⟨_, rfl, weak_fin _ rfl rfl rfl (.cons (.same rfl) (.cons (.same rfl) (.cons (.same rfl) (.cons (.same rfl) (.cons (.same rfl) (.cons (.same rfl) (.cons (.same rfl) (LeH.rest)))))))) (.cons (.one (.same rfl)) (.cons (.one (.same rfl)) (.cons (.one (.same rfl)) (.cons (.one (.same rfl)) (.cons (.one (.same rfl)) (.cons (.one (.same rfl)) (.cons (.one (.same rfl)) (.cons (.one (.same rfl)) (.nil))))))))) rfl rfl⟩
                · conv => whnf
                  trivial
              · conv => whnf
                trivial
            · replace hv := if_f c6979 hv
              refine Tri.run (G := gm_ring_Reach) tyOk mixed ?_
              conv => whnf
              cases hv
              obtain rfl := r6977 _ rfl
              exact ⟨rfl, weak_fin _ rfl rfl rfl (.cons (.same rfl) (.cons (.same rfl) (.cons (.same rfl) (.cons (.same rfl) (.cons (.same rfl) (.cons (.gone) (.cons (.same rfl) (LeH.rest)))))))) (.cons (.one (.same rfl)) (.cons (.one (.same rfl)) (.cons (.one (.same rfl)) (.cons (.one (.same rfl)) (.cons (.one (.same rfl)) (.nil)))))) rfl rfl⟩
          · rintro ex S' ⟨rfl, w6989⟩
            conv => whnf
            refine Tri.weak w6989 ?_
            refine Tri.run (G := gm_ring_Reach) tyOk mixed ?_
            conv => whnf
            cases hv
            exact ⟨_, rfl, Weak.trans (weak_freeze 6 rfl) (weak_fin _ rfl rfl rfl (.cons (.same rfl) (.cons (.same rfl) (.cons (.same rfl) (.cons (.var (.cons (.frz rfl (rfl)) (.cons (.same rfl) (.nil)))) (LeH.rest))))) (.cons (.one (.same rfl)) (.cons (.one (.same rfl)) (.cons (.one (.same rfl)) (.cons (.one (.same rfl)) (.cons (.one (.same rfl)) (.nil)))))) rfl rfl)⟩
      · dsimp only at hv
        conv => whnf
        cases hv
        obtain rfl := r6095 _ rfl
        exact ⟨rfl, Weak.trans w6113 (weak_fin _ rfl rfl rfl (.cons (.same rfl) (.cons (.same rfl) (LeH.rest))) (.cons (.one (.same rfl)) (.nil)) rfl rfl)⟩
  · rintro ex S' ⟨rfl, w6990⟩
    conv => whnf
    refine Tri.weak w6990 ?_
    refine Tri.seqK ?_
    refine Tri.run (G := gm_ring_Reach) tyOk mixed ?_
    conv => whnf
    refine keys_52 ?_
    conv => whnf
    replace h := need_some h
    obtain ⟨p6991, h⟩ := h
    refine sorted_51 rfl rfl p6991 ?_
    conv => whnf
    refine Tri.run (G := gm_ring_Reach) tyOk mixed ?_
    conv => whnf
    refine fin_here ?_
    conv => whnf
    refine ⟨by first | (simp; done) | (simp only [List.length_map, List.length_append, List.length_take, List.length_drop, List.length_replicate, List.length_set, List.length_mergeSort]; omega), ?_⟩
    conv => whnf
    cases h
    rfl
noncomputable def slices_Index_int_l2 (s : (List Int)) (v : Int) (a52 : Int) : Option ((Int) ⊕ ((Int) ⊕ (Unit))) :=
  if (decide (a52 < (s.length : Int))) then
    (ix s a52).bind fun x65 =>
    if (decide (v = x65)) then
      some (.inr (.inl a52))
    else
      some (.inl (IntKind.i64.wrap (a52 + 1)))
  else
    some (.inr (.inr ()))
noncomputable def slices_Index_int (s : (List Int)) (v : Int) : Option (Int) :=
  (loop (fun (s57 : Int) => slices_Index_int_l2 s v s57) (0 : Int)).bind fun (y53 : (Int) ⊕ (Unit)) =>
  match y53 with
  | (.inl v55) =>
    some v55
  | (.inr v56) =>
    some ((-1) : Int)
def gm_slices_Index_int : Gm := ⟨tys, [], [], []⟩
theorem slices_Index_int_walk (s : (List Int)) (v : Int) (r : Int) (h : slices_Index_int s v = some r) : PureP Try.prog 83 [.sl (List.map (encI .i64) s), .v (.int .i64 v)] (fun a => a = .v (.int .i64 r)) := by
  unfold slices_Index_int at h
  refine pureW (G := gm_slices_Index_int) tyOk Try.func83 rfl (by kernel_rfl) (by simp [Try.f83]) ?_
  refine Tri.seqK ?_
  refine Tri.run (G := gm_slices_Index_int) tyOk mixed ?_
  conv => whnf
  refine Tri.seqK ?_
  refine Tri.seqK ?_
  refine Tri.run (G := gm_slices_Index_int) tyOk mixed ?_
  conv => whnf
  refine ⟨⟨(s.length : Int), (len_map _ _).symm, ?_⟩⟩
  conv => whnf
  refine Tri.block ?_
  replace h := bind_some h
  obtain ⟨y53, q54, h⟩ := h
  refine Tri.cut (fun ex S' => (∃ v55 : Int, y53 = (.inl v55) ∧ ex = .ret ∧ Weak S' ⟨19, 0, ofRegs [(4, .v (.int .i64 v55))], []⟩) ∨ (∃ v56 : Unit, y53 = (.inr v56) ∧ ex = (.exit 0) ∧ Weak S' ⟨19, 0, ofRegs [], []⟩)) ?_ ?_
  · refine Tri.loopF (fun (s57 : Int) => (⟨19, 0, ofRegs [(0, .sl (List.map (encI .i64) s)), (1, .v (.int .i64 v)), (7, .v (.int .i64 (s.length : Int))), (8, .v (.int .i64 s57))], []⟩ : St)) q54 (weak_fin _ rfl rfl rfl (LeH.rest) (.cons (.one (.same rfl)) (.cons (.one (.same rfl)) (.cons (.one (.same rfl)) (.cons (.one (.same rfl)) (.nil))))) rfl rfl) ?_
    rintro a52 v58 hv r59
    have hv : slices_Index_int_l2 s v a52 = some v58 := hv
    unfold slices_Index_int_l2 at hv
    refine Tri.seqK ?_
    refine Tri.run (G := gm_slices_Index_int) tyOk mixed ?_
    conv => whnf
    refine Tri.seqK ?_
    refine Tri.cond rfl (fun c61 => ?_) (fun c61 => ?_)
    · replace hv := if_t c61 hv
      refine Tri.run (G := gm_slices_Index_int) tyOk mixed ?_
      conv => whnf
      refine Tri.seqK ?_
      refine Tri.block ?_
      refine Tri.seqK ?_
      refine Tri.run (G := gm_slices_Index_int) tyOk mixed ?_
      conv => whnf
      refine Tri.seqK ?_
      refine Tri.run (G := gm_slices_Index_int) tyOk mixed ?_
      conv => whnf
      replace hv := bind_some hv
      obtain ⟨x65, q66, hv⟩ := hv
      refine ⟨(ix_some q66).1, ?_⟩
      conv => whnf
      refine ⟨⟨_, map_get (encI .i64) (ix_some q66).2, ?_⟩⟩
      conv => whnf
      refine ⟨rfl, ?_⟩
      conv => whnf
      refine Tri.cond rfl (fun c67 => ?_) (fun c67 => ?_)
      · replace hv := if_t c67 hv
        refine Tri.seqK ?_
        refine Tri.run (G := gm_slices_Index_int) tyOk mixed ?_
        conv => whnf
        refine Tri.run (G := gm_slices_Index_int) tyOk mixed ?_
        conv => whnf
        cases hv
        obtain rfl := r59 _ rfl
        exact Or.inl ⟨_, rfl, rfl, weak_fin _ rfl rfl rfl (LeH.rest) (.cons (.one (.same rfl)) (.nil)) rfl rfl⟩
      · replace hv := if_f c67 hv
        refine Tri.run (G := gm_slices_Index_int) tyOk mixed ?_
        conv => whnf
        refine Tri.run (G := gm_slices_Index_int) tyOk mixed ?_
        conv => whnf
        cases hv
        exact ⟨_, rfl, weak_fin _ rfl rfl rfl (LeH.rest) (.cons (.one (.same rfl)) (.cons (.one (.same rfl)) (.cons (.one (.same rfl)) (.cons (.one (.same rfl)) (.nil))))) rfl rfl⟩
    · replace hv := if_f c61 hv
      refine Tri.run (G := gm_slices_Index_int) tyOk mixed ?_
      conv => whnf
      cases hv
      obtain rfl := r59 _ rfl
      exact Or.inr (⟨_, rfl, rfl, weak_fin _ rfl rfl rfl (LeH.rest) (.nil) rfl rfl⟩)
  · rintro ex S' (⟨v55, rfl, rfl, w68⟩ | ⟨v56, rfl, rfl, w68⟩)
    · dsimp only at h
      conv => whnf
      refine fin_pre w68 ?_
      conv => whnf
      cases h
      rfl
    · dsimp only at h
      conv => whnf
      refine Tri.weak w68 ?_
      refine Tri.seqK ?_
      refine Tri.run (G := gm_slices_Index_int) tyOk mixed ?_
      conv => whnf
      refine Tri.run (G := gm_slices_Index_int) tyOk mixed ?_
      conv => whnf
      refine fin_here ?_
      conv => whnf
      cases h
      rfl
noncomputable def slices_Contains_int (s : (List Int)) (v : Int) : Option (Bool) :=
  (slices_Index_int s v).bind fun y1 =>
  some (decide (y1 ≥ 0))
def gm_slices_Contains_int : Gm := ⟨tys, [], [], []⟩
theorem slices_Contains_int_walk (s : (List Int)) (v : Int) (r : Bool) (h : slices_Contains_int s v = some r) : PureP Try.prog 54 [.sl (List.map (encI .i64) s), .v (.int .i64 v)] (fun a => a = .v (.bool r)) := by
  unfold slices_Contains_int at h
  refine pureW (G := gm_slices_Contains_int) tyOk Try.func54 rfl (by kernel_rfl) (by simp [Try.f54]) ?_
  refine Tri.seqK ?_
  refine Tri.run (G := gm_slices_Contains_int) tyOk mixed ?_
  conv => whnf
  refine Tri.seqK ?_
  refine Tri.run (G := gm_slices_Contains_int) tyOk mixed ?_
  conv => whnf
  replace h := bind_some h
  obtain ⟨y1, q2, h⟩ := h
  refine PureP.mono (slices_Index_int_walk s v y1 q2) ?_
  rintro _ rfl
  conv => whnf
  refine Tri.run (G := gm_slices_Contains_int) tyOk mixed ?_
  conv => whnf
  refine fin_here ?_
  conv => whnf
  cases h
  rfl
noncomputable def ring_Ring_1 (t : Int) (v : Locks) (v2 : Int) : Option (Bool) :=
  (ring_Reach v t).bind fun y13 =>
  (slices_Contains_int y13 v2).bind fun y15 =>
  some (!y15)
def gm_ring_Ring_1 : Gm := ⟨tys, [], [(20, 3, 1)], []⟩
theorem ring_Ring_1_walk (t : Int) (v : Locks) (v2 : Int) (r : Bool) (h : ring_Ring_1 t v v2 = some r) : CallP Try.prog 56 [.var 25 [.sl (List.map encHold v.Held), .sl (List.map encClaim v.Queue)], .var 3 [.v (.int .i64 v2)]] [.v (.int .i64 t), .ptr 0 0, .ptr 1 0] (fun a H' => a = .v (.bool r) ∧ H'.take ([.var 25 [.sl (List.map encHold v.Held), .sl (List.map encClaim v.Queue)], .var 3 [.v (.int .i64 v2)]] : List Ob).length = [.var 25 [.sl (List.map encHold v.Held), .sl (List.map encClaim v.Queue)], .var 3 [.v (.int .i64 v2)]]) := by
  unfold ring_Ring_1 at h
  refine callW (G := gm_ring_Ring_1) tyOk Try.func56 rfl (by kernel_rfl) (by simp [Try.f56]) ?_
  refine Tri.seqK ?_
  refine Tri.run (G := gm_ring_Ring_1) tyOk mixed ?_
  conv => whnf
  refine Tri.seqK ?_
  refine Tri.run (G := gm_ring_Ring_1) tyOk mixed ?_
  conv => whnf
  refine Draw.one 7 (.take 0 (.take 1 (.take 3 (.alt 2 (.alt 4 (.take 5 (.take 6 (.fin))) (.nil)) (.nil))))) [] (by kernel_rfl) ?_
  conv => whnf
  refine ⟨?_, ?_⟩
  · conv => whnf
    replace h := bind_some h
    obtain ⟨y13, q14, h⟩ := h
    refine FreshP.mono (ring_Reach_walk v t y13 q14) ?_
    rintro _ rfl
    conv => whnf
    refine ⟨?_, ?_⟩
    · conv => whnf
      refine ⟨rfl, ?_⟩
      conv => whnf
      replace h := bind_some h
      obtain ⟨y15, q16, h⟩ := h
      refine PureP.mono (slices_Contains_int_walk y13 v2 y15 q16) ?_
      rintro _ rfl
      conv => whnf
      refine Tri.run (G := gm_ring_Ring_1) tyOk mixed ?_
      conv => whnf
      refine fin_pre (S' := ⟨11, 2, ofRegs [(4, .v (.bool (!y15)))], [.var 25 [.sl (List.map encHold v.Held), .sl (List.map encClaim v.Queue)], .var 3 [.v (.int .i64 v2)]]⟩) (weak_fin _ rfl rfl rfl (.cons (.same rfl) (.cons (.same rfl) (LeH.rest))) (.cons (.one (.same rfl)) (.nil)) rfl rfl) ?_
      conv => whnf
      cases h
      exact ⟨rfl, rfl⟩
    · conv => whnf
      trivial
  · conv => whnf
    trivial
noncomputable def slices_IndexFunc_int__ring_Ring_1_l4 (l : (List Int)) (v : Locks) (v2 : Int) (a164 : Int) : Option ((Int) ⊕ ((Int) ⊕ (Unit))) :=
  if (decide (a164 < (l.length : Int))) then
    (ix l a164).bind fun x179 =>
    (ring_Ring_1 x179 v v2).bind fun y181 =>
    if y181 then
      some (.inr (.inl a164))
    else
      some (.inl (IntKind.i64.wrap (a164 + 1)))
  else
    some (.inr (.inr ()))
noncomputable def slices_IndexFunc_int__ring_Ring_1 (l : (List Int)) (v : Locks) (v2 : Int) : Option (Int) :=
  (loop (fun (s169 : Int) => slices_IndexFunc_int__ring_Ring_1_l4 l v v2 s169) (0 : Int)).bind fun (y165 : (Int) ⊕ (Unit)) =>
  match y165 with
  | (.inl v167) =>
    some v167
  | (.inr v168) =>
    some (-1)
def gm_slices_IndexFunc_int__ring_Ring_1 : Gm := ⟨tys, [56], [], []⟩
theorem slices_IndexFunc_int__ring_Ring_1_walk (l : (List Int)) (v : Locks) (v2 : Int) (r : Int) (h : slices_IndexFunc_int__ring_Ring_1 l v v2 = some r) : CallP Try.prog 84 [.row 3 1 (List.map (encI .i64) l), .var 25 [.sl (List.map encHold v.Held), .sl (List.map encClaim v.Queue)], .var 3 [.v (.int .i64 v2)]] [.row 0 ((List.map (encI .i64) l).length), .fn (.func 56) [] [.ptr 1 0, .ptr 2 0]] (fun a H' => a = .v (.int .i64 r) ∧ H'.take ([.row 3 1 (List.map (encI .i64) l), .var 25 [.sl (List.map encHold v.Held), .sl (List.map encClaim v.Queue)], .var 3 [.v (.int .i64 v2)]] : List Ob).length = [.row 3 1 (List.map (encI .i64) l), .var 25 [.sl (List.map encHold v.Held), .sl (List.map encClaim v.Queue)], .var 3 [.v (.int .i64 v2)]]) := by
  unfold slices_IndexFunc_int__ring_Ring_1 at h
  refine callW (G := gm_slices_IndexFunc_int__ring_Ring_1) tyOk Try.func84 rfl (by kernel_rfl) (by simp [Try.f84]) ?_
  refine Tri.seqK ?_
  refine Tri.run (G := gm_slices_IndexFunc_int__ring_Ring_1) tyOk mixed ?_
  conv => whnf
  refine Tri.seqK ?_
  refine Tri.seqK ?_
  refine Tri.run (G := gm_slices_IndexFunc_int__ring_Ring_1) tyOk mixed ?_
  conv => whnf
  refine ⟨rfl, ?_⟩
  conv => whnf
  refine ⟨⟨(l.length : Int), by simp, ?_⟩⟩
  conv => whnf
  refine Tri.block ?_
  replace h := bind_some h
  obtain ⟨y165, q166, h⟩ := h
  refine Tri.cut (fun ex S' => (∃ v167 : Int, y165 = (.inl v167) ∧ ex = .ret ∧ Weak S' ⟨19, 3, ofRegs [(4, .v (.int .i64 v167))], [.row 3 1 (List.map (encI .i64) l), .var 25 [.sl (List.map encHold v.Held), .sl (List.map encClaim v.Queue)], .var 3 [.v (.int .i64 v2)]]⟩) ∨ (∃ v168 : Unit, y165 = (.inr v168) ∧ ex = (.exit 0) ∧ Weak S' ⟨19, 3, ofRegs [], [.row 3 1 (List.map (encI .i64) l), .var 25 [.sl (List.map encHold v.Held), .sl (List.map encClaim v.Queue)], .var 3 [.v (.int .i64 v2)]]⟩)) ?_ ?_
  · refine Tri.loopF (fun (s169 : Int) => (⟨19, 3, ofRegs [(0, .row 0 ((List.map (encI .i64) l).length)), (1, .fn (.func 56) [] [.ptr 1 0, .ptr 2 0]), (7, .v (.int .i64 (l.length : Int))), (8, .v (.int .i64 s169))], [.row 3 1 (List.map (encI .i64) l), .var 25 [.sl (List.map encHold v.Held), .sl (List.map encClaim v.Queue)], .var 3 [.v (.int .i64 v2)]]⟩ : St)) q166 (weak_fin _ rfl rfl rfl (.cons (.same rfl) (.cons (.same rfl) (.cons (.same rfl) (LeH.rest)))) (.cons (.one (.same rfl)) (.cons (.one (.same rfl)) (.cons (.one (.same rfl)) (.cons (.one (.same rfl)) (.nil))))) rfl rfl) ?_
    rintro a164 v170 hv r171
    have hv : slices_IndexFunc_int__ring_Ring_1_l4 l v v2 a164 = some v170 := hv
    unfold slices_IndexFunc_int__ring_Ring_1_l4 at hv
    refine Tri.seqK ?_
    refine Tri.run (G := gm_slices_IndexFunc_int__ring_Ring_1) tyOk mixed ?_
    conv => whnf
    refine Tri.seqK ?_
    refine Tri.cond rfl (fun c173 => ?_) (fun c173 => ?_)
    · replace hv := if_t c173 hv
      refine Tri.run (G := gm_slices_IndexFunc_int__ring_Ring_1) tyOk mixed ?_
      conv => whnf
      refine Tri.seqK ?_
      refine Tri.block ?_
      refine Tri.seqK ?_
      refine Tri.run (G := gm_slices_IndexFunc_int__ring_Ring_1) tyOk mixed ?_
      conv => whnf
      refine Tri.seqK ?_
      refine Tri.run (G := gm_slices_IndexFunc_int__ring_Ring_1) tyOk mixed ?_
      conv => whnf
      replace hv := bind_some hv
      obtain ⟨x179, q180, hv⟩ := hv
      refine ⟨⟨rfl, (ix_lt q180).1, by have := ix_lt q180; simp only [List.length_map, List.length_set, List.length_cons, List.length_nil] at *; omega⟩, ?_⟩
      conv => whnf
      refine ⟨rfl, ?_⟩
      conv => whnf
      refine ⟨⟨_, map_get (encI .i64) (ix_some q180).2, ?_⟩⟩
      conv => whnf
      replace hv := bind_some hv
      obtain ⟨y181, q182, hv⟩ := hv
      refine CallP.use (ring_Ring_1_walk x179 v v2 y181 q182) [1, 2] rfl rfl rfl rfl rfl rfl rfl rfl rfl ?_
      conv => whnf
      refine Tri.cond rfl (fun c183 => ?_) (fun c183 => ?_)
      · replace hv := if_t c183 hv
        refine Tri.seqK ?_
        refine Tri.run (G := gm_slices_IndexFunc_int__ring_Ring_1) tyOk mixed ?_
        conv => whnf
        refine Tri.run (G := gm_slices_IndexFunc_int__ring_Ring_1) tyOk mixed ?_
        conv => whnf
        cases hv
        obtain rfl := r171 _ rfl
        exact Or.inl ⟨_, rfl, rfl, weak_fin _ rfl rfl rfl (.cons (.same rfl) (.cons (.same rfl) (.cons (.same rfl) (LeH.rest)))) (.cons (.one (.same rfl)) (.nil)) rfl rfl⟩
      · replace hv := if_f c183 hv
        refine Tri.run (G := gm_slices_IndexFunc_int__ring_Ring_1) tyOk mixed ?_
        conv => whnf
        refine Tri.run (G := gm_slices_IndexFunc_int__ring_Ring_1) tyOk mixed ?_
        conv => whnf
        cases hv
        exact ⟨_, rfl, weak_fin _ rfl rfl rfl (.cons (.same rfl) (.cons (.same rfl) (.cons (.same rfl) (LeH.rest)))) (.cons (.one (.same rfl)) (.cons (.one (.same rfl)) (.cons (.one (.same rfl)) (.cons (.one (.same rfl)) (.nil))))) rfl rfl⟩
    · replace hv := if_f c173 hv
      refine Tri.run (G := gm_slices_IndexFunc_int__ring_Ring_1) tyOk mixed ?_
      conv => whnf
      cases hv
      obtain rfl := r171 _ rfl
      exact Or.inr (⟨_, rfl, rfl, weak_fin _ rfl rfl rfl (.cons (.same rfl) (.cons (.same rfl) (.cons (.same rfl) (LeH.rest)))) (.nil) rfl rfl⟩)
  · rintro ex S' (⟨v167, rfl, rfl, w184⟩ | ⟨v168, rfl, rfl, w184⟩)
    · dsimp only at h
      conv => whnf
      refine fin_pre (S' := ⟨19, 3, ofRegs [(4, .v (.int .i64 v167))], [.row 3 1 (List.map (encI .i64) l), .var 25 [.sl (List.map encHold v.Held), .sl (List.map encClaim v.Queue)], .var 3 [.v (.int .i64 v2)]]⟩) (Weak.trans w184 (weak_fin _ rfl rfl rfl (.cons (.same rfl) (.cons (.same rfl) (.cons (.same rfl) (LeH.rest)))) (.cons (.one (.same rfl)) (.nil)) rfl rfl)) ?_
      conv => whnf
      cases h
      exact ⟨rfl, rfl⟩
    · dsimp only at h
      conv => whnf
      refine Tri.weak w184 ?_
      refine Tri.seqK ?_
      refine Tri.run (G := gm_slices_IndexFunc_int__ring_Ring_1) tyOk mixed ?_
      conv => whnf
      refine Tri.run (G := gm_slices_IndexFunc_int__ring_Ring_1) tyOk mixed ?_
      conv => whnf
      refine fin_pre (S' := ⟨19, 3, ofRegs [(4, .v (.int .i64 (-1)))], [.row 3 1 (List.map (encI .i64) l), .var 25 [.sl (List.map encHold v.Held), .sl (List.map encClaim v.Queue)], .var 3 [.v (.int .i64 v2)]]⟩) (weak_fin _ rfl rfl rfl (.cons (.same rfl) (.cons (.same rfl) (.cons (.same rfl) (LeH.rest)))) (.cons (.one (.same rfl)) (.nil)) rfl rfl) ?_
      conv => whnf
      cases h
      exact ⟨rfl, rfl⟩
noncomputable def slices_DeleteFunc_int__ring_Ring_1_l4 (v : Locks) (v2 : Int) (a338 : Int) (a339 : Int) (a340 : (List Int)) : Option ((Int × Int × (List Int)) ⊕ (Int × (List Int))) :=
  if (decide (a339 < (a340.length : Int))) then
    (
      (ix a340 a339).bind fun x364 =>
      (ring_Ring_1 x364 v v2).bind fun y366 =>
      if (!y366) then
        (ix a340 a338).bind fun x369 =>
        some ((IntKind.i64.wrap (a338 + 1)), (List.set a340 (a338).toNat x364))
      else
        some (a338, a340)).bind fun (y362 : Int × (List Int)) =>
    some (.inl (y362.1, (IntKind.i64.wrap (a339 + 1)), y362.2))
  else
    some (.inr (a338, a340))
noncomputable def slices_DeleteFunc_int__ring_Ring_1 (l : (List Int)) (v : Locks) (v2 : Int) : Option ((List Int)) :=
  (slices_IndexFunc_int__ring_Ring_1 l v v2).bind fun y189 =>
  if (decide (y189 = (-1))) then
    some l
  else
    (loop (fun (s343 : Int × Int × (List Int)) => slices_DeleteFunc_int__ring_Ring_1_l4 v v2 s343.1 s343.2.1 s343.2.2) (y189, (IntKind.i64.wrap (y189 + 1)), l)).bind fun (y341 : Int × (List Int)) =>
    need (0 < y341.2.length) <|
    need (0 ≤ y341.1 ∧ y341.1 ≤ (y341.2.length : Int) ∧ (y341.2.length : Int) ≤ (y341.2.length : Int)) <|
    need (0 < (List.take ((y341.1).toNat) y341.2 ++ List.replicate (((((List.map (encI .i64) y341.2).length : Nat) : Int).toNat) - ((y341.1).toNat)) (0 : Int) ++ List.drop ((((List.map (encI .i64) y341.2).length : Nat) : Int).toNat) y341.2).length) <|
    need (0 ≤ (0 : Int) ∧ 0 ≤ y341.1 ∧ y341.1 ≤ ((List.take ((y341.1).toNat) y341.2 ++ List.replicate (((((List.map (encI .i64) y341.2).length : Nat) : Int).toNat) - ((y341.1).toNat)) (0 : Int) ++ List.drop ((((List.map (encI .i64) y341.2).length : Nat) : Int).toNat) y341.2).length : Int)) <|
    some (List.drop ((0 : Int).toNat) (List.take ((y341.1).toNat) (List.take ((y341.1).toNat) y341.2 ++ List.replicate (((((List.map (encI .i64) y341.2).length : Nat) : Int).toNat) - ((y341.1).toNat)) (0 : Int) ++ List.drop ((((List.map (encI .i64) y341.2).length : Nat) : Int).toNat) y341.2)))
def gm_slices_DeleteFunc_int__ring_Ring_1 : Gm := ⟨tys, [56, 84], [], []⟩
theorem slices_DeleteFunc_int__ring_Ring_1_walk (l : (List Int)) (v : Locks) (v2 : Int) (r : (List Int)) (h : slices_DeleteFunc_int__ring_Ring_1 l v v2 = some r) : CallP Try.prog 55 [.row 3 1 (List.map (encI .i64) l), .var 25 [.sl (List.map encHold v.Held), .sl (List.map encClaim v.Queue)], .var 3 [.v (.int .i64 v2)]] [.row 0 ((List.map (encI .i64) l).length), .fn (.func 56) [] [.ptr 1 0, .ptr 2 0]] (fun a H' => a = .sl (List.map (encI .i64) r) ∧ H'.take ([.gone, .var 25 [.sl (List.map encHold v.Held), .sl (List.map encClaim v.Queue)], .var 3 [.v (.int .i64 v2)]] : List Ob).length = [.gone, .var 25 [.sl (List.map encHold v.Held), .sl (List.map encClaim v.Queue)], .var 3 [.v (.int .i64 v2)]]) := by
  unfold slices_DeleteFunc_int__ring_Ring_1 at h
  refine callW (G := gm_slices_DeleteFunc_int__ring_Ring_1) tyOk Try.func55 rfl (by kernel_rfl) (by simp [Try.f55]) ?_
  refine Tri.seqK ?_
  refine Tri.run (G := gm_slices_DeleteFunc_int__ring_Ring_1) tyOk mixed ?_
  conv => whnf
  refine Tri.seqK ?_
  refine Tri.run (G := gm_slices_DeleteFunc_int__ring_Ring_1) tyOk mixed ?_
  conv => whnf
  replace h := bind_some h
  obtain ⟨y189, q190, h⟩ := h
  refine CallP.use (slices_IndexFunc_int__ring_Ring_1_walk l v v2 y189 q190) [0, 1, 2] rfl rfl rfl rfl rfl rfl rfl rfl rfl ?_
  conv => whnf
  refine Tri.seqK ?_
  refine Tri.seqK ?_
  refine Tri.run (G := gm_slices_DeleteFunc_int__ring_Ring_1) tyOk mixed ?_
  conv => whnf
  refine Tri.cond rfl (fun c192 => ?_) (fun c192 => ?_)
  · replace h := if_t c192 h
    refine Tri.seqK ?_
    refine Tri.run (G := gm_slices_DeleteFunc_int__ring_Ring_1) tyOk mixed ?_
    conv => whnf
    refine Tri.run (G := gm_slices_DeleteFunc_int__ring_Ring_1) tyOk mixed ?_
    conv => whnf
    refine fin_pre (S' := ⟨42, 3, ofRegs [(4, .sl (List.map (encI .i64) l))], [.gone, .var 25 [.sl (List.map encHold v.Held), .sl (List.map encClaim v.Queue)], .var 3 [.v (.int .i64 v2)]]⟩) (Weak.trans (weak_freeze 0 rfl) (weak_fin _ rfl rfl rfl (.cons (.gone) (.cons (.same rfl) (.cons (.same rfl) (LeH.rest)))) (.cons (.one (.frz rfl (rfl))) (.nil)) rfl rfl)) ?_
    conv => whnf
    cases h
    exact ⟨rfl, rfl⟩
  · replace h := if_f c192 h
    refine Tri.run (G := gm_slices_DeleteFunc_int__ring_Ring_1) tyOk mixed ?_
    conv => whnf
    refine Tri.seqK ?_
    refine Tri.seqK ?_
    refine Tri.run (G := gm_slices_DeleteFunc_int__ring_Ring_1) tyOk mixed ?_
    conv => whnf
    refine Tri.block ?_
    replace h := bind_some h
    obtain ⟨y341, q342, h⟩ := h
    refine Tri.cut (fun ex S' => ex = (.exit 0) ∧ Weak S' ⟨42, 3, ofRegs [(0, .row 0 ((List.map (encI .i64) y341.2).length)), (5, .v (.int .i64 y341.1))], [.row 3 1 (List.map (encI .i64) y341.2), .var 25 [.sl (List.map encHold v.Held), .sl (List.map encClaim v.Queue)], .var 3 [.v (.int .i64 v2)]]⟩) ?_ ?_
    · refine Tri.loopF (fun (s343 : Int × Int × (List Int)) => (⟨42, 3, ofRegs [(0, .row 0 ((List.map (encI .i64) s343.2.2).length)), (1, .fn (.func 56) [] [.ptr 1 0, .ptr 2 0]), (5, .v (.int .i64 s343.1)), (6, .v (.int .i64 s343.2.1))], [.row 3 1 (List.map (encI .i64) s343.2.2), .var 25 [.sl (List.map encHold v.Held), .sl (List.map encClaim v.Queue)], .var 3 [.v (.int .i64 v2)]]⟩ : St)) q342 (weak_fin _ rfl rfl rfl (.cons (.same rfl) (.cons (.same rfl) (.cons (.same rfl) (LeH.rest)))) (.cons (.one (.same rfl)) (.cons (.one (.same rfl)) (.cons (.one (.same rfl)) (.cons (.one (.same rfl)) (.nil))))) rfl rfl) ?_
      rintro ⟨a338, a339, a340⟩ v344 hv r345
      have hv : slices_DeleteFunc_int__ring_Ring_1_l4 v v2 a338 a339 a340 = some v344 := hv
      unfold slices_DeleteFunc_int__ring_Ring_1_l4 at hv
      dsimp only
      refine Tri.seqK ?_
      refine Tri.seqK ?_
      refine Tri.run (G := gm_slices_DeleteFunc_int__ring_Ring_1) tyOk mixed ?_
      conv => whnf
      refine ⟨rfl, ?_⟩
      conv => whnf
      refine ⟨⟨(a340.length : Int), by simp, ?_⟩⟩
      conv => whnf
      refine Tri.cond rfl (fun c347 => ?_) (fun c347 => ?_)
      · replace hv := if_t c347 hv
        refine Tri.run (G := gm_slices_DeleteFunc_int__ring_Ring_1) tyOk mixed ?_
        conv => whnf
        refine Tri.seqK ?_
        replace hv := bind_some hv
        obtain ⟨y362, q363, hv⟩ := hv
        refine Tri.cut (fun ex S' => ex = .normal ∧ Weak S' ⟨42, 3, ofRegs [(0, .row 0 ((List.map (encI .i64) y362.2).length)), (1, .fn (.func 56) [] [.ptr 1 0, .ptr 2 0]), (5, .v (.int .i64 y362.1)), (6, .v (.int .i64 a339))], [.row 3 1 (List.map (encI .i64) y362.2), .var 25 [.sl (List.map encHold v.Held), .sl (List.map encClaim v.Queue)], .var 3 [.v (.int .i64 v2)]]⟩) ?_ ?_
        · refine Tri.block ?_
          refine Tri.seqK ?_
          refine Tri.run (G := gm_slices_DeleteFunc_int__ring_Ring_1) tyOk mixed ?_
          conv => whnf
          replace q363 := bind_some q363
          obtain ⟨x364, q365, q363⟩ := q363
          refine ⟨⟨rfl, (ix_lt q365).1, by have := ix_lt q365; simp only [List.length_map, List.length_set, List.length_cons, List.length_nil] at *; omega⟩, ?_⟩
          conv => whnf
          refine ⟨rfl, ?_⟩
          conv => whnf
          refine ⟨⟨_, map_get (encI .i64) (ix_some q365).2, ?_⟩⟩
          conv => whnf
          refine Tri.seqK ?_
          refine Tri.run (G := gm_slices_DeleteFunc_int__ring_Ring_1) tyOk mixed ?_
          conv => whnf
          replace q363 := bind_some q363
          obtain ⟨y366, q367, q363⟩ := q363
          refine CallP.use (ring_Ring_1_walk x364 v v2 y366 q367) [1, 2] rfl rfl rfl rfl rfl rfl rfl rfl rfl ?_
          conv => whnf
          refine Tri.cond rfl (fun c368 => ?_) (fun c368 => ?_)
          · replace q363 := if_t c368 q363
            refine Tri.seqK ?_
            refine Tri.run (G := gm_slices_DeleteFunc_int__ring_Ring_1) tyOk mixed ?_
            conv => whnf
            replace q363 := bind_some q363
            obtain ⟨x369, q370, q363⟩ := q363
            refine ⟨⟨rfl, (ix_lt q370).1, by have := ix_lt q370; simp only [List.length_map, List.length_set, List.length_cons, List.length_nil] at *; omega⟩, ?_⟩
            conv => whnf
            refine ⟨rfl, ?_⟩
            conv => whnf
            refine ⟨⟨_, map_get (encI .i64) (ix_some q370).2, ?_⟩⟩
            conv => whnf
            refine ⟨Nat.le_of_ble_eq_true rfl, ?_⟩
            conv => whnf
            refine ⟨⟨List.map (encI .i64) (List.set a340 (a338).toNat x364), map_set (encI .i64) _ _ _ rfl, ?_⟩⟩
            conv => whnf
            refine Tri.run (G := gm_slices_DeleteFunc_int__ring_Ring_1) tyOk mixed ?_
            conv => whnf
            cases q363
            exact ⟨rfl, weak_fin _ rfl rfl rfl (.cons (.same rfl) (.cons (.same rfl) (.cons (.same rfl) (LeH.rest)))) (.cons (.one (.same (show (.row 0 ((List.map (encI .i64) a340).length) : AV) = (.row 0 ((List.map (encI .i64) (List.set a340 (a338).toNat x364)).length) : AV) from congrArg (AV.row 0) (by simp)))) (.cons (.one (.same rfl)) (.cons (.one (.same rfl)) (.cons (.one (.same rfl)) (.nil))))) rfl rfl⟩
          · replace q363 := if_f c368 q363
            refine Tri.run (G := gm_slices_DeleteFunc_int__ring_Ring_1) tyOk mixed ?_
            conv => whnf
            cases q363
            exact ⟨rfl, weak_fin _ rfl rfl rfl (.cons (.same rfl) (.cons (.same rfl) (.cons (.same rfl) (LeH.rest)))) (.cons (.one (.same rfl)) (.cons (.one (.same rfl)) (.cons (.one (.same rfl)) (.cons (.one (.same rfl)) (.nil))))) rfl rfl⟩
        · rintro ex S' ⟨rfl, w371⟩
          conv => whnf
          refine Tri.weak w371 ?_
          refine Tri.run (G := gm_slices_DeleteFunc_int__ring_Ring_1) tyOk mixed ?_
          conv => whnf
          cases hv
          exact ⟨_, rfl, weak_fin _ rfl rfl rfl (.cons (.same rfl) (.cons (.same rfl) (.cons (.same rfl) (LeH.rest)))) (.cons (.one (.same rfl)) (.cons (.one (.same rfl)) (.cons (.one (.same rfl)) (.cons (.one (.same rfl)) (.nil))))) rfl rfl⟩
      · replace hv := if_f c347 hv
        refine Tri.run (G := gm_slices_DeleteFunc_int__ring_Ring_1) tyOk mixed ?_
        conv => whnf
        cases hv
        obtain rfl := r345 _ rfl
        exact ⟨rfl, weak_fin _ rfl rfl rfl (.cons (.same rfl) (.cons (.same rfl) (.cons (.same rfl) (LeH.rest)))) (.cons (.one (.same rfl)) (.cons (.one (.same rfl)) (.nil))) rfl rfl⟩
    · rintro ex S' ⟨rfl, w372⟩
      conv => whnf
      refine Tri.weak w372 ?_
      refine Tri.seqK ?_
      refine Tri.run (G := gm_slices_DeleteFunc_int__ring_Ring_1) tyOk mixed ?_
      conv => whnf
      replace h := need_some h
      obtain ⟨p373, h⟩ := h
      refine ⟨⟨rfl, by have := p373; simp only [List.length_map, List.length_append, List.length_take, List.length_drop, List.length_replicate, List.length_set] at *; omega⟩, ?_⟩
      conv => whnf
      replace h := need_some h
      obtain ⟨p374, h⟩ := h
      refine ⟨by have := p374; simp only [List.length_map, List.length_append, List.length_take, List.length_drop, List.length_replicate, List.length_set] at *; omega, ?_⟩
      conv => whnf
      refine ⟨rfl, ?_⟩
      conv => whnf
      refine ⟨⟨List.map (encI .i64) (List.take ((y341.1).toNat) y341.2 ++ List.replicate (((((List.map (encI .i64) y341.2).length : Nat) : Int).toNat) - ((y341.1).toNat)) (0 : Int) ++ List.drop ((((List.map (encI .i64) y341.2).length : Nat) : Int).toNat) y341.2), by rw [List.map_append, List.map_append, List.map_take, List.map_drop, List.map_replicate]; rfl, ?_⟩⟩
      conv => whnf
      refine Tri.seqK ?_
      refine Tri.run (G := gm_slices_DeleteFunc_int__ring_Ring_1) tyOk mixed ?_
      conv => whnf
      replace h := need_some h
      obtain ⟨p375, h⟩ := h
      refine ⟨⟨by first | (simp; done) | (simp only [List.length_map, List.length_append, List.length_take, List.length_drop, List.length_replicate, List.length_set, List.length_mergeSort]; omega), by have := p375; simp only [List.length_map, List.length_append, List.length_take, List.length_drop, List.length_replicate, List.length_set] at *; omega⟩, ?_⟩
      conv => whnf
      replace h := need_some h
      obtain ⟨p376, h⟩ := h
      refine ⟨by have := p376; simp only [List.length_map, List.length_append, List.length_take, List.length_drop, List.length_replicate, List.length_set] at *; omega, ?_⟩
      conv => whnf
      refine Tri.run (G := gm_slices_DeleteFunc_int__ring_Ring_1) tyOk mixed ?_
      conv => whnf
      refine fin_pre (S' := ⟨42, 3, ofRegs [(4, .sl (List.map (encI .i64) (List.drop ((0 : Int).toNat) (List.take ((y341.1).toNat) (List.take ((y341.1).toNat) y341.2 ++ List.replicate (((((List.map (encI .i64) y341.2).length : Nat) : Int).toNat) - ((y341.1).toNat)) (0 : Int) ++ List.drop ((((List.map (encI .i64) y341.2).length : Nat) : Int).toNat) y341.2)))))], [.gone, .var 25 [.sl (List.map encHold v.Held), .sl (List.map encClaim v.Queue)], .var 3 [.v (.int .i64 v2)]]⟩) (Weak.trans (weak_freeze 0 rfl) (weak_fin _ rfl rfl rfl (.cons (.gone) (.cons (.same rfl) (.cons (.same rfl) (LeH.rest)))) (.cons (.one (.frzvw rfl (by first | (simp; done) | (simp only [List.length_map, List.length_append, List.length_take, List.length_drop, List.length_replicate, List.length_set, List.length_mergeSort]; omega)) (by rw [List.map_drop, List.map_take]))) (.nil)) rfl rfl)) ?_
      conv => whnf
      cases h
      exact ⟨rfl, rfl⟩
noncomputable def ring_Ring (l : Locks) (txn : Int) : Option ((List Int)) :=
  (ring_Reach l txn).bind fun y1 =>
  (slices_Contains_int y1 txn).bind fun y6 =>
  if (!y6) then
    some ([] : (List Int))
  else
    (slices_DeleteFunc_int__ring_Ring_1 y1 l txn).bind fun y9 =>
    some y9
def gm_ring_Ring : Gm := ⟨tys, [55], [(20, 3, 1)], []⟩
theorem ring_Ring_walk (l : Locks) (txn : Int) (r : (List Int)) (h : ring_Ring l txn = some r) : PureP Try.prog 22 [.agg [.sl (List.map encHold l.Held), .sl (List.map encClaim l.Queue)], .v (.int .i64 txn)] (fun a => a = .sl (List.map (encI .i64) r)) := by
  unfold ring_Ring at h
  refine pureW (G := gm_ring_Ring) tyOk Try.func22 rfl (by kernel_rfl) (by simp [Try.f22]) ?_
  refine Tri.seqK ?_
  refine Tri.run (G := gm_ring_Ring) tyOk mixed ?_
  conv => whnf
  refine Tri.seqK ?_
  refine Tri.run (G := gm_ring_Ring) tyOk mixed ?_
  conv => whnf
  replace h := bind_some h
  obtain ⟨y1, q2, h⟩ := h
  refine FreshP.mono (ring_Reach_walk l txn y1 q2) ?_
  rintro _ rfl
  conv => whnf
  refine Tri.seqK ?_
  refine Tri.seqK ?_
  refine Tri.run (G := gm_ring_Ring) tyOk mixed ?_
  conv => whnf
  refine ⟨rfl, ?_⟩
  conv => whnf
  replace h := bind_some h
  obtain ⟨y6, q7, h⟩ := h
  refine PureP.mono (slices_Contains_int_walk y1 txn y6 q7) ?_
  rintro _ rfl
  conv => whnf
  refine Tri.cond rfl (fun c8 => ?_) (fun c8 => ?_)
  · replace h := if_t c8 h
    refine Tri.seqK ?_
    refine Tri.run (G := gm_ring_Ring) tyOk mixed ?_
    conv => whnf
    refine Tri.run (G := gm_ring_Ring) tyOk mixed ?_
    conv => whnf
    refine fin_here ?_
    conv => whnf
    cases h
    rfl
  · replace h := if_f c8 h
    refine Tri.run (G := gm_ring_Ring) tyOk mixed ?_
    conv => whnf
    refine Tri.seqK ?_
    refine Tri.run (G := gm_ring_Ring) tyOk mixed ?_
    conv => whnf
    replace h := bind_some h
    obtain ⟨y9, q10, h⟩ := h
    refine CallP.use (slices_DeleteFunc_int__ring_Ring_1_walk y1 l txn y9 q10) [2, 0, 1] rfl rfl rfl rfl rfl rfl rfl rfl rfl ?_
    conv => whnf
    refine Tri.run (G := gm_ring_Ring) tyOk mixed ?_
    conv => whnf
    refine fin_here ?_
    conv => whnf
    cases h
    rfl
noncomputable def slices_Max_int_l2 (x : (List Int)) (a37 : Int) (a38 : Int) : Option ((Int × Int) ⊕ (Int)) :=
  if (decide (a38 < (x.length : Int))) then
    (ix x a38).bind fun x46 =>
    some (.inl ((if a37 < x46 then x46 else a37), (IntKind.i64.wrap (a38 + 1))))
  else
    some (.inr a37)
noncomputable def slices_Max_int (x : (List Int)) : Option (Int) :=
  if (decide ((x.length : Int) < 1)) then
    none
  else
    (ix x 0).bind fun x3 =>
    (loop (fun (s41 : Int × Int) => slices_Max_int_l2 x s41.1 s41.2) (x3, (1 : Int))).bind fun (y39 : Int) =>
    some y39
def gm_slices_Max_int : Gm := ⟨tys, [], [], []⟩
theorem slices_Max_int_walk (x : (List Int)) (r : Int) (h : slices_Max_int x = some r) : PureP Try.prog 57 [.sl (List.map (encI .i64) x)] (fun a => a = .v (.int .i64 r)) := by
  unfold slices_Max_int at h
  refine pureW (G := gm_slices_Max_int) tyOk Try.func57 rfl (by kernel_rfl) (by simp [Try.f57]) ?_
  refine Tri.seqK ?_
  refine Tri.run (G := gm_slices_Max_int) tyOk mixed ?_
  conv => whnf
  refine Tri.seqK ?_
  refine Tri.seqK ?_
  refine Tri.run (G := gm_slices_Max_int) tyOk mixed ?_
  conv => whnf
  refine ⟨⟨(x.length : Int), (len_map _ _).symm, ?_⟩⟩
  conv => whnf
  refine Tri.cond rfl (fun c2 => ?_) (fun c2 => ?_)
  · replace h := if_t c2 h
    refine Tri.run (G := gm_slices_Max_int) tyOk mixed ?_
    conv => whnf
    cases h
  · replace h := if_f c2 h
    refine Tri.run (G := gm_slices_Max_int) tyOk mixed ?_
    conv => whnf
    refine Tri.seqK ?_
    refine Tri.run (G := gm_slices_Max_int) tyOk mixed ?_
    conv => whnf
    replace h := bind_some h
    obtain ⟨x3, q4, h⟩ := h
    refine ⟨(ix_some q4).1, ?_⟩
    conv => whnf
    refine ⟨⟨_, map_get (encI .i64) (ix_some q4).2, ?_⟩⟩
    conv => whnf
    refine ⟨rfl, ?_⟩
    conv => whnf
    refine Tri.seqK ?_
    refine Tri.seqK ?_
    refine Tri.run (G := gm_slices_Max_int) tyOk mixed ?_
    conv => whnf
    refine Tri.block ?_
    replace h := bind_some h
    obtain ⟨y39, q40, h⟩ := h
    refine Tri.cut (fun ex S' => ex = (.exit 0) ∧ Weak S' ⟨25, 0, ofRegs [(3, .v (.int .i64 y39))], []⟩) ?_ ?_
    · refine Tri.loopF (fun (s41 : Int × Int) => (⟨25, 0, ofRegs [(0, .sl (List.map (encI .i64) x)), (3, .v (.int .i64 s41.1)), (4, .v (.int .i64 s41.2))], []⟩ : St)) q40 (weak_fin _ rfl rfl rfl (LeH.rest) (.cons (.one (.same rfl)) (.cons (.one (.same rfl)) (.cons (.one (.same rfl)) (.nil)))) rfl rfl) ?_
      rintro ⟨a37, a38⟩ v42 hv r43
      have hv : slices_Max_int_l2 x a37 a38 = some v42 := hv
      unfold slices_Max_int_l2 at hv
      dsimp only
      refine Tri.seqK ?_
      refine Tri.seqK ?_
      refine Tri.run (G := gm_slices_Max_int) tyOk mixed ?_
      conv => whnf
      refine ⟨⟨(x.length : Int), (len_map _ _).symm, ?_⟩⟩
      conv => whnf
      refine Tri.cond rfl (fun c45 => ?_) (fun c45 => ?_)
      · replace hv := if_t c45 hv
        refine Tri.run (G := gm_slices_Max_int) tyOk mixed ?_
        conv => whnf
        refine Tri.seqK ?_
        refine Tri.block ?_
        refine Tri.run (G := gm_slices_Max_int) tyOk mixed ?_
        conv => whnf
        replace hv := bind_some hv
        obtain ⟨x46, q47, hv⟩ := hv
        refine ⟨(ix_some q47).1, ?_⟩
        conv => whnf
        refine ⟨⟨_, map_get (encI .i64) (ix_some q47).2, ?_⟩⟩
        conv => whnf
        refine ⟨rfl, ?_⟩
        conv => whnf
        refine Tri.run (G := gm_slices_Max_int) tyOk mixed ?_
        conv => whnf
        cases hv
        exact ⟨_, rfl, weak_fin _ rfl rfl rfl (LeH.rest) (.cons (.one (.same rfl)) (.cons (.one (.same rfl)) (.cons (.one (.same rfl)) (.nil)))) rfl rfl⟩
      · replace hv := if_f c45 hv
        refine Tri.run (G := gm_slices_Max_int) tyOk mixed ?_
        conv => whnf
        cases hv
        obtain rfl := r43 _ rfl
        exact ⟨rfl, weak_fin _ rfl rfl rfl (LeH.rest) (.cons (.one (.same rfl)) (.nil)) rfl rfl⟩
    · rintro ex S' ⟨rfl, w48⟩
      conv => whnf
      refine Tri.weak w48 ?_
      refine Tri.seqK ?_
      refine Tri.run (G := gm_slices_Max_int) tyOk mixed ?_
      conv => whnf
      refine Tri.run (G := gm_slices_Max_int) tyOk mixed ?_
      conv => whnf
      refine fin_here ?_
      conv => whnf
      cases h
      rfl
noncomputable def ring_Victim (l : Locks) (txn : Int) : Option (Int × Bool) :=
  (ring_Ring l txn).bind fun y1 =>
  if (decide ((y1.length : Int) = 0)) then
    some (0, false)
  else
    (slices_Max_int y1).bind fun y5 =>
    some (y5, true)
def gm_ring_Victim : Gm := ⟨tys, [], [], []⟩
theorem ring_Victim_walk (l : Locks) (txn : Int) (r : Int × Bool) (h : ring_Victim l txn = some r) : PureP Try.prog 24 [.agg [.sl (List.map encHold l.Held), .sl (List.map encClaim l.Queue)], .v (.int .i64 txn)] (fun a => a = .tup [.v (.int .i64 r.1), .v (.bool r.2)]) := by
  unfold ring_Victim at h
  refine pureW (G := gm_ring_Victim) tyOk Try.func24 rfl (by kernel_rfl) (by simp [Try.f24]) ?_
  refine Tri.seqK ?_
  refine Tri.run (G := gm_ring_Victim) tyOk mixed ?_
  conv => whnf
  refine Tri.seqK ?_
  refine Tri.run (G := gm_ring_Victim) tyOk mixed ?_
  conv => whnf
  replace h := bind_some h
  obtain ⟨y1, q2, h⟩ := h
  refine PureP.mono (ring_Ring_walk l txn y1 q2) ?_
  rintro _ rfl
  conv => whnf
  refine Tri.seqK ?_
  refine Tri.seqK ?_
  refine Tri.run (G := gm_ring_Victim) tyOk mixed ?_
  conv => whnf
  refine ⟨⟨(y1.length : Int), (len_map _ _).symm, ?_⟩⟩
  conv => whnf
  refine Tri.cond rfl (fun c4 => ?_) (fun c4 => ?_)
  · replace h := if_t c4 h
    refine Tri.seqK ?_
    refine Tri.run (G := gm_ring_Victim) tyOk mixed ?_
    conv => whnf
    refine Tri.run (G := gm_ring_Victim) tyOk mixed ?_
    conv => whnf
    refine fin_here ?_
    conv => whnf
    cases h
    rfl
  · replace h := if_f c4 h
    refine Tri.run (G := gm_ring_Victim) tyOk mixed ?_
    conv => whnf
    refine Tri.seqK ?_
    refine Tri.run (G := gm_ring_Victim) tyOk mixed ?_
    conv => whnf
    replace h := bind_some h
    obtain ⟨y5, q6, h⟩ := h
    refine PureP.mono (slices_Max_int_walk y1 y5 q6) ?_
    rintro _ rfl
    conv => whnf
    refine Tri.run (G := gm_ring_Victim) tyOk mixed ?_
    conv => whnf
    refine fin_here ?_
    conv => whnf
    cases h
    rfl
noncomputable def law11_shown  : Option (Bool) :=
  (ref09_Key 2 [97]).bind fun y1 =>
  (ref10_Ask ({ Held := [], Queue := [] } : Locks) 1 y1 9).bind fun y3 =>
  (ref09_Key 2 [98]).bind fun y13 =>
  (ref10_Ask y3.1 2 y13 9).bind fun y15 =>
  (ref10_Ask y15.1 1 y13 9).bind fun y27 =>
  (ref09_Key 2 [97]).bind fun y40 =>
  (ref10_Ask y27.1 2 y40 9).bind fun y42 =>
  (ring_Ring y42.1 1).bind fun y50 =>
  (ring_Victim y42.1 1).bind fun y52 =>
  if (decide ((y50.length : Int) = 2)) then
    (ix y50 0).bind fun x55 =>
    if (decide (x55 = 1)) then
      (ix y50 1).bind fun x58 =>
      if (decide (x58 = 2)) then
        if (decide (y52.1 = 2)) then
          some y52.2
        else
          some false
      else
        some false
    else
      some false
  else
    some false
def gm_law11_shown : Gm := ⟨tys, [], [], []⟩
theorem law11_shown_walk  (r : Bool) (h : law11_shown = some r) : PureP Try.prog 15 [] (fun a => a = .v (.bool r)) := by
  unfold law11_shown at h
  refine pureW (G := gm_law11_shown) tyOk Try.func15 rfl (by kernel_rfl) (by simp [Try.f15]) ?_
  refine Tri.seqK ?_
  refine Tri.run (G := gm_law11_shown) tyOk mixed ?_
  conv => whnf
  refine Tri.seqK ?_
  refine Tri.run (G := gm_law11_shown) tyOk mixed ?_
  conv => whnf
  replace h := bind_some h
  obtain ⟨y1, q2, h⟩ := h
  refine PureP.mono (ref09_Key_walk 2 [97] y1 q2) ?_
  rintro _ rfl
  conv => whnf
  replace h := bind_some h
  obtain ⟨y3, q4, h⟩ := h
  refine PureP.mono (ref10_Ask_walk ({ Held := [], Queue := [] } : Locks) 1 y1 9 y3 q4) ?_
  rintro _ rfl
  conv => whnf
  refine Tri.seqK ?_
  refine Tri.run (G := gm_law11_shown) tyOk mixed ?_
  conv => whnf
  replace h := bind_some h
  obtain ⟨y13, q21, h⟩ := h
  replace h := bind_some h
  obtain ⟨y15, q22, h⟩ := h
  refine Draw.many 7 (.alt 0 (.alt 1 (.alt 2 (.take 3 (.take 4 (.take 5 (.alt 6 (.fin) (.nil))))) (.nil)) (.nil)) (.alt 1 (.alt 0 (.alt 2 (.take 3 (.take 4 (.take 5 (.alt 6 (.fin) (.nil))))) (.nil)) (.nil)) (.nil))) [0, 1, 2, 3, 4, 5, 6] (⟨59, 0, ofRegs [(1, .ptr 0 0)], [.var 25 [.sl (List.map encHold y15.1.Held), .sl (List.map encClaim y15.1.Queue)]]⟩) (by kernel_rfl) ?_ ?_
  · conv => whnf
    refine ⟨?_, ?_⟩
    · conv => whnf
      refine ⟨?_, ?_⟩
      · conv => whnf
        refine PureP.mono (ref09_Key_walk 2 [98] y13 q21) ?_
        rintro _ rfl
        conv => whnf
        refine ⟨?_, ?_⟩
        · conv => whnf
          refine PureP.mono (ref10_Ask_walk y3.1 2 y13 9 y15 q22) ?_
          rintro _ rfl
          conv => whnf
          refine ⟨?_, ?_⟩
          · conv => whnf
            exact weak_fin _ rfl rfl rfl (.cons (.same rfl) (LeH.rest)) (.cons (.one (.same rfl)) (.nil)) rfl rfl
          · conv => whnf
            trivial
        · conv => whnf
          trivial
      · conv => whnf
        trivial
    · conv => whnf
      refine ⟨?_, ?_⟩
      · conv => whnf
        refine PureP.mono (ref09_Key_walk 2 [98] y13 q21) ?_
        rintro _ rfl
        conv => whnf
        refine ⟨?_, ?_⟩
        · conv => whnf
          refine ⟨?_, ?_⟩
          · conv => whnf
            refine PureP.mono (ref10_Ask_walk y3.1 2 y13 9 y15 q22) ?_
            rintro _ rfl
            conv => whnf
            refine ⟨?_, ?_⟩
            · conv => whnf
              exact weak_fin _ rfl rfl rfl (.cons (.same rfl) (LeH.rest)) (.cons (.one (.same rfl)) (.nil)) rfl rfl
            · conv => whnf
              trivial
          · conv => whnf
            trivial
        · conv => whnf
          trivial
      · conv => whnf
        trivial
  · conv => whnf
    refine Tri.seqK ?_
    refine Tri.run (G := gm_law11_shown) tyOk mixed ?_
    conv => whnf
    replace h := bind_some h
    obtain ⟨y27, q31, h⟩ := h
    refine Draw.many 7 (.alt 0 (.alt 1 (.alt 2 (.take 3 (.take 4 (.take 5 (.alt 6 (.fin) (.nil))))) (.nil)) (.nil)) (.alt 1 (.alt 0 (.alt 2 (.take 3 (.take 4 (.take 5 (.alt 6 (.fin) (.nil))))) (.nil)) (.nil)) (.nil))) [0, 1, 2, 3, 4, 5, 6] (⟨59, 0, ofRegs [(1, .ptr 0 0)], [.var 25 [.sl (List.map encHold y27.1.Held), .sl (List.map encClaim y27.1.Queue)]]⟩) (by kernel_rfl) ?_ ?_
    · conv => whnf
      refine ⟨?_, ?_⟩
      · conv => whnf
        refine ⟨?_, ?_⟩
        · conv => whnf
          refine PureP.mono (ref09_Key_walk 2 [98] y13 q21) ?_
          rintro _ rfl
          conv => whnf
          refine ⟨?_, ?_⟩
          · conv => whnf
            refine PureP.mono (ref10_Ask_walk y15.1 1 y13 9 y27 q31) ?_
            rintro _ rfl
            conv => whnf
            refine ⟨?_, ?_⟩
            · conv => whnf
              exact weak_fin _ rfl rfl rfl (.cons (.same rfl) (LeH.rest)) (.cons (.one (.same rfl)) (.nil)) rfl rfl
            · conv => whnf
              trivial
          · conv => whnf
            trivial
        · conv => whnf
          trivial
      · conv => whnf
        refine ⟨?_, ?_⟩
        · conv => whnf
          refine PureP.mono (ref09_Key_walk 2 [98] y13 q21) ?_
          rintro _ rfl
          conv => whnf
          refine ⟨?_, ?_⟩
          · conv => whnf
            refine ⟨?_, ?_⟩
            · conv => whnf
              refine PureP.mono (ref10_Ask_walk y15.1 1 y13 9 y27 q31) ?_
              rintro _ rfl
              conv => whnf
              refine ⟨?_, ?_⟩
              · conv => whnf
                exact weak_fin _ rfl rfl rfl (.cons (.same rfl) (LeH.rest)) (.cons (.one (.same rfl)) (.nil)) rfl rfl
              · conv => whnf
                trivial
            · conv => whnf
              trivial
          · conv => whnf
            trivial
        · conv => whnf
          trivial
    · conv => whnf
      refine Tri.seqK ?_
      refine Tri.run (G := gm_law11_shown) tyOk mixed ?_
      conv => whnf
      replace h := bind_some h
      obtain ⟨y40, q48, h⟩ := h
      replace h := bind_some h
      obtain ⟨y42, q49, h⟩ := h
      refine Draw.many 7 (.alt 0 (.alt 1 (.alt 2 (.take 3 (.take 4 (.take 5 (.alt 6 (.fin) (.nil))))) (.nil)) (.nil)) (.alt 1 (.alt 0 (.alt 2 (.take 3 (.take 4 (.take 5 (.alt 6 (.fin) (.nil))))) (.nil)) (.nil)) (.nil))) [0, 1, 2, 3, 4, 5, 6] (⟨59, 0, ofRegs [(1, .ptr 0 0)], [.var 25 [.sl (List.map encHold y42.1.Held), .sl (List.map encClaim y42.1.Queue)]]⟩) (by kernel_rfl) ?_ ?_
      · conv => whnf
        refine ⟨?_, ?_⟩
        · conv => whnf
          refine ⟨?_, ?_⟩
          · conv => whnf
            refine PureP.mono (ref09_Key_walk 2 [97] y40 q48) ?_
            rintro _ rfl
            conv => whnf
            refine ⟨?_, ?_⟩
            · conv => whnf
              refine PureP.mono (ref10_Ask_walk y27.1 2 y40 9 y42 q49) ?_
              rintro _ rfl
              conv => whnf
              refine ⟨?_, ?_⟩
              · conv => whnf
                exact weak_fin _ rfl rfl rfl (.cons (.same rfl) (LeH.rest)) (.cons (.one (.same rfl)) (.nil)) rfl rfl
              · conv => whnf
                trivial
            · conv => whnf
              trivial
          · conv => whnf
            trivial
        · conv => whnf
          refine ⟨?_, ?_⟩
          · conv => whnf
            refine PureP.mono (ref09_Key_walk 2 [97] y40 q48) ?_
            rintro _ rfl
            conv => whnf
            refine ⟨?_, ?_⟩
            · conv => whnf
              refine ⟨?_, ?_⟩
              · conv => whnf
                refine PureP.mono (ref10_Ask_walk y27.1 2 y40 9 y42 q49) ?_
                rintro _ rfl
                conv => whnf
                refine ⟨?_, ?_⟩
                · conv => whnf
                  exact weak_fin _ rfl rfl rfl (.cons (.same rfl) (LeH.rest)) (.cons (.one (.same rfl)) (.nil)) rfl rfl
                · conv => whnf
                  trivial
              · conv => whnf
                trivial
            · conv => whnf
              trivial
          · conv => whnf
            trivial
      · conv => whnf
        refine Tri.seqK ?_
        refine Tri.run (G := gm_law11_shown) tyOk mixed ?_
        conv => whnf
        replace h := bind_some h
        obtain ⟨y50, q51, h⟩ := h
        refine PureP.mono (ring_Ring_walk y42.1 1 y50 q51) ?_
        rintro _ rfl
        conv => whnf
        refine Tri.seqK ?_
        refine Tri.run (G := gm_law11_shown) tyOk mixed ?_
        conv => whnf
        replace h := bind_some h
        obtain ⟨y52, q53, h⟩ := h
        refine PureP.mono (ring_Victim_walk y42.1 1 y52 q53) ?_
        rintro _ rfl
        conv => whnf
        refine Tri.seqK ?_
        refine Tri.run (G := gm_law11_shown) tyOk mixed ?_
        conv => whnf
        refine ⟨⟨(y50.length : Int), (len_map _ _).symm, ?_⟩⟩
        conv => whnf
        refine cond_mk (fun c54 => ?_) (fun c54 => ?_)
        · replace h := if_t c54 h
          conv => whnf
          replace h := bind_some h
          obtain ⟨x55, q56, h⟩ := h
          refine ⟨(ix_some q56).1, ?_⟩
          conv => whnf
          refine ⟨⟨_, map_get (encI .i64) (ix_some q56).2, ?_⟩⟩
          conv => whnf
          refine ⟨rfl, ?_⟩
          conv => whnf
          refine cond_mk (fun c57 => ?_) (fun c57 => ?_)
          · replace h := if_t c57 h
            conv => whnf
            replace h := bind_some h
            obtain ⟨x58, q59, h⟩ := h
            refine ⟨(ix_some q59).1, ?_⟩
            conv => whnf
            refine ⟨⟨_, map_get (encI .i64) (ix_some q59).2, ?_⟩⟩
            conv => whnf
            refine ⟨rfl, ?_⟩
            conv => whnf
            refine cond_mk (fun c60 => ?_) (fun c60 => ?_)
            · replace h := if_t c60 h
              conv => whnf
              refine cond_mk (fun c61 => ?_) (fun c61 => ?_)
              · replace h := if_t c61 h
                conv => whnf
                refine Tri.run (G := gm_law11_shown) tyOk mixed ?_
                conv => whnf
                refine fin_here ?_
                conv => whnf
                cases h
                rfl
              · replace h := if_f c61 h
                conv => whnf
                refine Tri.run (G := gm_law11_shown) tyOk mixed ?_
                conv => whnf
                refine fin_here ?_
                conv => whnf
                cases h
                rfl
            · replace h := if_f c60 h
              conv => whnf
              refine Tri.run (G := gm_law11_shown) tyOk mixed ?_
              conv => whnf
              refine fin_here ?_
              conv => whnf
              cases h
              rfl
          · replace h := if_f c57 h
            conv => whnf
            refine Tri.run (G := gm_law11_shown) tyOk mixed ?_
            conv => whnf
            refine fin_here ?_
            conv => whnf
            cases h
            rfl
        · replace h := if_f c54 h
          conv => whnf
          refine Tri.run (G := gm_law11_shown) tyOk mixed ?_
          conv => whnf
          refine fin_here ?_
          conv => whnf
          cases h
          rfl
noncomputable def law11_small (l : Locks) : Option (Bool) :=
  if (decide ((l.Held.length : Int) ≤ 30)) then
    some (decide ((l.Queue.length : Int) ≤ 12))
  else
    some false
def gm_law11_small : Gm := ⟨tys, [], [], []⟩
theorem law11_small_walk (l : Locks) (r : Bool) (h : law11_small l = some r) : PureP Try.prog 16 [.agg [.sl (List.map encHold l.Held), .sl (List.map encClaim l.Queue)]] (fun a => a = .v (.bool r)) := by
  unfold law11_small at h
  refine pureW (G := gm_law11_small) tyOk Try.func16 rfl (by kernel_rfl) (by simp [Try.f16]) ?_
  refine Tri.seqK ?_
  refine Tri.run (G := gm_law11_small) tyOk mixed ?_
  conv => whnf
  refine Tri.seqK ?_
  refine Tri.run (G := gm_law11_small) tyOk mixed ?_
  conv => whnf
  refine ⟨⟨(l.Held.length : Int), (len_map _ _).symm, ?_⟩⟩
  conv => whnf
  refine cond_mk (fun c1 => ?_) (fun c1 => ?_)
  · replace h := if_t c1 h
    conv => whnf
    refine ⟨⟨(l.Queue.length : Int), (len_map _ _).symm, ?_⟩⟩
    conv => whnf
    refine Tri.run (G := gm_law11_small) tyOk mixed ?_
    conv => whnf
    refine fin_here ?_
    conv => whnf
    cases h
    rfl
  · replace h := if_f c1 h
    conv => whnf
    refine Tri.run (G := gm_law11_small) tyOk mixed ?_
    conv => whnf
    refine fin_here ?_
    conv => whnf
    cases h
    rfl
noncomputable def ref11_has_l2 (l : (List Int)) (n : Int) (a52 : Int) : Option ((Int) ⊕ ((Unit) ⊕ (Unit))) :=
  if (decide (a52 < (l.length : Int))) then
    (ix l a52).bind fun x65 =>
    if (decide (x65 = n)) then
      some (.inr (.inl ()))
    else
      some (.inl (IntKind.i64.wrap (a52 + 1)))
  else
    some (.inr (.inr ()))
noncomputable def ref11_has (l : (List Int)) (n : Int) : Option (Bool) :=
  (loop (fun (s57 : Int) => ref11_has_l2 l n s57) (0 : Int)).bind fun (y53 : (Unit) ⊕ (Unit)) =>
  match y53 with
  | (.inl v55) =>
    some true
  | (.inr v56) =>
    some false
def gm_ref11_has : Gm := ⟨tys, [], [], []⟩
theorem ref11_has_walk (l : (List Int)) (n : Int) (r : Bool) (h : ref11_has l n = some r) : PureP Try.prog 53 [.sl (List.map (encI .i64) l), .v (.int .i64 n)] (fun a => a = .v (.bool r)) := by
  unfold ref11_has at h
  refine pureW (G := gm_ref11_has) tyOk Try.func53 rfl (by kernel_rfl) (by simp [Try.f53]) ?_
  refine Tri.seqK ?_
  refine Tri.run (G := gm_ref11_has) tyOk mixed ?_
  conv => whnf
  refine Tri.seqK ?_
  refine Tri.seqK ?_
  refine Tri.run (G := gm_ref11_has) tyOk mixed ?_
  conv => whnf
  refine Tri.block ?_
  replace h := bind_some h
  obtain ⟨y53, q54, h⟩ := h
  refine Tri.cut (fun ex S' => (∃ v55 : Unit, y53 = (.inl v55) ∧ ex = .ret ∧ Weak S' ⟨18, 0, ofRegs [(4, .v (.bool true))], []⟩) ∨ (∃ v56 : Unit, y53 = (.inr v56) ∧ ex = (.exit 0) ∧ Weak S' ⟨18, 0, ofRegs [], []⟩)) ?_ ?_
  · refine Tri.loopF (fun (s57 : Int) => (⟨18, 0, ofRegs [(0, .sl (List.map (encI .i64) l)), (1, .v (.int .i64 n)), (5, .v (.int .i64 s57))], []⟩ : St)) q54 (weak_fin _ rfl rfl rfl (LeH.rest) (.cons (.one (.same rfl)) (.cons (.one (.same rfl)) (.cons (.one (.same rfl)) (.nil)))) rfl rfl) ?_
    rintro a52 v58 hv r59
    have hv : ref11_has_l2 l n a52 = some v58 := hv
    unfold ref11_has_l2 at hv
    refine Tri.seqK ?_
    refine Tri.seqK ?_
    refine Tri.run (G := gm_ref11_has) tyOk mixed ?_
    conv => whnf
    refine ⟨⟨(l.length : Int), (len_map _ _).symm, ?_⟩⟩
    conv => whnf
    refine Tri.cond rfl (fun c61 => ?_) (fun c61 => ?_)
    · replace hv := if_t c61 hv
      refine Tri.run (G := gm_ref11_has) tyOk mixed ?_
      conv => whnf
      refine Tri.seqK ?_
      refine Tri.block ?_
      refine Tri.seqK ?_
      refine Tri.run (G := gm_ref11_has) tyOk mixed ?_
      conv => whnf
      replace hv := bind_some hv
      obtain ⟨x65, q66, hv⟩ := hv
      refine ⟨(ix_some q66).1, ?_⟩
      conv => whnf
      refine ⟨⟨_, map_get (encI .i64) (ix_some q66).2, ?_⟩⟩
      conv => whnf
      refine ⟨rfl, ?_⟩
      conv => whnf
      refine Tri.cond rfl (fun c67 => ?_) (fun c67 => ?_)
      · replace hv := if_t c67 hv
        refine Tri.seqK ?_
        refine Tri.run (G := gm_ref11_has) tyOk mixed ?_
        conv => whnf
        refine Tri.run (G := gm_ref11_has) tyOk mixed ?_
        conv => whnf
        cases hv
        obtain rfl := r59 _ rfl
        exact Or.inl ⟨_, rfl, rfl, weak_fin _ rfl rfl rfl (LeH.rest) (.cons (.one (.same rfl)) (.nil)) rfl rfl⟩
      · replace hv := if_f c67 hv
        refine Tri.run (G := gm_ref11_has) tyOk mixed ?_
        conv => whnf
        refine Tri.run (G := gm_ref11_has) tyOk mixed ?_
        conv => whnf
        cases hv
        exact ⟨_, rfl, weak_fin _ rfl rfl rfl (LeH.rest) (.cons (.one (.same rfl)) (.cons (.one (.same rfl)) (.cons (.one (.same rfl)) (.nil)))) rfl rfl⟩
    · replace hv := if_f c61 hv
      refine Tri.run (G := gm_ref11_has) tyOk mixed ?_
      conv => whnf
      cases hv
      obtain rfl := r59 _ rfl
      exact Or.inr (⟨_, rfl, rfl, weak_fin _ rfl rfl rfl (LeH.rest) (.nil) rfl rfl⟩)
  · rintro ex S' (⟨v55, rfl, rfl, w68⟩ | ⟨v56, rfl, rfl, w68⟩)
    · dsimp only at h
      conv => whnf
      refine fin_pre w68 ?_
      conv => whnf
      cases h
      rfl
    · dsimp only at h
      conv => whnf
      refine Tri.weak w68 ?_
      refine Tri.seqK ?_
      refine Tri.run (G := gm_ref11_has) tyOk mixed ?_
      conv => whnf
      refine Tri.run (G := gm_ref11_has) tyOk mixed ?_
      conv => whnf
      refine fin_here ?_
      conv => whnf
      cases h
      rfl
noncomputable def ref11_put_l2 (l : (List Int)) (n : Int) (a144 : Int) : Option ((Int) ⊕ (Int)) :=
  (
    if (decide (a144 < (l.length : Int))) then
      (ix l a144).bind fun x172 =>
      some (decide (x172 < n))
    else
      some false).bind fun (y169 : Bool) =>
  if y169 then
    some (.inl (IntKind.i64.wrap (a144 + 1)))
  else
    some (.inr a144)
noncomputable def ref11_put (l : (List Int)) (n : Int) : Option ((List Int)) :=
  (ref11_has l n).bind fun y1 =>
  if y1 then
    some l
  else
    (loop (fun (s147 : Int) => ref11_put_l2 l n s147) (0 : Int)).bind fun (y145 : Int) =>
    need (0 ≤ (0 : Int) ∧ 0 ≤ y145 ∧ y145 ≤ (l.length : Int)) <|
    need ((([] : List Int).length + (cut l 0 y145).length) * 8 ≤ 140737488355328) <|
    need (((([] : List Int) ++ (cut l 0 y145)).length + 1) * 8 ≤ 140737488355328) <|
    need (0 ≤ y145 ∧ y145 ≤ (l.length : Int) ∧ (l.length : Int) ≤ (l.length : Int)) <|
    need ((((([] : List Int) ++ (cut l 0 y145)) ++ [n]).length + (cut l y145 (l.length : Int)).length) * 8 ≤ 140737488355328) <|
    some (((([] : List Int) ++ (cut l 0 y145)) ++ [n]) ++ (cut l y145 (l.length : Int)))
def gm_ref11_put : Gm := ⟨tys, [], [], []⟩
theorem ref11_put_walk (l : (List Int)) (n : Int) (r : (List Int)) (h : ref11_put l n = some r) : PureP Try.prog 49 [.sl (List.map (encI .i64) l), .v (.int .i64 n)] (fun a => a = .sl (List.map (encI .i64) r)) := by
  unfold ref11_put at h
  refine pureW (G := gm_ref11_put) tyOk Try.func49 rfl (by kernel_rfl) (by simp [Try.f49]) ?_
  refine Tri.seqK ?_
  refine Tri.run (G := gm_ref11_put) tyOk mixed ?_
  conv => whnf
  refine Tri.seqK ?_
  refine Tri.run (G := gm_ref11_put) tyOk mixed ?_
  conv => whnf
  replace h := bind_some h
  obtain ⟨y1, q2, h⟩ := h
  refine PureP.mono (ref11_has_walk l n y1 q2) ?_
  rintro _ rfl
  conv => whnf
  refine Tri.seqK ?_
  refine Tri.seqK ?_
  refine Tri.run (G := gm_ref11_put) tyOk mixed ?_
  conv => whnf
  refine Tri.cond rfl (fun c4 => ?_) (fun c4 => ?_)
  · replace h := if_t c4 h
    refine Tri.seqK ?_
    refine Tri.run (G := gm_ref11_put) tyOk mixed ?_
    conv => whnf
    refine Tri.run (G := gm_ref11_put) tyOk mixed ?_
    conv => whnf
    refine fin_here ?_
    conv => whnf
    cases h
    rfl
  · replace h := if_f c4 h
    refine Tri.run (G := gm_ref11_put) tyOk mixed ?_
    conv => whnf
    refine Tri.seqK ?_
    refine Tri.run (G := gm_ref11_put) tyOk mixed ?_
    conv => whnf
    refine Tri.seqK ?_
    refine Tri.block ?_
    replace h := bind_some h
    obtain ⟨y145, q146, h⟩ := h
    refine Tri.cut (fun ex S' => ex = (.exit 0) ∧ Weak S' ⟨41, 0, ofRegs [(0, .sl (List.map (encI .i64) l)), (1, .v (.int .i64 n)), (6, .v (.int .i64 y145))], []⟩) ?_ ?_
    · refine Tri.loopF (fun (s147 : Int) => (⟨41, 0, ofRegs [(0, .sl (List.map (encI .i64) l)), (1, .v (.int .i64 n)), (6, .v (.int .i64 s147))], []⟩ : St)) q146 (weak_fin _ rfl rfl rfl (LeH.rest) (.cons (.one (.same rfl)) (.cons (.one (.same rfl)) (.cons (.one (.same rfl)) (.nil)))) rfl rfl) ?_
      rintro a144 v148 hv r149
      have hv : ref11_put_l2 l n a144 = some v148 := hv
      unfold ref11_put_l2 at hv
      refine Tri.seqK ?_
      refine Tri.seqK ?_
      replace hv := bind_some hv
      obtain ⟨y169, q170, hv⟩ := hv
      refine Tri.cut (fun ex S' => ex = .normal ∧ Weak S' ⟨41, 0, ofRegs [(0, .sl (List.map (encI .i64) l)), (1, .v (.int .i64 n)), (6, .v (.int .i64 a144)), (24, .v (.bool y169))], []⟩) ?_ ?_
      · refine Tri.run (G := gm_ref11_put) tyOk mixed ?_
        conv => whnf
        refine ⟨⟨(l.length : Int), (len_map _ _).symm, ?_⟩⟩
        conv => whnf
        refine cond_mk (fun c171 => ?_) (fun c171 => ?_)
        · replace q170 := if_t c171 q170
          conv => whnf
          replace q170 := bind_some q170
          obtain ⟨x172, q173, q170⟩ := q170
          refine ⟨(ix_some q173).1, ?_⟩
          conv => whnf
          refine ⟨⟨_, map_get (encI .i64) (ix_some q173).2, ?_⟩⟩
          conv => whnf
          refine ⟨rfl, ?_⟩
          conv => whnf
          cases q170
          exact ⟨rfl, weak_fin _ rfl rfl rfl (LeH.rest) (.cons (.one (.same rfl)) (.cons (.one (.same rfl)) (.cons (.one (.same rfl)) (.cons (.one (.same rfl)) (.nil))))) rfl rfl⟩
        · replace q170 := if_f c171 q170
          conv => whnf
          cases q170
          exact ⟨rfl, weak_fin _ rfl rfl rfl (LeH.rest) (.cons (.one (.same rfl)) (.cons (.one (.same rfl)) (.cons (.one (.same rfl)) (.cons (.one (.same rfl)) (.nil))))) rfl rfl⟩
      · rintro ex S' ⟨rfl, w174⟩
        conv => whnf
        refine Tri.weak w174 ?_
        refine Tri.cond rfl (fun c175 => ?_) (fun c175 => ?_)
        · replace hv := if_t c175 hv
          refine Tri.run (G := gm_ref11_put) tyOk mixed ?_
          conv => whnf
          refine Tri.block ?_
          refine Tri.run (G := gm_ref11_put) tyOk mixed ?_
          conv => whnf
          cases hv
          exact ⟨_, rfl, weak_fin _ rfl rfl rfl (LeH.rest) (.cons (.one (.same rfl)) (.cons (.one (.same rfl)) (.cons (.one (.same rfl)) (.nil)))) rfl rfl⟩
        · replace hv := if_f c175 hv
          refine Tri.run (G := gm_ref11_put) tyOk mixed ?_
          conv => whnf
          cases hv
          obtain rfl := r149 _ rfl
          exact ⟨rfl, weak_fin _ rfl rfl rfl (LeH.rest) (.cons (.one (.same rfl)) (.cons (.one (.same rfl)) (.cons (.one (.same rfl)) (.nil)))) rfl rfl⟩
    · rintro ex S' ⟨rfl, w176⟩
      conv => whnf
      refine Tri.weak w176 ?_
      refine Tri.seqK ?_
      refine Tri.run (G := gm_ref11_put) tyOk mixed ?_
      conv => whnf
      refine ⟨⟨List.map (encI .i64) ([] : List Int), rfl, ?_⟩⟩
      conv => whnf
      refine ⟨map_len (f := (encI .i64)) (n := 1) (fun _ => rfl) _, ?_⟩
      conv => whnf
      replace h := need_some h
      obtain ⟨p177, h⟩ := h
      refine ⟨by simpa only [List.length_map] using p177, ?_⟩
      conv => whnf
      refine ⟨⟨List.map (encI .i64) (cut l 0 y145), map_cut _ _ _ _, ?_⟩⟩
      conv => whnf
      refine ⟨rfl, ?_⟩
      conv => whnf
      refine ⟨map_len (f := (encI .i64)) (n := 1) (fun _ => rfl) _, ?_⟩
      conv => whnf
      replace h := need_some h
      obtain ⟨p178, h⟩ := h
      refine ⟨by simp only [List.length_map]; exact p178, ?_⟩
      conv => whnf
      refine ⟨⟨List.map (encI .i64) (([] : List Int) ++ (cut l 0 y145)), map_app (encI .i64) _ _ rfl rfl, ?_⟩⟩
      conv => whnf
      refine Tri.seqK ?_
      refine Tri.run (G := gm_ref11_put) tyOk mixed ?_
      conv => whnf
      refine ⟨⟨List.map (encI .i64) [n], rfl, ?_⟩⟩
      conv => whnf
      refine ⟨rfl, ?_⟩
      conv => whnf
      refine ⟨rfl, ?_⟩
      conv => whnf
      replace h := need_some h
      obtain ⟨p179, h⟩ := h
      refine ⟨by simp only [List.length_map]; exact p179, ?_⟩
      conv => whnf
      refine ⟨⟨List.map (encI .i64) ((([] : List Int) ++ (cut l 0 y145)) ++ [n]), map_app (encI .i64) _ _ rfl rfl, ?_⟩⟩
      conv => whnf
      refine Tri.seqK ?_
      refine Tri.run (G := gm_ref11_put) tyOk mixed ?_
      conv => whnf
      refine ⟨map_len (f := (encI .i64)) (n := 1) (fun _ => rfl) _, ?_⟩
      conv => whnf
      replace h := need_some h
      obtain ⟨p180, h⟩ := h
      refine ⟨by simpa only [List.length_map] using p180, ?_⟩
      conv => whnf
      refine ⟨⟨List.map (encI .i64) (cut l y145 (l.length : Int)), by rw [map_cut, len_map], ?_⟩⟩
      conv => whnf
      refine ⟨rfl, ?_⟩
      conv => whnf
      refine ⟨map_len (f := (encI .i64)) (n := 1) (fun _ => rfl) _, ?_⟩
      conv => whnf
      replace h := need_some h
      obtain ⟨p181, h⟩ := h
      refine ⟨by simp only [List.length_map]; exact p181, ?_⟩
      conv => whnf
      refine ⟨⟨List.map (encI .i64) (((([] : List Int) ++ (cut l 0 y145)) ++ [n]) ++ (cut l y145 (l.length : Int))), map_app (encI .i64) _ _ rfl rfl, ?_⟩⟩
      conv => whnf
      refine Tri.run (G := gm_ref11_put) tyOk mixed ?_
      conv => whnf
      refine fin_here ?_
      conv => whnf
      refine ⟨rfl, ?_⟩
      conv => whnf
      cases h
      rfl
noncomputable def ref11_After_l20 (y703 : (List Int)) (a719 : (List Int)) (a720 : Int) : Option (((List Int) × Int) ⊕ ((List Int))) :=
  if (decide (a720 < (y703.length : Int))) then
    (ix y703 a720).bind fun x728 =>
    (ref11_put a719 x728).bind fun y730 =>
    some (.inl (y730, (IntKind.i64.wrap (a720 + 1))))
  else
    some (.inr a719)
noncomputable def ref11_After_l17 (l : Locks) (txn : Int) (a608 : (List Int)) (a609 : Int) : Option (((List Int) × Int) ⊕ ((List Int))) :=
  if (decide (a609 < (l.Queue.length : Int))) then
    (
      (ix l.Queue a609).bind fun x698 =>
      if (!(decide (x698.Txn = txn))) then
        some a608
      else
        (ref10_Blockers l txn x698.W a609).bind fun y703 =>
        (loop (fun (s723 : (List Int) × Int) => ref11_After_l20 y703 s723.1 s723.2) (a608, (0 : Int))).bind fun (y721 : (List Int)) =>
        some y721).bind fun (y693 : (List Int)) =>
    some (.inl (y693, (IntKind.i64.wrap (a609 + 1))))
  else
    some (.inr a608)
noncomputable def ref11_After (l : Locks) (txn : Int) : Option ((List Int)) :=
  (loop (fun (s612 : (List Int) × Int) => ref11_After_l17 l txn s612.1 s612.2) (([] : (List Int)), (0 : Int))).bind fun (y610 : (List Int)) =>
  some y610
def gm_ref11_After : Gm := ⟨tys, [], [], []⟩
theorem ref11_After_walk (l : Locks) (txn : Int) (r : (List Int)) (h : ref11_After l txn = some r) : PureP Try.prog 19 [.agg [.sl (List.map encHold l.Held), .sl (List.map encClaim l.Queue)], .v (.int .i64 txn)] (fun a => a = .sl (List.map (encI .i64) r)) := by
  unfold ref11_After at h
  refine pureW (G := gm_ref11_After) tyOk Try.func19 rfl (by kernel_rfl) (by simp [Try.f19]) ?_
  refine Tri.seqK ?_
  refine Tri.run (G := gm_ref11_After) tyOk mixed ?_
  conv => whnf
  refine Tri.seqK ?_
  refine Tri.run (G := gm_ref11_After) tyOk mixed ?_
  conv => whnf
  refine Tri.seqK ?_
  refine Tri.seqK ?_
  refine Tri.run (G := gm_ref11_After) tyOk mixed ?_
  conv => whnf
  refine Tri.block ?_
  replace h := bind_some h
  obtain ⟨y610, q611, h⟩ := h
  refine Tri.cut (fun ex S' => ex = (.exit 0) ∧ Weak S' ⟨47, 0, ofRegs [(5, .sl (List.map (encI .i64) y610))], []⟩) ?_ ?_
  · refine Tri.loopF (fun (s612 : (List Int) × Int) => (⟨47, 0, ofRegs [(1, .v (.int .i64 txn)), (2, .ptr 0 0), (5, .sl (List.map (encI .i64) s612.1)), (6, .v (.int .i64 s612.2))], [.var 25 [.sl (List.map encHold l.Held), .sl (List.map encClaim l.Queue)]]⟩ : St)) q611 (weak_fin _ rfl rfl rfl (.cons (.same rfl) (LeH.rest)) (.cons (.one (.same rfl)) (.cons (.one (.same rfl)) (.cons (.one (.nil)) (.cons (.one (.same rfl)) (.nil))))) rfl rfl) ?_
    rintro ⟨a608, a609⟩ v613 hv r614
    have hv : ref11_After_l17 l txn a608 a609 = some v613 := hv
    unfold ref11_After_l17 at hv
    dsimp only
    refine Tri.seqK ?_
    refine Tri.seqK ?_
    refine Tri.run (G := gm_ref11_After) tyOk mixed ?_
    conv => whnf
    refine ⟨⟨(l.Queue.length : Int), (len_map _ _).symm, ?_⟩⟩
    conv => whnf
    refine Tri.cond rfl (fun c616 => ?_) (fun c616 => ?_)
    · replace hv := if_t c616 hv
      refine Tri.run (G := gm_ref11_After) tyOk mixed ?_
      conv => whnf
      refine Tri.seqK ?_
      replace hv := bind_some hv
      obtain ⟨y693, q694, hv⟩ := hv
      refine Tri.cut (fun ex S' => ex = .normal ∧ Weak S' ⟨47, 0, ofRegs [(1, .v (.int .i64 txn)), (2, .ptr 0 0), (5, .sl (List.map (encI .i64) y693)), (6, .v (.int .i64 a609))], [.var 25 [.sl (List.map encHold l.Held), .sl (List.map encClaim l.Queue)]]⟩) ?_ ?_
      · refine Tri.block ?_
        refine Tri.seqK ?_
        refine Tri.seqK ?_
        refine Tri.run (G := gm_ref11_After) tyOk mixed ?_
        conv => whnf
        replace q694 := bind_some q694
        obtain ⟨x698, q699, q694⟩ := q694
        refine ⟨(ix_some q699).1, ?_⟩
        conv => whnf
        refine ⟨⟨_, map_get encClaim (ix_some q699).2, ?_⟩⟩
        conv => whnf
        refine ⟨rfl, ?_⟩
        conv => whnf
        refine Tri.cond rfl (fun c700 => ?_) (fun c700 => ?_)
        · replace q694 := if_t c700 q694
          refine Tri.run (G := gm_ref11_After) tyOk mixed ?_
          conv => whnf
          cases q694
          exact ⟨rfl, weak_fin _ rfl rfl rfl (.cons (.same rfl) (LeH.rest)) (.cons (.one (.same rfl)) (.cons (.one (.same rfl)) (.cons (.one (.same rfl)) (.cons (.one (.same rfl)) (.nil))))) rfl rfl⟩
        · replace q694 := if_f c700 q694
          refine Tri.run (G := gm_ref11_After) tyOk mixed ?_
          conv => whnf
          refine Tri.seqK ?_
          refine Tri.run (G := gm_ref11_After) tyOk mixed ?_
          conv => whnf
          refine Draw.one 11 (.take 0 (.take 1 (.take 2 (.take 3 (.take 4 (.take 5 (.take 6 (.take 7 (.take 8 (.alt 9 (.take 10 (.fin)) (.nil))))))))))) [] (by kernel_rfl) ?_
          conv => whnf
          refine ⟨(ix_some q699).1, ?_⟩
          conv => whnf
          refine ⟨⟨_, map_get encClaim (ix_some q699).2, ?_⟩⟩
          conv => whnf
          refine ⟨rfl, ?_⟩
          conv => whnf
          refine ⟨?_, ?_⟩
          · conv => whnf
            replace q694 := bind_some q694
            obtain ⟨y703, q704, q694⟩ := q694
            refine PureP.mono (ref10_Blockers_walk l txn x698.W a609 y703 q704) ?_
            rintro _ rfl
            conv => whnf
            refine Tri.seqK ?_
            refine Tri.run (G := gm_ref11_After) tyOk mixed ?_
            conv => whnf
            refine Tri.block ?_
            replace q694 := bind_some q694
            obtain ⟨y721, q722, q694⟩ := q694
            refine Tri.cut (fun ex S' => ex = (.exit 2) ∧ Weak S' ⟨47, 0, ofRegs [(1, .v (.int .i64 txn)), (2, .ptr 0 0), (5, .sl (List.map (encI .i64) y721)), (6, .v (.int .i64 a609))], [.var 25 [.sl (List.map encHold l.Held), .sl (List.map encClaim l.Queue)]]⟩) ?_ ?_
            · refine Tri.loopF (fun (s723 : (List Int) × Int) => (⟨47, 0, ofRegs [(1, .v (.int .i64 txn)), (2, .ptr 0 0), (5, .sl (List.map (encI .i64) s723.1)), (6, .v (.int .i64 a609)), (7, .sl (List.map (encI .i64) y703)), (8, .v (.int .i64 s723.2))], [.var 25 [.sl (List.map encHold l.Held), .sl (List.map encClaim l.Queue)]]⟩ : St)) q722 (weak_fin _ rfl rfl rfl (.cons (.same rfl) (LeH.rest)) (.cons (.one (.same rfl)) (.cons (.one (.same rfl)) (.cons (.one (.same rfl)) (.cons (.one (.same rfl)) (.cons (.one (.same rfl)) (.cons (.one (.same rfl)) (.nil))))))) rfl rfl) ?_
              rintro ⟨a719, a720⟩ v724 hv r725
              have hv : ref11_After_l20 y703 a719 a720 = some v724 := hv
              unfold ref11_After_l20 at hv
              dsimp only
              refine Tri.seqK ?_
              refine Tri.seqK ?_
              refine Tri.run (G := gm_ref11_After) tyOk mixed ?_
              conv => whnf
              refine ⟨⟨(y703.length : Int), (len_map _ _).symm, ?_⟩⟩
              conv => whnf
              refine Tri.cond rfl (fun c727 => ?_) (fun c727 => ?_)
              · replace hv := if_t c727 hv
                refine Tri.run (G := gm_ref11_After) tyOk mixed ?_
                conv => whnf
                refine Tri.seqK ?_
                refine Tri.block ?_
                refine Tri.run (G := gm_ref11_After) tyOk mixed ?_
                conv => whnf
                replace hv := bind_some hv
                obtain ⟨x728, q729, hv⟩ := hv
                refine ⟨(ix_some q729).1, ?_⟩
                conv => whnf
                refine ⟨⟨_, map_get (encI .i64) (ix_some q729).2, ?_⟩⟩
                conv => whnf
                refine ⟨rfl, ?_⟩
                conv => whnf
                replace hv := bind_some hv
                obtain ⟨y730, q731, hv⟩ := hv
                refine PureP.mono (ref11_put_walk a719 x728 y730 q731) ?_
                rintro _ rfl
                conv => whnf
                refine Tri.run (G := gm_ref11_After) tyOk mixed ?_
                conv => whnf
                cases hv
                exact ⟨_, rfl, weak_fin _ rfl rfl rfl (.cons (.same rfl) (LeH.rest)) (.cons (.one (.same rfl)) (.cons (.one (.same rfl)) (.cons (.one (.same rfl)) (.cons (.one (.same rfl)) (.cons (.one (.same rfl)) (.cons (.one (.same rfl)) (.nil))))))) rfl rfl⟩
              · replace hv := if_f c727 hv
                refine Tri.run (G := gm_ref11_After) tyOk mixed ?_
                conv => whnf
                cases hv
                obtain rfl := r725 _ rfl
                exact ⟨rfl, weak_fin _ rfl rfl rfl (.cons (.same rfl) (LeH.rest)) (.cons (.one (.same rfl)) (.cons (.one (.same rfl)) (.cons (.one (.same rfl)) (.cons (.one (.same rfl)) (.nil))))) rfl rfl⟩
            · rintro ex S' ⟨rfl, w732⟩
              conv => whnf
              cases q694
              exact ⟨rfl, Weak.trans w732 (weak_fin _ rfl rfl rfl (.cons (.same rfl) (LeH.rest)) (.cons (.one (.same rfl)) (.cons (.one (.same rfl)) (.cons (.one (.same rfl)) (.cons (.one (.same rfl)) (.nil))))) rfl rfl)⟩
          · conv => whnf
            trivial
      · rintro ex S' ⟨rfl, w733⟩
        conv => whnf
        refine Tri.weak w733 ?_
        refine Tri.run (G := gm_ref11_After) tyOk mixed ?_
        conv => whnf
        cases hv
        exact ⟨_, rfl, weak_fin _ rfl rfl rfl (.cons (.same rfl) (LeH.rest)) (.cons (.one (.same rfl)) (.cons (.one (.same rfl)) (.cons (.one (.same rfl)) (.cons (.one (.same rfl)) (.nil))))) rfl rfl⟩
    · replace hv := if_f c616 hv
      refine Tri.run (G := gm_ref11_After) tyOk mixed ?_
      conv => whnf
      cases hv
      obtain rfl := r614 _ rfl
      exact ⟨rfl, weak_fin _ rfl rfl rfl (LeH.rest) (.cons (.one (.same rfl)) (.nil)) rfl rfl⟩
  · rintro ex S' ⟨rfl, w734⟩
    conv => whnf
    refine Tri.weak w734 ?_
    refine Tri.seqK ?_
    refine Tri.run (G := gm_ref11_After) tyOk mixed ?_
    conv => whnf
    refine Tri.run (G := gm_ref11_After) tyOk mixed ?_
    conv => whnf
    refine fin_here ?_
    conv => whnf
    cases h
    rfl
noncomputable def ref10_Ints_l2 (a : (List Int)) (b : (List Int)) (a114 : Int) : Option ((Int) ⊕ ((Unit) ⊕ (Unit))) :=
  if (decide (a114 < (a.length : Int))) then
    (ix a a114).bind fun x137 =>
    (ix b a114).bind fun x139 =>
    if (!(decide (x137 = x139))) then
      some (.inr (.inl ()))
    else
      some (.inl (IntKind.i64.wrap (a114 + 1)))
  else
    some (.inr (.inr ()))
noncomputable def ref10_Ints (a : (List Int)) (b : (List Int)) : Option (Bool) :=
  if (!(decide ((a.length : Int) = (b.length : Int)))) then
    some false
  else
    (loop (fun (s119 : Int) => ref10_Ints_l2 a b s119) (0 : Int)).bind fun (y115 : (Unit) ⊕ (Unit)) =>
    match y115 with
    | (.inl v117) =>
      some false
    | (.inr v118) =>
      some true
def gm_ref10_Ints : Gm := ⟨tys, [], [], []⟩
theorem ref10_Ints_walk (a : (List Int)) (b : (List Int)) (r : Bool) (h : ref10_Ints a b = some r) : PureP Try.prog 17 [.sl (List.map (encI .i64) a), .sl (List.map (encI .i64) b)] (fun a => a = .v (.bool r)) := by
  unfold ref10_Ints at h
  refine pureW (G := gm_ref10_Ints) tyOk Try.func17 rfl (by kernel_rfl) (by simp [Try.f17]) ?_
  refine Tri.seqK ?_
  refine Tri.run (G := gm_ref10_Ints) tyOk mixed ?_
  conv => whnf
  refine Tri.seqK ?_
  refine Tri.seqK ?_
  refine Tri.run (G := gm_ref10_Ints) tyOk mixed ?_
  conv => whnf
  refine ⟨⟨(a.length : Int), (len_map _ _).symm, ?_⟩⟩
  conv => whnf
  refine ⟨⟨(b.length : Int), (len_map _ _).symm, ?_⟩⟩
  conv => whnf
  refine Tri.cond rfl (fun c2 => ?_) (fun c2 => ?_)
  · replace h := if_t c2 h
    refine Tri.seqK ?_
    refine Tri.run (G := gm_ref10_Ints) tyOk mixed ?_
    conv => whnf
    refine Tri.run (G := gm_ref10_Ints) tyOk mixed ?_
    conv => whnf
    refine fin_here ?_
    conv => whnf
    cases h
    rfl
  · replace h := if_f c2 h
    refine Tri.run (G := gm_ref10_Ints) tyOk mixed ?_
    conv => whnf
    refine Tri.seqK ?_
    refine Tri.seqK ?_
    refine Tri.run (G := gm_ref10_Ints) tyOk mixed ?_
    conv => whnf
    refine Tri.block ?_
    replace h := bind_some h
    obtain ⟨y115, q116, h⟩ := h
    refine Tri.cut (fun ex S' => (∃ v117 : Unit, y115 = (.inl v117) ∧ ex = .ret ∧ Weak S' ⟨26, 0, ofRegs [(4, .v (.bool false))], []⟩) ∨ (∃ v118 : Unit, y115 = (.inr v118) ∧ ex = (.exit 0) ∧ Weak S' ⟨26, 0, ofRegs [], []⟩)) ?_ ?_
    · refine Tri.loopF (fun (s119 : Int) => (⟨26, 0, ofRegs [(0, .sl (List.map (encI .i64) a)), (1, .sl (List.map (encI .i64) b)), (5, .v (.int .i64 s119))], []⟩ : St)) q116 (weak_fin _ rfl rfl rfl (LeH.rest) (.cons (.one (.same rfl)) (.cons (.one (.same rfl)) (.cons (.one (.same rfl)) (.nil)))) rfl rfl) ?_
      rintro a114 v120 hv r121
      have hv : ref10_Ints_l2 a b a114 = some v120 := hv
      unfold ref10_Ints_l2 at hv
      refine Tri.seqK ?_
      refine Tri.seqK ?_
      refine Tri.run (G := gm_ref10_Ints) tyOk mixed ?_
      conv => whnf
      refine ⟨⟨(a.length : Int), (len_map _ _).symm, ?_⟩⟩
      conv => whnf
      refine Tri.cond rfl (fun c123 => ?_) (fun c123 => ?_)
      · replace hv := if_t c123 hv
        refine Tri.run (G := gm_ref10_Ints) tyOk mixed ?_
        conv => whnf
        refine Tri.seqK ?_
        refine Tri.block ?_
        refine Tri.seqK ?_
        refine Tri.run (G := gm_ref10_Ints) tyOk mixed ?_
        conv => whnf
        refine Draw.one 9 (.take 0 (.take 1 (.take 2 (.take 3 (.take 4 (.take 5 (.take 6 (.take 7 (.take 8 (.fin)))))))))) [] (by kernel_rfl) ?_
        conv => whnf
        replace hv := bind_some hv
        obtain ⟨x137, q138, hv⟩ := hv
        refine ⟨(ix_some q138).1, ?_⟩
        conv => whnf
        refine ⟨⟨_, map_get (encI .i64) (ix_some q138).2, ?_⟩⟩
        conv => whnf
        refine ⟨rfl, ?_⟩
        conv => whnf
        replace hv := bind_some hv
        obtain ⟨x139, q140, hv⟩ := hv
        refine ⟨(ix_some q140).1, ?_⟩
        conv => whnf
        refine ⟨⟨_, map_get (encI .i64) (ix_some q140).2, ?_⟩⟩
        conv => whnf
        refine ⟨rfl, ?_⟩
        conv => whnf
        refine Tri.cond rfl (fun c141 => ?_) (fun c141 => ?_)
        · replace hv := if_t c141 hv
          refine Tri.seqK ?_
          refine Tri.run (G := gm_ref10_Ints) tyOk mixed ?_
          conv => whnf
          refine Tri.run (G := gm_ref10_Ints) tyOk mixed ?_
          conv => whnf
          cases hv
          obtain rfl := r121 _ rfl
          exact Or.inl ⟨_, rfl, rfl, weak_fin _ rfl rfl rfl (LeH.rest) (.cons (.one (.same rfl)) (.nil)) rfl rfl⟩
        · replace hv := if_f c141 hv
          refine Tri.run (G := gm_ref10_Ints) tyOk mixed ?_
          conv => whnf
          refine Tri.run (G := gm_ref10_Ints) tyOk mixed ?_
          conv => whnf
          cases hv
          exact ⟨_, rfl, weak_fin _ rfl rfl rfl (LeH.rest) (.cons (.one (.same rfl)) (.cons (.one (.same rfl)) (.cons (.one (.same rfl)) (.nil)))) rfl rfl⟩
      · replace hv := if_f c123 hv
        refine Tri.run (G := gm_ref10_Ints) tyOk mixed ?_
        conv => whnf
        cases hv
        obtain rfl := r121 _ rfl
        exact Or.inr (⟨_, rfl, rfl, weak_fin _ rfl rfl rfl (LeH.rest) (.nil) rfl rfl⟩)
    · rintro ex S' (⟨v117, rfl, rfl, w142⟩ | ⟨v118, rfl, rfl, w142⟩)
      · dsimp only at h
        conv => whnf
        refine fin_pre w142 ?_
        conv => whnf
        cases h
        rfl
      · dsimp only at h
        conv => whnf
        refine Tri.weak w142 ?_
        refine Tri.seqK ?_
        refine Tri.run (G := gm_ref10_Ints) tyOk mixed ?_
        conv => whnf
        refine Tri.run (G := gm_ref10_Ints) tyOk mixed ?_
        conv => whnf
        refine fin_here ?_
        conv => whnf
        cases h
        rfl
noncomputable def ref11_Reach_l44 (y3573 : (List Int)) (a3630 : (List Int)) (a3631 : Bool) (a3632 : Int) : Option (((List Int) × Bool × Int) ⊕ ((List Int) × Bool)) :=
  if (decide (a3632 < (y3573.length : Int))) then
    (
      (ix y3573 a3632).bind fun x3656 =>
      (ref11_has a3630 x3656).bind fun y3658 =>
      if (!y3658) then
        (ref11_put a3630 x3656).bind fun y3661 =>
        some (y3661, true)
      else
        some (a3630, a3631)).bind fun (y3654 : (List Int) × Bool) =>
    some (.inl (y3654.1, y3654.2, (IntKind.i64.wrap (a3632 + 1))))
  else
    some (.inr (a3630, a3631))
noncomputable def ref11_Reach_l42 (l : Locks) (a3051 : (List Int)) (a3459 : (List Int)) (a3460 : Bool) (a3461 : Int) : Option (((List Int) × Bool × Int) ⊕ ((List Int) × Bool)) :=
  if (decide (a3461 < (a3051.length : Int))) then
    (ix a3051 a3461).bind fun x3571 =>
    (ref11_After l x3571).bind fun y3573 =>
    (loop (fun (s3635 : (List Int) × Bool × Int) => ref11_Reach_l44 y3573 s3635.1 s3635.2.1 s3635.2.2) (a3459, a3460, (0 : Int))).bind fun (y3633 : (List Int) × Bool) =>
    some (.inl (y3633.1, y3633.2, (IntKind.i64.wrap (a3461 + 1))))
  else
    some (.inr (a3459, a3460))
noncomputable def ref11_Reach_l37 (l : Locks) (a3051 : (List Int)) (a3052 : Bool) : Option (((List Int) × Bool) ⊕ ((List Int))) :=
  if a3052 then
    (loop (fun (s3464 : (List Int) × Bool × Int) => ref11_Reach_l42 l a3051 s3464.1 s3464.2.1 s3464.2.2) (a3051, false, (0 : Int))).bind fun (y3462 : (List Int) × Bool) =>
    some (.inl (y3462.1, y3462.2))
  else
    some (.inr a3051)
noncomputable def ref11_Reach (l : Locks) (txn : Int) : Option ((List Int)) :=
  (ref11_After l txn).bind fun y1 =>
  (loop (fun (s3055 : (List Int) × Bool) => ref11_Reach_l37 l s3055.1 s3055.2) (y1, true)).bind fun (y3053 : (List Int)) =>
  some y3053
def gm_ref11_Reach : Gm := ⟨tys, [], [], []⟩
theorem ref11_Reach_walk (l : Locks) (txn : Int) (r : (List Int)) (h : ref11_Reach l txn = some r) : PureP Try.prog 21 [.agg [.sl (List.map encHold l.Held), .sl (List.map encClaim l.Queue)], .v (.int .i64 txn)] (fun a => a = .sl (List.map (encI .i64) r)) := by
  unfold ref11_Reach at h
  refine pureW (G := gm_ref11_Reach) tyOk Try.func21 rfl (by kernel_rfl) (by simp [Try.f21]) ?_
  refine Tri.seqK ?_
  refine Tri.run (G := gm_ref11_Reach) tyOk mixed ?_
  conv => whnf
  refine Tri.seqK ?_
  refine Tri.run (G := gm_ref11_Reach) tyOk mixed ?_
  conv => whnf
  replace h := bind_some h
  obtain ⟨y1, q2, h⟩ := h
  refine PureP.mono (ref11_After_walk l txn y1 q2) ?_
  rintro _ rfl
  conv => whnf
  refine Tri.seqK ?_
  refine Tri.run (G := gm_ref11_Reach) tyOk mixed ?_
  conv => whnf
  refine Tri.seqK ?_
  refine Tri.block ?_
  replace h := bind_some h
  obtain ⟨y3053, q3054, h⟩ := h
  refine Tri.cut (fun ex S' => ex = (.exit 0) ∧ Weak S' ⟨50, 0, ofRegs [(5, .sl (List.map (encI .i64) y3053))], []⟩) ?_ ?_
  · refine Tri.loopF (fun (s3055 : (List Int) × Bool) => (⟨50, 0, ofRegs [(2, .ptr 0 0), (5, .sl (List.map (encI .i64) s3055.1)), (6, .v (.bool s3055.2))], [.var 25 [.sl (List.map encHold l.Held), .sl (List.map encClaim l.Queue)]]⟩ : St)) q3054 (weak_fin _ rfl rfl rfl (.cons (.same rfl) (LeH.rest)) (.cons (.one (.same rfl)) (.cons (.one (.same rfl)) (.cons (.one (.same rfl)) (.nil)))) rfl rfl) ?_
    rintro ⟨a3051, a3052⟩ v3056 hv r3057
    have hv : ref11_Reach_l37 l a3051 a3052 = some v3056 := hv
    unfold ref11_Reach_l37 at hv
    dsimp only
    refine Tri.seqK ?_
    refine Tri.seqK ?_
    refine Tri.run (G := gm_ref11_Reach) tyOk mixed ?_
    conv => whnf
    refine Tri.cond rfl (fun c3059 => ?_) (fun c3059 => ?_)
    · replace hv := if_t c3059 hv
      refine Tri.run (G := gm_ref11_Reach) tyOk mixed ?_
      conv => whnf
      refine Tri.block ?_
      refine Tri.seqK ?_
      refine Tri.run (G := gm_ref11_Reach) tyOk mixed ?_
      conv => whnf
      refine Tri.seqK ?_
      refine Tri.run (G := gm_ref11_Reach) tyOk mixed ?_
      conv => whnf
      refine Tri.seqK ?_
      refine Tri.run (G := gm_ref11_Reach) tyOk mixed ?_
      conv => whnf
      refine Tri.block ?_
      replace hv := bind_some hv
      obtain ⟨y3462, q3463, hv⟩ := hv
      refine Tri.cut (fun ex S' => ex = (.exit 2) ∧ Weak S' ⟨50, 0, ofRegs [(2, .ptr 0 0), (5, .sl (List.map (encI .i64) y3462.1)), (6, .v (.bool y3462.2))], [.var 25 [.sl (List.map encHold l.Held), .sl (List.map encClaim l.Queue)]]⟩) ?_ ?_
      · refine Tri.loopF (fun (s3464 : (List Int) × Bool × Int) => (⟨50, 0, ofRegs [(2, .ptr 0 0), (5, .sl (List.map (encI .i64) s3464.1)), (6, .v (.bool s3464.2.1)), (7, .sl (List.map (encI .i64) a3051)), (8, .v (.int .i64 s3464.2.2))], [.var 25 [.sl (List.map encHold l.Held), .sl (List.map encClaim l.Queue)]]⟩ : St)) q3463 (weak_fin _ rfl rfl rfl (.cons (.same rfl) (LeH.rest)) (.cons (.one (.same rfl)) (.cons (.one (.same rfl)) (.cons (.one (.same rfl)) (.cons (.one (.same rfl)) (.cons (.one (.same rfl)) (.nil)))))) rfl rfl) ?_
        rintro ⟨a3459, a3460, a3461⟩ v3465 hv r3466
        have hv : ref11_Reach_l42 l a3051 a3459 a3460 a3461 = some v3465 := hv
        unfold ref11_Reach_l42 at hv
        dsimp only
        refine Tri.seqK ?_
        refine Tri.seqK ?_
        refine Tri.run (G := gm_ref11_Reach) tyOk mixed ?_
        conv => whnf
        refine ⟨⟨(a3051.length : Int), (len_map _ _).symm, ?_⟩⟩
        conv => whnf
        refine Tri.cond rfl (fun c3468 => ?_) (fun c3468 => ?_)
        · replace hv := if_t c3468 hv
          refine Tri.run (G := gm_ref11_Reach) tyOk mixed ?_
          conv => whnf
          refine Tri.seqK ?_
          refine Tri.block ?_
          refine Tri.seqK ?_
          refine Tri.run (G := gm_ref11_Reach) tyOk mixed ?_
          conv => whnf
          refine Draw.one 7 (.take 0 (.take 1 (.take 2 (.take 3 (.take 4 (.alt 5 (.take 6 (.fin)) (.nil))))))) [] (by kernel_rfl) ?_
          conv => whnf
          replace hv := bind_some hv
          obtain ⟨x3571, q3572, hv⟩ := hv
          refine ⟨(ix_some q3572).1, ?_⟩
          conv => whnf
          refine ⟨⟨_, map_get (encI .i64) (ix_some q3572).2, ?_⟩⟩
          conv => whnf
          refine ⟨rfl, ?_⟩
          conv => whnf
          refine ⟨?_, ?_⟩
          · conv => whnf
            replace hv := bind_some hv
            obtain ⟨y3573, q3574, hv⟩ := hv
            refine PureP.mono (ref11_After_walk l x3571 y3573 q3574) ?_
            rintro _ rfl
            conv => whnf
            refine Tri.seqK ?_
            refine Tri.run (G := gm_ref11_Reach) tyOk mixed ?_
            conv => whnf
            refine Tri.block ?_
            replace hv := bind_some hv
            obtain ⟨y3633, q3634, hv⟩ := hv
            refine Tri.cut (fun ex S' => ex = (.exit 4) ∧ Weak S' ⟨50, 0, ofRegs [(2, .ptr 0 0), (5, .sl (List.map (encI .i64) y3633.1)), (6, .v (.bool y3633.2)), (7, .sl (List.map (encI .i64) a3051)), (8, .v (.int .i64 a3461))], [.var 25 [.sl (List.map encHold l.Held), .sl (List.map encClaim l.Queue)]]⟩) ?_ ?_
            · refine Tri.loopF (fun (s3635 : (List Int) × Bool × Int) => (⟨50, 0, ofRegs [(2, .ptr 0 0), (5, .sl (List.map (encI .i64) s3635.1)), (6, .v (.bool s3635.2.1)), (7, .sl (List.map (encI .i64) a3051)), (8, .v (.int .i64 a3461)), (9, .sl (List.map (encI .i64) y3573)), (10, .v (.int .i64 s3635.2.2))], [.var 25 [.sl (List.map encHold l.Held), .sl (List.map encClaim l.Queue)]]⟩ : St)) q3634 (weak_fin _ rfl rfl rfl (.cons (.same rfl) (LeH.rest)) (.cons (.one (.same rfl)) (.cons (.one (.same rfl)) (.cons (.one (.same rfl)) (.cons (.one (.same rfl)) (.cons (.one (.same rfl)) (.cons (.one (.same rfl)) (.cons (.one (.same rfl)) (.nil)))))))) rfl rfl) ?_
              rintro ⟨a3630, a3631, a3632⟩ v3636 hv r3637
              have hv : ref11_Reach_l44 y3573 a3630 a3631 a3632 = some v3636 := hv
              unfold ref11_Reach_l44 at hv
              dsimp only
              refine Tri.seqK ?_
              refine Tri.seqK ?_
              refine Tri.run (G := gm_ref11_Reach) tyOk mixed ?_
              conv => whnf
              refine ⟨⟨(y3573.length : Int), (len_map _ _).symm, ?_⟩⟩
              conv => whnf
              refine Tri.cond rfl (fun c3639 => ?_) (fun c3639 => ?_)
              · replace hv := if_t c3639 hv
                refine Tri.run (G := gm_ref11_Reach) tyOk mixed ?_
                conv => whnf
                refine Tri.seqK ?_
                replace hv := bind_some hv
                obtain ⟨y3654, q3655, hv⟩ := hv
                refine Tri.cut (fun ex S' => ex = .normal ∧ Weak S' ⟨50, 0, ofRegs [(2, .ptr 0 0), (5, .sl (List.map (encI .i64) y3654.1)), (6, .v (.bool y3654.2)), (7, .sl (List.map (encI .i64) a3051)), (8, .v (.int .i64 a3461)), (9, .sl (List.map (encI .i64) y3573)), (10, .v (.int .i64 a3632))], [.var 25 [.sl (List.map encHold l.Held), .sl (List.map encClaim l.Queue)]]⟩) ?_ ?_
                · refine Tri.block ?_
                  refine Tri.seqK ?_
                  refine Tri.run (G := gm_ref11_Reach) tyOk mixed ?_
                  conv => whnf
                  replace q3655 := bind_some q3655
                  obtain ⟨x3656, q3657, q3655⟩ := q3655
                  refine ⟨(ix_some q3657).1, ?_⟩
                  conv => whnf
                  refine ⟨⟨_, map_get (encI .i64) (ix_some q3657).2, ?_⟩⟩
                  conv => whnf
                  refine ⟨rfl, ?_⟩
                  conv => whnf
                  replace q3655 := bind_some q3655
                  obtain ⟨y3658, q3659, q3655⟩ := q3655
                  refine PureP.mono (ref11_has_walk a3630 x3656 y3658 q3659) ?_
                  rintro _ rfl
                  conv => whnf
                  refine Tri.seqK ?_
                  refine Tri.run (G := gm_ref11_Reach) tyOk mixed ?_
                  conv => whnf
                  refine Tri.cond rfl (fun c3660 => ?_) (fun c3660 => ?_)
                  · replace q3655 := if_t c3660 q3655
                    refine Tri.seqK ?_
                    refine Tri.run (G := gm_ref11_Reach) tyOk mixed ?_
                    conv => whnf
                    refine ⟨(ix_some q3657).1, ?_⟩
                    conv => whnf
                    refine ⟨⟨_, map_get (encI .i64) (ix_some q3657).2, ?_⟩⟩
                    conv => whnf
                    refine ⟨rfl, ?_⟩
                    conv => whnf
                    replace q3655 := bind_some q3655
                    obtain ⟨y3661, q3662, q3655⟩ := q3655
                    refine PureP.mono (ref11_put_walk a3630 x3656 y3661 q3662) ?_
                    rintro _ rfl
                    conv => whnf
                    refine Tri.run (G := gm_ref11_Reach) tyOk mixed ?_
                    conv => whnf
                    cases q3655
                    exact ⟨rfl, weak_fin _ rfl rfl rfl (.cons (.same rfl) (LeH.rest)) (.cons (.one (.same rfl)) (.cons (.one (.same rfl)) (.cons (.one (.same rfl)) (.cons (.one (.same rfl)) (.cons (.one (.same rfl)) (.cons (.one (.same rfl)) (.cons (.one (.same rfl)) (.nil)))))))) rfl rfl⟩
                  · replace q3655 := if_f c3660 q3655
                    refine Tri.run (G := gm_ref11_Reach) tyOk mixed ?_
                    conv => whnf
                    cases q3655
                    exact ⟨rfl, weak_fin _ rfl rfl rfl (.cons (.same rfl) (LeH.rest)) (.cons (.one (.same rfl)) (.cons (.one (.same rfl)) (.cons (.one (.same rfl)) (.cons (.one (.same rfl)) (.cons (.one (.same rfl)) (.cons (.one (.same rfl)) (.cons (.one (.same rfl)) (.nil)))))))) rfl rfl⟩
                · rintro ex S' ⟨rfl, w3663⟩
                  conv => whnf
                  refine Tri.weak w3663 ?_
                  refine Tri.run (G := gm_ref11_Reach) tyOk mixed ?_
                  conv => whnf
                  cases hv
                  exact ⟨_, rfl, weak_fin _ rfl rfl rfl (.cons (.same rfl) (LeH.rest)) (.cons (.one (.same rfl)) (.cons (.one (.same rfl)) (.cons (.one (.same rfl)) (.cons (.one (.same rfl)) (.cons (.one (.same rfl)) (.cons (.one (.same rfl)) (.cons (.one (.same rfl)) (.nil)))))))) rfl rfl⟩
              · replace hv := if_f c3639 hv
                refine Tri.run (G := gm_ref11_Reach) tyOk mixed ?_
                conv => whnf
                cases hv
                obtain rfl := r3637 _ rfl
                exact ⟨rfl, weak_fin _ rfl rfl rfl (.cons (.same rfl) (LeH.rest)) (.cons (.one (.same rfl)) (.cons (.one (.same rfl)) (.cons (.one (.same rfl)) (.cons (.one (.same rfl)) (.cons (.one (.same rfl)) (.nil)))))) rfl rfl⟩
            · rintro ex S' ⟨rfl, w3664⟩
              conv => whnf
              refine Tri.weak w3664 ?_
              refine Tri.run (G := gm_ref11_Reach) tyOk mixed ?_
              conv => whnf
              cases hv
              exact ⟨_, rfl, weak_fin _ rfl rfl rfl (.cons (.same rfl) (LeH.rest)) (.cons (.one (.same rfl)) (.cons (.one (.same rfl)) (.cons (.one (.same rfl)) (.cons (.one (.same rfl)) (.cons (.one (.same rfl)) (.nil)))))) rfl rfl⟩
          · conv => whnf
            trivial
        · replace hv := if_f c3468 hv
          refine Tri.run (G := gm_ref11_Reach) tyOk mixed ?_
          conv => whnf
          cases hv
          obtain rfl := r3466 _ rfl
          exact ⟨rfl, weak_fin _ rfl rfl rfl (.cons (.same rfl) (LeH.rest)) (.cons (.one (.same rfl)) (.cons (.one (.same rfl)) (.cons (.one (.same rfl)) (.nil)))) rfl rfl⟩
      · rintro ex S' ⟨rfl, w3665⟩
        conv => whnf
        cases hv
        exact ⟨_, rfl, Weak.trans w3665 (weak_fin _ rfl rfl rfl (.cons (.same rfl) (LeH.rest)) (.cons (.one (.same rfl)) (.cons (.one (.same rfl)) (.cons (.one (.same rfl)) (.nil)))) rfl rfl)⟩
    · replace hv := if_f c3059 hv
      refine Tri.run (G := gm_ref11_Reach) tyOk mixed ?_
      conv => whnf
      cases hv
      obtain rfl := r3057 _ rfl
      exact ⟨rfl, weak_fin _ rfl rfl rfl (LeH.rest) (.cons (.one (.same rfl)) (.nil)) rfl rfl⟩
  · rintro ex S' ⟨rfl, w3666⟩
    conv => whnf
    refine Tri.weak w3666 ?_
    refine Tri.seqK ?_
    refine Tri.run (G := gm_ref11_Reach) tyOk mixed ?_
    conv => whnf
    refine Tri.run (G := gm_ref11_Reach) tyOk mixed ?_
    conv => whnf
    refine fin_here ?_
    conv => whnf
    cases h
    rfl
noncomputable def ref11_Ring_l2 (l : Locks) (txn : Int) (y1 : (List Int)) (a382 : Int) (a383 : (List Int)) : Option ((Int × (List Int)) ⊕ ((List Int))) :=
  if (decide (a382 < (y1.length : Int))) then
    (
      (ix y1 a382).bind fun x427 =>
      (ref11_Reach l x427).bind fun y429 =>
      (ref11_has y429 txn).bind fun y431 =>
      if y431 then
        need ((a383.length + 1) * 8 ≤ 140737488355328) <|
        some (a383 ++ [x427])
      else
        some a383).bind fun (y419 : (List Int)) =>
    some (.inl ((IntKind.i64.wrap (a382 + 1)), y419))
  else
    some (.inr a383)
noncomputable def ref11_Ring (l : Locks) (txn : Int) : Option ((List Int)) :=
  (ref11_Reach l txn).bind fun y1 =>
  (ref11_has y1 txn).bind fun y3 =>
  if (!y3) then
    some ([] : (List Int))
  else
    (loop (fun (s386 : Int × (List Int)) => ref11_Ring_l2 l txn y1 s386.1 s386.2) ((0 : Int), ([] : (List Int)))).bind fun (y384 : (List Int)) =>
    some y384
def gm_ref11_Ring : Gm := ⟨tys, [], [], []⟩
theorem ref11_Ring_walk (l : Locks) (txn : Int) (r : (List Int)) (h : ref11_Ring l txn = some r) : PureP Try.prog 23 [.agg [.sl (List.map encHold l.Held), .sl (List.map encClaim l.Queue)], .v (.int .i64 txn)] (fun a => a = .sl (List.map (encI .i64) r)) := by
  unfold ref11_Ring at h
  refine pureW (G := gm_ref11_Ring) tyOk Try.func23 rfl (by kernel_rfl) (by simp [Try.f23]) ?_
  refine Tri.seqK ?_
  refine Tri.run (G := gm_ref11_Ring) tyOk mixed ?_
  conv => whnf
  refine Tri.seqK ?_
  refine Tri.run (G := gm_ref11_Ring) tyOk mixed ?_
  conv => whnf
  replace h := bind_some h
  obtain ⟨y1, q2, h⟩ := h
  refine PureP.mono (ref11_Reach_walk l txn y1 q2) ?_
  rintro _ rfl
  conv => whnf
  refine Tri.seqK ?_
  refine Tri.run (G := gm_ref11_Ring) tyOk mixed ?_
  conv => whnf
  replace h := bind_some h
  obtain ⟨y3, q4, h⟩ := h
  refine PureP.mono (ref11_has_walk y1 txn y3 q4) ?_
  rintro _ rfl
  conv => whnf
  refine Tri.seqK ?_
  refine Tri.seqK ?_
  refine Tri.run (G := gm_ref11_Ring) tyOk mixed ?_
  conv => whnf
  refine Tri.cond rfl (fun c6 => ?_) (fun c6 => ?_)
  · replace h := if_t c6 h
    refine Tri.seqK ?_
    refine Tri.run (G := gm_ref11_Ring) tyOk mixed ?_
    conv => whnf
    refine Tri.run (G := gm_ref11_Ring) tyOk mixed ?_
    conv => whnf
    refine fin_here ?_
    conv => whnf
    cases h
    rfl
  · replace h := if_f c6 h
    refine Tri.run (G := gm_ref11_Ring) tyOk mixed ?_
    conv => whnf
    refine Tri.seqK ?_
    refine Tri.run (G := gm_ref11_Ring) tyOk mixed ?_
    conv => whnf
    refine Tri.seqK ?_
    refine Tri.seqK ?_
    refine Tri.run (G := gm_ref11_Ring) tyOk mixed ?_
    conv => whnf
    refine Tri.block ?_
    replace h := bind_some h
    obtain ⟨y384, q385, h⟩ := h
    refine Tri.cut (fun ex S' => ex = (.exit 0) ∧ Weak S' ⟨41, 0, ofRegs [(7, .row 1 ((List.map (encI .i64) y384).length))], [.gone, .row 3 1 (List.map (encI .i64) y384)]⟩) ?_ ?_
    · refine Tri.loopF (fun (s386 : Int × (List Int)) => (⟨41, 0, ofRegs [(1, .v (.int .i64 txn)), (2, .ptr 0 0), (5, .sl (List.map (encI .i64) y1)), (7, .row 1 ((List.map (encI .i64) s386.2).length)), (8, .v (.int .i64 s386.1))], [.var 25 [.sl (List.map encHold l.Held), .sl (List.map encClaim l.Queue)], .row 3 1 (List.map (encI .i64) s386.2)]⟩ : St)) q385 (Weak.trans (weak_nil 7 3 1 rfl) (weak_fin _ rfl rfl rfl (.cons (.same rfl) (.cons (.same rfl) (LeH.rest))) (.cons (.one (.same rfl)) (.cons (.one (.same rfl)) (.cons (.one (.same rfl)) (.cons (.one (.same (show (.row 1 0 : AV) = (.row 1 ((List.map (encI .i64) []).length) : AV) from congrArg (AV.row 1) (by simp)))) (.cons (.one (.same rfl)) (.nil)))))) rfl rfl)) ?_
      rintro ⟨a382, a383⟩ v387 hv r388
      have hv : ref11_Ring_l2 l txn y1 a382 a383 = some v387 := hv
      unfold ref11_Ring_l2 at hv
      dsimp only
      refine Tri.seqK ?_
      refine Tri.seqK ?_
      refine Tri.run (G := gm_ref11_Ring) tyOk mixed ?_
      conv => whnf
      refine ⟨⟨(y1.length : Int), (len_map _ _).symm, ?_⟩⟩
      conv => whnf
      refine Tri.cond rfl (fun c390 => ?_) (fun c390 => ?_)
      · replace hv := if_t c390 hv
        refine Tri.run (G := gm_ref11_Ring) tyOk mixed ?_
        conv => whnf
        refine Tri.seqK ?_
        replace hv := bind_some hv
        obtain ⟨y419, q420, hv⟩ := hv
        refine Tri.cut (fun ex S' => ex = .normal ∧ Weak S' ⟨41, 0, ofRegs [(1, .v (.int .i64 txn)), (2, .ptr 0 0), (5, .sl (List.map (encI .i64) y1)), (7, .row 1 ((List.map (encI .i64) y419).length)), (8, .v (.int .i64 a382))], [.var 25 [.sl (List.map encHold l.Held), .sl (List.map encClaim l.Queue)], .row 3 1 (List.map (encI .i64) y419)]⟩) ?_ ?_
        · refine Tri.block ?_
          refine Tri.seqK ?_
          refine Tri.run (G := gm_ref11_Ring) tyOk mixed ?_
          conv => whnf
          refine Draw.one 9 (.take 0 (.take 1 (.take 2 (.take 3 (.take 4 (.take 6 (.alt 5 (.alt 7 (.take 8 (.fin)) (.nil)) (.nil)))))))) [] (by kernel_rfl) ?_
          conv => whnf
          replace q420 := bind_some q420
          obtain ⟨x427, q428, q420⟩ := q420
          refine ⟨(ix_some q428).1, ?_⟩
          conv => whnf
          refine ⟨⟨_, map_get (encI .i64) (ix_some q428).2, ?_⟩⟩
          conv => whnf
          refine ⟨rfl, ?_⟩
          conv => whnf
          refine ⟨?_, ?_⟩
          · conv => whnf
            replace q420 := bind_some q420
            obtain ⟨y429, q430, q420⟩ := q420
            refine PureP.mono (ref11_Reach_walk l x427 y429 q430) ?_
            rintro _ rfl
            conv => whnf
            refine ⟨?_, ?_⟩
            · conv => whnf
              replace q420 := bind_some q420
              obtain ⟨y431, q432, q420⟩ := q420
              refine PureP.mono (ref11_has_walk y429 txn y431 q432) ?_
              rintro _ rfl
              conv => whnf
              refine Tri.seqK ?_
              refine Tri.run (G := gm_ref11_Ring) tyOk mixed ?_
              conv => whnf
              refine Tri.cond rfl (fun c433 => ?_) (fun c433 => ?_)
              · replace q420 := if_t c433 q420
                refine Tri.run (G := gm_ref11_Ring) tyOk mixed ?_
                conv => whnf
                refine ⟨(ix_some q428).1, ?_⟩
                conv => whnf
                refine ⟨⟨_, map_get (encI .i64) (ix_some q428).2, ?_⟩⟩
                conv => whnf
                refine ⟨rfl, ?_⟩
                conv => whnf
                refine ⟨⟨List.map (encI .i64) [x427], rfl, ?_⟩⟩
                conv => whnf
                refine ⟨rfl, ?_⟩
                conv => whnf
                refine ⟨rfl, ?_⟩
                conv => whnf
                replace q420 := need_some q420
                obtain ⟨p434, q420⟩ := q420
                refine ⟨by simp only [List.length_map]; exact p434, ?_⟩
                conv => whnf
                refine ⟨⟨List.map (encI .i64) (a383 ++ [x427]), map_app (encI .i64) _ _ rfl rfl, ?_⟩⟩
                conv => whnf
                cases q420
                exact ⟨rfl, weak_fin _ rfl rfl rfl (.cons (.same rfl) (.cons (.same rfl) (LeH.rest))) (.cons (.one (.same rfl)) (.cons (.one (.same rfl)) (.cons (.one (.same rfl)) (.cons (.one (.same rfl)) (.cons (.one (.same rfl)) (.nil)))))) rfl rfl⟩
              · replace q420 := if_f c433 q420
                refine Tri.run (G := gm_ref11_Ring) tyOk mixed ?_
                conv => whnf
                cases q420
                exact ⟨rfl, weak_fin _ rfl rfl rfl (.cons (.same rfl) (.cons (.same rfl) (LeH.rest))) (.cons (.one (.same rfl)) (.cons (.one (.same rfl)) (.cons (.one (.same rfl)) (.cons (.one (.same rfl)) (.cons (.one (.same rfl)) (.nil)))))) rfl rfl⟩
            · conv => whnf
              trivial
          · conv => whnf
            trivial
        · rintro ex S' ⟨rfl, w435⟩
          conv => whnf
          refine Tri.weak w435 ?_
          refine Tri.run (G := gm_ref11_Ring) tyOk mixed ?_
          conv => whnf
          cases hv
          exact ⟨_, rfl, weak_fin _ rfl rfl rfl (.cons (.same rfl) (.cons (.same rfl) (LeH.rest))) (.cons (.one (.same rfl)) (.cons (.one (.same rfl)) (.cons (.one (.same rfl)) (.cons (.one (.same rfl)) (.cons (.one (.same rfl)) (.nil)))))) rfl rfl⟩
      · replace hv := if_f c390 hv
        refine Tri.run (G := gm_ref11_Ring) tyOk mixed ?_
        conv => whnf
        cases hv
        obtain rfl := r388 _ rfl
        exact ⟨rfl, weak_fin _ rfl rfl rfl (.cons (.gone) (.cons (.same rfl) (LeH.rest))) (.cons (.one (.same rfl)) (.nil)) rfl rfl⟩
    · rintro ex S' ⟨rfl, w436⟩
      conv => whnf
      refine Tri.weak w436 ?_
      refine Tri.seqK ?_
      refine Tri.run (G := gm_ref11_Ring) tyOk mixed ?_
      conv => whnf
      refine Tri.run (G := gm_ref11_Ring) tyOk mixed ?_
      conv => whnf
      refine fin_here ?_
      conv => whnf
      refine ⟨rfl, ?_⟩
      conv => whnf
      cases h
      rfl
noncomputable def ref11_Victim (l : Locks) (txn : Int) : Option (Int × Bool) :=
  (ref11_Ring l txn).bind fun y1 =>
  if (decide ((y1.length : Int) = 0)) then
    some (0, false)
  else
    (ix y1 (IntKind.i64.wrap ((y1.length : Int) - 1))).bind fun x5 =>
    some (x5, true)
def gm_ref11_Victim : Gm := ⟨tys, [], [], []⟩
theorem ref11_Victim_walk (l : Locks) (txn : Int) (r : Int × Bool) (h : ref11_Victim l txn = some r) : PureP Try.prog 25 [.agg [.sl (List.map encHold l.Held), .sl (List.map encClaim l.Queue)], .v (.int .i64 txn)] (fun a => a = .tup [.v (.int .i64 r.1), .v (.bool r.2)]) := by
  unfold ref11_Victim at h
  refine pureW (G := gm_ref11_Victim) tyOk Try.func25 rfl (by kernel_rfl) (by simp [Try.f25]) ?_
  refine Tri.seqK ?_
  refine Tri.run (G := gm_ref11_Victim) tyOk mixed ?_
  conv => whnf
  refine Tri.seqK ?_
  refine Tri.run (G := gm_ref11_Victim) tyOk mixed ?_
  conv => whnf
  replace h := bind_some h
  obtain ⟨y1, q2, h⟩ := h
  refine PureP.mono (ref11_Ring_walk l txn y1 q2) ?_
  rintro _ rfl
  conv => whnf
  refine Tri.seqK ?_
  refine Tri.seqK ?_
  refine Tri.run (G := gm_ref11_Victim) tyOk mixed ?_
  conv => whnf
  refine ⟨⟨(y1.length : Int), (len_map _ _).symm, ?_⟩⟩
  conv => whnf
  refine Tri.cond rfl (fun c4 => ?_) (fun c4 => ?_)
  · replace h := if_t c4 h
    refine Tri.seqK ?_
    refine Tri.run (G := gm_ref11_Victim) tyOk mixed ?_
    conv => whnf
    refine Tri.run (G := gm_ref11_Victim) tyOk mixed ?_
    conv => whnf
    refine fin_here ?_
    conv => whnf
    cases h
    rfl
  · replace h := if_f c4 h
    refine Tri.run (G := gm_ref11_Victim) tyOk mixed ?_
    conv => whnf
    refine Tri.seqK ?_
    refine Tri.run (G := gm_ref11_Victim) tyOk mixed ?_
    conv => whnf
    refine ⟨⟨(y1.length : Int), (len_map _ _).symm, ?_⟩⟩
    conv => whnf
    replace h := bind_some h
    obtain ⟨x5, q6, h⟩ := h
    refine ⟨(ix_some q6).1, ?_⟩
    conv => whnf
    refine ⟨⟨_, map_get (encI .i64) (ix_some q6).2, ?_⟩⟩
    conv => whnf
    refine ⟨rfl, ?_⟩
    conv => whnf
    refine Tri.run (G := gm_ref11_Victim) tyOk mixed ?_
    conv => whnf
    refine fin_here ?_
    conv => whnf
    cases h
    rfl
noncomputable def law11_RingTells (l : Locks) (txn : Int) : Option (Bool) :=
  law11_shown.bind fun y1 =>
  (law11_small l).bind fun y3 =>
  if ((!y1) || (!y3)) then
    some y1
  else
    (ring_After l txn).bind fun y23 =>
    (ref11_After l txn).bind fun y25 =>
    (ref10_Ints y23 y25).bind fun y27 =>
    (ring_Reach l txn).bind fun y35 =>
    (ref11_Reach l txn).bind fun y37 =>
    (ref10_Ints y35 y37).bind fun y39 =>
    (ring_Ring l txn).bind fun y47 =>
    (ref11_Ring l txn).bind fun y49 =>
    (ref10_Ints y47 y49).bind fun y51 =>
    (ring_Victim l txn).bind fun y53 =>
    (ref11_Victim l txn).bind fun y55 =>
    if y27 then
      if y39 then
        if y51 then
          if (decide (y53.1 = y55.1)) then
            some (y53.2 == y55.2)
          else
            some false
        else
          some false
      else
        some false
    else
      some false
def gm_law11_RingTells : Gm := ⟨tys, [], [(20, 3, 1)], []⟩
theorem law11_RingTells_walk (l : Locks) (txn : Int) (r : Bool) (h : law11_RingTells l txn = some r) : PureP Try.prog 3 [.agg [.sl (List.map encHold l.Held), .sl (List.map encClaim l.Queue)], .v (.int .i64 txn)] (fun a => a = .v (.bool r)) := by
  unfold law11_RingTells at h
  refine pureW (G := gm_law11_RingTells) tyOk Try.func3 rfl (by kernel_rfl) (by simp [Try.f3]) ?_
  refine Tri.seqK ?_
  refine Tri.run (G := gm_law11_RingTells) tyOk mixed ?_
  conv => whnf
  refine Tri.seqK ?_
  refine Tri.run (G := gm_law11_RingTells) tyOk mixed ?_
  conv => whnf
  replace h := bind_some h
  obtain ⟨y1, q2, h⟩ := h
  refine PureP.mono (law11_shown_walk y1 q2) ?_
  rintro _ rfl
  conv => whnf
  refine Tri.seqK ?_
  refine Tri.run (G := gm_law11_RingTells) tyOk mixed ?_
  conv => whnf
  replace h := bind_some h
  obtain ⟨y3, q4, h⟩ := h
  refine PureP.mono (law11_small_walk l y3 q4) ?_
  rintro _ rfl
  conv => whnf
  refine Tri.seqK ?_
  refine Tri.seqK ?_
  refine Tri.cut (fun ex S' => ex = .normal ∧ Weak S' ⟨74, 0, ofRegs [(1, .v (.int .i64 txn)), (2, .ptr 0 0), (5, .v (.bool y1)), (22, .v (.bool ((!y1) || (!y3))))], [.var 25 [.sl (List.map encHold l.Held), .sl (List.map encClaim l.Queue)]]⟩) ?_ ?_
  · refine Tri.run (G := gm_law11_RingTells) tyOk mixed ?_
    conv => whnf
    refine cond_mk (fun c14 => ?_) (fun c14 => ?_)
    · replace c14 : (!y1) = true := c14
      conv => whnf
      exact ⟨rfl, weak_fin _ rfl rfl rfl (.cons (.same rfl) (LeH.rest)) (.cons (.one (.same rfl)) (.cons (.one (.same rfl)) (.cons (.one (.same rfl)) (.cons (.one (.same (show (.v (.bool true) : AV) = (.v (.bool ((!y1) || (!y3))) : AV) from by first | (simp [c14]; done) | simp only [c14, Bool.or_true, Bool.true_or, Bool.false_or, Bool.or_false, Bool.and_true, Bool.true_and, Bool.and_false, Bool.false_and, Bool.not_true, Bool.not_false, if_true, if_false, Bool.false_eq_true]))) (.nil))))) rfl rfl⟩
    · replace c14 : (!y1) = false := c14
      conv => whnf
      exact ⟨rfl, weak_fin _ rfl rfl rfl (.cons (.same rfl) (LeH.rest)) (.cons (.one (.same rfl)) (.cons (.one (.same rfl)) (.cons (.one (.same rfl)) (.cons (.one (.same (show (.v (.bool (!y3)) : AV) = (.v (.bool ((!y1) || (!y3))) : AV) from by first | (simp [c14]; done) | simp only [c14, Bool.or_true, Bool.true_or, Bool.false_or, Bool.or_false, Bool.and_true, Bool.true_and, Bool.and_false, Bool.false_and, Bool.not_true, Bool.not_false, if_true, if_false, Bool.false_eq_true]))) (.nil))))) rfl rfl⟩
  · rintro ex S' ⟨rfl, w15⟩
    conv => whnf
    refine Tri.weak w15 ?_
    refine Tri.cond rfl (fun c16 => ?_) (fun c16 => ?_)
    · replace h := if_t c16 h
      refine Tri.seqK ?_
      refine Tri.run (G := gm_law11_RingTells) tyOk mixed ?_
      conv => whnf
      refine Tri.run (G := gm_law11_RingTells) tyOk mixed ?_
      conv => whnf
      refine fin_here ?_
      conv => whnf
      cases h
      rfl
    · replace h := if_f c16 h
      refine Tri.run (G := gm_law11_RingTells) tyOk mixed ?_
      conv => whnf
      refine Tri.seqK ?_
      refine Tri.run (G := gm_law11_RingTells) tyOk mixed ?_
      conv => whnf
      refine Draw.one 8 (.take 0 (.take 1 (.take 3 (.take 4 (.alt 2 (.alt 5 (.alt 6 (.take 7 (.fin)) (.nil)) (.nil)) (.nil)))))) [] (by kernel_rfl) ?_
      conv => whnf
      refine ⟨?_, ?_⟩
      · conv => whnf
        replace h := bind_some h
        obtain ⟨y23, q24, h⟩ := h
        refine PureP.mono (ring_After_walk l txn y23 q24) ?_
        rintro _ rfl
        conv => whnf
        refine ⟨?_, ?_⟩
        · conv => whnf
          replace h := bind_some h
          obtain ⟨y25, q26, h⟩ := h
          refine PureP.mono (ref11_After_walk l txn y25 q26) ?_
          rintro _ rfl
          conv => whnf
          refine ⟨?_, ?_⟩
          · conv => whnf
            replace h := bind_some h
            obtain ⟨y27, q28, h⟩ := h
            refine PureP.mono (ref10_Ints_walk y23 y25 y27 q28) ?_
            rintro _ rfl
            conv => whnf
            refine Tri.seqK ?_
            refine Tri.run (G := gm_law11_RingTells) tyOk mixed ?_
            conv => whnf
            refine Draw.one 8 (.take 0 (.take 1 (.take 3 (.take 4 (.alt 2 (.alt 5 (.alt 6 (.take 7 (.fin)) (.nil)) (.nil)) (.nil)))))) [] (by kernel_rfl) ?_
            conv => whnf
            refine ⟨?_, ?_⟩
            · conv => whnf
              replace h := bind_some h
              obtain ⟨y35, q36, h⟩ := h
              refine FreshP.mono (ring_Reach_walk l txn y35 q36) ?_
              rintro _ rfl
              conv => whnf
              refine ⟨?_, ?_⟩
              · conv => whnf
                replace h := bind_some h
                obtain ⟨y37, q38, h⟩ := h
                refine PureP.mono (ref11_Reach_walk l txn y37 q38) ?_
                rintro _ rfl
                conv => whnf
                refine ⟨?_, ?_⟩
                · conv => whnf
                  refine ⟨rfl, ?_⟩
                  conv => whnf
                  replace h := bind_some h
                  obtain ⟨y39, q40, h⟩ := h
                  refine PureP.mono (ref10_Ints_walk y35 y37 y39 q40) ?_
                  rintro _ rfl
                  conv => whnf
                  refine Tri.seqK ?_
                  refine Tri.run (G := gm_law11_RingTells) tyOk mixed ?_
                  conv => whnf
                  refine Draw.one 8 (.take 0 (.take 1 (.take 3 (.take 4 (.alt 2 (.alt 5 (.alt 6 (.take 7 (.fin)) (.nil)) (.nil)) (.nil)))))) [] (by kernel_rfl) ?_
                  conv => whnf
                  refine ⟨?_, ?_⟩
                  · conv => whnf
                    replace h := bind_some h
                    obtain ⟨y47, q48, h⟩ := h
                    refine PureP.mono (ring_Ring_walk l txn y47 q48) ?_
                    rintro _ rfl
                    conv => whnf
                    refine ⟨?_, ?_⟩
                    · conv => whnf
                      replace h := bind_some h
                      obtain ⟨y49, q50, h⟩ := h
                      refine PureP.mono (ref11_Ring_walk l txn y49 q50) ?_
                      rintro _ rfl
                      conv => whnf
                      refine ⟨?_, ?_⟩
                      · conv => whnf
                        replace h := bind_some h
                        obtain ⟨y51, q52, h⟩ := h
                        refine PureP.mono (ref10_Ints_walk y47 y49 y51 q52) ?_
                        rintro _ rfl
                        conv => whnf
                        refine Tri.seqK ?_
                        refine Tri.run (G := gm_law11_RingTells) tyOk mixed ?_
                        conv => whnf
                        replace h := bind_some h
                        obtain ⟨y53, q54, h⟩ := h
                        refine PureP.mono (ring_Victim_walk l txn y53 q54) ?_
                        rintro _ rfl
                        conv => whnf
                        refine Tri.seqK ?_
                        refine Tri.run (G := gm_law11_RingTells) tyOk mixed ?_
                        conv => whnf
                        replace h := bind_some h
                        obtain ⟨y55, q56, h⟩ := h
                        refine PureP.mono (ref11_Victim_walk l txn y55 q56) ?_
                        rintro _ rfl
                        conv => whnf
                        refine Tri.seqK ?_
                        refine Tri.run (G := gm_law11_RingTells) tyOk mixed ?_
                        conv => whnf
                        refine cond_mk (fun c57 => ?_) (fun c57 => ?_)
                        · replace h := if_t c57 h
                          conv => whnf
                          refine cond_mk (fun c58 => ?_) (fun c58 => ?_)
                          · replace h := if_t c58 h
                            conv => whnf
                            refine cond_mk (fun c59 => ?_) (fun c59 => ?_)
                            · replace h := if_t c59 h
                              conv => whnf
                              refine cond_mk (fun c60 => ?_) (fun c60 => ?_)
                              · replace h := if_t c60 h
                                conv => whnf
                                refine Tri.run (G := gm_law11_RingTells) tyOk mixed ?_
                                conv => whnf
                                refine fin_here ?_
                                conv => whnf
                                cases h
                                rfl
                              · replace h := if_f c60 h
                                conv => whnf
                                refine Tri.run (G := gm_law11_RingTells) tyOk mixed ?_
                                conv => whnf
                                refine fin_here ?_
                                conv => whnf
                                cases h
                                rfl
                            · replace h := if_f c59 h
                              conv => whnf
                              refine Tri.run (G := gm_law11_RingTells) tyOk mixed ?_
                              conv => whnf
                              refine fin_here ?_
                              conv => whnf
                              cases h
                              rfl
                          · replace h := if_f c58 h
                            conv => whnf
                            refine Tri.run (G := gm_law11_RingTells) tyOk mixed ?_
                            conv => whnf
                            refine fin_here ?_
                            conv => whnf
                            cases h
                            rfl
                        · replace h := if_f c57 h
                          conv => whnf
                          refine Tri.run (G := gm_law11_RingTells) tyOk mixed ?_
                          conv => whnf
                          refine fin_here ?_
                          conv => whnf
                          cases h
                          rfl
                      · conv => whnf
                        trivial
                    · conv => whnf
                      trivial
                  · conv => whnf
                    trivial
                · conv => whnf
                  trivial
              · conv => whnf
                trivial
            · conv => whnf
              trivial
          · conv => whnf
            trivial
        · conv => whnf
          trivial
      · conv => whnf
        trivial
noncomputable def law11_has_l2 (l : (List Int)) (n : Int) (a52 : Int) : Option ((Int) ⊕ ((Unit) ⊕ (Unit))) :=
  if (decide (a52 < (l.length : Int))) then
    (ix l a52).bind fun x65 =>
    if (decide (x65 = n)) then
      some (.inr (.inl ()))
    else
      some (.inl (IntKind.i64.wrap (a52 + 1)))
  else
    some (.inr (.inr ()))
noncomputable def law11_has (l : (List Int)) (n : Int) : Option (Bool) :=
  (loop (fun (s57 : Int) => law11_has_l2 l n s57) (0 : Int)).bind fun (y53 : (Unit) ⊕ (Unit)) =>
  match y53 with
  | (.inl v55) =>
    some true
  | (.inr v56) =>
    some false
def gm_law11_has : Gm := ⟨tys, [], [], []⟩
theorem law11_has_walk (l : (List Int)) (n : Int) (r : Bool) (h : law11_has l n = some r) : PureP Try.prog 26 [.sl (List.map (encI .i64) l), .v (.int .i64 n)] (fun a => a = .v (.bool r)) := by
  unfold law11_has at h
  refine pureW (G := gm_law11_has) tyOk Try.func26 rfl (by kernel_rfl) (by simp [Try.f26]) ?_
  refine Tri.seqK ?_
  refine Tri.run (G := gm_law11_has) tyOk mixed ?_
  conv => whnf
  refine Tri.seqK ?_
  refine Tri.seqK ?_
  refine Tri.run (G := gm_law11_has) tyOk mixed ?_
  conv => whnf
  refine Tri.block ?_
  replace h := bind_some h
  obtain ⟨y53, q54, h⟩ := h
  refine Tri.cut (fun ex S' => (∃ v55 : Unit, y53 = (.inl v55) ∧ ex = .ret ∧ Weak S' ⟨18, 0, ofRegs [(4, .v (.bool true))], []⟩) ∨ (∃ v56 : Unit, y53 = (.inr v56) ∧ ex = (.exit 0) ∧ Weak S' ⟨18, 0, ofRegs [], []⟩)) ?_ ?_
  · refine Tri.loopF (fun (s57 : Int) => (⟨18, 0, ofRegs [(0, .sl (List.map (encI .i64) l)), (1, .v (.int .i64 n)), (5, .v (.int .i64 s57))], []⟩ : St)) q54 (weak_fin _ rfl rfl rfl (LeH.rest) (.cons (.one (.same rfl)) (.cons (.one (.same rfl)) (.cons (.one (.same rfl)) (.nil)))) rfl rfl) ?_
    rintro a52 v58 hv r59
    have hv : law11_has_l2 l n a52 = some v58 := hv
    unfold law11_has_l2 at hv
    refine Tri.seqK ?_
    refine Tri.seqK ?_
    refine Tri.run (G := gm_law11_has) tyOk mixed ?_
    conv => whnf
    refine ⟨⟨(l.length : Int), (len_map _ _).symm, ?_⟩⟩
    conv => whnf
    refine Tri.cond rfl (fun c61 => ?_) (fun c61 => ?_)
    · replace hv := if_t c61 hv
      refine Tri.run (G := gm_law11_has) tyOk mixed ?_
      conv => whnf
      refine Tri.seqK ?_
      refine Tri.block ?_
      refine Tri.seqK ?_
      refine Tri.run (G := gm_law11_has) tyOk mixed ?_
      conv => whnf
      replace hv := bind_some hv
      obtain ⟨x65, q66, hv⟩ := hv
      refine ⟨(ix_some q66).1, ?_⟩
      conv => whnf
      refine ⟨⟨_, map_get (encI .i64) (ix_some q66).2, ?_⟩⟩
      conv => whnf
      refine ⟨rfl, ?_⟩
      conv => whnf
      refine Tri.cond rfl (fun c67 => ?_) (fun c67 => ?_)
      · replace hv := if_t c67 hv
        refine Tri.seqK ?_
        refine Tri.run (G := gm_law11_has) tyOk mixed ?_
        conv => whnf
        refine Tri.run (G := gm_law11_has) tyOk mixed ?_
        conv => whnf
        cases hv
        obtain rfl := r59 _ rfl
        exact Or.inl ⟨_, rfl, rfl, weak_fin _ rfl rfl rfl (LeH.rest) (.cons (.one (.same rfl)) (.nil)) rfl rfl⟩
      · replace hv := if_f c67 hv
        refine Tri.run (G := gm_law11_has) tyOk mixed ?_
        conv => whnf
        refine Tri.run (G := gm_law11_has) tyOk mixed ?_
        conv => whnf
        cases hv
        exact ⟨_, rfl, weak_fin _ rfl rfl rfl (LeH.rest) (.cons (.one (.same rfl)) (.cons (.one (.same rfl)) (.cons (.one (.same rfl)) (.nil)))) rfl rfl⟩
    · replace hv := if_f c61 hv
      refine Tri.run (G := gm_law11_has) tyOk mixed ?_
      conv => whnf
      cases hv
      obtain rfl := r59 _ rfl
      exact Or.inr (⟨_, rfl, rfl, weak_fin _ rfl rfl rfl (LeH.rest) (.nil) rfl rfl⟩)
  · rintro ex S' (⟨v55, rfl, rfl, w68⟩ | ⟨v56, rfl, rfl, w68⟩)
    · dsimp only at h
      conv => whnf
      refine fin_pre w68 ?_
      conv => whnf
      cases h
      rfl
    · dsimp only at h
      conv => whnf
      refine Tri.weak w68 ?_
      refine Tri.seqK ?_
      refine Tri.run (G := gm_law11_has) tyOk mixed ?_
      conv => whnf
      refine Tri.run (G := gm_law11_has) tyOk mixed ?_
      conv => whnf
      refine fin_here ?_
      conv => whnf
      cases h
      rfl
end Go.Ab
