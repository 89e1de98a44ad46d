/- The program's functions as plain Lean functions, and that the program comes to what they come to. Printed by a program of this session. -/
import Derived.Test.YtdoceelfokmhfaaW1
import Derived.Test.YtdoceelfokmhfaaSh
namespace Go.Ab
open Go.Proofs
set_option linter.unusedVariables false
set_option linter.unusedSimpArgs false
set_option maxRecDepth 100000
set_option maxHeartbeats 4000000
noncomputable def ref10_put_l2 (l : (List Int)) (n : Int) (a748 : Bool) (a749 : Int) (a750 : (List Int)) : Option ((Bool × Int × (List Int)) ⊕ (Bool × (List Int))) :=
  if (decide (a749 < (l.length : Int))) then
    (
      (ix l a749).bind fun x826 =>
      if (decide (x826 = n)) then
        some true
      else
        some a748).bind fun (y824 : Bool) =>
    (
      (
        if (!y824) then
          (ix l a749).bind fun x869 =>
          some (decide (x869 > n))
        else
          some false).bind fun (y866 : Bool) =>
      if y866 then
        need ((a750.length + 1) * 8 ≤ 140737488355328) <|
        some (true, (a750 ++ [n]))
      else
        some (y824, a750)).bind fun (y858 : Bool × (List Int)) =>
    (ix l a749).bind fun x875 =>
    need ((y858.2.length + 1) * 8 ≤ 140737488355328) <|
    some (.inl (y858.1, (IntKind.i64.wrap (a749 + 1)), (y858.2 ++ [x875])))
  else
    some (.inr (a748, a750))
noncomputable def ref10_put (l : (List Int)) (n : Int) : Option ((List Int)) :=
  (loop (fun (s753 : Bool × Int × (List Int)) => ref10_put_l2 l n s753.1 s753.2.1 s753.2.2) (false, (0 : Int), ([] : (List Int)))).bind fun (y751 : Bool × (List Int)) =>
  (
    if (!y751.1) then
      need ((y751.2.length + 1) * 8 ≤ 140737488355328) <|
      some (y751.2 ++ [n])
    else
      some y751.2).bind fun (y883 : (List Int)) =>
  some y883
def gm_ref10_put : Gm := ⟨tys, [], [], []⟩
theorem ref10_put_walk (l : (List Int)) (n : Int) (r : (List Int)) (h : ref10_put l n = some r) : PureP Try.prog 78 [.sl (List.map (encI .i64) l), .v (.int .i64 n)] (fun a => a = .sl (List.map (encI .i64) r)) := by
  unfold ref10_put at h
  refine pureW (G := gm_ref10_put) tyOk Try.func78 rfl (by kernel_rfl) (by simp [Try.f78]) ?_
  refine Tri.seqK ?_
  refine Tri.run (G := gm_ref10_put) tyOk mixed ?_
  conv => whnf
  refine Tri.seqK ?_
  refine Tri.run (G := gm_ref10_put) tyOk mixed ?_
  conv => whnf
  refine Tri.seqK ?_
  refine Tri.run (G := gm_ref10_put) tyOk mixed ?_
  conv => whnf
  refine Tri.seqK ?_
  refine Tri.seqK ?_
  refine Tri.run (G := gm_ref10_put) tyOk mixed ?_
  conv => whnf
  refine Tri.block ?_
  replace h := bind_some h
  obtain ⟨y751, q752, h⟩ := h
  refine Tri.cut (fun ex S' => ex = (.exit 0) ∧ Weak S' ⟨48, 0, ofRegs [(1, .v (.int .i64 n)), (5, .row 0 ((List.map (encI .i64) y751.2).length)), (6, .v (.bool y751.1))], [.row 3 1 (List.map (encI .i64) y751.2)]⟩) ?_ ?_
  · refine Tri.loopF (fun (s753 : Bool × Int × (List Int)) => (⟨48, 0, ofRegs [(0, .sl (List.map (encI .i64) l)), (1, .v (.int .i64 n)), (5, .row 0 ((List.map (encI .i64) s753.2.2).length)), (6, .v (.bool s753.1)), (7, .v (.int .i64 s753.2.1))], [.row 3 1 (List.map (encI .i64) s753.2.2)]⟩ : St)) q752 (Weak.trans (weak_nil 5 3 1 rfl) (weak_fin _ rfl rfl rfl (.cons (.same rfl) (LeH.rest)) (.cons (.one (.same rfl)) (.cons (.one (.same rfl)) (.cons (.one (.same (show (.row 0 0 : AV) = (.row 0 ((List.map (encI .i64) []).length) : AV) from congrArg (AV.row 0) (by simp)))) (.cons (.one (.same rfl)) (.cons (.one (.same rfl)) (.nil)))))) rfl rfl)) ?_
    rintro ⟨a748, a749, a750⟩ v754 hv r755
    have hv : ref10_put_l2 l n a748 a749 a750 = some v754 := hv
    unfold ref10_put_l2 at hv
    dsimp only
    refine Tri.seqK ?_
    refine Tri.seqK ?_
    refine Tri.run (G := gm_ref10_put) tyOk mixed ?_
    conv => whnf
    refine ⟨⟨(l.length : Int), (len_map _ _).symm, ?_⟩⟩
    conv => whnf
    refine Tri.cond rfl (fun c757 => ?_) (fun c757 => ?_)
    · replace hv := if_t c757 hv
      refine Tri.run (G := gm_ref10_put) tyOk mixed ?_
      conv => whnf
      refine Tri.seqK ?_
      refine Tri.block ?_
      refine Tri.seqK ?_
      replace hv := bind_some hv
      obtain ⟨y824, q825, hv⟩ := hv
      refine Tri.cut (fun ex S' => ex = .normal ∧ Weak S' ⟨48, 0, ofRegs [(0, .sl (List.map (encI .i64) l)), (1, .v (.int .i64 n)), (5, .row 0 ((List.map (encI .i64) a750).length)), (6, .v (.bool y824)), (7, .v (.int .i64 a749))], [.row 3 1 (List.map (encI .i64) a750)]⟩) ?_ ?_
      · refine Tri.seqK ?_
        refine Tri.run (G := gm_ref10_put) tyOk mixed ?_
        conv => whnf
        replace q825 := bind_some q825
        obtain ⟨x826, q827, q825⟩ := q825
        refine ⟨(ix_some q827).1, ?_⟩
        conv => whnf
        refine ⟨⟨_, map_get (encI .i64) (ix_some q827).2, ?_⟩⟩
        conv => whnf
        refine ⟨rfl, ?_⟩
        conv => whnf
        refine Tri.cond rfl (fun c828 => ?_) (fun c828 => ?_)
        · replace q825 := if_t c828 q825
          refine Tri.run (G := gm_ref10_put) tyOk mixed ?_
          conv => whnf
          cases q825
          exact ⟨rfl, weak_fin _ rfl rfl rfl (.cons (.same rfl) (LeH.rest)) (.cons (.one (.same rfl)) (.cons (.one (.same rfl)) (.cons (.one (.same rfl)) (.cons (.one (.same rfl)) (.cons (.one (.same rfl)) (.nil)))))) rfl rfl⟩
        · replace q825 := if_f c828 q825
          refine Tri.run (G := gm_ref10_put) tyOk mixed ?_
          conv => whnf
          cases q825
          exact ⟨rfl, weak_fin _ rfl rfl rfl (.cons (.same rfl) (LeH.rest)) (.cons (.one (.same rfl)) (.cons (.one (.same rfl)) (.cons (.one (.same rfl)) (.cons (.one (.same rfl)) (.cons (.one (.same rfl)) (.nil)))))) rfl rfl⟩
      · rintro ex S' ⟨rfl, w829⟩
        conv => whnf
        refine Tri.weak w829 ?_
        refine Tri.seqK ?_
        replace hv := bind_some hv
        obtain ⟨y858, q859, hv⟩ := hv
        refine Tri.cut (fun ex S' => ex = .normal ∧ Weak S' ⟨48, 0, ofRegs [(0, .sl (List.map (encI .i64) l)), (1, .v (.int .i64 n)), (5, .row 0 ((List.map (encI .i64) y858.2).length)), (6, .v (.bool y858.1)), (7, .v (.int .i64 a749))], [.row 3 1 (List.map (encI .i64) y858.2)]⟩) ?_ ?_
        · refine Tri.seqK ?_
          replace q859 := bind_some q859
          obtain ⟨y866, q867, q859⟩ := q859
          refine Tri.cut (fun ex S' => ex = .normal ∧ Weak S' ⟨48, 0, ofRegs [(0, .sl (List.map (encI .i64) l)), (1, .v (.int .i64 n)), (5, .row 0 ((List.map (encI .i64) a750).length)), (6, .v (.bool y824)), (7, .v (.int .i64 a749)), (29, .v (.bool y866))], [.row 3 1 (List.map (encI .i64) a750)]⟩) ?_ ?_
          · refine Tri.run (G := gm_ref10_put) tyOk mixed ?_
            conv => whnf
            refine cond_mk (fun c868 => ?_) (fun c868 => ?_)
            · replace q867 := if_t c868 q867
              conv => whnf
              replace q867 := bind_some q867
              obtain ⟨x869, q870, q867⟩ := q867
              refine ⟨(ix_some q870).1, ?_⟩
              conv => whnf
              refine ⟨⟨_, map_get (encI .i64) (ix_some q870).2, ?_⟩⟩
              conv => whnf
              refine ⟨rfl, ?_⟩
              conv => whnf
              cases q867
              exact ⟨rfl, weak_fin _ rfl rfl rfl (.cons (.same rfl) (LeH.rest)) (.cons (.one (.same rfl)) (.cons (.one (.same rfl)) (.cons (.one (.same rfl)) (.cons (.one (.same rfl)) (.cons (.one (.same rfl)) (.cons (.one (.same rfl)) (.nil))))))) rfl rfl⟩
            · replace q867 := if_f c868 q867
              conv => whnf
              cases q867
              exact ⟨rfl, weak_fin _ rfl rfl rfl (.cons (.same rfl) (LeH.rest)) (.cons (.one (.same rfl)) (.cons (.one (.same rfl)) (.cons (.one (.same rfl)) (.cons (.one (.same rfl)) (.cons (.one (.same rfl)) (.cons (.one (.same rfl)) (.nil))))))) rfl rfl⟩
          · rintro ex S' ⟨rfl, w871⟩
            conv => whnf
            refine Tri.weak w871 ?_
            refine Tri.cond rfl (fun c872 => ?_) (fun c872 => ?_)
            · replace q859 := if_t c872 q859
              refine Tri.seqK ?_
              refine Tri.run (G := gm_ref10_put) tyOk mixed ?_
              conv => whnf
              refine ⟨⟨List.map (encI .i64) [n], rfl, ?_⟩⟩
              conv => whnf
              refine ⟨rfl, ?_⟩
              conv => whnf
              refine ⟨rfl, ?_⟩
              conv => whnf
              replace q859 := need_some q859
              obtain ⟨p873, q859⟩ := q859
              refine ⟨by simp only [List.length_map]; exact p873, ?_⟩
              conv => whnf
              refine ⟨⟨List.map (encI .i64) (a750 ++ [n]), map_app (encI .i64) _ _ rfl rfl, ?_⟩⟩
              conv => whnf
              refine Tri.run (G := gm_ref10_put) tyOk mixed ?_
              conv => whnf
              cases q859
              exact ⟨rfl, weak_fin _ rfl rfl rfl (.cons (.same rfl) (LeH.rest)) (.cons (.one (.same rfl)) (.cons (.one (.same rfl)) (.cons (.one (.same rfl)) (.cons (.one (.same rfl)) (.cons (.one (.same rfl)) (.nil)))))) rfl rfl⟩
            · replace q859 := if_f c872 q859
              refine Tri.run (G := gm_ref10_put) tyOk mixed ?_
              conv => whnf
              cases q859
              exact ⟨rfl, weak_fin _ rfl rfl rfl (.cons (.same rfl) (LeH.rest)) (.cons (.one (.same rfl)) (.cons (.one (.same rfl)) (.cons (.one (.same rfl)) (.cons (.one (.same rfl)) (.cons (.one (.same rfl)) (.nil)))))) rfl rfl⟩
        · rintro ex S' ⟨rfl, w874⟩
          conv => whnf
          refine Tri.weak w874 ?_
          refine Tri.run (G := gm_ref10_put) tyOk mixed ?_
          conv => whnf
          replace hv := bind_some hv
          obtain ⟨x875, q876, hv⟩ := hv
          refine ⟨(ix_some q876).1, ?_⟩
          conv => whnf
          refine ⟨⟨_, map_get (encI .i64) (ix_some q876).2, ?_⟩⟩
          conv => whnf
          refine ⟨rfl, ?_⟩
          conv => whnf
          refine ⟨⟨List.map (encI .i64) [x875], rfl, ?_⟩⟩
          conv => whnf
          refine ⟨rfl, ?_⟩
          conv => whnf
          refine ⟨rfl, ?_⟩
          conv => whnf
          replace hv := need_some hv
          obtain ⟨p877, hv⟩ := hv
          refine ⟨by simp only [List.length_map]; exact p877, ?_⟩
          conv => whnf
          refine ⟨⟨List.map (encI .i64) (y858.2 ++ [x875]), map_app (encI .i64) _ _ rfl rfl, ?_⟩⟩
          conv => whnf
          refine Tri.run (G := gm_ref10_put) tyOk mixed ?_
          conv => whnf
          cases hv
          exact ⟨_, rfl, weak_fin _ rfl rfl rfl (.cons (.same rfl) (LeH.rest)) (.cons (.one (.same rfl)) (.cons (.one (.same rfl)) (.cons (.one (.same rfl)) (.cons (.one (.same rfl)) (.cons (.one (.same rfl)) (.nil)))))) rfl rfl⟩
    · replace hv := if_f c757 hv
      refine Tri.run (G := gm_ref10_put) tyOk mixed ?_
      conv => whnf
      cases hv
      obtain rfl := r755 _ rfl
      exact ⟨rfl, weak_fin _ rfl rfl rfl (.cons (.same rfl) (LeH.rest)) (.cons (.one (.same rfl)) (.cons (.one (.same rfl)) (.cons (.one (.same rfl)) (.nil)))) rfl rfl⟩
  · rintro ex S' ⟨rfl, w878⟩
    conv => whnf
    refine Tri.weak w878 ?_
    refine Tri.seqK ?_
    replace h := bind_some h
    obtain ⟨y883, q884, h⟩ := h
    refine Tri.cut (fun ex S' => ex = .normal ∧ Weak S' ⟨48, 0, ofRegs [(5, .row 0 ((List.map (encI .i64) y883).length))], [.row 3 1 (List.map (encI .i64) y883)]⟩) ?_ ?_
    · refine Tri.seqK ?_
      refine Tri.run (G := gm_ref10_put) tyOk mixed ?_
      conv => whnf
      refine Tri.cond rfl (fun c885 => ?_) (fun c885 => ?_)
      · replace q884 := if_t c885 q884
        refine Tri.run (G := gm_ref10_put) tyOk mixed ?_
        conv => whnf
        refine ⟨⟨List.map (encI .i64) [n], rfl, ?_⟩⟩
        conv => whnf
        refine ⟨rfl, ?_⟩
        conv => whnf
        refine ⟨rfl, ?_⟩
        conv => whnf
        replace q884 := need_some q884
        obtain ⟨p886, q884⟩ := q884
        refine ⟨by simp only [List.length_map]; exact p886, ?_⟩
        conv => whnf
        refine ⟨⟨List.map (encI .i64) (y751.2 ++ [n]), map_app (encI .i64) _ _ rfl rfl, ?_⟩⟩
        conv => whnf
        cases q884
        exact ⟨rfl, weak_fin _ rfl rfl rfl (.cons (.same rfl) (LeH.rest)) (.cons (.one (.same rfl)) (.nil)) rfl rfl⟩
      · replace q884 := if_f c885 q884
        refine Tri.run (G := gm_ref10_put) tyOk mixed ?_
        conv => whnf
        cases q884
        exact ⟨rfl, weak_fin _ rfl rfl rfl (.cons (.same rfl) (LeH.rest)) (.cons (.one (.same rfl)) (.nil)) rfl rfl⟩
    · rintro ex S' ⟨rfl, w887⟩
      conv => whnf
      refine Tri.weak w887 ?_
      refine Tri.seqK ?_
      refine Tri.run (G := gm_ref10_put) tyOk mixed ?_
      conv => whnf
      refine Tri.run (G := gm_ref10_put) tyOk mixed ?_
      conv => whnf
      refine fin_here ?_
      conv => whnf
      refine ⟨rfl, ?_⟩
      conv => whnf
      cases h
      rfl
noncomputable def ref10_Blockers_l2 (l : Locks) (txn : Int) (w : Want) (a278 : (List Int)) (a279 : Int) : Option (((List Int) × Int) ⊕ ((List Int))) :=
  if (decide (a279 < (l.Held.length : Int))) then
    (
      (ix l.Held a279).bind fun x325 =>
      (ref09_Clash x325.W w).bind fun y327 =>
      if (y327 && (!(decide (x325.Txn = txn)))) then
        (ref10_put a278 x325.Txn).bind fun y335 =>
        some y335
      else
        some a278).bind fun (y319 : (List Int)) =>
    some (.inl (y319, (IntKind.i64.wrap (a279 + 1))))
  else
    some (.inr a278)
noncomputable def ref10_Blockers_l4 (l : Locks) (txn : Int) (w : Want) (n : Int) (a666 : (List Int)) (a667 : Int) : Option (((List Int) × Int) ⊕ ((List Int))) :=
  if ((decide (a667 < n)) && (decide (a667 < (l.Queue.length : Int)))) then
    (
      (ix l.Queue a667).bind fun x723 =>
      (ref09_Clash x723.W w).bind fun y725 =>
      if (y725 && (!(decide (x723.Txn = txn)))) then
        (ref10_put a666 x723.Txn).bind fun y733 =>
        some y733
      else
        some a666).bind fun (y717 : (List Int)) =>
    some (.inl (y717, (IntKind.i64.wrap (a667 + 1))))
  else
    some (.inr a666)
noncomputable def ref10_Blockers (l : Locks) (txn : Int) (w : Want) (n : Int) : Option ((List Int)) :=
  (loop (fun (s282 : (List Int) × Int) => ref10_Blockers_l2 l txn w s282.1 s282.2) (([] : (List Int)), (0 : Int))).bind fun (y280 : (List Int)) =>
  (loop (fun (s670 : (List Int) × Int) => ref10_Blockers_l4 l txn w n s670.1 s670.2) (y280, (0 : Int))).bind fun (y668 : (List Int)) =>
  some y668
def gm_ref10_Blockers : Gm := ⟨tys, [], [], []⟩
theorem ref10_Blockers_walk (l : Locks) (txn : Int) (w : Want) (n : Int) (r : (List Int)) (h : ref10_Blockers l txn w n = some r) : PureP Try.prog 42 [.agg [.sl (List.map encHold l.Held), .sl (List.map encClaim l.Queue)], .v (.int .i64 txn), .agg [.v (.int .i64 w.Mode), .v (.string (bs w.Lo)), .v (.string (bs w.Hi))], .v (.int .i64 n)] (fun a => a = .sl (List.map (encI .i64) r)) := by
  unfold ref10_Blockers at h
  refine pureW (G := gm_ref10_Blockers) tyOk Try.func42 rfl (by kernel_rfl) (by simp [Try.f42]) ?_
  refine Tri.seqK ?_
  refine Tri.run (G := gm_ref10_Blockers) tyOk mixed ?_
  conv => whnf
  refine Tri.seqK ?_
  refine Tri.run (G := gm_ref10_Blockers) tyOk mixed ?_
  conv => whnf
  refine Tri.seqK ?_
  refine Tri.seqK ?_
  refine Tri.run (G := gm_ref10_Blockers) tyOk mixed ?_
  conv => whnf
  refine Tri.block ?_
  replace h := bind_some h
  obtain ⟨y280, q281, h⟩ := h
  refine Tri.cut (fun ex S' => ex = (.exit 0) ∧ Weak S' ⟨88, 0, ofRegs [(1, .v (.int .i64 txn)), (3, .v (.int .i64 n)), (4, .ptr 0 0), (6, .ptr 1 0), (9, .sl (List.map (encI .i64) y280))], [.var 25 [.sl (List.map encHold l.Held), .sl (List.map encClaim l.Queue)], .var 44 [.v (.int .i64 w.Mode), .v (.string (bs w.Lo)), .v (.string (bs w.Hi))]]⟩) ?_ ?_
  · refine Tri.loopF (fun (s282 : (List Int) × Int) => (⟨88, 0, ofRegs [(1, .v (.int .i64 txn)), (3, .v (.int .i64 n)), (4, .ptr 0 0), (6, .ptr 1 0), (9, .sl (List.map (encI .i64) s282.1)), (10, .v (.int .i64 s282.2))], [.var 25 [.sl (List.map encHold l.Held), .sl (List.map encClaim l.Queue)], .var 44 [.v (.int .i64 w.Mode), .v (.string (bs w.Lo)), .v (.string (bs w.Hi))]]⟩ : St)) q281 (weak_fin _ rfl rfl rfl (.cons (.same rfl) (.cons (.same rfl) (LeH.rest))) (.cons (.one (.same rfl)) (.cons (.one (.same rfl)) (.cons (.one (.same rfl)) (.cons (.one (.same rfl)) (.cons (.one (.nil)) (.cons (.one (.same rfl)) (.nil))))))) rfl rfl) ?_
    rintro ⟨a278, a279⟩ v283 hv r284
    have hv : ref10_Blockers_l2 l txn w a278 a279 = some v283 := hv
    unfold ref10_Blockers_l2 at hv
    dsimp only
    refine Tri.seqK ?_
    refine Tri.seqK ?_
    refine Tri.run (G := gm_ref10_Blockers) tyOk mixed ?_
    conv => whnf
    refine ⟨⟨(l.Held.length : Int), (len_map _ _).symm, ?_⟩⟩
    conv => whnf
    refine Tri.cond rfl (fun c286 => ?_) (fun c286 => ?_)
    · replace hv := if_t c286 hv
      refine Tri.run (G := gm_ref10_Blockers) tyOk mixed ?_
      conv => whnf
      refine Tri.seqK ?_
      replace hv := bind_some hv
      obtain ⟨y319, q320, hv⟩ := hv
      refine Tri.cut (fun ex S' => ex = .normal ∧ Weak S' ⟨88, 0, ofRegs [(1, .v (.int .i64 txn)), (3, .v (.int .i64 n)), (4, .ptr 0 0), (6, .ptr 1 0), (9, .sl (List.map (encI .i64) y319)), (10, .v (.int .i64 a279))], [.var 25 [.sl (List.map encHold l.Held), .sl (List.map encClaim l.Queue)], .var 44 [.v (.int .i64 w.Mode), .v (.string (bs w.Lo)), .v (.string (bs w.Hi))]]⟩) ?_ ?_
      · refine Tri.block ?_
        refine Tri.seqK ?_
        refine Tri.run (G := gm_ref10_Blockers) tyOk mixed ?_
        conv => whnf
        refine Draw.one 9 (.take 0 (.take 1 (.take 2 (.take 3 (.take 4 (.take 5 (.take 6 (.alt 7 (.take 8 (.fin)) (.nil))))))))) [] (by kernel_rfl) ?_
        conv => whnf
        replace q320 := bind_some q320
        obtain ⟨x325, q326, q320⟩ := q320
        refine ⟨(ix_some q326).1, ?_⟩
        conv => whnf
        refine ⟨⟨_, map_get encHold (ix_some q326).2, ?_⟩⟩
        conv => whnf
        refine ⟨rfl, ?_⟩
        conv => whnf
        refine ⟨?_, ?_⟩
        · conv => whnf
          replace q320 := bind_some q320
          obtain ⟨y327, q328, q320⟩ := q320
          refine PureP.mono (ref09_Clash_walk x325.W w y327 q328) ?_
          rintro _ rfl
          conv => whnf
          refine Tri.seqK ?_
          refine Tri.cut (fun ex S' => ex = .normal ∧ Weak S' ⟨88, 0, ofRegs [(1, .v (.int .i64 txn)), (3, .v (.int .i64 n)), (4, .ptr 0 0), (6, .ptr 1 0), (9, .sl (List.map (encI .i64) a278)), (10, .v (.int .i64 a279)), (39, .v (.bool (y327 && (!(decide (x325.Txn = txn))))))], [.var 25 [.sl (List.map encHold l.Held), .sl (List.map encClaim l.Queue)], .var 44 [.v (.int .i64 w.Mode), .v (.string (bs w.Lo)), .v (.string (bs w.Hi))]]⟩) ?_ ?_
          · refine Tri.run (G := gm_ref10_Blockers) tyOk mixed ?_
            conv => whnf
            refine cond_mk (fun c332 => ?_) (fun c332 => ?_)
            · replace c332 : y327 = true := c332
              conv => whnf
              refine ⟨(ix_some q326).1, ?_⟩
              conv => whnf
              refine ⟨⟨_, map_get encHold (ix_some q326).2, ?_⟩⟩
              conv => whnf
              refine ⟨rfl, ?_⟩
              conv => whnf
              exact ⟨rfl, weak_fin _ rfl rfl rfl (.cons (.same rfl) (.cons (.same rfl) (LeH.rest))) (.cons (.one (.same rfl)) (.cons (.one (.same rfl)) (.cons (.one (.same rfl)) (.cons (.one (.same rfl)) (.cons (.one (.same rfl)) (.cons (.one (.same rfl)) (.cons (.one (.same (show (.v (.bool (!(decide (x325.Txn = txn)))) : AV) = (.v (.bool (y327 && (!(decide (x325.Txn = txn))))) : AV) from by first | (simp [c332]; done) | simp only [c332, Bool.or_true, Bool.true_or, Bool.false_or, Bool.or_false, Bool.and_true, Bool.true_and, Bool.and_false, Bool.false_and, Bool.not_true, Bool.not_false, if_true, if_false, Bool.false_eq_true]))) (.nil)))))))) rfl rfl⟩
            · replace c332 : y327 = false := c332
              conv => whnf
              exact ⟨rfl, weak_fin _ rfl rfl rfl (.cons (.same rfl) (.cons (.same rfl) (LeH.rest))) (.cons (.one (.same rfl)) (.cons (.one (.same rfl)) (.cons (.one (.same rfl)) (.cons (.one (.same rfl)) (.cons (.one (.same rfl)) (.cons (.one (.same rfl)) (.cons (.one (.same (show (.v (.bool false) : AV) = (.v (.bool (y327 && (!(decide (x325.Txn = txn))))) : AV) from by first | (simp [c332]; done) | simp only [c332, Bool.or_true, Bool.true_or, Bool.false_or, Bool.or_false, Bool.and_true, Bool.true_and, Bool.and_false, Bool.false_and, Bool.not_true, Bool.not_false, if_true, if_false, Bool.false_eq_true]))) (.nil)))))))) rfl rfl⟩
          · rintro ex S' ⟨rfl, w333⟩
            conv => whnf
            refine Tri.weak w333 ?_
            refine Tri.cond rfl (fun c334 => ?_) (fun c334 => ?_)
            · replace q320 := if_t c334 q320
              refine Tri.run (G := gm_ref10_Blockers) tyOk mixed ?_
              conv => whnf
              refine ⟨(ix_some q326).1, ?_⟩
              conv => whnf
              refine ⟨⟨_, map_get encHold (ix_some q326).2, ?_⟩⟩
              conv => whnf
              refine ⟨rfl, ?_⟩
              conv => whnf
              replace q320 := bind_some q320
              obtain ⟨y335, q336, q320⟩ := q320
              refine PureP.mono (ref10_put_walk a278 x325.Txn y335 q336) ?_
              rintro _ rfl
              conv => whnf
              cases q320
              exact ⟨rfl, weak_fin _ rfl rfl rfl (.cons (.same rfl) (.cons (.same rfl) (LeH.rest))) (.cons (.one (.same rfl)) (.cons (.one (.same rfl)) (.cons (.one (.same rfl)) (.cons (.one (.same rfl)) (.cons (.one (.same rfl)) (.cons (.one (.same rfl)) (.nil))))))) rfl rfl⟩
            · replace q320 := if_f c334 q320
              refine Tri.run (G := gm_ref10_Blockers) tyOk mixed ?_
              conv => whnf
              cases q320
              exact ⟨rfl, weak_fin _ rfl rfl rfl (.cons (.same rfl) (.cons (.same rfl) (LeH.rest))) (.cons (.one (.same rfl)) (.cons (.one (.same rfl)) (.cons (.one (.same rfl)) (.cons (.one (.same rfl)) (.cons (.one (.same rfl)) (.cons (.one (.same rfl)) (.nil))))))) rfl rfl⟩
        · conv => whnf
          trivial
      · rintro ex S' ⟨rfl, w337⟩
        conv => whnf
        refine Tri.weak w337 ?_
        refine Tri.run (G := gm_ref10_Blockers) tyOk mixed ?_
        conv => whnf
        cases hv
        exact ⟨_, rfl, weak_fin _ rfl rfl rfl (.cons (.same rfl) (.cons (.same rfl) (LeH.rest))) (.cons (.one (.same rfl)) (.cons (.one (.same rfl)) (.cons (.one (.same rfl)) (.cons (.one (.same rfl)) (.cons (.one (.same rfl)) (.cons (.one (.same rfl)) (.nil))))))) rfl rfl⟩
    · replace hv := if_f c286 hv
      refine Tri.run (G := gm_ref10_Blockers) tyOk mixed ?_
      conv => whnf
      cases hv
      obtain rfl := r284 _ rfl
      exact ⟨rfl, weak_fin _ rfl rfl rfl (.cons (.same rfl) (.cons (.same rfl) (LeH.rest))) (.cons (.one (.same rfl)) (.cons (.one (.same rfl)) (.cons (.one (.same rfl)) (.cons (.one (.same rfl)) (.cons (.one (.same rfl)) (.nil)))))) rfl rfl⟩
  · rintro ex S' ⟨rfl, w338⟩
    conv => whnf
    refine Tri.weak w338 ?_
    refine Tri.seqK ?_
    refine Tri.seqK ?_
    refine Tri.run (G := gm_ref10_Blockers) tyOk mixed ?_
    conv => whnf
    refine Tri.block ?_
    replace h := bind_some h
    obtain ⟨y668, q669, h⟩ := h
    refine Tri.cut (fun ex S' => ex = (.exit 2) ∧ Weak S' ⟨88, 0, ofRegs [(9, .sl (List.map (encI .i64) y668))], []⟩) ?_ ?_
    · refine Tri.loopF (fun (s670 : (List Int) × Int) => (⟨88, 0, ofRegs [(1, .v (.int .i64 txn)), (3, .v (.int .i64 n)), (4, .ptr 0 0), (6, .ptr 1 0), (9, .sl (List.map (encI .i64) s670.1)), (12, .v (.int .i64 s670.2))], [.var 25 [.sl (List.map encHold l.Held), .sl (List.map encClaim l.Queue)], .var 44 [.v (.int .i64 w.Mode), .v (.string (bs w.Lo)), .v (.string (bs w.Hi))]]⟩ : St)) q669 (weak_fin _ rfl rfl rfl (.cons (.same rfl) (.cons (.same rfl) (LeH.rest))) (.cons (.one (.same rfl)) (.cons (.one (.same rfl)) (.cons (.one (.same rfl)) (.cons (.one (.same rfl)) (.cons (.one (.same rfl)) (.cons (.one (.same rfl)) (.nil))))))) rfl rfl) ?_
      rintro ⟨a666, a667⟩ v671 hv r672
      have hv : ref10_Blockers_l4 l txn w n a666 a667 = some v671 := hv
      unfold ref10_Blockers_l4 at hv
      dsimp only
      refine Tri.seqK ?_
      refine Tri.seqK ?_
      refine Tri.cut (fun ex S' => ex = .normal ∧ Weak S' ⟨88, 0, ofRegs [(1, .v (.int .i64 txn)), (3, .v (.int .i64 n)), (4, .ptr 0 0), (6, .ptr 1 0), (9, .sl (List.map (encI .i64) a666)), (12, .v (.int .i64 a667)), (57, .v (.bool ((decide (a667 < n)) && (decide (a667 < (l.Queue.length : Int))))))], [.var 25 [.sl (List.map encHold l.Held), .sl (List.map encClaim l.Queue)], .var 44 [.v (.int .i64 w.Mode), .v (.string (bs w.Lo)), .v (.string (bs w.Hi))]]⟩) ?_ ?_
      · refine Tri.run (G := gm_ref10_Blockers) tyOk mixed ?_
        conv => whnf
        refine cond_mk (fun c682 => ?_) (fun c682 => ?_)
        · replace c682 : (decide (a667 < n)) = true := c682
          conv => whnf
          refine ⟨⟨(l.Queue.length : Int), (len_map _ _).symm, ?_⟩⟩
          conv => whnf
          exact ⟨rfl, weak_fin _ rfl rfl rfl (.cons (.same rfl) (.cons (.same rfl) (LeH.rest))) (.cons (.one (.same rfl)) (.cons (.one (.same rfl)) (.cons (.one (.same rfl)) (.cons (.one (.same rfl)) (.cons (.one (.same rfl)) (.cons (.one (.same rfl)) (.cons (.one (.same (show (.v (.bool (decide (a667 < (l.Queue.length : Int)))) : AV) = (.v (.bool ((decide (a667 < n)) && (decide (a667 < (l.Queue.length : Int))))) : AV) from by first | (simp [c682]; done) | simp only [c682, Bool.or_true, Bool.true_or, Bool.false_or, Bool.or_false, Bool.and_true, Bool.true_and, Bool.and_false, Bool.false_and, Bool.not_true, Bool.not_false, if_true, if_false, Bool.false_eq_true]))) (.nil)))))))) rfl rfl⟩
        · replace c682 : (decide (a667 < n)) = false := c682
          conv => whnf
          exact ⟨rfl, weak_fin _ rfl rfl rfl (.cons (.same rfl) (.cons (.same rfl) (LeH.rest))) (.cons (.one (.same rfl)) (.cons (.one (.same rfl)) (.cons (.one (.same rfl)) (.cons (.one (.same rfl)) (.cons (.one (.same rfl)) (.cons (.one (.same rfl)) (.cons (.one (.same (show (.v (.bool false) : AV) = (.v (.bool ((decide (a667 < n)) && (decide (a667 < (l.Queue.length : Int))))) : AV) from by first | (simp [c682]; done) | simp only [c682, Bool.or_true, Bool.true_or, Bool.false_or, Bool.or_false, Bool.and_true, Bool.true_and, Bool.and_false, Bool.false_and, Bool.not_true, Bool.not_false, if_true, if_false, Bool.false_eq_true]))) (.nil)))))))) rfl rfl⟩
      · rintro ex S' ⟨rfl, w683⟩
        conv => whnf
        refine Tri.weak w683 ?_
        refine Tri.cond rfl (fun c684 => ?_) (fun c684 => ?_)
        · replace hv := if_t c684 hv
          refine Tri.run (G := gm_ref10_Blockers) tyOk mixed ?_
          conv => whnf
          refine Tri.seqK ?_
          replace hv := bind_some hv
          obtain ⟨y717, q718, hv⟩ := hv
          refine Tri.cut (fun ex S' => ex = .normal ∧ Weak S' ⟨88, 0, ofRegs [(1, .v (.int .i64 txn)), (3, .v (.int .i64 n)), (4, .ptr 0 0), (6, .ptr 1 0), (9, .sl (List.map (encI .i64) y717)), (12, .v (.int .i64 a667))], [.var 25 [.sl (List.map encHold l.Held), .sl (List.map encClaim l.Queue)], .var 44 [.v (.int .i64 w.Mode), .v (.string (bs w.Lo)), .v (.string (bs w.Hi))]]⟩) ?_ ?_
          · refine Tri.block ?_
            refine Tri.seqK ?_
            refine Tri.run (G := gm_ref10_Blockers) tyOk mixed ?_
            conv => whnf
            refine Draw.one 9 (.take 0 (.take 1 (.take 2 (.take 3 (.take 4 (.take 5 (.take 6 (.alt 7 (.take 8 (.fin)) (.nil))))))))) [] (by kernel_rfl) ?_
            conv => whnf
            replace q718 := bind_some q718
            obtain ⟨x723, q724, q718⟩ := q718
            refine ⟨(ix_some q724).1, ?_⟩
            conv => whnf
            refine ⟨⟨_, map_get encClaim (ix_some q724).2, ?_⟩⟩
            conv => whnf
            refine ⟨rfl, ?_⟩
            conv => whnf
            refine ⟨?_, ?_⟩
            · conv => whnf
              replace q718 := bind_some q718
              obtain ⟨y725, q726, q718⟩ := q718
              refine PureP.mono (ref09_Clash_walk x723.W w y725 q726) ?_
              rintro _ rfl
              conv => whnf
              refine Tri.seqK ?_
              refine Tri.cut (fun ex S' => ex = .normal ∧ Weak S' ⟨88, 0, ofRegs [(1, .v (.int .i64 txn)), (3, .v (.int .i64 n)), (4, .ptr 0 0), (6, .ptr 1 0), (9, .sl (List.map (encI .i64) a666)), (12, .v (.int .i64 a667)), (78, .v (.bool (y725 && (!(decide (x723.Txn = txn))))))], [.var 25 [.sl (List.map encHold l.Held), .sl (List.map encClaim l.Queue)], .var 44 [.v (.int .i64 w.Mode), .v (.string (bs w.Lo)), .v (.string (bs w.Hi))]]⟩) ?_ ?_
              · refine Tri.run (G := gm_ref10_Blockers) tyOk mixed ?_
                conv => whnf
                refine cond_mk (fun c730 => ?_) (fun c730 => ?_)
                · replace c730 : y725 = true := c730
                  conv => whnf
                  refine ⟨(ix_some q724).1, ?_⟩
                  conv => whnf
                  refine ⟨⟨_, map_get encClaim (ix_some q724).2, ?_⟩⟩
                  conv => whnf
                  refine ⟨rfl, ?_⟩
                  conv => whnf
                  exact ⟨rfl, weak_fin _ rfl rfl rfl (.cons (.same rfl) (.cons (.same rfl) (LeH.rest))) (.cons (.one (.same rfl)) (.cons (.one (.same rfl)) (.cons (.one (.same rfl)) (.cons (.one (.same rfl)) (.cons (.one (.same rfl)) (.cons (.one (.same rfl)) (.cons (.one (.same (show (.v (.bool (!(decide (x723.Txn = txn)))) : AV) = (.v (.bool (y725 && (!(decide (x723.Txn = txn))))) : AV) from by first | (simp [c730]; done) | simp only [c730, Bool.or_true, Bool.true_or, Bool.false_or, Bool.or_false, Bool.and_true, Bool.true_and, Bool.and_false, Bool.false_and, Bool.not_true, Bool.not_false, if_true, if_false, Bool.false_eq_true]))) (.nil)))))))) rfl rfl⟩
                · replace c730 : y725 = false := c730
                  conv => whnf
                  exact ⟨rfl, weak_fin _ rfl rfl rfl (.cons (.same rfl) (.cons (.same rfl) (LeH.rest))) (.cons (.one (.same rfl)) (.cons (.one (.same rfl)) (.cons (.one (.same rfl)) (.cons (.one (.same rfl)) (.cons (.one (.same rfl)) (.cons (.one (.same rfl)) (.cons (.one (.same (show (.v (.bool false) : AV) = (.v (.bool (y725 && (!(decide (x723.Txn = txn))))) : AV) from by first | (simp [c730]; done) | simp only [c730, Bool.or_true, Bool.true_or, Bool.false_or, Bool.or_false, Bool.and_true, Bool.true_and, Bool.and_false, Bool.false_and, Bool.not_true, Bool.not_false, if_true, if_false, Bool.false_eq_true]))) (.nil)))))))) rfl rfl⟩
              · rintro ex S' ⟨rfl, w731⟩
                conv => whnf
                refine Tri.weak w731 ?_
                refine Tri.cond rfl (fun c732 => ?_) (fun c732 => ?_)
                · replace q718 := if_t c732 q718
                  refine Tri.run (G := gm_ref10_Blockers) tyOk mixed ?_
                  conv => whnf
                  refine ⟨(ix_some q724).1, ?_⟩
                  conv => whnf
                  refine ⟨⟨_, map_get encClaim (ix_some q724).2, ?_⟩⟩
                  conv => whnf
                  refine ⟨rfl, ?_⟩
                  conv => whnf
                  replace q718 := bind_some q718
                  obtain ⟨y733, q734, q718⟩ := q718
                  refine PureP.mono (ref10_put_walk a666 x723.Txn y733 q734) ?_
                  rintro _ rfl
                  conv => whnf
                  cases q718
                  exact ⟨rfl, weak_fin _ rfl rfl rfl (.cons (.same rfl) (.cons (.same rfl) (LeH.rest))) (.cons (.one (.same rfl)) (.cons (.one (.same rfl)) (.cons (.one (.same rfl)) (.cons (.one (.same rfl)) (.cons (.one (.same rfl)) (.cons (.one (.same rfl)) (.nil))))))) rfl rfl⟩
                · replace q718 := if_f c732 q718
                  refine Tri.run (G := gm_ref10_Blockers) tyOk mixed ?_
                  conv => whnf
                  cases q718
                  exact ⟨rfl, weak_fin _ rfl rfl rfl (.cons (.same rfl) (.cons (.same rfl) (LeH.rest))) (.cons (.one (.same rfl)) (.cons (.one (.same rfl)) (.cons (.one (.same rfl)) (.cons (.one (.same rfl)) (.cons (.one (.same rfl)) (.cons (.one (.same rfl)) (.nil))))))) rfl rfl⟩
            · conv => whnf
              trivial
          · rintro ex S' ⟨rfl, w735⟩
            conv => whnf
            refine Tri.weak w735 ?_
            refine Tri.run (G := gm_ref10_Blockers) tyOk mixed ?_
            conv => whnf
            cases hv
            exact ⟨_, rfl, weak_fin _ rfl rfl rfl (.cons (.same rfl) (.cons (.same rfl) (LeH.rest))) (.cons (.one (.same rfl)) (.cons (.one (.same rfl)) (.cons (.one (.same rfl)) (.cons (.one (.same rfl)) (.cons (.one (.same rfl)) (.cons (.one (.same rfl)) (.nil))))))) rfl rfl⟩
        · replace hv := if_f c684 hv
          refine Tri.run (G := gm_ref10_Blockers) tyOk mixed ?_
          conv => whnf
          cases hv
          obtain rfl := r672 _ rfl
          exact ⟨rfl, weak_fin _ rfl rfl rfl (LeH.rest) (.cons (.one (.same rfl)) (.nil)) rfl rfl⟩
    · rintro ex S' ⟨rfl, w736⟩
      conv => whnf
      refine Tri.weak w736 ?_
      refine Tri.seqK ?_
      refine Tri.run (G := gm_ref10_Blockers) tyOk mixed ?_
      conv => whnf
      refine Tri.run (G := gm_ref10_Blockers) tyOk mixed ?_
      conv => whnf
      refine fin_here ?_
      conv => whnf
      cases h
      rfl
noncomputable def ref10_Ask_l2 (l : Locks) (txn : Int) (w : Want) (a180 : Int) : Option ((Int) ⊕ ((Unit) ⊕ (Unit))) :=
  if (decide (a180 < (l.Held.length : Int))) then
    (ix l.Held a180).bind fun x208 =>
    (ref09_Covers x208.W w).bind fun y210 =>
    if (y210 && (decide (x208.Txn = txn))) then
      some (.inr (.inl ()))
    else
      some (.inl (IntKind.i64.wrap (a180 + 1)))
  else
    some (.inr (.inr ()))
noncomputable def ref10_Ask (l : Locks) (txn : Int) (w : Want) (until_ : Int) : Option (Locks × Int) :=
  (ref09_May w).bind fun y1 =>
  if ((decide (txn < 1)) || (!y1)) then
    some (l, 1)
  else
    (ref10_Waits l txn).bind fun y15 =>
    if y15 then
      some (l, 8)
    else
      (loop (fun (s185 : Int) => ref10_Ask_l2 l txn w s185) (0 : Int)).bind fun (y181 : (Unit) ⊕ (Unit)) =>
      match y181 with
      | (.inl v183) =>
        some (l, 0)
      | (.inr v184) =>
        (ref10_Blockers l txn w (l.Queue.length : Int)).bind fun y236 =>
        if (decide ((y236.length : Int) = 0)) then
          need ((([] : List Hold).length + l.Held.length) * 48 ≤ 140737488355328) <|
          need (((([] : List Hold) ++ l.Held).length + 1) * 48 ≤ 140737488355328) <|
          some (({ Held := ((([] : List Hold) ++ l.Held) ++ [({ Txn := txn, W := w } : Hold)]), Queue := l.Queue } : Locks), 0)
        else
          if (decide ((l.Queue.length : Int) ≥ 16)) then
            some (l, 11)
          else
            need ((([] : List Claim).length + l.Queue.length) * 56 ≤ 140737488355328) <|
            need (((([] : List Claim) ++ l.Queue).length + 1) * 56 ≤ 140737488355328) <|
            some (({ Held := l.Held, Queue := ((([] : List Claim) ++ l.Queue) ++ [({ Txn := txn, W := w, Until := until_ } : Claim)]) } : Locks), 12)
def gm_ref10_Ask : Gm := ⟨tys, [], [], []⟩
theorem ref10_Ask_walk (l : Locks) (txn : Int) (w : Want) (until_ : Int) (r : Locks × Int) (h : ref10_Ask l txn w until_ = some r) : PureP Try.prog 41 [.agg [.sl (List.map encHold l.Held), .sl (List.map encClaim l.Queue)], .v (.int .i64 txn), .agg [.v (.int .i64 w.Mode), .v (.string (bs w.Lo)), .v (.string (bs w.Hi))], .v (.int .u64 until_)] (fun a => a = .tup [.agg [.sl (List.map encHold r.1.Held), .sl (List.map encClaim r.1.Queue)], .v (.int .i64 r.2)]) := by
  unfold ref10_Ask at h
  refine pureW (G := gm_ref10_Ask) tyOk Try.func41 rfl (by kernel_rfl) (by simp [Try.f41]) ?_
  refine Tri.seqK ?_
  refine Tri.run (G := gm_ref10_Ask) tyOk mixed ?_
  conv => whnf
  refine Tri.seqK ?_
  refine Tri.run (G := gm_ref10_Ask) tyOk mixed ?_
  conv => whnf
  replace h := bind_some h
  obtain ⟨y1, q2, h⟩ := h
  refine PureP.mono (ref09_May_walk w y1 q2) ?_
  rintro _ rfl
  conv => whnf
  refine Tri.seqK ?_
  refine Tri.seqK ?_
  refine Tri.cut (fun ex S' => ex = .normal ∧ Weak S' ⟨92, 0, ofRegs [(1, .v (.int .i64 txn)), (3, .v (.int .u64 until_)), (4, .ptr 0 0), (6, .ptr 1 0), (8, .ptr 2 0), (21, .v (.bool ((decide (txn < 1)) || (!y1))))], [.var 25 [.sl (List.map encHold l.Held), .sl (List.map encClaim l.Queue)], .var 44 [.v (.int .i64 w.Mode), .v (.string (bs w.Lo)), .v (.string (bs w.Hi))], .var 25 [.v (.slice none 0 0), .v (.slice none 0 0)]]⟩) ?_ ?_
  · refine Tri.run (G := gm_ref10_Ask) tyOk mixed ?_
    conv => whnf
    refine cond_mk (fun c12 => ?_) (fun c12 => ?_)
    · replace c12 : (decide (txn < 1)) = true := c12
      conv => whnf
      exact ⟨rfl, weak_fin _ rfl rfl rfl (.cons (.same rfl) (.cons (.same rfl) (.cons (.same rfl) (LeH.rest)))) (.cons (.one (.same rfl)) (.cons (.one (.same rfl)) (.cons (.one (.same rfl)) (.cons (.one (.same rfl)) (.cons (.one (.same rfl)) (.cons (.one (.same (show (.v (.bool true) : AV) = (.v (.bool ((decide (txn < 1)) || (!y1))) : AV) from by first | (simp [c12]; done) | simp only [c12, Bool.or_true, Bool.true_or, Bool.false_or, Bool.or_false, Bool.and_true, Bool.true_and, Bool.and_false, Bool.false_and, Bool.not_true, Bool.not_false, if_true, if_false, Bool.false_eq_true]))) (.nil))))))) rfl rfl⟩
    · replace c12 : (decide (txn < 1)) = false := c12
      conv => whnf
      exact ⟨rfl, weak_fin _ rfl rfl rfl (.cons (.same rfl) (.cons (.same rfl) (.cons (.same rfl) (LeH.rest)))) (.cons (.one (.same rfl)) (.cons (.one (.same rfl)) (.cons (.one (.same rfl)) (.cons (.one (.same rfl)) (.cons (.one (.same rfl)) (.cons (.one (.same (show (.v (.bool (!y1)) : AV) = (.v (.bool ((decide (txn < 1)) || (!y1))) : AV) from by first | (simp [c12]; done) | simp only [c12, Bool.or_true, Bool.true_or, Bool.false_or, Bool.or_false, Bool.and_true, Bool.true_and, Bool.and_false, Bool.false_and, Bool.not_true, Bool.not_false, if_true, if_false, Bool.false_eq_true]))) (.nil))))))) rfl rfl⟩
  · rintro ex S' ⟨rfl, w13⟩
    conv => whnf
    refine Tri.weak w13 ?_
    refine Tri.cond rfl (fun c14 => ?_) (fun c14 => ?_)
    · replace h := if_t c14 h
      refine Tri.seqK ?_
      refine Tri.run (G := gm_ref10_Ask) tyOk mixed ?_
      conv => whnf
      refine Tri.run (G := gm_ref10_Ask) tyOk mixed ?_
      conv => whnf
      refine fin_here ?_
      conv => whnf
      cases h
      rfl
    · replace h := if_f c14 h
      refine Tri.run (G := gm_ref10_Ask) tyOk mixed ?_
      conv => whnf
      refine Tri.seqK ?_
      refine Tri.run (G := gm_ref10_Ask) tyOk mixed ?_
      conv => whnf
      replace h := bind_some h
      obtain ⟨y15, q16, h⟩ := h
      refine PureP.mono (ref10_Waits_walk l txn y15 q16) ?_
      rintro _ rfl
      conv => whnf
      refine Tri.seqK ?_
      refine Tri.seqK ?_
      refine Tri.run (G := gm_ref10_Ask) tyOk mixed ?_
      conv => whnf
      refine Tri.cond rfl (fun c18 => ?_) (fun c18 => ?_)
      · replace h := if_t c18 h
        refine Tri.seqK ?_
        refine Tri.run (G := gm_ref10_Ask) tyOk mixed ?_
        conv => whnf
        refine Tri.run (G := gm_ref10_Ask) tyOk mixed ?_
        conv => whnf
        refine fin_here ?_
        conv => whnf
        cases h
        rfl
      · replace h := if_f c18 h
        refine Tri.run (G := gm_ref10_Ask) tyOk mixed ?_
        conv => whnf
        refine Tri.seqK ?_
        refine Tri.seqK ?_
        refine Tri.run (G := gm_ref10_Ask) tyOk mixed ?_
        conv => whnf
        refine Tri.block ?_
        replace h := bind_some h
        obtain ⟨y181, q182, h⟩ := h
        refine Tri.cut (fun ex S' => (∃ v183 : Unit, y181 = (.inl v183) ∧ ex = .ret ∧ Weak S' ⟨92, 0, ofRegs [(8, .ptr 2 0), (9, .v (.int .i64 0))], [.gone, .gone, .var 25 [.sl (List.map encHold l.Held), .sl (List.map encClaim l.Queue)]]⟩) ∨ (∃ v184 : Unit, y181 = (.inr v184) ∧ ex = (.exit 0) ∧ Weak S' ⟨92, 0, ofRegs [(1, .v (.int .i64 txn)), (3, .v (.int .u64 until_)), (4, .ptr 0 0), (6, .ptr 1 0), (8, .ptr 2 0)], [.var 25 [.sl (List.map encHold l.Held), .sl (List.map encClaim l.Queue)], .var 44 [.v (.int .i64 w.Mode), .v (.string (bs w.Lo)), .v (.string (bs w.Hi))], .var 25 [.v (.slice none 0 0), .v (.slice none 0 0)]]⟩)) ?_ ?_
        · refine Tri.loopF (fun (s185 : Int) => (⟨92, 0, ofRegs [(1, .v (.int .i64 txn)), (3, .v (.int .u64 until_)), (4, .ptr 0 0), (6, .ptr 1 0), (8, .ptr 2 0), (12, .v (.int .i64 s185))], [.var 25 [.sl (List.map encHold l.Held), .sl (List.map encClaim l.Queue)], .var 44 [.v (.int .i64 w.Mode), .v (.string (bs w.Lo)), .v (.string (bs w.Hi))], .var 25 [.v (.slice none 0 0), .v (.slice none 0 0)]]⟩ : St)) q182 (weak_fin _ rfl rfl rfl (.cons (.same rfl) (.cons (.same rfl) (.cons (.same rfl) (LeH.rest)))) (.cons (.one (.same rfl)) (.cons (.one (.same rfl)) (.cons (.one (.same rfl)) (.cons (.one (.same rfl)) (.cons (.one (.same rfl)) (.cons (.one (.same rfl)) (.nil))))))) rfl rfl) ?_
          rintro a180 v186 hv r187
          have hv : ref10_Ask_l2 l txn w a180 = some v186 := hv
          unfold ref10_Ask_l2 at hv
          refine Tri.seqK ?_
          refine Tri.seqK ?_
          refine Tri.run (G := gm_ref10_Ask) tyOk mixed ?_
          conv => whnf
          refine ⟨⟨(l.Held.length : Int), (len_map _ _).symm, ?_⟩⟩
          conv => whnf
          refine Tri.cond rfl (fun c189 => ?_) (fun c189 => ?_)
          · replace hv := if_t c189 hv
            refine Tri.run (G := gm_ref10_Ask) tyOk mixed ?_
            conv => whnf
            refine Tri.seqK ?_
            refine Tri.block ?_
            refine Tri.seqK ?_
            refine Tri.run (G := gm_ref10_Ask) tyOk mixed ?_
            conv => whnf
            refine Draw.one 9 (.take 0 (.take 1 (.take 2 (.take 3 (.take 4 (.take 5 (.take 6 (.alt 7 (.take 8 (.fin)) (.nil))))))))) [] (by kernel_rfl) ?_
            conv => whnf
            replace hv := bind_some hv
            obtain ⟨x208, q209, hv⟩ := hv
            refine ⟨(ix_some q209).1, ?_⟩
            conv => whnf
            refine ⟨⟨_, map_get encHold (ix_some q209).2, ?_⟩⟩
            conv => whnf
            refine ⟨rfl, ?_⟩
            conv => whnf
            refine ⟨?_, ?_⟩
            · conv => whnf
              replace hv := bind_some hv
              obtain ⟨y210, q211, hv⟩ := hv
              refine PureP.mono (ref09_Covers_walk x208.W w y210 q211) ?_
              rintro _ rfl
              conv => whnf
              refine Tri.seqK ?_
              refine Tri.cut (fun ex S' => ex = .normal ∧ Weak S' ⟨92, 0, ofRegs [(1, .v (.int .i64 txn)), (3, .v (.int .u64 until_)), (4, .ptr 0 0), (6, .ptr 1 0), (8, .ptr 2 0), (12, .v (.int .i64 a180)), (53, .v (.bool (y210 && (decide (x208.Txn = txn)))))], [.var 25 [.sl (List.map encHold l.Held), .sl (List.map encClaim l.Queue)], .var 44 [.v (.int .i64 w.Mode), .v (.string (bs w.Lo)), .v (.string (bs w.Hi))], .var 25 [.v (.slice none 0 0), .v (.slice none 0 0)]]⟩) ?_ ?_
              · refine Tri.run (G := gm_ref10_Ask) tyOk mixed ?_
                conv => whnf
                refine cond_mk (fun c215 => ?_) (fun c215 => ?_)
                · replace c215 : y210 = true := c215
                  conv => whnf
                  refine ⟨(ix_some q209).1, ?_⟩
                  conv => whnf
                  refine ⟨⟨_, map_get encHold (ix_some q209).2, ?_⟩⟩
                  conv => whnf
                  refine ⟨rfl, ?_⟩
                  conv => whnf
                  exact ⟨rfl, weak_fin _ rfl rfl rfl (.cons (.same rfl) (.cons (.same rfl) (.cons (.same rfl) (LeH.rest)))) (.cons (.one (.same rfl)) (.cons (.one (.same rfl)) (.cons (.one (.same rfl)) (.cons (.one (.same rfl)) (.cons (.one (.same rfl)) (.cons (.one (.same rfl)) (.cons (.one (.same (show (.v (.bool (decide (x208.Txn = txn))) : AV) = (.v (.bool (y210 && (decide (x208.Txn = txn)))) : AV) from by first | (simp [c215]; done) | simp only [c215, Bool.or_true, Bool.true_or, Bool.false_or, Bool.or_false, Bool.and_true, Bool.true_and, Bool.and_false, Bool.false_and, Bool.not_true, Bool.not_false, if_true, if_false, Bool.false_eq_true]))) (.nil)))))))) rfl rfl⟩
                · replace c215 : y210 = false := c215
                  conv => whnf
                  exact ⟨rfl, weak_fin _ rfl rfl rfl (.cons (.same rfl) (.cons (.same rfl) (.cons (.same rfl) (LeH.rest)))) (.cons (.one (.same rfl)) (.cons (.one (.same rfl)) (.cons (.one (.same rfl)) (.cons (.one (.same rfl)) (.cons (.one (.same rfl)) (.cons (.one (.same rfl)) (.cons (.one (.same (show (.v (.bool false) : AV) = (.v (.bool (y210 && (decide (x208.Txn = txn)))) : AV) from by first | (simp [c215]; done) | simp only [c215, Bool.or_true, Bool.true_or, Bool.false_or, Bool.or_false, Bool.and_true, Bool.true_and, Bool.and_false, Bool.false_and, Bool.not_true, Bool.not_false, if_true, if_false, Bool.false_eq_true]))) (.nil)))))))) rfl rfl⟩
              · rintro ex S' ⟨rfl, w216⟩
                conv => whnf
                refine Tri.weak w216 ?_
                refine Tri.cond rfl (fun c217 => ?_) (fun c217 => ?_)
                · replace hv := if_t c217 hv
                  refine Tri.seqK ?_
                  refine Tri.run (G := gm_ref10_Ask) tyOk mixed ?_
                  conv => whnf
                  refine Tri.run (G := gm_ref10_Ask) tyOk mixed ?_
                  conv => whnf
                  cases hv
                  obtain rfl := r187 _ rfl
                  exact Or.inl ⟨_, rfl, rfl, weak_fin _ rfl rfl rfl (.cons (.gone) (.cons (.gone) (.cons (.same rfl) (LeH.rest)))) (.cons (.one (.same rfl)) (.cons (.one (.same rfl)) (.nil))) rfl rfl⟩
                · replace hv := if_f c217 hv
                  refine Tri.run (G := gm_ref10_Ask) tyOk mixed ?_
                  conv => whnf
                  refine Tri.run (G := gm_ref10_Ask) tyOk mixed ?_
                  conv => whnf
                  cases hv
                  exact ⟨_, rfl, weak_fin _ rfl rfl rfl (.cons (.same rfl) (.cons (.same rfl) (.cons (.same rfl) (LeH.rest)))) (.cons (.one (.same rfl)) (.cons (.one (.same rfl)) (.cons (.one (.same rfl)) (.cons (.one (.same rfl)) (.cons (.one (.same rfl)) (.cons (.one (.same rfl)) (.nil))))))) rfl rfl⟩
            · conv => whnf
              trivial
          · replace hv := if_f c189 hv
            refine Tri.run (G := gm_ref10_Ask) tyOk mixed ?_
            conv => whnf
            cases hv
            obtain rfl := r187 _ rfl
            exact Or.inr (⟨_, rfl, rfl, weak_fin _ rfl rfl rfl (.cons (.same rfl) (.cons (.same rfl) (.cons (.same rfl) (LeH.rest)))) (.cons (.one (.same rfl)) (.cons (.one (.same rfl)) (.cons (.one (.same rfl)) (.cons (.one (.same rfl)) (.cons (.one (.same rfl)) (.nil)))))) rfl rfl⟩)
        · rintro ex S' (⟨v183, rfl, rfl, w218⟩ | ⟨v184, rfl, rfl, w218⟩)
          · dsimp only at h
            conv => whnf
            refine fin_pre w218 ?_
            conv => whnf
            cases h
            rfl
          · dsimp only at h
            conv => whnf
            refine Tri.weak w218 ?_
            refine Tri.seqK ?_
            refine Tri.seqK ?_
            refine Tri.run (G := gm_ref10_Ask) tyOk mixed ?_
            conv => whnf
            refine ⟨⟨(l.Queue.length : Int), (len_map _ _).symm, ?_⟩⟩
            conv => whnf
            replace h := bind_some h
            obtain ⟨y236, q237, h⟩ := h
            refine PureP.mono (ref10_Blockers_walk l txn w (l.Queue.length : Int) y236 q237) ?_
            rintro _ rfl
            conv => whnf
            refine ⟨⟨(y236.length : Int), (len_map _ _).symm, ?_⟩⟩
            conv => whnf
            refine Tri.cond rfl (fun c238 => ?_) (fun c238 => ?_)
            · replace h := if_t c238 h
              refine Tri.seqK ?_
              refine Tri.run (G := gm_ref10_Ask) tyOk mixed ?_
              conv => whnf
              replace h := need_some h
              obtain ⟨p251, h⟩ := h
              replace h := need_some h
              obtain ⟨p252, h⟩ := h
              refine Draw.many 10 (.take 1 (.take 2 (.take 4 (.take 5 (.take 6 (.alt 0 (.alt 3 (.alt 7 (.alt 8 (.take 9 (.fin)) (.nil)) (.nil)) (.alt 7 (.alt 3 (.alt 8 (.take 9 (.fin)) (.nil)) (.nil)) (.nil))) (.alt 7 (.alt 0 (.alt 3 (.alt 8 (.take 9 (.fin)) (.nil)) (.nil)) (.nil)) (.nil)))))))) [] (⟨92, 0, ofRegs [(4, .ptr 0 0), (8, .ptr 2 0), (72, .sl (List.map encHold ((([] : List Hold) ++ l.Held) ++ [({ Txn := txn, W := w } : Hold)]))), (73, .ptr 0 0)], [.var 25 [.sl (List.map encHold l.Held), .sl (List.map encClaim l.Queue)], .var 44 [.v (.int .i64 w.Mode), .v (.string (bs w.Lo)), .v (.string (bs w.Hi))], .var 25 [.v (.slice none 0 0), .v (.slice none 0 0)]]⟩) (by kernel_rfl) ?_ ?_
              · conv => whnf
                refine ⟨?_, ?_⟩
                · conv => whnf
                  refine ⟨⟨List.map encHold ([] : List Hold), rfl, ?_⟩⟩
                  conv => whnf
                  refine ⟨?_, ?_⟩
                  · conv => whnf
                    refine ⟨rfl, ?_⟩
                    conv => whnf
                    refine ⟨map_len (f := encHold) (n := 4) (fun _ => rfl) _, ?_⟩
                    conv => whnf
                    refine ⟨by simp only [List.length_map]; exact p251, ?_⟩
                    conv => whnf
                    refine ⟨⟨List.map encHold (([] : List Hold) ++ l.Held), map_app encHold _ _ rfl rfl, ?_⟩⟩
                    conv => whnf
                    refine ⟨?_, ?_⟩
                    · conv => whnf
                      refine ⟨⟨List.map encHold [({ Txn := txn, W := w } : Hold)], rfl, ?_⟩⟩
                      conv => whnf
                      refine ⟨?_, ?_⟩
                      · conv => whnf
                        refine ⟨rfl, ?_⟩
                        conv => whnf
                        refine ⟨rfl, ?_⟩
                        conv => whnf
                        refine ⟨by simp only [List.length_map]; exact p252, ?_⟩
                        conv => whnf
                        refine ⟨⟨List.map encHold ((([] : List Hold) ++ l.Held) ++ [({ Txn := txn, W := w } : Hold)]), map_app encHold _ _ rfl rfl, ?_⟩⟩
                        conv => whnf
                        exact Weak.trans (weak_freeze 3 rfl) (weak_fin _ rfl rfl rfl (.cons (.same rfl) (.cons (.same rfl) (.cons (.same rfl) (LeH.rest)))) (.cons (.one (.same rfl)) (.cons (.one (.same rfl)) (.cons (.one (.frz rfl (rfl))) (.cons (.one (.same rfl)) (.nil))))) rfl rfl)
                      · conv => whnf
                        trivial
                    · conv => whnf
                      trivial
                  · conv => whnf
                    refine ⟨?_, ?_⟩
                    · conv => whnf
                      refine ⟨⟨List.map encHold [({ Txn := txn, W := w } : Hold)], rfl, ?_⟩⟩
                      conv => whnf
                      refine ⟨?_, ?_⟩
                      · conv => whnf
                        refine ⟨rfl, ?_⟩
                        conv => whnf
                        refine ⟨map_len (f := encHold) (n := 4) (fun _ => rfl) _, ?_⟩
                        conv => whnf
                        refine ⟨by simp only [List.length_map]; exact p251, ?_⟩
                        conv => whnf
                        refine ⟨⟨List.map encHold (([] : List Hold) ++ l.Held), map_app encHold _ _ rfl rfl, ?_⟩⟩
                        conv => whnf
                        refine ⟨?_, ?_⟩
                        · conv => whnf
                          refine ⟨rfl, ?_⟩
                          conv => whnf
                          refine ⟨rfl, ?_⟩
                          conv => whnf
                          refine ⟨by simp only [List.length_map]; exact p252, ?_⟩
                          conv => whnf
                          refine ⟨⟨List.map encHold ((([] : List Hold) ++ l.Held) ++ [({ Txn := txn, W := w } : Hold)]), map_app encHold _ _ rfl rfl, ?_⟩⟩
                          conv => whnf
                          exact Weak.trans (weak_freeze 3 rfl) (weak_fin _ rfl rfl rfl (.cons (.same rfl) (.cons (.same rfl) (.cons (.same rfl) (LeH.rest)))) (.cons (.one (.same rfl)) (.cons (.one (.same rfl)) (.cons (.one (.frz rfl (rfl))) (.cons (.one (.same rfl)) (.nil))))) rfl rfl)
                        · conv => whnf
                          trivial
                      · conv => whnf
                        trivial
                    · conv => whnf
                      trivial
                · conv => whnf
                  refine ⟨?_, ?_⟩
                  · conv => whnf
                    refine ⟨⟨List.map encHold [({ Txn := txn, W := w } : Hold)], rfl, ?_⟩⟩
                    conv => whnf
                    refine ⟨?_, ?_⟩
                    · conv => whnf
                      refine ⟨⟨List.map encHold ([] : List Hold), rfl, ?_⟩⟩
                      conv => whnf
                      refine ⟨?_, ?_⟩
                      · conv => whnf
                        refine ⟨rfl, ?_⟩
                        conv => whnf
                        refine ⟨map_len (f := encHold) (n := 4) (fun _ => rfl) _, ?_⟩
                        conv => whnf
                        refine ⟨by simp only [List.length_map]; exact p251, ?_⟩
                        conv => whnf
                        refine ⟨⟨List.map encHold (([] : List Hold) ++ l.Held), map_app encHold _ _ rfl rfl, ?_⟩⟩
                        conv => whnf
                        refine ⟨?_, ?_⟩
                        · conv => whnf
                          refine ⟨rfl, ?_⟩
                          conv => whnf
                          refine ⟨rfl, ?_⟩
                          conv => whnf
                          refine ⟨by simp only [List.length_map]; exact p252, ?_⟩
                          conv => whnf
                          refine ⟨⟨List.map encHold ((([] : List Hold) ++ l.Held) ++ [({ Txn := txn, W := w } : Hold)]), map_app encHold _ _ rfl rfl, ?_⟩⟩
                          conv => whnf
                          exact Weak.trans (weak_freeze 4 rfl) (weak_fin _ rfl rfl rfl (.cons (.same rfl) (.cons (.same rfl) (.cons (.same rfl) (LeH.rest)))) (.cons (.one (.same rfl)) (.cons (.one (.same rfl)) (.cons (.one (.frz rfl (rfl))) (.cons (.one (.same rfl)) (.nil))))) rfl rfl)
                        · conv => whnf
                          trivial
                      · conv => whnf
                        trivial
                    · conv => whnf
                      trivial
                  · conv => whnf
                    trivial
              · conv => whnf
                refine Tri.seqK ?_
                refine Tri.run (G := gm_ref10_Ask) tyOk mixed ?_
                conv => whnf
                refine Tri.run (G := gm_ref10_Ask) tyOk mixed ?_
                conv => whnf
                refine fin_here ?_
                conv => whnf
                cases h
                rfl
            · replace h := if_f c238 h
              refine Tri.run (G := gm_ref10_Ask) tyOk mixed ?_
              conv => whnf
              refine Tri.seqK ?_
              refine Tri.seqK ?_
              refine Tri.run (G := gm_ref10_Ask) tyOk mixed ?_
              conv => whnf
              refine ⟨⟨(l.Queue.length : Int), (len_map _ _).symm, ?_⟩⟩
              conv => whnf
              refine Tri.cond rfl (fun c254 => ?_) (fun c254 => ?_)
              · replace h := if_t c254 h
                refine Tri.seqK ?_
                refine Tri.run (G := gm_ref10_Ask) tyOk mixed ?_
                conv => whnf
                refine Tri.run (G := gm_ref10_Ask) tyOk mixed ?_
                conv => whnf
                refine fin_here ?_
                conv => whnf
                cases h
                rfl
              · replace h := if_f c254 h
                refine Tri.run (G := gm_ref10_Ask) tyOk mixed ?_
                conv => whnf
                refine Tri.seqK ?_
                refine Tri.run (G := gm_ref10_Ask) tyOk mixed ?_
                conv => whnf
                replace h := need_some h
                obtain ⟨p267, h⟩ := h
                replace h := need_some h
                obtain ⟨p268, h⟩ := h
                refine Draw.many 11 (.take 1 (.take 2 (.take 4 (.take 5 (.take 6 (.take 7 (.alt 0 (.alt 3 (.alt 8 (.alt 9 (.take 10 (.fin)) (.nil)) (.nil)) (.alt 8 (.alt 3 (.alt 9 (.take 10 (.fin)) (.nil)) (.nil)) (.nil))) (.alt 8 (.alt 0 (.alt 3 (.alt 9 (.take 10 (.fin)) (.nil)) (.nil)) (.nil)) (.nil))))))))) [] (⟨92, 0, ofRegs [(4, .ptr 0 0), (8, .ptr 2 0), (89, .sl (List.map encClaim ((([] : List Claim) ++ l.Queue) ++ [({ Txn := txn, W := w, Until := until_ } : Claim)]))), (90, .ptr 0 1)], [.var 25 [.sl (List.map encHold l.Held), .sl (List.map encClaim l.Queue)], .var 44 [.v (.int .i64 w.Mode), .v (.string (bs w.Lo)), .v (.string (bs w.Hi))], .var 25 [.v (.slice none 0 0), .v (.slice none 0 0)]]⟩) (by kernel_rfl) ?_ ?_
                · conv => whnf
                  refine ⟨?_, ?_⟩
                  · conv => whnf
                    refine ⟨⟨List.map encClaim ([] : List Claim), rfl, ?_⟩⟩
                    conv => whnf
                    refine ⟨?_, ?_⟩
                    · conv => whnf
                      refine ⟨rfl, ?_⟩
                      conv => whnf
                      refine ⟨map_len (f := encClaim) (n := 5) (fun _ => rfl) _, ?_⟩
                      conv => whnf
                      refine ⟨by simp only [List.length_map]; exact p267, ?_⟩
                      conv => whnf
                      refine ⟨⟨List.map encClaim (([] : List Claim) ++ l.Queue), map_app encClaim _ _ rfl rfl, ?_⟩⟩
                      conv => whnf
                      refine ⟨?_, ?_⟩
                      · conv => whnf
                        refine ⟨⟨List.map encClaim [({ Txn := txn, W := w, Until := until_ } : Claim)], rfl, ?_⟩⟩
                        conv => whnf
                        refine ⟨?_, ?_⟩
                        · conv => whnf
                          refine ⟨rfl, ?_⟩
                          conv => whnf
                          refine ⟨rfl, ?_⟩
                          conv => whnf
                          refine ⟨by simp only [List.length_map]; exact p268, ?_⟩
                          conv => whnf
                          refine ⟨⟨List.map encClaim ((([] : List Claim) ++ l.Queue) ++ [({ Txn := txn, W := w, Until := until_ } : Claim)]), map_app encClaim _ _ rfl rfl, ?_⟩⟩
                          conv => whnf
                          exact Weak.trans (weak_freeze 3 rfl) (weak_fin _ rfl rfl rfl (.cons (.same rfl) (.cons (.same rfl) (.cons (.same rfl) (LeH.rest)))) (.cons (.one (.same rfl)) (.cons (.one (.same rfl)) (.cons (.one (.frz rfl (rfl))) (.cons (.one (.same rfl)) (.nil))))) rfl rfl)
                        · conv => whnf
                          trivial
                      · conv => whnf
                        trivial
                    · conv => whnf
                      refine ⟨?_, ?_⟩
                      · conv => whnf
                        refine ⟨⟨List.map encClaim [({ Txn := txn, W := w, Until := until_ } : Claim)], rfl, ?_⟩⟩
                        conv => whnf
                        refine ⟨?_, ?_⟩
                        · conv => whnf
                          refine ⟨rfl, ?_⟩
                          conv => whnf
                          refine ⟨map_len (f := encClaim) (n := 5) (fun _ => rfl) _, ?_⟩
                          conv => whnf
                          refine ⟨by simp only [List.length_map]; exact p267, ?_⟩
                          conv => whnf
                          refine ⟨⟨List.map encClaim (([] : List Claim) ++ l.Queue), map_app encClaim _ _ rfl rfl, ?_⟩⟩
                          conv => whnf
                          refine ⟨?_, ?_⟩
                          · conv => whnf
                            refine ⟨rfl, ?_⟩
                            conv => whnf
                            refine ⟨rfl, ?_⟩
                            conv => whnf
                            refine ⟨by simp only [List.length_map]; exact p268, ?_⟩
                            conv => whnf
                            refine ⟨⟨List.map encClaim ((([] : List Claim) ++ l.Queue) ++ [({ Txn := txn, W := w, Until := until_ } : Claim)]), map_app encClaim _ _ rfl rfl, ?_⟩⟩
                            conv => whnf
                            exact Weak.trans (weak_freeze 3 rfl) (weak_fin _ rfl rfl rfl (.cons (.same rfl) (.cons (.same rfl) (.cons (.same rfl) (LeH.rest)))) (.cons (.one (.same rfl)) (.cons (.one (.same rfl)) (.cons (.one (.frz rfl (rfl))) (.cons (.one (.same rfl)) (.nil))))) rfl rfl)
                          · conv => whnf
                            trivial
                        · conv => whnf
                          trivial
                      · conv => whnf
                        trivial
                  · conv => whnf
                    refine ⟨?_, ?_⟩
                    · conv => whnf
                      refine ⟨⟨List.map encClaim [({ Txn := txn, W := w, Until := until_ } : Claim)], rfl, ?_⟩⟩
                      conv => whnf
                      refine ⟨?_, ?_⟩
                      · conv => whnf
                        refine ⟨⟨List.map encClaim ([] : List Claim), rfl, ?_⟩⟩
                        conv => whnf
                        refine ⟨?_, ?_⟩
                        · conv => whnf
                          refine ⟨rfl, ?_⟩
                          conv => whnf
                          refine ⟨map_len (f := encClaim) (n := 5) (fun _ => rfl) _, ?_⟩
                          conv => whnf
                          refine ⟨by simp only [List.length_map]; exact p267, ?_⟩
                          conv => whnf
                          refine ⟨⟨List.map encClaim (([] : List Claim) ++ l.Queue), map_app encClaim _ _ rfl rfl, ?_⟩⟩
                          conv => whnf
                          refine ⟨?_, ?_⟩
                          · conv => whnf
                            refine ⟨rfl, ?_⟩
                            conv => whnf
                            refine ⟨rfl, ?_⟩
                            conv => whnf
                            refine ⟨by simp only [List.length_map]; exact p268, ?_⟩
                            conv => whnf
                            refine ⟨⟨List.map encClaim ((([] : List Claim) ++ l.Queue) ++ [({ Txn := txn, W := w, Until := until_ } : Claim)]), map_app encClaim _ _ rfl rfl, ?_⟩⟩
                            conv => whnf
                            exact Weak.trans (weak_freeze 4 rfl) (weak_fin _ rfl rfl rfl (.cons (.same rfl) (.cons (.same rfl) (.cons (.same rfl) (LeH.rest)))) (.cons (.one (.same rfl)) (.cons (.one (.same rfl)) (.cons (.one (.frz rfl (rfl))) (.cons (.one (.same rfl)) (.nil))))) rfl rfl)
                          · conv => whnf
                            trivial
                        · conv => whnf
                          trivial
                      · conv => whnf
                        trivial
                    · conv => whnf
                      trivial
                · conv => whnf
                  refine Tri.seqK ?_
                  refine Tri.run (G := gm_ref10_Ask) tyOk mixed ?_
                  conv => whnf
                  refine Tri.run (G := gm_ref10_Ask) tyOk mixed ?_
                  conv => whnf
                  refine fin_here ?_
                  conv => whnf
                  cases h
                  rfl
noncomputable def ref10_Same_l2 (a : Locks) (b : Locks) (a124 : Int) : Option ((Int) ⊕ ((Unit) ⊕ (Unit))) :=
  if (decide (a124 < (a.Held.length : Int))) then
    (ix a.Held a124).bind fun x147 =>
    (ix b.Held a124).bind fun x149 =>
    if (!(decide (x147 = x149))) then
      some (.inr (.inl ()))
    else
      some (.inl (IntKind.i64.wrap (a124 + 1)))
  else
    some (.inr (.inr ()))
noncomputable def ref10_Same_l4 (a : Locks) (b : Locks) (a264 : Int) : Option ((Int) ⊕ ((Unit) ⊕ (Unit))) :=
  if (decide (a264 < (a.Queue.length : Int))) then
    (ix a.Queue a264).bind fun x287 =>
    (ix b.Queue a264).bind fun x289 =>
    if (!(decide (x287 = x289))) then
      some (.inr (.inl ()))
    else
      some (.inl (IntKind.i64.wrap (a264 + 1)))
  else
    some (.inr (.inr ()))
noncomputable def ref10_Same (a : Locks) (b : Locks) : Option (Bool) :=
  if ((!(decide ((a.Held.length : Int) = (b.Held.length : Int)))) || (!(decide ((a.Queue.length : Int) = (b.Queue.length : Int))))) then
    some false
  else
    (loop (fun (s129 : Int) => ref10_Same_l2 a b s129) (0 : Int)).bind fun (y125 : (Unit) ⊕ (Unit)) =>
    match y125 with
    | (.inl v127) =>
      some false
    | (.inr v128) =>
      (loop (fun (s269 : Int) => ref10_Same_l4 a b s269) (0 : Int)).bind fun (y265 : (Unit) ⊕ (Unit)) =>
      match y265 with
      | (.inl v267) =>
        some false
      | (.inr v268) =>
        some true
def gm_ref10_Same : Gm := ⟨tys, [], [], []⟩
theorem ref10_Same_walk (a : Locks) (b : Locks) (r : Bool) (h : ref10_Same a b = some r) : PureP Try.prog 33 [.agg [.sl (List.map encHold a.Held), .sl (List.map encClaim a.Queue)], .agg [.sl (List.map encHold b.Held), .sl (List.map encClaim b.Queue)]] (fun a => a = .v (.bool r)) := by
  unfold ref10_Same at h
  refine pureW (G := gm_ref10_Same) tyOk Try.func33 rfl (by kernel_rfl) (by simp [Try.f33]) ?_
  refine Tri.seqK ?_
  refine Tri.run (G := gm_ref10_Same) tyOk mixed ?_
  conv => whnf
  refine Tri.seqK ?_
  refine Tri.seqK ?_
  refine Tri.cut (fun ex S' => ex = .normal ∧ Weak S' ⟨59, 0, ofRegs [(2, .ptr 0 0), (3, .ptr 1 0), (22, .v (.bool ((!(decide ((a.Held.length : Int) = (b.Held.length : Int)))) || (!(decide ((a.Queue.length : Int) = (b.Queue.length : Int)))))))], [.var 25 [.sl (List.map encHold a.Held), .sl (List.map encClaim a.Queue)], .var 25 [.sl (List.map encHold b.Held), .sl (List.map encClaim b.Queue)]]⟩) ?_ ?_
  · refine Tri.run (G := gm_ref10_Same) tyOk mixed ?_
    conv => whnf
    refine ⟨⟨(a.Held.length : Int), (len_map _ _).symm, ?_⟩⟩
    conv => whnf
    refine ⟨⟨(b.Held.length : Int), (len_map _ _).symm, ?_⟩⟩
    conv => whnf
    refine cond_mk (fun c10 => ?_) (fun c10 => ?_)
    · replace c10 : (!(decide ((a.Held.length : Int) = (b.Held.length : Int)))) = true := c10
      conv => whnf
      exact ⟨rfl, weak_fin _ rfl rfl rfl (.cons (.same rfl) (.cons (.same rfl) (LeH.rest))) (.cons (.one (.same rfl)) (.cons (.one (.same rfl)) (.cons (.one (.same (show (.v (.bool true) : AV) = (.v (.bool ((!(decide ((a.Held.length : Int) = (b.Held.length : Int)))) || (!(decide ((a.Queue.length : Int) = (b.Queue.length : Int)))))) : AV) from by first | (simp [c10]; done) | simp only [c10, Bool.or_true, Bool.true_or, Bool.false_or, Bool.or_false, Bool.and_true, Bool.true_and, Bool.and_false, Bool.false_and, Bool.not_true, Bool.not_false, if_true, if_false, Bool.false_eq_true]))) (.nil)))) rfl rfl⟩
    · replace c10 : (!(decide ((a.Held.length : Int) = (b.Held.length : Int)))) = false := c10
      conv => whnf
      refine ⟨⟨(a.Queue.length : Int), (len_map _ _).symm, ?_⟩⟩
      conv => whnf
      refine ⟨⟨(b.Queue.length : Int), (len_map _ _).symm, ?_⟩⟩
      conv => whnf
      exact ⟨rfl, weak_fin _ rfl rfl rfl (.cons (.same rfl) (.cons (.same rfl) (LeH.rest))) (.cons (.one (.same rfl)) (.cons (.one (.same rfl)) (.cons (.one (.same (show (.v (.bool (!(decide ((a.Queue.length : Int) = (b.Queue.length : Int))))) : AV) = (.v (.bool ((!(decide ((a.Held.length : Int) = (b.Held.length : Int)))) || (!(decide ((a.Queue.length : Int) = (b.Queue.length : Int)))))) : AV) from by first | (simp [c10]; done) | simp only [c10, Bool.or_true, Bool.true_or, Bool.false_or, Bool.or_false, Bool.and_true, Bool.true_and, Bool.and_false, Bool.false_and, Bool.not_true, Bool.not_false, if_true, if_false, Bool.false_eq_true]))) (.nil)))) rfl rfl⟩
  · rintro ex S' ⟨rfl, w11⟩
    conv => whnf
    refine Tri.weak w11 ?_
    refine Tri.cond rfl (fun c12 => ?_) (fun c12 => ?_)
    · replace h := if_t c12 h
      refine Tri.seqK ?_
      refine Tri.run (G := gm_ref10_Same) tyOk mixed ?_
      conv => whnf
      refine Tri.run (G := gm_ref10_Same) tyOk mixed ?_
      conv => whnf
      refine fin_here ?_
      conv => whnf
      cases h
      rfl
    · replace h := if_f c12 h
      refine Tri.run (G := gm_ref10_Same) tyOk mixed ?_
      conv => whnf
      refine Tri.seqK ?_
      refine Tri.seqK ?_
      refine Tri.run (G := gm_ref10_Same) tyOk mixed ?_
      conv => whnf
      refine Tri.block ?_
      replace h := bind_some h
      obtain ⟨y125, q126, h⟩ := h
      refine Tri.cut (fun ex S' => (∃ v127 : Unit, y125 = (.inl v127) ∧ ex = .ret ∧ Weak S' ⟨59, 0, ofRegs [(4, .v (.bool false))], []⟩) ∨ (∃ v128 : Unit, y125 = (.inr v128) ∧ ex = (.exit 0) ∧ Weak S' ⟨59, 0, ofRegs [(2, .ptr 0 0), (3, .ptr 1 0)], [.var 25 [.sl (List.map encHold a.Held), .sl (List.map encClaim a.Queue)], .var 25 [.sl (List.map encHold b.Held), .sl (List.map encClaim b.Queue)]]⟩)) ?_ ?_
      · refine Tri.loopF (fun (s129 : Int) => (⟨59, 0, ofRegs [(2, .ptr 0 0), (3, .ptr 1 0), (5, .v (.int .i64 s129))], [.var 25 [.sl (List.map encHold a.Held), .sl (List.map encClaim a.Queue)], .var 25 [.sl (List.map encHold b.Held), .sl (List.map encClaim b.Queue)]]⟩ : St)) q126 (weak_fin _ rfl rfl rfl (.cons (.same rfl) (.cons (.same rfl) (LeH.rest))) (.cons (.one (.same rfl)) (.cons (.one (.same rfl)) (.cons (.one (.same rfl)) (.nil)))) rfl rfl) ?_
        rintro a124 v130 hv r131
        have hv : ref10_Same_l2 a b a124 = some v130 := hv
        unfold ref10_Same_l2 at hv
        refine Tri.seqK ?_
        refine Tri.seqK ?_
        refine Tri.run (G := gm_ref10_Same) tyOk mixed ?_
        conv => whnf
        refine ⟨⟨(a.Held.length : Int), (len_map _ _).symm, ?_⟩⟩
        conv => whnf
        refine Tri.cond rfl (fun c133 => ?_) (fun c133 => ?_)
        · replace hv := if_t c133 hv
          refine Tri.run (G := gm_ref10_Same) tyOk mixed ?_
          conv => whnf
          refine Tri.seqK ?_
          refine Tri.block ?_
          refine Tri.seqK ?_
          refine Tri.run (G := gm_ref10_Same) tyOk mixed ?_
          conv => whnf
          refine Draw.one 11 (.take 0 (.take 1 (.take 2 (.take 3 (.take 4 (.take 5 (.take 6 (.take 7 (.take 8 (.take 9 (.take 10 (.fin)))))))))))) [] (by kernel_rfl) ?_
          conv => whnf
          replace hv := bind_some hv
          obtain ⟨x147, q148, hv⟩ := hv
          refine ⟨(ix_some q148).1, ?_⟩
          conv => whnf
          refine ⟨⟨_, map_get encHold (ix_some q148).2, ?_⟩⟩
          conv => whnf
          refine ⟨rfl, ?_⟩
          conv => whnf
          replace hv := bind_some hv
          obtain ⟨x149, q150, hv⟩ := hv
          refine ⟨(ix_some q150).1, ?_⟩
          conv => whnf
          refine ⟨⟨_, map_get encHold (ix_some q150).2, ?_⟩⟩
          conv => whnf
          refine ⟨rfl, ?_⟩
          conv => whnf
          refine ⟨⟨(!(decide (x147 = x149))), congrArg Bool.not (eq_Hold _ _), ?_⟩⟩
          conv => whnf
          refine Tri.cond rfl (fun c151 => ?_) (fun c151 => ?_)
          · replace hv := if_t c151 hv
            refine Tri.seqK ?_
            refine Tri.run (G := gm_ref10_Same) tyOk mixed ?_
            conv => whnf
            refine Tri.run (G := gm_ref10_Same) tyOk mixed ?_
            conv => whnf
            cases hv
            obtain rfl := r131 _ rfl
            exact Or.inl ⟨_, rfl, rfl, weak_fin _ rfl rfl rfl (LeH.rest) (.cons (.one (.same rfl)) (.nil)) rfl rfl⟩
          · replace hv := if_f c151 hv
            refine Tri.run (G := gm_ref10_Same) tyOk mixed ?_
            conv => whnf
            refine Tri.run (G := gm_ref10_Same) tyOk mixed ?_
            conv => whnf
            cases hv
            exact ⟨_, rfl, weak_fin _ rfl rfl rfl (.cons (.same rfl) (.cons (.same rfl) (LeH.rest))) (.cons (.one (.same rfl)) (.cons (.one (.same rfl)) (.cons (.one (.same rfl)) (.nil)))) rfl rfl⟩
        · replace hv := if_f c133 hv
          refine Tri.run (G := gm_ref10_Same) tyOk mixed ?_
          conv => whnf
          cases hv
          obtain rfl := r131 _ rfl
          exact Or.inr (⟨_, rfl, rfl, weak_fin _ rfl rfl rfl (.cons (.same rfl) (.cons (.same rfl) (LeH.rest))) (.cons (.one (.same rfl)) (.cons (.one (.same rfl)) (.nil))) rfl rfl⟩)
      · rintro ex S' (⟨v127, rfl, rfl, w152⟩ | ⟨v128, rfl, rfl, w152⟩)
        · dsimp only at h
          conv => whnf
          refine fin_pre w152 ?_
          conv => whnf
          cases h
          rfl
        · dsimp only at h
          conv => whnf
          refine Tri.weak w152 ?_
          refine Tri.seqK ?_
          refine Tri.seqK ?_
          refine Tri.run (G := gm_ref10_Same) tyOk mixed ?_
          conv => whnf
          refine Tri.block ?_
          replace h := bind_some h
          obtain ⟨y265, q266, h⟩ := h
          refine Tri.cut (fun ex S' => (∃ v267 : Unit, y265 = (.inl v267) ∧ ex = .ret ∧ Weak S' ⟨59, 0, ofRegs [(4, .v (.bool false))], []⟩) ∨ (∃ v268 : Unit, y265 = (.inr v268) ∧ ex = (.exit 2) ∧ Weak S' ⟨59, 0, ofRegs [], []⟩)) ?_ ?_
          · refine Tri.loopF (fun (s269 : Int) => (⟨59, 0, ofRegs [(2, .ptr 0 0), (3, .ptr 1 0), (6, .v (.int .i64 s269))], [.var 25 [.sl (List.map encHold a.Held), .sl (List.map encClaim a.Queue)], .var 25 [.sl (List.map encHold b.Held), .sl (List.map encClaim b.Queue)]]⟩ : St)) q266 (weak_fin _ rfl rfl rfl (.cons (.same rfl) (.cons (.same rfl) (LeH.rest))) (.cons (.one (.same rfl)) (.cons (.one (.same rfl)) (.cons (.one (.same rfl)) (.nil)))) rfl rfl) ?_
            rintro a264 v270 hv r271
            have hv : ref10_Same_l4 a b a264 = some v270 := hv
            unfold ref10_Same_l4 at hv
            refine Tri.seqK ?_
            refine Tri.seqK ?_
            refine Tri.run (G := gm_ref10_Same) tyOk mixed ?_
            conv => whnf
            refine ⟨⟨(a.Queue.length : Int), (len_map _ _).symm, ?_⟩⟩
            conv => whnf
            refine Tri.cond rfl (fun c273 => ?_) (fun c273 => ?_)
            · replace hv := if_t c273 hv
              refine Tri.run (G := gm_ref10_Same) tyOk mixed ?_
              conv => whnf
              refine Tri.seqK ?_
              refine Tri.block ?_
              refine Tri.seqK ?_
              refine Tri.run (G := gm_ref10_Same) tyOk mixed ?_
              conv => whnf
              refine Draw.one 11 (.take 0 (.take 1 (.take 2 (.take 3 (.take 4 (.take 5 (.take 6 (.take 7 (.take 8 (.take 9 (.take 10 (.fin)))))))))))) [] (by kernel_rfl) ?_
              conv => whnf
              replace hv := bind_some hv
              obtain ⟨x287, q288, hv⟩ := hv
              refine ⟨(ix_some q288).1, ?_⟩
              conv => whnf
              refine ⟨⟨_, map_get encClaim (ix_some q288).2, ?_⟩⟩
              conv => whnf
              refine ⟨rfl, ?_⟩
              conv => whnf
              replace hv := bind_some hv
              obtain ⟨x289, q290, hv⟩ := hv
              refine ⟨(ix_some q290).1, ?_⟩
              conv => whnf
              refine ⟨⟨_, map_get encClaim (ix_some q290).2, ?_⟩⟩
              conv => whnf
              refine ⟨rfl, ?_⟩
              conv => whnf
              refine ⟨⟨(!(decide (x287 = x289))), congrArg Bool.not (eq_Claim _ _), ?_⟩⟩
              conv => whnf
              refine Tri.cond rfl (fun c291 => ?_) (fun c291 => ?_)
              · replace hv := if_t c291 hv
                refine Tri.seqK ?_
                refine Tri.run (G := gm_ref10_Same) tyOk mixed ?_
                conv => whnf
                refine Tri.run (G := gm_ref10_Same) tyOk mixed ?_
                conv => whnf
                cases hv
                obtain rfl := r271 _ rfl
                exact Or.inl ⟨_, rfl, rfl, weak_fin _ rfl rfl rfl (LeH.rest) (.cons (.one (.same rfl)) (.nil)) rfl rfl⟩
              · replace hv := if_f c291 hv
                refine Tri.run (G := gm_ref10_Same) tyOk mixed ?_
                conv => whnf
                refine Tri.run (G := gm_ref10_Same) tyOk mixed ?_
                conv => whnf
                cases hv
                exact ⟨_, rfl, weak_fin _ rfl rfl rfl (.cons (.same rfl) (.cons (.same rfl) (LeH.rest))) (.cons (.one (.same rfl)) (.cons (.one (.same rfl)) (.cons (.one (.same rfl)) (.nil)))) rfl rfl⟩
            · replace hv := if_f c273 hv
              refine Tri.run (G := gm_ref10_Same) tyOk mixed ?_
              conv => whnf
              cases hv
              obtain rfl := r271 _ rfl
              exact Or.inr (⟨_, rfl, rfl, weak_fin _ rfl rfl rfl (LeH.rest) (.nil) rfl rfl⟩)
          · rintro ex S' (⟨v267, rfl, rfl, w292⟩ | ⟨v268, rfl, rfl, w292⟩)
            · dsimp only at h
              conv => whnf
              refine fin_pre w292 ?_
              conv => whnf
              cases h
              rfl
            · dsimp only at h
              conv => whnf
              refine Tri.weak w292 ?_
              refine Tri.seqK ?_
              refine Tri.run (G := gm_ref10_Same) tyOk mixed ?_
              conv => whnf
              refine Tri.run (G := gm_ref10_Same) tyOk mixed ?_
              conv => whnf
              refine fin_here ?_
              conv => whnf
              cases h
              rfl
noncomputable def ref10_Ints_l2 (a : (List Int)) (b : (List Int)) (a114 : Int) : Option ((Int) ⊕ ((Unit) ⊕ (Unit))) :=
  if (decide (a114 < (a.length : Int))) then
    (ix a a114).bind fun x137 =>
    (ix b a114).bind fun x139 =>
    if (!(decide (x137 = x139))) then
      some (.inr (.inl ()))
    else
      some (.inl (IntKind.i64.wrap (a114 + 1)))
  else
    some (.inr (.inr ()))
noncomputable def ref10_Ints (a : (List Int)) (b : (List Int)) : Option (Bool) :=
  if (!(decide ((a.length : Int) = (b.length : Int)))) then
    some false
  else
    (loop (fun (s119 : Int) => ref10_Ints_l2 a b s119) (0 : Int)).bind fun (y115 : (Unit) ⊕ (Unit)) =>
    match y115 with
    | (.inl v117) =>
      some false
    | (.inr v118) =>
      some true
def gm_ref10_Ints : Gm := ⟨tys, [], [], []⟩
theorem ref10_Ints_walk (a : (List Int)) (b : (List Int)) (r : Bool) (h : ref10_Ints a b = some r) : PureP Try.prog 17 [.sl (List.map (encI .i64) a), .sl (List.map (encI .i64) b)] (fun a => a = .v (.bool r)) := by
  unfold ref10_Ints at h
  refine pureW (G := gm_ref10_Ints) tyOk Try.func17 rfl (by kernel_rfl) (by simp [Try.f17]) ?_
  refine Tri.seqK ?_
  refine Tri.run (G := gm_ref10_Ints) tyOk mixed ?_
  conv => whnf
  refine Tri.seqK ?_
  refine Tri.seqK ?_
  refine Tri.run (G := gm_ref10_Ints) tyOk mixed ?_
  conv => whnf
  refine ⟨⟨(a.length : Int), (len_map _ _).symm, ?_⟩⟩
  conv => whnf
  refine ⟨⟨(b.length : Int), (len_map _ _).symm, ?_⟩⟩
  conv => whnf
  refine Tri.cond rfl (fun c2 => ?_) (fun c2 => ?_)
  · replace h := if_t c2 h
    refine Tri.seqK ?_
    refine Tri.run (G := gm_ref10_Ints) tyOk mixed ?_
    conv => whnf
    refine Tri.run (G := gm_ref10_Ints) tyOk mixed ?_
    conv => whnf
    refine fin_here ?_
    conv => whnf
    cases h
    rfl
  · replace h := if_f c2 h
    refine Tri.run (G := gm_ref10_Ints) tyOk mixed ?_
    conv => whnf
    refine Tri.seqK ?_
    refine Tri.seqK ?_
    refine Tri.run (G := gm_ref10_Ints) tyOk mixed ?_
    conv => whnf
    refine Tri.block ?_
    replace h := bind_some h
    obtain ⟨y115, q116, h⟩ := h
    refine Tri.cut (fun ex S' => (∃ v117 : Unit, y115 = (.inl v117) ∧ ex = .ret ∧ Weak S' ⟨26, 0, ofRegs [(4, .v (.bool false))], []⟩) ∨ (∃ v118 : Unit, y115 = (.inr v118) ∧ ex = (.exit 0) ∧ Weak S' ⟨26, 0, ofRegs [], []⟩)) ?_ ?_
    · refine Tri.loopF (fun (s119 : Int) => (⟨26, 0, ofRegs [(0, .sl (List.map (encI .i64) a)), (1, .sl (List.map (encI .i64) b)), (5, .v (.int .i64 s119))], []⟩ : St)) q116 (weak_fin _ rfl rfl rfl (LeH.rest) (.cons (.one (.same rfl)) (.cons (.one (.same rfl)) (.cons (.one (.same rfl)) (.nil)))) rfl rfl) ?_
      rintro a114 v120 hv r121
      have hv : ref10_Ints_l2 a b a114 = some v120 := hv
      unfold ref10_Ints_l2 at hv
      refine Tri.seqK ?_
      refine Tri.seqK ?_
      refine Tri.run (G := gm_ref10_Ints) tyOk mixed ?_
      conv => whnf
      refine ⟨⟨(a.length : Int), (len_map _ _).symm, ?_⟩⟩
      conv => whnf
      refine Tri.cond rfl (fun c123 => ?_) (fun c123 => ?_)
      · replace hv := if_t c123 hv
        refine Tri.run (G := gm_ref10_Ints) tyOk mixed ?_
        conv => whnf
        refine Tri.seqK ?_
        refine Tri.block ?_
        refine Tri.seqK ?_
        refine Tri.run (G := gm_ref10_Ints) tyOk mixed ?_
        conv => whnf
        refine Draw.one 9 (.take 0 (.take 1 (.take 2 (.take 3 (.take 4 (.take 5 (.take 6 (.take 7 (.take 8 (.fin)))))))))) [] (by kernel_rfl) ?_
        conv => whnf
        replace hv := bind_some hv
        obtain ⟨x137, q138, hv⟩ := hv
        refine ⟨(ix_some q138).1, ?_⟩
        conv => whnf
        refine ⟨⟨_, map_get (encI .i64) (ix_some q138).2, ?_⟩⟩
        conv => whnf
        refine ⟨rfl, ?_⟩
        conv => whnf
        replace hv := bind_some hv
        obtain ⟨x139, q140, hv⟩ := hv
        refine ⟨(ix_some q140).1, ?_⟩
        conv => whnf
        refine ⟨⟨_, map_get (encI .i64) (ix_some q140).2, ?_⟩⟩
        conv => whnf
        refine ⟨rfl, ?_⟩
        conv => whnf
        refine Tri.cond rfl (fun c141 => ?_) (fun c141 => ?_)
        · replace hv := if_t c141 hv
          refine Tri.seqK ?_
          refine Tri.run (G := gm_ref10_Ints) tyOk mixed ?_
          conv => whnf
          refine Tri.run (G := gm_ref10_Ints) tyOk mixed ?_
          conv => whnf
          cases hv
          obtain rfl := r121 _ rfl
          exact Or.inl ⟨_, rfl, rfl, weak_fin _ rfl rfl rfl (LeH.rest) (.cons (.one (.same rfl)) (.nil)) rfl rfl⟩
        · replace hv := if_f c141 hv
          refine Tri.run (G := gm_ref10_Ints) tyOk mixed ?_
          conv => whnf
          refine Tri.run (G := gm_ref10_Ints) tyOk mixed ?_
          conv => whnf
          cases hv
          exact ⟨_, rfl, weak_fin _ rfl rfl rfl (LeH.rest) (.cons (.one (.same rfl)) (.cons (.one (.same rfl)) (.cons (.one (.same rfl)) (.nil)))) rfl rfl⟩
      · replace hv := if_f c123 hv
        refine Tri.run (G := gm_ref10_Ints) tyOk mixed ?_
        conv => whnf
        cases hv
        obtain rfl := r121 _ rfl
        exact Or.inr (⟨_, rfl, rfl, weak_fin _ rfl rfl rfl (LeH.rest) (.nil) rfl rfl⟩)
    · rintro ex S' (⟨v117, rfl, rfl, w142⟩ | ⟨v118, rfl, rfl, w142⟩)
      · dsimp only at h
        conv => whnf
        refine fin_pre w142 ?_
        conv => whnf
        cases h
        rfl
      · dsimp only at h
        conv => whnf
        refine Tri.weak w142 ?_
        refine Tri.seqK ?_
        refine Tri.run (G := gm_ref10_Ints) tyOk mixed ?_
        conv => whnf
        refine Tri.run (G := gm_ref10_Ints) tyOk mixed ?_
        conv => whnf
        refine fin_here ?_
        conv => whnf
        cases h
        rfl
noncomputable def lock_Late_l2 (l : Locks) (now : Int) (a146 : Int) (a147 : (List Int)) : Option ((Int × (List Int)) ⊕ ((List Int))) :=
  if (decide (a146 < (l.Queue.length : Int))) then
    (
      (ix l.Queue a146).bind fun x165 =>
      if (decide (x165.Until ≤ now)) then
        need ((a147.length + 1) * 8 ≤ 140737488355328) <|
        some (a147 ++ [x165.Txn])
      else
        some a147).bind fun (y163 : (List Int)) =>
    some (.inl ((IntKind.i64.wrap (a146 + 1)), y163))
  else
    some (.inr a147)
noncomputable def lock_Late (l : Locks) (now : Int) : Option ((List Int)) :=
  (loop (fun (s150 : Int × (List Int)) => lock_Late_l2 l now s150.1 s150.2) ((0 : Int), ([] : (List Int)))).bind fun (y148 : (List Int)) =>
  some y148
def gm_lock_Late : Gm := ⟨tys, [], [], []⟩
theorem lock_Late_walk (l : Locks) (now : Int) (r : (List Int)) (h : lock_Late l now = some r) : PureP Try.prog 43 [.agg [.sl (List.map encHold l.Held), .sl (List.map encClaim l.Queue)], .v (.int .u64 now)] (fun a => a = .sl (List.map (encI .i64) r)) := by
  unfold lock_Late at h
  refine pureW (G := gm_lock_Late) tyOk Try.func43 rfl (by kernel_rfl) (by simp [Try.f43]) ?_
  refine Tri.seqK ?_
  refine Tri.run (G := gm_lock_Late) tyOk mixed ?_
  conv => whnf
  refine Tri.seqK ?_
  refine Tri.run (G := gm_lock_Late) tyOk mixed ?_
  conv => whnf
  refine Tri.seqK ?_
  refine Tri.seqK ?_
  refine Tri.run (G := gm_lock_Late) tyOk mixed ?_
  conv => whnf
  refine ⟨⟨(l.Queue.length : Int), (len_map _ _).symm, ?_⟩⟩
  conv => whnf
  refine Tri.block ?_
  replace h := bind_some h
  obtain ⟨y148, q149, h⟩ := h
  refine Tri.cut (fun ex S' => ex = (.exit 0) ∧ Weak S' ⟨26, 0, ofRegs [(5, .row 1 ((List.map (encI .i64) y148).length))], [.gone, .row 3 1 (List.map (encI .i64) y148)]⟩) ?_ ?_
  · refine Tri.loopF (fun (s150 : Int × (List Int)) => (⟨26, 0, ofRegs [(1, .v (.int .u64 now)), (5, .row 1 ((List.map (encI .i64) s150.2).length)), (9, .sl (List.map encClaim l.Queue)), (10, .v (.int .i64 (l.Queue.length : Int))), (11, .v (.int .i64 s150.1))], [.gone, .row 3 1 (List.map (encI .i64) s150.2)]⟩ : St)) q149 (Weak.trans (weak_nil 5 3 1 rfl) (weak_fin _ rfl rfl rfl (.cons (.gone) (.cons (.same rfl) (LeH.rest))) (.cons (.one (.same rfl)) (.cons (.one (.same (show (.row 1 0 : AV) = (.row 1 ((List.map (encI .i64) []).length) : AV) from congrArg (AV.row 1) (by simp)))) (.cons (.one (.same rfl)) (.cons (.one (.same rfl)) (.cons (.one (.same rfl)) (.nil)))))) rfl rfl)) ?_
    rintro ⟨a146, a147⟩ v151 hv r152
    have hv : lock_Late_l2 l now a146 a147 = some v151 := hv
    unfold lock_Late_l2 at hv
    dsimp only
    refine Tri.seqK ?_
    refine Tri.run (G := gm_lock_Late) tyOk mixed ?_
    conv => whnf
    refine Tri.seqK ?_
    refine Tri.cond rfl (fun c154 => ?_) (fun c154 => ?_)
    · replace hv := if_t c154 hv
      refine Tri.run (G := gm_lock_Late) tyOk mixed ?_
      conv => whnf
      refine Tri.seqK ?_
      replace hv := bind_some hv
      obtain ⟨y163, q164, hv⟩ := hv
      refine Tri.cut (fun ex S' => ex = .normal ∧ Weak S' ⟨26, 0, ofRegs [(1, .v (.int .u64 now)), (5, .row 1 ((List.map (encI .i64) y163).length)), (9, .sl (List.map encClaim l.Queue)), (10, .v (.int .i64 (l.Queue.length : Int))), (11, .v (.int .i64 a146))], [.gone, .row 3 1 (List.map (encI .i64) y163)]⟩) ?_ ?_
      · refine Tri.block ?_
        refine Tri.seqK ?_
        refine Tri.run (G := gm_lock_Late) tyOk mixed ?_
        conv => whnf
        replace q164 := bind_some q164
        obtain ⟨x165, q166, q164⟩ := q164
        refine ⟨(ix_some q166).1, ?_⟩
        conv => whnf
        refine ⟨⟨_, map_get encClaim (ix_some q166).2, ?_⟩⟩
        conv => whnf
        refine ⟨rfl, ?_⟩
        conv => whnf
        refine Tri.seqK ?_
        refine Tri.run (G := gm_lock_Late) tyOk mixed ?_
        conv => whnf
        refine Tri.cond rfl (fun c167 => ?_) (fun c167 => ?_)
        · replace q164 := if_t c167 q164
          refine Tri.run (G := gm_lock_Late) tyOk mixed ?_
          conv => whnf
          refine ⟨⟨List.map (encI .i64) [x165.Txn], rfl, ?_⟩⟩
          conv => whnf
          refine ⟨rfl, ?_⟩
          conv => whnf
          refine ⟨rfl, ?_⟩
          conv => whnf
          replace q164 := need_some q164
          obtain ⟨p168, q164⟩ := q164
          refine ⟨by simp only [List.length_map]; exact p168, ?_⟩
          conv => whnf
          refine ⟨⟨List.map (encI .i64) (a147 ++ [x165.Txn]), map_app (encI .i64) _ _ rfl rfl, ?_⟩⟩
          conv => whnf
          cases q164
          exact ⟨rfl, weak_fin _ rfl rfl rfl (.cons (.same rfl) (.cons (.same rfl) (LeH.rest))) (.cons (.one (.same rfl)) (.cons (.one (.same rfl)) (.cons (.one (.same rfl)) (.cons (.one (.same rfl)) (.cons (.one (.same rfl)) (.nil)))))) rfl rfl⟩
        · replace q164 := if_f c167 q164
          refine Tri.run (G := gm_lock_Late) tyOk mixed ?_
          conv => whnf
          cases q164
          exact ⟨rfl, weak_fin _ rfl rfl rfl (.cons (.same rfl) (.cons (.same rfl) (LeH.rest))) (.cons (.one (.same rfl)) (.cons (.one (.same rfl)) (.cons (.one (.same rfl)) (.cons (.one (.same rfl)) (.cons (.one (.same rfl)) (.nil)))))) rfl rfl⟩
      · rintro ex S' ⟨rfl, w169⟩
        conv => whnf
        refine Tri.weak w169 ?_
        refine Tri.run (G := gm_lock_Late) tyOk mixed ?_
        conv => whnf
        cases hv
        exact ⟨_, rfl, weak_fin _ rfl rfl rfl (.cons (.same rfl) (.cons (.same rfl) (LeH.rest))) (.cons (.one (.same rfl)) (.cons (.one (.same rfl)) (.cons (.one (.same rfl)) (.cons (.one (.same rfl)) (.cons (.one (.same rfl)) (.nil)))))) rfl rfl⟩
    · replace hv := if_f c154 hv
      refine Tri.run (G := gm_lock_Late) tyOk mixed ?_
      conv => whnf
      cases hv
      obtain rfl := r152 _ rfl
      exact ⟨rfl, weak_fin _ rfl rfl rfl (.cons (.same rfl) (.cons (.same rfl) (LeH.rest))) (.cons (.one (.same rfl)) (.nil)) rfl rfl⟩
  · rintro ex S' ⟨rfl, w170⟩
    conv => whnf
    refine Tri.weak w170 ?_
    refine Tri.seqK ?_
    refine Tri.run (G := gm_lock_Late) tyOk mixed ?_
    conv => whnf
    refine Tri.run (G := gm_lock_Late) tyOk mixed ?_
    conv => whnf
    refine fin_here ?_
    conv => whnf
    refine ⟨rfl, ?_⟩
    conv => whnf
    cases h
    rfl
noncomputable def ref10_Late_l2 (l : Locks) (now : Int) (a146 : Int) (a147 : (List Int)) : Option ((Int × (List Int)) ⊕ ((List Int))) :=
  if (decide (a146 < (l.Queue.length : Int))) then
    (
      (ix l.Queue a146).bind fun x165 =>
      if (decide (x165.Until ≤ now)) then
        need ((a147.length + 1) * 8 ≤ 140737488355328) <|
        some (a147 ++ [x165.Txn])
      else
        some a147).bind fun (y163 : (List Int)) =>
    some (.inl ((IntKind.i64.wrap (a146 + 1)), y163))
  else
    some (.inr a147)
noncomputable def ref10_Late (l : Locks) (now : Int) : Option ((List Int)) :=
  (loop (fun (s150 : Int × (List Int)) => ref10_Late_l2 l now s150.1 s150.2) ((0 : Int), ([] : (List Int)))).bind fun (y148 : (List Int)) =>
  some y148
def gm_ref10_Late : Gm := ⟨tys, [], [], []⟩
theorem ref10_Late_walk (l : Locks) (now : Int) (r : (List Int)) (h : ref10_Late l now = some r) : PureP Try.prog 44 [.agg [.sl (List.map encHold l.Held), .sl (List.map encClaim l.Queue)], .v (.int .u64 now)] (fun a => a = .sl (List.map (encI .i64) r)) := by
  unfold ref10_Late at h
  refine pureW (G := gm_ref10_Late) tyOk Try.func44 rfl (by kernel_rfl) (by simp [Try.f44]) ?_
  refine Tri.seqK ?_
  refine Tri.run (G := gm_ref10_Late) tyOk mixed ?_
  conv => whnf
  refine Tri.seqK ?_
  refine Tri.run (G := gm_ref10_Late) tyOk mixed ?_
  conv => whnf
  refine Tri.seqK ?_
  refine Tri.seqK ?_
  refine Tri.run (G := gm_ref10_Late) tyOk mixed ?_
  conv => whnf
  refine Tri.block ?_
  replace h := bind_some h
  obtain ⟨y148, q149, h⟩ := h
  refine Tri.cut (fun ex S' => ex = (.exit 0) ∧ Weak S' ⟨32, 0, ofRegs [(5, .row 1 ((List.map (encI .i64) y148).length))], [.gone, .row 3 1 (List.map (encI .i64) y148)]⟩) ?_ ?_
  · refine Tri.loopF (fun (s150 : Int × (List Int)) => (⟨32, 0, ofRegs [(1, .v (.int .u64 now)), (2, .ptr 0 0), (5, .row 1 ((List.map (encI .i64) s150.2).length)), (6, .v (.int .i64 s150.1))], [.var 25 [.sl (List.map encHold l.Held), .sl (List.map encClaim l.Queue)], .row 3 1 (List.map (encI .i64) s150.2)]⟩ : St)) q149 (Weak.trans (weak_nil 5 3 1 rfl) (weak_fin _ rfl rfl rfl (.cons (.same rfl) (.cons (.same rfl) (LeH.rest))) (.cons (.one (.same rfl)) (.cons (.one (.same rfl)) (.cons (.one (.same (show (.row 1 0 : AV) = (.row 1 ((List.map (encI .i64) []).length) : AV) from congrArg (AV.row 1) (by simp)))) (.cons (.one (.same rfl)) (.nil))))) rfl rfl)) ?_
    rintro ⟨a146, a147⟩ v151 hv r152
    have hv : ref10_Late_l2 l now a146 a147 = some v151 := hv
    unfold ref10_Late_l2 at hv
    dsimp only
    refine Tri.seqK ?_
    refine Tri.seqK ?_
    refine Tri.run (G := gm_ref10_Late) tyOk mixed ?_
    conv => whnf
    refine ⟨⟨(l.Queue.length : Int), (len_map _ _).symm, ?_⟩⟩
    conv => whnf
    refine Tri.cond rfl (fun c154 => ?_) (fun c154 => ?_)
    · replace hv := if_t c154 hv
      refine Tri.run (G := gm_ref10_Late) tyOk mixed ?_
      conv => whnf
      refine Tri.seqK ?_
      replace hv := bind_some hv
      obtain ⟨y163, q164, hv⟩ := hv
      refine Tri.cut (fun ex S' => ex = .normal ∧ Weak S' ⟨32, 0, ofRegs [(1, .v (.int .u64 now)), (2, .ptr 0 0), (5, .row 1 ((List.map (encI .i64) y163).length)), (6, .v (.int .i64 a146))], [.var 25 [.sl (List.map encHold l.Held), .sl (List.map encClaim l.Queue)], .row 3 1 (List.map (encI .i64) y163)]⟩) ?_ ?_
      · refine Tri.block ?_
        refine Tri.seqK ?_
        refine Tri.run (G := gm_ref10_Late) tyOk mixed ?_
        conv => whnf
        replace q164 := bind_some q164
        obtain ⟨x165, q166, q164⟩ := q164
        refine ⟨(ix_some q166).1, ?_⟩
        conv => whnf
        refine ⟨⟨_, map_get encClaim (ix_some q166).2, ?_⟩⟩
        conv => whnf
        refine ⟨rfl, ?_⟩
        conv => whnf
        refine Tri.cond rfl (fun c167 => ?_) (fun c167 => ?_)
        · replace q164 := if_t c167 q164
          refine Tri.run (G := gm_ref10_Late) tyOk mixed ?_
          conv => whnf
          refine ⟨(ix_some q166).1, ?_⟩
          conv => whnf
          refine ⟨⟨_, map_get encClaim (ix_some q166).2, ?_⟩⟩
          conv => whnf
          refine ⟨rfl, ?_⟩
          conv => whnf
          refine ⟨⟨List.map (encI .i64) [x165.Txn], rfl, ?_⟩⟩
          conv => whnf
          refine ⟨rfl, ?_⟩
          conv => whnf
          refine ⟨rfl, ?_⟩
          conv => whnf
          replace q164 := need_some q164
          obtain ⟨p168, q164⟩ := q164
          refine ⟨by simp only [List.length_map]; exact p168, ?_⟩
          conv => whnf
          refine ⟨⟨List.map (encI .i64) (a147 ++ [x165.Txn]), map_app (encI .i64) _ _ rfl rfl, ?_⟩⟩
          conv => whnf
          cases q164
          exact ⟨rfl, weak_fin _ rfl rfl rfl (.cons (.same rfl) (.cons (.same rfl) (LeH.rest))) (.cons (.one (.same rfl)) (.cons (.one (.same rfl)) (.cons (.one (.same rfl)) (.cons (.one (.same rfl)) (.nil))))) rfl rfl⟩
        · replace q164 := if_f c167 q164
          refine Tri.run (G := gm_ref10_Late) tyOk mixed ?_
          conv => whnf
          cases q164
          exact ⟨rfl, weak_fin _ rfl rfl rfl (.cons (.same rfl) (.cons (.same rfl) (LeH.rest))) (.cons (.one (.same rfl)) (.cons (.one (.same rfl)) (.cons (.one (.same rfl)) (.cons (.one (.same rfl)) (.nil))))) rfl rfl⟩
      · rintro ex S' ⟨rfl, w169⟩
        conv => whnf
        refine Tri.weak w169 ?_
        refine Tri.run (G := gm_ref10_Late) tyOk mixed ?_
        conv => whnf
        cases hv
        exact ⟨_, rfl, weak_fin _ rfl rfl rfl (.cons (.same rfl) (.cons (.same rfl) (LeH.rest))) (.cons (.one (.same rfl)) (.cons (.one (.same rfl)) (.cons (.one (.same rfl)) (.cons (.one (.same rfl)) (.nil))))) rfl rfl⟩
    · replace hv := if_f c154 hv
      refine Tri.run (G := gm_ref10_Late) tyOk mixed ?_
      conv => whnf
      cases hv
      obtain rfl := r152 _ rfl
      exact ⟨rfl, weak_fin _ rfl rfl rfl (.cons (.gone) (.cons (.same rfl) (LeH.rest))) (.cons (.one (.same rfl)) (.nil)) rfl rfl⟩
  · rintro ex S' ⟨rfl, w170⟩
    conv => whnf
    refine Tri.weak w170 ?_
    refine Tri.seqK ?_
    refine Tri.run (G := gm_ref10_Late) tyOk mixed ?_
    conv => whnf
    refine Tri.run (G := gm_ref10_Late) tyOk mixed ?_
    conv => whnf
    refine fin_here ?_
    conv => whnf
    refine ⟨rfl, ?_⟩
    conv => whnf
    cases h
    rfl
noncomputable def slices_Equal_Hold_l2 (s1 : (List Hold)) (s2 : (List Hold)) (a114 : Int) : Option ((Int) ⊕ ((Unit) ⊕ (Unit))) :=
  if (decide (a114 < (s1.length : Int))) then
    (ix s1 a114).bind fun x137 =>
    (ix s2 a114).bind fun x139 =>
    if (!(decide (x137 = x139))) then
      some (.inr (.inl ()))
    else
      some (.inl (IntKind.i64.wrap (a114 + 1)))
  else
    some (.inr (.inr ()))
noncomputable def slices_Equal_Hold (s1 : (List Hold)) (s2 : (List Hold)) : Option (Bool) :=
  if (!(decide ((s1.length : Int) = (s2.length : Int)))) then
    some false
  else
    (loop (fun (s119 : Int) => slices_Equal_Hold_l2 s1 s2 s119) (0 : Int)).bind fun (y115 : (Unit) ⊕ (Unit)) =>
    match y115 with
    | (.inl v117) =>
      some false
    | (.inr v118) =>
      some true
def gm_slices_Equal_Hold : Gm := ⟨tys, [], [], []⟩
theorem slices_Equal_Hold_walk (s1 : (List Hold)) (s2 : (List Hold)) (r : Bool) (h : slices_Equal_Hold s1 s2 = some r) : PureP Try.prog 76 [.sl (List.map encHold s1), .sl (List.map encHold s2)] (fun a => a = .v (.bool r)) := by
  unfold slices_Equal_Hold at h
  refine pureW (G := gm_slices_Equal_Hold) tyOk Try.func76 rfl (by kernel_rfl) (by simp [Try.f76]) ?_
  refine Tri.seqK ?_
  refine Tri.run (G := gm_slices_Equal_Hold) tyOk mixed ?_
  conv => whnf
  refine Tri.seqK ?_
  refine Tri.seqK ?_
  refine Tri.run (G := gm_slices_Equal_Hold) tyOk mixed ?_
  conv => whnf
  refine ⟨⟨(s1.length : Int), (len_map _ _).symm, ?_⟩⟩
  conv => whnf
  refine ⟨⟨(s2.length : Int), (len_map _ _).symm, ?_⟩⟩
  conv => whnf
  refine Tri.cond rfl (fun c2 => ?_) (fun c2 => ?_)
  · replace h := if_t c2 h
    refine Tri.seqK ?_
    refine Tri.run (G := gm_slices_Equal_Hold) tyOk mixed ?_
    conv => whnf
    refine Tri.run (G := gm_slices_Equal_Hold) tyOk mixed ?_
    conv => whnf
    refine fin_here ?_
    conv => whnf
    cases h
    rfl
  · replace h := if_f c2 h
    refine Tri.run (G := gm_slices_Equal_Hold) tyOk mixed ?_
    conv => whnf
    refine Tri.seqK ?_
    refine Tri.seqK ?_
    refine Tri.run (G := gm_slices_Equal_Hold) tyOk mixed ?_
    conv => whnf
    refine ⟨⟨(s1.length : Int), (len_map _ _).symm, ?_⟩⟩
    conv => whnf
    refine Tri.block ?_
    replace h := bind_some h
    obtain ⟨y115, q116, h⟩ := h
    refine Tri.cut (fun ex S' => (∃ v117 : Unit, y115 = (.inl v117) ∧ ex = .ret ∧ Weak S' ⟨26, 0, ofRegs [(4, .v (.bool false))], []⟩) ∨ (∃ v118 : Unit, y115 = (.inr v118) ∧ ex = (.exit 0) ∧ Weak S' ⟨26, 0, ofRegs [], []⟩)) ?_ ?_
    · refine Tri.loopF (fun (s119 : Int) => (⟨26, 0, ofRegs [(0, .sl (List.map encHold s1)), (1, .sl (List.map encHold s2)), (12, .v (.int .i64 (s1.length : Int))), (13, .v (.int .i64 s119))], []⟩ : St)) q116 (weak_fin _ rfl rfl rfl (LeH.rest) (.cons (.one (.same rfl)) (.cons (.one (.same rfl)) (.cons (.one (.same rfl)) (.cons (.one (.same rfl)) (.nil))))) rfl rfl) ?_
      rintro a114 v120 hv r121
      have hv : slices_Equal_Hold_l2 s1 s2 a114 = some v120 := hv
      unfold slices_Equal_Hold_l2 at hv
      refine Tri.seqK ?_
      refine Tri.run (G := gm_slices_Equal_Hold) tyOk mixed ?_
      conv => whnf
      refine Tri.seqK ?_
      refine Tri.cond rfl (fun c123 => ?_) (fun c123 => ?_)
      · replace hv := if_t c123 hv
        refine Tri.run (G := gm_slices_Equal_Hold) tyOk mixed ?_
        conv => whnf
        refine Tri.seqK ?_
        refine Tri.block ?_
        refine Tri.seqK ?_
        refine Tri.run (G := gm_slices_Equal_Hold) tyOk mixed ?_
        conv => whnf
        refine Tri.seqK ?_
        refine Tri.run (G := gm_slices_Equal_Hold) tyOk mixed ?_
        conv => whnf
        refine Draw.one 9 (.take 0 (.take 1 (.take 2 (.take 3 (.take 4 (.take 5 (.take 6 (.take 7 (.take 8 (.fin)))))))))) [] (by kernel_rfl) ?_
        conv => whnf
        replace hv := bind_some hv
        obtain ⟨x137, q138, hv⟩ := hv
        refine ⟨(ix_some q138).1, ?_⟩
        conv => whnf
        refine ⟨⟨_, map_get encHold (ix_some q138).2, ?_⟩⟩
        conv => whnf
        refine ⟨rfl, ?_⟩
        conv => whnf
        replace hv := bind_some hv
        obtain ⟨x139, q140, hv⟩ := hv
        refine ⟨(ix_some q140).1, ?_⟩
        conv => whnf
        refine ⟨⟨_, map_get encHold (ix_some q140).2, ?_⟩⟩
        conv => whnf
        refine ⟨rfl, ?_⟩
        conv => whnf
        refine ⟨⟨(!(decide (x137 = x139))), congrArg Bool.not (eq_Hold _ _), ?_⟩⟩
        conv => whnf
        refine Tri.cond rfl (fun c141 => ?_) (fun c141 => ?_)
        · replace hv := if_t c141 hv
          refine Tri.seqK ?_
          refine Tri.run (G := gm_slices_Equal_Hold) tyOk mixed ?_
          conv => whnf
          refine Tri.run (G := gm_slices_Equal_Hold) tyOk mixed ?_
          conv => whnf
          cases hv
          obtain rfl := r121 _ rfl
          exact Or.inl ⟨_, rfl, rfl, weak_fin _ rfl rfl rfl (LeH.rest) (.cons (.one (.same rfl)) (.nil)) rfl rfl⟩
        · replace hv := if_f c141 hv
          refine Tri.run (G := gm_slices_Equal_Hold) tyOk mixed ?_
          conv => whnf
          refine Tri.run (G := gm_slices_Equal_Hold) tyOk mixed ?_
          conv => whnf
          cases hv
          exact ⟨_, rfl, weak_fin _ rfl rfl rfl (LeH.rest) (.cons (.one (.same rfl)) (.cons (.one (.same rfl)) (.cons (.one (.same rfl)) (.cons (.one (.same rfl)) (.nil))))) rfl rfl⟩
      · replace hv := if_f c123 hv
        refine Tri.run (G := gm_slices_Equal_Hold) tyOk mixed ?_
        conv => whnf
        cases hv
        obtain rfl := r121 _ rfl
        exact Or.inr (⟨_, rfl, rfl, weak_fin _ rfl rfl rfl (LeH.rest) (.nil) rfl rfl⟩)
    · rintro ex S' (⟨v117, rfl, rfl, w142⟩ | ⟨v118, rfl, rfl, w142⟩)
      · dsimp only at h
        conv => whnf
        refine fin_pre w142 ?_
        conv => whnf
        cases h
        rfl
      · dsimp only at h
        conv => whnf
        refine Tri.weak w142 ?_
        refine Tri.seqK ?_
        refine Tri.run (G := gm_slices_Equal_Hold) tyOk mixed ?_
        conv => whnf
        refine Tri.run (G := gm_slices_Equal_Hold) tyOk mixed ?_
        conv => whnf
        refine fin_here ?_
        conv => whnf
        cases h
        rfl
noncomputable def slices_Equal_Claim_l2 (s1 : (List Claim)) (s2 : (List Claim)) (a114 : Int) : Option ((Int) ⊕ ((Unit) ⊕ (Unit))) :=
  if (decide (a114 < (s1.length : Int))) then
    (ix s1 a114).bind fun x137 =>
    (ix s2 a114).bind fun x139 =>
    if (!(decide (x137 = x139))) then
      some (.inr (.inl ()))
    else
      some (.inl (IntKind.i64.wrap (a114 + 1)))
  else
    some (.inr (.inr ()))
noncomputable def slices_Equal_Claim (s1 : (List Claim)) (s2 : (List Claim)) : Option (Bool) :=
  if (!(decide ((s1.length : Int) = (s2.length : Int)))) then
    some false
  else
    (loop (fun (s119 : Int) => slices_Equal_Claim_l2 s1 s2 s119) (0 : Int)).bind fun (y115 : (Unit) ⊕ (Unit)) =>
    match y115 with
    | (.inl v117) =>
      some false
    | (.inr v118) =>
      some true
def gm_slices_Equal_Claim : Gm := ⟨tys, [], [], []⟩
theorem slices_Equal_Claim_walk (s1 : (List Claim)) (s2 : (List Claim)) (r : Bool) (h : slices_Equal_Claim s1 s2 = some r) : PureP Try.prog 77 [.sl (List.map encClaim s1), .sl (List.map encClaim s2)] (fun a => a = .v (.bool r)) := by
  unfold slices_Equal_Claim at h
  refine pureW (G := gm_slices_Equal_Claim) tyOk Try.func77 rfl (by kernel_rfl) (by simp [Try.f77]) ?_
  refine Tri.seqK ?_
  refine Tri.run (G := gm_slices_Equal_Claim) tyOk mixed ?_
  conv => whnf
  refine Tri.seqK ?_
  refine Tri.seqK ?_
  refine Tri.run (G := gm_slices_Equal_Claim) tyOk mixed ?_
  conv => whnf
  refine ⟨⟨(s1.length : Int), (len_map _ _).symm, ?_⟩⟩
  conv => whnf
  refine ⟨⟨(s2.length : Int), (len_map _ _).symm, ?_⟩⟩
  conv => whnf
  refine Tri.cond rfl (fun c2 => ?_) (fun c2 => ?_)
  · replace h := if_t c2 h
    refine Tri.seqK ?_
    refine Tri.run (G := gm_slices_Equal_Claim) tyOk mixed ?_
    conv => whnf
    refine Tri.run (G := gm_slices_Equal_Claim) tyOk mixed ?_
    conv => whnf
    refine fin_here ?_
    conv => whnf
    cases h
    rfl
  · replace h := if_f c2 h
    refine Tri.run (G := gm_slices_Equal_Claim) tyOk mixed ?_
    conv => whnf
    refine Tri.seqK ?_
    refine Tri.seqK ?_
    refine Tri.run (G := gm_slices_Equal_Claim) tyOk mixed ?_
    conv => whnf
    refine ⟨⟨(s1.length : Int), (len_map _ _).symm, ?_⟩⟩
    conv => whnf
    refine Tri.block ?_
    replace h := bind_some h
    obtain ⟨y115, q116, h⟩ := h
    refine Tri.cut (fun ex S' => (∃ v117 : Unit, y115 = (.inl v117) ∧ ex = .ret ∧ Weak S' ⟨26, 0, ofRegs [(4, .v (.bool false))], []⟩) ∨ (∃ v118 : Unit, y115 = (.inr v118) ∧ ex = (.exit 0) ∧ Weak S' ⟨26, 0, ofRegs [], []⟩)) ?_ ?_
    · refine Tri.loopF (fun (s119 : Int) => (⟨26, 0, ofRegs [(0, .sl (List.map encClaim s1)), (1, .sl (List.map encClaim s2)), (12, .v (.int .i64 (s1.length : Int))), (13, .v (.int .i64 s119))], []⟩ : St)) q116 (weak_fin _ rfl rfl rfl (LeH.rest) (.cons (.one (.same rfl)) (.cons (.one (.same rfl)) (.cons (.one (.same rfl)) (.cons (.one (.same rfl)) (.nil))))) rfl rfl) ?_
      rintro a114 v120 hv r121
      have hv : slices_Equal_Claim_l2 s1 s2 a114 = some v120 := hv
      unfold slices_Equal_Claim_l2 at hv
      refine Tri.seqK ?_
      refine Tri.run (G := gm_slices_Equal_Claim) tyOk mixed ?_
      conv => whnf
      refine Tri.seqK ?_
      refine Tri.cond rfl (fun c123 => ?_) (fun c123 => ?_)
      · replace hv := if_t c123 hv
        refine Tri.run (G := gm_slices_Equal_Claim) tyOk mixed ?_
        conv => whnf
        refine Tri.seqK ?_
        refine Tri.block ?_
        refine Tri.seqK ?_
        refine Tri.run (G := gm_slices_Equal_Claim) tyOk mixed ?_
        conv => whnf
        refine Tri.seqK ?_
        refine Tri.run (G := gm_slices_Equal_Claim) tyOk mixed ?_
        conv => whnf
        refine Draw.one 9 (.take 0 (.take 1 (.take 2 (.take 3 (.take 4 (.take 5 (.take 6 (.take 7 (.take 8 (.fin)))))))))) [] (by kernel_rfl) ?_
        conv => whnf
        replace hv := bind_some hv
        obtain ⟨x137, q138, hv⟩ := hv
        refine ⟨(ix_some q138).1, ?_⟩
        conv => whnf
        refine ⟨⟨_, map_get encClaim (ix_some q138).2, ?_⟩⟩
        conv => whnf
        refine ⟨rfl, ?_⟩
        conv => whnf
        replace hv := bind_some hv
        obtain ⟨x139, q140, hv⟩ := hv
        refine ⟨(ix_some q140).1, ?_⟩
        conv => whnf
        refine ⟨⟨_, map_get encClaim (ix_some q140).2, ?_⟩⟩
        conv => whnf
        refine ⟨rfl, ?_⟩
        conv => whnf
        refine ⟨⟨(!(decide (x137 = x139))), congrArg Bool.not (eq_Claim _ _), ?_⟩⟩
        conv => whnf
        refine Tri.cond rfl (fun c141 => ?_) (fun c141 => ?_)
        · replace hv := if_t c141 hv
          refine Tri.seqK ?_
          refine Tri.run (G := gm_slices_Equal_Claim) tyOk mixed ?_
          conv => whnf
          refine Tri.run (G := gm_slices_Equal_Claim) tyOk mixed ?_
          conv => whnf
          cases hv
          obtain rfl := r121 _ rfl
          exact Or.inl ⟨_, rfl, rfl, weak_fin _ rfl rfl rfl (LeH.rest) (.cons (.one (.same rfl)) (.nil)) rfl rfl⟩
        · replace hv := if_f c141 hv
          refine Tri.run (G := gm_slices_Equal_Claim) tyOk mixed ?_
          conv => whnf
          refine Tri.run (G := gm_slices_Equal_Claim) tyOk mixed ?_
          conv => whnf
          cases hv
          exact ⟨_, rfl, weak_fin _ rfl rfl rfl (LeH.rest) (.cons (.one (.same rfl)) (.cons (.one (.same rfl)) (.cons (.one (.same rfl)) (.cons (.one (.same rfl)) (.nil))))) rfl rfl⟩
      · replace hv := if_f c123 hv
        refine Tri.run (G := gm_slices_Equal_Claim) tyOk mixed ?_
        conv => whnf
        cases hv
        obtain rfl := r121 _ rfl
        exact Or.inr (⟨_, rfl, rfl, weak_fin _ rfl rfl rfl (LeH.rest) (.nil) rfl rfl⟩)
    · rintro ex S' (⟨v117, rfl, rfl, w142⟩ | ⟨v118, rfl, rfl, w142⟩)
      · dsimp only at h
        conv => whnf
        refine fin_pre w142 ?_
        conv => whnf
        cases h
        rfl
      · dsimp only at h
        conv => whnf
        refine Tri.weak w142 ?_
        refine Tri.seqK ?_
        refine Tri.run (G := gm_slices_Equal_Claim) tyOk mixed ?_
        conv => whnf
        refine Tri.run (G := gm_slices_Equal_Claim) tyOk mixed ?_
        conv => whnf
        refine fin_here ?_
        conv => whnf
        cases h
        rfl
noncomputable def lock_Same (a : Locks) (b : Locks) : Option (Bool) :=
  (slices_Equal_Hold a.Held b.Held).bind fun y1 =>
  if y1 then
    (slices_Equal_Claim a.Queue b.Queue).bind fun y4 =>
    some y4
  else
    some false
def gm_lock_Same : Gm := ⟨tys, [], [], []⟩
theorem lock_Same_walk (a : Locks) (b : Locks) (r : Bool) (h : lock_Same a b = some r) : PureP Try.prog 40 [.agg [.sl (List.map encHold a.Held), .sl (List.map encClaim a.Queue)], .agg [.sl (List.map encHold b.Held), .sl (List.map encClaim b.Queue)]] (fun a => a = .v (.bool r)) := by
  unfold lock_Same at h
  refine pureW (G := gm_lock_Same) tyOk Try.func40 rfl (by kernel_rfl) (by simp [Try.f40]) ?_
  refine Tri.seqK ?_
  refine Tri.run (G := gm_lock_Same) tyOk mixed ?_
  conv => whnf
  refine Tri.seqK ?_
  refine Tri.run (G := gm_lock_Same) tyOk mixed ?_
  conv => whnf
  replace h := bind_some h
  obtain ⟨y1, q2, h⟩ := h
  refine PureP.mono (slices_Equal_Hold_walk a.Held b.Held y1 q2) ?_
  rintro _ rfl
  conv => whnf
  refine cond_mk (fun c3 => ?_) (fun c3 => ?_)
  · replace h := if_t c3 h
    conv => whnf
    replace h := bind_some h
    obtain ⟨y4, q5, h⟩ := h
    refine PureP.mono (slices_Equal_Claim_walk a.Queue b.Queue y4 q5) ?_
    rintro _ rfl
    conv => whnf
    refine Tri.run (G := gm_lock_Same) tyOk mixed ?_
    conv => whnf
    refine fin_here ?_
    conv => whnf
    cases h
    rfl
  · replace h := if_f c3 h
    conv => whnf
    refine Tri.run (G := gm_lock_Same) tyOk mixed ?_
    conv => whnf
    refine fin_here ?_
    conv => whnf
    cases h
    rfl
noncomputable def law10_LockAsks (with_ : LockAsksIn) : Option (Bool) :=
  law10_shown.bind fun y1 =>
  (law10_small with_.L).bind fun y3 =>
  if ((!y1) || (!y3)) then
    some y1
  else
    (lock_Ask with_.L with_.Txn with_.W with_.Until).bind fun y17 =>
    (ref10_Ask with_.L with_.Txn with_.W with_.Until).bind fun y19 =>
    (ref10_Same y17.1 y19.1).bind fun y21 =>
    (lock_Blockers with_.L with_.Txn with_.W with_.N).bind fun y29 =>
    (ref10_Blockers with_.L with_.Txn with_.W with_.N).bind fun y31 =>
    (ref10_Ints y29 y31).bind fun y33 =>
    (lock_Late with_.L with_.Until).bind fun y41 =>
    (ref10_Late with_.L with_.Until).bind fun y43 =>
    (ref10_Ints y41 y43).bind fun y45 =>
    if y21 then
      if (decide (y17.2 = y19.2)) then
        if y33 then
          if y45 then
            (lock_Waits with_.L with_.Txn).bind fun y67 =>
            (ref10_Waits with_.L with_.Txn).bind fun y69 =>
            if (y67 == y69) then
              (lock_Same with_.L with_.Other).bind fun y72 =>
              (ref10_Same with_.L with_.Other).bind fun y74 =>
              if (y72 == y74) then
                (lock_Same with_.L with_.L).bind fun y77 =>
                some y77
              else
                some false
            else
              some false
          else
            some false
        else
          some false
      else
        some false
    else
      some false
def gm_law10_LockAsks : Gm := ⟨tys, [], [], []⟩
theorem law10_LockAsks_walk (with_ : LockAsksIn) (r : Bool) (h : law10_LockAsks with_ = some r) : PureP Try.prog 14 [.agg [.sl (List.map encHold with_.L.Held), .sl (List.map encClaim with_.L.Queue), .v (.int .i64 with_.Txn), .v (.int .i64 with_.W.Mode), .v (.string (bs with_.W.Lo)), .v (.string (bs with_.W.Hi)), .v (.int .u64 with_.Until), .v (.int .i64 with_.N), .sl (List.map encHold with_.Other.Held), .sl (List.map encClaim with_.Other.Queue)]] (fun a => a = .v (.bool r)) := by
  unfold law10_LockAsks at h
  refine pureW (G := gm_law10_LockAsks) tyOk Try.func14 rfl (by kernel_rfl) (by simp [Try.f14]) ?_
  refine Tri.seqK ?_
  refine Tri.run (G := gm_law10_LockAsks) tyOk mixed ?_
  conv => whnf
  refine Tri.seqK ?_
  refine Tri.run (G := gm_law10_LockAsks) tyOk mixed ?_
  conv => whnf
  refine Tri.seqK ?_
  refine Tri.run (G := gm_law10_LockAsks) tyOk mixed ?_
  conv => whnf
  refine Tri.seqK ?_
  refine Tri.run (G := gm_law10_LockAsks) tyOk mixed ?_
  conv => whnf
  refine Tri.seqK ?_
  refine Tri.run (G := gm_law10_LockAsks) tyOk mixed ?_
  conv => whnf
  refine Tri.seqK ?_
  refine Tri.run (G := gm_law10_LockAsks) tyOk mixed ?_
  conv => whnf
  refine Tri.seqK ?_
  refine Tri.run (G := gm_law10_LockAsks) tyOk mixed ?_
  conv => whnf
  refine Tri.seqK ?_
  refine Tri.run (G := gm_law10_LockAsks) tyOk mixed ?_
  conv => whnf
  replace h := bind_some h
  obtain ⟨y1, q2, h⟩ := h
  refine PureP.mono (law10_shown_walk y1 q2) ?_
  rintro _ rfl
  conv => whnf
  refine Tri.seqK ?_
  refine Tri.run (G := gm_law10_LockAsks) tyOk mixed ?_
  conv => whnf
  replace h := bind_some h
  obtain ⟨y3, q4, h⟩ := h
  refine PureP.mono (law10_small_walk with_.L y3 q4) ?_
  rintro _ rfl
  conv => whnf
  refine Tri.seqK ?_
  refine Tri.seqK ?_
  refine Tri.cut (fun ex S' => ex = .normal ∧ Weak S' ⟨112, 0, ofRegs [(3, .ptr 1 0), (4, .v (.int .i64 with_.Txn)), (5, .ptr 2 0), (6, .v (.int .u64 with_.Until)), (7, .v (.int .i64 with_.N)), (8, .ptr 3 0), (9, .v (.bool y1)), (38, .v (.bool ((!y1) || (!y3))))], [.gone, .var 25 [.sl (List.map encHold with_.L.Held), .sl (List.map encClaim with_.L.Queue)], .var 44 [.v (.int .i64 with_.W.Mode), .v (.string (bs with_.W.Lo)), .v (.string (bs with_.W.Hi))], .var 25 [.sl (List.map encHold with_.Other.Held), .sl (List.map encClaim with_.Other.Queue)]]⟩) ?_ ?_
  · refine Tri.run (G := gm_law10_LockAsks) tyOk mixed ?_
    conv => whnf
    refine cond_mk (fun c14 => ?_) (fun c14 => ?_)
    · replace c14 : (!y1) = true := c14
      conv => whnf
      exact ⟨rfl, weak_fin _ rfl rfl rfl (.cons (.gone) (.cons (.same rfl) (.cons (.same rfl) (.cons (.same rfl) (LeH.rest))))) (.cons (.one (.same rfl)) (.cons (.one (.same rfl)) (.cons (.one (.same rfl)) (.cons (.one (.same rfl)) (.cons (.one (.same rfl)) (.cons (.one (.same rfl)) (.cons (.one (.same rfl)) (.cons (.one (.same (show (.v (.bool true) : AV) = (.v (.bool ((!y1) || (!y3))) : AV) from by first | (simp [c14]; done) | simp only [c14, Bool.or_true, Bool.true_or, Bool.false_or, Bool.or_false, Bool.and_true, Bool.true_and, Bool.and_false, Bool.false_and, Bool.not_true, Bool.not_false, if_true, if_false, Bool.false_eq_true]))) (.nil))))))))) rfl rfl⟩
    · replace c14 : (!y1) = false := c14
      conv => whnf
      exact ⟨rfl, weak_fin _ rfl rfl rfl (.cons (.gone) (.cons (.same rfl) (.cons (.same rfl) (.cons (.same rfl) (LeH.rest))))) (.cons (.one (.same rfl)) (.cons (.one (.same rfl)) (.cons (.one (.same rfl)) (.cons (.one (.same rfl)) (.cons (.one (.same rfl)) (.cons (.one (.same rfl)) (.cons (.one (.same rfl)) (.cons (.one (.same (show (.v (.bool (!y3)) : AV) = (.v (.bool ((!y1) || (!y3))) : AV) from by first | (simp [c14]; done) | simp only [c14, Bool.or_true, Bool.true_or, Bool.false_or, Bool.or_false, Bool.and_true, Bool.true_and, Bool.and_false, Bool.false_and, Bool.not_true, Bool.not_false, if_true, if_false, Bool.false_eq_true]))) (.nil))))))))) rfl rfl⟩
  · rintro ex S' ⟨rfl, w15⟩
    conv => whnf
    refine Tri.weak w15 ?_
    refine Tri.cond rfl (fun c16 => ?_) (fun c16 => ?_)
    · replace h := if_t c16 h
      refine Tri.seqK ?_
      refine Tri.run (G := gm_law10_LockAsks) tyOk mixed ?_
      conv => whnf
      refine Tri.run (G := gm_law10_LockAsks) tyOk mixed ?_
      conv => whnf
      refine fin_here ?_
      conv => whnf
      cases h
      rfl
    · replace h := if_f c16 h
      refine Tri.run (G := gm_law10_LockAsks) tyOk mixed ?_
      conv => whnf
      refine Tri.seqK ?_
      refine Tri.run (G := gm_law10_LockAsks) tyOk mixed ?_
      conv => whnf
      replace h := bind_some h
      obtain ⟨y17, q18, h⟩ := h
      refine PureP.mono (lock_Ask_walk with_.L with_.Txn with_.W with_.Until y17 q18) ?_
      rintro _ rfl
      conv => whnf
      refine Tri.seqK ?_
      refine Tri.run (G := gm_law10_LockAsks) tyOk mixed ?_
      conv => whnf
      replace h := bind_some h
      obtain ⟨y19, q20, h⟩ := h
      refine PureP.mono (ref10_Ask_walk with_.L with_.Txn with_.W with_.Until y19 q20) ?_
      rintro _ rfl
      conv => whnf
      refine Tri.seqK ?_
      refine Tri.run (G := gm_law10_LockAsks) tyOk mixed ?_
      conv => whnf
      replace h := bind_some h
      obtain ⟨y21, q22, h⟩ := h
      refine PureP.mono (ref10_Same_walk y17.1 y19.1 y21 q22) ?_
      rintro _ rfl
      conv => whnf
      refine Tri.seqK ?_
      refine Tri.run (G := gm_law10_LockAsks) tyOk mixed ?_
      conv => whnf
      refine Draw.one 12 (.take 0 (.take 1 (.take 2 (.take 3 (.take 5 (.take 6 (.take 7 (.take 8 (.alt 4 (.alt 9 (.alt 10 (.take 11 (.fin)) (.nil)) (.nil)) (.nil)))))))))) [] (by kernel_rfl) ?_
      conv => whnf
      refine ⟨?_, ?_⟩
      · conv => whnf
        replace h := bind_some h
        obtain ⟨y29, q30, h⟩ := h
        refine PureP.mono (lock_Blockers_walk with_.L with_.Txn with_.W with_.N y29 q30) ?_
        rintro _ rfl
        conv => whnf
        refine ⟨?_, ?_⟩
        · conv => whnf
          replace h := bind_some h
          obtain ⟨y31, q32, h⟩ := h
          refine PureP.mono (ref10_Blockers_walk with_.L with_.Txn with_.W with_.N y31 q32) ?_
          rintro _ rfl
          conv => whnf
          refine ⟨?_, ?_⟩
          · conv => whnf
            replace h := bind_some h
            obtain ⟨y33, q34, h⟩ := h
            refine PureP.mono (ref10_Ints_walk y29 y31 y33 q34) ?_
            rintro _ rfl
            conv => whnf
            refine Tri.seqK ?_
            refine Tri.run (G := gm_law10_LockAsks) tyOk mixed ?_
            conv => whnf
            refine Draw.one 8 (.take 0 (.take 1 (.take 3 (.take 4 (.alt 2 (.alt 5 (.alt 6 (.take 7 (.fin)) (.nil)) (.nil)) (.nil)))))) [] (by kernel_rfl) ?_
            conv => whnf
            refine ⟨?_, ?_⟩
            · conv => whnf
              replace h := bind_some h
              obtain ⟨y41, q42, h⟩ := h
              refine PureP.mono (lock_Late_walk with_.L with_.Until y41 q42) ?_
              rintro _ rfl
              conv => whnf
              refine ⟨?_, ?_⟩
              · conv => whnf
                replace h := bind_some h
                obtain ⟨y43, q44, h⟩ := h
                refine PureP.mono (ref10_Late_walk with_.L with_.Until y43 q44) ?_
                rintro _ rfl
                conv => whnf
                refine ⟨?_, ?_⟩
                · conv => whnf
                  replace h := bind_some h
                  obtain ⟨y45, q46, h⟩ := h
                  refine PureP.mono (ref10_Ints_walk y41 y43 y45 q46) ?_
                  rintro _ rfl
                  conv => whnf
                  refine Tri.seqK ?_
                  refine Tri.run (G := gm_law10_LockAsks) tyOk mixed ?_
                  conv => whnf
                  refine Draw.one 36 (.take 0 (.take 1 (.take 2 (.take 3 (.take 4 (.take 5 (.take 6 (.take 7 (.take 8 (.take 9 (.take 10 (.take 11 (.take 12 (.take 13 (.take 14 (.take 16 (.take 17 (.alt 15 (.alt 18 (.take 19 (.take 20 (.take 21 (.take 22 (.take 23 (.take 25 (.take 26 (.alt 24 (.alt 27 (.take 28 (.take 29 (.take 30 (.take 31 (.take 32 (.alt 33 (.take 34 (.take 35 (.fin))) (.nil))))))) (.nil)) (.nil))))))))) (.nil)) (.nil))))))))))))))))))) [] (by kernel_rfl) ?_
                  conv => whnf
                  refine cond_mk (fun c63 => ?_) (fun c63 => ?_)
                  · replace h := if_t c63 h
                    conv => whnf
                    refine cond_mk (fun c64 => ?_) (fun c64 => ?_)
                    · replace h := if_t c64 h
                      conv => whnf
                      refine cond_mk (fun c65 => ?_) (fun c65 => ?_)
                      · replace h := if_t c65 h
                        conv => whnf
                        refine cond_mk (fun c66 => ?_) (fun c66 => ?_)
                        · replace h := if_t c66 h
                          conv => whnf
                          refine ⟨?_, ?_⟩
                          · conv => whnf
                            replace h := bind_some h
                            obtain ⟨y67, q68, h⟩ := h
                            refine PureP.mono (lock_Waits_walk with_.L with_.Txn y67 q68) ?_
                            rintro _ rfl
                            conv => whnf
                            refine ⟨?_, ?_⟩
                            · conv => whnf
                              replace h := bind_some h
                              obtain ⟨y69, q70, h⟩ := h
                              refine PureP.mono (ref10_Waits_walk with_.L with_.Txn y69 q70) ?_
                              rintro _ rfl
                              conv => whnf
                              refine cond_mk (fun c71 => ?_) (fun c71 => ?_)
                              · replace h := if_t c71 h
                                conv => whnf
                                refine ⟨?_, ?_⟩
                                · conv => whnf
                                  replace h := bind_some h
                                  obtain ⟨y72, q73, h⟩ := h
                                  refine PureP.mono (lock_Same_walk with_.L with_.Other y72 q73) ?_
                                  rintro _ rfl
                                  conv => whnf
                                  refine ⟨?_, ?_⟩
                                  · conv => whnf
                                    replace h := bind_some h
                                    obtain ⟨y74, q75, h⟩ := h
                                    refine PureP.mono (ref10_Same_walk with_.L with_.Other y74 q75) ?_
                                    rintro _ rfl
                                    conv => whnf
                                    refine cond_mk (fun c76 => ?_) (fun c76 => ?_)
                                    · replace h := if_t c76 h
                                      conv => whnf
                                      refine ⟨?_, ?_⟩
                                      · conv => whnf
                                        replace h := bind_some h
                                        obtain ⟨y77, q78, h⟩ := h
                                        refine PureP.mono (lock_Same_walk with_.L with_.L y77 q78) ?_
                                        rintro _ rfl
                                        conv => whnf
                                        refine Tri.run (G := gm_law10_LockAsks) tyOk mixed ?_
                                        conv => whnf
                                        refine fin_here ?_
                                        conv => whnf
                                        cases h
                                        rfl
                                      · conv => whnf
                                        trivial
                                    · replace h := if_f c76 h
                                      conv => whnf
                                      refine ⟨?_, ?_⟩
                                      · conv => whnf
                                        refine Tri.run (G := gm_law10_LockAsks) tyOk mixed ?_
                                        conv => whnf
                                        refine fin_here ?_
                                        conv => whnf
                                        cases h
                                        rfl
                                      · conv => whnf
                                        trivial
                                  · conv => whnf
                                    trivial
                                · conv => whnf
                                  trivial
                              · replace h := if_f c71 h
                                conv => whnf
                                refine ⟨?_, ?_⟩
                                · conv => whnf
                                  refine ⟨?_, ?_⟩
                                  · conv => whnf
                                    refine ⟨?_, ?_⟩
                                    · conv => whnf
                                      refine Tri.run (G := gm_law10_LockAsks) tyOk mixed ?_
                                      conv => whnf
                                      refine fin_here ?_
                                      conv => whnf
                                      cases h
                                      rfl
                                    · conv => whnf
                                      trivial
                                  · conv => whnf
                                    trivial
                                · conv => whnf
                                  trivial
                            · conv => whnf
                              trivial
                          · conv => whnf
                            trivial
                        · replace h := if_f c66 h
                          conv => whnf
                          refine ⟨?_, ?_⟩
                          · conv => whnf
                            refine ⟨?_, ?_⟩
                            · conv => whnf
                              refine ⟨?_, ?_⟩
                              · conv => whnf
                                refine ⟨?_, ?_⟩
                                · conv => whnf
                                  refine ⟨?_, ?_⟩
                                  · conv => whnf
                                    refine Tri.run (G := gm_law10_LockAsks) tyOk mixed ?_
                                    conv => whnf
                                    refine fin_here ?_
                                    conv => whnf
                                    cases h
                                    rfl
                                  · conv => whnf
                                    trivial
                                · conv => whnf
                                  trivial
                              · conv => whnf
                                trivial
                            · conv => whnf
                              trivial
                          · conv => whnf
                            trivial
                      · replace h := if_f c65 h
                        conv => whnf
                        refine ⟨?_, ?_⟩
                        · conv => whnf
                          refine ⟨?_, ?_⟩
                          · conv => whnf
                            refine ⟨?_, ?_⟩
                            · conv => whnf
                              refine ⟨?_, ?_⟩
                              · conv => whnf
                                refine ⟨?_, ?_⟩
                                · conv => whnf
                                  refine Tri.run (G := gm_law10_LockAsks) tyOk mixed ?_
                                  conv => whnf
                                  refine fin_here ?_
                                  conv => whnf
                                  cases h
                                  rfl
                                · conv => whnf
                                  trivial
                              · conv => whnf
                                trivial
                            · conv => whnf
                              trivial
                          · conv => whnf
                            trivial
                        · conv => whnf
                          trivial
                    · replace h := if_f c64 h
                      conv => whnf
                      refine ⟨?_, ?_⟩
                      · conv => whnf
                        refine ⟨?_, ?_⟩
                        · conv => whnf
                          refine ⟨?_, ?_⟩
                          · conv => whnf
                            refine ⟨?_, ?_⟩
                            · conv => whnf
                              refine ⟨?_, ?_⟩
                              · conv => whnf
                                refine Tri.run (G := gm_law10_LockAsks) tyOk mixed ?_
                                conv => whnf
                                refine fin_here ?_
                                conv => whnf
                                cases h
                                rfl
                              · conv => whnf
                                trivial
                            · conv => whnf
                              trivial
                          · conv => whnf
                            trivial
                        · conv => whnf
                          trivial
                      · conv => whnf
                        trivial
                  · replace h := if_f c63 h
                    conv => whnf
                    refine ⟨?_, ?_⟩
                    · conv => whnf
                      refine ⟨?_, ?_⟩
                      · conv => whnf
                        refine ⟨?_, ?_⟩
                        · conv => whnf
                          refine ⟨?_, ?_⟩
                          · conv => whnf
                            refine ⟨?_, ?_⟩
                            · conv => whnf
                              refine Tri.run (G := gm_law10_LockAsks) tyOk mixed ?_
                              conv => whnf
                              refine fin_here ?_
                              conv => whnf
                              cases h
                              rfl
                            · conv => whnf
                              trivial
                          · conv => whnf
                            trivial
                        · conv => whnf
                          trivial
                      · conv => whnf
                        trivial
                    · conv => whnf
                      trivial
                · conv => whnf
                  trivial
              · conv => whnf
                trivial
            · conv => whnf
              trivial
          · conv => whnf
            trivial
        · conv => whnf
          trivial
      · conv => whnf
        trivial
noncomputable def ref10_Settle_l10 (a2639 : Bool) (a2640 : Int) (a2641 : (List Hold)) (a2642 : (List Claim)) (a2643 : (List Int)) : Option ((Bool × Int × (List Hold) × (List Claim) × (List Int)) ⊕ (Bool × (List Hold) × (List Claim) × (List Int))) :=
  if ((decide (a2640 < (a2642.length : Int))) && (!a2639)) then
    (
      (ix a2642 a2640).bind fun x2717 =>
      (ref10_Blockers ({ Held := a2641, Queue := a2642 } : Locks) x2717.Txn x2717.W a2640).bind fun y2722 =>
      if (decide ((y2722.length : Int) > 0)) then
        some (a2639, a2641, a2642, a2643)
      else
        need (0 ≤ (0 : Int) ∧ 0 ≤ a2640 ∧ a2640 ≤ (a2642.length : Int)) <|
        need ((([] : List Claim).length + (cut a2642 0 a2640).length) * 56 ≤ 140737488355328) <|
        need (0 ≤ (IntKind.i64.wrap (a2640 + 1)) ∧ (IntKind.i64.wrap (a2640 + 1)) ≤ (a2642.length : Int) ∧ (a2642.length : Int) ≤ (a2642.length : Int)) <|
        need (((([] : List Claim) ++ (cut a2642 0 a2640)).length + (cut a2642 (IntKind.i64.wrap (a2640 + 1)) (a2642.length : Int)).length) * 56 ≤ 140737488355328) <|
        need ((([] : List Hold).length + a2641.length) * 48 ≤ 140737488355328) <|
        need (((([] : List Hold) ++ a2641).length + 1) * 48 ≤ 140737488355328) <|
        need ((a2643.length + 1) * 8 ≤ 140737488355328) <|
        some (true, ((([] : List Hold) ++ a2641) ++ [({ Txn := x2717.Txn, W := x2717.W } : Hold)]), ((([] : List Claim) ++ (cut a2642 0 a2640)) ++ (cut a2642 (IntKind.i64.wrap (a2640 + 1)) (a2642.length : Int))), (a2643 ++ [x2717.Txn]))).bind fun (y2715 : Bool × (List Hold) × (List Claim) × (List Int)) =>
    some (.inl (y2715.1, (IntKind.i64.wrap (a2640 + 1)), y2715.2.1, y2715.2.2.1, y2715.2.2.2))
  else
    some (.inr (a2639, a2641, a2642, a2643))
noncomputable def ref10_Settle_l9 (a2431 : Bool) (a2432 : (List Hold)) (a2433 : (List Claim)) (a2434 : (List Int)) : Option ((Bool × (List Hold) × (List Claim) × (List Int)) ⊕ ((List Hold) × (List Claim) × (List Int))) :=
  if a2431 then
    (loop (fun (s2646 : Bool × Int × (List Hold) × (List Claim) × (List Int)) => ref10_Settle_l10 s2646.1 s2646.2.1 s2646.2.2.1 s2646.2.2.2.1 s2646.2.2.2.2) (false, (0 : Int), a2432, a2433, a2434)).bind fun (y2644 : Bool × (List Hold) × (List Claim) × (List Int)) =>
    some (.inl (y2644.1, y2644.2.1, y2644.2.2.1, y2644.2.2.2))
  else
    some (.inr (a2432, a2433, a2434))
noncomputable def ref10_Settle (l : Locks) : Option (Locks × (List Int)) :=
  (loop (fun (s2437 : Bool × (List Hold) × (List Claim) × (List Int)) => ref10_Settle_l9 s2437.1 s2437.2.1 s2437.2.2.1 s2437.2.2.2) (true, l.Held, l.Queue, ([] : (List Int)))).bind fun (y2435 : (List Hold) × (List Claim) × (List Int)) =>
  some (({ Held := y2435.1, Queue := y2435.2.1 } : Locks), y2435.2.2)
def gm_ref10_Settle : Gm := ⟨tys, [], [], []⟩
theorem ref10_Settle_walk (l : Locks) (r : Locks × (List Int)) (h : ref10_Settle l = some r) : PureP Try.prog 31 [.agg [.sl (List.map encHold l.Held), .sl (List.map encClaim l.Queue)]] (fun a => a = .tup [.agg [.sl (List.map encHold r.1.Held), .sl (List.map encClaim r.1.Queue)], .sl (List.map (encI .i64) r.2)]) := by
  unfold ref10_Settle at h
  refine pureW (G := gm_ref10_Settle) tyOk Try.func31 rfl (by kernel_rfl) (by simp [Try.f31]) ?_
  refine Tri.seqK ?_
  refine Tri.run (G := gm_ref10_Settle) tyOk mixed ?_
  conv => whnf
  refine Tri.seqK ?_
  refine Tri.run (G := gm_ref10_Settle) tyOk mixed ?_
  conv => whnf
  refine Tri.seqK ?_
  refine Tri.run (G := gm_ref10_Settle) tyOk mixed ?_
  conv => whnf
  refine Tri.seqK ?_
  refine Tri.block ?_
  replace h := bind_some h
  obtain ⟨y2435, q2436, h⟩ := h
  refine Tri.cut (fun ex S' => ex = (.exit 0) ∧ Weak S' ⟨68, 0, ofRegs [(1, .ptr 0 0), (2, .ptr 1 0), (4, .row 2 ((List.map (encI .i64) y2435.2.2).length))], [.var 25 [.sl (List.map encHold y2435.1), .sl (List.map encClaim y2435.2.1)], .var 25 [.v (.slice none 0 0), .v (.slice none 0 0)], .row 3 1 (List.map (encI .i64) y2435.2.2)]⟩) ?_ ?_
  · refine Tri.loopF (fun (s2437 : Bool × (List Hold) × (List Claim) × (List Int)) => (⟨68, 0, ofRegs [(1, .ptr 0 0), (2, .ptr 1 0), (4, .row 2 ((List.map (encI .i64) s2437.2.2.2).length)), (5, .v (.bool s2437.1))], [.var 25 [.sl (List.map encHold s2437.2.1), .sl (List.map encClaim s2437.2.2.1)], .var 25 [.v (.slice none 0 0), .v (.slice none 0 0)], .row 3 1 (List.map (encI .i64) s2437.2.2.2)]⟩ : St)) q2436 (Weak.trans (weak_nil 4 3 1 rfl) (weak_fin _ rfl rfl rfl (.cons (.same rfl) (.cons (.same rfl) (.cons (.same rfl) (LeH.rest)))) (.cons (.one (.same rfl)) (.cons (.one (.same rfl)) (.cons (.one (.same (show (.row 2 0 : AV) = (.row 2 ((List.map (encI .i64) []).length) : AV) from congrArg (AV.row 2) (by simp)))) (.cons (.one (.same rfl)) (.nil))))) rfl rfl)) ?_
    rintro ⟨a2431, a2432, a2433, a2434⟩ v2438 hv r2439
    have hv : ref10_Settle_l9 a2431 a2432 a2433 a2434 = some v2438 := hv
    unfold ref10_Settle_l9 at hv
    dsimp only
    refine Tri.seqK ?_
    refine Tri.seqK ?_
    refine Tri.run (G := gm_ref10_Settle) tyOk mixed ?_
    conv => whnf
    refine Tri.cond rfl (fun c2441 => ?_) (fun c2441 => ?_)
    · replace hv := if_t c2441 hv
      refine Tri.run (G := gm_ref10_Settle) tyOk mixed ?_
      conv => whnf
      refine Tri.block ?_
      refine Tri.seqK ?_
      refine Tri.run (G := gm_ref10_Settle) tyOk mixed ?_
      conv => whnf
      refine Tri.seqK ?_
      refine Tri.run (G := gm_ref10_Settle) tyOk mixed ?_
      conv => whnf
      refine Tri.block ?_
      replace hv := bind_some hv
      obtain ⟨y2644, q2645, hv⟩ := hv
      refine Tri.cut (fun ex S' => ex = (.exit 2) ∧ Weak S' ⟨68, 0, ofRegs [(1, .ptr 0 0), (2, .ptr 1 0), (4, .row 2 ((List.map (encI .i64) y2644.2.2.2).length)), (5, .v (.bool y2644.1))], [.var 25 [.sl (List.map encHold y2644.2.1), .sl (List.map encClaim y2644.2.2.1)], .var 25 [.v (.slice none 0 0), .v (.slice none 0 0)], .row 3 1 (List.map (encI .i64) y2644.2.2.2)]⟩) ?_ ?_
      · refine Tri.loopF (fun (s2646 : Bool × Int × (List Hold) × (List Claim) × (List Int)) => (⟨68, 0, ofRegs [(1, .ptr 0 0), (2, .ptr 1 0), (4, .row 2 ((List.map (encI .i64) s2646.2.2.2.2).length)), (5, .v (.bool s2646.1)), (6, .v (.int .i64 s2646.2.1))], [.var 25 [.sl (List.map encHold s2646.2.2.1), .sl (List.map encClaim s2646.2.2.2.1)], .var 25 [.v (.slice none 0 0), .v (.slice none 0 0)], .row 3 1 (List.map (encI .i64) s2646.2.2.2.2)]⟩ : St)) q2645 (weak_fin _ rfl rfl rfl (.cons (.same rfl) (.cons (.same rfl) (.cons (.same rfl) (LeH.rest)))) (.cons (.one (.same rfl)) (.cons (.one (.same rfl)) (.cons (.one (.same rfl)) (.cons (.one (.same rfl)) (.cons (.one (.same rfl)) (.nil)))))) rfl rfl) ?_
        rintro ⟨a2639, a2640, a2641, a2642, a2643⟩ v2647 hv r2648
        have hv : ref10_Settle_l10 a2639 a2640 a2641 a2642 a2643 = some v2647 := hv
        unfold ref10_Settle_l10 at hv
        dsimp only
        refine Tri.seqK ?_
        refine Tri.seqK ?_
        refine Tri.cut (fun ex S' => ex = .normal ∧ Weak S' ⟨68, 0, ofRegs [(1, .ptr 0 0), (2, .ptr 1 0), (4, .row 2 ((List.map (encI .i64) a2643).length)), (5, .v (.bool a2639)), (6, .v (.int .i64 a2640)), (18, .v (.bool ((decide (a2640 < (a2642.length : Int))) && (!a2639))))], [.var 25 [.sl (List.map encHold a2641), .sl (List.map encClaim a2642)], .var 25 [.v (.slice none 0 0), .v (.slice none 0 0)], .row 3 1 (List.map (encI .i64) a2643)]⟩) ?_ ?_
        · refine Tri.run (G := gm_ref10_Settle) tyOk mixed ?_
          conv => whnf
          refine ⟨⟨(a2642.length : Int), (len_map _ _).symm, ?_⟩⟩
          conv => whnf
          refine cond_mk (fun c2658 => ?_) (fun c2658 => ?_)
          · replace c2658 : (decide (a2640 < (a2642.length : Int))) = true := c2658
            conv => whnf
            exact ⟨rfl, weak_fin _ rfl rfl rfl (.cons (.same rfl) (.cons (.same rfl) (.cons (.same rfl) (LeH.rest)))) (.cons (.one (.same rfl)) (.cons (.one (.same rfl)) (.cons (.one (.same rfl)) (.cons (.one (.same rfl)) (.cons (.one (.same rfl)) (.cons (.one (.same (show (.v (.bool (!a2639)) : AV) = (.v (.bool ((decide (a2640 < (a2642.length : Int))) && (!a2639))) : AV) from by first | (simp [c2658]; done) | simp only [c2658, Bool.or_true, Bool.true_or, Bool.false_or, Bool.or_false, Bool.and_true, Bool.true_and, Bool.and_false, Bool.false_and, Bool.not_true, Bool.not_false, if_true, if_false, Bool.false_eq_true]))) (.nil))))))) rfl rfl⟩
          · replace c2658 : (decide (a2640 < (a2642.length : Int))) = false := c2658
            conv => whnf
            exact ⟨rfl, weak_fin _ rfl rfl rfl (.cons (.same rfl) (.cons (.same rfl) (.cons (.same rfl) (LeH.rest)))) (.cons (.one (.same rfl)) (.cons (.one (.same rfl)) (.cons (.one (.same rfl)) (.cons (.one (.same rfl)) (.cons (.one (.same rfl)) (.cons (.one (.same (show (.v (.bool false) : AV) = (.v (.bool ((decide (a2640 < (a2642.length : Int))) && (!a2639))) : AV) from by first | (simp [c2658]; done) | simp only [c2658, Bool.or_true, Bool.true_or, Bool.false_or, Bool.or_false, Bool.and_true, Bool.true_and, Bool.and_false, Bool.false_and, Bool.not_true, Bool.not_false, if_true, if_false, Bool.false_eq_true]))) (.nil))))))) rfl rfl⟩
        · rintro ex S' ⟨rfl, w2659⟩
          conv => whnf
          refine Tri.weak w2659 ?_
          refine Tri.cond rfl (fun c2660 => ?_) (fun c2660 => ?_)
          · replace hv := if_t c2660 hv
            refine Tri.run (G := gm_ref10_Settle) tyOk mixed ?_
            conv => whnf
            refine Tri.seqK ?_
            replace hv := bind_some hv
            obtain ⟨y2715, q2716, hv⟩ := hv
            refine Tri.cut (fun ex S' => ex = .normal ∧ Weak S' ⟨68, 0, ofRegs [(1, .ptr 0 0), (2, .ptr 1 0), (4, .row 2 ((List.map (encI .i64) y2715.2.2.2).length)), (5, .v (.bool y2715.1)), (6, .v (.int .i64 a2640))], [.var 25 [.sl (List.map encHold y2715.2.1), .sl (List.map encClaim y2715.2.2.1)], .var 25 [.v (.slice none 0 0), .v (.slice none 0 0)], .row 3 1 (List.map (encI .i64) y2715.2.2.2)]⟩) ?_ ?_
            · refine Tri.block ?_
              refine Tri.seqK ?_
              refine Tri.run (G := gm_ref10_Settle) tyOk mixed ?_
              conv => whnf
              replace q2716 := bind_some q2716
              obtain ⟨x2717, q2718, q2716⟩ := q2716
              refine ⟨(ix_some q2718).1, ?_⟩
              conv => whnf
              refine ⟨⟨_, map_get encClaim (ix_some q2718).2, ?_⟩⟩
              conv => whnf
              refine ⟨rfl, ?_⟩
              conv => whnf
              refine Tri.seqK ?_
              refine Tri.seqK ?_
              refine Tri.run (G := gm_ref10_Settle) tyOk mixed ?_
              conv => whnf
              replace q2716 := bind_some q2716
              obtain ⟨y2722, q2723, q2716⟩ := q2716
              refine PureP.mono (ref10_Blockers_walk ({ Held := a2641, Queue := a2642 } : Locks) x2717.Txn x2717.W a2640 y2722 q2723) ?_
              rintro _ rfl
              conv => whnf
              refine ⟨⟨(y2722.length : Int), (len_map _ _).symm, ?_⟩⟩
              conv => whnf
              refine Tri.cond rfl (fun c2724 => ?_) (fun c2724 => ?_)
              · replace q2716 := if_t c2724 q2716
                refine Tri.run (G := gm_ref10_Settle) tyOk mixed ?_
                conv => whnf
                cases q2716
                exact ⟨rfl, weak_fin _ rfl rfl rfl (.cons (.same rfl) (.cons (.same rfl) (.cons (.same rfl) (LeH.rest)))) (.cons (.one (.same rfl)) (.cons (.one (.same rfl)) (.cons (.one (.same rfl)) (.cons (.one (.same rfl)) (.cons (.one (.same rfl)) (.nil)))))) rfl rfl⟩
              · replace q2716 := if_f c2724 q2716
                refine Tri.run (G := gm_ref10_Settle) tyOk mixed ?_
                conv => whnf
                refine Tri.seqK ?_
                refine Tri.run (G := gm_ref10_Settle) tyOk mixed ?_
                conv => whnf
                refine Tri.seqK ?_
                refine Tri.run (G := gm_ref10_Settle) tyOk mixed ?_
                conv => whnf
                refine ⟨⟨List.map encClaim ([] : List Claim), rfl, ?_⟩⟩
                conv => whnf
                refine ⟨map_len (f := encClaim) (n := 5) (fun _ => rfl) _, ?_⟩
                conv => whnf
                replace q2716 := need_some q2716
                obtain ⟨p2725, q2716⟩ := q2716
                refine ⟨by simpa only [List.length_map] using p2725, ?_⟩
                conv => whnf
                refine ⟨⟨List.map encClaim (cut a2642 0 a2640), map_cut _ _ _ _, ?_⟩⟩
                conv => whnf
                refine ⟨rfl, ?_⟩
                conv => whnf
                refine ⟨map_len (f := encClaim) (n := 5) (fun _ => rfl) _, ?_⟩
                conv => whnf
                replace q2716 := need_some q2716
                obtain ⟨p2726, q2716⟩ := q2716
                refine ⟨by simp only [List.length_map]; exact p2726, ?_⟩
                conv => whnf
                refine ⟨⟨List.map encClaim (([] : List Claim) ++ (cut a2642 0 a2640)), map_app encClaim _ _ rfl rfl, ?_⟩⟩
                conv => whnf
                refine Tri.seqK ?_
                refine Tri.run (G := gm_ref10_Settle) tyOk mixed ?_
                conv => whnf
                refine ⟨map_len (f := encClaim) (n := 5) (fun _ => rfl) _, ?_⟩
                conv => whnf
                replace q2716 := need_some q2716
                obtain ⟨p2727, q2716⟩ := q2716
                refine ⟨by simpa only [List.length_map] using p2727, ?_⟩
                conv => whnf
                refine ⟨⟨List.map encClaim (cut a2642 (IntKind.i64.wrap (a2640 + 1)) (a2642.length : Int)), by rw [map_cut, len_map], ?_⟩⟩
                conv => whnf
                refine ⟨rfl, ?_⟩
                conv => whnf
                refine ⟨map_len (f := encClaim) (n := 5) (fun _ => rfl) _, ?_⟩
                conv => whnf
                replace q2716 := need_some q2716
                obtain ⟨p2728, q2716⟩ := q2716
                refine ⟨by simp only [List.length_map]; exact p2728, ?_⟩
                conv => whnf
                refine ⟨⟨List.map encClaim ((([] : List Claim) ++ (cut a2642 0 a2640)) ++ (cut a2642 (IntKind.i64.wrap (a2640 + 1)) (a2642.length : Int))), map_app encClaim _ _ rfl rfl, ?_⟩⟩
                conv => whnf
                refine Tri.seqK ?_
                refine Tri.run (G := gm_ref10_Settle) tyOk mixed ?_
                conv => whnf
                replace q2716 := need_some q2716
                obtain ⟨p2741, q2716⟩ := q2716
                replace q2716 := need_some q2716
                obtain ⟨p2742, q2716⟩ := q2716
                refine Draw.many 12 (.take 1 (.take 2 (.take 4 (.take 5 (.take 6 (.take 7 (.take 8 (.alt 0 (.alt 3 (.alt 9 (.alt 10 (.take 11 (.fin)) (.nil)) (.nil)) (.alt 9 (.alt 3 (.alt 10 (.take 11 (.fin)) (.nil)) (.nil)) (.nil))) (.alt 9 (.alt 0 (.alt 3 (.alt 10 (.take 11 (.fin)) (.nil)) (.nil)) (.nil)) (.nil)))))))))) [] (⟨68, 0, ofRegs [(1, .ptr 0 0), (2, .ptr 1 0), (4, .row 2 ((List.map (encI .i64) a2643).length)), (5, .v (.bool true)), (6, .v (.int .i64 a2640)), (7, .ptr 3 0), (59, .sl (List.map encHold ((([] : List Hold) ++ a2641) ++ [({ Txn := x2717.Txn, W := x2717.W } : Hold)]))), (60, .ptr 0 0)], [.var 25 [.sl (List.map encHold a2641), .row 4 ((List.map encClaim ((([] : List Claim) ++ (cut a2642 0 a2640)) ++ (cut a2642 (IntKind.i64.wrap (a2640 + 1)) (a2642.length : Int)))).length)], .var 25 [.v (.slice none 0 0), .v (.slice none 0 0)], .row 3 1 (List.map (encI .i64) a2643), .var 51 [.v (.int .i64 x2717.Txn), .v (.int .i64 x2717.W.Mode), .v (.string (bs x2717.W.Lo)), .v (.string (bs x2717.W.Hi)), .v (.int .u64 x2717.Until)], .row 51 5 (List.map encClaim ((([] : List Claim) ++ (cut a2642 0 a2640)) ++ (cut a2642 (IntKind.i64.wrap (a2640 + 1)) (a2642.length : Int))))]⟩) (by kernel_rfl) ?_ ?_
                · conv => whnf
                  refine ⟨?_, ?_⟩
                  · conv => whnf
                    refine ⟨⟨List.map encHold ([] : List Hold), rfl, ?_⟩⟩
                    conv => whnf
                    refine ⟨?_, ?_⟩
                    · conv => whnf
                      refine ⟨rfl, ?_⟩
                      conv => whnf
                      refine ⟨map_len (f := encHold) (n := 4) (fun _ => rfl) _, ?_⟩
                      conv => whnf
                      refine ⟨by simp only [List.length_map]; exact p2741, ?_⟩
                      conv => whnf
                      refine ⟨⟨List.map encHold (([] : List Hold) ++ a2641), map_app encHold _ _ rfl rfl, ?_⟩⟩
                      conv => whnf
                      refine ⟨?_, ?_⟩
                      · conv => whnf
                        refine ⟨⟨List.map encHold [({ Txn := x2717.Txn, W := x2717.W } : Hold)], rfl, ?_⟩⟩
                        conv => whnf
                        refine ⟨?_, ?_⟩
                        · conv => whnf
                          refine ⟨rfl, ?_⟩
                          conv => whnf
                          refine ⟨rfl, ?_⟩
                          conv => whnf
                          refine ⟨by simp only [List.length_map]; exact p2742, ?_⟩
                          conv => whnf
                          refine ⟨⟨List.map encHold ((([] : List Hold) ++ a2641) ++ [({ Txn := x2717.Txn, W := x2717.W } : Hold)]), map_app encHold _ _ rfl rfl, ?_⟩⟩
                          conv => whnf
                          exact Weak.trans (weak_freeze 5 rfl) (weak_fin _ rfl rfl rfl (.cons (.same rfl) (.cons (.same rfl) (.cons (.same rfl) (.cons (.same rfl) (.cons (.same rfl) (LeH.rest)))))) (.cons (.one (.same rfl)) (.cons (.one (.same rfl)) (.cons (.one (.same rfl)) (.cons (.one (.same rfl)) (.cons (.one (.same rfl)) (.cons (.one (.same rfl)) (.cons (.one (.frz rfl (rfl))) (.cons (.one (.same rfl)) (.nil))))))))) rfl rfl)
                        · conv => whnf
                          trivial
                      · conv => whnf
                        trivial
                    · conv => whnf
                      refine ⟨?_, ?_⟩
                      · conv => whnf
                        refine ⟨⟨List.map encHold [({ Txn := x2717.Txn, W := x2717.W } : Hold)], rfl, ?_⟩⟩
                        conv => whnf
                        refine ⟨?_, ?_⟩
                        · conv => whnf
                          refine ⟨rfl, ?_⟩
                          conv => whnf
                          refine ⟨map_len (f := encHold) (n := 4) (fun _ => rfl) _, ?_⟩
                          conv => whnf
                          refine ⟨by simp only [List.length_map]; exact p2741, ?_⟩
                          conv => whnf
                          refine ⟨⟨List.map encHold (([] : List Hold) ++ a2641), map_app encHold _ _ rfl rfl, ?_⟩⟩
                          conv => whnf
                          refine ⟨?_, ?_⟩
                          · conv => whnf
                            refine ⟨rfl, ?_⟩
                            conv => whnf
                            refine ⟨rfl, ?_⟩
                            conv => whnf
                            refine ⟨by simp only [List.length_map]; exact p2742, ?_⟩
                            conv => whnf
                            refine ⟨⟨List.map encHold ((([] : List Hold) ++ a2641) ++ [({ Txn := x2717.Txn, W := x2717.W } : Hold)]), map_app encHold _ _ rfl rfl, ?_⟩⟩
                            conv => whnf
                            exact Weak.trans (weak_freeze 5 rfl) (weak_fin _ rfl rfl rfl (.cons (.same rfl) (.cons (.same rfl) (.cons (.same rfl) (.cons (.same rfl) (.cons (.same rfl) (LeH.rest)))))) (.cons (.one (.same rfl)) (.cons (.one (.same rfl)) (.cons (.one (.same rfl)) (.cons (.one (.same rfl)) (.cons (.one (.same rfl)) (.cons (.one (.same rfl)) (.cons (.one (.frz rfl (rfl))) (.cons (.one (.same rfl)) (.nil))))))))) rfl rfl)
                          · conv => whnf
                            trivial
                        · conv => whnf
                          trivial
                      · conv => whnf
                        trivial
                  · conv => whnf
                    refine ⟨?_, ?_⟩
                    · conv => whnf
                      refine ⟨⟨List.map encHold [({ Txn := x2717.Txn, W := x2717.W } : Hold)], rfl, ?_⟩⟩
                      conv => whnf
                      refine ⟨?_, ?_⟩
                      · conv => whnf
                        refine ⟨⟨List.map encHold ([] : List Hold), rfl, ?_⟩⟩
                        conv => whnf
                        refine ⟨?_, ?_⟩
                        · conv => whnf
                          refine ⟨rfl, ?_⟩
                          conv => whnf
                          refine ⟨map_len (f := encHold) (n := 4) (fun _ => rfl) _, ?_⟩
                          conv => whnf
                          refine ⟨by simp only [List.length_map]; exact p2741, ?_⟩
                          conv => whnf
                          refine ⟨⟨List.map encHold (([] : List Hold) ++ a2641), map_app encHold _ _ rfl rfl, ?_⟩⟩
                          conv => whnf
                          refine ⟨?_, ?_⟩
                          · conv => whnf
                            refine ⟨rfl, ?_⟩
                            conv => whnf
                            refine ⟨rfl, ?_⟩
                            conv => whnf
                            refine ⟨by simp only [List.length_map]; exact p2742, ?_⟩
                            conv => whnf
                            refine ⟨⟨List.map encHold ((([] : List Hold) ++ a2641) ++ [({ Txn := x2717.Txn, W := x2717.W } : Hold)]), map_app encHold _ _ rfl rfl, ?_⟩⟩
                            conv => whnf
                            exact Weak.trans (weak_freeze 6 rfl) (weak_fin _ rfl rfl rfl (.cons (.same rfl) (.cons (.same rfl) (.cons (.same rfl) (.cons (.same rfl) (.cons (.same rfl) (LeH.rest)))))) (.cons (.one (.same rfl)) (.cons (.one (.same rfl)) (.cons (.one (.same rfl)) (.cons (.one (.same rfl)) (.cons (.one (.same rfl)) (.cons (.one (.same rfl)) (.cons (.one (.frz rfl (rfl))) (.cons (.one (.same rfl)) (.nil))))))))) rfl rfl)
                          · conv => whnf
                            trivial
                        · conv => whnf
                          trivial
                      · conv => whnf
                        trivial
                    · conv => whnf
                      trivial
                · conv => whnf
                  refine Tri.run (G := gm_ref10_Settle) tyOk mixed ?_
                  conv => whnf
                  refine ⟨⟨List.map (encI .i64) [x2717.Txn], rfl, ?_⟩⟩
                  conv => whnf
                  refine ⟨rfl, ?_⟩
                  conv => whnf
                  refine ⟨rfl, ?_⟩
                  conv => whnf
                  replace q2716 := need_some q2716
                  obtain ⟨p2743, q2716⟩ := q2716
                  refine ⟨by simp only [List.length_map]; exact p2743, ?_⟩
                  conv => whnf
                  refine ⟨⟨List.map (encI .i64) (a2643 ++ [x2717.Txn]), map_app (encI .i64) _ _ rfl rfl, ?_⟩⟩
                  conv => whnf
                  cases q2716
                  exact ⟨rfl, Weak.trans (weak_freeze 4 rfl) (weak_fin _ rfl rfl rfl (.cons (.var (.cons (.same rfl) (.cons (.frz rfl (rfl)) (.nil)))) (.cons (.same rfl) (.cons (.same rfl) (LeH.rest)))) (.cons (.one (.same rfl)) (.cons (.one (.same rfl)) (.cons (.one (.same rfl)) (.cons (.one (.same rfl)) (.cons (.one (.same rfl)) (.nil)))))) rfl rfl)⟩
            · rintro ex S' ⟨rfl, w2744⟩
              conv => whnf
              refine Tri.weak w2744 ?_
              refine Tri.run (G := gm_ref10_Settle) tyOk mixed ?_
              conv => whnf
              cases hv
              exact ⟨_, rfl, weak_fin _ rfl rfl rfl (.cons (.same rfl) (.cons (.same rfl) (.cons (.same rfl) (LeH.rest)))) (.cons (.one (.same rfl)) (.cons (.one (.same rfl)) (.cons (.one (.same rfl)) (.cons (.one (.same rfl)) (.cons (.one (.same rfl)) (.nil)))))) rfl rfl⟩
          · replace hv := if_f c2660 hv
            refine Tri.run (G := gm_ref10_Settle) tyOk mixed ?_
            conv => whnf
            cases hv
            obtain rfl := r2648 _ rfl
            exact ⟨rfl, weak_fin _ rfl rfl rfl (.cons (.same rfl) (.cons (.same rfl) (.cons (.same rfl) (LeH.rest)))) (.cons (.one (.same rfl)) (.cons (.one (.same rfl)) (.cons (.one (.same rfl)) (.cons (.one (.same rfl)) (.nil))))) rfl rfl⟩
      · rintro ex S' ⟨rfl, w2745⟩
        conv => whnf
        cases hv
        exact ⟨_, rfl, Weak.trans w2745 (weak_fin _ rfl rfl rfl (.cons (.same rfl) (.cons (.same rfl) (.cons (.same rfl) (LeH.rest)))) (.cons (.one (.same rfl)) (.cons (.one (.same rfl)) (.cons (.one (.same rfl)) (.cons (.one (.same rfl)) (.nil))))) rfl rfl)⟩
    · replace hv := if_f c2441 hv
      refine Tri.run (G := gm_ref10_Settle) tyOk mixed ?_
      conv => whnf
      cases hv
      obtain rfl := r2439 _ rfl
      exact ⟨rfl, weak_fin _ rfl rfl rfl (.cons (.same rfl) (.cons (.same rfl) (.cons (.same rfl) (LeH.rest)))) (.cons (.one (.same rfl)) (.cons (.one (.same rfl)) (.cons (.one (.same rfl)) (.nil)))) rfl rfl⟩
  · rintro ex S' ⟨rfl, w2746⟩
    conv => whnf
    refine Tri.weak w2746 ?_
    refine Tri.seqK ?_
    refine Tri.run (G := gm_ref10_Settle) tyOk mixed ?_
    conv => whnf
    refine Tri.run (G := gm_ref10_Settle) tyOk mixed ?_
    conv => whnf
    refine fin_here ?_
    conv => whnf
    refine ⟨rfl, ?_⟩
    conv => whnf
    cases h
    rfl
noncomputable def ref10_Free_l2 (l : Locks) (txn : Int) (a167 : Int) (a168 : (List Hold)) : Option ((Int × (List Hold)) ⊕ ((List Hold))) :=
  if (decide (a167 < (l.Held.length : Int))) then
    (
      (ix l.Held a167).bind fun x188 =>
      if (!(decide (x188.Txn = txn))) then
        need ((a168.length + 1) * 48 ≤ 140737488355328) <|
        some (a168 ++ [x188])
      else
        some a168).bind fun (y186 : (List Hold)) =>
    some (.inl ((IntKind.i64.wrap (a167 + 1)), y186))
  else
    some (.inr a168)
noncomputable def ref10_Free_l4 (l : Locks) (txn : Int) (a361 : Int) (a362 : (List Claim)) : Option ((Int × (List Claim)) ⊕ ((List Claim))) :=
  if (decide (a361 < (l.Queue.length : Int))) then
    (
      (ix l.Queue a361).bind fun x382 =>
      if (!(decide (x382.Txn = txn))) then
        need ((a362.length + 1) * 56 ≤ 140737488355328) <|
        some (a362 ++ [x382])
      else
        some a362).bind fun (y380 : (List Claim)) =>
    some (.inl ((IntKind.i64.wrap (a361 + 1)), y380))
  else
    some (.inr a362)
noncomputable def ref10_Free (l : Locks) (txn : Int) : Option (Locks × (List Int)) :=
  (loop (fun (s171 : Int × (List Hold)) => ref10_Free_l2 l txn s171.1 s171.2) ((0 : Int), ([] : (List Hold)))).bind fun (y169 : (List Hold)) =>
  (loop (fun (s365 : Int × (List Claim)) => ref10_Free_l4 l txn s365.1 s365.2) ((0 : Int), ([] : (List Claim)))).bind fun (y363 : (List Claim)) =>
  (ref10_Settle ({ Held := y169, Queue := y363 } : Locks)).bind fun y389 =>
  some (y389.1, y389.2)
def gm_ref10_Free : Gm := ⟨tys, [], [], []⟩
theorem ref10_Free_walk (l : Locks) (txn : Int) (r : Locks × (List Int)) (h : ref10_Free l txn = some r) : PureP Try.prog 27 [.agg [.sl (List.map encHold l.Held), .sl (List.map encClaim l.Queue)], .v (.int .i64 txn)] (fun a => a = .tup [.agg [.sl (List.map encHold r.1.Held), .sl (List.map encClaim r.1.Queue)], .sl (List.map (encI .i64) r.2)]) := by
  unfold ref10_Free at h
  refine pureW (G := gm_ref10_Free) tyOk Try.func27 rfl (by kernel_rfl) (by simp [Try.f27]) ?_
  refine Tri.seqK ?_
  refine Tri.run (G := gm_ref10_Free) tyOk mixed ?_
  conv => whnf
  refine Tri.seqK ?_
  refine Tri.run (G := gm_ref10_Free) tyOk mixed ?_
  conv => whnf
  refine Tri.seqK ?_
  refine Tri.seqK ?_
  refine Tri.run (G := gm_ref10_Free) tyOk mixed ?_
  conv => whnf
  refine Tri.block ?_
  replace h := bind_some h
  obtain ⟨y169, q170, h⟩ := h
  refine Tri.cut (fun ex S' => ex = (.exit 0) ∧ Weak S' ⟨64, 0, ofRegs [(1, .v (.int .i64 txn)), (2, .ptr 0 0), (4, .ptr 1 0), (6, .ptr 2 0)], [.var 25 [.sl (List.map encHold l.Held), .sl (List.map encClaim l.Queue)], .var 25 [.row 3 ((List.map encHold []).length), .v (.slice none 0 0)], .var 25 [.row 4 ((List.map encHold y169).length), .v (.slice none 0 0)], .row 46 4 (List.map encHold []), .row 46 4 (List.map encHold y169)]⟩) ?_ ?_
  · refine Tri.loopF (fun (s171 : Int × (List Hold)) => (⟨64, 0, ofRegs [(1, .v (.int .i64 txn)), (2, .ptr 0 0), (4, .ptr 1 0), (6, .ptr 2 0), (7, .v (.int .i64 s171.1))], [.var 25 [.sl (List.map encHold l.Held), .sl (List.map encClaim l.Queue)], .var 25 [.row 3 ((List.map encHold []).length), .v (.slice none 0 0)], .var 25 [.row 4 ((List.map encHold s171.2).length), .v (.slice none 0 0)], .row 46 4 (List.map encHold []), .row 46 4 (List.map encHold s171.2)]⟩ : St)) q170 (Weak.trans (weak_nilcell 1 0 46 4 rfl rfl) (Weak.trans (weak_nilcell 2 0 46 4 rfl rfl) (weak_fin _ rfl rfl rfl (.cons (.same rfl) (.cons (.var (.cons (.same (show (.row 3 0 : AV) = (.row 3 ((List.map encHold []).length) : AV) from congrArg (AV.row 3) (by simp))) (.cons (.same rfl) (.nil)))) (.cons (.var (.cons (.same (show (.row 4 0 : AV) = (.row 4 ((List.map encHold []).length) : AV) from congrArg (AV.row 4) (by simp))) (.cons (.same rfl) (.nil)))) (.cons (.same rfl) (.cons (.same rfl) (LeH.rest)))))) (.cons (.one (.same rfl)) (.cons (.one (.same rfl)) (.cons (.one (.same rfl)) (.cons (.one (.same rfl)) (.cons (.one (.same rfl)) (.nil)))))) rfl rfl))) ?_
    rintro ⟨a167, a168⟩ v172 hv r173
    have hv : ref10_Free_l2 l txn a167 a168 = some v172 := hv
    unfold ref10_Free_l2 at hv
    dsimp only
    refine Tri.seqK ?_
    refine Tri.seqK ?_
    refine Tri.run (G := gm_ref10_Free) tyOk mixed ?_
    conv => whnf
    refine ⟨⟨(l.Held.length : Int), (len_map _ _).symm, ?_⟩⟩
    conv => whnf
    refine Tri.cond rfl (fun c175 => ?_) (fun c175 => ?_)
    · replace hv := if_t c175 hv
      refine Tri.run (G := gm_ref10_Free) tyOk mixed ?_
      conv => whnf
      refine Tri.seqK ?_
      replace hv := bind_some hv
      obtain ⟨y186, q187, hv⟩ := hv
      refine Tri.cut (fun ex S' => ex = .normal ∧ Weak S' ⟨64, 0, ofRegs [(1, .v (.int .i64 txn)), (2, .ptr 0 0), (4, .ptr 1 0), (6, .ptr 2 0), (7, .v (.int .i64 a167))], [.var 25 [.sl (List.map encHold l.Held), .sl (List.map encClaim l.Queue)], .var 25 [.row 3 ((List.map encHold []).length), .v (.slice none 0 0)], .var 25 [.row 4 ((List.map encHold y186).length), .v (.slice none 0 0)], .row 46 4 (List.map encHold []), .row 46 4 (List.map encHold y186)]⟩) ?_ ?_
      · refine Tri.block ?_
        refine Tri.seqK ?_
        refine Tri.run (G := gm_ref10_Free) tyOk mixed ?_
        conv => whnf
        replace q187 := bind_some q187
        obtain ⟨x188, q189, q187⟩ := q187
        refine ⟨(ix_some q189).1, ?_⟩
        conv => whnf
        refine ⟨⟨_, map_get encHold (ix_some q189).2, ?_⟩⟩
        conv => whnf
        refine ⟨rfl, ?_⟩
        conv => whnf
        refine Tri.cond rfl (fun c190 => ?_) (fun c190 => ?_)
        · replace q187 := if_t c190 q187
          refine Tri.run (G := gm_ref10_Free) tyOk mixed ?_
          conv => whnf
          refine Draw.one 10 (.take 0 (.take 1 (.take 2 (.take 3 (.take 4 (.take 5 (.take 6 (.alt 7 (.alt 8 (.take 9 (.fin)) (.nil)) (.nil))))))))) [] (by kernel_rfl) ?_
          conv => whnf
          refine ⟨(ix_some q189).1, ?_⟩
          conv => whnf
          refine ⟨⟨_, map_get encHold (ix_some q189).2, ?_⟩⟩
          conv => whnf
          refine ⟨rfl, ?_⟩
          conv => whnf
          refine ⟨?_, ?_⟩
          · conv => whnf
            refine ⟨⟨List.map encHold [x188], rfl, ?_⟩⟩
            conv => whnf
            refine ⟨?_, ?_⟩
            · conv => whnf
              refine ⟨rfl, ?_⟩
              conv => whnf
              refine ⟨rfl, ?_⟩
              conv => whnf
              replace q187 := need_some q187
              obtain ⟨p192, q187⟩ := q187
              refine ⟨by simp only [List.length_map]; exact p192, ?_⟩
              conv => whnf
              refine ⟨⟨List.map encHold (a168 ++ [x188]), map_app encHold _ _ rfl rfl, ?_⟩⟩
              conv => whnf
              cases q187
              exact ⟨rfl, weak_fin _ rfl rfl rfl (.cons (.same rfl) (.cons (.same rfl) (.cons (.same rfl) (.cons (.same rfl) (.cons (.same rfl) (LeH.rest)))))) (.cons (.one (.same rfl)) (.cons (.one (.same rfl)) (.cons (.one (.same rfl)) (.cons (.one (.same rfl)) (.cons (.one (.same rfl)) (.nil)))))) rfl rfl⟩
            · conv => whnf
              trivial
          · conv => whnf
            trivial
        · replace q187 := if_f c190 q187
          refine Tri.run (G := gm_ref10_Free) tyOk mixed ?_
          conv => whnf
          cases q187
          exact ⟨rfl, weak_fin _ rfl rfl rfl (.cons (.same rfl) (.cons (.same rfl) (.cons (.same rfl) (.cons (.same rfl) (.cons (.same rfl) (LeH.rest)))))) (.cons (.one (.same rfl)) (.cons (.one (.same rfl)) (.cons (.one (.same rfl)) (.cons (.one (.same rfl)) (.cons (.one (.same rfl)) (.nil)))))) rfl rfl⟩
      · rintro ex S' ⟨rfl, w193⟩
        conv => whnf
        refine Tri.weak w193 ?_
        refine Tri.run (G := gm_ref10_Free) tyOk mixed ?_
        conv => whnf
        cases hv
        exact ⟨_, rfl, weak_fin _ rfl rfl rfl (.cons (.same rfl) (.cons (.same rfl) (.cons (.same rfl) (.cons (.same rfl) (.cons (.same rfl) (LeH.rest)))))) (.cons (.one (.same rfl)) (.cons (.one (.same rfl)) (.cons (.one (.same rfl)) (.cons (.one (.same rfl)) (.cons (.one (.same rfl)) (.nil)))))) rfl rfl⟩
    · replace hv := if_f c175 hv
      refine Tri.run (G := gm_ref10_Free) tyOk mixed ?_
      conv => whnf
      cases hv
      obtain rfl := r173 _ rfl
      exact ⟨rfl, weak_fin _ rfl rfl rfl (.cons (.same rfl) (.cons (.same rfl) (.cons (.same rfl) (.cons (.same rfl) (.cons (.same rfl) (LeH.rest)))))) (.cons (.one (.same rfl)) (.cons (.one (.same rfl)) (.cons (.one (.same rfl)) (.cons (.one (.same rfl)) (.nil))))) rfl rfl⟩
  · rintro ex S' ⟨rfl, w194⟩
    conv => whnf
    refine Tri.weak w194 ?_
    refine Tri.seqK ?_
    refine Tri.seqK ?_
    refine Tri.run (G := gm_ref10_Free) tyOk mixed ?_
    conv => whnf
    refine Tri.block ?_
    replace h := bind_some h
    obtain ⟨y363, q364, h⟩ := h
    refine Tri.cut (fun ex S' => ex = (.exit 2) ∧ Weak S' ⟨64, 0, ofRegs [(4, .ptr 1 0), (6, .ptr 2 0)], [.gone, .var 25 [.row 3 ((List.map encHold []).length), .row 5 ((List.map encClaim []).length)], .var 25 [.row 4 ((List.map encHold y169).length), .row 6 ((List.map encClaim y363).length)], .row 46 4 (List.map encHold []), .row 46 4 (List.map encHold y169), .row 51 5 (List.map encClaim []), .row 51 5 (List.map encClaim y363)]⟩) ?_ ?_
    · refine Tri.loopF (fun (s365 : Int × (List Claim)) => (⟨64, 0, ofRegs [(1, .v (.int .i64 txn)), (2, .ptr 0 0), (4, .ptr 1 0), (6, .ptr 2 0), (8, .v (.int .i64 s365.1))], [.var 25 [.sl (List.map encHold l.Held), .sl (List.map encClaim l.Queue)], .var 25 [.row 3 ((List.map encHold []).length), .row 5 ((List.map encClaim []).length)], .var 25 [.row 4 ((List.map encHold y169).length), .row 6 ((List.map encClaim s365.2).length)], .row 46 4 (List.map encHold []), .row 46 4 (List.map encHold y169), .row 51 5 (List.map encClaim []), .row 51 5 (List.map encClaim s365.2)]⟩ : St)) q364 (Weak.trans (weak_nilcell 1 1 51 5 rfl rfl) (Weak.trans (weak_nilcell 2 1 51 5 rfl rfl) (weak_fin _ rfl rfl rfl (.cons (.same rfl) (.cons (.var (.cons (.same rfl) (.cons (.same (show (.row 5 0 : AV) = (.row 5 ((List.map encClaim []).length) : AV) from congrArg (AV.row 5) (by simp))) (.nil)))) (.cons (.var (.cons (.same rfl) (.cons (.same (show (.row 6 0 : AV) = (.row 6 ((List.map encClaim []).length) : AV) from congrArg (AV.row 6) (by simp))) (.nil)))) (.cons (.same rfl) (.cons (.same rfl) (.cons (.same rfl) (.cons (.same rfl) (LeH.rest)))))))) (.cons (.one (.same rfl)) (.cons (.one (.same rfl)) (.cons (.one (.same rfl)) (.cons (.one (.same rfl)) (.cons (.one (.same rfl)) (.nil)))))) rfl rfl))) ?_
      rintro ⟨a361, a362⟩ v366 hv r367
      have hv : ref10_Free_l4 l txn a361 a362 = some v366 := hv
      unfold ref10_Free_l4 at hv
      dsimp only
      refine Tri.seqK ?_
      refine Tri.seqK ?_
      refine Tri.run (G := gm_ref10_Free) tyOk mixed ?_
      conv => whnf
      refine ⟨⟨(l.Queue.length : Int), (len_map _ _).symm, ?_⟩⟩
      conv => whnf
      refine Tri.cond rfl (fun c369 => ?_) (fun c369 => ?_)
      · replace hv := if_t c369 hv
        refine Tri.run (G := gm_ref10_Free) tyOk mixed ?_
        conv => whnf
        refine Tri.seqK ?_
        replace hv := bind_some hv
        obtain ⟨y380, q381, hv⟩ := hv
        refine Tri.cut (fun ex S' => ex = .normal ∧ Weak S' ⟨64, 0, ofRegs [(1, .v (.int .i64 txn)), (2, .ptr 0 0), (4, .ptr 1 0), (6, .ptr 2 0), (8, .v (.int .i64 a361))], [.var 25 [.sl (List.map encHold l.Held), .sl (List.map encClaim l.Queue)], .var 25 [.row 3 ((List.map encHold []).length), .row 5 ((List.map encClaim []).length)], .var 25 [.row 4 ((List.map encHold y169).length), .row 6 ((List.map encClaim y380).length)], .row 46 4 (List.map encHold []), .row 46 4 (List.map encHold y169), .row 51 5 (List.map encClaim []), .row 51 5 (List.map encClaim y380)]⟩) ?_ ?_
        · refine Tri.block ?_
          refine Tri.seqK ?_
          refine Tri.run (G := gm_ref10_Free) tyOk mixed ?_
          conv => whnf
          replace q381 := bind_some q381
          obtain ⟨x382, q383, q381⟩ := q381
          refine ⟨(ix_some q383).1, ?_⟩
          conv => whnf
          refine ⟨⟨_, map_get encClaim (ix_some q383).2, ?_⟩⟩
          conv => whnf
          refine ⟨rfl, ?_⟩
          conv => whnf
          refine Tri.cond rfl (fun c384 => ?_) (fun c384 => ?_)
          · replace q381 := if_t c384 q381
            refine Tri.run (G := gm_ref10_Free) tyOk mixed ?_
            conv => whnf
            refine Draw.one 10 (.take 0 (.take 1 (.take 2 (.take 3 (.take 4 (.take 5 (.take 6 (.alt 7 (.alt 8 (.take 9 (.fin)) (.nil)) (.nil))))))))) [] (by kernel_rfl) ?_
            conv => whnf
            refine ⟨(ix_some q383).1, ?_⟩
            conv => whnf
            refine ⟨⟨_, map_get encClaim (ix_some q383).2, ?_⟩⟩
            conv => whnf
            refine ⟨rfl, ?_⟩
            conv => whnf
            refine ⟨?_, ?_⟩
            · conv => whnf
              refine ⟨⟨List.map encClaim [x382], rfl, ?_⟩⟩
              conv => whnf
              refine ⟨?_, ?_⟩
              · conv => whnf
                refine ⟨rfl, ?_⟩
                conv => whnf
                refine ⟨rfl, ?_⟩
                conv => whnf
                replace q381 := need_some q381
                obtain ⟨p386, q381⟩ := q381
                refine ⟨by simp only [List.length_map]; exact p386, ?_⟩
                conv => whnf
                refine ⟨⟨List.map encClaim (a362 ++ [x382]), map_app encClaim _ _ rfl rfl, ?_⟩⟩
                conv => whnf
                cases q381
                exact ⟨rfl, weak_fin _ rfl rfl rfl (.cons (.same rfl) (.cons (.same rfl) (.cons (.same rfl) (.cons (.same rfl) (.cons (.same rfl) (.cons (.same rfl) (.cons (.same rfl) (LeH.rest)))))))) (.cons (.one (.same rfl)) (.cons (.one (.same rfl)) (.cons (.one (.same rfl)) (.cons (.one (.same rfl)) (.cons (.one (.same rfl)) (.nil)))))) rfl rfl⟩
              · conv => whnf
                trivial
            · conv => whnf
              trivial
          · replace q381 := if_f c384 q381
            refine Tri.run (G := gm_ref10_Free) tyOk mixed ?_
            conv => whnf
            cases q381
            exact ⟨rfl, weak_fin _ rfl rfl rfl (.cons (.same rfl) (.cons (.same rfl) (.cons (.same rfl) (.cons (.same rfl) (.cons (.same rfl) (.cons (.same rfl) (.cons (.same rfl) (LeH.rest)))))))) (.cons (.one (.same rfl)) (.cons (.one (.same rfl)) (.cons (.one (.same rfl)) (.cons (.one (.same rfl)) (.cons (.one (.same rfl)) (.nil)))))) rfl rfl⟩
        · rintro ex S' ⟨rfl, w387⟩
          conv => whnf
          refine Tri.weak w387 ?_
          refine Tri.run (G := gm_ref10_Free) tyOk mixed ?_
          conv => whnf
          cases hv
          exact ⟨_, rfl, weak_fin _ rfl rfl rfl (.cons (.same rfl) (.cons (.same rfl) (.cons (.same rfl) (.cons (.same rfl) (.cons (.same rfl) (.cons (.same rfl) (.cons (.same rfl) (LeH.rest)))))))) (.cons (.one (.same rfl)) (.cons (.one (.same rfl)) (.cons (.one (.same rfl)) (.cons (.one (.same rfl)) (.cons (.one (.same rfl)) (.nil)))))) rfl rfl⟩
      · replace hv := if_f c369 hv
        refine Tri.run (G := gm_ref10_Free) tyOk mixed ?_
        conv => whnf
        cases hv
        obtain rfl := r367 _ rfl
        exact ⟨rfl, weak_fin _ rfl rfl rfl (.cons (.gone) (.cons (.same rfl) (.cons (.same rfl) (.cons (.same rfl) (.cons (.same rfl) (.cons (.same rfl) (.cons (.same rfl) (LeH.rest)))))))) (.cons (.one (.same rfl)) (.cons (.one (.same rfl)) (.nil))) rfl rfl⟩
    · rintro ex S' ⟨rfl, w388⟩
      conv => whnf
      refine Tri.weak w388 ?_
      refine Tri.seqK ?_
      refine Tri.run (G := gm_ref10_Free) tyOk mixed ?_
      conv => whnf
      refine ⟨rfl, ?_⟩
      conv => whnf
      refine ⟨rfl, ?_⟩
      conv => whnf
      replace h := bind_some h
      obtain ⟨y389, q390, h⟩ := h
      refine PureP.mono (ref10_Settle_walk ({ Held := y169, Queue := y363 } : Locks) y389 q390) ?_
      rintro _ rfl
      conv => whnf
      refine Tri.run (G := gm_ref10_Free) tyOk mixed ?_
      conv => whnf
      refine fin_here ?_
      conv => whnf
      cases h
      rfl
end Go.Ab
