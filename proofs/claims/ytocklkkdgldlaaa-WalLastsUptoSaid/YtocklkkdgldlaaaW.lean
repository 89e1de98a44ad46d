/- The program's functions as plain Lean functions, and that the program comes to what they come to. Printed by a program of this session. -/
import Derived.Test.YtocklkkdgldlaaaW3
namespace Go.Ab
open Go.Proofs
set_option linter.unusedVariables false
set_option linter.unusedSimpArgs false
set_option maxRecDepth 100000
noncomputable def ref04_cut_l2 (a515 : Int) (a516 : Int) (a517 : (List File)) (a518 : Int) (a519 : Int) (a520 : Bool) : Option ((Int × Int × (List File) × Int × Int × Bool) ⊕ (((List File) × Int × Int × Bool) ⊕ (Int × (List File) × Int × Int × Bool))) :=
  if ((decide (a516 ≤ 1000000)) && (decide (a515 = 0))) then
    (ref04_Name a516).bind fun y583 =>
    (ref03_Find ({ Files := a517, Room := a518, Fuse := a519, Off := a520 } : Disk) y583).bind fun y585 =>
    if (!y585.2) then
      some (.inr (.inl (a517, a518, a519, a520)))
    else
      (ref03_Delete ({ Files := a517, Room := a518, Fuse := a519, Off := a520 } : Disk) y583).bind fun y601 =>
      some (.inl (y601.2, (IntKind.i64.wrap (a516 + 1)), y601.1.Files, y601.1.Room, y601.1.Fuse, y601.1.Off))
  else
    some (.inr (.inr (a515, a517, a518, a519, a520)))
noncomputable def ref04_cut (d : Disk) (seg : Int) (s : Str) : Option (Disk × Int) :=
  (ref03_Find d [119, 46, 110, 101, 119]).bind fun y1 =>
  (
    if y1.2 then
      (ref03_Delete d [119, 46, 110, 101, 119]).bind fun y12 =>
      some (y12.2, y12.1.Files, y12.1.Room, y12.1.Fuse, y12.1.Off)
    else
      some (0, d.Files, d.Room, d.Fuse, d.Off)).bind fun (y9 : Int × (List File) × Int × Int × Bool) =>
  (
    if (decide (y9.1 = 0)) then
      (ref03_Append ({ Files := y9.2.1, Room := y9.2.2.1, Fuse := y9.2.2.2.1, Off := y9.2.2.2.2 } : Disk) [119, 46, 110, 101, 119] s).bind fun y24 =>
      some (y24.2, y24.1.Files, y24.1.Room, y24.1.Fuse, y24.1.Off)
    else
      some (y9.1, y9.2.1, y9.2.2.1, y9.2.2.2.1, y9.2.2.2.2)).bind fun (y21 : Int × (List File) × Int × Int × Bool) =>
  (
    if (decide (y21.1 = 0)) then
      (ref03_Sync ({ Files := y21.2.1, Room := y21.2.2.1, Fuse := y21.2.2.2.1, Off := y21.2.2.2.2 } : Disk) [119, 46, 110, 101, 119]).bind fun y36 =>
      some (y36.2, y36.1.Files, y36.1.Room, y36.1.Fuse, y36.1.Off)
    else
      some (y21.1, y21.2.1, y21.2.2.1, y21.2.2.2.1, y21.2.2.2.2)).bind fun (y33 : Int × (List File) × Int × Int × Bool) =>
  (
    if (decide (y33.1 = 0)) then
      (ref04_Name seg).bind fun y88 =>
      (ref03_Rename ({ Files := y33.2.1, Room := y33.2.2.1, Fuse := y33.2.2.2.1, Off := y33.2.2.2.2 } : Disk) [119, 46, 110, 101, 119] y88).bind fun y90 =>
      some (y90.2, y90.1.Files, y90.1.Room, y90.1.Fuse, y90.1.Off)
    else
      some (y33.1, y33.2.1, y33.2.2.1, y33.2.2.2.1, y33.2.2.2.2)).bind fun (y77 : Int × (List File) × Int × Int × Bool) =>
  (loop (fun (s525 : Int × Int × (List File) × Int × Int × Bool) => ref04_cut_l2 s525.1 s525.2.1 s525.2.2.1 s525.2.2.2.1 s525.2.2.2.2.1 s525.2.2.2.2.2) (y77.1, (IntKind.i64.wrap (seg + 1)), y77.2.1, y77.2.2.1, y77.2.2.2.1, y77.2.2.2.2)).bind fun (y521 : ((List File) × Int × Int × Bool) ⊕ (Int × (List File) × Int × Int × Bool)) =>
  match y521 with
  | (.inl v523) =>
    some (({ Files := v523.1, Room := v523.2.1, Fuse := v523.2.2.1, Off := v523.2.2.2 } : Disk), 0)
  | (.inr v524) =>
    some (({ Files := v524.2.1, Room := v524.2.2.1, Fuse := v524.2.2.2.1, Off := v524.2.2.2.2 } : Disk), v524.1)
def gm_ref04_cut : Gm := ⟨tys, [], [], []⟩
theorem ref04_cut_walk (d : Disk) (seg : Int) (s : Str) (r : Disk × Int) (h : ref04_cut d seg s = some r) : PureP Try.prog 50 [.agg [.sl (List.map encFile d.Files), .v (.int .i64 d.Room), .v (.int .i64 d.Fuse), .v (.bool d.Off)], .v (.int .i64 seg), .v (.string (bs s))] (fun a => a = .tup [.agg [.sl (List.map encFile r.1.Files), .v (.int .i64 r.1.Room), .v (.int .i64 r.1.Fuse), .v (.bool r.1.Off)], .v (.int .i64 r.2)]) := by
  unfold ref04_cut at h
  refine pureW (G := gm_ref04_cut) tyOk Try.func50 rfl (by kernel_rfl) (by simp [Try.f50]) ?_
  refine Tri.seqK ?_
  refine Tri.run (G := gm_ref04_cut) tyOk mixed ?_
  conv => whnf
  refine Tri.seqK ?_
  refine Tri.run (G := gm_ref04_cut) tyOk mixed ?_
  conv => whnf
  refine Tri.seqK ?_
  refine Tri.run (G := gm_ref04_cut) tyOk mixed ?_
  conv => whnf
  replace h := bind_some h
  obtain ⟨y1, q2, h⟩ := h
  refine PureP.mono (ref03_Find_walk d [119, 46, 110, 101, 119] y1 q2) ?_
  rintro _ rfl
  conv => whnf
  refine Tri.seqK ?_
  replace h := bind_some h
  obtain ⟨y9, q10, h⟩ := h
  refine Tri.cut (fun ex S' => ex = .normal ∧ Weak S' ⟨78, 0, ofRegs [(1, .v (.int .i64 seg)), (2, .v (.string (bs s))), (3, .ptr 0 0), (6, .ptr 1 0), (8, .v (.int .i64 y9.1))], [.var 31 [.sl (List.map encFile y9.2.1), .v (.int .i64 y9.2.2.1), .v (.int .i64 y9.2.2.2.1), .v (.bool y9.2.2.2.2)], .var 31 [.v (.slice none 0 0), .v (.int .i64 0), .v (.int .i64 0), .v (.bool false)]]⟩) ?_ ?_
  · refine Tri.seqK ?_
    refine Tri.run (G := gm_ref04_cut) tyOk mixed ?_
    conv => whnf
    refine Tri.cond rfl (fun c11 => ?_) (fun c11 => ?_)
    · replace q10 := if_t c11 q10
      refine Tri.run (G := gm_ref04_cut) tyOk mixed ?_
      conv => whnf
      replace q10 := bind_some q10
      obtain ⟨y12, q13, q10⟩ := q10
      refine PureP.mono (ref03_Delete_walk d [119, 46, 110, 101, 119] y12 q13) ?_
      rintro _ rfl
      conv => whnf
      obtain rfl := Option.some.inj q10
      exact ⟨rfl, weak_fin _ rfl rfl rfl (.cons (.same rfl) (.cons (.same rfl) (LeH.rest))) (.cons (.one (.same rfl)) (.cons (.one (.same rfl)) (.cons (.one (.same rfl)) (.cons (.one (.same rfl)) (.cons (.one (.same rfl)) (.nil)))))) rfl rfl⟩
    · replace q10 := if_f c11 q10
      refine Tri.run (G := gm_ref04_cut) tyOk mixed ?_
      conv => whnf
      obtain rfl := Option.some.inj q10
      exact ⟨rfl, weak_fin _ rfl rfl rfl (.cons (.same rfl) (.cons (.same rfl) (LeH.rest))) (.cons (.one (.same rfl)) (.cons (.one (.same rfl)) (.cons (.one (.same rfl)) (.cons (.one (.same rfl)) (.cons (.one (.same rfl)) (.nil)))))) rfl rfl⟩
  · rintro ex S' ⟨rfl, w14⟩
    conv => whnf
    refine Tri.weak w14 ?_
    refine Tri.seqK ?_
    replace h := bind_some h
    obtain ⟨y21, q22, h⟩ := h
    refine Tri.cut (fun ex S' => ex = .normal ∧ Weak S' ⟨78, 0, ofRegs [(1, .v (.int .i64 seg)), (3, .ptr 0 0), (6, .ptr 1 0), (8, .v (.int .i64 y21.1))], [.var 31 [.sl (List.map encFile y21.2.1), .v (.int .i64 y21.2.2.1), .v (.int .i64 y21.2.2.2.1), .v (.bool y21.2.2.2.2)], .var 31 [.v (.slice none 0 0), .v (.int .i64 0), .v (.int .i64 0), .v (.bool false)]]⟩) ?_ ?_
    · refine Tri.seqK ?_
      refine Tri.run (G := gm_ref04_cut) tyOk mixed ?_
      conv => whnf
      refine Tri.cond rfl (fun c23 => ?_) (fun c23 => ?_)
      · replace q22 := if_t c23 q22
        refine Tri.run (G := gm_ref04_cut) tyOk mixed ?_
        conv => whnf
        replace q22 := bind_some q22
        obtain ⟨y24, q25, q22⟩ := q22
        refine PureP.mono (ref03_Append_walk ({ Files := y9.2.1, Room := y9.2.2.1, Fuse := y9.2.2.2.1, Off := y9.2.2.2.2 } : Disk) [119, 46, 110, 101, 119] s y24 q25) ?_
        rintro _ rfl
        conv => whnf
        obtain rfl := Option.some.inj q22
        exact ⟨rfl, weak_fin _ rfl rfl rfl (.cons (.same rfl) (.cons (.same rfl) (LeH.rest))) (.cons (.one (.same rfl)) (.cons (.one (.same rfl)) (.cons (.one (.same rfl)) (.cons (.one (.same rfl)) (.nil))))) rfl rfl⟩
      · replace q22 := if_f c23 q22
        refine Tri.run (G := gm_ref04_cut) tyOk mixed ?_
        conv => whnf
        obtain rfl := Option.some.inj q22
        exact ⟨rfl, weak_fin _ rfl rfl rfl (.cons (.same rfl) (.cons (.same rfl) (LeH.rest))) (.cons (.one (.same rfl)) (.cons (.one (.same rfl)) (.cons (.one (.same rfl)) (.cons (.one (.same rfl)) (.nil))))) rfl rfl⟩
    · rintro ex S' ⟨rfl, w26⟩
      conv => whnf
      refine Tri.weak w26 ?_
      refine Tri.seqK ?_
      replace h := bind_some h
      obtain ⟨y33, q34, h⟩ := h
      refine Tri.cut (fun ex S' => ex = .normal ∧ Weak S' ⟨78, 0, ofRegs [(1, .v (.int .i64 seg)), (3, .ptr 0 0), (6, .ptr 1 0), (8, .v (.int .i64 y33.1))], [.var 31 [.sl (List.map encFile y33.2.1), .v (.int .i64 y33.2.2.1), .v (.int .i64 y33.2.2.2.1), .v (.bool y33.2.2.2.2)], .var 31 [.v (.slice none 0 0), .v (.int .i64 0), .v (.int .i64 0), .v (.bool false)]]⟩) ?_ ?_
      · refine Tri.seqK ?_
        refine Tri.run (G := gm_ref04_cut) tyOk mixed ?_
        conv => whnf
        refine Tri.cond rfl (fun c35 => ?_) (fun c35 => ?_)
        · replace q34 := if_t c35 q34
          refine Tri.run (G := gm_ref04_cut) tyOk mixed ?_
          conv => whnf
          replace q34 := bind_some q34
          obtain ⟨y36, q37, q34⟩ := q34
          refine PureP.mono (ref03_Sync_walk ({ Files := y21.2.1, Room := y21.2.2.1, Fuse := y21.2.2.2.1, Off := y21.2.2.2.2 } : Disk) [119, 46, 110, 101, 119] y36 q37) ?_
          rintro _ rfl
          conv => whnf
          obtain rfl := Option.some.inj q34
          exact ⟨rfl, weak_fin _ rfl rfl rfl (.cons (.same rfl) (.cons (.same rfl) (LeH.rest))) (.cons (.one (.same rfl)) (.cons (.one (.same rfl)) (.cons (.one (.same rfl)) (.cons (.one (.same rfl)) (.nil))))) rfl rfl⟩
        · replace q34 := if_f c35 q34
          refine Tri.run (G := gm_ref04_cut) tyOk mixed ?_
          conv => whnf
          obtain rfl := Option.some.inj q34
          exact ⟨rfl, weak_fin _ rfl rfl rfl (.cons (.same rfl) (.cons (.same rfl) (LeH.rest))) (.cons (.one (.same rfl)) (.cons (.one (.same rfl)) (.cons (.one (.same rfl)) (.cons (.one (.same rfl)) (.nil))))) rfl rfl⟩
      · rintro ex S' ⟨rfl, w38⟩
        conv => whnf
        refine Tri.weak w38 ?_
        refine Tri.seqK ?_
        replace h := bind_some h
        obtain ⟨y77, q78, h⟩ := h
        refine Tri.cut (fun ex S' => ex = .normal ∧ Weak S' ⟨78, 0, ofRegs [(1, .v (.int .i64 seg)), (3, .ptr 0 0), (6, .ptr 1 0), (8, .v (.int .i64 y77.1))], [.var 31 [.sl (List.map encFile y77.2.1), .v (.int .i64 y77.2.2.1), .v (.int .i64 y77.2.2.2.1), .v (.bool y77.2.2.2.2)], .var 31 [.v (.slice none 0 0), .v (.int .i64 0), .v (.int .i64 0), .v (.bool false)]]⟩) ?_ ?_
        · refine Tri.seqK ?_
          refine Tri.run (G := gm_ref04_cut) tyOk mixed ?_
          conv => whnf
          refine Tri.cond rfl (fun c79 => ?_) (fun c79 => ?_)
          · replace q78 := if_t c79 q78
            refine Tri.run (G := gm_ref04_cut) tyOk mixed ?_
            conv => whnf
            replace q78 := bind_some q78
            obtain ⟨y88, q96, q78⟩ := q78
            replace q78 := bind_some q78
            obtain ⟨y90, q97, q78⟩ := q78
            refine Draw.many 8 (.take 1 (.alt 0 (.alt 2 (.alt 3 (.take 4 (.take 5 (.take 6 (.alt 7 (.fin) (.nil))))) (.nil)) (.nil)) (.alt 2 (.alt 0 (.alt 3 (.take 4 (.take 5 (.take 6 (.alt 7 (.fin) (.nil))))) (.nil)) (.nil)) (.nil)))) [0, 2, 3, 4, 5, 6, 7] (⟨78, 0, ofRegs [(1, .v (.int .i64 seg)), (3, .ptr 0 0), (6, .ptr 1 0), (48, .v (.int .i64 y90.2))], [.var 31 [.sl (List.map encFile y90.1.Files), .v (.int .i64 y90.1.Room), .v (.int .i64 y90.1.Fuse), .v (.bool y90.1.Off)], .var 31 [.v (.slice none 0 0), .v (.int .i64 0), .v (.int .i64 0), .v (.bool false)]]⟩) (by kernel_rfl) ?_ ?_
            · conv => whnf
              refine ⟨?_, ?_⟩
              · conv => whnf
                refine ⟨?_, ?_⟩
                · conv => whnf
                  refine PureP.mono (ref04_Name_walk seg y88 q96) ?_
                  rintro _ rfl
                  conv => whnf
                  refine ⟨?_, ?_⟩
                  · conv => whnf
                    refine PureP.mono (ref03_Rename_walk ({ Files := y33.2.1, Room := y33.2.2.1, Fuse := y33.2.2.2.1, Off := y33.2.2.2.2 } : Disk) [119, 46, 110, 101, 119] y88 y90 q97) ?_
                    rintro _ rfl
                    conv => whnf
                    refine ⟨?_, ?_⟩
                    · conv => whnf
                      exact weak_fin _ rfl rfl rfl (.cons (.same rfl) (.cons (.same rfl) (LeH.rest))) (.cons (.one (.same rfl)) (.cons (.one (.same rfl)) (.cons (.one (.same rfl)) (.cons (.one (.same rfl)) (.nil))))) rfl rfl
                    · conv => whnf
                      trivial
                  · conv => whnf
                    trivial
                · conv => whnf
                  trivial
              · conv => whnf
                refine ⟨?_, ?_⟩
                · conv => whnf
                  refine PureP.mono (ref04_Name_walk seg y88 q96) ?_
                  rintro _ rfl
                  conv => whnf
                  refine ⟨?_, ?_⟩
                  · conv => whnf
                    refine ⟨?_, ?_⟩
                    · conv => whnf
                      refine PureP.mono (ref03_Rename_walk ({ Files := y33.2.1, Room := y33.2.2.1, Fuse := y33.2.2.2.1, Off := y33.2.2.2.2 } : Disk) [119, 46, 110, 101, 119] y88 y90 q97) ?_
                      rintro _ rfl
                      conv => whnf
                      refine ⟨?_, ?_⟩
                      · conv => whnf
                        exact weak_fin _ rfl rfl rfl (.cons (.same rfl) (.cons (.same rfl) (LeH.rest))) (.cons (.one (.same rfl)) (.cons (.one (.same rfl)) (.cons (.one (.same rfl)) (.cons (.one (.same rfl)) (.nil))))) rfl rfl
                      · conv => whnf
                        trivial
                    · conv => whnf
                      trivial
                  · conv => whnf
                    trivial
                · conv => whnf
                  trivial
            · conv => whnf
              obtain rfl := Option.some.inj q78
              exact ⟨rfl, weak_fin _ rfl rfl rfl (.cons (.same rfl) (.cons (.same rfl) (LeH.rest))) (.cons (.one (.same rfl)) (.cons (.one (.same rfl)) (.cons (.one (.same rfl)) (.cons (.one (.same rfl)) (.nil))))) rfl rfl⟩
          · replace q78 := if_f c79 q78
            refine Tri.run (G := gm_ref04_cut) tyOk mixed ?_
            conv => whnf
            obtain rfl := Option.some.inj q78
            exact ⟨rfl, weak_fin _ rfl rfl rfl (.cons (.same rfl) (.cons (.same rfl) (LeH.rest))) (.cons (.one (.same rfl)) (.cons (.one (.same rfl)) (.cons (.one (.same rfl)) (.cons (.one (.same rfl)) (.nil))))) rfl rfl⟩
        · rintro ex S' ⟨rfl, w98⟩
          conv => whnf
          refine Tri.weak w98 ?_
          refine Tri.seqK ?_
          refine Tri.seqK ?_
          refine Tri.run (G := gm_ref04_cut) tyOk mixed ?_
          conv => whnf
          refine Tri.block ?_
          replace h := bind_some h
          obtain ⟨y521, q522, h⟩ := h
          refine Tri.cut (fun ex S' => (∃ v523 : (List File) × Int × Int × Bool, y521 = (.inl v523) ∧ ex = .ret ∧ Weak S' ⟨78, 0, ofRegs [(6, .ptr 1 0), (7, .v (.int .i64 0))], [.gone, .var 31 [.sl (List.map encFile v523.1), .v (.int .i64 v523.2.1), .v (.int .i64 v523.2.2.1), .v (.bool v523.2.2.2)]]⟩) ∨ (∃ v524 : Int × (List File) × Int × Int × Bool, y521 = (.inr v524) ∧ ex = (.exit 0) ∧ Weak S' ⟨78, 0, ofRegs [(3, .ptr 0 0), (6, .ptr 1 0), (8, .v (.int .i64 v524.1))], [.var 31 [.sl (List.map encFile v524.2.1), .v (.int .i64 v524.2.2.1), .v (.int .i64 v524.2.2.2.1), .v (.bool v524.2.2.2.2)], .var 31 [.v (.slice none 0 0), .v (.int .i64 0), .v (.int .i64 0), .v (.bool false)]]⟩)) ?_ ?_
          · refine Tri.loopF (fun (s525 : Int × Int × (List File) × Int × Int × Bool) => (⟨78, 0, ofRegs [(3, .ptr 0 0), (6, .ptr 1 0), (8, .v (.int .i64 s525.1)), (11, .v (.int .i64 s525.2.1))], [.var 31 [.sl (List.map encFile s525.2.2.1), .v (.int .i64 s525.2.2.2.1), .v (.int .i64 s525.2.2.2.2.1), .v (.bool s525.2.2.2.2.2)], .var 31 [.v (.slice none 0 0), .v (.int .i64 0), .v (.int .i64 0), .v (.bool false)]]⟩ : St)) q522 (weak_fin _ rfl rfl rfl (.cons (.same rfl) (.cons (.same rfl) (LeH.rest))) (.cons (.one (.same rfl)) (.cons (.one (.same rfl)) (.cons (.one (.same rfl)) (.cons (.one (.same rfl)) (.nil))))) rfl rfl) ?_
            rintro ⟨a515, a516, a517, a518, a519, a520⟩ v526 hv r527
            have hv : ref04_cut_l2 a515 a516 a517 a518 a519 a520 = some v526 := hv
            unfold ref04_cut_l2 at hv
            dsimp only
            refine Tri.seqK ?_
            refine Tri.seqK ?_
            refine Tri.cut (fun ex S' => ex = .normal ∧ Weak S' ⟨78, 0, ofRegs [(3, .ptr 0 0), (6, .ptr 1 0), (8, .v (.int .i64 a515)), (11, .v (.int .i64 a516)), (56, .v (.bool ((decide (a516 ≤ 1000000)) && (decide (a515 = 0)))))], [.var 31 [.sl (List.map encFile a517), .v (.int .i64 a518), .v (.int .i64 a519), .v (.bool a520)], .var 31 [.v (.slice none 0 0), .v (.int .i64 0), .v (.int .i64 0), .v (.bool false)]]⟩) ?_ ?_
            · refine Tri.run (G := gm_ref04_cut) tyOk mixed ?_
              conv => whnf
              refine cond_mk (fun c537 => ?_) (fun c537 => ?_)
              · replace c537 : (decide (a516 ≤ 1000000)) = true := c537
                conv => whnf
                exact ⟨rfl, weak_fin _ rfl rfl rfl (.cons (.same rfl) (.cons (.same rfl) (LeH.rest))) (.cons (.one (.same rfl)) (.cons (.one (.same rfl)) (.cons (.one (.same rfl)) (.cons (.one (.same rfl)) (.cons (.one (.same (show (.v (.bool (decide (a515 = 0))) : AV) = (.v (.bool ((decide (a516 ≤ 1000000)) && (decide (a515 = 0)))) : AV) from by first | (simp [c537]; done) | simp only [c537, Bool.or_true, Bool.true_or, Bool.false_or, Bool.or_false, Bool.and_true, Bool.true_and, Bool.and_false, Bool.false_and, Bool.not_true, Bool.not_false, if_true, if_false, Bool.false_eq_true]))) (.nil)))))) rfl rfl⟩
              · replace c537 : (decide (a516 ≤ 1000000)) = false := c537
                conv => whnf
                exact ⟨rfl, weak_fin _ rfl rfl rfl (.cons (.same rfl) (.cons (.same rfl) (LeH.rest))) (.cons (.one (.same rfl)) (.cons (.one (.same rfl)) (.cons (.one (.same rfl)) (.cons (.one (.same rfl)) (.cons (.one (.same (show (.v (.bool false) : AV) = (.v (.bool ((decide (a516 ≤ 1000000)) && (decide (a515 = 0)))) : AV) from by first | (simp [c537]; done) | simp only [c537, Bool.or_true, Bool.true_or, Bool.false_or, Bool.or_false, Bool.and_true, Bool.true_and, Bool.and_false, Bool.false_and, Bool.not_true, Bool.not_false, if_true, if_false, Bool.false_eq_true]))) (.nil)))))) rfl rfl⟩
            · rintro ex S' ⟨rfl, w538⟩
              conv => whnf
              refine Tri.weak w538 ?_
              refine Tri.cond rfl (fun c539 => ?_) (fun c539 => ?_)
              · replace hv := if_t c539 hv
                refine Tri.run (G := gm_ref04_cut) tyOk mixed ?_
                conv => whnf
                refine Tri.seqK ?_
                refine Tri.block ?_
                refine Tri.seqK ?_
                refine Tri.run (G := gm_ref04_cut) tyOk mixed ?_
                conv => whnf
                replace hv := bind_some hv
                obtain ⟨y583, q593, hv⟩ := hv
                replace hv := bind_some hv
                obtain ⟨y585, q594, hv⟩ := hv
                refine Draw.many 9 (.take 0 (.take 1 (.alt 2 (.alt 3 (.take 4 (.take 5 (.take 6 (.alt 7 (.alt 8 (.fin) (.nil)) (.nil))))) (.alt 7 (.alt 3 (.take 4 (.take 5 (.take 6 (.alt 8 (.fin) (.nil))))) (.nil)) (.nil))) (.alt 7 (.alt 2 (.alt 3 (.take 4 (.take 5 (.take 6 (.alt 8 (.fin) (.nil))))) (.nil)) (.nil)) (.nil))))) [2, 3, 4, 5, 6, 7] (⟨78, 0, ofRegs [(3, .ptr 0 0), (6, .ptr 1 0), (11, .v (.int .i64 a516)), (65, .v (.bool y585.2))], [.var 31 [.sl (List.map encFile a517), .v (.int .i64 a518), .v (.int .i64 a519), .v (.bool a520)], .var 31 [.v (.slice none 0 0), .v (.int .i64 0), .v (.int .i64 0), .v (.bool false)]]⟩) (by kernel_rfl) ?_ ?_
                · conv => whnf
                  refine ⟨?_, ?_⟩
                  · conv => whnf
                    refine PureP.mono (ref04_Name_walk a516 y583 q593) ?_
                    rintro _ rfl
                    conv => whnf
                    refine ⟨?_, ?_⟩
                    · conv => whnf
                      refine PureP.mono (ref03_Find_walk ({ Files := a517, Room := a518, Fuse := a519, Off := a520 } : Disk) y583 y585 q594) ?_
                      rintro _ rfl
                      conv => whnf
                      refine ⟨?_, ?_⟩
                      · conv => whnf
                        refine ⟨?_, ?_⟩
                        · conv => whnf
                          exact weak_fin _ rfl rfl rfl (.cons (.same rfl) (.cons (.same rfl) (LeH.rest))) (.cons (.one (.same rfl)) (.cons (.one (.same rfl)) (.cons (.one (.same rfl)) (.cons (.one (.same rfl)) (.nil))))) rfl rfl
                        · conv => whnf
                          trivial
                      · conv => whnf
                        trivial
                    · conv => whnf
                      refine ⟨?_, ?_⟩
                      · conv => whnf
                        refine ⟨?_, ?_⟩
                        · conv => whnf
                          refine PureP.mono (ref03_Find_walk ({ Files := a517, Room := a518, Fuse := a519, Off := a520 } : Disk) y583 y585 q594) ?_
                          rintro _ rfl
                          conv => whnf
                          refine ⟨?_, ?_⟩
                          · conv => whnf
                            exact weak_fin _ rfl rfl rfl (.cons (.same rfl) (.cons (.same rfl) (LeH.rest))) (.cons (.one (.same rfl)) (.cons (.one (.same rfl)) (.cons (.one (.same rfl)) (.cons (.one (.same rfl)) (.nil))))) rfl rfl
                          · conv => whnf
                            trivial
                        · conv => whnf
                          trivial
                      · conv => whnf
                        trivial
                  · conv => whnf
                    refine ⟨?_, ?_⟩
                    · conv => whnf
                      refine ⟨?_, ?_⟩
                      · conv => whnf
                        refine PureP.mono (ref04_Name_walk a516 y583 q593) ?_
                        rintro _ rfl
                        conv => whnf
                        refine ⟨?_, ?_⟩
                        · conv => whnf
                          refine PureP.mono (ref03_Find_walk ({ Files := a517, Room := a518, Fuse := a519, Off := a520 } : Disk) y583 y585 q594) ?_
                          rintro _ rfl
                          conv => whnf
                          refine ⟨?_, ?_⟩
                          · conv => whnf
                            exact weak_fin _ rfl rfl rfl (.cons (.same rfl) (.cons (.same rfl) (LeH.rest))) (.cons (.one (.same rfl)) (.cons (.one (.same rfl)) (.cons (.one (.same rfl)) (.cons (.one (.same rfl)) (.nil))))) rfl rfl
                          · conv => whnf
                            trivial
                        · conv => whnf
                          trivial
                      · conv => whnf
                        trivial
                    · conv => whnf
                      trivial
                · conv => whnf
                  refine Tri.seqK ?_
                  refine Tri.seqK ?_
                  refine Tri.run (G := gm_ref04_cut) tyOk mixed ?_
                  conv => whnf
                  refine Tri.cond rfl (fun c596 => ?_) (fun c596 => ?_)
                  · replace hv := if_t c596 hv
                    refine Tri.seqK ?_
                    refine Tri.run (G := gm_ref04_cut) tyOk mixed ?_
                    conv => whnf
                    refine Tri.run (G := gm_ref04_cut) tyOk mixed ?_
                    conv => whnf
                    obtain rfl := Option.some.inj hv
                    obtain rfl := r527 _ rfl
                    exact Or.inl ⟨_, rfl, rfl, weak_fin _ rfl rfl rfl (.cons (.gone) (.cons (.same rfl) (LeH.rest))) (.cons (.one (.same rfl)) (.cons (.one (.same rfl)) (.nil))) rfl rfl⟩
                  · replace hv := if_f c596 hv
                    refine Tri.run (G := gm_ref04_cut) tyOk mixed ?_
                    conv => whnf
                    refine Tri.run (G := gm_ref04_cut) tyOk mixed ?_
                    conv => whnf
                    replace hv := bind_some hv
                    obtain ⟨y601, q605, hv⟩ := hv
                    refine Draw.many 8 (.take 1 (.alt 0 (.alt 2 (.alt 3 (.take 4 (.take 5 (.take 6 (.alt 7 (.fin) (.nil))))) (.nil)) (.nil)) (.alt 2 (.alt 0 (.alt 3 (.take 4 (.take 5 (.take 6 (.alt 7 (.fin) (.nil))))) (.nil)) (.nil)) (.nil)))) [0, 2, 3, 4, 5, 6, 7] (⟨78, 0, ofRegs [(3, .ptr 0 0), (6, .ptr 1 0), (11, .v (.int .i64 a516)), (75, .v (.int .i64 y601.2))], [.var 31 [.sl (List.map encFile y601.1.Files), .v (.int .i64 y601.1.Room), .v (.int .i64 y601.1.Fuse), .v (.bool y601.1.Off)], .var 31 [.v (.slice none 0 0), .v (.int .i64 0), .v (.int .i64 0), .v (.bool false)]]⟩) (by kernel_rfl) ?_ ?_
                    · conv => whnf
                      refine ⟨?_, ?_⟩
                      · conv => whnf
                        refine ⟨?_, ?_⟩
                        · conv => whnf
                          refine PureP.mono (ref04_Name_walk a516 y583 q593) ?_
                          rintro _ rfl
                          conv => whnf
                          refine ⟨?_, ?_⟩
                          · conv => whnf
                            refine PureP.mono (ref03_Delete_walk ({ Files := a517, Room := a518, Fuse := a519, Off := a520 } : Disk) y583 y601 q605) ?_
                            rintro _ rfl
                            conv => whnf
                            refine ⟨?_, ?_⟩
                            · conv => whnf
                              exact weak_fin _ rfl rfl rfl (.cons (.same rfl) (.cons (.same rfl) (LeH.rest))) (.cons (.one (.same rfl)) (.cons (.one (.same rfl)) (.cons (.one (.same rfl)) (.cons (.one (.same rfl)) (.nil))))) rfl rfl
                            · conv => whnf
                              trivial
                          · conv => whnf
                            trivial
                        · conv => whnf
                          trivial
                      · conv => whnf
                        refine ⟨?_, ?_⟩
                        · conv => whnf
                          refine PureP.mono (ref04_Name_walk a516 y583 q593) ?_
                          rintro _ rfl
                          conv => whnf
                          refine ⟨?_, ?_⟩
                          · conv => whnf
                            refine ⟨?_, ?_⟩
                            · conv => whnf
                              refine PureP.mono (ref03_Delete_walk ({ Files := a517, Room := a518, Fuse := a519, Off := a520 } : Disk) y583 y601 q605) ?_
                              rintro _ rfl
                              conv => whnf
                              refine ⟨?_, ?_⟩
                              · conv => whnf
                                exact weak_fin _ rfl rfl rfl (.cons (.same rfl) (.cons (.same rfl) (LeH.rest))) (.cons (.one (.same rfl)) (.cons (.one (.same rfl)) (.cons (.one (.same rfl)) (.cons (.one (.same rfl)) (.nil))))) rfl rfl
                              · conv => whnf
                                trivial
                            · conv => whnf
                              trivial
                          · conv => whnf
                            trivial
                        · conv => whnf
                          trivial
                    · conv => whnf
                      refine Tri.run (G := gm_ref04_cut) tyOk mixed ?_
                      conv => whnf
                      obtain rfl := Option.some.inj hv
                      exact ⟨_, rfl, weak_fin _ rfl rfl rfl (.cons (.same rfl) (.cons (.same rfl) (LeH.rest))) (.cons (.one (.same rfl)) (.cons (.one (.same rfl)) (.cons (.one (.same rfl)) (.cons (.one (.same rfl)) (.nil))))) rfl rfl⟩
              · replace hv := if_f c539 hv
                refine Tri.run (G := gm_ref04_cut) tyOk mixed ?_
                conv => whnf
                obtain rfl := Option.some.inj hv
                obtain rfl := r527 _ rfl
                exact Or.inr (⟨_, rfl, rfl, weak_fin _ rfl rfl rfl (.cons (.same rfl) (.cons (.same rfl) (LeH.rest))) (.cons (.one (.same rfl)) (.cons (.one (.same rfl)) (.cons (.one (.same rfl)) (.nil)))) rfl rfl⟩)
          · rintro ex S' (⟨v523, rfl, rfl, w606⟩ | ⟨v524, rfl, rfl, w606⟩)
            · dsimp only at h
              conv => whnf
              refine fin_pre w606 ?_
              conv => whnf
              obtain rfl := Option.some.inj h
              rfl
            · dsimp only at h
              conv => whnf
              refine Tri.weak w606 ?_
              refine Tri.seqK ?_
              refine Tri.run (G := gm_ref04_cut) tyOk mixed ?_
              conv => whnf
              refine Tri.run (G := gm_ref04_cut) tyOk mixed ?_
              conv => whnf
              refine fin_here ?_
              conv => whnf
              obtain rfl := Option.some.inj h
              rfl
noncomputable def ref04_Recover_l2 (d : Disk) (from_ : Int) (a556 : Int) (a557 : Int) (a558 : (List Str)) : Option ((Int × Int × (List Str)) ⊕ (((List Str) × Int × Int × (List File) × Int × Int × Bool) ⊕ (Int × (List Str)))) :=
  if (decide (a557 ≤ 1000000)) then
    (ref04_Name a557).bind fun y600 =>
    (ref03_Read d y600).bind fun y602 =>
    if (!(decide (y602.2 = 0))) then
      some (.inr (.inl (a558, a556, 0, d.Files, d.Room, d.Fuse, d.Off)))
    else
      (ref04_Scan y602.1).bind fun y606 =>
      need ((a558.length + y606.1.length) * 16 ≤ 140737488355328) <|
      if (decide (y606.2 < (y602.1.length : Int))) then
        need (0 ≤ (0 : Int) ∧ 0 ≤ y606.2 ∧ y606.2 ≤ (y602.1.length : Int)) <|
        (ref04_cut d a557 (cut y602.1 0 y606.2)).bind fun y616 =>
        if (!(decide (y616.2 = 0))) then
          some (.inr (.inl ([], from_, y616.2, y616.1.Files, y616.1.Room, y616.1.Fuse, y616.1.Off)))
        else
          some (.inr (.inl ((a558 ++ y606.1), a557, 0, y616.1.Files, y616.1.Room, y616.1.Fuse, y616.1.Off)))
      else
        some (.inl (a557, (IntKind.i64.wrap (a557 + 1)), (a558 ++ y606.1)))
  else
    some (.inr (.inr (a556, a558)))
noncomputable def ref04_Recover (d : Disk) (from_ : Int) : Option (Disk × (List Str) × Int × Int) :=
  if ((decide (from_ < 1)) || (decide (from_ > 1000000))) then
    some (d, [], from_, 1)
  else
    (loop (fun (s563 : Int × Int × (List Str)) => ref04_Recover_l2 d from_ s563.1 s563.2.1 s563.2.2) (from_, from_, ([] : (List Str)))).bind fun (y559 : ((List Str) × Int × Int × (List File) × Int × Int × Bool) ⊕ (Int × (List Str))) =>
    match y559 with
    | (.inl v561) =>
      some (({ Files := v561.2.2.2.1, Room := v561.2.2.2.2.1, Fuse := v561.2.2.2.2.2.1, Off := v561.2.2.2.2.2.2 } : Disk), v561.1, v561.2.1, v561.2.2.1)
    | (.inr v562) =>
      some (d, v562.2, v562.1, 0)
def gm_ref04_Recover : Gm := ⟨tys, [], [], []⟩
theorem ref04_Recover_walk (d : Disk) (from_ : Int) (r : Disk × (List Str) × Int × Int) (h : ref04_Recover d from_ = some r) : PureP Try.prog 29 [.agg [.sl (List.map encFile d.Files), .v (.int .i64 d.Room), .v (.int .i64 d.Fuse), .v (.bool d.Off)], .v (.int .i64 from_)] (fun a => a = .tup [.agg [.sl (List.map encFile r.1.Files), .v (.int .i64 r.1.Room), .v (.int .i64 r.1.Fuse), .v (.bool r.1.Off)], .sl (List.map encS r.2.1), .v (.int .i64 r.2.2.1), .v (.int .i64 r.2.2.2)]) := by
  unfold ref04_Recover at h
  refine pureW (G := gm_ref04_Recover) tyOk Try.func29 rfl (by kernel_rfl) (by simp [Try.f29]) ?_
  refine Tri.seqK ?_
  refine Tri.run (G := gm_ref04_Recover) tyOk mixed ?_
  conv => whnf
  refine Tri.seqK ?_
  refine Tri.seqK ?_
  refine Tri.cut (fun ex S' => ex = .normal ∧ Weak S' ⟨76, 0, ofRegs [(1, .v (.int .i64 from_)), (2, .ptr 0 0), (4, .ptr 1 0), (22, .v (.bool ((decide (from_ < 1)) || (decide (from_ > 1000000)))))], [.var 31 [.sl (List.map encFile d.Files), .v (.int .i64 d.Room), .v (.int .i64 d.Fuse), .v (.bool d.Off)], .var 31 [.v (.slice none 0 0), .v (.int .i64 0), .v (.int .i64 0), .v (.bool false)]]⟩) ?_ ?_
  · refine Tri.run (G := gm_ref04_Recover) tyOk mixed ?_
    conv => whnf
    refine cond_mk (fun c10 => ?_) (fun c10 => ?_)
    · replace c10 : (decide (from_ < 1)) = true := c10
      conv => whnf
      exact ⟨rfl, weak_fin _ rfl rfl rfl (.cons (.same rfl) (.cons (.same rfl) (LeH.rest))) (.cons (.one (.same rfl)) (.cons (.one (.same rfl)) (.cons (.one (.same rfl)) (.cons (.one (.same (show (.v (.bool true) : AV) = (.v (.bool ((decide (from_ < 1)) || (decide (from_ > 1000000)))) : AV) from by first | (simp [c10]; done) | simp only [c10, Bool.or_true, Bool.true_or, Bool.false_or, Bool.or_false, Bool.and_true, Bool.true_and, Bool.and_false, Bool.false_and, Bool.not_true, Bool.not_false, if_true, if_false, Bool.false_eq_true]))) (.nil))))) rfl rfl⟩
    · replace c10 : (decide (from_ < 1)) = false := c10
      conv => whnf
      exact ⟨rfl, weak_fin _ rfl rfl rfl (.cons (.same rfl) (.cons (.same rfl) (LeH.rest))) (.cons (.one (.same rfl)) (.cons (.one (.same rfl)) (.cons (.one (.same rfl)) (.cons (.one (.same (show (.v (.bool (decide (from_ > 1000000))) : AV) = (.v (.bool ((decide (from_ < 1)) || (decide (from_ > 1000000)))) : AV) from by first | (simp [c10]; done) | simp only [c10, Bool.or_true, Bool.true_or, Bool.false_or, Bool.or_false, Bool.and_true, Bool.true_and, Bool.and_false, Bool.false_and, Bool.not_true, Bool.not_false, if_true, if_false, Bool.false_eq_true]))) (.nil))))) rfl rfl⟩
  · rintro ex S' ⟨rfl, w11⟩
    conv => whnf
    refine Tri.weak w11 ?_
    refine Tri.cond rfl (fun c12 => ?_) (fun c12 => ?_)
    · replace h := if_t c12 h
      refine Tri.seqK ?_
      refine Tri.run (G := gm_ref04_Recover) tyOk mixed ?_
      conv => whnf
      refine Tri.run (G := gm_ref04_Recover) tyOk mixed ?_
      conv => whnf
      refine fin_here ?_
      conv => whnf
      obtain rfl := Option.some.inj h
      rfl
    · replace h := if_f c12 h
      refine Tri.run (G := gm_ref04_Recover) tyOk mixed ?_
      conv => whnf
      refine Tri.seqK ?_
      refine Tri.run (G := gm_ref04_Recover) tyOk mixed ?_
      conv => whnf
      refine Tri.seqK ?_
      refine Tri.run (G := gm_ref04_Recover) tyOk mixed ?_
      conv => whnf
      refine Tri.seqK ?_
      refine Tri.seqK ?_
      refine Tri.run (G := gm_ref04_Recover) tyOk mixed ?_
      conv => whnf
      refine Tri.block ?_
      replace h := bind_some h
      obtain ⟨y559, q560, h⟩ := h
      refine Tri.cut (fun ex S' => (∃ v561 : (List Str) × Int × Int × (List File) × Int × Int × Bool, y559 = (.inl v561) ∧ ex = .ret ∧ Weak S' ⟨76, 0, ofRegs [(4, .ptr 1 0), (5, .sl (List.map encS v561.1)), (6, .v (.int .i64 v561.2.1)), (7, .v (.int .i64 v561.2.2.1))], [.gone, .var 31 [.sl (List.map encFile v561.2.2.2.1), .v (.int .i64 v561.2.2.2.2.1), .v (.int .i64 v561.2.2.2.2.2.1), .v (.bool v561.2.2.2.2.2.2)]]⟩) ∨ (∃ v562 : Int × (List Str), y559 = (.inr v562) ∧ ex = (.exit 0) ∧ Weak S' ⟨76, 0, ofRegs [(2, .ptr 0 0), (4, .ptr 1 0), (8, .row 2 ((List.map encS v562.2).length)), (9, .v (.int .i64 v562.1))], [.var 31 [.sl (List.map encFile d.Files), .v (.int .i64 d.Room), .v (.int .i64 d.Fuse), .v (.bool d.Off)], .var 31 [.v (.slice none 0 0), .v (.int .i64 0), .v (.int .i64 0), .v (.bool false)], .row 9 1 (List.map encS v562.2)]⟩)) ?_ ?_
      · refine Tri.loopF (fun (s563 : Int × Int × (List Str)) => (⟨76, 0, ofRegs [(1, .v (.int .i64 from_)), (2, .ptr 0 0), (4, .ptr 1 0), (8, .row 2 ((List.map encS s563.2.2).length)), (9, .v (.int .i64 s563.1)), (10, .v (.int .i64 s563.2.1))], [.var 31 [.sl (List.map encFile d.Files), .v (.int .i64 d.Room), .v (.int .i64 d.Fuse), .v (.bool d.Off)], .var 31 [.v (.slice none 0 0), .v (.int .i64 0), .v (.int .i64 0), .v (.bool false)], .row 9 1 (List.map encS s563.2.2)]⟩ : St)) q560 (Weak.trans (weak_nil 8 9 1 rfl) (weak_fin _ rfl rfl rfl (.cons (.same rfl) (.cons (.same rfl) (.cons (.same rfl) (LeH.rest)))) (.cons (.one (.same rfl)) (.cons (.one (.same rfl)) (.cons (.one (.same rfl)) (.cons (.one (.same (show (.row 2 0 : AV) = (.row 2 ((List.map encS []).length) : AV) from congrArg (AV.row 2) (by simp)))) (.cons (.one (.same rfl)) (.cons (.one (.same rfl)) (.nil))))))) rfl rfl)) ?_
        rintro ⟨a556, a557, a558⟩ v564 hv r565
        have hv : ref04_Recover_l2 d from_ a556 a557 a558 = some v564 := hv
        unfold ref04_Recover_l2 at hv
        dsimp only
        refine Tri.seqK ?_
        refine Tri.seqK ?_
        refine Tri.run (G := gm_ref04_Recover) tyOk mixed ?_
        conv => whnf
        refine Tri.cond rfl (fun c567 => ?_) (fun c567 => ?_)
        · replace hv := if_t c567 hv
          refine Tri.run (G := gm_ref04_Recover) tyOk mixed ?_
          conv => whnf
          refine Tri.seqK ?_
          refine Tri.block ?_
          refine Tri.seqK ?_
          refine Tri.run (G := gm_ref04_Recover) tyOk mixed ?_
          conv => whnf
          refine Draw.one 9 (.take 0 (.take 1 (.alt 2 (.alt 3 (.take 4 (.take 5 (.take 6 (.take 7 (.take 8 (.fin)))))) (.nil)) (.nil)))) [] (by kernel_rfl) ?_
          conv => whnf
          refine ⟨?_, ?_⟩
          · conv => whnf
            replace hv := bind_some hv
            obtain ⟨y600, q601, hv⟩ := hv
            refine PureP.mono (ref04_Name_walk a557 y600 q601) ?_
            rintro _ rfl
            conv => whnf
            refine ⟨?_, ?_⟩
            · conv => whnf
              replace hv := bind_some hv
              obtain ⟨y602, q603, hv⟩ := hv
              refine PureP.mono (ref03_Read_walk d y600 y602 q603) ?_
              rintro _ rfl
              conv => whnf
              refine Tri.seqK ?_
              refine Tri.seqK ?_
              refine Tri.run (G := gm_ref04_Recover) tyOk mixed ?_
              conv => whnf
              refine Tri.cond rfl (fun c605 => ?_) (fun c605 => ?_)
              · replace hv := if_t c605 hv
                refine Tri.seqK ?_
                refine Tri.run (G := gm_ref04_Recover) tyOk mixed ?_
                conv => whnf
                refine Tri.run (G := gm_ref04_Recover) tyOk mixed ?_
                conv => whnf
                obtain rfl := Option.some.inj hv
                obtain rfl := r565 _ rfl
                exact Or.inl ⟨_, rfl, rfl, Weak.trans (weak_freeze 2 rfl) (weak_fin _ rfl rfl rfl (.cons (.gone) (.cons (.same rfl) (LeH.rest))) (.cons (.one (.same rfl)) (.cons (.one (.frz rfl rfl)) (.cons (.one (.same rfl)) (.cons (.one (.same rfl)) (.nil))))) rfl rfl)⟩
              · replace hv := if_f c605 hv
                refine Tri.run (G := gm_ref04_Recover) tyOk mixed ?_
                conv => whnf
                refine Tri.seqK ?_
                refine Tri.run (G := gm_ref04_Recover) tyOk mixed ?_
                conv => whnf
                refine Tri.seqK ?_
                refine Tri.run (G := gm_ref04_Recover) tyOk mixed ?_
                conv => whnf
                replace hv := bind_some hv
                obtain ⟨y606, q607, hv⟩ := hv
                refine PureP.mono (ref04_Scan_walk y602.1 y606 q607) ?_
                rintro _ rfl
                conv => whnf
                refine Tri.seqK ?_
                refine Tri.run (G := gm_ref04_Recover) tyOk mixed ?_
                conv => whnf
                refine ⟨rfl, ?_⟩
                conv => whnf
                refine ⟨map_len (f := encS) (n := 1) (fun _ => rfl) _, ?_⟩
                conv => whnf
                replace hv := need_some hv
                obtain ⟨p608, hv⟩ := hv
                refine ⟨by simp only [List.length_map]; exact p608, ?_⟩
                conv => whnf
                refine ⟨⟨List.map encS (a558 ++ y606.1), map_app encS _ _ rfl rfl, ?_⟩⟩
                conv => whnf
                refine Tri.seqK ?_
                refine Tri.run (G := gm_ref04_Recover) tyOk mixed ?_
                conv => whnf
                refine ⟨⟨(y602.1.length : Int), rfl, ?_⟩⟩
                conv => whnf
                refine Tri.cond rfl (fun c609 => ?_) (fun c609 => ?_)
                · replace hv := if_t c609 hv
                  refine Tri.seqK ?_
                  refine Tri.run (G := gm_ref04_Recover) tyOk mixed ?_
                  conv => whnf
                  replace hv := need_some hv
                  obtain ⟨p620, hv⟩ := hv
                  replace hv := bind_some hv
                  obtain ⟨y616, q621, hv⟩ := hv
                  refine Draw.many 11 (.take 0 (.take 1 (.take 2 (.take 3 (.take 4 (.alt 5 (.take 6 (.take 7 (.take 8 (.alt 9 (.alt 10 (.fin) (.nil)) (.nil))))) (.alt 9 (.alt 5 (.take 6 (.take 7 (.take 8 (.alt 10 (.fin) (.nil))))) (.nil)) (.nil)))))))) [3, 4, 5, 6, 7, 8] (⟨76, 0, ofRegs [(1, .v (.int .i64 from_)), (4, .ptr 1 0), (8, .row 2 ((List.map encS (a558 ++ y606.1)).length)), (9, .v (.int .i64 a557)), (15, .ptr 3 0), (64, .v (.int .i64 y616.2))], [.var 31 [.sl (List.map encFile d.Files), .v (.int .i64 d.Room), .v (.int .i64 d.Fuse), .v (.bool d.Off)], .var 31 [.v (.slice none 0 0), .v (.int .i64 0), .v (.int .i64 0), .v (.bool false)], .row 9 1 (List.map encS (a558 ++ y606.1)), .var 31 [.sl (List.map encFile y616.1.Files), .v (.int .i64 y616.1.Room), .v (.int .i64 y616.1.Fuse), .v (.bool y616.1.Off)]]⟩) (by kernel_rfl) ?_ ?_
                  · conv => whnf
                    refine ⟨p620, ?_⟩
                    conv => whnf
                    refine ⟨⟨bs (cut y602.1 0 y606.2), bs_cut _ _ _, ?_⟩⟩
                    conv => whnf
                    refine ⟨?_, ?_⟩
                    · conv => whnf
                      refine PureP.mono (ref04_cut_walk d a557 (cut y602.1 0 y606.2) y616 q621) ?_
                      rintro _ rfl
                      conv => whnf
                      refine ⟨?_, ?_⟩
                      · conv => whnf
                        refine ⟨?_, ?_⟩
                        · conv => whnf
                          exact weak_fin _ rfl rfl rfl (.cons (.same rfl) (.cons (.same rfl) (.cons (.same rfl) (.cons (.same rfl) (LeH.rest))))) (.cons (.one (.same rfl)) (.cons (.one (.same rfl)) (.cons (.one (.same rfl)) (.cons (.one (.same rfl)) (.cons (.one (.same rfl)) (.cons (.one (.same rfl)) (.nil))))))) rfl rfl
                        · conv => whnf
                          trivial
                      · conv => whnf
                        trivial
                    · conv => whnf
                      refine ⟨?_, ?_⟩
                      · conv => whnf
                        refine ⟨?_, ?_⟩
                        · conv => whnf
                          refine PureP.mono (ref04_cut_walk d a557 (cut y602.1 0 y606.2) y616 q621) ?_
                          rintro _ rfl
                          conv => whnf
                          refine ⟨?_, ?_⟩
                          · conv => whnf
                            exact weak_fin _ rfl rfl rfl (.cons (.same rfl) (.cons (.same rfl) (.cons (.same rfl) (.cons (.same rfl) (LeH.rest))))) (.cons (.one (.same rfl)) (.cons (.one (.same rfl)) (.cons (.one (.same rfl)) (.cons (.one (.same rfl)) (.cons (.one (.same rfl)) (.cons (.one (.same rfl)) (.nil))))))) rfl rfl
                          · conv => whnf
                            trivial
                        · conv => whnf
                          trivial
                      · conv => whnf
                        trivial
                  · conv => whnf
                    refine Tri.seqK ?_
                    refine Tri.seqK ?_
                    refine Tri.run (G := gm_ref04_Recover) tyOk mixed ?_
                    conv => whnf
                    refine Tri.cond rfl (fun c623 => ?_) (fun c623 => ?_)
                    · replace hv := if_t c623 hv
                      refine Tri.seqK ?_
                      refine Tri.run (G := gm_ref04_Recover) tyOk mixed ?_
                      conv => whnf
                      refine Tri.run (G := gm_ref04_Recover) tyOk mixed ?_
                      conv => whnf
                      obtain rfl := Option.some.inj hv
                      obtain rfl := r565 _ rfl
                      exact Or.inl ⟨_, rfl, rfl, weak_fin _ rfl rfl rfl (.cons (.gone) (.cons (.same rfl) (LeH.rest))) (.cons (.one (.same rfl)) (.cons (.one (.nil)) (.cons (.one (.same rfl)) (.cons (.one (.same rfl)) (.nil))))) rfl rfl⟩
                    · replace hv := if_f c623 hv
                      refine Tri.run (G := gm_ref04_Recover) tyOk mixed ?_
                      conv => whnf
                      refine Tri.seqK ?_
                      refine Tri.run (G := gm_ref04_Recover) tyOk mixed ?_
                      conv => whnf
                      refine Tri.run (G := gm_ref04_Recover) tyOk mixed ?_
                      conv => whnf
                      obtain rfl := Option.some.inj hv
                      obtain rfl := r565 _ rfl
                      exact Or.inl ⟨_, rfl, rfl, Weak.trans (weak_freeze 2 rfl) (weak_fin _ rfl rfl rfl (.cons (.gone) (.cons (.same rfl) (LeH.rest))) (.cons (.one (.same rfl)) (.cons (.one (.frz rfl rfl)) (.cons (.one (.same rfl)) (.cons (.one (.same rfl)) (.nil))))) rfl rfl)⟩
                · replace hv := if_f c609 hv
                  refine Tri.run (G := gm_ref04_Recover) tyOk mixed ?_
                  conv => whnf
                  refine Tri.run (G := gm_ref04_Recover) tyOk mixed ?_
                  conv => whnf
                  obtain rfl := Option.some.inj hv
                  exact ⟨_, rfl, weak_fin _ rfl rfl rfl (.cons (.same rfl) (.cons (.same rfl) (.cons (.same rfl) (LeH.rest)))) (.cons (.one (.same rfl)) (.cons (.one (.same rfl)) (.cons (.one (.same rfl)) (.cons (.one (.same rfl)) (.cons (.one (.same rfl)) (.cons (.one (.same rfl)) (.nil))))))) rfl rfl⟩
            · conv => whnf
              trivial
          · conv => whnf
            trivial
        · replace hv := if_f c567 hv
          refine Tri.run (G := gm_ref04_Recover) tyOk mixed ?_
          conv => whnf
          obtain rfl := Option.some.inj hv
          obtain rfl := r565 _ rfl
          exact Or.inr (⟨_, rfl, rfl, weak_fin _ rfl rfl rfl (.cons (.same rfl) (.cons (.same rfl) (.cons (.same rfl) (LeH.rest)))) (.cons (.one (.same rfl)) (.cons (.one (.same rfl)) (.cons (.one (.same rfl)) (.cons (.one (.same rfl)) (.nil))))) rfl rfl⟩)
      · rintro ex S' (⟨v561, rfl, rfl, w624⟩ | ⟨v562, rfl, rfl, w624⟩)
        · dsimp only at h
          conv => whnf
          refine fin_pre w624 ?_
          conv => whnf
          obtain rfl := Option.some.inj h
          rfl
        · dsimp only at h
          conv => whnf
          refine Tri.weak w624 ?_
          refine Tri.seqK ?_
          refine Tri.run (G := gm_ref04_Recover) tyOk mixed ?_
          conv => whnf
          refine Tri.run (G := gm_ref04_Recover) tyOk mixed ?_
          conv => whnf
          refine fin_here ?_
          conv => whnf
          refine ⟨rfl, ?_⟩
          conv => whnf
          obtain rfl := Option.some.inj h
          rfl
noncomputable def wal_Drop_l2 (to : Int) (a1094 : Int) (a1095 : (List File)) (a1096 : Int) (a1097 : Int) (a1098 : Bool) : Option ((Int × (List File) × Int × Int × Bool) ⊕ ((Int × (List File) × Int × Int × Bool) ⊕ ((List File) × Int × Int × Bool))) :=
  (
    if (decide (a1094 < to)) then
      (wal_may a1094).bind fun y1128 =>
      some y1128
    else
      some false).bind fun (y1125 : Bool) =>
  if y1125 then
    (
      (wal_Name a1094).bind fun y1291 =>
      (disk_Find ({ Files := a1095, Room := a1096, Fuse := a1097, Off := a1098 } : Disk) y1291).bind fun y1293 =>
      if (!y1293.2) then
        some (.inl (a1095, a1096, a1097, a1098))
      else
        (disk_Delete ({ Files := a1095, Room := a1096, Fuse := a1097, Off := a1098 } : Disk) y1291).bind fun y1310 =>
        if (!(decide (y1310.2 = 0))) then
          some (.inr (y1310.2, y1310.1.Files, y1310.1.Room, y1310.1.Fuse, y1310.1.Off))
        else
          some (.inl (y1310.1.Files, y1310.1.Room, y1310.1.Fuse, y1310.1.Off))).bind fun (y1254 : ((List File) × Int × Int × Bool) ⊕ (Int × (List File) × Int × Int × Bool)) =>
    match y1254 with
    | (.inl v1256) =>
      some (.inl ((IntKind.i64.wrap (a1094 + 1)), v1256.1, v1256.2.1, v1256.2.2.1, v1256.2.2.2))
    | (.inr v1257) =>
      some (.inr (.inl (v1257.1, v1257.2.1, v1257.2.2.1, v1257.2.2.2.1, v1257.2.2.2.2)))
  else
    some (.inr (.inr (a1095, a1096, a1097, a1098)))
noncomputable def wal_Drop (d : Disk) (from_ : Int) (to : Int) : Option (Disk × Int) :=
  (loop (fun (s1103 : Int × (List File) × Int × Int × Bool) => wal_Drop_l2 to s1103.1 s1103.2.1 s1103.2.2.1 s1103.2.2.2.1 s1103.2.2.2.2) ((if from_ < 1 then 1 else from_), d.Files, d.Room, d.Fuse, d.Off)).bind fun (y1099 : (Int × (List File) × Int × Int × Bool) ⊕ ((List File) × Int × Int × Bool)) =>
  match y1099 with
  | (.inl v1101) =>
    some (({ Files := v1101.2.1, Room := v1101.2.2.1, Fuse := v1101.2.2.2.1, Off := v1101.2.2.2.2 } : Disk), v1101.1)
  | (.inr v1102) =>
    some (({ Files := v1102.1, Room := v1102.2.1, Fuse := v1102.2.2.1, Off := v1102.2.2.2 } : Disk), 0)
def gm_wal_Drop : Gm := ⟨tys, [], [], []⟩
theorem wal_Drop_walk (d : Disk) (from_ : Int) (to : Int) (r : Disk × Int) (h : wal_Drop d from_ to = some r) : PureP Try.prog 30 [.agg [.sl (List.map encFile d.Files), .v (.int .i64 d.Room), .v (.int .i64 d.Fuse), .v (.bool d.Off)], .v (.int .i64 from_), .v (.int .i64 to)] (fun a => a = .tup [.agg [.sl (List.map encFile r.1.Files), .v (.int .i64 r.1.Room), .v (.int .i64 r.1.Fuse), .v (.bool r.1.Off)], .v (.int .i64 r.2)]) := by
  unfold wal_Drop at h
  refine pureW (G := gm_wal_Drop) tyOk Try.func30 rfl (by kernel_rfl) (by simp [Try.f30]) ?_
  refine Tri.seqK ?_
  refine Tri.run (G := gm_wal_Drop) tyOk mixed ?_
  conv => whnf
  refine Tri.seqK ?_
  refine Tri.seqK ?_
  refine Tri.run (G := gm_wal_Drop) tyOk mixed ?_
  conv => whnf
  refine Tri.block ?_
  replace h := bind_some h
  obtain ⟨y1099, q1100, h⟩ := h
  refine Tri.cut (fun ex S' => (∃ v1101 : Int × (List File) × Int × Int × Bool, y1099 = (.inl v1101) ∧ ex = .ret ∧ Weak S' ⟨46, 0, ofRegs [(6, .ptr 1 0), (7, .v (.int .i64 v1101.1))], [.gone, .var 31 [.sl (List.map encFile v1101.2.1), .v (.int .i64 v1101.2.2.1), .v (.int .i64 v1101.2.2.2.1), .v (.bool v1101.2.2.2.2)]]⟩) ∨ (∃ v1102 : (List File) × Int × Int × Bool, y1099 = (.inr v1102) ∧ ex = (.exit 0) ∧ Weak S' ⟨46, 0, ofRegs [(3, .ptr 0 0), (6, .ptr 1 0)], [.var 31 [.sl (List.map encFile v1102.1), .v (.int .i64 v1102.2.1), .v (.int .i64 v1102.2.2.1), .v (.bool v1102.2.2.2)], .var 31 [.v (.slice none 0 0), .v (.int .i64 0), .v (.int .i64 0), .v (.bool false)]]⟩)) ?_ ?_
  · refine Tri.loopF (fun (s1103 : Int × (List File) × Int × Int × Bool) => (⟨46, 0, ofRegs [(2, .v (.int .i64 to)), (3, .ptr 0 0), (6, .ptr 1 0), (8, .v (.int .i64 s1103.1))], [.var 31 [.sl (List.map encFile s1103.2.1), .v (.int .i64 s1103.2.2.1), .v (.int .i64 s1103.2.2.2.1), .v (.bool s1103.2.2.2.2)], .var 31 [.v (.slice none 0 0), .v (.int .i64 0), .v (.int .i64 0), .v (.bool false)]]⟩ : St)) q1100 (weak_fin _ rfl rfl rfl (.cons (.same rfl) (.cons (.same rfl) (LeH.rest))) (.cons (.one (.same rfl)) (.cons (.one (.same rfl)) (.cons (.one (.same rfl)) (.cons (.one (.same rfl)) (.nil))))) rfl rfl) ?_
    rintro ⟨a1094, a1095, a1096, a1097, a1098⟩ v1104 hv r1105
    have hv : wal_Drop_l2 to a1094 a1095 a1096 a1097 a1098 = some v1104 := hv
    unfold wal_Drop_l2 at hv
    dsimp only
    refine Tri.seqK ?_
    refine Tri.seqK ?_
    replace hv := bind_some hv
    obtain ⟨y1125, q1126, hv⟩ := hv
    refine Tri.cut (fun ex S' => ex = .normal ∧ Weak S' ⟨46, 0, ofRegs [(2, .v (.int .i64 to)), (3, .ptr 0 0), (6, .ptr 1 0), (8, .v (.int .i64 a1094)), (21, .v (.bool y1125))], [.var 31 [.sl (List.map encFile a1095), .v (.int .i64 a1096), .v (.int .i64 a1097), .v (.bool a1098)], .var 31 [.v (.slice none 0 0), .v (.int .i64 0), .v (.int .i64 0), .v (.bool false)]]⟩) ?_ ?_
    · refine Tri.run (G := gm_wal_Drop) tyOk mixed ?_
      conv => whnf
      refine cond_mk (fun c1127 => ?_) (fun c1127 => ?_)
      · replace q1126 := if_t c1127 q1126
        conv => whnf
        replace q1126 := bind_some q1126
        obtain ⟨y1128, q1129, q1126⟩ := q1126
        refine PureP.mono (wal_may_walk a1094 y1128 q1129) ?_
        rintro _ rfl
        conv => whnf
        obtain rfl := Option.some.inj q1126
        exact ⟨rfl, weak_fin _ rfl rfl rfl (.cons (.same rfl) (.cons (.same rfl) (LeH.rest))) (.cons (.one (.same rfl)) (.cons (.one (.same rfl)) (.cons (.one (.same rfl)) (.cons (.one (.same rfl)) (.cons (.one (.same rfl)) (.nil)))))) rfl rfl⟩
      · replace q1126 := if_f c1127 q1126
        conv => whnf
        obtain rfl := Option.some.inj q1126
        exact ⟨rfl, weak_fin _ rfl rfl rfl (.cons (.same rfl) (.cons (.same rfl) (LeH.rest))) (.cons (.one (.same rfl)) (.cons (.one (.same rfl)) (.cons (.one (.same rfl)) (.cons (.one (.same rfl)) (.cons (.one (.same rfl)) (.nil)))))) rfl rfl⟩
    · rintro ex S' ⟨rfl, w1130⟩
      conv => whnf
      refine Tri.weak w1130 ?_
      refine Tri.cond rfl (fun c1131 => ?_) (fun c1131 => ?_)
      · replace hv := if_t c1131 hv
        refine Tri.run (G := gm_wal_Drop) tyOk mixed ?_
        conv => whnf
        refine Tri.seqK ?_
        replace hv := bind_some hv
        obtain ⟨y1254, q1255, hv⟩ := hv
        refine Tri.cut (fun ex S' => (∃ v1256 : (List File) × Int × Int × Bool, y1254 = (.inl v1256) ∧ ex = .normal ∧ Weak S' ⟨46, 0, ofRegs [(2, .v (.int .i64 to)), (3, .ptr 0 0), (6, .ptr 1 0), (8, .v (.int .i64 a1094))], [.var 31 [.sl (List.map encFile v1256.1), .v (.int .i64 v1256.2.1), .v (.int .i64 v1256.2.2.1), .v (.bool v1256.2.2.2)], .var 31 [.v (.slice none 0 0), .v (.int .i64 0), .v (.int .i64 0), .v (.bool false)]]⟩) ∨ (∃ v1257 : Int × (List File) × Int × Int × Bool, y1254 = (.inr v1257) ∧ ex = .ret ∧ Weak S' ⟨46, 0, ofRegs [(6, .ptr 1 0), (7, .v (.int .i64 v1257.1))], [.gone, .var 31 [.sl (List.map encFile v1257.2.1), .v (.int .i64 v1257.2.2.1), .v (.int .i64 v1257.2.2.2.1), .v (.bool v1257.2.2.2.2)]]⟩)) ?_ ?_
        · refine Tri.block ?_
          refine Tri.seqK ?_
          refine Tri.seqK ?_
          refine Tri.run (G := gm_wal_Drop) tyOk mixed ?_
          conv => whnf
          replace q1255 := bind_some q1255
          obtain ⟨y1291, q1301, q1255⟩ := q1255
          replace q1255 := bind_some q1255
          obtain ⟨y1293, q1302, q1255⟩ := q1255
          refine Draw.many 9 (.take 0 (.take 1 (.alt 2 (.alt 3 (.take 4 (.take 5 (.take 6 (.alt 7 (.alt 8 (.fin) (.nil)) (.nil))))) (.alt 7 (.alt 3 (.take 4 (.take 5 (.take 6 (.alt 8 (.fin) (.nil))))) (.nil)) (.nil))) (.alt 7 (.alt 2 (.alt 3 (.take 4 (.take 5 (.take 6 (.alt 8 (.fin) (.nil))))) (.nil)) (.nil)) (.nil))))) [2, 3, 4, 5, 6, 7] (⟨46, 0, ofRegs [(2, .v (.int .i64 to)), (3, .ptr 0 0), (6, .ptr 1 0), (8, .v (.int .i64 a1094)), (30, .v (.bool y1293.2))], [.var 31 [.sl (List.map encFile a1095), .v (.int .i64 a1096), .v (.int .i64 a1097), .v (.bool a1098)], .var 31 [.v (.slice none 0 0), .v (.int .i64 0), .v (.int .i64 0), .v (.bool false)]]⟩) (by kernel_rfl) ?_ ?_
          · conv => whnf
            refine ⟨?_, ?_⟩
            · conv => whnf
              refine PureP.mono (wal_Name_walk a1094 y1291 q1301) ?_
              rintro _ rfl
              conv => whnf
              refine ⟨?_, ?_⟩
              · conv => whnf
                refine PureP.mono (disk_Find_walk ({ Files := a1095, Room := a1096, Fuse := a1097, Off := a1098 } : Disk) y1291 y1293 q1302) ?_
                rintro _ rfl
                conv => whnf
                refine ⟨?_, ?_⟩
                · conv => whnf
                  refine ⟨?_, ?_⟩
                  · conv => whnf
                    exact weak_fin _ rfl rfl rfl (.cons (.same rfl) (.cons (.same rfl) (LeH.rest))) (.cons (.one (.same rfl)) (.cons (.one (.same rfl)) (.cons (.one (.same rfl)) (.cons (.one (.same rfl)) (.cons (.one (.same rfl)) (.nil)))))) rfl rfl
                  · conv => whnf
                    trivial
                · conv => whnf
                  trivial
              · conv => whnf
                refine ⟨?_, ?_⟩
                · conv => whnf
                  refine ⟨?_, ?_⟩
                  · conv => whnf
                    refine PureP.mono (disk_Find_walk ({ Files := a1095, Room := a1096, Fuse := a1097, Off := a1098 } : Disk) y1291 y1293 q1302) ?_
                    rintro _ rfl
                    conv => whnf
                    refine ⟨?_, ?_⟩
                    · conv => whnf
                      exact weak_fin _ rfl rfl rfl (.cons (.same rfl) (.cons (.same rfl) (LeH.rest))) (.cons (.one (.same rfl)) (.cons (.one (.same rfl)) (.cons (.one (.same rfl)) (.cons (.one (.same rfl)) (.cons (.one (.same rfl)) (.nil)))))) rfl rfl
                    · conv => whnf
                      trivial
                  · conv => whnf
                    trivial
                · conv => whnf
                  trivial
            · conv => whnf
              refine ⟨?_, ?_⟩
              · conv => whnf
                refine ⟨?_, ?_⟩
                · conv => whnf
                  refine PureP.mono (wal_Name_walk a1094 y1291 q1301) ?_
                  rintro _ rfl
                  conv => whnf
                  refine ⟨?_, ?_⟩
                  · conv => whnf
                    refine PureP.mono (disk_Find_walk ({ Files := a1095, Room := a1096, Fuse := a1097, Off := a1098 } : Disk) y1291 y1293 q1302) ?_
                    rintro _ rfl
                    conv => whnf
                    refine ⟨?_, ?_⟩
                    · conv => whnf
                      exact weak_fin _ rfl rfl rfl (.cons (.same rfl) (.cons (.same rfl) (LeH.rest))) (.cons (.one (.same rfl)) (.cons (.one (.same rfl)) (.cons (.one (.same rfl)) (.cons (.one (.same rfl)) (.cons (.one (.same rfl)) (.nil)))))) rfl rfl
                    · conv => whnf
                      trivial
                  · conv => whnf
                    trivial
                · conv => whnf
                  trivial
              · conv => whnf
                trivial
          · conv => whnf
            refine Tri.seqK ?_
            refine Tri.run (G := gm_wal_Drop) tyOk mixed ?_
            conv => whnf
            refine Tri.cond rfl (fun c1303 => ?_) (fun c1303 => ?_)
            · replace q1255 := if_t c1303 q1255
              refine Tri.run (G := gm_wal_Drop) tyOk mixed ?_
              conv => whnf
              obtain rfl := Option.some.inj q1255
              exact Or.inl ⟨_, rfl, rfl, weak_fin _ rfl rfl rfl (.cons (.same rfl) (.cons (.same rfl) (LeH.rest))) (.cons (.one (.same rfl)) (.cons (.one (.same rfl)) (.cons (.one (.same rfl)) (.cons (.one (.same rfl)) (.nil))))) rfl rfl⟩
            · replace q1255 := if_f c1303 q1255
              refine Tri.run (G := gm_wal_Drop) tyOk mixed ?_
              conv => whnf
              refine Tri.seqK ?_
              refine Tri.run (G := gm_wal_Drop) tyOk mixed ?_
              conv => whnf
              replace q1255 := bind_some q1255
              obtain ⟨y1310, q1316, q1255⟩ := q1255
              refine Draw.many 9 (.take 0 (.take 1 (.alt 2 (.alt 3 (.take 4 (.take 5 (.take 6 (.alt 7 (.alt 8 (.fin) (.nil)) (.nil))))) (.alt 7 (.alt 3 (.take 4 (.take 5 (.take 6 (.alt 8 (.fin) (.nil))))) (.nil)) (.nil))) (.alt 7 (.alt 2 (.alt 3 (.take 4 (.take 5 (.take 6 (.alt 8 (.fin) (.nil))))) (.nil)) (.nil)) (.nil))))) [2, 3, 4, 5, 6, 7] (⟨46, 0, ofRegs [(2, .v (.int .i64 to)), (3, .ptr 0 0), (6, .ptr 1 0), (8, .v (.int .i64 a1094)), (11, .ptr 2 0), (39, .v (.int .i64 y1310.2))], [.var 31 [.sl (List.map encFile a1095), .v (.int .i64 a1096), .v (.int .i64 a1097), .v (.bool a1098)], .var 31 [.v (.slice none 0 0), .v (.int .i64 0), .v (.int .i64 0), .v (.bool false)], .var 31 [.sl (List.map encFile y1310.1.Files), .v (.int .i64 y1310.1.Room), .v (.int .i64 y1310.1.Fuse), .v (.bool y1310.1.Off)]]⟩) (by kernel_rfl) ?_ ?_
              · conv => whnf
                refine ⟨?_, ?_⟩
                · conv => whnf
                  refine PureP.mono (wal_Name_walk a1094 y1291 q1301) ?_
                  rintro _ rfl
                  conv => whnf
                  refine ⟨?_, ?_⟩
                  · conv => whnf
                    refine PureP.mono (disk_Delete_walk ({ Files := a1095, Room := a1096, Fuse := a1097, Off := a1098 } : Disk) y1291 y1310 q1316) ?_
                    rintro _ rfl
                    conv => whnf
                    refine ⟨?_, ?_⟩
                    · conv => whnf
                      refine ⟨?_, ?_⟩
                      · conv => whnf
                        exact weak_fin _ rfl rfl rfl (.cons (.same rfl) (.cons (.same rfl) (.cons (.same rfl) (LeH.rest)))) (.cons (.one (.same rfl)) (.cons (.one (.same rfl)) (.cons (.one (.same rfl)) (.cons (.one (.same rfl)) (.cons (.one (.same rfl)) (.cons (.one (.same rfl)) (.nil))))))) rfl rfl
                      · conv => whnf
                        trivial
                    · conv => whnf
                      trivial
                  · conv => whnf
                    refine ⟨?_, ?_⟩
                    · conv => whnf
                      refine ⟨?_, ?_⟩
                      · conv => whnf
                        refine PureP.mono (disk_Delete_walk ({ Files := a1095, Room := a1096, Fuse := a1097, Off := a1098 } : Disk) y1291 y1310 q1316) ?_
                        rintro _ rfl
                        conv => whnf
                        refine ⟨?_, ?_⟩
                        · conv => whnf
                          exact weak_fin _ rfl rfl rfl (.cons (.same rfl) (.cons (.same rfl) (.cons (.same rfl) (LeH.rest)))) (.cons (.one (.same rfl)) (.cons (.one (.same rfl)) (.cons (.one (.same rfl)) (.cons (.one (.same rfl)) (.cons (.one (.same rfl)) (.cons (.one (.same rfl)) (.nil))))))) rfl rfl
                        · conv => whnf
                          trivial
                      · conv => whnf
                        trivial
                    · conv => whnf
                      trivial
                · conv => whnf
                  refine ⟨?_, ?_⟩
                  · conv => whnf
                    refine ⟨?_, ?_⟩
                    · conv => whnf
                      refine PureP.mono (wal_Name_walk a1094 y1291 q1301) ?_
                      rintro _ rfl
                      conv => whnf
                      refine ⟨?_, ?_⟩
                      · conv => whnf
                        refine PureP.mono (disk_Delete_walk ({ Files := a1095, Room := a1096, Fuse := a1097, Off := a1098 } : Disk) y1291 y1310 q1316) ?_
                        rintro _ rfl
                        conv => whnf
                        refine ⟨?_, ?_⟩
                        · conv => whnf
                          exact weak_fin _ rfl rfl rfl (.cons (.same rfl) (.cons (.same rfl) (.cons (.same rfl) (LeH.rest)))) (.cons (.one (.same rfl)) (.cons (.one (.same rfl)) (.cons (.one (.same rfl)) (.cons (.one (.same rfl)) (.cons (.one (.same rfl)) (.cons (.one (.same rfl)) (.nil))))))) rfl rfl
                        · conv => whnf
                          trivial
                      · conv => whnf
                        trivial
                    · conv => whnf
                      trivial
                  · conv => whnf
                    trivial
              · conv => whnf
                refine Tri.seqK ?_
                refine Tri.seqK ?_
                refine Tri.run (G := gm_wal_Drop) tyOk mixed ?_
                conv => whnf
                refine Tri.cond rfl (fun c1318 => ?_) (fun c1318 => ?_)
                · replace q1255 := if_t c1318 q1255
                  refine Tri.seqK ?_
                  refine Tri.run (G := gm_wal_Drop) tyOk mixed ?_
                  conv => whnf
                  refine Tri.run (G := gm_wal_Drop) tyOk mixed ?_
                  conv => whnf
                  obtain rfl := Option.some.inj q1255
                  exact Or.inr (⟨_, rfl, rfl, weak_fin _ rfl rfl rfl (.cons (.gone) (.cons (.same rfl) (LeH.rest))) (.cons (.one (.same rfl)) (.cons (.one (.same rfl)) (.nil))) rfl rfl⟩)
                · replace q1255 := if_f c1318 q1255
                  refine Tri.run (G := gm_wal_Drop) tyOk mixed ?_
                  conv => whnf
                  refine Tri.run (G := gm_wal_Drop) tyOk mixed ?_
                  conv => whnf
                  obtain rfl := Option.some.inj q1255
                  exact Or.inl ⟨_, rfl, rfl, weak_fin _ rfl rfl rfl (.cons (.same rfl) (.cons (.same rfl) (LeH.rest))) (.cons (.one (.same rfl)) (.cons (.one (.same rfl)) (.cons (.one (.same rfl)) (.cons (.one (.same rfl)) (.nil))))) rfl rfl⟩
        · rintro ex S' (⟨v1256, rfl, rfl, w1319⟩ | ⟨v1257, rfl, rfl, w1319⟩)
          · dsimp only at hv
            conv => whnf
            refine Tri.weak w1319 ?_
            refine Tri.run (G := gm_wal_Drop) tyOk mixed ?_
            conv => whnf
            obtain rfl := Option.some.inj hv
            exact ⟨_, rfl, weak_fin _ rfl rfl rfl (.cons (.same rfl) (.cons (.same rfl) (LeH.rest))) (.cons (.one (.same rfl)) (.cons (.one (.same rfl)) (.cons (.one (.same rfl)) (.cons (.one (.same rfl)) (.nil))))) rfl rfl⟩
          · dsimp only at hv
            conv => whnf
            obtain rfl := Option.some.inj hv
            obtain rfl := r1105 _ rfl
            exact Or.inl ⟨_, rfl, rfl, Weak.trans w1319 (weak_fin _ rfl rfl rfl (.cons (.same rfl) (.cons (.same rfl) (LeH.rest))) (.cons (.one (.same rfl)) (.cons (.one (.same rfl)) (.nil))) rfl rfl)⟩
      · replace hv := if_f c1131 hv
        refine Tri.run (G := gm_wal_Drop) tyOk mixed ?_
        conv => whnf
        obtain rfl := Option.some.inj hv
        obtain rfl := r1105 _ rfl
        exact Or.inr (⟨_, rfl, rfl, weak_fin _ rfl rfl rfl (.cons (.same rfl) (.cons (.same rfl) (LeH.rest))) (.cons (.one (.same rfl)) (.cons (.one (.same rfl)) (.nil))) rfl rfl⟩)
  · rintro ex S' (⟨v1101, rfl, rfl, w1320⟩ | ⟨v1102, rfl, rfl, w1320⟩)
    · dsimp only at h
      conv => whnf
      refine fin_pre w1320 ?_
      conv => whnf
      obtain rfl := Option.some.inj h
      rfl
    · dsimp only at h
      conv => whnf
      refine Tri.weak w1320 ?_
      refine Tri.seqK ?_
      refine Tri.run (G := gm_wal_Drop) tyOk mixed ?_
      conv => whnf
      refine Tri.run (G := gm_wal_Drop) tyOk mixed ?_
      conv => whnf
      refine fin_here ?_
      conv => whnf
      obtain rfl := Option.some.inj h
      rfl
noncomputable def ref04_Drop_l2 (to : Int) (a684 : Int) (a685 : (List File)) (a686 : Int) (a687 : Int) (a688 : Bool) : Option ((Int × (List File) × Int × Int × Bool) ⊕ ((Int × (List File) × Int × Int × Bool) ⊕ ((List File) × Int × Int × Bool))) :=
  if ((decide (a684 < to)) && (decide (a684 ≤ 1000000))) then
    (
      (ref04_Name a684).bind fun y798 =>
      (ref03_Find ({ Files := a685, Room := a686, Fuse := a687, Off := a688 } : Disk) y798).bind fun y800 =>
      if (!y800.2) then
        some (.inl (a685, a686, a687, a688))
      else
        (ref03_Delete ({ Files := a685, Room := a686, Fuse := a687, Off := a688 } : Disk) y798).bind fun y818 =>
        if (!(decide (y818.2 = 0))) then
          some (.inr (y818.2, y818.1.Files, y818.1.Room, y818.1.Fuse, y818.1.Off))
        else
          some (.inl (y818.1.Files, y818.1.Room, y818.1.Fuse, y818.1.Off))).bind fun (y784 : ((List File) × Int × Int × Bool) ⊕ (Int × (List File) × Int × Int × Bool)) =>
    match y784 with
    | (.inl v786) =>
      some (.inl ((IntKind.i64.wrap (a684 + 1)), v786.1, v786.2.1, v786.2.2.1, v786.2.2.2))
    | (.inr v787) =>
      some (.inr (.inl (v787.1, v787.2.1, v787.2.2.1, v787.2.2.2.1, v787.2.2.2.2)))
  else
    some (.inr (.inr (a685, a686, a687, a688)))
noncomputable def ref04_Drop (d : Disk) (from_ : Int) (to : Int) : Option (Disk × Int) :=
  (loop (fun (s693 : Int × (List File) × Int × Int × Bool) => ref04_Drop_l2 to s693.1 s693.2.1 s693.2.2.1 s693.2.2.2.1 s693.2.2.2.2) ((if (decide (from_ < 1)) then 1 else from_), d.Files, d.Room, d.Fuse, d.Off)).bind fun (y689 : (Int × (List File) × Int × Int × Bool) ⊕ ((List File) × Int × Int × Bool)) =>
  match y689 with
  | (.inl v691) =>
    some (({ Files := v691.2.1, Room := v691.2.2.1, Fuse := v691.2.2.2.1, Off := v691.2.2.2.2 } : Disk), v691.1)
  | (.inr v692) =>
    some (({ Files := v692.1, Room := v692.2.1, Fuse := v692.2.2.1, Off := v692.2.2.2 } : Disk), 0)
def gm_ref04_Drop : Gm := ⟨tys, [], [], []⟩
theorem ref04_Drop_walk (d : Disk) (from_ : Int) (to : Int) (r : Disk × Int) (h : ref04_Drop d from_ to = some r) : PureP Try.prog 31 [.agg [.sl (List.map encFile d.Files), .v (.int .i64 d.Room), .v (.int .i64 d.Fuse), .v (.bool d.Off)], .v (.int .i64 from_), .v (.int .i64 to)] (fun a => a = .tup [.agg [.sl (List.map encFile r.1.Files), .v (.int .i64 r.1.Room), .v (.int .i64 r.1.Fuse), .v (.bool r.1.Off)], .v (.int .i64 r.2)]) := by
  unfold ref04_Drop at h
  refine pureW (G := gm_ref04_Drop) tyOk Try.func31 rfl (by kernel_rfl) (by simp [Try.f31]) ?_
  refine Tri.seqK ?_
  refine Tri.run (G := gm_ref04_Drop) tyOk mixed ?_
  conv => whnf
  refine Tri.seqK ?_
  refine Tri.cut (fun ex S' => ex = .normal ∧ Weak S' ⟨47, 0, ofRegs [(1, .v (.int .i64 (if (decide (from_ < 1)) then 1 else from_))), (2, .v (.int .i64 to)), (3, .ptr 0 0), (6, .ptr 1 0)], [.var 31 [.sl (List.map encFile d.Files), .v (.int .i64 d.Room), .v (.int .i64 d.Fuse), .v (.bool d.Off)], .var 31 [.v (.slice none 0 0), .v (.int .i64 0), .v (.int .i64 0), .v (.bool false)]]⟩) ?_ ?_
  · refine Tri.seqK ?_
    refine Tri.run (G := gm_ref04_Drop) tyOk mixed ?_
    conv => whnf
    refine Tri.cond rfl (fun c4 => ?_) (fun c4 => ?_)
    · replace c4 : (decide (from_ < 1)) = true := c4
      refine Tri.run (G := gm_ref04_Drop) tyOk mixed ?_
      conv => whnf
      exact ⟨rfl, weak_fin _ rfl rfl rfl (.cons (.same rfl) (.cons (.same rfl) (LeH.rest))) (.cons (.one (.same (show (.v (.int .i64 1) : AV) = (.v (.int .i64 (if (decide (from_ < 1)) then 1 else from_)) : AV) from by first | (simp [c4]; done) | simp only [c4, Bool.or_true, Bool.true_or, Bool.false_or, Bool.or_false, Bool.and_true, Bool.true_and, Bool.and_false, Bool.false_and, Bool.not_true, Bool.not_false, if_true, if_false, Bool.false_eq_true]))) (.cons (.one (.same rfl)) (.cons (.one (.same rfl)) (.cons (.one (.same rfl)) (.nil))))) rfl rfl⟩
    · replace c4 : (decide (from_ < 1)) = false := c4
      refine Tri.run (G := gm_ref04_Drop) tyOk mixed ?_
      conv => whnf
      exact ⟨rfl, weak_fin _ rfl rfl rfl (.cons (.same rfl) (.cons (.same rfl) (LeH.rest))) (.cons (.one (.same (show (.v (.int .i64 from_) : AV) = (.v (.int .i64 (if (decide (from_ < 1)) then 1 else from_)) : AV) from by first | (simp [c4]; done) | simp only [c4, Bool.or_true, Bool.true_or, Bool.false_or, Bool.or_false, Bool.and_true, Bool.true_and, Bool.and_false, Bool.false_and, Bool.not_true, Bool.not_false, if_true, if_false, Bool.false_eq_true]))) (.cons (.one (.same rfl)) (.cons (.one (.same rfl)) (.cons (.one (.same rfl)) (.nil))))) rfl rfl⟩
  · rintro ex S' ⟨rfl, w5⟩
    conv => whnf
    refine Tri.weak w5 ?_
    refine Tri.seqK ?_
    refine Tri.seqK ?_
    refine Tri.run (G := gm_ref04_Drop) tyOk mixed ?_
    conv => whnf
    refine Tri.block ?_
    replace h := bind_some h
    obtain ⟨y689, q690, h⟩ := h
    refine Tri.cut (fun ex S' => (∃ v691 : Int × (List File) × Int × Int × Bool, y689 = (.inl v691) ∧ ex = .ret ∧ Weak S' ⟨47, 0, ofRegs [(6, .ptr 1 0), (7, .v (.int .i64 v691.1))], [.gone, .var 31 [.sl (List.map encFile v691.2.1), .v (.int .i64 v691.2.2.1), .v (.int .i64 v691.2.2.2.1), .v (.bool v691.2.2.2.2)]]⟩) ∨ (∃ v692 : (List File) × Int × Int × Bool, y689 = (.inr v692) ∧ ex = (.exit 0) ∧ Weak S' ⟨47, 0, ofRegs [(3, .ptr 0 0), (6, .ptr 1 0)], [.var 31 [.sl (List.map encFile v692.1), .v (.int .i64 v692.2.1), .v (.int .i64 v692.2.2.1), .v (.bool v692.2.2.2)], .var 31 [.v (.slice none 0 0), .v (.int .i64 0), .v (.int .i64 0), .v (.bool false)]]⟩)) ?_ ?_
    · refine Tri.loopF (fun (s693 : Int × (List File) × Int × Int × Bool) => (⟨47, 0, ofRegs [(2, .v (.int .i64 to)), (3, .ptr 0 0), (6, .ptr 1 0), (8, .v (.int .i64 s693.1))], [.var 31 [.sl (List.map encFile s693.2.1), .v (.int .i64 s693.2.2.1), .v (.int .i64 s693.2.2.2.1), .v (.bool s693.2.2.2.2)], .var 31 [.v (.slice none 0 0), .v (.int .i64 0), .v (.int .i64 0), .v (.bool false)]]⟩ : St)) q690 (weak_fin _ rfl rfl rfl (.cons (.same rfl) (.cons (.same rfl) (LeH.rest))) (.cons (.one (.same rfl)) (.cons (.one (.same rfl)) (.cons (.one (.same rfl)) (.cons (.one (.same rfl)) (.nil))))) rfl rfl) ?_
      rintro ⟨a684, a685, a686, a687, a688⟩ v694 hv r695
      have hv : ref04_Drop_l2 to a684 a685 a686 a687 a688 = some v694 := hv
      unfold ref04_Drop_l2 at hv
      dsimp only
      refine Tri.seqK ?_
      refine Tri.seqK ?_
      refine Tri.cut (fun ex S' => ex = .normal ∧ Weak S' ⟨47, 0, ofRegs [(2, .v (.int .i64 to)), (3, .ptr 0 0), (6, .ptr 1 0), (8, .v (.int .i64 a684)), (22, .v (.bool ((decide (a684 < to)) && (decide (a684 ≤ 1000000)))))], [.var 31 [.sl (List.map encFile a685), .v (.int .i64 a686), .v (.int .i64 a687), .v (.bool a688)], .var 31 [.v (.slice none 0 0), .v (.int .i64 0), .v (.int .i64 0), .v (.bool false)]]⟩) ?_ ?_
      · refine Tri.run (G := gm_ref04_Drop) tyOk mixed ?_
        conv => whnf
        refine cond_mk (fun c705 => ?_) (fun c705 => ?_)
        · replace c705 : (decide (a684 < to)) = true := c705
          conv => whnf
          exact ⟨rfl, weak_fin _ rfl rfl rfl (.cons (.same rfl) (.cons (.same rfl) (LeH.rest))) (.cons (.one (.same rfl)) (.cons (.one (.same rfl)) (.cons (.one (.same rfl)) (.cons (.one (.same rfl)) (.cons (.one (.same (show (.v (.bool (decide (a684 ≤ 1000000))) : AV) = (.v (.bool ((decide (a684 < to)) && (decide (a684 ≤ 1000000)))) : AV) from by first | (simp [c705]; done) | simp only [c705, Bool.or_true, Bool.true_or, Bool.false_or, Bool.or_false, Bool.and_true, Bool.true_and, Bool.and_false, Bool.false_and, Bool.not_true, Bool.not_false, if_true, if_false, Bool.false_eq_true]))) (.nil)))))) rfl rfl⟩
        · replace c705 : (decide (a684 < to)) = false := c705
          conv => whnf
          exact ⟨rfl, weak_fin _ rfl rfl rfl (.cons (.same rfl) (.cons (.same rfl) (LeH.rest))) (.cons (.one (.same rfl)) (.cons (.one (.same rfl)) (.cons (.one (.same rfl)) (.cons (.one (.same rfl)) (.cons (.one (.same (show (.v (.bool false) : AV) = (.v (.bool ((decide (a684 < to)) && (decide (a684 ≤ 1000000)))) : AV) from by first | (simp [c705]; done) | simp only [c705, Bool.or_true, Bool.true_or, Bool.false_or, Bool.or_false, Bool.and_true, Bool.true_and, Bool.and_false, Bool.false_and, Bool.not_true, Bool.not_false, if_true, if_false, Bool.false_eq_true]))) (.nil)))))) rfl rfl⟩
      · rintro ex S' ⟨rfl, w706⟩
        conv => whnf
        refine Tri.weak w706 ?_
        refine Tri.cond rfl (fun c707 => ?_) (fun c707 => ?_)
        · replace hv := if_t c707 hv
          refine Tri.run (G := gm_ref04_Drop) tyOk mixed ?_
          conv => whnf
          refine Tri.seqK ?_
          replace hv := bind_some hv
          obtain ⟨y784, q785, hv⟩ := hv
          refine Tri.cut (fun ex S' => (∃ v786 : (List File) × Int × Int × Bool, y784 = (.inl v786) ∧ ex = .normal ∧ Weak S' ⟨47, 0, ofRegs [(2, .v (.int .i64 to)), (3, .ptr 0 0), (6, .ptr 1 0), (8, .v (.int .i64 a684))], [.var 31 [.sl (List.map encFile v786.1), .v (.int .i64 v786.2.1), .v (.int .i64 v786.2.2.1), .v (.bool v786.2.2.2)], .var 31 [.v (.slice none 0 0), .v (.int .i64 0), .v (.int .i64 0), .v (.bool false)]]⟩) ∨ (∃ v787 : Int × (List File) × Int × Int × Bool, y784 = (.inr v787) ∧ ex = .ret ∧ Weak S' ⟨47, 0, ofRegs [(6, .ptr 1 0), (7, .v (.int .i64 v787.1))], [.gone, .var 31 [.sl (List.map encFile v787.2.1), .v (.int .i64 v787.2.2.1), .v (.int .i64 v787.2.2.2.1), .v (.bool v787.2.2.2.2)]]⟩)) ?_ ?_
          · refine Tri.block ?_
            refine Tri.seqK ?_
            refine Tri.run (G := gm_ref04_Drop) tyOk mixed ?_
            conv => whnf
            replace q785 := bind_some q785
            obtain ⟨y798, q808, q785⟩ := q785
            replace q785 := bind_some q785
            obtain ⟨y800, q809, q785⟩ := q785
            refine Draw.many 9 (.take 0 (.take 1 (.alt 2 (.alt 3 (.take 4 (.take 5 (.take 6 (.alt 7 (.alt 8 (.fin) (.nil)) (.nil))))) (.alt 7 (.alt 3 (.take 4 (.take 5 (.take 6 (.alt 8 (.fin) (.nil))))) (.nil)) (.nil))) (.alt 7 (.alt 2 (.alt 3 (.take 4 (.take 5 (.take 6 (.alt 8 (.fin) (.nil))))) (.nil)) (.nil)) (.nil))))) [2, 3, 4, 5, 6, 7] (⟨47, 0, ofRegs [(2, .v (.int .i64 to)), (3, .ptr 0 0), (6, .ptr 1 0), (8, .v (.int .i64 a684)), (31, .v (.bool y800.2))], [.var 31 [.sl (List.map encFile a685), .v (.int .i64 a686), .v (.int .i64 a687), .v (.bool a688)], .var 31 [.v (.slice none 0 0), .v (.int .i64 0), .v (.int .i64 0), .v (.bool false)]]⟩) (by kernel_rfl) ?_ ?_
            · conv => whnf
              refine ⟨?_, ?_⟩
              · conv => whnf
                refine PureP.mono (ref04_Name_walk a684 y798 q808) ?_
                rintro _ rfl
                conv => whnf
                refine ⟨?_, ?_⟩
                · conv => whnf
                  refine PureP.mono (ref03_Find_walk ({ Files := a685, Room := a686, Fuse := a687, Off := a688 } : Disk) y798 y800 q809) ?_
                  rintro _ rfl
                  conv => whnf
                  refine ⟨?_, ?_⟩
                  · conv => whnf
                    refine ⟨?_, ?_⟩
                    · conv => whnf
                      exact weak_fin _ rfl rfl rfl (.cons (.same rfl) (.cons (.same rfl) (LeH.rest))) (.cons (.one (.same rfl)) (.cons (.one (.same rfl)) (.cons (.one (.same rfl)) (.cons (.one (.same rfl)) (.cons (.one (.same rfl)) (.nil)))))) rfl rfl
                    · conv => whnf
                      trivial
                  · conv => whnf
                    trivial
                · conv => whnf
                  refine ⟨?_, ?_⟩
                  · conv => whnf
                    refine ⟨?_, ?_⟩
                    · conv => whnf
                      refine PureP.mono (ref03_Find_walk ({ Files := a685, Room := a686, Fuse := a687, Off := a688 } : Disk) y798 y800 q809) ?_
                      rintro _ rfl
                      conv => whnf
                      refine ⟨?_, ?_⟩
                      · conv => whnf
                        exact weak_fin _ rfl rfl rfl (.cons (.same rfl) (.cons (.same rfl) (LeH.rest))) (.cons (.one (.same rfl)) (.cons (.one (.same rfl)) (.cons (.one (.same rfl)) (.cons (.one (.same rfl)) (.cons (.one (.same rfl)) (.nil)))))) rfl rfl
                      · conv => whnf
                        trivial
                    · conv => whnf
                      trivial
                  · conv => whnf
                    trivial
              · conv => whnf
                refine ⟨?_, ?_⟩
                · conv => whnf
                  refine ⟨?_, ?_⟩
                  · conv => whnf
                    refine PureP.mono (ref04_Name_walk a684 y798 q808) ?_
                    rintro _ rfl
                    conv => whnf
                    refine ⟨?_, ?_⟩
                    · conv => whnf
                      refine PureP.mono (ref03_Find_walk ({ Files := a685, Room := a686, Fuse := a687, Off := a688 } : Disk) y798 y800 q809) ?_
                      rintro _ rfl
                      conv => whnf
                      refine ⟨?_, ?_⟩
                      · conv => whnf
                        exact weak_fin _ rfl rfl rfl (.cons (.same rfl) (.cons (.same rfl) (LeH.rest))) (.cons (.one (.same rfl)) (.cons (.one (.same rfl)) (.cons (.one (.same rfl)) (.cons (.one (.same rfl)) (.cons (.one (.same rfl)) (.nil)))))) rfl rfl
                      · conv => whnf
                        trivial
                    · conv => whnf
                      trivial
                  · conv => whnf
                    trivial
                · conv => whnf
                  trivial
            · conv => whnf
              refine Tri.seqK ?_
              refine Tri.seqK ?_
              refine Tri.run (G := gm_ref04_Drop) tyOk mixed ?_
              conv => whnf
              refine Tri.cond rfl (fun c811 => ?_) (fun c811 => ?_)
              · replace q785 := if_t c811 q785
                refine Tri.run (G := gm_ref04_Drop) tyOk mixed ?_
                conv => whnf
                obtain rfl := Option.some.inj q785
                exact Or.inl ⟨_, rfl, rfl, weak_fin _ rfl rfl rfl (.cons (.same rfl) (.cons (.same rfl) (LeH.rest))) (.cons (.one (.same rfl)) (.cons (.one (.same rfl)) (.cons (.one (.same rfl)) (.cons (.one (.same rfl)) (.nil))))) rfl rfl⟩
              · replace q785 := if_f c811 q785
                refine Tri.run (G := gm_ref04_Drop) tyOk mixed ?_
                conv => whnf
                refine Tri.seqK ?_
                refine Tri.run (G := gm_ref04_Drop) tyOk mixed ?_
                conv => whnf
                replace q785 := bind_some q785
                obtain ⟨y818, q824, q785⟩ := q785
                refine Draw.many 9 (.take 0 (.take 1 (.alt 2 (.alt 3 (.take 4 (.take 5 (.take 6 (.alt 7 (.alt 8 (.fin) (.nil)) (.nil))))) (.alt 7 (.alt 3 (.take 4 (.take 5 (.take 6 (.alt 8 (.fin) (.nil))))) (.nil)) (.nil))) (.alt 7 (.alt 2 (.alt 3 (.take 4 (.take 5 (.take 6 (.alt 8 (.fin) (.nil))))) (.nil)) (.nil)) (.nil))))) [2, 3, 4, 5, 6, 7] (⟨47, 0, ofRegs [(2, .v (.int .i64 to)), (3, .ptr 0 0), (6, .ptr 1 0), (8, .v (.int .i64 a684)), (11, .ptr 2 0), (40, .v (.int .i64 y818.2))], [.var 31 [.sl (List.map encFile a685), .v (.int .i64 a686), .v (.int .i64 a687), .v (.bool a688)], .var 31 [.v (.slice none 0 0), .v (.int .i64 0), .v (.int .i64 0), .v (.bool false)], .var 31 [.sl (List.map encFile y818.1.Files), .v (.int .i64 y818.1.Room), .v (.int .i64 y818.1.Fuse), .v (.bool y818.1.Off)]]⟩) (by kernel_rfl) ?_ ?_
                · conv => whnf
                  refine ⟨?_, ?_⟩
                  · conv => whnf
                    refine PureP.mono (ref04_Name_walk a684 y798 q808) ?_
                    rintro _ rfl
                    conv => whnf
                    refine ⟨?_, ?_⟩
                    · conv => whnf
                      refine PureP.mono (ref03_Delete_walk ({ Files := a685, Room := a686, Fuse := a687, Off := a688 } : Disk) y798 y818 q824) ?_
                      rintro _ rfl
                      conv => whnf
                      refine ⟨?_, ?_⟩
                      · conv => whnf
                        refine ⟨?_, ?_⟩
                        · conv => whnf
                          exact weak_fin _ rfl rfl rfl (.cons (.same rfl) (.cons (.same rfl) (.cons (.same rfl) (LeH.rest)))) (.cons (.one (.same rfl)) (.cons (.one (.same rfl)) (.cons (.one (.same rfl)) (.cons (.one (.same rfl)) (.cons (.one (.same rfl)) (.cons (.one (.same rfl)) (.nil))))))) rfl rfl
                        · conv => whnf
                          trivial
                      · conv => whnf
                        trivial
                    · conv => whnf
                      refine ⟨?_, ?_⟩
                      · conv => whnf
                        refine ⟨?_, ?_⟩
                        · conv => whnf
                          refine PureP.mono (ref03_Delete_walk ({ Files := a685, Room := a686, Fuse := a687, Off := a688 } : Disk) y798 y818 q824) ?_
                          rintro _ rfl
                          conv => whnf
                          refine ⟨?_, ?_⟩
                          · conv => whnf
                            exact weak_fin _ rfl rfl rfl (.cons (.same rfl) (.cons (.same rfl) (.cons (.same rfl) (LeH.rest)))) (.cons (.one (.same rfl)) (.cons (.one (.same rfl)) (.cons (.one (.same rfl)) (.cons (.one (.same rfl)) (.cons (.one (.same rfl)) (.cons (.one (.same rfl)) (.nil))))))) rfl rfl
                          · conv => whnf
                            trivial
                        · conv => whnf
                          trivial
                      · conv => whnf
                        trivial
                  · conv => whnf
                    refine ⟨?_, ?_⟩
                    · conv => whnf
                      refine ⟨?_, ?_⟩
                      · conv => whnf
                        refine PureP.mono (ref04_Name_walk a684 y798 q808) ?_
                        rintro _ rfl
                        conv => whnf
                        refine ⟨?_, ?_⟩
                        · conv => whnf
                          refine PureP.mono (ref03_Delete_walk ({ Files := a685, Room := a686, Fuse := a687, Off := a688 } : Disk) y798 y818 q824) ?_
                          rintro _ rfl
                          conv => whnf
                          refine ⟨?_, ?_⟩
                          · conv => whnf
                            exact weak_fin _ rfl rfl rfl (.cons (.same rfl) (.cons (.same rfl) (.cons (.same rfl) (LeH.rest)))) (.cons (.one (.same rfl)) (.cons (.one (.same rfl)) (.cons (.one (.same rfl)) (.cons (.one (.same rfl)) (.cons (.one (.same rfl)) (.cons (.one (.same rfl)) (.nil))))))) rfl rfl
                          · conv => whnf
                            trivial
                        · conv => whnf
                          trivial
                      · conv => whnf
                        trivial
                    · conv => whnf
                      trivial
                · conv => whnf
                  refine Tri.seqK ?_
                  refine Tri.run (G := gm_ref04_Drop) tyOk mixed ?_
                  conv => whnf
                  refine Tri.seqK ?_
                  refine Tri.run (G := gm_ref04_Drop) tyOk mixed ?_
                  conv => whnf
                  refine Tri.cond rfl (fun c825 => ?_) (fun c825 => ?_)
                  · replace q785 := if_t c825 q785
                    refine Tri.seqK ?_
                    refine Tri.run (G := gm_ref04_Drop) tyOk mixed ?_
                    conv => whnf
                    refine Tri.run (G := gm_ref04_Drop) tyOk mixed ?_
                    conv => whnf
                    obtain rfl := Option.some.inj q785
                    exact Or.inr (⟨_, rfl, rfl, weak_fin _ rfl rfl rfl (.cons (.gone) (.cons (.same rfl) (LeH.rest))) (.cons (.one (.same rfl)) (.cons (.one (.same rfl)) (.nil))) rfl rfl⟩)
                  · replace q785 := if_f c825 q785
                    refine Tri.run (G := gm_ref04_Drop) tyOk mixed ?_
                    conv => whnf
                    obtain rfl := Option.some.inj q785
                    exact Or.inl ⟨_, rfl, rfl, weak_fin _ rfl rfl rfl (.cons (.same rfl) (.cons (.same rfl) (LeH.rest))) (.cons (.one (.same rfl)) (.cons (.one (.same rfl)) (.cons (.one (.same rfl)) (.cons (.one (.same rfl)) (.nil))))) rfl rfl⟩
          · rintro ex S' (⟨v786, rfl, rfl, w826⟩ | ⟨v787, rfl, rfl, w826⟩)
            · dsimp only at hv
              conv => whnf
              refine Tri.weak w826 ?_
              refine Tri.run (G := gm_ref04_Drop) tyOk mixed ?_
              conv => whnf
              obtain rfl := Option.some.inj hv
              exact ⟨_, rfl, weak_fin _ rfl rfl rfl (.cons (.same rfl) (.cons (.same rfl) (LeH.rest))) (.cons (.one (.same rfl)) (.cons (.one (.same rfl)) (.cons (.one (.same rfl)) (.cons (.one (.same rfl)) (.nil))))) rfl rfl⟩
            · dsimp only at hv
              conv => whnf
              obtain rfl := Option.some.inj hv
              obtain rfl := r695 _ rfl
              exact Or.inl ⟨_, rfl, rfl, Weak.trans w826 (weak_fin _ rfl rfl rfl (.cons (.same rfl) (.cons (.same rfl) (LeH.rest))) (.cons (.one (.same rfl)) (.cons (.one (.same rfl)) (.nil))) rfl rfl)⟩
        · replace hv := if_f c707 hv
          refine Tri.run (G := gm_ref04_Drop) tyOk mixed ?_
          conv => whnf
          obtain rfl := Option.some.inj hv
          obtain rfl := r695 _ rfl
          exact Or.inr (⟨_, rfl, rfl, weak_fin _ rfl rfl rfl (.cons (.same rfl) (.cons (.same rfl) (LeH.rest))) (.cons (.one (.same rfl)) (.cons (.one (.same rfl)) (.nil))) rfl rfl⟩)
    · rintro ex S' (⟨v691, rfl, rfl, w827⟩ | ⟨v692, rfl, rfl, w827⟩)
      · dsimp only at h
        conv => whnf
        refine fin_pre w827 ?_
        conv => whnf
        obtain rfl := Option.some.inj h
        rfl
      · dsimp only at h
        conv => whnf
        refine Tri.weak w827 ?_
        refine Tri.seqK ?_
        refine Tri.run (G := gm_ref04_Drop) tyOk mixed ?_
        conv => whnf
        refine Tri.run (G := gm_ref04_Drop) tyOk mixed ?_
        conv => whnf
        refine fin_here ?_
        conv => whnf
        obtain rfl := Option.some.inj h
        rfl
noncomputable def law04_WalRecovers (d : Disk) (from_ : Int) (to : Int) : Option (Bool) :=
  law04_shown.bind fun y1 =>
  (wal_Recover d from_).bind fun y3 =>
  (ref04_Recover d from_).bind fun y5 =>
  (
    (ref03_Same y3.1 y5.1).bind fun y19 =>
    if y19 then
      (ref01_Same y3.2.1 y5.2.1).bind fun y22 =>
      some y22
    else
      some false).bind fun (y17 : Bool) =>
  if ((!y1) || ((!y17) || ((!(decide (y3.2.2.1 = y5.2.2.1))) || (!(decide (y3.2.2.2 = y5.2.2.2)))))) then
    some false
  else
    if ((decide (to > 2000)) || (decide ((d.Files.length : Int) > 70))) then
      some true
    else
      (wal_Drop d from_ to).bind fun y65 =>
      (ref04_Drop d from_ to).bind fun y67 =>
      (ref03_Same y65.1 y67.1).bind fun y69 =>
      if y69 then
        some (decide (y65.2 = y67.2))
      else
        some false
def gm_law04_WalRecovers : Gm := ⟨tys, [], [], []⟩
theorem law04_WalRecovers_walk (d : Disk) (from_ : Int) (to : Int) (r : Bool) (h : law04_WalRecovers d from_ to = some r) : PureP Try.prog 9 [.agg [.sl (List.map encFile d.Files), .v (.int .i64 d.Room), .v (.int .i64 d.Fuse), .v (.bool d.Off)], .v (.int .i64 from_), .v (.int .i64 to)] (fun a => a = .v (.bool r)) := by
  unfold law04_WalRecovers at h
  refine pureW (G := gm_law04_WalRecovers) tyOk Try.func9 rfl (by kernel_rfl) (by simp [Try.f9]) ?_
  refine Tri.seqK ?_
  refine Tri.run (G := gm_law04_WalRecovers) tyOk mixed ?_
  conv => whnf
  refine Tri.seqK ?_
  refine Tri.run (G := gm_law04_WalRecovers) tyOk mixed ?_
  conv => whnf
  replace h := bind_some h
  obtain ⟨y1, q2, h⟩ := h
  refine PureP.mono (law04_shown_walk y1 q2) ?_
  rintro _ rfl
  conv => whnf
  refine Tri.seqK ?_
  refine Tri.run (G := gm_law04_WalRecovers) tyOk mixed ?_
  conv => whnf
  replace h := bind_some h
  obtain ⟨y3, q4, h⟩ := h
  refine PureP.mono (wal_Recover_walk d from_ y3 q4) ?_
  rintro _ rfl
  conv => whnf
  refine Tri.seqK ?_
  refine Tri.run (G := gm_law04_WalRecovers) tyOk mixed ?_
  conv => whnf
  replace h := bind_some h
  obtain ⟨y5, q6, h⟩ := h
  refine PureP.mono (ref04_Recover_walk d from_ y5 q6) ?_
  rintro _ rfl
  conv => whnf
  refine Tri.seqK ?_
  replace h := bind_some h
  obtain ⟨y17, q18, h⟩ := h
  refine Tri.cut (fun ex S' => ex = .normal ∧ Weak S' ⟨94, 0, ofRegs [(1, .v (.int .i64 from_)), (2, .v (.int .i64 to)), (3, .ptr 0 0), (7, .v (.bool y1)), (10, .v (.int .i64 y3.2.2.1)), (11, .v (.int .i64 y3.2.2.2)), (14, .v (.int .i64 y5.2.2.1)), (15, .v (.int .i64 y5.2.2.2)), (16, .v (.bool y17))], [.var 31 [.sl (List.map encFile d.Files), .v (.int .i64 d.Room), .v (.int .i64 d.Fuse), .v (.bool d.Off)]]⟩) ?_ ?_
  · refine Tri.run (G := gm_law04_WalRecovers) tyOk mixed ?_
    conv => whnf
    replace q18 := bind_some q18
    obtain ⟨y19, q20, q18⟩ := q18
    refine PureP.mono (ref03_Same_walk y3.1 y5.1 y19 q20) ?_
    rintro _ rfl
    conv => whnf
    refine cond_mk (fun c21 => ?_) (fun c21 => ?_)
    · replace q18 := if_t c21 q18
      conv => whnf
      replace q18 := bind_some q18
      obtain ⟨y22, q23, q18⟩ := q18
      refine PureP.mono (ref01_Same_walk y3.2.1 y5.2.1 y22 q23) ?_
      rintro _ rfl
      conv => whnf
      obtain rfl := Option.some.inj q18
      exact ⟨rfl, weak_fin _ rfl rfl rfl (.cons (.same rfl) (LeH.rest)) (.cons (.one (.same rfl)) (.cons (.one (.same rfl)) (.cons (.one (.same rfl)) (.cons (.one (.same rfl)) (.cons (.one (.same rfl)) (.cons (.one (.same rfl)) (.cons (.one (.same rfl)) (.cons (.one (.same rfl)) (.cons (.one (.same rfl)) (.nil)))))))))) rfl rfl⟩
    · replace q18 := if_f c21 q18
      conv => whnf
      obtain rfl := Option.some.inj q18
      exact ⟨rfl, weak_fin _ rfl rfl rfl (.cons (.same rfl) (LeH.rest)) (.cons (.one (.same rfl)) (.cons (.one (.same rfl)) (.cons (.one (.same rfl)) (.cons (.one (.same rfl)) (.cons (.one (.same rfl)) (.cons (.one (.same rfl)) (.cons (.one (.same rfl)) (.cons (.one (.same rfl)) (.cons (.one (.same rfl)) (.nil)))))))))) rfl rfl⟩
  · rintro ex S' ⟨rfl, w24⟩
    conv => whnf
    refine Tri.weak w24 ?_
    refine Tri.seqK ?_
    refine Tri.seqK ?_
    refine Tri.cut (fun ex S' => ex = .normal ∧ Weak S' ⟨94, 0, ofRegs [(1, .v (.int .i64 from_)), (2, .v (.int .i64 to)), (3, .ptr 0 0), (62, .v (.bool ((!y1) || ((!y17) || ((!(decide (y3.2.2.1 = y5.2.2.1))) || (!(decide (y3.2.2.2 = y5.2.2.2))))))))], [.var 31 [.sl (List.map encFile d.Files), .v (.int .i64 d.Room), .v (.int .i64 d.Fuse), .v (.bool d.Off)]]⟩) ?_ ?_
    · refine Tri.run (G := gm_law04_WalRecovers) tyOk mixed ?_
      conv => whnf
      refine cond_mk (fun c48 => ?_) (fun c48 => ?_)
      · replace c48 : (!y1) = true := c48
        conv => whnf
        exact ⟨rfl, weak_fin _ rfl rfl rfl (.cons (.same rfl) (LeH.rest)) (.cons (.one (.same rfl)) (.cons (.one (.same rfl)) (.cons (.one (.same rfl)) (.cons (.one (.same (show (.v (.bool true) : AV) = (.v (.bool ((!y1) || ((!y17) || ((!(decide (y3.2.2.1 = y5.2.2.1))) || (!(decide (y3.2.2.2 = y5.2.2.2))))))) : AV) from by first | (simp [c48]; done) | simp only [c48, Bool.or_true, Bool.true_or, Bool.false_or, Bool.or_false, Bool.and_true, Bool.true_and, Bool.and_false, Bool.false_and, Bool.not_true, Bool.not_false, if_true, if_false, Bool.false_eq_true]))) (.nil))))) rfl rfl⟩
      · replace c48 : (!y1) = false := c48
        conv => whnf
        refine cond_mk (fun c49 => ?_) (fun c49 => ?_)
        · replace c49 : (!y17) = true := c49
          conv => whnf
          exact ⟨rfl, weak_fin _ rfl rfl rfl (.cons (.same rfl) (LeH.rest)) (.cons (.one (.same rfl)) (.cons (.one (.same rfl)) (.cons (.one (.same rfl)) (.cons (.one (.same (show (.v (.bool true) : AV) = (.v (.bool ((!y1) || ((!y17) || ((!(decide (y3.2.2.1 = y5.2.2.1))) || (!(decide (y3.2.2.2 = y5.2.2.2))))))) : AV) from by first | (simp [c48, c49]; done) | simp only [c48, c49, Bool.or_true, Bool.true_or, Bool.false_or, Bool.or_false, Bool.and_true, Bool.true_and, Bool.and_false, Bool.false_and, Bool.not_true, Bool.not_false, if_true, if_false, Bool.false_eq_true]))) (.nil))))) rfl rfl⟩
        · replace c49 : (!y17) = false := c49
          conv => whnf
          refine cond_mk (fun c50 => ?_) (fun c50 => ?_)
          · replace c50 : (!(decide (y3.2.2.1 = y5.2.2.1))) = true := c50
            conv => whnf
            exact ⟨rfl, weak_fin _ rfl rfl rfl (.cons (.same rfl) (LeH.rest)) (.cons (.one (.same rfl)) (.cons (.one (.same rfl)) (.cons (.one (.same rfl)) (.cons (.one (.same (show (.v (.bool true) : AV) = (.v (.bool ((!y1) || ((!y17) || ((!(decide (y3.2.2.1 = y5.2.2.1))) || (!(decide (y3.2.2.2 = y5.2.2.2))))))) : AV) from by first | (simp [c48, c49, c50]; done) | simp only [c48, c49, c50, Bool.or_true, Bool.true_or, Bool.false_or, Bool.or_false, Bool.and_true, Bool.true_and, Bool.and_false, Bool.false_and, Bool.not_true, Bool.not_false, if_true, if_false, Bool.false_eq_true]))) (.nil))))) rfl rfl⟩
          · replace c50 : (!(decide (y3.2.2.1 = y5.2.2.1))) = false := c50
            conv => whnf
            exact ⟨rfl, weak_fin _ rfl rfl rfl (.cons (.same rfl) (LeH.rest)) (.cons (.one (.same rfl)) (.cons (.one (.same rfl)) (.cons (.one (.same rfl)) (.cons (.one (.same (show (.v (.bool (!(decide (y3.2.2.2 = y5.2.2.2)))) : AV) = (.v (.bool ((!y1) || ((!y17) || ((!(decide (y3.2.2.1 = y5.2.2.1))) || (!(decide (y3.2.2.2 = y5.2.2.2))))))) : AV) from by first | (simp [c48, c49, c50]; done) | simp only [c48, c49, c50, Bool.or_true, Bool.true_or, Bool.false_or, Bool.or_false, Bool.and_true, Bool.true_and, Bool.and_false, Bool.false_and, Bool.not_true, Bool.not_false, if_true, if_false, Bool.false_eq_true]))) (.nil))))) rfl rfl⟩
    · rintro ex S' ⟨rfl, w51⟩
      conv => whnf
      refine Tri.weak w51 ?_
      refine Tri.cond rfl (fun c52 => ?_) (fun c52 => ?_)
      · replace h := if_t c52 h
        refine Tri.seqK ?_
        refine Tri.run (G := gm_law04_WalRecovers) tyOk mixed ?_
        conv => whnf
        refine Tri.run (G := gm_law04_WalRecovers) tyOk mixed ?_
        conv => whnf
        refine fin_here ?_
        conv => whnf
        obtain rfl := Option.some.inj h
        rfl
      · replace h := if_f c52 h
        refine Tri.run (G := gm_law04_WalRecovers) tyOk mixed ?_
        conv => whnf
        refine Tri.seqK ?_
        refine Tri.seqK ?_
        refine Tri.cut (fun ex S' => ex = .normal ∧ Weak S' ⟨94, 0, ofRegs [(1, .v (.int .i64 from_)), (2, .v (.int .i64 to)), (3, .ptr 0 0), (70, .v (.bool ((decide (to > 2000)) || (decide ((d.Files.length : Int) > 70)))))], [.var 31 [.sl (List.map encFile d.Files), .v (.int .i64 d.Room), .v (.int .i64 d.Fuse), .v (.bool d.Off)]]⟩) ?_ ?_
        · refine Tri.run (G := gm_law04_WalRecovers) tyOk mixed ?_
          conv => whnf
          refine cond_mk (fun c62 => ?_) (fun c62 => ?_)
          · replace c62 : (decide (to > 2000)) = true := c62
            conv => whnf
            exact ⟨rfl, weak_fin _ rfl rfl rfl (.cons (.same rfl) (LeH.rest)) (.cons (.one (.same rfl)) (.cons (.one (.same rfl)) (.cons (.one (.same rfl)) (.cons (.one (.same (show (.v (.bool true) : AV) = (.v (.bool ((decide (to > 2000)) || (decide ((d.Files.length : Int) > 70)))) : AV) from by first | (simp [c62]; done) | simp only [c62, Bool.or_true, Bool.true_or, Bool.false_or, Bool.or_false, Bool.and_true, Bool.true_and, Bool.and_false, Bool.false_and, Bool.not_true, Bool.not_false, if_true, if_false, Bool.false_eq_true]))) (.nil))))) rfl rfl⟩
          · replace c62 : (decide (to > 2000)) = false := c62
            conv => whnf
            refine ⟨⟨(d.Files.length : Int), (len_map _ _).symm, ?_⟩⟩
            conv => whnf
            exact ⟨rfl, weak_fin _ rfl rfl rfl (.cons (.same rfl) (LeH.rest)) (.cons (.one (.same rfl)) (.cons (.one (.same rfl)) (.cons (.one (.same rfl)) (.cons (.one (.same (show (.v (.bool (decide ((d.Files.length : Int) > 70))) : AV) = (.v (.bool ((decide (to > 2000)) || (decide ((d.Files.length : Int) > 70)))) : AV) from by first | (simp [c62]; done) | simp only [c62, Bool.or_true, Bool.true_or, Bool.false_or, Bool.or_false, Bool.and_true, Bool.true_and, Bool.and_false, Bool.false_and, Bool.not_true, Bool.not_false, if_true, if_false, Bool.false_eq_true]))) (.nil))))) rfl rfl⟩
        · rintro ex S' ⟨rfl, w63⟩
          conv => whnf
          refine Tri.weak w63 ?_
          refine Tri.cond rfl (fun c64 => ?_) (fun c64 => ?_)
          · replace h := if_t c64 h
            refine Tri.seqK ?_
            refine Tri.run (G := gm_law04_WalRecovers) tyOk mixed ?_
            conv => whnf
            refine Tri.run (G := gm_law04_WalRecovers) tyOk mixed ?_
            conv => whnf
            refine fin_here ?_
            conv => whnf
            obtain rfl := Option.some.inj h
            rfl
          · replace h := if_f c64 h
            refine Tri.run (G := gm_law04_WalRecovers) tyOk mixed ?_
            conv => whnf
            refine Tri.seqK ?_
            refine Tri.run (G := gm_law04_WalRecovers) tyOk mixed ?_
            conv => whnf
            replace h := bind_some h
            obtain ⟨y65, q66, h⟩ := h
            refine PureP.mono (wal_Drop_walk d from_ to y65 q66) ?_
            rintro _ rfl
            conv => whnf
            refine Tri.seqK ?_
            refine Tri.run (G := gm_law04_WalRecovers) tyOk mixed ?_
            conv => whnf
            replace h := bind_some h
            obtain ⟨y67, q68, h⟩ := h
            refine PureP.mono (ref04_Drop_walk d from_ to y67 q68) ?_
            rintro _ rfl
            conv => whnf
            refine Tri.seqK ?_
            refine Tri.run (G := gm_law04_WalRecovers) tyOk mixed ?_
            conv => whnf
            replace h := bind_some h
            obtain ⟨y69, q70, h⟩ := h
            refine PureP.mono (ref03_Same_walk y65.1 y67.1 y69 q70) ?_
            rintro _ rfl
            conv => whnf
            refine Tri.seqK ?_
            refine Tri.run (G := gm_law04_WalRecovers) tyOk mixed ?_
            conv => whnf
            refine cond_mk (fun c71 => ?_) (fun c71 => ?_)
            · replace h := if_t c71 h
              conv => whnf
              refine Tri.run (G := gm_law04_WalRecovers) tyOk mixed ?_
              conv => whnf
              refine fin_here ?_
              conv => whnf
              obtain rfl := Option.some.inj h
              rfl
            · replace h := if_f c71 h
              conv => whnf
              refine Tri.run (G := gm_law04_WalRecovers) tyOk mixed ?_
              conv => whnf
              refine fin_here ?_
              conv => whnf
              obtain rfl := Option.some.inj h
              rfl
noncomputable def law04_WalDrops_l2 (with_ : WalDropsIn) (a74 : Int) : Option ((Int) ⊕ ((Unit) ⊕ (Unit))) :=
  if (decide (a74 < with_.To)) then
    (wal_Name a74).bind fun y87 =>
    if (decide (y87 = with_.Name)) then
      some (.inr (.inl ()))
    else
      some (.inl (IntKind.i64.wrap (a74 + 1)))
  else
    some (.inr (.inr ()))
noncomputable def law04_WalDrops (with_ : WalDropsIn) : Option (Bool) :=
  law04_shown.bind fun y1 =>
  if ((decide (with_.To > 2000)) || (decide (with_.From < 1))) then
    some y1
  else
    (wal_Drop with_.D with_.From with_.To).bind fun y15 =>
    if (!(decide (y15.2 = 0))) then
      some y1
    else
      (ref03_Find with_.D with_.Name).bind fun y19 =>
      (ref03_Find y15.1 with_.Name).bind fun y21 =>
      (loop (fun (s79 : Int) => law04_WalDrops_l2 with_ s79) with_.From).bind fun (y75 : (Unit) ⊕ (Unit)) =>
      match y75 with
      | (.inl v77) =>
        some y1
      | (.inr v78) =>
        if y1 then
          if (y19.2 == y21.2) then
            some (decide (y19.1 = y21.1))
          else
            some false
        else
          some false
def gm_law04_WalDrops : Gm := ⟨tys, [], [], []⟩
theorem law04_WalDrops_walk (with_ : WalDropsIn) (r : Bool) (h : law04_WalDrops with_ = some r) : PureP Try.prog 10 [.agg [.sl (List.map encFile with_.D.Files), .v (.int .i64 with_.D.Room), .v (.int .i64 with_.D.Fuse), .v (.bool with_.D.Off), .v (.int .i64 with_.From), .v (.int .i64 with_.To), .v (.string (bs with_.Name))]] (fun a => a = .v (.bool r)) := by
  unfold law04_WalDrops at h
  refine pureW (G := gm_law04_WalDrops) tyOk Try.func10 rfl (by kernel_rfl) (by simp [Try.f10]) ?_
  refine Tri.seqK ?_
  refine Tri.run (G := gm_law04_WalDrops) tyOk mixed ?_
  conv => whnf
  refine Tri.seqK ?_
  refine Tri.run (G := gm_law04_WalDrops) tyOk mixed ?_
  conv => whnf
  refine Tri.seqK ?_
  refine Tri.run (G := gm_law04_WalDrops) tyOk mixed ?_
  conv => whnf
  refine Tri.seqK ?_
  refine Tri.run (G := gm_law04_WalDrops) tyOk mixed ?_
  conv => whnf
  refine Tri.seqK ?_
  refine Tri.run (G := gm_law04_WalDrops) tyOk mixed ?_
  conv => whnf
  refine Tri.seqK ?_
  refine Tri.run (G := gm_law04_WalDrops) tyOk mixed ?_
  conv => whnf
  replace h := bind_some h
  obtain ⟨y1, q2, h⟩ := h
  refine PureP.mono (law04_shown_walk y1 q2) ?_
  rintro _ rfl
  conv => whnf
  refine Tri.seqK ?_
  refine Tri.seqK ?_
  refine Tri.cut (fun ex S' => ex = .normal ∧ Weak S' ⟨75, 0, ofRegs [(3, .ptr 1 0), (4, .v (.int .i64 with_.From)), (5, .v (.int .i64 with_.To)), (6, .v (.string (bs with_.Name))), (7, .v (.bool y1)), (29, .v (.bool ((decide (with_.To > 2000)) || (decide (with_.From < 1)))))], [.gone, .var 31 [.sl (List.map encFile with_.D.Files), .v (.int .i64 with_.D.Room), .v (.int .i64 with_.D.Fuse), .v (.bool with_.D.Off)]]⟩) ?_ ?_
  · refine Tri.run (G := gm_law04_WalDrops) tyOk mixed ?_
    conv => whnf
    refine cond_mk (fun c12 => ?_) (fun c12 => ?_)
    · replace c12 : (decide (with_.To > 2000)) = true := c12
      conv => whnf
      exact ⟨rfl, weak_fin _ rfl rfl rfl (.cons (.gone) (.cons (.same rfl) (LeH.rest))) (.cons (.one (.same rfl)) (.cons (.one (.same rfl)) (.cons (.one (.same rfl)) (.cons (.one (.same rfl)) (.cons (.one (.same rfl)) (.cons (.one (.same (show (.v (.bool true) : AV) = (.v (.bool ((decide (with_.To > 2000)) || (decide (with_.From < 1)))) : AV) from by first | (simp [c12]; done) | simp only [c12, Bool.or_true, Bool.true_or, Bool.false_or, Bool.or_false, Bool.and_true, Bool.true_and, Bool.and_false, Bool.false_and, Bool.not_true, Bool.not_false, if_true, if_false, Bool.false_eq_true]))) (.nil))))))) rfl rfl⟩
    · replace c12 : (decide (with_.To > 2000)) = false := c12
      conv => whnf
      exact ⟨rfl, weak_fin _ rfl rfl rfl (.cons (.gone) (.cons (.same rfl) (LeH.rest))) (.cons (.one (.same rfl)) (.cons (.one (.same rfl)) (.cons (.one (.same rfl)) (.cons (.one (.same rfl)) (.cons (.one (.same rfl)) (.cons (.one (.same (show (.v (.bool (decide (with_.From < 1))) : AV) = (.v (.bool ((decide (with_.To > 2000)) || (decide (with_.From < 1)))) : AV) from by first | (simp [c12]; done) | simp only [c12, Bool.or_true, Bool.true_or, Bool.false_or, Bool.or_false, Bool.and_true, Bool.true_and, Bool.and_false, Bool.false_and, Bool.not_true, Bool.not_false, if_true, if_false, Bool.false_eq_true]))) (.nil))))))) rfl rfl⟩
  · rintro ex S' ⟨rfl, w13⟩
    conv => whnf
    refine Tri.weak w13 ?_
    refine Tri.cond rfl (fun c14 => ?_) (fun c14 => ?_)
    · replace h := if_t c14 h
      refine Tri.seqK ?_
      refine Tri.run (G := gm_law04_WalDrops) tyOk mixed ?_
      conv => whnf
      refine Tri.run (G := gm_law04_WalDrops) tyOk mixed ?_
      conv => whnf
      refine fin_here ?_
      conv => whnf
      obtain rfl := Option.some.inj h
      rfl
    · replace h := if_f c14 h
      refine Tri.run (G := gm_law04_WalDrops) tyOk mixed ?_
      conv => whnf
      refine Tri.seqK ?_
      refine Tri.run (G := gm_law04_WalDrops) tyOk mixed ?_
      conv => whnf
      replace h := bind_some h
      obtain ⟨y15, q16, h⟩ := h
      refine PureP.mono (wal_Drop_walk with_.D with_.From with_.To y15 q16) ?_
      rintro _ rfl
      conv => whnf
      refine Tri.seqK ?_
      refine Tri.seqK ?_
      refine Tri.run (G := gm_law04_WalDrops) tyOk mixed ?_
      conv => whnf
      refine Tri.cond rfl (fun c18 => ?_) (fun c18 => ?_)
      · replace h := if_t c18 h
        refine Tri.seqK ?_
        refine Tri.run (G := gm_law04_WalDrops) tyOk mixed ?_
        conv => whnf
        refine Tri.run (G := gm_law04_WalDrops) tyOk mixed ?_
        conv => whnf
        refine fin_here ?_
        conv => whnf
        obtain rfl := Option.some.inj h
        rfl
      · replace h := if_f c18 h
        refine Tri.run (G := gm_law04_WalDrops) tyOk mixed ?_
        conv => whnf
        refine Tri.seqK ?_
        refine Tri.run (G := gm_law04_WalDrops) tyOk mixed ?_
        conv => whnf
        replace h := bind_some h
        obtain ⟨y19, q20, h⟩ := h
        refine PureP.mono (ref03_Find_walk with_.D with_.Name y19 q20) ?_
        rintro _ rfl
        conv => whnf
        refine Tri.seqK ?_
        refine Tri.run (G := gm_law04_WalDrops) tyOk mixed ?_
        conv => whnf
        replace h := bind_some h
        obtain ⟨y21, q22, h⟩ := h
        refine PureP.mono (ref03_Find_walk y15.1 with_.Name y21 q22) ?_
        rintro _ rfl
        conv => whnf
        refine Tri.seqK ?_
        refine Tri.seqK ?_
        refine Tri.run (G := gm_law04_WalDrops) tyOk mixed ?_
        conv => whnf
        refine Tri.block ?_
        replace h := bind_some h
        obtain ⟨y75, q76, h⟩ := h
        refine Tri.cut (fun ex S' => (∃ v77 : Unit, y75 = (.inl v77) ∧ ex = .ret ∧ Weak S' ⟨75, 0, ofRegs [(2, .v (.bool y1))], []⟩) ∨ (∃ v78 : Unit, y75 = (.inr v78) ∧ ex = (.exit 0) ∧ Weak S' ⟨75, 0, ofRegs [(7, .v (.bool y1)), (10, .ptr 3 0), (11, .v (.bool y19.2)), (12, .ptr 4 0), (13, .v (.bool y21.2))], [.gone, .gone, .gone, .var 69 [.v (.string (bs y19.1.Name)), .v (.string (bs y19.1.Safe)), .v (.string (bs y19.1.Wait))], .var 69 [.v (.string (bs y21.1.Name)), .v (.string (bs y21.1.Safe)), .v (.string (bs y21.1.Wait))]]⟩)) ?_ ?_
        · refine Tri.loopF (fun (s79 : Int) => (⟨75, 0, ofRegs [(5, .v (.int .i64 with_.To)), (6, .v (.string (bs with_.Name))), (7, .v (.bool y1)), (10, .ptr 3 0), (11, .v (.bool y19.2)), (12, .ptr 4 0), (13, .v (.bool y21.2)), (14, .v (.int .i64 s79))], [.gone, .gone, .gone, .var 69 [.v (.string (bs y19.1.Name)), .v (.string (bs y19.1.Safe)), .v (.string (bs y19.1.Wait))], .var 69 [.v (.string (bs y21.1.Name)), .v (.string (bs y21.1.Safe)), .v (.string (bs y21.1.Wait))]]⟩ : St)) q76 (weak_fin _ rfl rfl rfl (.cons (.same rfl) (.cons (.gone) (.cons (.gone) (.cons (.same rfl) (.cons (.same rfl) (LeH.rest)))))) (.cons (.one (.same rfl)) (.cons (.one (.same rfl)) (.cons (.one (.same rfl)) (.cons (.one (.same rfl)) (.cons (.one (.same rfl)) (.cons (.one (.same rfl)) (.cons (.one (.same rfl)) (.cons (.one (.same rfl)) (.nil))))))))) rfl rfl) ?_
          rintro a74 v80 hv r81
          have hv : law04_WalDrops_l2 with_ a74 = some v80 := hv
          unfold law04_WalDrops_l2 at hv
          refine Tri.seqK ?_
          refine Tri.seqK ?_
          refine Tri.run (G := gm_law04_WalDrops) tyOk mixed ?_
          conv => whnf
          refine Tri.cond rfl (fun c83 => ?_) (fun c83 => ?_)
          · replace hv := if_t c83 hv
            refine Tri.run (G := gm_law04_WalDrops) tyOk mixed ?_
            conv => whnf
            refine Tri.seqK ?_
            refine Tri.block ?_
            refine Tri.seqK ?_
            refine Tri.run (G := gm_law04_WalDrops) tyOk mixed ?_
            conv => whnf
            replace hv := bind_some hv
            obtain ⟨y87, q88, hv⟩ := hv
            refine PureP.mono (wal_Name_walk a74 y87 q88) ?_
            rintro _ rfl
            conv => whnf
            refine ⟨⟨(decide (y87 = with_.Name)), bs_eq _ _, ?_⟩⟩
            conv => whnf
            refine Tri.cond rfl (fun c89 => ?_) (fun c89 => ?_)
            · replace hv := if_t c89 hv
              refine Tri.seqK ?_
              refine Tri.run (G := gm_law04_WalDrops) tyOk mixed ?_
              conv => whnf
              refine Tri.run (G := gm_law04_WalDrops) tyOk mixed ?_
              conv => whnf
              obtain rfl := Option.some.inj hv
              obtain rfl := r81 _ rfl
              exact Or.inl ⟨_, rfl, rfl, weak_fin _ rfl rfl rfl (LeH.rest) (.cons (.one (.same rfl)) (.nil)) rfl rfl⟩
            · replace hv := if_f c89 hv
              refine Tri.run (G := gm_law04_WalDrops) tyOk mixed ?_
              conv => whnf
              refine Tri.run (G := gm_law04_WalDrops) tyOk mixed ?_
              conv => whnf
              obtain rfl := Option.some.inj hv
              exact ⟨_, rfl, weak_fin _ rfl rfl rfl (.cons (.same rfl) (.cons (.same rfl) (.cons (.same rfl) (.cons (.same rfl) (.cons (.same rfl) (LeH.rest)))))) (.cons (.one (.same rfl)) (.cons (.one (.same rfl)) (.cons (.one (.same rfl)) (.cons (.one (.same rfl)) (.cons (.one (.same rfl)) (.cons (.one (.same rfl)) (.cons (.one (.same rfl)) (.cons (.one (.same rfl)) (.nil))))))))) rfl rfl⟩
          · replace hv := if_f c83 hv
            refine Tri.run (G := gm_law04_WalDrops) tyOk mixed ?_
            conv => whnf
            obtain rfl := Option.some.inj hv
            obtain rfl := r81 _ rfl
            exact Or.inr (⟨_, rfl, rfl, weak_fin _ rfl rfl rfl (.cons (.same rfl) (.cons (.same rfl) (.cons (.same rfl) (.cons (.same rfl) (.cons (.same rfl) (LeH.rest)))))) (.cons (.one (.same rfl)) (.cons (.one (.same rfl)) (.cons (.one (.same rfl)) (.cons (.one (.same rfl)) (.cons (.one (.same rfl)) (.nil)))))) rfl rfl⟩)
        · rintro ex S' (⟨v77, rfl, rfl, w90⟩ | ⟨v78, rfl, rfl, w90⟩)
          · dsimp only at h
            conv => whnf
            refine fin_pre w90 ?_
            conv => whnf
            obtain rfl := Option.some.inj h
            rfl
          · dsimp only at h
            conv => whnf
            refine Tri.weak w90 ?_
            refine Tri.seqK ?_
            refine Tri.run (G := gm_law04_WalDrops) tyOk mixed ?_
            conv => whnf
            refine cond_mk (fun c91 => ?_) (fun c91 => ?_)
            · replace h := if_t c91 h
              conv => whnf
              refine cond_mk (fun c92 => ?_) (fun c92 => ?_)
              · replace h := if_t c92 h
                conv => whnf
                refine ⟨⟨(decide (y19.1 = y21.1)), eq_File _ _, ?_⟩⟩
                conv => whnf
                refine Tri.run (G := gm_law04_WalDrops) tyOk mixed ?_
                conv => whnf
                refine fin_here ?_
                conv => whnf
                obtain rfl := Option.some.inj h
                rfl
              · replace h := if_f c92 h
                conv => whnf
                refine Tri.run (G := gm_law04_WalDrops) tyOk mixed ?_
                conv => whnf
                refine fin_here ?_
                conv => whnf
                obtain rfl := Option.some.inj h
                rfl
            · replace h := if_f c91 h
              conv => whnf
              refine Tri.run (G := gm_law04_WalDrops) tyOk mixed ?_
              conv => whnf
              refine fin_here ?_
              conv => whnf
              obtain rfl := Option.some.inj h
              rfl
end Go.Ab
