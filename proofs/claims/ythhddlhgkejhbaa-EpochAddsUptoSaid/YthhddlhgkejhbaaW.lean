/- The program's functions as plain Lean functions, and that the program comes to what they come to. Printed by a program of this session. -/
import Derived.Test.YthhddlhgkejhbaaW2
namespace Go.Ab
open Go.Proofs
set_option linter.unusedVariables false
set_option linter.unusedSimpArgs false
set_option maxRecDepth 100000
noncomputable def law18_EpochRises_l26 (x1142 : Turn) (y1146 : Disk × Int × Int) (a1209 : Int) (a1210 : (List Int)) : Option ((Int × (List Int)) ⊕ ((List Int))) :=
  if (decide (a1209 < (y1146.1.Files.length : Int))) then
    need ((a1210.length + 1) * 8 ≤ 140737488355328) <|
    some (.inl ((IntKind.i64.wrap (a1209 + 1)), (a1210 ++ [x1142.N])))
  else
    some (.inr a1210)
noncomputable def law18_EpochRises_l22 (l : (List Turn)) (a1013 : Int) (a1014 : Int) (a1015 : (List File)) (a1016 : Int) (a1017 : Int) (a1018 : Bool) : Option ((Int × Int × (List File) × Int × Int × Bool) ⊕ ((Unit) ⊕ (Unit))) :=
  if ((decide (a1014 < (l.length : Int))) && (decide (a1014 < 200))) then
    (ix l a1014).bind fun x1142 =>
    (ref03_Arm ({ Files := a1015, Room := a1016, Fuse := a1017, Off := a1018 } : Disk) x1142.Fuse).bind fun y1144 =>
    (epoch_Next y1144).bind fun y1146 =>
    if ((decide (y1146.2.2 = 0)) && (decide (y1146.2.1 ≤ a1013))) then
      some (.inr (.inl ()))
    else
      if (decide (y1146.2.2 = 3)) then
        some (.inr (.inl ()))
      else
        (loop (fun (s1213 : Int × (List Int)) => law18_EpochRises_l26 x1142 y1146 s1213.1 s1213.2) ((0 : Int), ([] : (List Int)))).bind fun (y1211 : (List Int)) =>
        (ref03_Crash y1146.1 y1211).bind fun y1220 =>
        some (.inl ((if (decide (y1146.2.2 = 0)) then y1146.2.1 else a1013), (IntKind.i64.wrap (a1014 + 1)), y1220.Files, y1220.Room, y1220.Fuse, y1220.Off))
  else
    some (.inr (.inr ()))
noncomputable def law18_EpochRises (room : Int) (l : (List Turn)) : Option (Bool) :=
  law18_shown.bind fun y1 =>
  (ref03_New room).bind fun y3 =>
  if (!(decide (y3.2 = 0))) then
    some y1
  else
    (loop (fun (s1023 : Int × Int × (List File) × Int × Int × Bool) => law18_EpochRises_l22 l s1023.1 s1023.2.1 s1023.2.2.1 s1023.2.2.2.1 s1023.2.2.2.2.1 s1023.2.2.2.2.2) ((0 : Int), (0 : Int), y3.1.Files, y3.1.Room, y3.1.Fuse, y3.1.Off)).bind fun (y1019 : (Unit) ⊕ (Unit)) =>
    match y1019 with
    | (.inl v1021) =>
      some false
    | (.inr v1022) =>
      some y1
def gm_law18_EpochRises : Gm := ⟨tys, [], [], []⟩
theorem law18_EpochRises_walk (room : Int) (l : (List Turn)) (r : Bool) (h : law18_EpochRises room l = some r) : PureP Try.prog 6 [.v (.int .i64 room), .sl (List.map encTurn l)] (fun a => a = .v (.bool r)) := by
  unfold law18_EpochRises at h
  refine pureW (G := gm_law18_EpochRises) tyOk Try.func6 rfl (by kernel_rfl) (by simp [Try.f6]) ?_
  refine Tri.seqK ?_
  refine Tri.run (G := gm_law18_EpochRises) tyOk mixed ?_
  conv => whnf
  refine Tri.seqK ?_
  refine Tri.run (G := gm_law18_EpochRises) tyOk mixed ?_
  conv => whnf
  replace h := bind_some h
  obtain ⟨y1, q2, h⟩ := h
  refine PureP.mono (law18_shown_walk y1 q2) ?_
  rintro _ rfl
  conv => whnf
  refine Tri.seqK ?_
  refine Tri.run (G := gm_law18_EpochRises) tyOk mixed ?_
  conv => whnf
  replace h := bind_some h
  obtain ⟨y3, q4, h⟩ := h
  refine PureP.mono (ref03_New_walk room y3 q4) ?_
  rintro _ rfl
  conv => whnf
  refine Tri.seqK ?_
  refine Tri.seqK ?_
  refine Tri.run (G := gm_law18_EpochRises) tyOk mixed ?_
  conv => whnf
  refine Tri.cond rfl (fun c6 => ?_) (fun c6 => ?_)
  · replace h := if_t c6 h
    refine Tri.seqK ?_
    refine Tri.run (G := gm_law18_EpochRises) tyOk mixed ?_
    conv => whnf
    refine Tri.run (G := gm_law18_EpochRises) tyOk mixed ?_
    conv => whnf
    refine fin_here ?_
    conv => whnf
    obtain rfl := Option.some.inj h
    rfl
  · replace h := if_f c6 h
    refine Tri.run (G := gm_law18_EpochRises) tyOk mixed ?_
    conv => whnf
    refine Tri.seqK ?_
    refine Tri.run (G := gm_law18_EpochRises) tyOk mixed ?_
    conv => whnf
    refine Tri.seqK ?_
    refine Tri.seqK ?_
    refine Tri.run (G := gm_law18_EpochRises) tyOk mixed ?_
    conv => whnf
    refine Tri.block ?_
    replace h := bind_some h
    obtain ⟨y1019, q1020, h⟩ := h
    refine Tri.cut (fun ex S' => (∃ v1021 : Unit, y1019 = (.inl v1021) ∧ ex = .ret ∧ Weak S' ⟨77, 0, ofRegs [(4, .v (.bool false))], []⟩) ∨ (∃ v1022 : Unit, y1019 = (.inr v1022) ∧ ex = (.exit 0) ∧ Weak S' ⟨77, 0, ofRegs [(5, .v (.bool y1))], []⟩)) ?_ ?_
    · refine Tri.loopF (fun (s1023 : Int × Int × (List File) × Int × Int × Bool) => (⟨77, 0, ofRegs [(1, .sl (List.map encTurn l)), (5, .v (.bool y1)), (6, .ptr 0 0), (8, .v (.int .i64 s1023.1)), (9, .v (.int .i64 s1023.2.1))], [.var 24 [.sl (List.map encFile s1023.2.2.1), .v (.int .i64 s1023.2.2.2.1), .v (.int .i64 s1023.2.2.2.2.1), .v (.bool s1023.2.2.2.2.2)]]⟩ : St)) q1020 (weak_fin _ rfl rfl rfl (.cons (.same rfl) (LeH.rest)) (.cons (.one (.same rfl)) (.cons (.one (.same rfl)) (.cons (.one (.same rfl)) (.cons (.one (.same rfl)) (.cons (.one (.same rfl)) (.nil)))))) rfl rfl) ?_
      rintro ⟨a1013, a1014, a1015, a1016, a1017, a1018⟩ v1024 hv r1025
      have hv : law18_EpochRises_l22 l a1013 a1014 a1015 a1016 a1017 a1018 = some v1024 := hv
      unfold law18_EpochRises_l22 at hv
      dsimp only
      refine Tri.seqK ?_
      refine Tri.seqK ?_
      refine Tri.cut (fun ex S' => ex = .normal ∧ Weak S' ⟨77, 0, ofRegs [(1, .sl (List.map encTurn l)), (5, .v (.bool y1)), (6, .ptr 0 0), (8, .v (.int .i64 a1013)), (9, .v (.int .i64 a1014)), (31, .v (.bool ((decide (a1014 < (l.length : Int))) && (decide (a1014 < 200)))))], [.var 24 [.sl (List.map encFile a1015), .v (.int .i64 a1016), .v (.int .i64 a1017), .v (.bool a1018)]]⟩) ?_ ?_
      · refine Tri.run (G := gm_law18_EpochRises) tyOk mixed ?_
        conv => whnf
        refine ⟨⟨(l.length : Int), (len_map _ _).symm, ?_⟩⟩
        conv => whnf
        refine cond_mk (fun c1035 => ?_) (fun c1035 => ?_)
        · replace c1035 : (decide (a1014 < (l.length : Int))) = true := c1035
          conv => whnf
          exact ⟨rfl, weak_fin _ rfl rfl rfl (.cons (.same rfl) (LeH.rest)) (.cons (.one (.same rfl)) (.cons (.one (.same rfl)) (.cons (.one (.same rfl)) (.cons (.one (.same rfl)) (.cons (.one (.same rfl)) (.cons (.one (.same (show (.v (.bool (decide (a1014 < 200))) : AV) = (.v (.bool ((decide (a1014 < (l.length : Int))) && (decide (a1014 < 200)))) : AV) from by first | (simp [c1035]; done) | simp only [c1035, Bool.or_true, Bool.true_or, Bool.false_or, Bool.or_false, Bool.and_true, Bool.true_and, Bool.and_false, Bool.false_and, Bool.not_true, Bool.not_false, if_true, if_false, Bool.false_eq_true]))) (.nil))))))) rfl rfl⟩
        · replace c1035 : (decide (a1014 < (l.length : Int))) = false := c1035
          conv => whnf
          exact ⟨rfl, weak_fin _ rfl rfl rfl (.cons (.same rfl) (LeH.rest)) (.cons (.one (.same rfl)) (.cons (.one (.same rfl)) (.cons (.one (.same rfl)) (.cons (.one (.same rfl)) (.cons (.one (.same rfl)) (.cons (.one (.same (show (.v (.bool false) : AV) = (.v (.bool ((decide (a1014 < (l.length : Int))) && (decide (a1014 < 200)))) : AV) from by first | (simp [c1035]; done) | simp only [c1035, Bool.or_true, Bool.true_or, Bool.false_or, Bool.or_false, Bool.and_true, Bool.true_and, Bool.and_false, Bool.false_and, Bool.not_true, Bool.not_false, if_true, if_false, Bool.false_eq_true]))) (.nil))))))) rfl rfl⟩
      · rintro ex S' ⟨rfl, w1036⟩
        conv => whnf
        refine Tri.weak w1036 ?_
        refine Tri.cond rfl (fun c1037 => ?_) (fun c1037 => ?_)
        · replace hv := if_t c1037 hv
          refine Tri.run (G := gm_law18_EpochRises) tyOk mixed ?_
          conv => whnf
          refine Tri.seqK ?_
          refine Tri.block ?_
          refine Tri.seqK ?_
          refine Tri.run (G := gm_law18_EpochRises) tyOk mixed ?_
          conv => whnf
          replace hv := bind_some hv
          obtain ⟨x1142, q1154, hv⟩ := hv
          replace hv := bind_some hv
          obtain ⟨y1144, q1155, hv⟩ := hv
          replace hv := bind_some hv
          obtain ⟨y1146, q1156, hv⟩ := hv
          refine Draw.many 15 (.take 0 (.take 1 (.take 2 (.take 3 (.take 4 (.take 5 (.alt 6 (.alt 7 (.take 8 (.take 9 (.take 10 (.take 11 (.alt 12 (.alt 13 (.take 14 (.fin)) (.nil)) (.nil)))))) (.alt 12 (.alt 7 (.take 8 (.take 9 (.take 10 (.take 11 (.alt 13 (.take 14 (.fin)) (.nil)))))) (.nil)) (.nil))) (.alt 12 (.alt 6 (.alt 7 (.take 8 (.take 9 (.take 10 (.take 11 (.alt 13 (.take 14 (.fin)) (.nil)))))) (.nil)) (.nil)) (.nil))))))))) [1, 2, 3, 4, 5, 6] (⟨77, 0, ofRegs [(1, .sl (List.map encTurn l)), (5, .v (.bool y1)), (6, .ptr 0 0), (8, .v (.int .i64 a1013)), (9, .v (.int .i64 a1014)), (10, .ptr 1 0), (11, .v (.int .i64 y1146.2.1)), (45, .v (.int .i64 y1146.2.2))], [.var 24 [.sl (List.map encFile a1015), .v (.int .i64 a1016), .v (.int .i64 a1017), .v (.bool a1018)], .var 24 [.sl (List.map encFile y1146.1.Files), .v (.int .i64 y1146.1.Room), .v (.int .i64 y1146.1.Fuse), .v (.bool y1146.1.Off)]]⟩) (by kernel_rfl) ?_ ?_
          · conv => whnf
            refine ⟨(ix_some q1154).1, ?_⟩
            conv => whnf
            refine ⟨⟨_, map_get encTurn (ix_some q1154).2, ?_⟩⟩
            conv => whnf
            refine ⟨rfl, ?_⟩
            conv => whnf
            refine ⟨?_, ?_⟩
            · conv => whnf
              refine PureP.mono (ref03_Arm_walk ({ Files := a1015, Room := a1016, Fuse := a1017, Off := a1018 } : Disk) x1142.Fuse y1144 q1155) ?_
              rintro _ rfl
              conv => whnf
              refine ⟨?_, ?_⟩
              · conv => whnf
                refine PureP.mono (epoch_Next_walk y1144 y1146 q1156) ?_
                rintro _ rfl
                conv => whnf
                refine ⟨?_, ?_⟩
                · conv => whnf
                  refine ⟨?_, ?_⟩
                  · conv => whnf
                    exact weak_fin _ rfl rfl rfl (.cons (.same rfl) (.cons (.same rfl) (LeH.rest))) (.cons (.one (.same rfl)) (.cons (.one (.same rfl)) (.cons (.one (.same rfl)) (.cons (.one (.same rfl)) (.cons (.one (.same rfl)) (.cons (.one (.same rfl)) (.cons (.one (.same rfl)) (.cons (.one (.same rfl)) (.nil))))))))) rfl rfl
                  · conv => whnf
                    trivial
                · conv => whnf
                  trivial
              · conv => whnf
                refine ⟨?_, ?_⟩
                · conv => whnf
                  refine ⟨?_, ?_⟩
                  · conv => whnf
                    refine PureP.mono (epoch_Next_walk y1144 y1146 q1156) ?_
                    rintro _ rfl
                    conv => whnf
                    refine ⟨?_, ?_⟩
                    · conv => whnf
                      exact weak_fin _ rfl rfl rfl (.cons (.same rfl) (.cons (.same rfl) (LeH.rest))) (.cons (.one (.same rfl)) (.cons (.one (.same rfl)) (.cons (.one (.same rfl)) (.cons (.one (.same rfl)) (.cons (.one (.same rfl)) (.cons (.one (.same rfl)) (.cons (.one (.same rfl)) (.cons (.one (.same rfl)) (.nil))))))))) rfl rfl
                    · conv => whnf
                      trivial
                  · conv => whnf
                    trivial
                · conv => whnf
                  trivial
            · conv => whnf
              refine ⟨?_, ?_⟩
              · conv => whnf
                refine ⟨?_, ?_⟩
                · conv => whnf
                  refine PureP.mono (ref03_Arm_walk ({ Files := a1015, Room := a1016, Fuse := a1017, Off := a1018 } : Disk) x1142.Fuse y1144 q1155) ?_
                  rintro _ rfl
                  conv => whnf
                  refine ⟨?_, ?_⟩
                  · conv => whnf
                    refine PureP.mono (epoch_Next_walk y1144 y1146 q1156) ?_
                    rintro _ rfl
                    conv => whnf
                    refine ⟨?_, ?_⟩
                    · conv => whnf
                      exact weak_fin _ rfl rfl rfl (.cons (.same rfl) (.cons (.same rfl) (LeH.rest))) (.cons (.one (.same rfl)) (.cons (.one (.same rfl)) (.cons (.one (.same rfl)) (.cons (.one (.same rfl)) (.cons (.one (.same rfl)) (.cons (.one (.same rfl)) (.cons (.one (.same rfl)) (.cons (.one (.same rfl)) (.nil))))))))) rfl rfl
                    · conv => whnf
                      trivial
                  · conv => whnf
                    trivial
                · conv => whnf
                  trivial
              · conv => whnf
                trivial
          · conv => whnf
            refine Tri.seqK ?_
            refine Tri.seqK ?_
            refine Tri.cut (fun ex S' => ex = .normal ∧ Weak S' ⟨77, 0, ofRegs [(1, .sl (List.map encTurn l)), (5, .v (.bool y1)), (6, .ptr 0 0), (8, .v (.int .i64 a1013)), (9, .v (.int .i64 a1014)), (10, .ptr 1 0), (11, .v (.int .i64 y1146.2.1)), (12, .v (.int .i64 y1146.2.2)), (52, .v (.bool ((decide (y1146.2.2 = 0)) && (decide (y1146.2.1 ≤ a1013)))))], [.var 24 [.sl (List.map encFile a1015), .v (.int .i64 a1016), .v (.int .i64 a1017), .v (.bool a1018)], .var 24 [.sl (List.map encFile y1146.1.Files), .v (.int .i64 y1146.1.Room), .v (.int .i64 y1146.1.Fuse), .v (.bool y1146.1.Off)]]⟩) ?_ ?_
            · refine Tri.run (G := gm_law18_EpochRises) tyOk mixed ?_
              conv => whnf
              refine cond_mk (fun c1166 => ?_) (fun c1166 => ?_)
              · replace c1166 : (decide (y1146.2.2 = 0)) = true := c1166
                conv => whnf
                exact ⟨rfl, weak_fin _ rfl rfl rfl (.cons (.same rfl) (.cons (.same rfl) (LeH.rest))) (.cons (.one (.same rfl)) (.cons (.one (.same rfl)) (.cons (.one (.same rfl)) (.cons (.one (.same rfl)) (.cons (.one (.same rfl)) (.cons (.one (.same rfl)) (.cons (.one (.same rfl)) (.cons (.one (.same rfl)) (.cons (.one (.same (show (.v (.bool (decide (y1146.2.1 ≤ a1013))) : AV) = (.v (.bool ((decide (y1146.2.2 = 0)) && (decide (y1146.2.1 ≤ a1013)))) : AV) from by first | (simp [c1166]; done) | simp only [c1166, Bool.or_true, Bool.true_or, Bool.false_or, Bool.or_false, Bool.and_true, Bool.true_and, Bool.and_false, Bool.false_and, Bool.not_true, Bool.not_false, if_true, if_false, Bool.false_eq_true]))) (.nil)))))))))) rfl rfl⟩
              · replace c1166 : (decide (y1146.2.2 = 0)) = false := c1166
                conv => whnf
                exact ⟨rfl, weak_fin _ rfl rfl rfl (.cons (.same rfl) (.cons (.same rfl) (LeH.rest))) (.cons (.one (.same rfl)) (.cons (.one (.same rfl)) (.cons (.one (.same rfl)) (.cons (.one (.same rfl)) (.cons (.one (.same rfl)) (.cons (.one (.same rfl)) (.cons (.one (.same rfl)) (.cons (.one (.same rfl)) (.cons (.one (.same (show (.v (.bool false) : AV) = (.v (.bool ((decide (y1146.2.2 = 0)) && (decide (y1146.2.1 ≤ a1013)))) : AV) from by first | (simp [c1166]; done) | simp only [c1166, Bool.or_true, Bool.true_or, Bool.false_or, Bool.or_false, Bool.and_true, Bool.true_and, Bool.and_false, Bool.false_and, Bool.not_true, Bool.not_false, if_true, if_false, Bool.false_eq_true]))) (.nil)))))))))) rfl rfl⟩
            · rintro ex S' ⟨rfl, w1167⟩
              conv => whnf
              refine Tri.weak w1167 ?_
              refine Tri.cond rfl (fun c1168 => ?_) (fun c1168 => ?_)
              · replace hv := if_t c1168 hv
                refine Tri.seqK ?_
                refine Tri.run (G := gm_law18_EpochRises) tyOk mixed ?_
                conv => whnf
                refine Tri.run (G := gm_law18_EpochRises) tyOk mixed ?_
                conv => whnf
                obtain rfl := Option.some.inj hv
                obtain rfl := r1025 _ rfl
                exact Or.inl ⟨_, rfl, rfl, weak_fin _ rfl rfl rfl (LeH.rest) (.cons (.one (.same rfl)) (.nil)) rfl rfl⟩
              · replace hv := if_f c1168 hv
                refine Tri.run (G := gm_law18_EpochRises) tyOk mixed ?_
                conv => whnf
                refine Tri.seqK ?_
                refine Tri.cut (fun ex S' => ex = .normal ∧ Weak S' ⟨77, 0, ofRegs [(1, .sl (List.map encTurn l)), (5, .v (.bool y1)), (6, .ptr 0 0), (8, .v (.int .i64 (if (decide (y1146.2.2 = 0)) then y1146.2.1 else a1013))), (9, .v (.int .i64 a1014)), (10, .ptr 1 0), (12, .v (.int .i64 y1146.2.2))], [.var 24 [.sl (List.map encFile a1015), .v (.int .i64 a1016), .v (.int .i64 a1017), .v (.bool a1018)], .var 24 [.sl (List.map encFile y1146.1.Files), .v (.int .i64 y1146.1.Room), .v (.int .i64 y1146.1.Fuse), .v (.bool y1146.1.Off)]]⟩) ?_ ?_
                · refine Tri.seqK ?_
                  refine Tri.run (G := gm_law18_EpochRises) tyOk mixed ?_
                  conv => whnf
                  refine Tri.cond rfl (fun c1172 => ?_) (fun c1172 => ?_)
                  · replace c1172 : (decide (y1146.2.2 = 0)) = true := c1172
                    refine Tri.run (G := gm_law18_EpochRises) tyOk mixed ?_
                    conv => whnf
                    exact ⟨rfl, weak_fin _ rfl rfl rfl (.cons (.same rfl) (.cons (.same rfl) (LeH.rest))) (.cons (.one (.same rfl)) (.cons (.one (.same rfl)) (.cons (.one (.same rfl)) (.cons (.one (.same (show (.v (.int .i64 y1146.2.1) : AV) = (.v (.int .i64 (if (decide (y1146.2.2 = 0)) then y1146.2.1 else a1013)) : AV) from by first | (simp [c1172]; done) | simp only [c1172, Bool.or_true, Bool.true_or, Bool.false_or, Bool.or_false, Bool.and_true, Bool.true_and, Bool.and_false, Bool.false_and, Bool.not_true, Bool.not_false, if_true, if_false, Bool.false_eq_true]))) (.cons (.one (.same rfl)) (.cons (.one (.same rfl)) (.cons (.one (.same rfl)) (.nil)))))))) rfl rfl⟩
                  · replace c1172 : (decide (y1146.2.2 = 0)) = false := c1172
                    refine Tri.run (G := gm_law18_EpochRises) tyOk mixed ?_
                    conv => whnf
                    exact ⟨rfl, weak_fin _ rfl rfl rfl (.cons (.same rfl) (.cons (.same rfl) (LeH.rest))) (.cons (.one (.same rfl)) (.cons (.one (.same rfl)) (.cons (.one (.same rfl)) (.cons (.one (.same (show (.v (.int .i64 a1013) : AV) = (.v (.int .i64 (if (decide (y1146.2.2 = 0)) then y1146.2.1 else a1013)) : AV) from by first | (simp [c1172]; done) | simp only [c1172, Bool.or_true, Bool.true_or, Bool.false_or, Bool.or_false, Bool.and_true, Bool.true_and, Bool.and_false, Bool.false_and, Bool.not_true, Bool.not_false, if_true, if_false, Bool.false_eq_true]))) (.cons (.one (.same rfl)) (.cons (.one (.same rfl)) (.cons (.one (.same rfl)) (.nil)))))))) rfl rfl⟩
                · rintro ex S' ⟨rfl, w1173⟩
                  conv => whnf
                  refine Tri.weak w1173 ?_
                  refine Tri.seqK ?_
                  refine Tri.seqK ?_
                  refine Tri.run (G := gm_law18_EpochRises) tyOk mixed ?_
                  conv => whnf
                  refine Tri.cond rfl (fun c1175 => ?_) (fun c1175 => ?_)
                  · replace hv := if_t c1175 hv
                    refine Tri.seqK ?_
                    refine Tri.run (G := gm_law18_EpochRises) tyOk mixed ?_
                    conv => whnf
                    refine Tri.run (G := gm_law18_EpochRises) tyOk mixed ?_
                    conv => whnf
                    obtain rfl := Option.some.inj hv
                    obtain rfl := r1025 _ rfl
                    exact Or.inl ⟨_, rfl, rfl, weak_fin _ rfl rfl rfl (LeH.rest) (.cons (.one (.same rfl)) (.nil)) rfl rfl⟩
                  · replace hv := if_f c1175 hv
                    refine Tri.run (G := gm_law18_EpochRises) tyOk mixed ?_
                    conv => whnf
                    refine Tri.seqK ?_
                    refine Tri.run (G := gm_law18_EpochRises) tyOk mixed ?_
                    conv => whnf
                    refine Tri.seqK ?_
                    refine Tri.seqK ?_
                    refine Tri.run (G := gm_law18_EpochRises) tyOk mixed ?_
                    conv => whnf
                    refine Tri.block ?_
                    replace hv := bind_some hv
                    obtain ⟨y1211, q1212, hv⟩ := hv
                    refine Tri.cut (fun ex S' => ex = (.exit 2) ∧ Weak S' ⟨77, 0, ofRegs [(1, .sl (List.map encTurn l)), (5, .v (.bool y1)), (6, .ptr 0 0), (8, .v (.int .i64 (if (decide (y1146.2.2 = 0)) then y1146.2.1 else a1013))), (9, .v (.int .i64 a1014)), (10, .ptr 1 0), (13, .row 2 ((List.map (encI .i64) y1211).length))], [.var 24 [.sl (List.map encFile a1015), .v (.int .i64 a1016), .v (.int .i64 a1017), .v (.bool a1018)], .var 24 [.sl (List.map encFile y1146.1.Files), .v (.int .i64 y1146.1.Room), .v (.int .i64 y1146.1.Fuse), .v (.bool y1146.1.Off)], .row 3 1 (List.map (encI .i64) y1211)]⟩) ?_ ?_
                    · refine Tri.loopF (fun (s1213 : Int × (List Int)) => (⟨77, 0, ofRegs [(1, .sl (List.map encTurn l)), (5, .v (.bool y1)), (6, .ptr 0 0), (8, .v (.int .i64 (if (decide (y1146.2.2 = 0)) then y1146.2.1 else a1013))), (9, .v (.int .i64 a1014)), (10, .ptr 1 0), (13, .row 2 ((List.map (encI .i64) s1213.2).length)), (14, .v (.int .i64 s1213.1))], [.var 24 [.sl (List.map encFile a1015), .v (.int .i64 a1016), .v (.int .i64 a1017), .v (.bool a1018)], .var 24 [.sl (List.map encFile y1146.1.Files), .v (.int .i64 y1146.1.Room), .v (.int .i64 y1146.1.Fuse), .v (.bool y1146.1.Off)], .row 3 1 (List.map (encI .i64) s1213.2)]⟩ : St)) q1212 (Weak.trans (weak_nil 13 3 1 rfl) (weak_fin _ rfl rfl rfl (.cons (.same rfl) (.cons (.same rfl) (.cons (.same rfl) (LeH.rest)))) (.cons (.one (.same rfl)) (.cons (.one (.same rfl)) (.cons (.one (.same rfl)) (.cons (.one (.same rfl)) (.cons (.one (.same rfl)) (.cons (.one (.same rfl)) (.cons (.one (.same (show (.row 2 0 : AV) = (.row 2 ((List.map (encI .i64) []).length) : AV) from congrArg (AV.row 2) (by simp)))) (.cons (.one (.same rfl)) (.nil))))))))) rfl rfl)) ?_
                      rintro ⟨a1209, a1210⟩ v1214 hv r1215
                      have hv : law18_EpochRises_l26 x1142 y1146 a1209 a1210 = some v1214 := hv
                      unfold law18_EpochRises_l26 at hv
                      dsimp only
                      refine Tri.seqK ?_
                      refine Tri.seqK ?_
                      refine Tri.run (G := gm_law18_EpochRises) tyOk mixed ?_
                      conv => whnf
                      refine ⟨⟨(y1146.1.Files.length : Int), (len_map _ _).symm, ?_⟩⟩
                      conv => whnf
                      refine Tri.cond rfl (fun c1217 => ?_) (fun c1217 => ?_)
                      · replace hv := if_t c1217 hv
                        refine Tri.run (G := gm_law18_EpochRises) tyOk mixed ?_
                        conv => whnf
                        refine Tri.seqK ?_
                        refine Tri.block ?_
                        refine Tri.run (G := gm_law18_EpochRises) tyOk mixed ?_
                        conv => whnf
                        refine ⟨(ix_some q1154).1, ?_⟩
                        conv => whnf
                        refine ⟨⟨_, map_get encTurn (ix_some q1154).2, ?_⟩⟩
                        conv => whnf
                        refine ⟨rfl, ?_⟩
                        conv => whnf
                        refine ⟨⟨List.map (encI .i64) [x1142.N], rfl, ?_⟩⟩
                        conv => whnf
                        refine ⟨rfl, ?_⟩
                        conv => whnf
                        refine ⟨rfl, ?_⟩
                        conv => whnf
                        replace hv := need_some hv
                        obtain ⟨p1218, hv⟩ := hv
                        refine ⟨by simp only [List.length_map]; exact p1218, ?_⟩
                        conv => whnf
                        refine ⟨⟨List.map (encI .i64) (a1210 ++ [x1142.N]), map_app (encI .i64) _ _ rfl rfl, ?_⟩⟩
                        conv => whnf
                        refine Tri.run (G := gm_law18_EpochRises) tyOk mixed ?_
                        conv => whnf
                        obtain rfl := Option.some.inj hv
                        exact ⟨_, rfl, weak_fin _ rfl rfl rfl (.cons (.same rfl) (.cons (.same rfl) (.cons (.same rfl) (LeH.rest)))) (.cons (.one (.same rfl)) (.cons (.one (.same rfl)) (.cons (.one (.same rfl)) (.cons (.one (.same rfl)) (.cons (.one (.same rfl)) (.cons (.one (.same rfl)) (.cons (.one (.same rfl)) (.cons (.one (.same rfl)) (.nil))))))))) rfl rfl⟩
                      · replace hv := if_f c1217 hv
                        refine Tri.run (G := gm_law18_EpochRises) tyOk mixed ?_
                        conv => whnf
                        obtain rfl := Option.some.inj hv
                        obtain rfl := r1215 _ rfl
                        exact ⟨rfl, weak_fin _ rfl rfl rfl (.cons (.same rfl) (.cons (.same rfl) (.cons (.same rfl) (LeH.rest)))) (.cons (.one (.same rfl)) (.cons (.one (.same rfl)) (.cons (.one (.same rfl)) (.cons (.one (.same rfl)) (.cons (.one (.same rfl)) (.cons (.one (.same rfl)) (.cons (.one (.same rfl)) (.nil)))))))) rfl rfl⟩
                    · rintro ex S' ⟨rfl, w1219⟩
                      conv => whnf
                      refine Tri.weak w1219 ?_
                      refine Tri.run (G := gm_law18_EpochRises) tyOk mixed ?_
                      conv => whnf
                      refine ⟨rfl, ?_⟩
                      conv => whnf
                      replace hv := bind_some hv
                      obtain ⟨y1220, q1221, hv⟩ := hv
                      refine PureP.mono (ref03_Crash_walk y1146.1 y1211 y1220 q1221) ?_
                      rintro _ rfl
                      conv => whnf
                      refine Tri.run (G := gm_law18_EpochRises) tyOk mixed ?_
                      conv => whnf
                      obtain rfl := Option.some.inj hv
                      exact ⟨_, rfl, weak_fin _ rfl rfl rfl (.cons (.same rfl) (LeH.rest)) (.cons (.one (.same rfl)) (.cons (.one (.same rfl)) (.cons (.one (.same rfl)) (.cons (.one (.same rfl)) (.cons (.one (.same rfl)) (.nil)))))) rfl rfl⟩
        · replace hv := if_f c1037 hv
          refine Tri.run (G := gm_law18_EpochRises) tyOk mixed ?_
          conv => whnf
          obtain rfl := Option.some.inj hv
          obtain rfl := r1025 _ rfl
          exact Or.inr (⟨_, rfl, rfl, weak_fin _ rfl rfl rfl (LeH.rest) (.cons (.one (.same rfl)) (.nil)) rfl rfl⟩)
    · rintro ex S' (⟨v1021, rfl, rfl, w1222⟩ | ⟨v1022, rfl, rfl, w1222⟩)
      · dsimp only at h
        conv => whnf
        refine fin_pre w1222 ?_
        conv => whnf
        obtain rfl := Option.some.inj h
        rfl
      · dsimp only at h
        conv => whnf
        refine Tri.weak w1222 ?_
        refine Tri.seqK ?_
        refine Tri.run (G := gm_law18_EpochRises) tyOk mixed ?_
        conv => whnf
        refine Tri.run (G := gm_law18_EpochRises) tyOk mixed ?_
        conv => whnf
        refine fin_here ?_
        conv => whnf
        obtain rfl := Option.some.inj h
        rfl
noncomputable def law18_EpochApart (d : Disk) (name : Str) : Option (Bool) :=
  law18_shown.bind fun y1 =>
  if ((decide (name = [101])) || (decide (name = [110, 46, 101]))) then
    some y1
  else
    (epoch_Next d).bind fun y15 =>
    (ref03_Find d name).bind fun y17 =>
    (ref03_Find y15.1 name).bind fun y19 =>
    if y1 then
      if (decide (y17.1 = y19.1)) then
        some (y17.2 == y19.2)
      else
        some false
    else
      some false
def gm_law18_EpochApart : Gm := ⟨tys, [], [], []⟩
theorem law18_EpochApart_walk (d : Disk) (name : Str) (r : Bool) (h : law18_EpochApart d name = some r) : PureP Try.prog 7 [.agg [.sl (List.map encFile d.Files), .v (.int .i64 d.Room), .v (.int .i64 d.Fuse), .v (.bool d.Off)], .v (.string (bs name))] (fun a => a = .v (.bool r)) := by
  unfold law18_EpochApart at h
  refine pureW (G := gm_law18_EpochApart) tyOk Try.func7 rfl (by kernel_rfl) (by simp [Try.f7]) ?_
  refine Tri.seqK ?_
  refine Tri.run (G := gm_law18_EpochApart) tyOk mixed ?_
  conv => whnf
  refine Tri.seqK ?_
  refine Tri.run (G := gm_law18_EpochApart) tyOk mixed ?_
  conv => whnf
  replace h := bind_some h
  obtain ⟨y1, q2, h⟩ := h
  refine PureP.mono (law18_shown_walk y1 q2) ?_
  rintro _ rfl
  conv => whnf
  refine Tri.seqK ?_
  refine Tri.seqK ?_
  refine Tri.cut (fun ex S' => ex = .normal ∧ Weak S' ⟨50, 0, ofRegs [(1, .v (.string (bs name))), (2, .ptr 0 0), (5, .v (.bool y1)), (19, .v (.bool ((decide (name = [101])) || (decide (name = [110, 46, 101])))))], [.var 24 [.sl (List.map encFile d.Files), .v (.int .i64 d.Room), .v (.int .i64 d.Fuse), .v (.bool d.Off)]]⟩) ?_ ?_
  · refine Tri.run (G := gm_law18_EpochApart) tyOk mixed ?_
    conv => whnf
    refine ⟨⟨(decide (name = [101])), bs_eq _ _, ?_⟩⟩
    conv => whnf
    refine cond_mk (fun c12 => ?_) (fun c12 => ?_)
    · replace c12 : (decide (name = [101])) = true := c12
      conv => whnf
      exact ⟨rfl, weak_fin _ rfl rfl rfl (.cons (.same rfl) (LeH.rest)) (.cons (.one (.same rfl)) (.cons (.one (.same rfl)) (.cons (.one (.same rfl)) (.cons (.one (.same (show (.v (.bool true) : AV) = (.v (.bool ((decide (name = [101])) || (decide (name = [110, 46, 101])))) : AV) from by first | (simp [c12]; done) | simp only [c12, Bool.or_true, Bool.true_or, Bool.false_or, Bool.or_false, Bool.and_true, Bool.true_and, Bool.and_false, Bool.false_and, Bool.not_true, Bool.not_false, if_true, if_false, Bool.false_eq_true]))) (.nil))))) rfl rfl⟩
    · replace c12 : (decide (name = [101])) = false := c12
      conv => whnf
      refine ⟨⟨(decide (name = [110, 46, 101])), bs_eq _ _, ?_⟩⟩
      conv => whnf
      exact ⟨rfl, weak_fin _ rfl rfl rfl (.cons (.same rfl) (LeH.rest)) (.cons (.one (.same rfl)) (.cons (.one (.same rfl)) (.cons (.one (.same rfl)) (.cons (.one (.same (show (.v (.bool (decide (name = [110, 46, 101]))) : AV) = (.v (.bool ((decide (name = [101])) || (decide (name = [110, 46, 101])))) : AV) from by first | (simp [c12]; done) | simp only [c12, Bool.or_true, Bool.true_or, Bool.false_or, Bool.or_false, Bool.and_true, Bool.true_and, Bool.and_false, Bool.false_and, Bool.not_true, Bool.not_false, if_true, if_false, Bool.false_eq_true]))) (.nil))))) rfl rfl⟩
  · rintro ex S' ⟨rfl, w13⟩
    conv => whnf
    refine Tri.weak w13 ?_
    refine Tri.cond rfl (fun c14 => ?_) (fun c14 => ?_)
    · replace h := if_t c14 h
      refine Tri.seqK ?_
      refine Tri.run (G := gm_law18_EpochApart) tyOk mixed ?_
      conv => whnf
      refine Tri.run (G := gm_law18_EpochApart) tyOk mixed ?_
      conv => whnf
      refine fin_here ?_
      conv => whnf
      obtain rfl := Option.some.inj h
      rfl
    · replace h := if_f c14 h
      refine Tri.run (G := gm_law18_EpochApart) tyOk mixed ?_
      conv => whnf
      refine Tri.seqK ?_
      refine Tri.run (G := gm_law18_EpochApart) tyOk mixed ?_
      conv => whnf
      replace h := bind_some h
      obtain ⟨y15, q16, h⟩ := h
      refine PureP.mono (epoch_Next_walk d y15 q16) ?_
      rintro _ rfl
      conv => whnf
      refine Tri.seqK ?_
      refine Tri.run (G := gm_law18_EpochApart) tyOk mixed ?_
      conv => whnf
      replace h := bind_some h
      obtain ⟨y17, q18, h⟩ := h
      refine PureP.mono (ref03_Find_walk d name y17 q18) ?_
      rintro _ rfl
      conv => whnf
      refine Tri.seqK ?_
      refine Tri.run (G := gm_law18_EpochApart) tyOk mixed ?_
      conv => whnf
      replace h := bind_some h
      obtain ⟨y19, q20, h⟩ := h
      refine PureP.mono (ref03_Find_walk y15.1 name y19 q20) ?_
      rintro _ rfl
      conv => whnf
      refine Tri.seqK ?_
      refine Tri.run (G := gm_law18_EpochApart) tyOk mixed ?_
      conv => whnf
      refine cond_mk (fun c21 => ?_) (fun c21 => ?_)
      · replace h := if_t c21 h
        conv => whnf
        refine ⟨⟨(decide (y17.1 = y19.1)), eq_File _ _, ?_⟩⟩
        conv => whnf
        refine cond_mk (fun c22 => ?_) (fun c22 => ?_)
        · replace h := if_t c22 h
          conv => whnf
          refine Tri.run (G := gm_law18_EpochApart) tyOk mixed ?_
          conv => whnf
          refine fin_here ?_
          conv => whnf
          obtain rfl := Option.some.inj h
          rfl
        · replace h := if_f c22 h
          conv => whnf
          refine Tri.run (G := gm_law18_EpochApart) tyOk mixed ?_
          conv => whnf
          refine fin_here ?_
          conv => whnf
          obtain rfl := Option.some.inj h
          rfl
      · replace h := if_f c21 h
        conv => whnf
        refine Tri.run (G := gm_law18_EpochApart) tyOk mixed ?_
        conv => whnf
        refine fin_here ?_
        conv => whnf
        obtain rfl := Option.some.inj h
        rfl
noncomputable def law18_EpochAdds_l2 (d : Disk) (a276 : Int) (a277 : Int) (a278 : Int) : Option ((Int × Int × Int) ⊕ (Int × Int)) :=
  if (decide (a278 < (d.Files.length : Int))) then
    (
      (
        (ix d.Files a278).bind fun x326 =>
        if (decide (x326.Name = [101])) then
          some (IntKind.i64.wrap (a276 + 1))
        else
          some a276).bind fun (y324 : Int) =>
      (ix d.Files a278).bind fun x330 =>
      if (decide (x330.Name = [110, 46, 101])) then
        some (y324, (IntKind.i64.wrap (a277 + 1)))
      else
        some (y324, a277)).bind fun (y316 : Int × Int) =>
    some (.inl (y316.1, y316.2, (IntKind.i64.wrap (a278 + 1))))
  else
    some (.inr (a276, a277))
noncomputable def law18_EpochAdds (d : Disk) : Option (Bool) :=
  law18_shown.bind fun y1 =>
  (epoch_Read d).bind fun y3 =>
  (epoch_Next d).bind fun y5 =>
  if (!(decide (y5.2.2 = 0))) then
    if y1 then
      some (decide (y5.2.1 = 0))
    else
      some false
  else
    (loop (fun (s281 : Int × Int × Int) => law18_EpochAdds_l2 d s281.1 s281.2.1 s281.2.2) ((0 : Int), (0 : Int), (0 : Int))).bind fun (y279 : Int × Int) =>
    if ((decide (y279.1 > 1)) || (decide (y279.2 > 1))) then
      some y1
    else
      (epoch_Read y5.1).bind fun y347 =>
      if y1 then
        if (decide (y3.2 = 0)) then
          if (decide (y347.2 = 0)) then
            if (decide (y347.1 = y5.2.1)) then
              some (decide (y5.2.1 = (IntKind.i64.wrap (y3.1 + 1))))
            else
              some false
          else
            some false
        else
          some false
      else
        some false
def gm_law18_EpochAdds : Gm := ⟨tys, [], [], []⟩
theorem law18_EpochAdds_walk (d : Disk) (r : Bool) (h : law18_EpochAdds d = some r) : PureP Try.prog 8 [.agg [.sl (List.map encFile d.Files), .v (.int .i64 d.Room), .v (.int .i64 d.Fuse), .v (.bool d.Off)]] (fun a => a = .v (.bool r)) := by
  unfold law18_EpochAdds at h
  refine pureW (G := gm_law18_EpochAdds) tyOk Try.func8 rfl (by kernel_rfl) (by simp [Try.f8]) ?_
  refine Tri.seqK ?_
  refine Tri.run (G := gm_law18_EpochAdds) tyOk mixed ?_
  conv => whnf
  refine Tri.seqK ?_
  refine Tri.run (G := gm_law18_EpochAdds) tyOk mixed ?_
  conv => whnf
  replace h := bind_some h
  obtain ⟨y1, q2, h⟩ := h
  refine PureP.mono (law18_shown_walk y1 q2) ?_
  rintro _ rfl
  conv => whnf
  refine Tri.seqK ?_
  refine Tri.run (G := gm_law18_EpochAdds) tyOk mixed ?_
  conv => whnf
  replace h := bind_some h
  obtain ⟨y3, q4, h⟩ := h
  refine PureP.mono (epoch_Read_walk d y3 q4) ?_
  rintro _ rfl
  conv => whnf
  refine Tri.seqK ?_
  refine Tri.run (G := gm_law18_EpochAdds) tyOk mixed ?_
  conv => whnf
  replace h := bind_some h
  obtain ⟨y5, q6, h⟩ := h
  refine PureP.mono (epoch_Next_walk d y5 q6) ?_
  rintro _ rfl
  conv => whnf
  refine Tri.seqK ?_
  refine Tri.seqK ?_
  refine Tri.run (G := gm_law18_EpochAdds) tyOk mixed ?_
  conv => whnf
  refine Tri.cond rfl (fun c9 => ?_) (fun c9 => ?_)
  · replace h := if_t c9 h
    refine Tri.seqK ?_
    refine Tri.run (G := gm_law18_EpochAdds) tyOk mixed ?_
    conv => whnf
    refine cond_mk (fun c10 => ?_) (fun c10 => ?_)
    · replace h := if_t c10 h
      conv => whnf
      refine Tri.run (G := gm_law18_EpochAdds) tyOk mixed ?_
      conv => whnf
      refine fin_here ?_
      conv => whnf
      obtain rfl := Option.some.inj h
      rfl
    · replace h := if_f c10 h
      conv => whnf
      refine Tri.run (G := gm_law18_EpochAdds) tyOk mixed ?_
      conv => whnf
      refine fin_here ?_
      conv => whnf
      obtain rfl := Option.some.inj h
      rfl
  · replace h := if_f c9 h
    refine Tri.run (G := gm_law18_EpochAdds) tyOk mixed ?_
    conv => whnf
    refine Tri.seqK ?_
    refine Tri.run (G := gm_law18_EpochAdds) tyOk mixed ?_
    conv => whnf
    refine Tri.seqK ?_
    refine Tri.run (G := gm_law18_EpochAdds) tyOk mixed ?_
    conv => whnf
    refine Tri.seqK ?_
    refine Tri.seqK ?_
    refine Tri.run (G := gm_law18_EpochAdds) tyOk mixed ?_
    conv => whnf
    refine Tri.block ?_
    replace h := bind_some h
    obtain ⟨y279, q280, h⟩ := h
    refine Tri.cut (fun ex S' => ex = (.exit 0) ∧ Weak S' ⟨90, 0, ofRegs [(3, .v (.bool y1)), (4, .v (.int .i64 y3.1)), (5, .v (.int .i64 y3.2)), (6, .ptr 1 0), (7, .v (.int .i64 y5.2.1)), (9, .v (.int .i64 y279.1)), (10, .v (.int .i64 y279.2))], [.gone, .var 24 [.sl (List.map encFile y5.1.Files), .v (.int .i64 y5.1.Room), .v (.int .i64 y5.1.Fuse), .v (.bool y5.1.Off)]]⟩) ?_ ?_
    · refine Tri.loopF (fun (s281 : Int × Int × Int) => (⟨90, 0, ofRegs [(1, .ptr 0 0), (3, .v (.bool y1)), (4, .v (.int .i64 y3.1)), (5, .v (.int .i64 y3.2)), (6, .ptr 1 0), (7, .v (.int .i64 y5.2.1)), (9, .v (.int .i64 s281.1)), (10, .v (.int .i64 s281.2.1)), (11, .v (.int .i64 s281.2.2))], [.var 24 [.sl (List.map encFile d.Files), .v (.int .i64 d.Room), .v (.int .i64 d.Fuse), .v (.bool d.Off)], .var 24 [.sl (List.map encFile y5.1.Files), .v (.int .i64 y5.1.Room), .v (.int .i64 y5.1.Fuse), .v (.bool y5.1.Off)]]⟩ : St)) q280 (weak_fin _ rfl rfl rfl (.cons (.same rfl) (.cons (.same rfl) (LeH.rest))) (.cons (.one (.same rfl)) (.cons (.one (.same rfl)) (.cons (.one (.same rfl)) (.cons (.one (.same rfl)) (.cons (.one (.same rfl)) (.cons (.one (.same rfl)) (.cons (.one (.same rfl)) (.cons (.one (.same rfl)) (.cons (.one (.same rfl)) (.nil)))))))))) rfl rfl) ?_
      rintro ⟨a276, a277, a278⟩ v282 hv r283
      have hv : law18_EpochAdds_l2 d a276 a277 a278 = some v282 := hv
      unfold law18_EpochAdds_l2 at hv
      dsimp only
      refine Tri.seqK ?_
      refine Tri.seqK ?_
      refine Tri.run (G := gm_law18_EpochAdds) tyOk mixed ?_
      conv => whnf
      refine ⟨⟨(d.Files.length : Int), (len_map _ _).symm, ?_⟩⟩
      conv => whnf
      refine Tri.cond rfl (fun c285 => ?_) (fun c285 => ?_)
      · replace hv := if_t c285 hv
        refine Tri.run (G := gm_law18_EpochAdds) tyOk mixed ?_
        conv => whnf
        refine Tri.seqK ?_
        replace hv := bind_some hv
        obtain ⟨y316, q317, hv⟩ := hv
        refine Tri.cut (fun ex S' => ex = .normal ∧ Weak S' ⟨90, 0, ofRegs [(1, .ptr 0 0), (3, .v (.bool y1)), (4, .v (.int .i64 y3.1)), (5, .v (.int .i64 y3.2)), (6, .ptr 1 0), (7, .v (.int .i64 y5.2.1)), (9, .v (.int .i64 y316.1)), (10, .v (.int .i64 y316.2)), (11, .v (.int .i64 a278))], [.var 24 [.sl (List.map encFile d.Files), .v (.int .i64 d.Room), .v (.int .i64 d.Fuse), .v (.bool d.Off)], .var 24 [.sl (List.map encFile y5.1.Files), .v (.int .i64 y5.1.Room), .v (.int .i64 y5.1.Fuse), .v (.bool y5.1.Off)]]⟩) ?_ ?_
        · refine Tri.block ?_
          refine Tri.seqK ?_
          replace q317 := bind_some q317
          obtain ⟨y324, q325, q317⟩ := q317
          refine Tri.cut (fun ex S' => ex = .normal ∧ Weak S' ⟨90, 0, ofRegs [(1, .ptr 0 0), (3, .v (.bool y1)), (4, .v (.int .i64 y3.1)), (5, .v (.int .i64 y3.2)), (6, .ptr 1 0), (7, .v (.int .i64 y5.2.1)), (9, .v (.int .i64 y324)), (10, .v (.int .i64 a277)), (11, .v (.int .i64 a278))], [.var 24 [.sl (List.map encFile d.Files), .v (.int .i64 d.Room), .v (.int .i64 d.Fuse), .v (.bool d.Off)], .var 24 [.sl (List.map encFile y5.1.Files), .v (.int .i64 y5.1.Room), .v (.int .i64 y5.1.Fuse), .v (.bool y5.1.Off)]]⟩) ?_ ?_
          · refine Tri.seqK ?_
            refine Tri.run (G := gm_law18_EpochAdds) tyOk mixed ?_
            conv => whnf
            replace q325 := bind_some q325
            obtain ⟨x326, q327, q325⟩ := q325
            refine ⟨(ix_some q327).1, ?_⟩
            conv => whnf
            refine ⟨⟨_, map_get encFile (ix_some q327).2, ?_⟩⟩
            conv => whnf
            refine ⟨rfl, ?_⟩
            conv => whnf
            refine ⟨⟨(decide (x326.Name = [101])), bs_eq _ _, ?_⟩⟩
            conv => whnf
            refine Tri.cond rfl (fun c328 => ?_) (fun c328 => ?_)
            · replace q325 := if_t c328 q325
              refine Tri.run (G := gm_law18_EpochAdds) tyOk mixed ?_
              conv => whnf
              obtain rfl := Option.some.inj q325
              exact ⟨rfl, weak_fin _ rfl rfl rfl (.cons (.same rfl) (.cons (.same rfl) (LeH.rest))) (.cons (.one (.same rfl)) (.cons (.one (.same rfl)) (.cons (.one (.same rfl)) (.cons (.one (.same rfl)) (.cons (.one (.same rfl)) (.cons (.one (.same rfl)) (.cons (.one (.same rfl)) (.cons (.one (.same rfl)) (.cons (.one (.same rfl)) (.nil)))))))))) rfl rfl⟩
            · replace q325 := if_f c328 q325
              refine Tri.run (G := gm_law18_EpochAdds) tyOk mixed ?_
              conv => whnf
              obtain rfl := Option.some.inj q325
              exact ⟨rfl, weak_fin _ rfl rfl rfl (.cons (.same rfl) (.cons (.same rfl) (LeH.rest))) (.cons (.one (.same rfl)) (.cons (.one (.same rfl)) (.cons (.one (.same rfl)) (.cons (.one (.same rfl)) (.cons (.one (.same rfl)) (.cons (.one (.same rfl)) (.cons (.one (.same rfl)) (.cons (.one (.same rfl)) (.cons (.one (.same rfl)) (.nil)))))))))) rfl rfl⟩
          · rintro ex S' ⟨rfl, w329⟩
            conv => whnf
            refine Tri.weak w329 ?_
            refine Tri.seqK ?_
            refine Tri.run (G := gm_law18_EpochAdds) tyOk mixed ?_
            conv => whnf
            replace q317 := bind_some q317
            obtain ⟨x330, q331, q317⟩ := q317
            refine ⟨(ix_some q331).1, ?_⟩
            conv => whnf
            refine ⟨⟨_, map_get encFile (ix_some q331).2, ?_⟩⟩
            conv => whnf
            refine ⟨rfl, ?_⟩
            conv => whnf
            refine ⟨⟨(decide (x330.Name = [110, 46, 101])), bs_eq _ _, ?_⟩⟩
            conv => whnf
            refine Tri.cond rfl (fun c332 => ?_) (fun c332 => ?_)
            · replace q317 := if_t c332 q317
              refine Tri.run (G := gm_law18_EpochAdds) tyOk mixed ?_
              conv => whnf
              obtain rfl := Option.some.inj q317
              exact ⟨rfl, weak_fin _ rfl rfl rfl (.cons (.same rfl) (.cons (.same rfl) (LeH.rest))) (.cons (.one (.same rfl)) (.cons (.one (.same rfl)) (.cons (.one (.same rfl)) (.cons (.one (.same rfl)) (.cons (.one (.same rfl)) (.cons (.one (.same rfl)) (.cons (.one (.same rfl)) (.cons (.one (.same rfl)) (.cons (.one (.same rfl)) (.nil)))))))))) rfl rfl⟩
            · replace q317 := if_f c332 q317
              refine Tri.run (G := gm_law18_EpochAdds) tyOk mixed ?_
              conv => whnf
              obtain rfl := Option.some.inj q317
              exact ⟨rfl, weak_fin _ rfl rfl rfl (.cons (.same rfl) (.cons (.same rfl) (LeH.rest))) (.cons (.one (.same rfl)) (.cons (.one (.same rfl)) (.cons (.one (.same rfl)) (.cons (.one (.same rfl)) (.cons (.one (.same rfl)) (.cons (.one (.same rfl)) (.cons (.one (.same rfl)) (.cons (.one (.same rfl)) (.cons (.one (.same rfl)) (.nil)))))))))) rfl rfl⟩
        · rintro ex S' ⟨rfl, w333⟩
          conv => whnf
          refine Tri.weak w333 ?_
          refine Tri.run (G := gm_law18_EpochAdds) tyOk mixed ?_
          conv => whnf
          obtain rfl := Option.some.inj hv
          exact ⟨_, rfl, weak_fin _ rfl rfl rfl (.cons (.same rfl) (.cons (.same rfl) (LeH.rest))) (.cons (.one (.same rfl)) (.cons (.one (.same rfl)) (.cons (.one (.same rfl)) (.cons (.one (.same rfl)) (.cons (.one (.same rfl)) (.cons (.one (.same rfl)) (.cons (.one (.same rfl)) (.cons (.one (.same rfl)) (.cons (.one (.same rfl)) (.nil)))))))))) rfl rfl⟩
      · replace hv := if_f c285 hv
        refine Tri.run (G := gm_law18_EpochAdds) tyOk mixed ?_
        conv => whnf
        obtain rfl := Option.some.inj hv
        obtain rfl := r283 _ rfl
        exact ⟨rfl, weak_fin _ rfl rfl rfl (.cons (.gone) (.cons (.same rfl) (LeH.rest))) (.cons (.one (.same rfl)) (.cons (.one (.same rfl)) (.cons (.one (.same rfl)) (.cons (.one (.same rfl)) (.cons (.one (.same rfl)) (.cons (.one (.same rfl)) (.cons (.one (.same rfl)) (.nil)))))))) rfl rfl⟩
    · rintro ex S' ⟨rfl, w334⟩
      conv => whnf
      refine Tri.weak w334 ?_
      refine Tri.seqK ?_
      refine Tri.seqK ?_
      refine Tri.cut (fun ex S' => ex = .normal ∧ Weak S' ⟨90, 0, ofRegs [(3, .v (.bool y1)), (4, .v (.int .i64 y3.1)), (5, .v (.int .i64 y3.2)), (6, .ptr 1 0), (7, .v (.int .i64 y5.2.1)), (63, .v (.bool ((decide (y279.1 > 1)) || (decide (y279.2 > 1)))))], [.gone, .var 24 [.sl (List.map encFile y5.1.Files), .v (.int .i64 y5.1.Room), .v (.int .i64 y5.1.Fuse), .v (.bool y5.1.Off)]]⟩) ?_ ?_
      · refine Tri.run (G := gm_law18_EpochAdds) tyOk mixed ?_
        conv => whnf
        refine cond_mk (fun c344 => ?_) (fun c344 => ?_)
        · replace c344 : (decide (y279.1 > 1)) = true := c344
          conv => whnf
          exact ⟨rfl, weak_fin _ rfl rfl rfl (.cons (.same rfl) (.cons (.same rfl) (LeH.rest))) (.cons (.one (.same rfl)) (.cons (.one (.same rfl)) (.cons (.one (.same rfl)) (.cons (.one (.same rfl)) (.cons (.one (.same rfl)) (.cons (.one (.same (show (.v (.bool true) : AV) = (.v (.bool ((decide (y279.1 > 1)) || (decide (y279.2 > 1)))) : AV) from by first | (simp [c344]; done) | simp only [c344, Bool.or_true, Bool.true_or, Bool.false_or, Bool.or_false, Bool.and_true, Bool.true_and, Bool.and_false, Bool.false_and, Bool.not_true, Bool.not_false, if_true, if_false, Bool.false_eq_true]))) (.nil))))))) rfl rfl⟩
        · replace c344 : (decide (y279.1 > 1)) = false := c344
          conv => whnf
          exact ⟨rfl, weak_fin _ rfl rfl rfl (.cons (.same rfl) (.cons (.same rfl) (LeH.rest))) (.cons (.one (.same rfl)) (.cons (.one (.same rfl)) (.cons (.one (.same rfl)) (.cons (.one (.same rfl)) (.cons (.one (.same rfl)) (.cons (.one (.same (show (.v (.bool (decide (y279.2 > 1))) : AV) = (.v (.bool ((decide (y279.1 > 1)) || (decide (y279.2 > 1)))) : AV) from by first | (simp [c344]; done) | simp only [c344, Bool.or_true, Bool.true_or, Bool.false_or, Bool.or_false, Bool.and_true, Bool.true_and, Bool.and_false, Bool.false_and, Bool.not_true, Bool.not_false, if_true, if_false, Bool.false_eq_true]))) (.nil))))))) rfl rfl⟩
      · rintro ex S' ⟨rfl, w345⟩
        conv => whnf
        refine Tri.weak w345 ?_
        refine Tri.cond rfl (fun c346 => ?_) (fun c346 => ?_)
        · replace h := if_t c346 h
          refine Tri.seqK ?_
          refine Tri.run (G := gm_law18_EpochAdds) tyOk mixed ?_
          conv => whnf
          refine Tri.run (G := gm_law18_EpochAdds) tyOk mixed ?_
          conv => whnf
          refine fin_here ?_
          conv => whnf
          obtain rfl := Option.some.inj h
          rfl
        · replace h := if_f c346 h
          refine Tri.run (G := gm_law18_EpochAdds) tyOk mixed ?_
          conv => whnf
          refine Tri.seqK ?_
          refine Tri.run (G := gm_law18_EpochAdds) tyOk mixed ?_
          conv => whnf
          replace h := bind_some h
          obtain ⟨y347, q348, h⟩ := h
          refine PureP.mono (epoch_Read_walk y5.1 y347 q348) ?_
          rintro _ rfl
          conv => whnf
          refine Tri.seqK ?_
          refine Tri.run (G := gm_law18_EpochAdds) tyOk mixed ?_
          conv => whnf
          refine cond_mk (fun c349 => ?_) (fun c349 => ?_)
          · replace h := if_t c349 h
            conv => whnf
            refine cond_mk (fun c350 => ?_) (fun c350 => ?_)
            · replace h := if_t c350 h
              conv => whnf
              refine cond_mk (fun c351 => ?_) (fun c351 => ?_)
              · replace h := if_t c351 h
                conv => whnf
                refine cond_mk (fun c352 => ?_) (fun c352 => ?_)
                · replace h := if_t c352 h
                  conv => whnf
                  refine Tri.run (G := gm_law18_EpochAdds) tyOk mixed ?_
                  conv => whnf
                  refine fin_here ?_
                  conv => whnf
                  obtain rfl := Option.some.inj h
                  rfl
                · replace h := if_f c352 h
                  conv => whnf
                  refine Tri.run (G := gm_law18_EpochAdds) tyOk mixed ?_
                  conv => whnf
                  refine fin_here ?_
                  conv => whnf
                  obtain rfl := Option.some.inj h
                  rfl
              · replace h := if_f c351 h
                conv => whnf
                refine Tri.run (G := gm_law18_EpochAdds) tyOk mixed ?_
                conv => whnf
                refine fin_here ?_
                conv => whnf
                obtain rfl := Option.some.inj h
                rfl
            · replace h := if_f c350 h
              conv => whnf
              refine Tri.run (G := gm_law18_EpochAdds) tyOk mixed ?_
              conv => whnf
              refine fin_here ?_
              conv => whnf
              obtain rfl := Option.some.inj h
              rfl
          · replace h := if_f c349 h
            conv => whnf
            refine Tri.run (G := gm_law18_EpochAdds) tyOk mixed ?_
            conv => whnf
            refine fin_here ?_
            conv => whnf
            obtain rfl := Option.some.inj h
            rfl
end Go.Ab
