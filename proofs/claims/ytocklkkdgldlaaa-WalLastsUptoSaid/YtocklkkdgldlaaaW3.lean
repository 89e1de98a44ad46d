/- The program's functions as plain Lean functions, and that the program comes to what they come to. Printed by a program of this session. -/
import Derived.Test.YtocklkkdgldlaaaW2
namespace Go.Ab
open Go.Proofs
set_option linter.unusedVariables false
set_option linter.unusedSimpArgs false
set_option maxRecDepth 100000
noncomputable def ref04_Put (d : Disk) (seg : Int) (rec : Str) : Option (Disk × Int × Int) :=
  if ((decide (seg < 1)) || (decide (seg > 1000000))) then
    some (d, seg, 1)
  else
    if (decide ((rec.length : Int) > 2048)) then
      some (d, seg, 4)
    else
      (ref04_Name seg).bind fun y19 =>
      (ref03_Read d y19).bind fun y21 =>
      (
        if (decide ((y21.1.length : Int) ≥ 256)) then
          (ref04_Name seg).bind fun y92 =>
          (ref03_Sync d y92).bind fun y94 =>
          if (!(decide (y94.2 = 0))) then
            some (.inr (y94.2, y94.1.Files, y94.1.Room, y94.1.Fuse, y94.1.Off))
          else
            if (decide (seg = 1000000)) then
              some (.inr (5, y94.1.Files, y94.1.Room, y94.1.Fuse, y94.1.Off))
            else
              some (.inl ((IntKind.i64.wrap (seg + 1)), y94.1.Files, y94.1.Room, y94.1.Fuse, y94.1.Off))
        else
          some (.inl (seg, d.Files, d.Room, d.Fuse, d.Off))).bind fun (y77 : (Int × (List File) × Int × Int × Bool) ⊕ (Int × (List File) × Int × Int × Bool)) =>
      match y77 with
      | (.inl v79) =>
        (ref04_Name v79.1).bind fun y127 =>
        (ref02_Seal rec).bind fun y129 =>
        (ref03_Append ({ Files := v79.2.1, Room := v79.2.2.1, Fuse := v79.2.2.2.1, Off := v79.2.2.2.2 } : Disk) y127 y129).bind fun y131 =>
        some (y131.1, v79.1, y131.2)
      | (.inr v80) =>
        some (({ Files := v80.2.1, Room := v80.2.2.1, Fuse := v80.2.2.2.1, Off := v80.2.2.2.2 } : Disk), seg, v80.1)
def gm_ref04_Put : Gm := ⟨tys, [], [], []⟩
theorem ref04_Put_walk (d : Disk) (seg : Int) (rec : Str) (r : Disk × Int × Int) (h : ref04_Put d seg rec = some r) : PureP Try.prog 18 [.agg [.sl (List.map encFile d.Files), .v (.int .i64 d.Room), .v (.int .i64 d.Fuse), .v (.bool d.Off)], .v (.int .i64 seg), .v (.string (bs rec))] (fun a => a = .tup [.agg [.sl (List.map encFile r.1.Files), .v (.int .i64 r.1.Room), .v (.int .i64 r.1.Fuse), .v (.bool r.1.Off)], .v (.int .i64 r.2.1), .v (.int .i64 r.2.2)]) := by
  unfold ref04_Put at h
  refine pureW (G := gm_ref04_Put) tyOk Try.func18 rfl (by kernel_rfl) (by simp [Try.f18]) ?_
  refine Tri.seqK ?_
  refine Tri.run (G := gm_ref04_Put) tyOk mixed ?_
  conv => whnf
  refine Tri.seqK ?_
  refine Tri.seqK ?_
  refine Tri.cut (fun ex S' => ex = .normal ∧ Weak S' ⟨69, 0, ofRegs [(1, .v (.int .i64 seg)), (2, .v (.string (bs rec))), (3, .ptr 0 0), (6, .ptr 1 0), (20, .v (.bool ((decide (seg < 1)) || (decide (seg > 1000000)))))], [.var 31 [.sl (List.map encFile d.Files), .v (.int .i64 d.Room), .v (.int .i64 d.Fuse), .v (.bool d.Off)], .var 31 [.v (.slice none 0 0), .v (.int .i64 0), .v (.int .i64 0), .v (.bool false)]]⟩) ?_ ?_
  · refine Tri.run (G := gm_ref04_Put) tyOk mixed ?_
    conv => whnf
    refine cond_mk (fun c10 => ?_) (fun c10 => ?_)
    · replace c10 : (decide (seg < 1)) = true := c10
      conv => whnf
      exact ⟨rfl, weak_fin _ rfl rfl rfl (.cons (.same rfl) (.cons (.same rfl) (LeH.rest))) (.cons (.one (.same rfl)) (.cons (.one (.same rfl)) (.cons (.one (.same rfl)) (.cons (.one (.same rfl)) (.cons (.one (.same (show (.v (.bool true) : AV) = (.v (.bool ((decide (seg < 1)) || (decide (seg > 1000000)))) : AV) from by first | (simp [c10]; done) | simp only [c10, Bool.or_true, Bool.true_or, Bool.false_or, Bool.or_false, Bool.and_true, Bool.true_and, Bool.and_false, Bool.false_and, Bool.not_true, Bool.not_false, if_true, if_false, Bool.false_eq_true]))) (.nil)))))) rfl rfl⟩
    · replace c10 : (decide (seg < 1)) = false := c10
      conv => whnf
      exact ⟨rfl, weak_fin _ rfl rfl rfl (.cons (.same rfl) (.cons (.same rfl) (LeH.rest))) (.cons (.one (.same rfl)) (.cons (.one (.same rfl)) (.cons (.one (.same rfl)) (.cons (.one (.same rfl)) (.cons (.one (.same (show (.v (.bool (decide (seg > 1000000))) : AV) = (.v (.bool ((decide (seg < 1)) || (decide (seg > 1000000)))) : AV) from by first | (simp [c10]; done) | simp only [c10, Bool.or_true, Bool.true_or, Bool.false_or, Bool.or_false, Bool.and_true, Bool.true_and, Bool.and_false, Bool.false_and, Bool.not_true, Bool.not_false, if_true, if_false, Bool.false_eq_true]))) (.nil)))))) rfl rfl⟩
  · rintro ex S' ⟨rfl, w11⟩
    conv => whnf
    refine Tri.weak w11 ?_
    refine Tri.cond rfl (fun c12 => ?_) (fun c12 => ?_)
    · replace h := if_t c12 h
      refine Tri.seqK ?_
      refine Tri.run (G := gm_ref04_Put) tyOk mixed ?_
      conv => whnf
      refine Tri.run (G := gm_ref04_Put) tyOk mixed ?_
      conv => whnf
      refine fin_here ?_
      conv => whnf
      obtain rfl := Option.some.inj h
      rfl
    · replace h := if_f c12 h
      refine Tri.run (G := gm_ref04_Put) tyOk mixed ?_
      conv => whnf
      refine Tri.seqK ?_
      refine Tri.seqK ?_
      refine Tri.run (G := gm_ref04_Put) tyOk mixed ?_
      conv => whnf
      refine ⟨⟨(rec.length : Int), rfl, ?_⟩⟩
      conv => whnf
      refine Tri.cond rfl (fun c14 => ?_) (fun c14 => ?_)
      · replace h := if_t c14 h
        refine Tri.seqK ?_
        refine Tri.run (G := gm_ref04_Put) tyOk mixed ?_
        conv => whnf
        refine Tri.run (G := gm_ref04_Put) tyOk mixed ?_
        conv => whnf
        refine fin_here ?_
        conv => whnf
        obtain rfl := Option.some.inj h
        rfl
      · replace h := if_f c14 h
        refine Tri.run (G := gm_ref04_Put) tyOk mixed ?_
        conv => whnf
        refine Tri.seqK ?_
        refine Tri.run (G := gm_ref04_Put) tyOk mixed ?_
        conv => whnf
        refine Draw.one 9 (.take 0 (.take 1 (.alt 2 (.alt 3 (.take 4 (.take 5 (.take 6 (.take 7 (.take 8 (.fin)))))) (.nil)) (.nil)))) [] (by kernel_rfl) ?_
        conv => whnf
        refine ⟨?_, ?_⟩
        · conv => whnf
          replace h := bind_some h
          obtain ⟨y19, q20, h⟩ := h
          refine PureP.mono (ref04_Name_walk seg y19 q20) ?_
          rintro _ rfl
          conv => whnf
          refine ⟨?_, ?_⟩
          · conv => whnf
            replace h := bind_some h
            obtain ⟨y21, q22, h⟩ := h
            refine PureP.mono (ref03_Read_walk d y19 y21 q22) ?_
            rintro _ rfl
            conv => whnf
            refine Tri.seqK ?_
            replace h := bind_some h
            obtain ⟨y77, q78, h⟩ := h
            refine Tri.cut (fun ex S' => (∃ v79 : Int × (List File) × Int × Int × Bool, y77 = (.inl v79) ∧ ex = .normal ∧ Weak S' ⟨69, 0, ofRegs [(1, .v (.int .i64 v79.1)), (2, .v (.string (bs rec))), (3, .ptr 0 0), (6, .ptr 1 0)], [.var 31 [.sl (List.map encFile v79.2.1), .v (.int .i64 v79.2.2.1), .v (.int .i64 v79.2.2.2.1), .v (.bool v79.2.2.2.2)], .var 31 [.v (.slice none 0 0), .v (.int .i64 0), .v (.int .i64 0), .v (.bool false)]]⟩) ∨ (∃ v80 : Int × (List File) × Int × Int × Bool, y77 = (.inr v80) ∧ ex = .ret ∧ Weak S' ⟨69, 0, ofRegs [(6, .ptr 1 0), (7, .v (.int .i64 seg)), (8, .v (.int .i64 v80.1))], [.gone, .var 31 [.sl (List.map encFile v80.2.1), .v (.int .i64 v80.2.2.1), .v (.int .i64 v80.2.2.2.1), .v (.bool v80.2.2.2.2)]]⟩)) ?_ ?_
            · refine Tri.seqK ?_
              refine Tri.run (G := gm_ref04_Put) tyOk mixed ?_
              conv => whnf
              refine ⟨⟨(y21.1.length : Int), rfl, ?_⟩⟩
              conv => whnf
              refine Tri.cond rfl (fun c81 => ?_) (fun c81 => ?_)
              · replace q78 := if_t c81 q78
                refine Tri.seqK ?_
                refine Tri.run (G := gm_ref04_Put) tyOk mixed ?_
                conv => whnf
                replace q78 := bind_some q78
                obtain ⟨y92, q102, q78⟩ := q78
                replace q78 := bind_some q78
                obtain ⟨y94, q103, q78⟩ := q78
                refine Draw.many 9 (.take 0 (.take 1 (.alt 2 (.alt 3 (.take 4 (.take 5 (.take 6 (.alt 7 (.alt 8 (.fin) (.nil)) (.nil))))) (.alt 7 (.alt 3 (.take 4 (.take 5 (.take 6 (.alt 8 (.fin) (.nil))))) (.nil)) (.nil))) (.alt 7 (.alt 2 (.alt 3 (.take 4 (.take 5 (.take 6 (.alt 8 (.fin) (.nil))))) (.nil)) (.nil)) (.nil))))) [2, 3, 4, 5, 6, 7] (⟨69, 0, ofRegs [(1, .v (.int .i64 seg)), (2, .v (.string (bs rec))), (3, .ptr 0 0), (6, .ptr 1 0), (11, .ptr 2 0), (44, .v (.int .i64 y94.2))], [.var 31 [.sl (List.map encFile d.Files), .v (.int .i64 d.Room), .v (.int .i64 d.Fuse), .v (.bool d.Off)], .var 31 [.v (.slice none 0 0), .v (.int .i64 0), .v (.int .i64 0), .v (.bool false)], .var 31 [.sl (List.map encFile y94.1.Files), .v (.int .i64 y94.1.Room), .v (.int .i64 y94.1.Fuse), .v (.bool y94.1.Off)]]⟩) (by kernel_rfl) ?_ ?_
                · conv => whnf
                  refine ⟨?_, ?_⟩
                  · conv => whnf
                    refine PureP.mono (ref04_Name_walk seg y92 q102) ?_
                    rintro _ rfl
                    conv => whnf
                    refine ⟨?_, ?_⟩
                    · conv => whnf
                      refine PureP.mono (ref03_Sync_walk d y92 y94 q103) ?_
                      rintro _ rfl
                      conv => whnf
                      refine ⟨?_, ?_⟩
                      · conv => whnf
                        refine ⟨?_, ?_⟩
                        · conv => whnf
                          exact weak_fin _ rfl rfl rfl (.cons (.same rfl) (.cons (.same rfl) (.cons (.same rfl) (LeH.rest)))) (.cons (.one (.same rfl)) (.cons (.one (.same rfl)) (.cons (.one (.same rfl)) (.cons (.one (.same rfl)) (.cons (.one (.same rfl)) (.cons (.one (.same rfl)) (.nil))))))) rfl rfl
                        · conv => whnf
                          trivial
                      · conv => whnf
                        trivial
                    · conv => whnf
                      refine ⟨?_, ?_⟩
                      · conv => whnf
                        refine ⟨?_, ?_⟩
                        · conv => whnf
                          refine PureP.mono (ref03_Sync_walk d y92 y94 q103) ?_
                          rintro _ rfl
                          conv => whnf
                          refine ⟨?_, ?_⟩
                          · conv => whnf
                            exact weak_fin _ rfl rfl rfl (.cons (.same rfl) (.cons (.same rfl) (.cons (.same rfl) (LeH.rest)))) (.cons (.one (.same rfl)) (.cons (.one (.same rfl)) (.cons (.one (.same rfl)) (.cons (.one (.same rfl)) (.cons (.one (.same rfl)) (.cons (.one (.same rfl)) (.nil))))))) rfl rfl
                          · conv => whnf
                            trivial
                        · conv => whnf
                          trivial
                      · conv => whnf
                        trivial
                  · conv => whnf
                    refine ⟨?_, ?_⟩
                    · conv => whnf
                      refine ⟨?_, ?_⟩
                      · conv => whnf
                        refine PureP.mono (ref04_Name_walk seg y92 q102) ?_
                        rintro _ rfl
                        conv => whnf
                        refine ⟨?_, ?_⟩
                        · conv => whnf
                          refine PureP.mono (ref03_Sync_walk d y92 y94 q103) ?_
                          rintro _ rfl
                          conv => whnf
                          refine ⟨?_, ?_⟩
                          · conv => whnf
                            exact weak_fin _ rfl rfl rfl (.cons (.same rfl) (.cons (.same rfl) (.cons (.same rfl) (LeH.rest)))) (.cons (.one (.same rfl)) (.cons (.one (.same rfl)) (.cons (.one (.same rfl)) (.cons (.one (.same rfl)) (.cons (.one (.same rfl)) (.cons (.one (.same rfl)) (.nil))))))) rfl rfl
                          · conv => whnf
                            trivial
                        · conv => whnf
                          trivial
                      · conv => whnf
                        trivial
                    · conv => whnf
                      trivial
                · conv => whnf
                  refine Tri.seqK ?_
                  refine Tri.seqK ?_
                  refine Tri.run (G := gm_ref04_Put) tyOk mixed ?_
                  conv => whnf
                  refine Tri.cond rfl (fun c105 => ?_) (fun c105 => ?_)
                  · replace q78 := if_t c105 q78
                    refine Tri.seqK ?_
                    refine Tri.run (G := gm_ref04_Put) tyOk mixed ?_
                    conv => whnf
                    refine Tri.run (G := gm_ref04_Put) tyOk mixed ?_
                    conv => whnf
                    obtain rfl := Option.some.inj q78
                    exact Or.inr (⟨_, rfl, rfl, weak_fin _ rfl rfl rfl (.cons (.gone) (.cons (.same rfl) (LeH.rest))) (.cons (.one (.same rfl)) (.cons (.one (.same rfl)) (.cons (.one (.same rfl)) (.nil)))) rfl rfl⟩)
                  · replace q78 := if_f c105 q78
                    refine Tri.run (G := gm_ref04_Put) tyOk mixed ?_
                    conv => whnf
                    refine Tri.seqK ?_
                    refine Tri.seqK ?_
                    refine Tri.run (G := gm_ref04_Put) tyOk mixed ?_
                    conv => whnf
                    refine Tri.cond rfl (fun c107 => ?_) (fun c107 => ?_)
                    · replace q78 := if_t c107 q78
                      refine Tri.seqK ?_
                      refine Tri.run (G := gm_ref04_Put) tyOk mixed ?_
                      conv => whnf
                      refine Tri.run (G := gm_ref04_Put) tyOk mixed ?_
                      conv => whnf
                      obtain rfl := Option.some.inj q78
                      exact Or.inr (⟨_, rfl, rfl, weak_fin _ rfl rfl rfl (.cons (.gone) (.cons (.same rfl) (LeH.rest))) (.cons (.one (.same rfl)) (.cons (.one (.same rfl)) (.cons (.one (.same rfl)) (.nil)))) rfl rfl⟩)
                    · replace q78 := if_f c107 q78
                      refine Tri.run (G := gm_ref04_Put) tyOk mixed ?_
                      conv => whnf
                      refine Tri.seqK ?_
                      refine Tri.run (G := gm_ref04_Put) tyOk mixed ?_
                      conv => whnf
                      refine Tri.run (G := gm_ref04_Put) tyOk mixed ?_
                      conv => whnf
                      obtain rfl := Option.some.inj q78
                      exact Or.inl ⟨_, rfl, rfl, weak_fin _ rfl rfl rfl (.cons (.same rfl) (.cons (.same rfl) (LeH.rest))) (.cons (.one (.same rfl)) (.cons (.one (.same rfl)) (.cons (.one (.same rfl)) (.cons (.one (.same rfl)) (.nil))))) rfl rfl⟩
              · replace q78 := if_f c81 q78
                refine Tri.run (G := gm_ref04_Put) tyOk mixed ?_
                conv => whnf
                obtain rfl := Option.some.inj q78
                exact Or.inl ⟨_, rfl, rfl, weak_fin _ rfl rfl rfl (.cons (.same rfl) (.cons (.same rfl) (LeH.rest))) (.cons (.one (.same rfl)) (.cons (.one (.same rfl)) (.cons (.one (.same rfl)) (.cons (.one (.same rfl)) (.nil))))) rfl rfl⟩
            · rintro ex S' (⟨v79, rfl, rfl, w108⟩ | ⟨v80, rfl, rfl, w108⟩)
              · dsimp only at h
                conv => whnf
                refine Tri.weak w108 ?_
                refine Tri.seqK ?_
                refine Tri.run (G := gm_ref04_Put) tyOk mixed ?_
                conv => whnf
                replace h := bind_some h
                obtain ⟨y127, q145, h⟩ := h
                replace h := bind_some h
                obtain ⟨y129, q146, h⟩ := h
                replace h := bind_some h
                obtain ⟨y131, q147, h⟩ := h
                refine Draw.many 11 (.take 0 (.take 1 (.take 3 (.alt 2 (.alt 4 (.alt 5 (.take 6 (.take 7 (.take 8 (.alt 9 (.alt 10 (.fin) (.nil)) (.nil))))) (.alt 9 (.alt 5 (.take 6 (.take 7 (.take 8 (.alt 10 (.fin) (.nil))))) (.nil)) (.nil))) (.alt 9 (.alt 4 (.alt 5 (.take 6 (.take 7 (.take 8 (.alt 10 (.fin) (.nil))))) (.nil)) (.nil)) (.nil))) (.alt 9 (.alt 2 (.alt 4 (.alt 5 (.take 6 (.take 7 (.take 8 (.alt 10 (.fin) (.nil))))) (.nil)) (.nil)) (.nil)) (.nil)))))) [2, 3, 4, 5, 6, 7] (⟨69, 0, ofRegs [(1, .v (.int .i64 v79.1)), (6, .ptr 1 0), (13, .ptr 2 0), (65, .v (.int .i64 y131.2))], [.var 31 [.sl (List.map encFile v79.2.1), .v (.int .i64 v79.2.2.1), .v (.int .i64 v79.2.2.2.1), .v (.bool v79.2.2.2.2)], .var 31 [.v (.slice none 0 0), .v (.int .i64 0), .v (.int .i64 0), .v (.bool false)], .var 31 [.sl (List.map encFile y131.1.Files), .v (.int .i64 y131.1.Room), .v (.int .i64 y131.1.Fuse), .v (.bool y131.1.Off)]]⟩) (by kernel_rfl) ?_ ?_
                · conv => whnf
                  refine ⟨?_, ?_⟩
                  · conv => whnf
                    refine PureP.mono (ref04_Name_walk v79.1 y127 q145) ?_
                    rintro _ rfl
                    conv => whnf
                    refine ⟨?_, ?_⟩
                    · conv => whnf
                      refine PureP.mono (ref02_Seal_walk rec y129 q146) ?_
                      rintro _ rfl
                      conv => whnf
                      refine ⟨?_, ?_⟩
                      · conv => whnf
                        refine PureP.mono (ref03_Append_walk ({ Files := v79.2.1, Room := v79.2.2.1, Fuse := v79.2.2.2.1, Off := v79.2.2.2.2 } : Disk) y127 y129 y131 q147) ?_
                        rintro _ rfl
                        conv => whnf
                        refine ⟨?_, ?_⟩
                        · conv => whnf
                          refine ⟨?_, ?_⟩
                          · conv => whnf
                            exact weak_fin _ rfl rfl rfl (.cons (.same rfl) (.cons (.same rfl) (.cons (.same rfl) (LeH.rest)))) (.cons (.one (.same rfl)) (.cons (.one (.same rfl)) (.cons (.one (.same rfl)) (.cons (.one (.same rfl)) (.nil))))) rfl rfl
                          · conv => whnf
                            trivial
                        · conv => whnf
                          trivial
                      · conv => whnf
                        refine ⟨?_, ?_⟩
                        · conv => whnf
                          refine ⟨?_, ?_⟩
                          · conv => whnf
                            refine PureP.mono (ref03_Append_walk ({ Files := v79.2.1, Room := v79.2.2.1, Fuse := v79.2.2.2.1, Off := v79.2.2.2.2 } : Disk) y127 y129 y131 q147) ?_
                            rintro _ rfl
                            conv => whnf
                            refine ⟨?_, ?_⟩
                            · conv => whnf
                              exact weak_fin _ rfl rfl rfl (.cons (.same rfl) (.cons (.same rfl) (.cons (.same rfl) (LeH.rest)))) (.cons (.one (.same rfl)) (.cons (.one (.same rfl)) (.cons (.one (.same rfl)) (.cons (.one (.same rfl)) (.nil))))) rfl rfl
                            · conv => whnf
                              trivial
                          · conv => whnf
                            trivial
                        · conv => whnf
                          trivial
                    · conv => whnf
                      refine ⟨?_, ?_⟩
                      · conv => whnf
                        refine ⟨?_, ?_⟩
                        · conv => whnf
                          refine PureP.mono (ref02_Seal_walk rec y129 q146) ?_
                          rintro _ rfl
                          conv => whnf
                          refine ⟨?_, ?_⟩
                          · conv => whnf
                            refine PureP.mono (ref03_Append_walk ({ Files := v79.2.1, Room := v79.2.2.1, Fuse := v79.2.2.2.1, Off := v79.2.2.2.2 } : Disk) y127 y129 y131 q147) ?_
                            rintro _ rfl
                            conv => whnf
                            refine ⟨?_, ?_⟩
                            · conv => whnf
                              exact weak_fin _ rfl rfl rfl (.cons (.same rfl) (.cons (.same rfl) (.cons (.same rfl) (LeH.rest)))) (.cons (.one (.same rfl)) (.cons (.one (.same rfl)) (.cons (.one (.same rfl)) (.cons (.one (.same rfl)) (.nil))))) rfl rfl
                            · conv => whnf
                              trivial
                          · conv => whnf
                            trivial
                        · conv => whnf
                          trivial
                      · conv => whnf
                        trivial
                  · conv => whnf
                    refine ⟨?_, ?_⟩
                    · conv => whnf
                      refine ⟨?_, ?_⟩
                      · conv => whnf
                        refine PureP.mono (ref04_Name_walk v79.1 y127 q145) ?_
                        rintro _ rfl
                        conv => whnf
                        refine ⟨?_, ?_⟩
                        · conv => whnf
                          refine PureP.mono (ref02_Seal_walk rec y129 q146) ?_
                          rintro _ rfl
                          conv => whnf
                          refine ⟨?_, ?_⟩
                          · conv => whnf
                            refine PureP.mono (ref03_Append_walk ({ Files := v79.2.1, Room := v79.2.2.1, Fuse := v79.2.2.2.1, Off := v79.2.2.2.2 } : Disk) y127 y129 y131 q147) ?_
                            rintro _ rfl
                            conv => whnf
                            refine ⟨?_, ?_⟩
                            · conv => whnf
                              exact weak_fin _ rfl rfl rfl (.cons (.same rfl) (.cons (.same rfl) (.cons (.same rfl) (LeH.rest)))) (.cons (.one (.same rfl)) (.cons (.one (.same rfl)) (.cons (.one (.same rfl)) (.cons (.one (.same rfl)) (.nil))))) rfl rfl
                            · conv => whnf
                              trivial
                          · conv => whnf
                            trivial
                        · conv => whnf
                          trivial
                      · conv => whnf
                        trivial
                    · conv => whnf
                      trivial
                · conv => whnf
                  refine Tri.seqK ?_
                  refine Tri.run (G := gm_ref04_Put) tyOk mixed ?_
                  conv => whnf
                  refine Tri.run (G := gm_ref04_Put) tyOk mixed ?_
                  conv => whnf
                  refine fin_here ?_
                  conv => whnf
                  obtain rfl := Option.some.inj h
                  rfl
              · dsimp only at h
                conv => whnf
                refine fin_pre w108 ?_
                conv => whnf
                obtain rfl := Option.some.inj h
                rfl
          · conv => whnf
            trivial
        · conv => whnf
          trivial
noncomputable def ref04_Sync (d : Disk) (seg : Int) : Option (Disk × Int) :=
  (ref04_Name seg).bind fun y11 =>
  (ref03_Find d y11).bind fun y13 =>
  if (!y13.2) then
    some (d, 0)
  else
    (ref03_Sync d y11).bind fun y27 =>
    some (y27.1, y27.2)
def gm_ref04_Sync : Gm := ⟨tys, [], [], []⟩
theorem ref04_Sync_walk (d : Disk) (seg : Int) (r : Disk × Int) (h : ref04_Sync d seg = some r) : PureP Try.prog 20 [.agg [.sl (List.map encFile d.Files), .v (.int .i64 d.Room), .v (.int .i64 d.Fuse), .v (.bool d.Off)], .v (.int .i64 seg)] (fun a => a = .tup [.agg [.sl (List.map encFile r.1.Files), .v (.int .i64 r.1.Room), .v (.int .i64 r.1.Fuse), .v (.bool r.1.Off)], .v (.int .i64 r.2)]) := by
  unfold ref04_Sync at h
  refine pureW (G := gm_ref04_Sync) tyOk Try.func20 rfl (by kernel_rfl) (by simp [Try.f20]) ?_
  refine Tri.seqK ?_
  refine Tri.run (G := gm_ref04_Sync) tyOk mixed ?_
  conv => whnf
  refine Tri.seqK ?_
  refine Tri.run (G := gm_ref04_Sync) tyOk mixed ?_
  conv => whnf
  replace h := bind_some h
  obtain ⟨y11, q21, h⟩ := h
  replace h := bind_some h
  obtain ⟨y13, q22, h⟩ := h
  refine Draw.many 9 (.take 0 (.take 1 (.alt 2 (.alt 3 (.take 4 (.take 5 (.take 6 (.alt 7 (.alt 8 (.fin) (.nil)) (.nil))))) (.alt 7 (.alt 3 (.take 4 (.take 5 (.take 6 (.alt 8 (.fin) (.nil))))) (.nil)) (.nil))) (.alt 7 (.alt 2 (.alt 3 (.take 4 (.take 5 (.take 6 (.alt 8 (.fin) (.nil))))) (.nil)) (.nil)) (.nil))))) [2, 3, 4, 5, 6, 7] (⟨24, 0, ofRegs [(1, .v (.int .i64 seg)), (2, .ptr 0 0), (4, .ptr 1 0), (14, .v (.bool y13.2))], [.var 31 [.sl (List.map encFile d.Files), .v (.int .i64 d.Room), .v (.int .i64 d.Fuse), .v (.bool d.Off)], .var 31 [.v (.slice none 0 0), .v (.int .i64 0), .v (.int .i64 0), .v (.bool false)]]⟩) (by kernel_rfl) ?_ ?_
  · conv => whnf
    refine ⟨?_, ?_⟩
    · conv => whnf
      refine PureP.mono (ref04_Name_walk seg y11 q21) ?_
      rintro _ rfl
      conv => whnf
      refine ⟨?_, ?_⟩
      · conv => whnf
        refine PureP.mono (ref03_Find_walk d y11 y13 q22) ?_
        rintro _ rfl
        conv => whnf
        refine ⟨?_, ?_⟩
        · conv => whnf
          refine ⟨?_, ?_⟩
          · conv => whnf
            exact weak_fin _ rfl rfl rfl (.cons (.same rfl) (.cons (.same rfl) (LeH.rest))) (.cons (.one (.same rfl)) (.cons (.one (.same rfl)) (.cons (.one (.same rfl)) (.cons (.one (.same rfl)) (.nil))))) rfl rfl
          · conv => whnf
            trivial
        · conv => whnf
          trivial
      · conv => whnf
        refine ⟨?_, ?_⟩
        · conv => whnf
          refine ⟨?_, ?_⟩
          · conv => whnf
            refine PureP.mono (ref03_Find_walk d y11 y13 q22) ?_
            rintro _ rfl
            conv => whnf
            refine ⟨?_, ?_⟩
            · conv => whnf
              exact weak_fin _ rfl rfl rfl (.cons (.same rfl) (.cons (.same rfl) (LeH.rest))) (.cons (.one (.same rfl)) (.cons (.one (.same rfl)) (.cons (.one (.same rfl)) (.cons (.one (.same rfl)) (.nil))))) rfl rfl
            · conv => whnf
              trivial
          · conv => whnf
            trivial
        · conv => whnf
          trivial
    · conv => whnf
      refine ⟨?_, ?_⟩
      · conv => whnf
        refine ⟨?_, ?_⟩
        · conv => whnf
          refine PureP.mono (ref04_Name_walk seg y11 q21) ?_
          rintro _ rfl
          conv => whnf
          refine ⟨?_, ?_⟩
          · conv => whnf
            refine PureP.mono (ref03_Find_walk d y11 y13 q22) ?_
            rintro _ rfl
            conv => whnf
            refine ⟨?_, ?_⟩
            · conv => whnf
              exact weak_fin _ rfl rfl rfl (.cons (.same rfl) (.cons (.same rfl) (LeH.rest))) (.cons (.one (.same rfl)) (.cons (.one (.same rfl)) (.cons (.one (.same rfl)) (.cons (.one (.same rfl)) (.nil))))) rfl rfl
            · conv => whnf
              trivial
          · conv => whnf
            trivial
        · conv => whnf
          trivial
      · conv => whnf
        trivial
  · conv => whnf
    refine Tri.seqK ?_
    refine Tri.seqK ?_
    refine Tri.run (G := gm_ref04_Sync) tyOk mixed ?_
    conv => whnf
    refine Tri.cond rfl (fun c24 => ?_) (fun c24 => ?_)
    · replace h := if_t c24 h
      refine Tri.seqK ?_
      refine Tri.run (G := gm_ref04_Sync) tyOk mixed ?_
      conv => whnf
      refine Tri.run (G := gm_ref04_Sync) tyOk mixed ?_
      conv => whnf
      refine fin_here ?_
      conv => whnf
      obtain rfl := Option.some.inj h
      rfl
    · replace h := if_f c24 h
      refine Tri.run (G := gm_ref04_Sync) tyOk mixed ?_
      conv => whnf
      refine Tri.seqK ?_
      refine Tri.run (G := gm_ref04_Sync) tyOk mixed ?_
      conv => whnf
      refine Draw.one 6 (.take 0 (.take 1 (.alt 2 (.alt 3 (.take 4 (.take 5 (.fin))) (.nil)) (.nil)))) [] (by kernel_rfl) ?_
      conv => whnf
      refine ⟨?_, ?_⟩
      · conv => whnf
        refine PureP.mono (ref04_Name_walk seg y11 q21) ?_
        rintro _ rfl
        conv => whnf
        refine ⟨?_, ?_⟩
        · conv => whnf
          replace h := bind_some h
          obtain ⟨y27, q28, h⟩ := h
          refine PureP.mono (ref03_Sync_walk d y11 y27 q28) ?_
          rintro _ rfl
          conv => whnf
          refine Tri.run (G := gm_ref04_Sync) tyOk mixed ?_
          conv => whnf
          refine fin_here ?_
          conv => whnf
          obtain rfl := Option.some.inj h
          rfl
        · conv => whnf
          trivial
      · conv => whnf
        trivial
noncomputable def ref03_Same_l2 (a : Disk) (b : Disk) (a140 : Int) : Option ((Int) ⊕ ((Unit) ⊕ (Unit))) :=
  if (decide (a140 < (a.Files.length : Int))) then
    (ix a.Files a140).bind fun x163 =>
    (ix b.Files a140).bind fun x165 =>
    if (!(decide (x163 = x165))) then
      some (.inr (.inl ()))
    else
      some (.inl (IntKind.i64.wrap (a140 + 1)))
  else
    some (.inr (.inr ()))
noncomputable def ref03_Same (a : Disk) (b : Disk) : Option (Bool) :=
  if ((!(decide (a.Room = b.Room))) || ((!(decide (a.Fuse = b.Fuse))) || ((!(a.Off == b.Off)) || (!(decide ((a.Files.length : Int) = (b.Files.length : Int))))))) then
    some false
  else
    (loop (fun (s145 : Int) => ref03_Same_l2 a b s145) (0 : Int)).bind fun (y141 : (Unit) ⊕ (Unit)) =>
    match y141 with
    | (.inl v143) =>
      some false
    | (.inr v144) =>
      some true
def gm_ref03_Same : Gm := ⟨tys, [], [], []⟩
theorem ref03_Same_walk (a : Disk) (b : Disk) (r : Bool) (h : ref03_Same a b = some r) : PureP Try.prog 21 [.agg [.sl (List.map encFile a.Files), .v (.int .i64 a.Room), .v (.int .i64 a.Fuse), .v (.bool a.Off)], .agg [.sl (List.map encFile b.Files), .v (.int .i64 b.Room), .v (.int .i64 b.Fuse), .v (.bool b.Off)]] (fun a => a = .v (.bool r)) := by
  unfold ref03_Same at h
  refine pureW (G := gm_ref03_Same) tyOk Try.func21 rfl (by kernel_rfl) (by simp [Try.f21]) ?_
  refine Tri.seqK ?_
  refine Tri.run (G := gm_ref03_Same) tyOk mixed ?_
  conv => whnf
  refine Tri.seqK ?_
  refine Tri.seqK ?_
  refine Tri.cut (fun ex S' => ex = .normal ∧ Weak S' ⟨52, 0, ofRegs [(2, .ptr 0 0), (3, .ptr 1 0), (33, .v (.bool ((!(decide (a.Room = b.Room))) || ((!(decide (a.Fuse = b.Fuse))) || ((!(a.Off == b.Off)) || (!(decide ((a.Files.length : Int) = (b.Files.length : Int)))))))))], [.var 31 [.sl (List.map encFile a.Files), .v (.int .i64 a.Room), .v (.int .i64 a.Fuse), .v (.bool a.Off)], .var 31 [.sl (List.map encFile b.Files), .v (.int .i64 b.Room), .v (.int .i64 b.Fuse), .v (.bool b.Off)]]⟩) ?_ ?_
  · refine Tri.run (G := gm_ref03_Same) tyOk mixed ?_
    conv => whnf
    refine cond_mk (fun c24 => ?_) (fun c24 => ?_)
    · replace c24 : (!(decide (a.Room = b.Room))) = true := c24
      conv => whnf
      exact ⟨rfl, weak_fin _ rfl rfl rfl (.cons (.same rfl) (.cons (.same rfl) (LeH.rest))) (.cons (.one (.same rfl)) (.cons (.one (.same rfl)) (.cons (.one (.same (show (.v (.bool true) : AV) = (.v (.bool ((!(decide (a.Room = b.Room))) || ((!(decide (a.Fuse = b.Fuse))) || ((!(a.Off == b.Off)) || (!(decide ((a.Files.length : Int) = (b.Files.length : Int)))))))) : AV) from by first | (simp [c24]; done) | simp only [c24, Bool.or_true, Bool.true_or, Bool.false_or, Bool.or_false, Bool.and_true, Bool.true_and, Bool.and_false, Bool.false_and, Bool.not_true, Bool.not_false, if_true, if_false, Bool.false_eq_true]))) (.nil)))) rfl rfl⟩
    · replace c24 : (!(decide (a.Room = b.Room))) = false := c24
      conv => whnf
      refine cond_mk (fun c25 => ?_) (fun c25 => ?_)
      · replace c25 : (!(decide (a.Fuse = b.Fuse))) = true := c25
        conv => whnf
        exact ⟨rfl, weak_fin _ rfl rfl rfl (.cons (.same rfl) (.cons (.same rfl) (LeH.rest))) (.cons (.one (.same rfl)) (.cons (.one (.same rfl)) (.cons (.one (.same (show (.v (.bool true) : AV) = (.v (.bool ((!(decide (a.Room = b.Room))) || ((!(decide (a.Fuse = b.Fuse))) || ((!(a.Off == b.Off)) || (!(decide ((a.Files.length : Int) = (b.Files.length : Int)))))))) : AV) from by first | (simp [c24, c25]; done) | simp only [c24, c25, Bool.or_true, Bool.true_or, Bool.false_or, Bool.or_false, Bool.and_true, Bool.true_and, Bool.and_false, Bool.false_and, Bool.not_true, Bool.not_false, if_true, if_false, Bool.false_eq_true]))) (.nil)))) rfl rfl⟩
      · replace c25 : (!(decide (a.Fuse = b.Fuse))) = false := c25
        conv => whnf
        refine cond_mk (fun c26 => ?_) (fun c26 => ?_)
        · replace c26 : (!(a.Off == b.Off)) = true := c26
          conv => whnf
          exact ⟨rfl, weak_fin _ rfl rfl rfl (.cons (.same rfl) (.cons (.same rfl) (LeH.rest))) (.cons (.one (.same rfl)) (.cons (.one (.same rfl)) (.cons (.one (.same (show (.v (.bool true) : AV) = (.v (.bool ((!(decide (a.Room = b.Room))) || ((!(decide (a.Fuse = b.Fuse))) || ((!(a.Off == b.Off)) || (!(decide ((a.Files.length : Int) = (b.Files.length : Int)))))))) : AV) from by first | (simp [c24, c25, c26]; done) | simp only [c24, c25, c26, Bool.or_true, Bool.true_or, Bool.false_or, Bool.or_false, Bool.and_true, Bool.true_and, Bool.and_false, Bool.false_and, Bool.not_true, Bool.not_false, if_true, if_false, Bool.false_eq_true]))) (.nil)))) rfl rfl⟩
        · replace c26 : (!(a.Off == b.Off)) = false := c26
          conv => whnf
          refine ⟨⟨(a.Files.length : Int), (len_map _ _).symm, ?_⟩⟩
          conv => whnf
          refine ⟨⟨(b.Files.length : Int), (len_map _ _).symm, ?_⟩⟩
          conv => whnf
          exact ⟨rfl, weak_fin _ rfl rfl rfl (.cons (.same rfl) (.cons (.same rfl) (LeH.rest))) (.cons (.one (.same rfl)) (.cons (.one (.same rfl)) (.cons (.one (.same (show (.v (.bool (!(decide ((a.Files.length : Int) = (b.Files.length : Int))))) : AV) = (.v (.bool ((!(decide (a.Room = b.Room))) || ((!(decide (a.Fuse = b.Fuse))) || ((!(a.Off == b.Off)) || (!(decide ((a.Files.length : Int) = (b.Files.length : Int)))))))) : AV) from by first | (simp [c24, c25, c26]; done) | simp only [c24, c25, c26, Bool.or_true, Bool.true_or, Bool.false_or, Bool.or_false, Bool.and_true, Bool.true_and, Bool.and_false, Bool.false_and, Bool.not_true, Bool.not_false, if_true, if_false, Bool.false_eq_true]))) (.nil)))) rfl rfl⟩
  · rintro ex S' ⟨rfl, w27⟩
    conv => whnf
    refine Tri.weak w27 ?_
    refine Tri.cond rfl (fun c28 => ?_) (fun c28 => ?_)
    · replace h := if_t c28 h
      refine Tri.seqK ?_
      refine Tri.run (G := gm_ref03_Same) tyOk mixed ?_
      conv => whnf
      refine Tri.run (G := gm_ref03_Same) tyOk mixed ?_
      conv => whnf
      refine fin_here ?_
      conv => whnf
      obtain rfl := Option.some.inj h
      rfl
    · replace h := if_f c28 h
      refine Tri.run (G := gm_ref03_Same) tyOk mixed ?_
      conv => whnf
      refine Tri.seqK ?_
      refine Tri.seqK ?_
      refine Tri.run (G := gm_ref03_Same) tyOk mixed ?_
      conv => whnf
      refine Tri.block ?_
      replace h := bind_some h
      obtain ⟨y141, q142, h⟩ := h
      refine Tri.cut (fun ex S' => (∃ v143 : Unit, y141 = (.inl v143) ∧ ex = .ret ∧ Weak S' ⟨52, 0, ofRegs [(4, .v (.bool false))], []⟩) ∨ (∃ v144 : Unit, y141 = (.inr v144) ∧ ex = (.exit 0) ∧ Weak S' ⟨52, 0, ofRegs [], []⟩)) ?_ ?_
      · refine Tri.loopF (fun (s145 : Int) => (⟨52, 0, ofRegs [(2, .ptr 0 0), (3, .ptr 1 0), (5, .v (.int .i64 s145))], [.var 31 [.sl (List.map encFile a.Files), .v (.int .i64 a.Room), .v (.int .i64 a.Fuse), .v (.bool a.Off)], .var 31 [.sl (List.map encFile b.Files), .v (.int .i64 b.Room), .v (.int .i64 b.Fuse), .v (.bool b.Off)]]⟩ : St)) q142 (weak_fin _ rfl rfl rfl (.cons (.same rfl) (.cons (.same rfl) (LeH.rest))) (.cons (.one (.same rfl)) (.cons (.one (.same rfl)) (.cons (.one (.same rfl)) (.nil)))) rfl rfl) ?_
        rintro a140 v146 hv r147
        have hv : ref03_Same_l2 a b a140 = some v146 := hv
        unfold ref03_Same_l2 at hv
        refine Tri.seqK ?_
        refine Tri.seqK ?_
        refine Tri.run (G := gm_ref03_Same) tyOk mixed ?_
        conv => whnf
        refine ⟨⟨(a.Files.length : Int), (len_map _ _).symm, ?_⟩⟩
        conv => whnf
        refine Tri.cond rfl (fun c149 => ?_) (fun c149 => ?_)
        · replace hv := if_t c149 hv
          refine Tri.run (G := gm_ref03_Same) tyOk mixed ?_
          conv => whnf
          refine Tri.seqK ?_
          refine Tri.block ?_
          refine Tri.seqK ?_
          refine Tri.run (G := gm_ref03_Same) tyOk mixed ?_
          conv => whnf
          refine Draw.one 11 (.take 0 (.take 1 (.take 2 (.take 3 (.take 4 (.take 5 (.take 6 (.take 7 (.take 8 (.take 9 (.take 10 (.fin)))))))))))) [] (by kernel_rfl) ?_
          conv => whnf
          replace hv := bind_some hv
          obtain ⟨x163, q164, hv⟩ := hv
          refine ⟨(ix_some q164).1, ?_⟩
          conv => whnf
          refine ⟨⟨_, map_get encFile (ix_some q164).2, ?_⟩⟩
          conv => whnf
          refine ⟨rfl, ?_⟩
          conv => whnf
          replace hv := bind_some hv
          obtain ⟨x165, q166, hv⟩ := hv
          refine ⟨(ix_some q166).1, ?_⟩
          conv => whnf
          refine ⟨⟨_, map_get encFile (ix_some q166).2, ?_⟩⟩
          conv => whnf
          refine ⟨rfl, ?_⟩
          conv => whnf
          refine ⟨⟨(!(decide (x163 = x165))), congrArg Bool.not (eq_File _ _), ?_⟩⟩
          conv => whnf
          refine Tri.cond rfl (fun c167 => ?_) (fun c167 => ?_)
          · replace hv := if_t c167 hv
            refine Tri.seqK ?_
            refine Tri.run (G := gm_ref03_Same) tyOk mixed ?_
            conv => whnf
            refine Tri.run (G := gm_ref03_Same) tyOk mixed ?_
            conv => whnf
            obtain rfl := Option.some.inj hv
            obtain rfl := r147 _ rfl
            exact Or.inl ⟨_, rfl, rfl, weak_fin _ rfl rfl rfl (LeH.rest) (.cons (.one (.same rfl)) (.nil)) rfl rfl⟩
          · replace hv := if_f c167 hv
            refine Tri.run (G := gm_ref03_Same) tyOk mixed ?_
            conv => whnf
            refine Tri.run (G := gm_ref03_Same) tyOk mixed ?_
            conv => whnf
            obtain rfl := Option.some.inj hv
            exact ⟨_, rfl, weak_fin _ rfl rfl rfl (.cons (.same rfl) (.cons (.same rfl) (LeH.rest))) (.cons (.one (.same rfl)) (.cons (.one (.same rfl)) (.cons (.one (.same rfl)) (.nil)))) rfl rfl⟩
        · replace hv := if_f c149 hv
          refine Tri.run (G := gm_ref03_Same) tyOk mixed ?_
          conv => whnf
          obtain rfl := Option.some.inj hv
          obtain rfl := r147 _ rfl
          exact Or.inr (⟨_, rfl, rfl, weak_fin _ rfl rfl rfl (LeH.rest) (.nil) rfl rfl⟩)
      · rintro ex S' (⟨v143, rfl, rfl, w168⟩ | ⟨v144, rfl, rfl, w168⟩)
        · dsimp only at h
          conv => whnf
          refine fin_pre w168 ?_
          conv => whnf
          obtain rfl := Option.some.inj h
          rfl
        · dsimp only at h
          conv => whnf
          refine Tri.weak w168 ?_
          refine Tri.seqK ?_
          refine Tri.run (G := gm_ref03_Same) tyOk mixed ?_
          conv => whnf
          refine Tri.run (G := gm_ref03_Same) tyOk mixed ?_
          conv => whnf
          refine fin_here ?_
          conv => whnf
          obtain rfl := Option.some.inj h
          rfl
noncomputable def law04_WalPuts (d : Disk) (seg : Int) (rec : Str) : Option (Bool) :=
  law04_shown.bind fun y1 =>
  (wal_Put d seg rec).bind fun y3 =>
  (ref04_Put d seg rec).bind fun y5 =>
  (wal_Sync d seg).bind fun y7 =>
  (ref04_Sync d seg).bind fun y9 =>
  (
    (ref03_Same y3.1 y5.1).bind fun y23 =>
    if y23 then
      (ref03_Same y7.1 y9.1).bind fun y26 =>
      some y26
    else
      some false).bind fun (y21 : Bool) =>
  if y1 then
    if y21 then
      if (decide (y3.2.1 = y5.2.1)) then
        if (decide (y3.2.2 = y5.2.2)) then
          some (decide (y7.2 = y9.2))
        else
          some false
      else
        some false
    else
      some false
  else
    some false
def gm_law04_WalPuts : Gm := ⟨tys, [], [], []⟩
theorem law04_WalPuts_walk (d : Disk) (seg : Int) (rec : Str) (r : Bool) (h : law04_WalPuts d seg rec = some r) : PureP Try.prog 4 [.agg [.sl (List.map encFile d.Files), .v (.int .i64 d.Room), .v (.int .i64 d.Fuse), .v (.bool d.Off)], .v (.int .i64 seg), .v (.string (bs rec))] (fun a => a = .v (.bool r)) := by
  unfold law04_WalPuts at h
  refine pureW (G := gm_law04_WalPuts) tyOk Try.func4 rfl (by kernel_rfl) (by simp [Try.f4]) ?_
  refine Tri.seqK ?_
  refine Tri.run (G := gm_law04_WalPuts) tyOk mixed ?_
  conv => whnf
  refine Tri.seqK ?_
  refine Tri.run (G := gm_law04_WalPuts) tyOk mixed ?_
  conv => whnf
  replace h := bind_some h
  obtain ⟨y1, q2, h⟩ := h
  refine PureP.mono (law04_shown_walk y1 q2) ?_
  rintro _ rfl
  conv => whnf
  refine Tri.seqK ?_
  refine Tri.run (G := gm_law04_WalPuts) tyOk mixed ?_
  conv => whnf
  replace h := bind_some h
  obtain ⟨y3, q4, h⟩ := h
  refine PureP.mono (wal_Put_walk d seg rec y3 q4) ?_
  rintro _ rfl
  conv => whnf
  refine Tri.seqK ?_
  refine Tri.run (G := gm_law04_WalPuts) tyOk mixed ?_
  conv => whnf
  replace h := bind_some h
  obtain ⟨y5, q6, h⟩ := h
  refine PureP.mono (ref04_Put_walk d seg rec y5 q6) ?_
  rintro _ rfl
  conv => whnf
  refine Tri.seqK ?_
  refine Tri.run (G := gm_law04_WalPuts) tyOk mixed ?_
  conv => whnf
  replace h := bind_some h
  obtain ⟨y7, q8, h⟩ := h
  refine PureP.mono (wal_Sync_walk d seg y7 q8) ?_
  rintro _ rfl
  conv => whnf
  refine Tri.seqK ?_
  refine Tri.run (G := gm_law04_WalPuts) tyOk mixed ?_
  conv => whnf
  replace h := bind_some h
  obtain ⟨y9, q10, h⟩ := h
  refine PureP.mono (ref04_Sync_walk d seg y9 q10) ?_
  rintro _ rfl
  conv => whnf
  refine Tri.seqK ?_
  replace h := bind_some h
  obtain ⟨y21, q22, h⟩ := h
  refine Tri.cut (fun ex S' => ex = .normal ∧ Weak S' ⟨75, 0, ofRegs [(7, .v (.bool y1)), (9, .v (.int .i64 y3.2.1)), (10, .v (.int .i64 y3.2.2)), (12, .v (.int .i64 y5.2.1)), (13, .v (.int .i64 y5.2.2)), (15, .v (.int .i64 y7.2)), (17, .v (.int .i64 y9.2)), (18, .v (.bool y21))], []⟩) ?_ ?_
  · refine Tri.run (G := gm_law04_WalPuts) tyOk mixed ?_
    conv => whnf
    replace q22 := bind_some q22
    obtain ⟨y23, q24, q22⟩ := q22
    refine PureP.mono (ref03_Same_walk y3.1 y5.1 y23 q24) ?_
    rintro _ rfl
    conv => whnf
    refine cond_mk (fun c25 => ?_) (fun c25 => ?_)
    · replace q22 := if_t c25 q22
      conv => whnf
      replace q22 := bind_some q22
      obtain ⟨y26, q27, q22⟩ := q22
      refine PureP.mono (ref03_Same_walk y7.1 y9.1 y26 q27) ?_
      rintro _ rfl
      conv => whnf
      obtain rfl := Option.some.inj q22
      exact ⟨rfl, weak_fin _ rfl rfl rfl (LeH.rest) (.cons (.one (.same rfl)) (.cons (.one (.same rfl)) (.cons (.one (.same rfl)) (.cons (.one (.same rfl)) (.cons (.one (.same rfl)) (.cons (.one (.same rfl)) (.cons (.one (.same rfl)) (.cons (.one (.same rfl)) (.nil))))))))) rfl rfl⟩
    · replace q22 := if_f c25 q22
      conv => whnf
      obtain rfl := Option.some.inj q22
      exact ⟨rfl, weak_fin _ rfl rfl rfl (LeH.rest) (.cons (.one (.same rfl)) (.cons (.one (.same rfl)) (.cons (.one (.same rfl)) (.cons (.one (.same rfl)) (.cons (.one (.same rfl)) (.cons (.one (.same rfl)) (.cons (.one (.same rfl)) (.cons (.one (.same rfl)) (.nil))))))))) rfl rfl⟩
  · rintro ex S' ⟨rfl, w28⟩
    conv => whnf
    refine Tri.weak w28 ?_
    refine Tri.seqK ?_
    refine Tri.run (G := gm_law04_WalPuts) tyOk mixed ?_
    conv => whnf
    refine cond_mk (fun c29 => ?_) (fun c29 => ?_)
    · replace h := if_t c29 h
      conv => whnf
      refine cond_mk (fun c30 => ?_) (fun c30 => ?_)
      · replace h := if_t c30 h
        conv => whnf
        refine cond_mk (fun c31 => ?_) (fun c31 => ?_)
        · replace h := if_t c31 h
          conv => whnf
          refine cond_mk (fun c32 => ?_) (fun c32 => ?_)
          · replace h := if_t c32 h
            conv => whnf
            refine Tri.run (G := gm_law04_WalPuts) tyOk mixed ?_
            conv => whnf
            refine fin_here ?_
            conv => whnf
            obtain rfl := Option.some.inj h
            rfl
          · replace h := if_f c32 h
            conv => whnf
            refine Tri.run (G := gm_law04_WalPuts) tyOk mixed ?_
            conv => whnf
            refine fin_here ?_
            conv => whnf
            obtain rfl := Option.some.inj h
            rfl
        · replace h := if_f c31 h
          conv => whnf
          refine Tri.run (G := gm_law04_WalPuts) tyOk mixed ?_
          conv => whnf
          refine fin_here ?_
          conv => whnf
          obtain rfl := Option.some.inj h
          rfl
      · replace h := if_f c30 h
        conv => whnf
        refine Tri.run (G := gm_law04_WalPuts) tyOk mixed ?_
        conv => whnf
        refine fin_here ?_
        conv => whnf
        obtain rfl := Option.some.inj h
        rfl
    · replace h := if_f c29 h
      conv => whnf
      refine Tri.run (G := gm_law04_WalPuts) tyOk mixed ?_
      conv => whnf
      refine fin_here ?_
      conv => whnf
      obtain rfl := Option.some.inj h
      rfl
noncomputable def ref03_Arm (d : Disk) (fuse : Int) : Option (Disk) :=
  some ({ Files := d.Files, Room := d.Room, Fuse := (if (decide (fuse < 0)) then (-1) else fuse), Off := d.Off } : Disk)
def gm_ref03_Arm : Gm := ⟨tys, [], [], []⟩
theorem ref03_Arm_walk (d : Disk) (fuse : Int) (r : Disk) (h : ref03_Arm d fuse = some r) : PureP Try.prog 46 [.agg [.sl (List.map encFile d.Files), .v (.int .i64 d.Room), .v (.int .i64 d.Fuse), .v (.bool d.Off)], .v (.int .i64 fuse)] (fun a => a = .agg [.sl (List.map encFile r.Files), .v (.int .i64 r.Room), .v (.int .i64 r.Fuse), .v (.bool r.Off)]) := by
  unfold ref03_Arm at h
  refine pureW (G := gm_ref03_Arm) tyOk Try.func46 rfl (by kernel_rfl) (by simp [Try.f46]) ?_
  refine Tri.seqK ?_
  refine Tri.run (G := gm_ref03_Arm) tyOk mixed ?_
  conv => whnf
  refine Tri.seqK ?_
  refine Tri.run (G := gm_ref03_Arm) tyOk mixed ?_
  conv => whnf
  refine Tri.seqK ?_
  refine Tri.cut (fun ex S' => ex = .normal ∧ Weak S' ⟨11, 0, ofRegs [(2, .ptr 0 0), (4, .ptr 1 0)], [.var 31 [.sl (List.map encFile d.Files), .v (.int .i64 d.Room), .v (.int .i64 (if (decide (fuse < 0)) then (-1) else fuse)), .v (.bool d.Off)], .var 31 [.v (.slice none 0 0), .v (.int .i64 0), .v (.int .i64 0), .v (.bool false)]]⟩) ?_ ?_
  · refine Tri.seqK ?_
    refine Tri.run (G := gm_ref03_Arm) tyOk mixed ?_
    conv => whnf
    refine Tri.cond rfl (fun c4 => ?_) (fun c4 => ?_)
    · replace c4 : (decide (fuse < 0)) = true := c4
      refine Tri.run (G := gm_ref03_Arm) tyOk mixed ?_
      conv => whnf
      exact ⟨rfl, weak_fin _ rfl rfl rfl (.cons (.var (.cons (.same rfl) (.cons (.same rfl) (.cons (.same (show (.v (.int .i64 (-1)) : AV) = (.v (.int .i64 (if (decide (fuse < 0)) then (-1) else fuse)) : AV) from by first | (simp [c4]; done) | simp only [c4, Bool.or_true, Bool.true_or, Bool.false_or, Bool.or_false, Bool.and_true, Bool.true_and, Bool.and_false, Bool.false_and, Bool.not_true, Bool.not_false, if_true, if_false, Bool.false_eq_true])) (.cons (.same rfl) (.nil)))))) (.cons (.same rfl) (LeH.rest))) (.cons (.one (.same rfl)) (.cons (.one (.same rfl)) (.nil))) rfl rfl⟩
    · replace c4 : (decide (fuse < 0)) = false := c4
      refine Tri.run (G := gm_ref03_Arm) tyOk mixed ?_
      conv => whnf
      exact ⟨rfl, weak_fin _ rfl rfl rfl (.cons (.var (.cons (.same rfl) (.cons (.same rfl) (.cons (.same (show (.v (.int .i64 fuse) : AV) = (.v (.int .i64 (if (decide (fuse < 0)) then (-1) else fuse)) : AV) from by first | (simp [c4]; done) | simp only [c4, Bool.or_true, Bool.true_or, Bool.false_or, Bool.or_false, Bool.and_true, Bool.true_and, Bool.and_false, Bool.false_and, Bool.not_true, Bool.not_false, if_true, if_false, Bool.false_eq_true])) (.cons (.same rfl) (.nil)))))) (.cons (.same rfl) (LeH.rest))) (.cons (.one (.same rfl)) (.cons (.one (.same rfl)) (.nil))) rfl rfl⟩
  · rintro ex S' ⟨rfl, w5⟩
    conv => whnf
    refine Tri.weak w5 ?_
    refine Tri.seqK ?_
    refine Tri.run (G := gm_ref03_Arm) tyOk mixed ?_
    conv => whnf
    refine Tri.run (G := gm_ref03_Arm) tyOk mixed ?_
    conv => whnf
    refine fin_here ?_
    conv => whnf
    obtain rfl := Option.some.inj h
    rfl
noncomputable def law04_does (w : World_) (a : Act) : Option (World_) :=
  (
    if (decide (a.Kind = 1)) then
      if w.Dead then
        some (.inr ())
      else
        (wal_Put w.D w.Seg a.S).bind fun y148 =>
        (
          if (decide (y148.2.2 = 0)) then
            need ((([] : List Str).length + w.Put.length) * 16 ≤ 140737488355328) <|
            need (((([] : List Str) ++ w.Put).length + 1) * 16 ≤ 140737488355328) <|
            some ((([] : List Str) ++ w.Put) ++ [a.S])
          else
            some w.Put).bind fun (y185 : (List Str)) =>
        some (.inl (y148.1.Files, y148.1.Room, y148.1.Fuse, y148.1.Off, y148.2.1, y185, (if (!(decide (y148.2.1 = w.Seg))) then (w.Put.length : Int) else w.Safe), (decide (y148.2.2 = 6))))
    else
      if (decide (a.Kind = 2)) then
        (wal_Sync w.D w.Seg).bind fun y204 =>
        if ((decide (y204.2 = 0)) && (!w.Dead)) then
          some (.inl (y204.1.Files, y204.1.Room, y204.1.Fuse, y204.1.Off, w.Seg, w.Put, (w.Put.length : Int), w.Dead))
        else
          some (.inl (y204.1.Files, y204.1.Room, y204.1.Fuse, y204.1.Off, w.Seg, w.Put, w.Safe, w.Dead))
      else
        if (decide (a.Kind = 3)) then
          (ref03_Arm w.D a.N).bind fun y213 =>
          some (.inl (y213.Files, y213.Room, y213.Fuse, y213.Off, w.Seg, w.Put, w.Safe, w.Dead))
        else
          some (.inl (w.D.Files, w.D.Room, w.D.Fuse, w.D.Off, w.Seg, w.Put, w.Safe, w.Dead))).bind fun (y141 : ((List File) × Int × Int × Bool × Int × (List Str) × Int × Bool) ⊕ (Unit)) =>
  match y141 with
  | (.inl v143) =>
    some ({ D := ({ Files := v143.1, Room := v143.2.1, Fuse := v143.2.2.1, Off := v143.2.2.2.1 } : Disk), Seg := v143.2.2.2.2.1, Put := v143.2.2.2.2.2.1, Safe := v143.2.2.2.2.2.2.1, Dead := v143.2.2.2.2.2.2.2 } : World_)
  | (.inr v144) =>
    some w
def gm_law04_does : Gm := ⟨tys, [], [], []⟩
theorem law04_does_walk (w : World_) (a : Act) (r : World_) (h : law04_does w a = some r) : PureP Try.prog 23 [.agg [.sl (List.map encFile w.D.Files), .v (.int .i64 w.D.Room), .v (.int .i64 w.D.Fuse), .v (.bool w.D.Off), .v (.int .i64 w.Seg), .sl (List.map encS w.Put), .v (.int .i64 w.Safe), .v (.bool w.Dead)], .agg [.v (.int .i64 a.Kind), .v (.int .i64 a.N), .v (.string (bs a.S))]] (fun a => a = .agg [.sl (List.map encFile r.D.Files), .v (.int .i64 r.D.Room), .v (.int .i64 r.D.Fuse), .v (.bool r.D.Off), .v (.int .i64 r.Seg), .sl (List.map encS r.Put), .v (.int .i64 r.Safe), .v (.bool r.Dead)]) := by
  unfold law04_does at h
  refine pureW (G := gm_law04_does) tyOk Try.func23 rfl (by kernel_rfl) (by simp [Try.f23]) ?_
  refine Tri.seqK ?_
  refine Tri.run (G := gm_law04_does) tyOk mixed ?_
  conv => whnf
  refine Tri.seqK ?_
  replace h := bind_some h
  obtain ⟨y141, q142, h⟩ := h
  refine Tri.cut (fun ex S' => (∃ v143 : (List File) × Int × Int × Bool × Int × (List Str) × Int × Bool, y141 = (.inl v143) ∧ ex = .normal ∧ Weak S' ⟨86, 0, ofRegs [(2, .ptr 0 0), (4, .ptr 2 0)], [.var 46 [.sl (List.map encFile v143.1), .v (.int .i64 v143.2.1), .v (.int .i64 v143.2.2.1), .v (.bool v143.2.2.2.1), .v (.int .i64 v143.2.2.2.2.1), .sl (List.map encS v143.2.2.2.2.2.1), .v (.int .i64 v143.2.2.2.2.2.2.1), .v (.bool v143.2.2.2.2.2.2.2)], .gone, .var 46 [.v (.slice none 0 0), .v (.int .i64 0), .v (.int .i64 0), .v (.bool false), .v (.int .i64 0), .v (.slice none 0 0), .v (.int .i64 0), .v (.bool false)]]⟩) ∨ (∃ v144 : Unit, y141 = (.inr v144) ∧ ex = .ret ∧ Weak S' ⟨86, 0, ofRegs [(4, .ptr 2 0)], [.gone, .gone, .var 46 [.sl (List.map encFile w.D.Files), .v (.int .i64 w.D.Room), .v (.int .i64 w.D.Fuse), .v (.bool w.D.Off), .v (.int .i64 w.Seg), .sl (List.map encS w.Put), .v (.int .i64 w.Safe), .v (.bool w.Dead)]]⟩)) ?_ ?_
  · refine Tri.seqK ?_
    refine Tri.run (G := gm_law04_does) tyOk mixed ?_
    conv => whnf
    refine Tri.block ?_
    refine Tri.seqK ?_
    refine Tri.run (G := gm_law04_does) tyOk mixed ?_
    conv => whnf
    refine Tri.cond rfl (fun c145 => ?_) (fun c145 => ?_)
    · replace q142 := if_t c145 q142
      refine Tri.seqK ?_
      refine Tri.seqK ?_
      refine Tri.run (G := gm_law04_does) tyOk mixed ?_
      conv => whnf
      refine Tri.cond rfl (fun c147 => ?_) (fun c147 => ?_)
      · replace q142 := if_t c147 q142
        refine Tri.seqK ?_
        refine Tri.run (G := gm_law04_does) tyOk mixed ?_
        conv => whnf
        refine Tri.run (G := gm_law04_does) tyOk mixed ?_
        conv => whnf
        obtain rfl := Option.some.inj q142
        exact Or.inr (⟨_, rfl, rfl, weak_fin _ rfl rfl rfl (.cons (.gone) (.cons (.gone) (.cons (.same rfl) (LeH.rest)))) (.cons (.one (.same rfl)) (.nil)) rfl rfl⟩)
      · replace q142 := if_f c147 q142
        refine Tri.run (G := gm_law04_does) tyOk mixed ?_
        conv => whnf
        refine Tri.seqK ?_
        refine Tri.run (G := gm_law04_does) tyOk mixed ?_
        conv => whnf
        replace q142 := bind_some q142
        obtain ⟨y148, q149, q142⟩ := q142
        refine PureP.mono (wal_Put_walk w.D w.Seg a.S y148 q149) ?_
        rintro _ rfl
        conv => whnf
        refine Tri.seqK ?_
        refine Tri.cut (fun ex S' => ex = .normal ∧ Weak S' ⟨86, 0, ofRegs [(2, .ptr 0 0), (3, .ptr 1 0), (4, .ptr 2 0), (5, .ptr 3 0), (6, .v (.int .i64 y148.2.1)), (7, .v (.int .i64 y148.2.2))], [.var 46 [.sl (List.map encFile w.D.Files), .v (.int .i64 w.D.Room), .v (.int .i64 w.D.Fuse), .v (.bool w.D.Off), .v (.int .i64 w.Seg), .sl (List.map encS w.Put), .v (.int .i64 (if (!(decide (y148.2.1 = w.Seg))) then (w.Put.length : Int) else w.Safe)), .v (.bool w.Dead)], .var 48 [.v (.int .i64 a.Kind), .v (.int .i64 a.N), .v (.string (bs a.S))], .var 46 [.v (.slice none 0 0), .v (.int .i64 0), .v (.int .i64 0), .v (.bool false), .v (.int .i64 0), .v (.slice none 0 0), .v (.int .i64 0), .v (.bool false)], .var 31 [.sl (List.map encFile y148.1.Files), .v (.int .i64 y148.1.Room), .v (.int .i64 y148.1.Fuse), .v (.bool y148.1.Off)]]⟩) ?_ ?_
        · refine Tri.seqK ?_
          refine Tri.run (G := gm_law04_does) tyOk mixed ?_
          conv => whnf
          refine Tri.cond rfl (fun c153 => ?_) (fun c153 => ?_)
          · replace c153 : (!(decide (y148.2.1 = w.Seg))) = true := c153
            refine Tri.run (G := gm_law04_does) tyOk mixed ?_
            conv => whnf
            refine ⟨⟨(w.Put.length : Int), (len_map _ _).symm, ?_⟩⟩
            conv => whnf
            exact ⟨rfl, weak_fin _ rfl rfl rfl (.cons (.var (.cons (.same rfl) (.cons (.same rfl) (.cons (.same rfl) (.cons (.same rfl) (.cons (.same rfl) (.cons (.same rfl) (.cons (.same (show (.v (.int .i64 (w.Put.length : Int)) : AV) = (.v (.int .i64 (if (!(decide (y148.2.1 = w.Seg))) then (w.Put.length : Int) else w.Safe)) : AV) from by first | (simp [c153]; done) | simp only [c153, Bool.or_true, Bool.true_or, Bool.false_or, Bool.or_false, Bool.and_true, Bool.true_and, Bool.and_false, Bool.false_and, Bool.not_true, Bool.not_false, if_true, if_false, Bool.false_eq_true])) (.cons (.same rfl) (.nil)))))))))) (.cons (.same rfl) (.cons (.same rfl) (.cons (.same rfl) (LeH.rest))))) (.cons (.one (.same rfl)) (.cons (.one (.same rfl)) (.cons (.one (.same rfl)) (.cons (.one (.same rfl)) (.cons (.one (.same rfl)) (.cons (.one (.same rfl)) (.nil))))))) rfl rfl⟩
          · replace c153 : (!(decide (y148.2.1 = w.Seg))) = false := c153
            refine Tri.run (G := gm_law04_does) tyOk mixed ?_
            conv => whnf
            exact ⟨rfl, weak_fin _ rfl rfl rfl (.cons (.var (.cons (.same rfl) (.cons (.same rfl) (.cons (.same rfl) (.cons (.same rfl) (.cons (.same rfl) (.cons (.same rfl) (.cons (.same (show (.v (.int .i64 w.Safe) : AV) = (.v (.int .i64 (if (!(decide (y148.2.1 = w.Seg))) then (w.Put.length : Int) else w.Safe)) : AV) from by first | (simp [c153]; done) | simp only [c153, Bool.or_true, Bool.true_or, Bool.false_or, Bool.or_false, Bool.and_true, Bool.true_and, Bool.and_false, Bool.false_and, Bool.not_true, Bool.not_false, if_true, if_false, Bool.false_eq_true])) (.cons (.same rfl) (.nil)))))))))) (.cons (.same rfl) (.cons (.same rfl) (.cons (.same rfl) (LeH.rest))))) (.cons (.one (.same rfl)) (.cons (.one (.same rfl)) (.cons (.one (.same rfl)) (.cons (.one (.same rfl)) (.cons (.one (.same rfl)) (.cons (.one (.same rfl)) (.nil))))))) rfl rfl⟩
        · rintro ex S' ⟨rfl, w154⟩
          conv => whnf
          refine Tri.weak w154 ?_
          refine Tri.seqK ?_
          refine Tri.run (G := gm_law04_does) tyOk mixed ?_
          conv => whnf
          refine Tri.seqK ?_
          refine Tri.run (G := gm_law04_does) tyOk mixed ?_
          conv => whnf
          refine Tri.seqK ?_
          replace q142 := bind_some q142
          obtain ⟨y185, q186, q142⟩ := q142
          refine Tri.cut (fun ex S' => ex = .normal ∧ Weak S' ⟨86, 0, ofRegs [(2, .ptr 0 0), (4, .ptr 2 0), (7, .v (.int .i64 y148.2.2))], [.var 46 [.sl (List.map encFile y148.1.Files), .v (.int .i64 y148.1.Room), .v (.int .i64 y148.1.Fuse), .v (.bool y148.1.Off), .v (.int .i64 y148.2.1), .sl (List.map encS y185), .v (.int .i64 (if (!(decide (y148.2.1 = w.Seg))) then (w.Put.length : Int) else w.Safe)), .v (.bool w.Dead)], .gone, .var 46 [.v (.slice none 0 0), .v (.int .i64 0), .v (.int .i64 0), .v (.bool false), .v (.int .i64 0), .v (.slice none 0 0), .v (.int .i64 0), .v (.bool false)]]⟩) ?_ ?_
          · refine Tri.seqK ?_
            refine Tri.run (G := gm_law04_does) tyOk mixed ?_
            conv => whnf
            refine Tri.cond rfl (fun c187 => ?_) (fun c187 => ?_)
            · replace q186 := if_t c187 q186
              refine Tri.run (G := gm_law04_does) tyOk mixed ?_
              conv => whnf
              replace q186 := need_some q186
              obtain ⟨p200, q186⟩ := q186
              replace q186 := need_some q186
              obtain ⟨p201, q186⟩ := q186
              refine Draw.many 9 (.take 1 (.take 2 (.take 4 (.take 5 (.alt 0 (.alt 3 (.alt 6 (.alt 7 (.take 8 (.fin)) (.nil)) (.nil)) (.alt 6 (.alt 3 (.alt 7 (.take 8 (.fin)) (.nil)) (.nil)) (.nil))) (.alt 6 (.alt 0 (.alt 3 (.alt 7 (.take 8 (.fin)) (.nil)) (.nil)) (.nil)) (.nil))))))) [] (⟨86, 0, ofRegs [(2, .ptr 0 0), (4, .ptr 2 0), (7, .v (.int .i64 y148.2.2)), (49, .sl (List.map encS ((([] : List Str) ++ w.Put) ++ [a.S]))), (50, .ptr 0 5)], [.var 46 [.sl (List.map encFile y148.1.Files), .v (.int .i64 y148.1.Room), .v (.int .i64 y148.1.Fuse), .v (.bool y148.1.Off), .v (.int .i64 y148.2.1), .sl (List.map encS w.Put), .v (.int .i64 (if (!(decide (y148.2.1 = w.Seg))) then (w.Put.length : Int) else w.Safe)), .v (.bool w.Dead)], .var 48 [.v (.int .i64 a.Kind), .v (.int .i64 a.N), .v (.string (bs a.S))], .var 46 [.v (.slice none 0 0), .v (.int .i64 0), .v (.int .i64 0), .v (.bool false), .v (.int .i64 0), .v (.slice none 0 0), .v (.int .i64 0), .v (.bool false)], .var 31 [.sl (List.map encFile y148.1.Files), .v (.int .i64 y148.1.Room), .v (.int .i64 y148.1.Fuse), .v (.bool y148.1.Off)]]⟩) (by kernel_rfl) ?_ ?_
              · conv => whnf
                refine ⟨?_, ?_⟩
                · conv => whnf
                  refine ⟨⟨List.map encS ([] : List Str), rfl, ?_⟩⟩
                  conv => whnf
                  refine ⟨?_, ?_⟩
                  · conv => whnf
                    refine ⟨rfl, ?_⟩
                    conv => whnf
                    refine ⟨map_len (f := encS) (n := 1) (fun _ => rfl) _, ?_⟩
                    conv => whnf
                    refine ⟨by simp only [List.length_map]; exact p200, ?_⟩
                    conv => whnf
                    refine ⟨⟨List.map encS (([] : List Str) ++ w.Put), map_app encS _ _ rfl rfl, ?_⟩⟩
                    conv => whnf
                    refine ⟨?_, ?_⟩
                    · conv => whnf
                      refine ⟨⟨List.map encS [a.S], rfl, ?_⟩⟩
                      conv => whnf
                      refine ⟨?_, ?_⟩
                      · conv => whnf
                        refine ⟨rfl, ?_⟩
                        conv => whnf
                        refine ⟨rfl, ?_⟩
                        conv => whnf
                        refine ⟨by simp only [List.length_map]; exact p201, ?_⟩
                        conv => whnf
                        refine ⟨⟨List.map encS ((([] : List Str) ++ w.Put) ++ [a.S]), map_app encS _ _ rfl rfl, ?_⟩⟩
                        conv => whnf
                        exact Weak.trans (weak_freeze 4 rfl) (weak_fin _ rfl rfl rfl (.cons (.same rfl) (.cons (.same rfl) (.cons (.same rfl) (.cons (.same rfl) (LeH.rest))))) (.cons (.one (.same rfl)) (.cons (.one (.same rfl)) (.cons (.one (.same rfl)) (.cons (.one (.frz rfl rfl)) (.cons (.one (.same rfl)) (.nil)))))) rfl rfl)
                      · conv => whnf
                        trivial
                    · conv => whnf
                      trivial
                  · conv => whnf
                    refine ⟨?_, ?_⟩
                    · conv => whnf
                      refine ⟨⟨List.map encS [a.S], rfl, ?_⟩⟩
                      conv => whnf
                      refine ⟨?_, ?_⟩
                      · conv => whnf
                        refine ⟨rfl, ?_⟩
                        conv => whnf
                        refine ⟨map_len (f := encS) (n := 1) (fun _ => rfl) _, ?_⟩
                        conv => whnf
                        refine ⟨by simp only [List.length_map]; exact p200, ?_⟩
                        conv => whnf
                        refine ⟨⟨List.map encS (([] : List Str) ++ w.Put), map_app encS _ _ rfl rfl, ?_⟩⟩
                        conv => whnf
                        refine ⟨?_, ?_⟩
                        · conv => whnf
                          refine ⟨rfl, ?_⟩
                          conv => whnf
                          refine ⟨rfl, ?_⟩
                          conv => whnf
                          refine ⟨by simp only [List.length_map]; exact p201, ?_⟩
                          conv => whnf
                          refine ⟨⟨List.map encS ((([] : List Str) ++ w.Put) ++ [a.S]), map_app encS _ _ rfl rfl, ?_⟩⟩
                          conv => whnf
                          exact Weak.trans (weak_freeze 4 rfl) (weak_fin _ rfl rfl rfl (.cons (.same rfl) (.cons (.same rfl) (.cons (.same rfl) (.cons (.same rfl) (LeH.rest))))) (.cons (.one (.same rfl)) (.cons (.one (.same rfl)) (.cons (.one (.same rfl)) (.cons (.one (.frz rfl rfl)) (.cons (.one (.same rfl)) (.nil)))))) rfl rfl)
                        · conv => whnf
                          trivial
                      · conv => whnf
                        trivial
                    · conv => whnf
                      trivial
                · conv => whnf
                  refine ⟨?_, ?_⟩
                  · conv => whnf
                    refine ⟨⟨List.map encS [a.S], rfl, ?_⟩⟩
                    conv => whnf
                    refine ⟨?_, ?_⟩
                    · conv => whnf
                      refine ⟨⟨List.map encS ([] : List Str), rfl, ?_⟩⟩
                      conv => whnf
                      refine ⟨?_, ?_⟩
                      · conv => whnf
                        refine ⟨rfl, ?_⟩
                        conv => whnf
                        refine ⟨map_len (f := encS) (n := 1) (fun _ => rfl) _, ?_⟩
                        conv => whnf
                        refine ⟨by simp only [List.length_map]; exact p200, ?_⟩
                        conv => whnf
                        refine ⟨⟨List.map encS (([] : List Str) ++ w.Put), map_app encS _ _ rfl rfl, ?_⟩⟩
                        conv => whnf
                        refine ⟨?_, ?_⟩
                        · conv => whnf
                          refine ⟨rfl, ?_⟩
                          conv => whnf
                          refine ⟨rfl, ?_⟩
                          conv => whnf
                          refine ⟨by simp only [List.length_map]; exact p201, ?_⟩
                          conv => whnf
                          refine ⟨⟨List.map encS ((([] : List Str) ++ w.Put) ++ [a.S]), map_app encS _ _ rfl rfl, ?_⟩⟩
                          conv => whnf
                          exact Weak.trans (weak_freeze 5 rfl) (weak_fin _ rfl rfl rfl (.cons (.same rfl) (.cons (.same rfl) (.cons (.same rfl) (.cons (.same rfl) (LeH.rest))))) (.cons (.one (.same rfl)) (.cons (.one (.same rfl)) (.cons (.one (.same rfl)) (.cons (.one (.frz rfl rfl)) (.cons (.one (.same rfl)) (.nil)))))) rfl rfl)
                        · conv => whnf
                          trivial
                      · conv => whnf
                        trivial
                    · conv => whnf
                      trivial
                  · conv => whnf
                    trivial
              · conv => whnf
                obtain rfl := Option.some.inj q186
                exact ⟨rfl, weak_fin _ rfl rfl rfl (.cons (.same rfl) (.cons (.gone) (.cons (.same rfl) (LeH.rest)))) (.cons (.one (.same rfl)) (.cons (.one (.same rfl)) (.cons (.one (.same rfl)) (.nil)))) rfl rfl⟩
            · replace q186 := if_f c187 q186
              refine Tri.run (G := gm_law04_does) tyOk mixed ?_
              conv => whnf
              obtain rfl := Option.some.inj q186
              exact ⟨rfl, weak_fin _ rfl rfl rfl (.cons (.same rfl) (.cons (.gone) (.cons (.same rfl) (LeH.rest)))) (.cons (.one (.same rfl)) (.cons (.one (.same rfl)) (.cons (.one (.same rfl)) (.nil)))) rfl rfl⟩
          · rintro ex S' ⟨rfl, w202⟩
            conv => whnf
            refine Tri.weak w202 ?_
            refine Tri.run (G := gm_law04_does) tyOk mixed ?_
            conv => whnf
            obtain rfl := Option.some.inj q142
            exact Or.inl ⟨_, rfl, rfl, weak_fin _ rfl rfl rfl (.cons (.same rfl) (.cons (.same rfl) (.cons (.same rfl) (LeH.rest)))) (.cons (.one (.same rfl)) (.cons (.one (.same rfl)) (.nil))) rfl rfl⟩
    · replace q142 := if_f c145 q142
      refine Tri.seqK ?_
      refine Tri.run (G := gm_law04_does) tyOk mixed ?_
      conv => whnf
      refine Tri.cond rfl (fun c203 => ?_) (fun c203 => ?_)
      · replace q142 := if_t c203 q142
        refine Tri.seqK ?_
        refine Tri.run (G := gm_law04_does) tyOk mixed ?_
        conv => whnf
        replace q142 := bind_some q142
        obtain ⟨y204, q205, q142⟩ := q142
        refine PureP.mono (wal_Sync_walk w.D w.Seg y204 q205) ?_
        rintro _ rfl
        conv => whnf
        refine Tri.seqK ?_
        refine Tri.run (G := gm_law04_does) tyOk mixed ?_
        conv => whnf
        refine Tri.seqK ?_
        refine Tri.cut (fun ex S' => ex = .normal ∧ Weak S' ⟨86, 0, ofRegs [(2, .ptr 0 0), (4, .ptr 2 0), (72, .v (.bool ((decide (y204.2 = 0)) && (!w.Dead))))], [.var 46 [.sl (List.map encFile y204.1.Files), .v (.int .i64 y204.1.Room), .v (.int .i64 y204.1.Fuse), .v (.bool y204.1.Off), .v (.int .i64 w.Seg), .sl (List.map encS w.Put), .v (.int .i64 w.Safe), .v (.bool w.Dead)], .gone, .var 46 [.v (.slice none 0 0), .v (.int .i64 0), .v (.int .i64 0), .v (.bool false), .v (.int .i64 0), .v (.slice none 0 0), .v (.int .i64 0), .v (.bool false)]]⟩) ?_ ?_
        · refine Tri.run (G := gm_law04_does) tyOk mixed ?_
          conv => whnf
          refine cond_mk (fun c209 => ?_) (fun c209 => ?_)
          · replace c209 : (decide (y204.2 = 0)) = true := c209
            conv => whnf
            exact ⟨rfl, weak_fin _ rfl rfl rfl (.cons (.same rfl) (.cons (.gone) (.cons (.same rfl) (LeH.rest)))) (.cons (.one (.same rfl)) (.cons (.one (.same rfl)) (.cons (.one (.same (show (.v (.bool (!w.Dead)) : AV) = (.v (.bool ((decide (y204.2 = 0)) && (!w.Dead))) : AV) from by first | (simp [c209]; done) | simp only [c209, Bool.or_true, Bool.true_or, Bool.false_or, Bool.or_false, Bool.and_true, Bool.true_and, Bool.and_false, Bool.false_and, Bool.not_true, Bool.not_false, if_true, if_false, Bool.false_eq_true]))) (.nil)))) rfl rfl⟩
          · replace c209 : (decide (y204.2 = 0)) = false := c209
            conv => whnf
            exact ⟨rfl, weak_fin _ rfl rfl rfl (.cons (.same rfl) (.cons (.gone) (.cons (.same rfl) (LeH.rest)))) (.cons (.one (.same rfl)) (.cons (.one (.same rfl)) (.cons (.one (.same (show (.v (.bool false) : AV) = (.v (.bool ((decide (y204.2 = 0)) && (!w.Dead))) : AV) from by first | (simp [c209]; done) | simp only [c209, Bool.or_true, Bool.true_or, Bool.false_or, Bool.or_false, Bool.and_true, Bool.true_and, Bool.and_false, Bool.false_and, Bool.not_true, Bool.not_false, if_true, if_false, Bool.false_eq_true]))) (.nil)))) rfl rfl⟩
        · rintro ex S' ⟨rfl, w210⟩
          conv => whnf
          refine Tri.weak w210 ?_
          refine Tri.cond rfl (fun c211 => ?_) (fun c211 => ?_)
          · replace q142 := if_t c211 q142
            refine Tri.run (G := gm_law04_does) tyOk mixed ?_
            conv => whnf
            refine ⟨⟨(w.Put.length : Int), (len_map _ _).symm, ?_⟩⟩
            conv => whnf
            obtain rfl := Option.some.inj q142
            exact Or.inl ⟨_, rfl, rfl, weak_fin _ rfl rfl rfl (.cons (.same rfl) (.cons (.same rfl) (.cons (.same rfl) (LeH.rest)))) (.cons (.one (.same rfl)) (.cons (.one (.same rfl)) (.nil))) rfl rfl⟩
          · replace q142 := if_f c211 q142
            refine Tri.run (G := gm_law04_does) tyOk mixed ?_
            conv => whnf
            obtain rfl := Option.some.inj q142
            exact Or.inl ⟨_, rfl, rfl, weak_fin _ rfl rfl rfl (.cons (.same rfl) (.cons (.same rfl) (.cons (.same rfl) (LeH.rest)))) (.cons (.one (.same rfl)) (.cons (.one (.same rfl)) (.nil))) rfl rfl⟩
      · replace q142 := if_f c203 q142
        refine Tri.seqK ?_
        refine Tri.run (G := gm_law04_does) tyOk mixed ?_
        conv => whnf
        refine Tri.cond rfl (fun c212 => ?_) (fun c212 => ?_)
        · replace q142 := if_t c212 q142
          refine Tri.run (G := gm_law04_does) tyOk mixed ?_
          conv => whnf
          replace q142 := bind_some q142
          obtain ⟨y213, q214, q142⟩ := q142
          refine PureP.mono (ref03_Arm_walk w.D a.N y213 q214) ?_
          rintro _ rfl
          conv => whnf
          obtain rfl := Option.some.inj q142
          exact Or.inl ⟨_, rfl, rfl, weak_fin _ rfl rfl rfl (.cons (.same rfl) (.cons (.gone) (.cons (.same rfl) (LeH.rest)))) (.cons (.one (.same rfl)) (.cons (.one (.same rfl)) (.nil))) rfl rfl⟩
        · replace q142 := if_f c212 q142
          refine Tri.run (G := gm_law04_does) tyOk mixed ?_
          conv => whnf
          obtain rfl := Option.some.inj q142
          exact Or.inl ⟨_, rfl, rfl, weak_fin _ rfl rfl rfl (.cons (.same rfl) (.cons (.gone) (.cons (.same rfl) (LeH.rest)))) (.cons (.one (.same rfl)) (.cons (.one (.same rfl)) (.nil))) rfl rfl⟩
  · rintro ex S' (⟨v143, rfl, rfl, w215⟩ | ⟨v144, rfl, rfl, w215⟩)
    · dsimp only at h
      conv => whnf
      refine Tri.weak w215 ?_
      refine Tri.seqK ?_
      refine Tri.run (G := gm_law04_does) tyOk mixed ?_
      conv => whnf
      refine Tri.run (G := gm_law04_does) tyOk mixed ?_
      conv => whnf
      refine fin_here ?_
      conv => whnf
      obtain rfl := Option.some.inj h
      rfl
    · dsimp only at h
      conv => whnf
      refine fin_pre w215 ?_
      conv => whnf
      obtain rfl := Option.some.inj h
      rfl
noncomputable def law04_begins (a : (List Str)) (b : (List Str)) : Option (Bool) :=
  if (decide ((a.length : Int) ≤ (b.length : Int))) then
    need (0 ≤ (0 : Int) ∧ 0 ≤ (a.length : Int) ∧ (a.length : Int) ≤ (b.length : Int)) <|
    (ref01_Same a (cut b 0 (a.length : Int))).bind fun y3 =>
    some y3
  else
    some false
def gm_law04_begins : Gm := ⟨tys, [], [], []⟩
theorem law04_begins_walk (a : (List Str)) (b : (List Str)) (r : Bool) (h : law04_begins a b = some r) : PureP Try.prog 26 [.sl (List.map encS a), .sl (List.map encS b)] (fun a => a = .v (.bool r)) := by
  unfold law04_begins at h
  refine pureW (G := gm_law04_begins) tyOk Try.func26 rfl (by kernel_rfl) (by simp [Try.f26]) ?_
  refine Tri.seqK ?_
  refine Tri.run (G := gm_law04_begins) tyOk mixed ?_
  conv => whnf
  refine Tri.seqK ?_
  refine Tri.run (G := gm_law04_begins) tyOk mixed ?_
  conv => whnf
  refine ⟨⟨(a.length : Int), (len_map _ _).symm, ?_⟩⟩
  conv => whnf
  refine ⟨⟨(b.length : Int), (len_map _ _).symm, ?_⟩⟩
  conv => whnf
  refine cond_mk (fun c1 => ?_) (fun c1 => ?_)
  · replace h := if_t c1 h
    conv => whnf
    refine ⟨⟨(a.length : Int), (len_map _ _).symm, ?_⟩⟩
    conv => whnf
    refine ⟨map_len (f := encS) (n := 1) (fun _ => rfl) _, ?_⟩
    conv => whnf
    replace h := need_some h
    obtain ⟨p2, h⟩ := h
    refine ⟨by simpa only [List.length_map] using p2, ?_⟩
    conv => whnf
    refine ⟨⟨List.map encS (cut b 0 (a.length : Int)), map_cut _ _ _ _, ?_⟩⟩
    conv => whnf
    replace h := bind_some h
    obtain ⟨y3, q4, h⟩ := h
    refine PureP.mono (ref01_Same_walk a (cut b 0 (a.length : Int)) y3 q4) ?_
    rintro _ rfl
    conv => whnf
    refine Tri.run (G := gm_law04_begins) tyOk mixed ?_
    conv => whnf
    refine fin_here ?_
    conv => whnf
    obtain rfl := Option.some.inj h
    rfl
  · replace h := if_f c1 h
    conv => whnf
    refine Tri.run (G := gm_law04_begins) tyOk mixed ?_
    conv => whnf
    refine fin_here ?_
    conv => whnf
    obtain rfl := Option.some.inj h
    rfl
noncomputable def law04_WalLasts_l38 (a1928 : (List File)) (x2206 : Act) (a2246 : Int) (a2247 : (List Int)) : Option ((Int × (List Int)) ⊕ ((List Int))) :=
  if (decide (a2246 < (a1928.length : Int))) then
    need ((a2247.length + 1) * 8 ≤ 140737488355328) <|
    some (.inl ((IntKind.i64.wrap (a2246 + 1)), (a2247 ++ [x2206.N])))
  else
    some (.inr a2247)
noncomputable def law04_WalLasts_l32 (l : (List Act)) (a1927 : Int) (a1928 : (List File)) (a1929 : Int) (a1930 : Int) (a1931 : Bool) (a1932 : Int) (a1933 : (List Str)) (a1934 : Int) (a1935 : Bool) : Option ((Int × (List File) × Int × Int × Bool × Int × (List Str) × Int × Bool) ⊕ ((Bool) ⊕ (Unit))) :=
  if ((decide (a1927 < (l.length : Int))) && (decide (a1927 < 150))) then
    (
      (ix l a1927).bind fun x2206 =>
      if (!(decide (x2206.Kind = 4))) then
        (law04_does ({ D := ({ Files := a1928, Room := a1929, Fuse := a1930, Off := a1931 } : Disk), Seg := a1932, Put := a1933, Safe := a1934, Dead := a1935 } : World_) x2206).bind fun y2211 =>
        some (.inl (y2211.D.Files, y2211.D.Room, y2211.D.Fuse, y2211.D.Off, y2211.Seg, y2211.Put, y2211.Safe, y2211.Dead))
      else
        (loop (fun (s2250 : Int × (List Int)) => law04_WalLasts_l38 a1928 x2206 s2250.1 s2250.2) ((0 : Int), ([] : (List Int)))).bind fun (y2248 : (List Int)) =>
        (ref03_Crash ({ Files := a1928, Room := a1929, Fuse := a1930, Off := a1931 } : Disk) y2248).bind fun y2257 =>
        (wal_Recover y2257 1).bind fun y2259 =>
        if (decide (y2259.2.2.2 = 5)) then
          some (.inr true)
        else
          (law04_begins y2259.2.1 a1933).bind fun y2263 =>
          if ((!(decide (y2259.2.2.2 = 0))) || ((!y2263) || (decide ((y2259.2.1.length : Int) < a1934)))) then
            some (.inr false)
          else
            (wal_Recover y2259.1 1).bind fun y2285 =>
            (ref01_Same y2259.2.1 y2285.2.1).bind fun y2287 =>
            (ref03_Same y2259.1 y2285.1).bind fun y2289 =>
            if ((!(decide (y2285.2.2.2 = 0))) || ((!y2287) || ((!y2289) || (!(decide (y2285.2.2.1 = y2259.2.2.1)))))) then
              some (.inr false)
            else
              some (.inl (y2285.1.Files, y2285.1.Room, y2285.1.Fuse, y2285.1.Off, y2259.2.2.1, y2259.2.1, a1934, false))).bind fun (y2195 : ((List File) × Int × Int × Bool × Int × (List Str) × Int × Bool) ⊕ (Bool)) =>
    match y2195 with
    | (.inl v2197) =>
      some (.inl ((IntKind.i64.wrap (a1927 + 1)), v2197.1, v2197.2.1, v2197.2.2.1, v2197.2.2.2.1, v2197.2.2.2.2.1, v2197.2.2.2.2.2.1, v2197.2.2.2.2.2.2.1, v2197.2.2.2.2.2.2.2))
    | (.inr v2198) =>
      some (.inr (.inl v2198))
  else
    some (.inr (.inr ()))
noncomputable def law04_WalLasts (room : Int) (l : (List Act)) : Option (Bool) :=
  law04_shown.bind fun y1 =>
  (ref03_New room).bind fun y3 =>
  if (!(decide (y3.2 = 0))) then
    some y1
  else
    (loop (fun (s1940 : Int × (List File) × Int × Int × Bool × Int × (List Str) × Int × Bool) => law04_WalLasts_l32 l s1940.1 s1940.2.1 s1940.2.2.1 s1940.2.2.2.1 s1940.2.2.2.2.1 s1940.2.2.2.2.2.1 s1940.2.2.2.2.2.2.1 s1940.2.2.2.2.2.2.2.1 s1940.2.2.2.2.2.2.2.2) ((0 : Int), y3.1.Files, y3.1.Room, y3.1.Fuse, y3.1.Off, (1 : Int), ([] : (List Str)), (0 : Int), false)).bind fun (y1936 : (Bool) ⊕ (Unit)) =>
    match y1936 with
    | (.inl v1938) =>
      some v1938
    | (.inr v1939) =>
      some y1
def gm_law04_WalLasts : Gm := ⟨tys, [], [], []⟩
theorem law04_WalLasts_walk (room : Int) (l : (List Act)) (r : Bool) (h : law04_WalLasts room l = some r) : PureP Try.prog 5 [.v (.int .i64 room), .sl (List.map encAct l)] (fun a => a = .v (.bool r)) := by
  unfold law04_WalLasts at h
  refine pureW (G := gm_law04_WalLasts) tyOk Try.func5 rfl (by kernel_rfl) (by simp [Try.f5]) ?_
  refine Tri.seqK ?_
  refine Tri.run (G := gm_law04_WalLasts) tyOk mixed ?_
  conv => whnf
  refine Tri.seqK ?_
  refine Tri.run (G := gm_law04_WalLasts) tyOk mixed ?_
  conv => whnf
  replace h := bind_some h
  obtain ⟨y1, q2, h⟩ := h
  refine PureP.mono (law04_shown_walk y1 q2) ?_
  rintro _ rfl
  conv => whnf
  refine Tri.seqK ?_
  refine Tri.run (G := gm_law04_WalLasts) tyOk mixed ?_
  conv => whnf
  replace h := bind_some h
  obtain ⟨y3, q4, h⟩ := h
  refine PureP.mono (ref03_New_walk room y3 q4) ?_
  rintro _ rfl
  conv => whnf
  refine Tri.seqK ?_
  refine Tri.seqK ?_
  refine Tri.run (G := gm_law04_WalLasts) tyOk mixed ?_
  conv => whnf
  refine Tri.cond rfl (fun c6 => ?_) (fun c6 => ?_)
  · replace h := if_t c6 h
    refine Tri.seqK ?_
    refine Tri.run (G := gm_law04_WalLasts) tyOk mixed ?_
    conv => whnf
    refine Tri.run (G := gm_law04_WalLasts) tyOk mixed ?_
    conv => whnf
    refine fin_here ?_
    conv => whnf
    obtain rfl := Option.some.inj h
    rfl
  · replace h := if_f c6 h
    refine Tri.run (G := gm_law04_WalLasts) tyOk mixed ?_
    conv => whnf
    refine Tri.seqK ?_
    refine Tri.run (G := gm_law04_WalLasts) tyOk mixed ?_
    conv => whnf
    refine Tri.seqK ?_
    refine Tri.seqK ?_
    refine Tri.run (G := gm_law04_WalLasts) tyOk mixed ?_
    conv => whnf
    refine Tri.block ?_
    replace h := bind_some h
    obtain ⟨y1936, q1937, h⟩ := h
    refine Tri.cut (fun ex S' => (∃ v1938 : Bool, y1936 = (.inl v1938) ∧ ex = .ret ∧ Weak S' ⟨136, 0, ofRegs [(4, .v (.bool v1938))], []⟩) ∨ (∃ v1939 : Unit, y1936 = (.inr v1939) ∧ ex = (.exit 0) ∧ Weak S' ⟨136, 0, ofRegs [(5, .v (.bool y1))], []⟩)) ?_ ?_
    · refine Tri.loopF (fun (s1940 : Int × (List File) × Int × Int × Bool × Int × (List Str) × Int × Bool) => (⟨136, 0, ofRegs [(1, .sl (List.map encAct l)), (5, .v (.bool y1)), (8, .ptr 1 0), (9, .v (.int .i64 s1940.1))], [.gone, .var 46 [.sl (List.map encFile s1940.2.1), .v (.int .i64 s1940.2.2.1), .v (.int .i64 s1940.2.2.2.1), .v (.bool s1940.2.2.2.2.1), .v (.int .i64 s1940.2.2.2.2.2.1), .sl (List.map encS s1940.2.2.2.2.2.2.1), .v (.int .i64 s1940.2.2.2.2.2.2.2.1), .v (.bool s1940.2.2.2.2.2.2.2.2)]]⟩ : St)) q1937 (weak_fin _ rfl rfl rfl (.cons (.gone) (.cons (.var (.cons (.same rfl) (.cons (.same rfl) (.cons (.same rfl) (.cons (.same rfl) (.cons (.same rfl) (.cons (.nil) (.cons (.same rfl) (.cons (.same rfl) (.nil)))))))))) (LeH.rest))) (.cons (.one (.same rfl)) (.cons (.one (.same rfl)) (.cons (.one (.same rfl)) (.cons (.one (.same rfl)) (.nil))))) rfl rfl) ?_
      rintro ⟨a1927, a1928, a1929, a1930, a1931, a1932, a1933, a1934, a1935⟩ v1941 hv r1942
      have hv : law04_WalLasts_l32 l a1927 a1928 a1929 a1930 a1931 a1932 a1933 a1934 a1935 = some v1941 := hv
      unfold law04_WalLasts_l32 at hv
      dsimp only
      refine Tri.seqK ?_
      refine Tri.seqK ?_
      refine Tri.cut (fun ex S' => ex = .normal ∧ Weak S' ⟨136, 0, ofRegs [(1, .sl (List.map encAct l)), (5, .v (.bool y1)), (8, .ptr 1 0), (9, .v (.int .i64 a1927)), (41, .v (.bool ((decide (a1927 < (l.length : Int))) && (decide (a1927 < 150)))))], [.gone, .var 46 [.sl (List.map encFile a1928), .v (.int .i64 a1929), .v (.int .i64 a1930), .v (.bool a1931), .v (.int .i64 a1932), .sl (List.map encS a1933), .v (.int .i64 a1934), .v (.bool a1935)]]⟩) ?_ ?_
      · refine Tri.run (G := gm_law04_WalLasts) tyOk mixed ?_
        conv => whnf
        refine ⟨⟨(l.length : Int), (len_map _ _).symm, ?_⟩⟩
        conv => whnf
        refine cond_mk (fun c1952 => ?_) (fun c1952 => ?_)
        · replace c1952 : (decide (a1927 < (l.length : Int))) = true := c1952
          conv => whnf
          exact ⟨rfl, weak_fin _ rfl rfl rfl (.cons (.same rfl) (.cons (.same rfl) (LeH.rest))) (.cons (.one (.same rfl)) (.cons (.one (.same rfl)) (.cons (.one (.same rfl)) (.cons (.one (.same rfl)) (.cons (.one (.same (show (.v (.bool (decide (a1927 < 150))) : AV) = (.v (.bool ((decide (a1927 < (l.length : Int))) && (decide (a1927 < 150)))) : AV) from by first | (simp [c1952]; done) | simp only [c1952, Bool.or_true, Bool.true_or, Bool.false_or, Bool.or_false, Bool.and_true, Bool.true_and, Bool.and_false, Bool.false_and, Bool.not_true, Bool.not_false, if_true, if_false, Bool.false_eq_true]))) (.nil)))))) rfl rfl⟩
        · replace c1952 : (decide (a1927 < (l.length : Int))) = false := c1952
          conv => whnf
          exact ⟨rfl, weak_fin _ rfl rfl rfl (.cons (.same rfl) (.cons (.same rfl) (LeH.rest))) (.cons (.one (.same rfl)) (.cons (.one (.same rfl)) (.cons (.one (.same rfl)) (.cons (.one (.same rfl)) (.cons (.one (.same (show (.v (.bool false) : AV) = (.v (.bool ((decide (a1927 < (l.length : Int))) && (decide (a1927 < 150)))) : AV) from by first | (simp [c1952]; done) | simp only [c1952, Bool.or_true, Bool.true_or, Bool.false_or, Bool.or_false, Bool.and_true, Bool.true_and, Bool.and_false, Bool.false_and, Bool.not_true, Bool.not_false, if_true, if_false, Bool.false_eq_true]))) (.nil)))))) rfl rfl⟩
      · rintro ex S' ⟨rfl, w1953⟩
        conv => whnf
        refine Tri.weak w1953 ?_
        refine Tri.cond rfl (fun c1954 => ?_) (fun c1954 => ?_)
        · replace hv := if_t c1954 hv
          refine Tri.run (G := gm_law04_WalLasts) tyOk mixed ?_
          conv => whnf
          refine Tri.seqK ?_
          replace hv := bind_some hv
          obtain ⟨y2195, q2196, hv⟩ := hv
          refine Tri.cut (fun ex S' => (∃ v2197 : (List File) × Int × Int × Bool × Int × (List Str) × Int × Bool, y2195 = (.inl v2197) ∧ ex = .normal ∧ Weak S' ⟨136, 0, ofRegs [(1, .sl (List.map encAct l)), (5, .v (.bool y1)), (8, .ptr 1 0), (9, .v (.int .i64 a1927))], [.gone, .var 46 [.sl (List.map encFile v2197.1), .v (.int .i64 v2197.2.1), .v (.int .i64 v2197.2.2.1), .v (.bool v2197.2.2.2.1), .v (.int .i64 v2197.2.2.2.2.1), .sl (List.map encS v2197.2.2.2.2.2.1), .v (.int .i64 v2197.2.2.2.2.2.2.1), .v (.bool v2197.2.2.2.2.2.2.2)]]⟩) ∨ (∃ v2198 : Bool, y2195 = (.inr v2198) ∧ ex = .ret ∧ Weak S' ⟨136, 0, ofRegs [(4, .v (.bool v2198))], []⟩)) ?_ ?_
          · refine Tri.block ?_
            refine Tri.seqK ?_
            refine Tri.seqK ?_
            refine Tri.run (G := gm_law04_WalLasts) tyOk mixed ?_
            conv => whnf
            replace q2196 := bind_some q2196
            obtain ⟨x2206, q2207, q2196⟩ := q2196
            refine ⟨(ix_some q2207).1, ?_⟩
            conv => whnf
            refine ⟨⟨_, map_get encAct (ix_some q2207).2, ?_⟩⟩
            conv => whnf
            refine ⟨rfl, ?_⟩
            conv => whnf
            refine Tri.cond rfl (fun c2208 => ?_) (fun c2208 => ?_)
            · replace q2196 := if_t c2208 q2196
              refine Tri.seqK ?_
              refine Tri.run (G := gm_law04_WalLasts) tyOk mixed ?_
              conv => whnf
              refine Draw.one 6 (.take 0 (.take 1 (.take 2 (.take 3 (.take 4 (.alt 5 (.fin) (.nil))))))) [] (by kernel_rfl) ?_
              conv => whnf
              refine ⟨(ix_some q2207).1, ?_⟩
              conv => whnf
              refine ⟨⟨_, map_get encAct (ix_some q2207).2, ?_⟩⟩
              conv => whnf
              refine ⟨rfl, ?_⟩
              conv => whnf
              refine ⟨?_, ?_⟩
              · conv => whnf
                replace q2196 := bind_some q2196
                obtain ⟨y2211, q2212, q2196⟩ := q2196
                refine PureP.mono (law04_does_walk ({ D := ({ Files := a1928, Room := a1929, Fuse := a1930, Off := a1931 } : Disk), Seg := a1932, Put := a1933, Safe := a1934, Dead := a1935 } : World_) x2206 y2211 q2212) ?_
                rintro _ rfl
                conv => whnf
                refine Tri.run (G := gm_law04_WalLasts) tyOk mixed ?_
                conv => whnf
                obtain rfl := Option.some.inj q2196
                exact Or.inl ⟨_, rfl, rfl, weak_fin _ rfl rfl rfl (.cons (.same rfl) (.cons (.same rfl) (LeH.rest))) (.cons (.one (.same rfl)) (.cons (.one (.same rfl)) (.cons (.one (.same rfl)) (.cons (.one (.same rfl)) (.nil))))) rfl rfl⟩
              · conv => whnf
                trivial
            · replace q2196 := if_f c2208 q2196
              refine Tri.run (G := gm_law04_WalLasts) tyOk mixed ?_
              conv => whnf
              refine Tri.seqK ?_
              refine Tri.run (G := gm_law04_WalLasts) tyOk mixed ?_
              conv => whnf
              refine Tri.seqK ?_
              refine Tri.seqK ?_
              refine Tri.run (G := gm_law04_WalLasts) tyOk mixed ?_
              conv => whnf
              refine Tri.block ?_
              replace q2196 := bind_some q2196
              obtain ⟨y2248, q2249, q2196⟩ := q2196
              refine Tri.cut (fun ex S' => ex = (.exit 2) ∧ Weak S' ⟨136, 0, ofRegs [(1, .sl (List.map encAct l)), (5, .v (.bool y1)), (8, .ptr 1 0), (9, .v (.int .i64 a1927)), (10, .row 2 ((List.map (encI .i64) y2248).length))], [.gone, .var 46 [.sl (List.map encFile a1928), .v (.int .i64 a1929), .v (.int .i64 a1930), .v (.bool a1931), .v (.int .i64 a1932), .sl (List.map encS a1933), .v (.int .i64 a1934), .v (.bool a1935)], .row 3 1 (List.map (encI .i64) y2248)]⟩) ?_ ?_
              · refine Tri.loopF (fun (s2250 : Int × (List Int)) => (⟨136, 0, ofRegs [(1, .sl (List.map encAct l)), (5, .v (.bool y1)), (8, .ptr 1 0), (9, .v (.int .i64 a1927)), (10, .row 2 ((List.map (encI .i64) s2250.2).length)), (11, .v (.int .i64 s2250.1))], [.gone, .var 46 [.sl (List.map encFile a1928), .v (.int .i64 a1929), .v (.int .i64 a1930), .v (.bool a1931), .v (.int .i64 a1932), .sl (List.map encS a1933), .v (.int .i64 a1934), .v (.bool a1935)], .row 3 1 (List.map (encI .i64) s2250.2)]⟩ : St)) q2249 (Weak.trans (weak_nil 10 3 1 rfl) (weak_fin _ rfl rfl rfl (.cons (.same rfl) (.cons (.same rfl) (.cons (.same rfl) (LeH.rest)))) (.cons (.one (.same rfl)) (.cons (.one (.same rfl)) (.cons (.one (.same rfl)) (.cons (.one (.same rfl)) (.cons (.one (.same (show (.row 2 0 : AV) = (.row 2 ((List.map (encI .i64) []).length) : AV) from congrArg (AV.row 2) (by simp)))) (.cons (.one (.same rfl)) (.nil))))))) rfl rfl)) ?_
                rintro ⟨a2246, a2247⟩ v2251 hv r2252
                have hv : law04_WalLasts_l38 a1928 x2206 a2246 a2247 = some v2251 := hv
                unfold law04_WalLasts_l38 at hv
                dsimp only
                refine Tri.seqK ?_
                refine Tri.seqK ?_
                refine Tri.run (G := gm_law04_WalLasts) tyOk mixed ?_
                conv => whnf
                refine ⟨⟨(a1928.length : Int), (len_map _ _).symm, ?_⟩⟩
                conv => whnf
                refine Tri.cond rfl (fun c2254 => ?_) (fun c2254 => ?_)
                · replace hv := if_t c2254 hv
                  refine Tri.run (G := gm_law04_WalLasts) tyOk mixed ?_
                  conv => whnf
                  refine Tri.seqK ?_
                  refine Tri.block ?_
                  refine Tri.run (G := gm_law04_WalLasts) tyOk mixed ?_
                  conv => whnf
                  refine ⟨(ix_some q2207).1, ?_⟩
                  conv => whnf
                  refine ⟨⟨_, map_get encAct (ix_some q2207).2, ?_⟩⟩
                  conv => whnf
                  refine ⟨rfl, ?_⟩
                  conv => whnf
                  refine ⟨⟨List.map (encI .i64) [x2206.N], rfl, ?_⟩⟩
                  conv => whnf
                  refine ⟨rfl, ?_⟩
                  conv => whnf
                  refine ⟨rfl, ?_⟩
                  conv => whnf
                  replace hv := need_some hv
                  obtain ⟨p2255, hv⟩ := hv
                  refine ⟨by simp only [List.length_map]; exact p2255, ?_⟩
                  conv => whnf
                  refine ⟨⟨List.map (encI .i64) (a2247 ++ [x2206.N]), map_app (encI .i64) _ _ rfl rfl, ?_⟩⟩
                  conv => whnf
                  refine Tri.run (G := gm_law04_WalLasts) tyOk mixed ?_
                  conv => whnf
                  obtain rfl := Option.some.inj hv
                  exact ⟨_, rfl, weak_fin _ rfl rfl rfl (.cons (.same rfl) (.cons (.same rfl) (.cons (.same rfl) (LeH.rest)))) (.cons (.one (.same rfl)) (.cons (.one (.same rfl)) (.cons (.one (.same rfl)) (.cons (.one (.same rfl)) (.cons (.one (.same rfl)) (.cons (.one (.same rfl)) (.nil))))))) rfl rfl⟩
                · replace hv := if_f c2254 hv
                  refine Tri.run (G := gm_law04_WalLasts) tyOk mixed ?_
                  conv => whnf
                  obtain rfl := Option.some.inj hv
                  obtain rfl := r2252 _ rfl
                  exact ⟨rfl, weak_fin _ rfl rfl rfl (.cons (.same rfl) (.cons (.same rfl) (.cons (.same rfl) (LeH.rest)))) (.cons (.one (.same rfl)) (.cons (.one (.same rfl)) (.cons (.one (.same rfl)) (.cons (.one (.same rfl)) (.cons (.one (.same rfl)) (.nil)))))) rfl rfl⟩
              · rintro ex S' ⟨rfl, w2256⟩
                conv => whnf
                refine Tri.weak w2256 ?_
                refine Tri.seqK ?_
                refine Tri.run (G := gm_law04_WalLasts) tyOk mixed ?_
                conv => whnf
                refine ⟨rfl, ?_⟩
                conv => whnf
                replace q2196 := bind_some q2196
                obtain ⟨y2257, q2258, q2196⟩ := q2196
                refine PureP.mono (ref03_Crash_walk ({ Files := a1928, Room := a1929, Fuse := a1930, Off := a1931 } : Disk) y2248 y2257 q2258) ?_
                rintro _ rfl
                conv => whnf
                replace q2196 := bind_some q2196
                obtain ⟨y2259, q2260, q2196⟩ := q2196
                refine PureP.mono (wal_Recover_walk y2257 1 y2259 q2260) ?_
                rintro _ rfl
                conv => whnf
                refine Tri.seqK ?_
                refine Tri.seqK ?_
                refine Tri.run (G := gm_law04_WalLasts) tyOk mixed ?_
                conv => whnf
                refine Tri.cond rfl (fun c2262 => ?_) (fun c2262 => ?_)
                · replace q2196 := if_t c2262 q2196
                  refine Tri.seqK ?_
                  refine Tri.run (G := gm_law04_WalLasts) tyOk mixed ?_
                  conv => whnf
                  refine Tri.run (G := gm_law04_WalLasts) tyOk mixed ?_
                  conv => whnf
                  obtain rfl := Option.some.inj q2196
                  exact Or.inr (⟨_, rfl, rfl, weak_fin _ rfl rfl rfl (LeH.rest) (.cons (.one (.same rfl)) (.nil)) rfl rfl⟩)
                · replace q2196 := if_f c2262 q2196
                  refine Tri.run (G := gm_law04_WalLasts) tyOk mixed ?_
                  conv => whnf
                  refine Tri.seqK ?_
                  refine Tri.run (G := gm_law04_WalLasts) tyOk mixed ?_
                  conv => whnf
                  replace q2196 := bind_some q2196
                  obtain ⟨y2263, q2264, q2196⟩ := q2196
                  refine PureP.mono (law04_begins_walk y2259.2.1 a1933 y2263 q2264) ?_
                  rintro _ rfl
                  conv => whnf
                  refine Tri.seqK ?_
                  refine Tri.seqK ?_
                  refine Tri.cut (fun ex S' => ex = .normal ∧ Weak S' ⟨136, 0, ofRegs [(1, .sl (List.map encAct l)), (5, .v (.bool y1)), (8, .ptr 1 0), (9, .v (.int .i64 a1927)), (12, .ptr 3 0), (13, .sl (List.map encS y2259.2.1)), (14, .v (.int .i64 y2259.2.2.1)), (100, .v (.bool ((!(decide (y2259.2.2.2 = 0))) || ((!y2263) || (decide ((y2259.2.1.length : Int) < a1934))))))], [.gone, .var 46 [.sl (List.map encFile a1928), .v (.int .i64 a1929), .v (.int .i64 a1930), .v (.bool a1931), .v (.int .i64 a1932), .sl (List.map encS a1933), .v (.int .i64 a1934), .v (.bool a1935)], .gone, .var 31 [.sl (List.map encFile y2259.1.Files), .v (.int .i64 y2259.1.Room), .v (.int .i64 y2259.1.Fuse), .v (.bool y2259.1.Off)]]⟩) ?_ ?_
                  · refine Tri.run (G := gm_law04_WalLasts) tyOk mixed ?_
                    conv => whnf
                    refine cond_mk (fun c2281 => ?_) (fun c2281 => ?_)
                    · replace c2281 : (!(decide (y2259.2.2.2 = 0))) = true := c2281
                      conv => whnf
                      exact ⟨rfl, weak_fin _ rfl rfl rfl (.cons (.same rfl) (.cons (.same rfl) (.cons (.gone) (.cons (.same rfl) (LeH.rest))))) (.cons (.one (.same rfl)) (.cons (.one (.same rfl)) (.cons (.one (.same rfl)) (.cons (.one (.same rfl)) (.cons (.one (.same rfl)) (.cons (.one (.same rfl)) (.cons (.one (.same rfl)) (.cons (.one (.same (show (.v (.bool true) : AV) = (.v (.bool ((!(decide (y2259.2.2.2 = 0))) || ((!y2263) || (decide ((y2259.2.1.length : Int) < a1934))))) : AV) from by first | (simp [c2281]; done) | simp only [c2281, Bool.or_true, Bool.true_or, Bool.false_or, Bool.or_false, Bool.and_true, Bool.true_and, Bool.and_false, Bool.false_and, Bool.not_true, Bool.not_false, if_true, if_false, Bool.false_eq_true]))) (.nil))))))))) rfl rfl⟩
                    · replace c2281 : (!(decide (y2259.2.2.2 = 0))) = false := c2281
                      conv => whnf
                      refine cond_mk (fun c2282 => ?_) (fun c2282 => ?_)
                      · replace c2282 : (!y2263) = true := c2282
                        conv => whnf
                        exact ⟨rfl, weak_fin _ rfl rfl rfl (.cons (.same rfl) (.cons (.same rfl) (.cons (.gone) (.cons (.same rfl) (LeH.rest))))) (.cons (.one (.same rfl)) (.cons (.one (.same rfl)) (.cons (.one (.same rfl)) (.cons (.one (.same rfl)) (.cons (.one (.same rfl)) (.cons (.one (.same rfl)) (.cons (.one (.same rfl)) (.cons (.one (.same (show (.v (.bool true) : AV) = (.v (.bool ((!(decide (y2259.2.2.2 = 0))) || ((!y2263) || (decide ((y2259.2.1.length : Int) < a1934))))) : AV) from by first | (simp [c2281, c2282]; done) | simp only [c2281, c2282, Bool.or_true, Bool.true_or, Bool.false_or, Bool.or_false, Bool.and_true, Bool.true_and, Bool.and_false, Bool.false_and, Bool.not_true, Bool.not_false, if_true, if_false, Bool.false_eq_true]))) (.nil))))))))) rfl rfl⟩
                      · replace c2282 : (!y2263) = false := c2282
                        conv => whnf
                        refine ⟨⟨(y2259.2.1.length : Int), (len_map _ _).symm, ?_⟩⟩
                        conv => whnf
                        exact ⟨rfl, weak_fin _ rfl rfl rfl (.cons (.same rfl) (.cons (.same rfl) (.cons (.gone) (.cons (.same rfl) (LeH.rest))))) (.cons (.one (.same rfl)) (.cons (.one (.same rfl)) (.cons (.one (.same rfl)) (.cons (.one (.same rfl)) (.cons (.one (.same rfl)) (.cons (.one (.same rfl)) (.cons (.one (.same rfl)) (.cons (.one (.same (show (.v (.bool (decide ((y2259.2.1.length : Int) < a1934))) : AV) = (.v (.bool ((!(decide (y2259.2.2.2 = 0))) || ((!y2263) || (decide ((y2259.2.1.length : Int) < a1934))))) : AV) from by first | (simp [c2281, c2282]; done) | simp only [c2281, c2282, Bool.or_true, Bool.true_or, Bool.false_or, Bool.or_false, Bool.and_true, Bool.true_and, Bool.and_false, Bool.false_and, Bool.not_true, Bool.not_false, if_true, if_false, Bool.false_eq_true]))) (.nil))))))))) rfl rfl⟩
                  · rintro ex S' ⟨rfl, w2283⟩
                    conv => whnf
                    refine Tri.weak w2283 ?_
                    refine Tri.cond rfl (fun c2284 => ?_) (fun c2284 => ?_)
                    · replace q2196 := if_t c2284 q2196
                      refine Tri.seqK ?_
                      refine Tri.run (G := gm_law04_WalLasts) tyOk mixed ?_
                      conv => whnf
                      refine Tri.run (G := gm_law04_WalLasts) tyOk mixed ?_
                      conv => whnf
                      obtain rfl := Option.some.inj q2196
                      exact Or.inr (⟨_, rfl, rfl, weak_fin _ rfl rfl rfl (LeH.rest) (.cons (.one (.same rfl)) (.nil)) rfl rfl⟩)
                    · replace q2196 := if_f c2284 q2196
                      refine Tri.run (G := gm_law04_WalLasts) tyOk mixed ?_
                      conv => whnf
                      refine Tri.seqK ?_
                      refine Tri.run (G := gm_law04_WalLasts) tyOk mixed ?_
                      conv => whnf
                      replace q2196 := bind_some q2196
                      obtain ⟨y2285, q2286, q2196⟩ := q2196
                      refine PureP.mono (wal_Recover_walk y2259.1 1 y2285 q2286) ?_
                      rintro _ rfl
                      conv => whnf
                      refine Tri.seqK ?_
                      refine Tri.run (G := gm_law04_WalLasts) tyOk mixed ?_
                      conv => whnf
                      replace q2196 := bind_some q2196
                      obtain ⟨y2287, q2288, q2196⟩ := q2196
                      refine PureP.mono (ref01_Same_walk y2259.2.1 y2285.2.1 y2287 q2288) ?_
                      rintro _ rfl
                      conv => whnf
                      refine Tri.seqK ?_
                      refine Tri.run (G := gm_law04_WalLasts) tyOk mixed ?_
                      conv => whnf
                      replace q2196 := bind_some q2196
                      obtain ⟨y2289, q2290, q2196⟩ := q2196
                      refine PureP.mono (ref03_Same_walk y2259.1 y2285.1 y2289 q2290) ?_
                      rintro _ rfl
                      conv => whnf
                      refine Tri.seqK ?_
                      refine Tri.seqK ?_
                      refine Tri.cut (fun ex S' => ex = .normal ∧ Weak S' ⟨136, 0, ofRegs [(1, .sl (List.map encAct l)), (5, .v (.bool y1)), (8, .ptr 1 0), (9, .v (.int .i64 a1927)), (13, .sl (List.map encS y2259.2.1)), (14, .v (.int .i64 y2259.2.2.1)), (17, .ptr 4 0), (128, .v (.bool ((!(decide (y2285.2.2.2 = 0))) || ((!y2287) || ((!y2289) || (!(decide (y2285.2.2.1 = y2259.2.2.1))))))))], [.gone, .var 46 [.sl (List.map encFile a1928), .v (.int .i64 a1929), .v (.int .i64 a1930), .v (.bool a1931), .v (.int .i64 a1932), .sl (List.map encS a1933), .v (.int .i64 a1934), .v (.bool a1935)], .gone, .gone, .var 31 [.sl (List.map encFile y2285.1.Files), .v (.int .i64 y2285.1.Room), .v (.int .i64 y2285.1.Fuse), .v (.bool y2285.1.Off)]]⟩) ?_ ?_
                      · refine Tri.run (G := gm_law04_WalLasts) tyOk mixed ?_
                        conv => whnf
                        refine cond_mk (fun c2314 => ?_) (fun c2314 => ?_)
                        · replace c2314 : (!(decide (y2285.2.2.2 = 0))) = true := c2314
                          conv => whnf
                          exact ⟨rfl, weak_fin _ rfl rfl rfl (.cons (.same rfl) (.cons (.same rfl) (.cons (.same rfl) (.cons (.gone) (.cons (.same rfl) (LeH.rest)))))) (.cons (.one (.same rfl)) (.cons (.one (.same rfl)) (.cons (.one (.same rfl)) (.cons (.one (.same rfl)) (.cons (.one (.same rfl)) (.cons (.one (.same rfl)) (.cons (.one (.same rfl)) (.cons (.one (.same (show (.v (.bool true) : AV) = (.v (.bool ((!(decide (y2285.2.2.2 = 0))) || ((!y2287) || ((!y2289) || (!(decide (y2285.2.2.1 = y2259.2.2.1))))))) : AV) from by first | (simp [c2314]; done) | simp only [c2314, Bool.or_true, Bool.true_or, Bool.false_or, Bool.or_false, Bool.and_true, Bool.true_and, Bool.and_false, Bool.false_and, Bool.not_true, Bool.not_false, if_true, if_false, Bool.false_eq_true]))) (.nil))))))))) rfl rfl⟩
                        · replace c2314 : (!(decide (y2285.2.2.2 = 0))) = false := c2314
                          conv => whnf
                          refine cond_mk (fun c2315 => ?_) (fun c2315 => ?_)
                          · replace c2315 : (!y2287) = true := c2315
                            conv => whnf
                            exact ⟨rfl, weak_fin _ rfl rfl rfl (.cons (.same rfl) (.cons (.same rfl) (.cons (.same rfl) (.cons (.gone) (.cons (.same rfl) (LeH.rest)))))) (.cons (.one (.same rfl)) (.cons (.one (.same rfl)) (.cons (.one (.same rfl)) (.cons (.one (.same rfl)) (.cons (.one (.same rfl)) (.cons (.one (.same rfl)) (.cons (.one (.same rfl)) (.cons (.one (.same (show (.v (.bool true) : AV) = (.v (.bool ((!(decide (y2285.2.2.2 = 0))) || ((!y2287) || ((!y2289) || (!(decide (y2285.2.2.1 = y2259.2.2.1))))))) : AV) from by first | (simp [c2314, c2315]; done) | simp only [c2314, c2315, Bool.or_true, Bool.true_or, Bool.false_or, Bool.or_false, Bool.and_true, Bool.true_and, Bool.and_false, Bool.false_and, Bool.not_true, Bool.not_false, if_true, if_false, Bool.false_eq_true]))) (.nil))))))))) rfl rfl⟩
                          · replace c2315 : (!y2287) = false := c2315
                            conv => whnf
                            refine cond_mk (fun c2316 => ?_) (fun c2316 => ?_)
                            · replace c2316 : (!y2289) = true := c2316
                              conv => whnf
                              exact ⟨rfl, weak_fin _ rfl rfl rfl (.cons (.same rfl) (.cons (.same rfl) (.cons (.same rfl) (.cons (.gone) (.cons (.same rfl) (LeH.rest)))))) (.cons (.one (.same rfl)) (.cons (.one (.same rfl)) (.cons (.one (.same rfl)) (.cons (.one (.same rfl)) (.cons (.one (.same rfl)) (.cons (.one (.same rfl)) (.cons (.one (.same rfl)) (.cons (.one (.same (show (.v (.bool true) : AV) = (.v (.bool ((!(decide (y2285.2.2.2 = 0))) || ((!y2287) || ((!y2289) || (!(decide (y2285.2.2.1 = y2259.2.2.1))))))) : AV) from by first | (simp [c2314, c2315, c2316]; done) | simp only [c2314, c2315, c2316, Bool.or_true, Bool.true_or, Bool.false_or, Bool.or_false, Bool.and_true, Bool.true_and, Bool.and_false, Bool.false_and, Bool.not_true, Bool.not_false, if_true, if_false, Bool.false_eq_true]))) (.nil))))))))) rfl rfl⟩
                            · replace c2316 : (!y2289) = false := c2316
                              conv => whnf
                              exact ⟨rfl, weak_fin _ rfl rfl rfl (.cons (.same rfl) (.cons (.same rfl) (.cons (.same rfl) (.cons (.gone) (.cons (.same rfl) (LeH.rest)))))) (.cons (.one (.same rfl)) (.cons (.one (.same rfl)) (.cons (.one (.same rfl)) (.cons (.one (.same rfl)) (.cons (.one (.same rfl)) (.cons (.one (.same rfl)) (.cons (.one (.same rfl)) (.cons (.one (.same (show (.v (.bool (!(decide (y2285.2.2.1 = y2259.2.2.1)))) : AV) = (.v (.bool ((!(decide (y2285.2.2.2 = 0))) || ((!y2287) || ((!y2289) || (!(decide (y2285.2.2.1 = y2259.2.2.1))))))) : AV) from by first | (simp [c2314, c2315, c2316]; done) | simp only [c2314, c2315, c2316, Bool.or_true, Bool.true_or, Bool.false_or, Bool.or_false, Bool.and_true, Bool.true_and, Bool.and_false, Bool.false_and, Bool.not_true, Bool.not_false, if_true, if_false, Bool.false_eq_true]))) (.nil))))))))) rfl rfl⟩
                      · rintro ex S' ⟨rfl, w2317⟩
                        conv => whnf
                        refine Tri.weak w2317 ?_
                        refine Tri.cond rfl (fun c2318 => ?_) (fun c2318 => ?_)
                        · replace q2196 := if_t c2318 q2196
                          refine Tri.seqK ?_
                          refine Tri.run (G := gm_law04_WalLasts) tyOk mixed ?_
                          conv => whnf
                          refine Tri.run (G := gm_law04_WalLasts) tyOk mixed ?_
                          conv => whnf
                          obtain rfl := Option.some.inj q2196
                          exact Or.inr (⟨_, rfl, rfl, weak_fin _ rfl rfl rfl (LeH.rest) (.cons (.one (.same rfl)) (.nil)) rfl rfl⟩)
                        · replace q2196 := if_f c2318 q2196
                          refine Tri.run (G := gm_law04_WalLasts) tyOk mixed ?_
                          conv => whnf
                          refine Tri.run (G := gm_law04_WalLasts) tyOk mixed ?_
                          conv => whnf
                          obtain rfl := Option.some.inj q2196
                          exact Or.inl ⟨_, rfl, rfl, weak_fin _ rfl rfl rfl (.cons (.same rfl) (.cons (.same rfl) (LeH.rest))) (.cons (.one (.same rfl)) (.cons (.one (.same rfl)) (.cons (.one (.same rfl)) (.cons (.one (.same rfl)) (.nil))))) rfl rfl⟩
          · rintro ex S' (⟨v2197, rfl, rfl, w2319⟩ | ⟨v2198, rfl, rfl, w2319⟩)
            · dsimp only at hv
              conv => whnf
              refine Tri.weak w2319 ?_
              refine Tri.run (G := gm_law04_WalLasts) tyOk mixed ?_
              conv => whnf
              obtain rfl := Option.some.inj hv
              exact ⟨_, rfl, weak_fin _ rfl rfl rfl (.cons (.same rfl) (.cons (.same rfl) (LeH.rest))) (.cons (.one (.same rfl)) (.cons (.one (.same rfl)) (.cons (.one (.same rfl)) (.cons (.one (.same rfl)) (.nil))))) rfl rfl⟩
            · dsimp only at hv
              conv => whnf
              obtain rfl := Option.some.inj hv
              obtain rfl := r1942 _ rfl
              exact Or.inl ⟨_, rfl, rfl, Weak.trans w2319 (weak_fin _ rfl rfl rfl (LeH.rest) (.cons (.one (.same rfl)) (.nil)) rfl rfl)⟩
        · replace hv := if_f c1954 hv
          refine Tri.run (G := gm_law04_WalLasts) tyOk mixed ?_
          conv => whnf
          obtain rfl := Option.some.inj hv
          obtain rfl := r1942 _ rfl
          exact Or.inr (⟨_, rfl, rfl, weak_fin _ rfl rfl rfl (LeH.rest) (.cons (.one (.same rfl)) (.nil)) rfl rfl⟩)
    · rintro ex S' (⟨v1938, rfl, rfl, w2320⟩ | ⟨v1939, rfl, rfl, w2320⟩)
      · dsimp only at h
        conv => whnf
        refine fin_pre w2320 ?_
        conv => whnf
        obtain rfl := Option.some.inj h
        rfl
      · dsimp only at h
        conv => whnf
        refine Tri.weak w2320 ?_
        refine Tri.seqK ?_
        refine Tri.run (G := gm_law04_WalLasts) tyOk mixed ?_
        conv => whnf
        refine Tri.run (G := gm_law04_WalLasts) tyOk mixed ?_
        conv => whnf
        refine fin_here ?_
        conv => whnf
        obtain rfl := Option.some.inj h
        rfl
noncomputable def law04_WalCut_l2 (l : (List Str)) (a117 : Str) (a118 : Int) : Option ((Str × Int) ⊕ ((Unit) ⊕ (Str))) :=
  if (decide (a118 < (l.length : Int))) then
    (ix l a118).bind fun x140 =>
    if (decide ((x140.length : Int) > 2048)) then
      some (.inr (.inl ()))
    else
      (ref02_Seal x140).bind fun y143 =>
      need (a117.length + y143.length ≤ 9223372036854775807) <|
      some (.inl ((a117 ++ y143), (IntKind.i64.wrap (a118 + 1))))
  else
    some (.inr (.inr a117))
noncomputable def law04_WalCut (l : (List Str)) (rec : Str) (cut_ : Int) : Option (Bool) :=
  law04_shown.bind fun y1 =>
  (loop (fun (s123 : Str × Int) => law04_WalCut_l2 l s123.1 s123.2) (([] : Str), (0 : Int))).bind fun (y119 : (Unit) ⊕ (Str)) =>
  match y119 with
  | (.inl v121) =>
    some y1
  | (.inr v122) =>
    (ref02_Seal rec).bind fun y147 =>
    if ((decide (cut_ < 0)) || (decide (cut_ ≥ (y147.length : Int)))) then
      some y1
    else
      need (0 ≤ (0 : Int) ∧ 0 ≤ cut_ ∧ cut_ ≤ (y147.length : Int)) <|
      need (v122.length + (cut y147 0 cut_).length ≤ 9223372036854775807) <|
      (wal_Scan (v122 ++ (cut y147 0 cut_))).bind fun y163 =>
      (ref01_Same l y163.1).bind fun y165 =>
      if y1 then
        if y165 then
          some (decide (y163.2 = (v122.length : Int)))
        else
          some false
      else
        some false
def gm_law04_WalCut : Gm := ⟨tys, [], [], []⟩
theorem law04_WalCut_walk (l : (List Str)) (rec : Str) (cut_ : Int) (r : Bool) (h : law04_WalCut l rec cut_ = some r) : PureP Try.prog 6 [.sl (List.map encS l), .v (.string (bs rec)), .v (.int .i64 cut_)] (fun a => a = .v (.bool r)) := by
  unfold law04_WalCut at h
  refine pureW (G := gm_law04_WalCut) tyOk Try.func6 rfl (by kernel_rfl) (by simp [Try.f6]) ?_
  refine Tri.seqK ?_
  refine Tri.run (G := gm_law04_WalCut) tyOk mixed ?_
  conv => whnf
  refine Tri.seqK ?_
  refine Tri.run (G := gm_law04_WalCut) tyOk mixed ?_
  conv => whnf
  replace h := bind_some h
  obtain ⟨y1, q2, h⟩ := h
  refine PureP.mono (law04_shown_walk y1 q2) ?_
  rintro _ rfl
  conv => whnf
  refine Tri.seqK ?_
  refine Tri.run (G := gm_law04_WalCut) tyOk mixed ?_
  conv => whnf
  refine Tri.seqK ?_
  refine Tri.seqK ?_
  refine Tri.run (G := gm_law04_WalCut) tyOk mixed ?_
  conv => whnf
  refine Tri.block ?_
  replace h := bind_some h
  obtain ⟨y119, q120, h⟩ := h
  refine Tri.cut (fun ex S' => (∃ v121 : Unit, y119 = (.inl v121) ∧ ex = .ret ∧ Weak S' ⟨68, 0, ofRegs [(6, .v (.bool y1))], []⟩) ∨ (∃ v122 : Str, y119 = (.inr v122) ∧ ex = (.exit 0) ∧ Weak S' ⟨68, 0, ofRegs [(0, .sl (List.map encS l)), (1, .v (.string (bs rec))), (2, .v (.int .i64 cut_)), (7, .v (.bool y1)), (8, .v (.string (bs v122)))], []⟩)) ?_ ?_
  · refine Tri.loopF (fun (s123 : Str × Int) => (⟨68, 0, ofRegs [(0, .sl (List.map encS l)), (1, .v (.string (bs rec))), (2, .v (.int .i64 cut_)), (7, .v (.bool y1)), (8, .v (.string (bs s123.1))), (9, .v (.int .i64 s123.2))], []⟩ : St)) q120 (weak_fin _ rfl rfl rfl (LeH.rest) (.cons (.one (.same rfl)) (.cons (.one (.same rfl)) (.cons (.one (.same rfl)) (.cons (.one (.same rfl)) (.cons (.one (.same rfl)) (.cons (.one (.same rfl)) (.nil))))))) rfl rfl) ?_
    rintro ⟨a117, a118⟩ v124 hv r125
    have hv : law04_WalCut_l2 l a117 a118 = some v124 := hv
    unfold law04_WalCut_l2 at hv
    dsimp only
    refine Tri.seqK ?_
    refine Tri.seqK ?_
    refine Tri.run (G := gm_law04_WalCut) tyOk mixed ?_
    conv => whnf
    refine ⟨⟨(l.length : Int), (len_map _ _).symm, ?_⟩⟩
    conv => whnf
    refine Tri.cond rfl (fun c127 => ?_) (fun c127 => ?_)
    · replace hv := if_t c127 hv
      refine Tri.run (G := gm_law04_WalCut) tyOk mixed ?_
      conv => whnf
      refine Tri.seqK ?_
      refine Tri.block ?_
      refine Tri.seqK ?_
      refine Tri.seqK ?_
      refine Tri.run (G := gm_law04_WalCut) tyOk mixed ?_
      conv => whnf
      replace hv := bind_some hv
      obtain ⟨x140, q141, hv⟩ := hv
      refine ⟨(ix_some q141).1, ?_⟩
      conv => whnf
      refine ⟨⟨_, map_get encS (ix_some q141).2, ?_⟩⟩
      conv => whnf
      refine ⟨rfl, ?_⟩
      conv => whnf
      refine ⟨⟨(x140.length : Int), rfl, ?_⟩⟩
      conv => whnf
      refine Tri.cond rfl (fun c142 => ?_) (fun c142 => ?_)
      · replace hv := if_t c142 hv
        refine Tri.seqK ?_
        refine Tri.run (G := gm_law04_WalCut) tyOk mixed ?_
        conv => whnf
        refine Tri.run (G := gm_law04_WalCut) tyOk mixed ?_
        conv => whnf
        obtain rfl := Option.some.inj hv
        obtain rfl := r125 _ rfl
        exact Or.inl ⟨_, rfl, rfl, weak_fin _ rfl rfl rfl (LeH.rest) (.cons (.one (.same rfl)) (.nil)) rfl rfl⟩
      · replace hv := if_f c142 hv
        refine Tri.run (G := gm_law04_WalCut) tyOk mixed ?_
        conv => whnf
        refine Tri.run (G := gm_law04_WalCut) tyOk mixed ?_
        conv => whnf
        refine ⟨(ix_some q141).1, ?_⟩
        conv => whnf
        refine ⟨⟨_, map_get encS (ix_some q141).2, ?_⟩⟩
        conv => whnf
        refine ⟨rfl, ?_⟩
        conv => whnf
        replace hv := bind_some hv
        obtain ⟨y143, q144, hv⟩ := hv
        refine PureP.mono (ref02_Seal_walk x140 y143 q144) ?_
        rintro _ rfl
        conv => whnf
        replace hv := need_some hv
        obtain ⟨p145, hv⟩ := hv
        refine ⟨p145, ?_⟩
        conv => whnf
        refine ⟨⟨bs (a117 ++ y143), bs_append _ _, ?_⟩⟩
        conv => whnf
        refine Tri.run (G := gm_law04_WalCut) tyOk mixed ?_
        conv => whnf
        obtain rfl := Option.some.inj hv
        exact ⟨_, rfl, weak_fin _ rfl rfl rfl (LeH.rest) (.cons (.one (.same rfl)) (.cons (.one (.same rfl)) (.cons (.one (.same rfl)) (.cons (.one (.same rfl)) (.cons (.one (.same rfl)) (.cons (.one (.same rfl)) (.nil))))))) rfl rfl⟩
    · replace hv := if_f c127 hv
      refine Tri.run (G := gm_law04_WalCut) tyOk mixed ?_
      conv => whnf
      obtain rfl := Option.some.inj hv
      obtain rfl := r125 _ rfl
      exact Or.inr (⟨_, rfl, rfl, weak_fin _ rfl rfl rfl (LeH.rest) (.cons (.one (.same rfl)) (.cons (.one (.same rfl)) (.cons (.one (.same rfl)) (.cons (.one (.same rfl)) (.cons (.one (.same rfl)) (.nil)))))) rfl rfl⟩)
  · rintro ex S' (⟨v121, rfl, rfl, w146⟩ | ⟨v122, rfl, rfl, w146⟩)
    · dsimp only at h
      conv => whnf
      refine fin_pre w146 ?_
      conv => whnf
      obtain rfl := Option.some.inj h
      rfl
    · dsimp only at h
      conv => whnf
      refine Tri.weak w146 ?_
      refine Tri.seqK ?_
      refine Tri.run (G := gm_law04_WalCut) tyOk mixed ?_
      conv => whnf
      replace h := bind_some h
      obtain ⟨y147, q148, h⟩ := h
      refine PureP.mono (ref02_Seal_walk rec y147 q148) ?_
      rintro _ rfl
      conv => whnf
      refine Tri.seqK ?_
      refine Tri.seqK ?_
      refine Tri.cut (fun ex S' => ex = .normal ∧ Weak S' ⟨68, 0, ofRegs [(0, .sl (List.map encS l)), (2, .v (.int .i64 cut_)), (7, .v (.bool y1)), (8, .v (.string (bs v122))), (10, .v (.string (bs y147))), (44, .v (.bool ((decide (cut_ < 0)) || (decide (cut_ ≥ (y147.length : Int))))))], []⟩) ?_ ?_
      · refine Tri.run (G := gm_law04_WalCut) tyOk mixed ?_
        conv => whnf
        refine cond_mk (fun c158 => ?_) (fun c158 => ?_)
        · replace c158 : (decide (cut_ < 0)) = true := c158
          conv => whnf
          exact ⟨rfl, weak_fin _ rfl rfl rfl (LeH.rest) (.cons (.one (.same rfl)) (.cons (.one (.same rfl)) (.cons (.one (.same rfl)) (.cons (.one (.same rfl)) (.cons (.one (.same rfl)) (.cons (.one (.same (show (.v (.bool true) : AV) = (.v (.bool ((decide (cut_ < 0)) || (decide (cut_ ≥ (y147.length : Int))))) : AV) from by first | (simp [c158]; done) | simp only [c158, Bool.or_true, Bool.true_or, Bool.false_or, Bool.or_false, Bool.and_true, Bool.true_and, Bool.and_false, Bool.false_and, Bool.not_true, Bool.not_false, if_true, if_false, Bool.false_eq_true]))) (.nil))))))) rfl rfl⟩
        · replace c158 : (decide (cut_ < 0)) = false := c158
          conv => whnf
          refine ⟨⟨(y147.length : Int), rfl, ?_⟩⟩
          conv => whnf
          exact ⟨rfl, weak_fin _ rfl rfl rfl (LeH.rest) (.cons (.one (.same rfl)) (.cons (.one (.same rfl)) (.cons (.one (.same rfl)) (.cons (.one (.same rfl)) (.cons (.one (.same rfl)) (.cons (.one (.same (show (.v (.bool (decide (cut_ ≥ (y147.length : Int)))) : AV) = (.v (.bool ((decide (cut_ < 0)) || (decide (cut_ ≥ (y147.length : Int))))) : AV) from by first | (simp [c158]; done) | simp only [c158, Bool.or_true, Bool.true_or, Bool.false_or, Bool.or_false, Bool.and_true, Bool.true_and, Bool.and_false, Bool.false_and, Bool.not_true, Bool.not_false, if_true, if_false, Bool.false_eq_true]))) (.nil))))))) rfl rfl⟩
      · rintro ex S' ⟨rfl, w159⟩
        conv => whnf
        refine Tri.weak w159 ?_
        refine Tri.cond rfl (fun c160 => ?_) (fun c160 => ?_)
        · replace h := if_t c160 h
          refine Tri.seqK ?_
          refine Tri.run (G := gm_law04_WalCut) tyOk mixed ?_
          conv => whnf
          refine Tri.run (G := gm_law04_WalCut) tyOk mixed ?_
          conv => whnf
          refine fin_here ?_
          conv => whnf
          obtain rfl := Option.some.inj h
          rfl
        · replace h := if_f c160 h
          refine Tri.run (G := gm_law04_WalCut) tyOk mixed ?_
          conv => whnf
          refine Tri.seqK ?_
          refine Tri.run (G := gm_law04_WalCut) tyOk mixed ?_
          conv => whnf
          replace h := need_some h
          obtain ⟨p161, h⟩ := h
          refine ⟨p161, ?_⟩
          conv => whnf
          refine ⟨⟨bs (cut y147 0 cut_), bs_cut _ _ _, ?_⟩⟩
          conv => whnf
          replace h := need_some h
          obtain ⟨p162, h⟩ := h
          refine ⟨p162, ?_⟩
          conv => whnf
          refine ⟨⟨bs (v122 ++ (cut y147 0 cut_)), bs_append _ _, ?_⟩⟩
          conv => whnf
          replace h := bind_some h
          obtain ⟨y163, q164, h⟩ := h
          refine PureP.mono (wal_Scan_walk (v122 ++ (cut y147 0 cut_)) y163 q164) ?_
          rintro _ rfl
          conv => whnf
          refine Tri.seqK ?_
          refine Tri.run (G := gm_law04_WalCut) tyOk mixed ?_
          conv => whnf
          replace h := bind_some h
          obtain ⟨y165, q166, h⟩ := h
          refine PureP.mono (ref01_Same_walk l y163.1 y165 q166) ?_
          rintro _ rfl
          conv => whnf
          refine Tri.seqK ?_
          refine Tri.run (G := gm_law04_WalCut) tyOk mixed ?_
          conv => whnf
          refine cond_mk (fun c167 => ?_) (fun c167 => ?_)
          · replace h := if_t c167 h
            conv => whnf
            refine cond_mk (fun c168 => ?_) (fun c168 => ?_)
            · replace h := if_t c168 h
              conv => whnf
              refine ⟨⟨(v122.length : Int), rfl, ?_⟩⟩
              conv => whnf
              refine Tri.run (G := gm_law04_WalCut) tyOk mixed ?_
              conv => whnf
              refine fin_here ?_
              conv => whnf
              obtain rfl := Option.some.inj h
              rfl
            · replace h := if_f c168 h
              conv => whnf
              refine Tri.run (G := gm_law04_WalCut) tyOk mixed ?_
              conv => whnf
              refine fin_here ?_
              conv => whnf
              obtain rfl := Option.some.inj h
              rfl
          · replace h := if_f c167 h
            conv => whnf
            refine Tri.run (G := gm_law04_WalCut) tyOk mixed ?_
            conv => whnf
            refine fin_here ?_
            conv => whnf
            obtain rfl := Option.some.inj h
            rfl
noncomputable def law04_WalJoins (a : Str) (b : Str) : Option (Bool) :=
  law04_shown.bind fun y1 =>
  (wal_Scan a).bind fun y3 =>
  (wal_Scan b).bind fun y5 =>
  need (a.length + b.length ≤ 9223372036854775807) <|
  (wal_Scan (a ++ b)).bind fun y8 =>
  if (decide (y3.2 < (a.length : Int))) then
    if y1 then
      if (decide ((y8.1.length : Int) ≥ (y3.1.length : Int))) then
        some (decide (y8.2 ≥ y3.2))
      else
        some false
    else
      some false
  else
    need ((([] : List Str).length + y3.1.length) * 16 ≤ 140737488355328) <|
    need (((([] : List Str) ++ y3.1).length + y5.1.length) * 16 ≤ 140737488355328) <|
    if y1 then
      (ref01_Same y8.1 ((([] : List Str) ++ y3.1) ++ y5.1)).bind fun y19 =>
      if y19 then
        some (decide (y8.2 = (IntKind.i64.wrap (y3.2 + y5.2))))
      else
        some false
    else
      some false
def gm_law04_WalJoins : Gm := ⟨tys, [], [], []⟩
theorem law04_WalJoins_walk (a : Str) (b : Str) (r : Bool) (h : law04_WalJoins a b = some r) : PureP Try.prog 7 [.v (.string (bs a)), .v (.string (bs b))] (fun a => a = .v (.bool r)) := by
  unfold law04_WalJoins at h
  refine pureW (G := gm_law04_WalJoins) tyOk Try.func7 rfl (by kernel_rfl) (by simp [Try.f7]) ?_
  refine Tri.seqK ?_
  refine Tri.run (G := gm_law04_WalJoins) tyOk mixed ?_
  conv => whnf
  refine Tri.seqK ?_
  refine Tri.run (G := gm_law04_WalJoins) tyOk mixed ?_
  conv => whnf
  replace h := bind_some h
  obtain ⟨y1, q2, h⟩ := h
  refine PureP.mono (law04_shown_walk y1 q2) ?_
  rintro _ rfl
  conv => whnf
  refine Tri.seqK ?_
  refine Tri.run (G := gm_law04_WalJoins) tyOk mixed ?_
  conv => whnf
  replace h := bind_some h
  obtain ⟨y3, q4, h⟩ := h
  refine PureP.mono (wal_Scan_walk a y3 q4) ?_
  rintro _ rfl
  conv => whnf
  refine Tri.seqK ?_
  refine Tri.run (G := gm_law04_WalJoins) tyOk mixed ?_
  conv => whnf
  replace h := bind_some h
  obtain ⟨y5, q6, h⟩ := h
  refine PureP.mono (wal_Scan_walk b y5 q6) ?_
  rintro _ rfl
  conv => whnf
  refine Tri.seqK ?_
  refine Tri.run (G := gm_law04_WalJoins) tyOk mixed ?_
  conv => whnf
  replace h := need_some h
  obtain ⟨p7, h⟩ := h
  refine ⟨p7, ?_⟩
  conv => whnf
  refine ⟨⟨bs (a ++ b), bs_append _ _, ?_⟩⟩
  conv => whnf
  replace h := bind_some h
  obtain ⟨y8, q9, h⟩ := h
  refine PureP.mono (wal_Scan_walk (a ++ b) y8 q9) ?_
  rintro _ rfl
  conv => whnf
  refine Tri.seqK ?_
  refine Tri.seqK ?_
  refine Tri.run (G := gm_law04_WalJoins) tyOk mixed ?_
  conv => whnf
  refine ⟨⟨(a.length : Int), rfl, ?_⟩⟩
  conv => whnf
  refine Tri.cond rfl (fun c13 => ?_) (fun c13 => ?_)
  · replace h := if_t c13 h
    refine Tri.seqK ?_
    refine Tri.run (G := gm_law04_WalJoins) tyOk mixed ?_
    conv => whnf
    refine cond_mk (fun c14 => ?_) (fun c14 => ?_)
    · replace h := if_t c14 h
      conv => whnf
      refine ⟨⟨(y8.1.length : Int), (len_map _ _).symm, ?_⟩⟩
      conv => whnf
      refine ⟨⟨(y3.1.length : Int), (len_map _ _).symm, ?_⟩⟩
      conv => whnf
      refine cond_mk (fun c15 => ?_) (fun c15 => ?_)
      · replace h := if_t c15 h
        conv => whnf
        refine Tri.run (G := gm_law04_WalJoins) tyOk mixed ?_
        conv => whnf
        refine fin_here ?_
        conv => whnf
        obtain rfl := Option.some.inj h
        rfl
      · replace h := if_f c15 h
        conv => whnf
        refine Tri.run (G := gm_law04_WalJoins) tyOk mixed ?_
        conv => whnf
        refine fin_here ?_
        conv => whnf
        obtain rfl := Option.some.inj h
        rfl
    · replace h := if_f c14 h
      conv => whnf
      refine Tri.run (G := gm_law04_WalJoins) tyOk mixed ?_
      conv => whnf
      refine fin_here ?_
      conv => whnf
      obtain rfl := Option.some.inj h
      rfl
  · replace h := if_f c13 h
    refine Tri.run (G := gm_law04_WalJoins) tyOk mixed ?_
    conv => whnf
    refine Tri.seqK ?_
    refine Tri.run (G := gm_law04_WalJoins) tyOk mixed ?_
    conv => whnf
    refine ⟨⟨List.map encS ([] : List Str), rfl, ?_⟩⟩
    conv => whnf
    refine ⟨rfl, ?_⟩
    conv => whnf
    refine ⟨map_len (f := encS) (n := 1) (fun _ => rfl) _, ?_⟩
    conv => whnf
    replace h := need_some h
    obtain ⟨p16, h⟩ := h
    refine ⟨by simp only [List.length_map]; exact p16, ?_⟩
    conv => whnf
    refine ⟨⟨List.map encS (([] : List Str) ++ y3.1), map_app encS _ _ rfl rfl, ?_⟩⟩
    conv => whnf
    refine ⟨rfl, ?_⟩
    conv => whnf
    refine ⟨map_len (f := encS) (n := 1) (fun _ => rfl) _, ?_⟩
    conv => whnf
    replace h := need_some h
    obtain ⟨p17, h⟩ := h
    refine ⟨by simp only [List.length_map]; exact p17, ?_⟩
    conv => whnf
    refine ⟨⟨List.map encS ((([] : List Str) ++ y3.1) ++ y5.1), map_app encS _ _ rfl rfl, ?_⟩⟩
    conv => whnf
    refine Tri.seqK ?_
    refine Tri.run (G := gm_law04_WalJoins) tyOk mixed ?_
    conv => whnf
    refine cond_mk (fun c18 => ?_) (fun c18 => ?_)
    · replace h := if_t c18 h
      conv => whnf
      refine ⟨rfl, ?_⟩
      conv => whnf
      replace h := bind_some h
      obtain ⟨y19, q20, h⟩ := h
      refine PureP.mono (ref01_Same_walk y8.1 ((([] : List Str) ++ y3.1) ++ y5.1) y19 q20) ?_
      rintro _ rfl
      conv => whnf
      refine cond_mk (fun c21 => ?_) (fun c21 => ?_)
      · replace h := if_t c21 h
        conv => whnf
        refine Tri.run (G := gm_law04_WalJoins) tyOk mixed ?_
        conv => whnf
        refine fin_here ?_
        conv => whnf
        obtain rfl := Option.some.inj h
        rfl
      · replace h := if_f c21 h
        conv => whnf
        refine Tri.run (G := gm_law04_WalJoins) tyOk mixed ?_
        conv => whnf
        refine fin_here ?_
        conv => whnf
        obtain rfl := Option.some.inj h
        rfl
    · replace h := if_f c18 h
      conv => whnf
      refine Tri.run (G := gm_law04_WalJoins) tyOk mixed ?_
      conv => whnf
      refine fin_here ?_
      conv => whnf
      obtain rfl := Option.some.inj h
      rfl
noncomputable def law04_WalRooms_l2 (l : (List Str)) (a553 : Int) (a554 : Int) (a555 : (List File)) (a556 : Int) (a557 : Int) (a558 : Bool) : Option ((Int × Int × (List File) × Int × Int × Bool) ⊕ ((Unit) ⊕ (Unit))) :=
  if ((decide (a554 < (l.length : Int))) && (decide (a554 < 100))) then
    (wal_Name a553).bind fun y628 =>
    (ref03_Read ({ Files := a555, Room := a556, Fuse := a557, Off := a558 } : Disk) y628).bind fun y630 =>
    (ix l a554).bind fun x638 =>
    (wal_Put ({ Files := a555, Room := a556, Fuse := a557, Off := a558 } : Disk) a553 x638).bind fun y640 =>
    if ((decide (y640.2.2 = 0)) && (!((decide (y640.2.1 = a553)) == (decide ((y630.1.length : Int) < 256))))) then
      some (.inr (.inl ()))
    else
      if ((!(decide (y640.2.1 = a553))) && (!(decide (y640.2.1 = (IntKind.i64.wrap (a553 + 1)))))) then
        some (.inr (.inl ()))
      else
        some (.inl (y640.2.1, (IntKind.i64.wrap (a554 + 1)), y640.1.Files, y640.1.Room, y640.1.Fuse, y640.1.Off))
  else
    some (.inr (.inr ()))
noncomputable def law04_WalRooms (room : Int) (l : (List Str)) : Option (Bool) :=
  law04_shown.bind fun y1 =>
  (ref03_New room).bind fun y3 =>
  if (!(decide (y3.2 = 0))) then
    some y1
  else
    (loop (fun (s563 : Int × Int × (List File) × Int × Int × Bool) => law04_WalRooms_l2 l s563.1 s563.2.1 s563.2.2.1 s563.2.2.2.1 s563.2.2.2.2.1 s563.2.2.2.2.2) ((1 : Int), (0 : Int), y3.1.Files, y3.1.Room, y3.1.Fuse, y3.1.Off)).bind fun (y559 : (Unit) ⊕ (Unit)) =>
    match y559 with
    | (.inl v561) =>
      some false
    | (.inr v562) =>
      some y1
def gm_law04_WalRooms : Gm := ⟨tys, [], [], []⟩
theorem law04_WalRooms_walk (room : Int) (l : (List Str)) (r : Bool) (h : law04_WalRooms room l = some r) : PureP Try.prog 8 [.v (.int .i64 room), .sl (List.map encS l)] (fun a => a = .v (.bool r)) := by
  unfold law04_WalRooms at h
  refine pureW (G := gm_law04_WalRooms) tyOk Try.func8 rfl (by kernel_rfl) (by simp [Try.f8]) ?_
  refine Tri.seqK ?_
  refine Tri.run (G := gm_law04_WalRooms) tyOk mixed ?_
  conv => whnf
  refine Tri.seqK ?_
  refine Tri.run (G := gm_law04_WalRooms) tyOk mixed ?_
  conv => whnf
  replace h := bind_some h
  obtain ⟨y1, q2, h⟩ := h
  refine PureP.mono (law04_shown_walk y1 q2) ?_
  rintro _ rfl
  conv => whnf
  refine Tri.seqK ?_
  refine Tri.run (G := gm_law04_WalRooms) tyOk mixed ?_
  conv => whnf
  replace h := bind_some h
  obtain ⟨y3, q4, h⟩ := h
  refine PureP.mono (ref03_New_walk room y3 q4) ?_
  rintro _ rfl
  conv => whnf
  refine Tri.seqK ?_
  refine Tri.seqK ?_
  refine Tri.run (G := gm_law04_WalRooms) tyOk mixed ?_
  conv => whnf
  refine Tri.cond rfl (fun c6 => ?_) (fun c6 => ?_)
  · replace h := if_t c6 h
    refine Tri.seqK ?_
    refine Tri.run (G := gm_law04_WalRooms) tyOk mixed ?_
    conv => whnf
    refine Tri.run (G := gm_law04_WalRooms) tyOk mixed ?_
    conv => whnf
    refine fin_here ?_
    conv => whnf
    obtain rfl := Option.some.inj h
    rfl
  · replace h := if_f c6 h
    refine Tri.run (G := gm_law04_WalRooms) tyOk mixed ?_
    conv => whnf
    refine Tri.seqK ?_
    refine Tri.run (G := gm_law04_WalRooms) tyOk mixed ?_
    conv => whnf
    refine Tri.seqK ?_
    refine Tri.seqK ?_
    refine Tri.run (G := gm_law04_WalRooms) tyOk mixed ?_
    conv => whnf
    refine Tri.block ?_
    replace h := bind_some h
    obtain ⟨y559, q560, h⟩ := h
    refine Tri.cut (fun ex S' => (∃ v561 : Unit, y559 = (.inl v561) ∧ ex = .ret ∧ Weak S' ⟨75, 0, ofRegs [(4, .v (.bool false))], []⟩) ∨ (∃ v562 : Unit, y559 = (.inr v562) ∧ ex = (.exit 0) ∧ Weak S' ⟨75, 0, ofRegs [(5, .v (.bool y1))], []⟩)) ?_ ?_
    · refine Tri.loopF (fun (s563 : Int × Int × (List File) × Int × Int × Bool) => (⟨75, 0, ofRegs [(1, .sl (List.map encS l)), (5, .v (.bool y1)), (6, .ptr 0 0), (8, .v (.int .i64 s563.1)), (9, .v (.int .i64 s563.2.1))], [.var 31 [.sl (List.map encFile s563.2.2.1), .v (.int .i64 s563.2.2.2.1), .v (.int .i64 s563.2.2.2.2.1), .v (.bool s563.2.2.2.2.2)]]⟩ : St)) q560 (weak_fin _ rfl rfl rfl (.cons (.same rfl) (LeH.rest)) (.cons (.one (.same rfl)) (.cons (.one (.same rfl)) (.cons (.one (.same rfl)) (.cons (.one (.same rfl)) (.cons (.one (.same rfl)) (.nil)))))) rfl rfl) ?_
      rintro ⟨a553, a554, a555, a556, a557, a558⟩ v564 hv r565
      have hv : law04_WalRooms_l2 l a553 a554 a555 a556 a557 a558 = some v564 := hv
      unfold law04_WalRooms_l2 at hv
      dsimp only
      refine Tri.seqK ?_
      refine Tri.seqK ?_
      refine Tri.cut (fun ex S' => ex = .normal ∧ Weak S' ⟨75, 0, ofRegs [(1, .sl (List.map encS l)), (5, .v (.bool y1)), (6, .ptr 0 0), (8, .v (.int .i64 a553)), (9, .v (.int .i64 a554)), (31, .v (.bool ((decide (a554 < (l.length : Int))) && (decide (a554 < 100)))))], [.var 31 [.sl (List.map encFile a555), .v (.int .i64 a556), .v (.int .i64 a557), .v (.bool a558)]]⟩) ?_ ?_
      · refine Tri.run (G := gm_law04_WalRooms) tyOk mixed ?_
        conv => whnf
        refine ⟨⟨(l.length : Int), (len_map _ _).symm, ?_⟩⟩
        conv => whnf
        refine cond_mk (fun c575 => ?_) (fun c575 => ?_)
        · replace c575 : (decide (a554 < (l.length : Int))) = true := c575
          conv => whnf
          exact ⟨rfl, weak_fin _ rfl rfl rfl (.cons (.same rfl) (LeH.rest)) (.cons (.one (.same rfl)) (.cons (.one (.same rfl)) (.cons (.one (.same rfl)) (.cons (.one (.same rfl)) (.cons (.one (.same rfl)) (.cons (.one (.same (show (.v (.bool (decide (a554 < 100))) : AV) = (.v (.bool ((decide (a554 < (l.length : Int))) && (decide (a554 < 100)))) : AV) from by first | (simp [c575]; done) | simp only [c575, Bool.or_true, Bool.true_or, Bool.false_or, Bool.or_false, Bool.and_true, Bool.true_and, Bool.and_false, Bool.false_and, Bool.not_true, Bool.not_false, if_true, if_false, Bool.false_eq_true]))) (.nil))))))) rfl rfl⟩
        · replace c575 : (decide (a554 < (l.length : Int))) = false := c575
          conv => whnf
          exact ⟨rfl, weak_fin _ rfl rfl rfl (.cons (.same rfl) (LeH.rest)) (.cons (.one (.same rfl)) (.cons (.one (.same rfl)) (.cons (.one (.same rfl)) (.cons (.one (.same rfl)) (.cons (.one (.same rfl)) (.cons (.one (.same (show (.v (.bool false) : AV) = (.v (.bool ((decide (a554 < (l.length : Int))) && (decide (a554 < 100)))) : AV) from by first | (simp [c575]; done) | simp only [c575, Bool.or_true, Bool.true_or, Bool.false_or, Bool.or_false, Bool.and_true, Bool.true_and, Bool.and_false, Bool.false_and, Bool.not_true, Bool.not_false, if_true, if_false, Bool.false_eq_true]))) (.nil))))))) rfl rfl⟩
      · rintro ex S' ⟨rfl, w576⟩
        conv => whnf
        refine Tri.weak w576 ?_
        refine Tri.cond rfl (fun c577 => ?_) (fun c577 => ?_)
        · replace hv := if_t c577 hv
          refine Tri.run (G := gm_law04_WalRooms) tyOk mixed ?_
          conv => whnf
          refine Tri.seqK ?_
          refine Tri.block ?_
          refine Tri.seqK ?_
          refine Tri.run (G := gm_law04_WalRooms) tyOk mixed ?_
          conv => whnf
          refine Draw.one 9 (.take 0 (.take 1 (.alt 2 (.alt 3 (.take 4 (.take 5 (.take 6 (.take 7 (.take 8 (.fin)))))) (.nil)) (.nil)))) [] (by kernel_rfl) ?_
          conv => whnf
          refine ⟨?_, ?_⟩
          · conv => whnf
            replace hv := bind_some hv
            obtain ⟨y628, q629, hv⟩ := hv
            refine PureP.mono (wal_Name_walk a553 y628 q629) ?_
            rintro _ rfl
            conv => whnf
            refine ⟨?_, ?_⟩
            · conv => whnf
              replace hv := bind_some hv
              obtain ⟨y630, q631, hv⟩ := hv
              refine PureP.mono (ref03_Read_walk ({ Files := a555, Room := a556, Fuse := a557, Off := a558 } : Disk) y628 y630 q631) ?_
              rintro _ rfl
              conv => whnf
              refine Tri.seqK ?_
              refine Tri.run (G := gm_law04_WalRooms) tyOk mixed ?_
              conv => whnf
              replace hv := bind_some hv
              obtain ⟨x638, q644, hv⟩ := hv
              replace hv := bind_some hv
              obtain ⟨y640, q645, hv⟩ := hv
              refine Draw.many 14 (.take 0 (.take 1 (.take 2 (.take 3 (.take 4 (.take 5 (.alt 6 (.take 7 (.take 8 (.take 9 (.take 10 (.alt 11 (.alt 12 (.take 13 (.fin)) (.nil)) (.nil)))))) (.alt 11 (.alt 6 (.take 7 (.take 8 (.take 9 (.take 10 (.alt 12 (.take 13 (.fin)) (.nil)))))) (.nil)) (.nil))))))))) [1, 2, 3, 4, 5, 6] (⟨75, 0, ofRegs [(1, .sl (List.map encS l)), (5, .v (.bool y1)), (6, .ptr 0 0), (8, .v (.int .i64 a553)), (9, .v (.int .i64 a554)), (10, .v (.string (bs y630.1))), (12, .ptr 1 0), (13, .v (.int .i64 y640.2.1)), (51, .v (.int .i64 y640.2.2))], [.var 31 [.sl (List.map encFile a555), .v (.int .i64 a556), .v (.int .i64 a557), .v (.bool a558)], .var 31 [.sl (List.map encFile y640.1.Files), .v (.int .i64 y640.1.Room), .v (.int .i64 y640.1.Fuse), .v (.bool y640.1.Off)]]⟩) (by kernel_rfl) ?_ ?_
              · conv => whnf
                refine ⟨(ix_some q644).1, ?_⟩
                conv => whnf
                refine ⟨⟨_, map_get encS (ix_some q644).2, ?_⟩⟩
                conv => whnf
                refine ⟨rfl, ?_⟩
                conv => whnf
                refine ⟨?_, ?_⟩
                · conv => whnf
                  refine PureP.mono (wal_Put_walk ({ Files := a555, Room := a556, Fuse := a557, Off := a558 } : Disk) a553 x638 y640 q645) ?_
                  rintro _ rfl
                  conv => whnf
                  refine ⟨?_, ?_⟩
                  · conv => whnf
                    refine ⟨?_, ?_⟩
                    · conv => whnf
                      exact weak_fin _ rfl rfl rfl (.cons (.same rfl) (.cons (.same rfl) (LeH.rest))) (.cons (.one (.same rfl)) (.cons (.one (.same rfl)) (.cons (.one (.same rfl)) (.cons (.one (.same rfl)) (.cons (.one (.same rfl)) (.cons (.one (.same rfl)) (.cons (.one (.same rfl)) (.cons (.one (.same rfl)) (.cons (.one (.same rfl)) (.nil)))))))))) rfl rfl
                    · conv => whnf
                      trivial
                  · conv => whnf
                    trivial
                · conv => whnf
                  refine ⟨?_, ?_⟩
                  · conv => whnf
                    refine ⟨?_, ?_⟩
                    · conv => whnf
                      refine PureP.mono (wal_Put_walk ({ Files := a555, Room := a556, Fuse := a557, Off := a558 } : Disk) a553 x638 y640 q645) ?_
                      rintro _ rfl
                      conv => whnf
                      refine ⟨?_, ?_⟩
                      · conv => whnf
                        exact weak_fin _ rfl rfl rfl (.cons (.same rfl) (.cons (.same rfl) (LeH.rest))) (.cons (.one (.same rfl)) (.cons (.one (.same rfl)) (.cons (.one (.same rfl)) (.cons (.one (.same rfl)) (.cons (.one (.same rfl)) (.cons (.one (.same rfl)) (.cons (.one (.same rfl)) (.cons (.one (.same rfl)) (.cons (.one (.same rfl)) (.nil)))))))))) rfl rfl
                      · conv => whnf
                        trivial
                    · conv => whnf
                      trivial
                  · conv => whnf
                    trivial
              · conv => whnf
                refine Tri.seqK ?_
                refine Tri.seqK ?_
                refine Tri.cut (fun ex S' => ex = .normal ∧ Weak S' ⟨75, 0, ofRegs [(1, .sl (List.map encS l)), (5, .v (.bool y1)), (6, .ptr 0 0), (8, .v (.int .i64 a553)), (9, .v (.int .i64 a554)), (12, .ptr 1 0), (13, .v (.int .i64 y640.2.1)), (62, .v (.bool ((decide (y640.2.2 = 0)) && (!((decide (y640.2.1 = a553)) == (decide ((y630.1.length : Int) < 256)))))))], [.var 31 [.sl (List.map encFile a555), .v (.int .i64 a556), .v (.int .i64 a557), .v (.bool a558)], .var 31 [.sl (List.map encFile y640.1.Files), .v (.int .i64 y640.1.Room), .v (.int .i64 y640.1.Fuse), .v (.bool y640.1.Off)]]⟩) ?_ ?_
                · refine Tri.run (G := gm_law04_WalRooms) tyOk mixed ?_
                  conv => whnf
                  refine cond_mk (fun c655 => ?_) (fun c655 => ?_)
                  · replace c655 : (decide (y640.2.2 = 0)) = true := c655
                    conv => whnf
                    refine ⟨⟨(y630.1.length : Int), rfl, ?_⟩⟩
                    conv => whnf
                    exact ⟨rfl, weak_fin _ rfl rfl rfl (.cons (.same rfl) (.cons (.same rfl) (LeH.rest))) (.cons (.one (.same rfl)) (.cons (.one (.same rfl)) (.cons (.one (.same rfl)) (.cons (.one (.same rfl)) (.cons (.one (.same rfl)) (.cons (.one (.same rfl)) (.cons (.one (.same rfl)) (.cons (.one (.same (show (.v (.bool (!((decide (y640.2.1 = a553)) == (decide ((y630.1.length : Int) < 256))))) : AV) = (.v (.bool ((decide (y640.2.2 = 0)) && (!((decide (y640.2.1 = a553)) == (decide ((y630.1.length : Int) < 256)))))) : AV) from by first | (simp [c655]; done) | simp only [c655, Bool.or_true, Bool.true_or, Bool.false_or, Bool.or_false, Bool.and_true, Bool.true_and, Bool.and_false, Bool.false_and, Bool.not_true, Bool.not_false, if_true, if_false, Bool.false_eq_true]))) (.nil))))))))) rfl rfl⟩
                  · replace c655 : (decide (y640.2.2 = 0)) = false := c655
                    conv => whnf
                    exact ⟨rfl, weak_fin _ rfl rfl rfl (.cons (.same rfl) (.cons (.same rfl) (LeH.rest))) (.cons (.one (.same rfl)) (.cons (.one (.same rfl)) (.cons (.one (.same rfl)) (.cons (.one (.same rfl)) (.cons (.one (.same rfl)) (.cons (.one (.same rfl)) (.cons (.one (.same rfl)) (.cons (.one (.same (show (.v (.bool false) : AV) = (.v (.bool ((decide (y640.2.2 = 0)) && (!((decide (y640.2.1 = a553)) == (decide ((y630.1.length : Int) < 256)))))) : AV) from by first | (simp [c655]; done) | simp only [c655, Bool.or_true, Bool.true_or, Bool.false_or, Bool.or_false, Bool.and_true, Bool.true_and, Bool.and_false, Bool.false_and, Bool.not_true, Bool.not_false, if_true, if_false, Bool.false_eq_true]))) (.nil))))))))) rfl rfl⟩
                · rintro ex S' ⟨rfl, w656⟩
                  conv => whnf
                  refine Tri.weak w656 ?_
                  refine Tri.cond rfl (fun c657 => ?_) (fun c657 => ?_)
                  · replace hv := if_t c657 hv
                    refine Tri.seqK ?_
                    refine Tri.run (G := gm_law04_WalRooms) tyOk mixed ?_
                    conv => whnf
                    refine Tri.run (G := gm_law04_WalRooms) tyOk mixed ?_
                    conv => whnf
                    obtain rfl := Option.some.inj hv
                    obtain rfl := r565 _ rfl
                    exact Or.inl ⟨_, rfl, rfl, weak_fin _ rfl rfl rfl (LeH.rest) (.cons (.one (.same rfl)) (.nil)) rfl rfl⟩
                  · replace hv := if_f c657 hv
                    refine Tri.run (G := gm_law04_WalRooms) tyOk mixed ?_
                    conv => whnf
                    refine Tri.seqK ?_
                    refine Tri.seqK ?_
                    refine Tri.cut (fun ex S' => ex = .normal ∧ Weak S' ⟨75, 0, ofRegs [(1, .sl (List.map encS l)), (5, .v (.bool y1)), (6, .ptr 0 0), (9, .v (.int .i64 a554)), (12, .ptr 1 0), (13, .v (.int .i64 y640.2.1)), (71, .v (.bool ((!(decide (y640.2.1 = a553))) && (!(decide (y640.2.1 = (IntKind.i64.wrap (a553 + 1))))))))], [.var 31 [.sl (List.map encFile a555), .v (.int .i64 a556), .v (.int .i64 a557), .v (.bool a558)], .var 31 [.sl (List.map encFile y640.1.Files), .v (.int .i64 y640.1.Room), .v (.int .i64 y640.1.Fuse), .v (.bool y640.1.Off)]]⟩) ?_ ?_
                    · refine Tri.run (G := gm_law04_WalRooms) tyOk mixed ?_
                      conv => whnf
                      refine cond_mk (fun c667 => ?_) (fun c667 => ?_)
                      · replace c667 : (!(decide (y640.2.1 = a553))) = true := c667
                        conv => whnf
                        exact ⟨rfl, weak_fin _ rfl rfl rfl (.cons (.same rfl) (.cons (.same rfl) (LeH.rest))) (.cons (.one (.same rfl)) (.cons (.one (.same rfl)) (.cons (.one (.same rfl)) (.cons (.one (.same rfl)) (.cons (.one (.same rfl)) (.cons (.one (.same rfl)) (.cons (.one (.same (show (.v (.bool (!(decide (y640.2.1 = (IntKind.i64.wrap (a553 + 1)))))) : AV) = (.v (.bool ((!(decide (y640.2.1 = a553))) && (!(decide (y640.2.1 = (IntKind.i64.wrap (a553 + 1))))))) : AV) from by first | (simp [c667]; done) | simp only [c667, Bool.or_true, Bool.true_or, Bool.false_or, Bool.or_false, Bool.and_true, Bool.true_and, Bool.and_false, Bool.false_and, Bool.not_true, Bool.not_false, if_true, if_false, Bool.false_eq_true]))) (.nil)))))))) rfl rfl⟩
                      · replace c667 : (!(decide (y640.2.1 = a553))) = false := c667
                        conv => whnf
                        exact ⟨rfl, weak_fin _ rfl rfl rfl (.cons (.same rfl) (.cons (.same rfl) (LeH.rest))) (.cons (.one (.same rfl)) (.cons (.one (.same rfl)) (.cons (.one (.same rfl)) (.cons (.one (.same rfl)) (.cons (.one (.same rfl)) (.cons (.one (.same rfl)) (.cons (.one (.same (show (.v (.bool false) : AV) = (.v (.bool ((!(decide (y640.2.1 = a553))) && (!(decide (y640.2.1 = (IntKind.i64.wrap (a553 + 1))))))) : AV) from by first | (simp [c667]; done) | simp only [c667, Bool.or_true, Bool.true_or, Bool.false_or, Bool.or_false, Bool.and_true, Bool.true_and, Bool.and_false, Bool.false_and, Bool.not_true, Bool.not_false, if_true, if_false, Bool.false_eq_true]))) (.nil)))))))) rfl rfl⟩
                    · rintro ex S' ⟨rfl, w668⟩
                      conv => whnf
                      refine Tri.weak w668 ?_
                      refine Tri.cond rfl (fun c669 => ?_) (fun c669 => ?_)
                      · replace hv := if_t c669 hv
                        refine Tri.seqK ?_
                        refine Tri.run (G := gm_law04_WalRooms) tyOk mixed ?_
                        conv => whnf
                        refine Tri.run (G := gm_law04_WalRooms) tyOk mixed ?_
                        conv => whnf
                        obtain rfl := Option.some.inj hv
                        obtain rfl := r565 _ rfl
                        exact Or.inl ⟨_, rfl, rfl, weak_fin _ rfl rfl rfl (LeH.rest) (.cons (.one (.same rfl)) (.nil)) rfl rfl⟩
                      · replace hv := if_f c669 hv
                        refine Tri.run (G := gm_law04_WalRooms) tyOk mixed ?_
                        conv => whnf
                        refine Tri.seqK ?_
                        refine Tri.run (G := gm_law04_WalRooms) tyOk mixed ?_
                        conv => whnf
                        refine Tri.run (G := gm_law04_WalRooms) tyOk mixed ?_
                        conv => whnf
                        refine Tri.run (G := gm_law04_WalRooms) tyOk mixed ?_
                        conv => whnf
                        obtain rfl := Option.some.inj hv
                        exact ⟨_, rfl, weak_fin _ rfl rfl rfl (.cons (.same rfl) (LeH.rest)) (.cons (.one (.same rfl)) (.cons (.one (.same rfl)) (.cons (.one (.same rfl)) (.cons (.one (.same rfl)) (.cons (.one (.same rfl)) (.nil)))))) rfl rfl⟩
            · conv => whnf
              trivial
          · conv => whnf
            trivial
        · replace hv := if_f c577 hv
          refine Tri.run (G := gm_law04_WalRooms) tyOk mixed ?_
          conv => whnf
          obtain rfl := Option.some.inj hv
          obtain rfl := r565 _ rfl
          exact Or.inr (⟨_, rfl, rfl, weak_fin _ rfl rfl rfl (LeH.rest) (.cons (.one (.same rfl)) (.nil)) rfl rfl⟩)
    · rintro ex S' (⟨v561, rfl, rfl, w670⟩ | ⟨v562, rfl, rfl, w670⟩)
      · dsimp only at h
        conv => whnf
        refine fin_pre w670 ?_
        conv => whnf
        obtain rfl := Option.some.inj h
        rfl
      · dsimp only at h
        conv => whnf
        refine Tri.weak w670 ?_
        refine Tri.seqK ?_
        refine Tri.run (G := gm_law04_WalRooms) tyOk mixed ?_
        conv => whnf
        refine Tri.run (G := gm_law04_WalRooms) tyOk mixed ?_
        conv => whnf
        refine fin_here ?_
        conv => whnf
        obtain rfl := Option.some.inj h
        rfl
noncomputable def ref03_power (d : Disk) : Option (Disk × Bool) :=
  if (decide (d.Fuse = 0)) then
    some (({ Files := d.Files, Room := d.Room, Fuse := d.Fuse, Off := true } : Disk), false)
  else
    some (({ Files := d.Files, Room := d.Room, Fuse := (if (decide (d.Fuse > 0)) then (IntKind.i64.wrap (d.Fuse - 1)) else d.Fuse), Off := d.Off } : Disk), true)
def gm_ref03_power : Gm := ⟨tys, [], [], []⟩
theorem ref03_power_walk (d : Disk) (r : Disk × Bool) (h : ref03_power d = some r) : PureP Try.prog 71 [.agg [.sl (List.map encFile d.Files), .v (.int .i64 d.Room), .v (.int .i64 d.Fuse), .v (.bool d.Off)]] (fun a => a = .tup [.agg [.sl (List.map encFile r.1.Files), .v (.int .i64 r.1.Room), .v (.int .i64 r.1.Fuse), .v (.bool r.1.Off)], .v (.bool r.2)]) := by
  unfold ref03_power at h
  refine pureW (G := gm_ref03_power) tyOk Try.func71 rfl (by kernel_rfl) (by simp [Try.f71]) ?_
  refine Tri.seqK ?_
  refine Tri.run (G := gm_ref03_power) tyOk mixed ?_
  conv => whnf
  refine Tri.seqK ?_
  refine Tri.seqK ?_
  refine Tri.run (G := gm_ref03_power) tyOk mixed ?_
  conv => whnf
  refine Tri.cond rfl (fun c2 => ?_) (fun c2 => ?_)
  · replace h := if_t c2 h
    refine Tri.seqK ?_
    refine Tri.run (G := gm_ref03_power) tyOk mixed ?_
    conv => whnf
    refine Tri.seqK ?_
    refine Tri.run (G := gm_ref03_power) tyOk mixed ?_
    conv => whnf
    refine Tri.run (G := gm_ref03_power) tyOk mixed ?_
    conv => whnf
    refine fin_here ?_
    conv => whnf
    obtain rfl := Option.some.inj h
    rfl
  · replace h := if_f c2 h
    refine Tri.run (G := gm_ref03_power) tyOk mixed ?_
    conv => whnf
    refine Tri.seqK ?_
    refine Tri.cut (fun ex S' => ex = .normal ∧ Weak S' ⟨17, 0, ofRegs [(1, .ptr 0 0), (2, .ptr 1 0)], [.var 31 [.sl (List.map encFile d.Files), .v (.int .i64 d.Room), .v (.int .i64 (if (decide (d.Fuse > 0)) then (IntKind.i64.wrap (d.Fuse - 1)) else d.Fuse)), .v (.bool d.Off)], .var 31 [.v (.slice none 0 0), .v (.int .i64 0), .v (.int .i64 0), .v (.bool false)]]⟩) ?_ ?_
    · refine Tri.seqK ?_
      refine Tri.run (G := gm_ref03_power) tyOk mixed ?_
      conv => whnf
      refine Tri.cond rfl (fun c6 => ?_) (fun c6 => ?_)
      · replace c6 : (decide (d.Fuse > 0)) = true := c6
        refine Tri.run (G := gm_ref03_power) tyOk mixed ?_
        conv => whnf
        exact ⟨rfl, weak_fin _ rfl rfl rfl (.cons (.var (.cons (.same rfl) (.cons (.same rfl) (.cons (.same (show (.v (.int .i64 (IntKind.i64.wrap (d.Fuse - 1))) : AV) = (.v (.int .i64 (if (decide (d.Fuse > 0)) then (IntKind.i64.wrap (d.Fuse - 1)) else d.Fuse)) : AV) from by first | (simp [c6]; done) | simp only [c6, Bool.or_true, Bool.true_or, Bool.false_or, Bool.or_false, Bool.and_true, Bool.true_and, Bool.and_false, Bool.false_and, Bool.not_true, Bool.not_false, if_true, if_false, Bool.false_eq_true])) (.cons (.same rfl) (.nil)))))) (.cons (.same rfl) (LeH.rest))) (.cons (.one (.same rfl)) (.cons (.one (.same rfl)) (.nil))) rfl rfl⟩
      · replace c6 : (decide (d.Fuse > 0)) = false := c6
        refine Tri.run (G := gm_ref03_power) tyOk mixed ?_
        conv => whnf
        exact ⟨rfl, weak_fin _ rfl rfl rfl (.cons (.var (.cons (.same rfl) (.cons (.same rfl) (.cons (.same (show (.v (.int .i64 d.Fuse) : AV) = (.v (.int .i64 (if (decide (d.Fuse > 0)) then (IntKind.i64.wrap (d.Fuse - 1)) else d.Fuse)) : AV) from by first | (simp [c6]; done) | simp only [c6, Bool.or_true, Bool.true_or, Bool.false_or, Bool.or_false, Bool.and_true, Bool.true_and, Bool.and_false, Bool.false_and, Bool.not_true, Bool.not_false, if_true, if_false, Bool.false_eq_true])) (.cons (.same rfl) (.nil)))))) (.cons (.same rfl) (LeH.rest))) (.cons (.one (.same rfl)) (.cons (.one (.same rfl)) (.nil))) rfl rfl⟩
    · rintro ex S' ⟨rfl, w7⟩
      conv => whnf
      refine Tri.weak w7 ?_
      refine Tri.seqK ?_
      refine Tri.run (G := gm_ref03_power) tyOk mixed ?_
      conv => whnf
      refine Tri.run (G := gm_ref03_power) tyOk mixed ?_
      conv => whnf
      refine fin_here ?_
      conv => whnf
      obtain rfl := Option.some.inj h
      rfl
noncomputable def ref03_less (d : Disk) (i : Int) : Option (Disk) :=
  (ix d.Files i).bind fun x3 =>
  need (0 ≤ (0 : Int) ∧ 0 ≤ i ∧ i ≤ (d.Files.length : Int)) <|
  need ((([] : List File).length + (cut d.Files 0 i).length) * 48 ≤ 140737488355328) <|
  need (0 ≤ (IntKind.i64.wrap (i + 1)) ∧ (IntKind.i64.wrap (i + 1)) ≤ (d.Files.length : Int) ∧ (d.Files.length : Int) ≤ (d.Files.length : Int)) <|
  need (((([] : List File) ++ (cut d.Files 0 i)).length + (cut d.Files (IntKind.i64.wrap (i + 1)) (d.Files.length : Int)).length) * 48 ≤ 140737488355328) <|
  some ({ Files := ((([] : List File) ++ (cut d.Files 0 i)) ++ (cut d.Files (IntKind.i64.wrap (i + 1)) (d.Files.length : Int))), Room := (IntKind.i64.wrap ((IntKind.i64.wrap (d.Room + (x3.Safe.length : Int))) + (x3.Wait.length : Int))), Fuse := d.Fuse, Off := d.Off } : Disk)
def gm_ref03_less : Gm := ⟨tys, [], [], []⟩
theorem ref03_less_walk (d : Disk) (i : Int) (r : Disk) (h : ref03_less d i = some r) : PureP Try.prog 72 [.agg [.sl (List.map encFile d.Files), .v (.int .i64 d.Room), .v (.int .i64 d.Fuse), .v (.bool d.Off)], .v (.int .i64 i)] (fun a => a = .agg [.sl (List.map encFile r.Files), .v (.int .i64 r.Room), .v (.int .i64 r.Fuse), .v (.bool r.Off)]) := by
  unfold ref03_less at h
  refine pureW (G := gm_ref03_less) tyOk Try.func72 rfl (by kernel_rfl) (by simp [Try.f72]) ?_
  refine Tri.seqK ?_
  refine Tri.run (G := gm_ref03_less) tyOk mixed ?_
  conv => whnf
  refine Tri.seqK ?_
  refine Tri.run (G := gm_ref03_less) tyOk mixed ?_
  conv => whnf
  refine Draw.one 19 (.take 0 (.take 1 (.take 2 (.take 3 (.take 4 (.take 5 (.take 6 (.take 7 (.take 8 (.take 9 (.take 10 (.take 11 (.take 12 (.take 13 (.take 14 (.take 15 (.take 16 (.take 17 (.take 18 (.fin)))))))))))))))))))) [] (by kernel_rfl) ?_
  conv => whnf
  replace h := bind_some h
  obtain ⟨x3, q4, h⟩ := h
  refine ⟨(ix_some q4).1, ?_⟩
  conv => whnf
  refine ⟨⟨_, map_get encFile (ix_some q4).2, ?_⟩⟩
  conv => whnf
  refine ⟨rfl, ?_⟩
  conv => whnf
  refine ⟨⟨(x3.Safe.length : Int), rfl, ?_⟩⟩
  conv => whnf
  refine ⟨(ix_some q4).1, ?_⟩
  conv => whnf
  refine ⟨⟨_, map_get encFile (ix_some q4).2, ?_⟩⟩
  conv => whnf
  refine ⟨rfl, ?_⟩
  conv => whnf
  refine ⟨⟨(x3.Wait.length : Int), rfl, ?_⟩⟩
  conv => whnf
  refine Tri.seqK ?_
  refine Tri.run (G := gm_ref03_less) tyOk mixed ?_
  conv => whnf
  refine ⟨⟨List.map encFile ([] : List File), rfl, ?_⟩⟩
  conv => whnf
  refine ⟨map_len (f := encFile) (n := 3) (fun _ => rfl) _, ?_⟩
  conv => whnf
  replace h := need_some h
  obtain ⟨p5, h⟩ := h
  refine ⟨by simpa only [List.length_map] using p5, ?_⟩
  conv => whnf
  refine ⟨⟨List.map encFile (cut d.Files 0 i), map_cut _ _ _ _, ?_⟩⟩
  conv => whnf
  refine ⟨rfl, ?_⟩
  conv => whnf
  refine ⟨map_len (f := encFile) (n := 3) (fun _ => rfl) _, ?_⟩
  conv => whnf
  replace h := need_some h
  obtain ⟨p6, h⟩ := h
  refine ⟨by simp only [List.length_map]; exact p6, ?_⟩
  conv => whnf
  refine ⟨⟨List.map encFile (([] : List File) ++ (cut d.Files 0 i)), map_app encFile _ _ rfl rfl, ?_⟩⟩
  conv => whnf
  refine Tri.seqK ?_
  refine Tri.run (G := gm_ref03_less) tyOk mixed ?_
  conv => whnf
  refine ⟨map_len (f := encFile) (n := 3) (fun _ => rfl) _, ?_⟩
  conv => whnf
  replace h := need_some h
  obtain ⟨p7, h⟩ := h
  refine ⟨by simpa only [List.length_map] using p7, ?_⟩
  conv => whnf
  refine ⟨⟨List.map encFile (cut d.Files (IntKind.i64.wrap (i + 1)) (d.Files.length : Int)), by rw [map_cut, len_map], ?_⟩⟩
  conv => whnf
  refine ⟨rfl, ?_⟩
  conv => whnf
  refine ⟨map_len (f := encFile) (n := 3) (fun _ => rfl) _, ?_⟩
  conv => whnf
  replace h := need_some h
  obtain ⟨p8, h⟩ := h
  refine ⟨by simp only [List.length_map]; exact p8, ?_⟩
  conv => whnf
  refine ⟨⟨List.map encFile ((([] : List File) ++ (cut d.Files 0 i)) ++ (cut d.Files (IntKind.i64.wrap (i + 1)) (d.Files.length : Int))), map_app encFile _ _ rfl rfl, ?_⟩⟩
  conv => whnf
  refine Tri.seqK ?_
  refine Tri.run (G := gm_ref03_less) tyOk mixed ?_
  conv => whnf
  refine Tri.run (G := gm_ref03_less) tyOk mixed ?_
  conv => whnf
  refine fin_here ?_
  conv => whnf
  refine ⟨rfl, ?_⟩
  conv => whnf
  obtain rfl := Option.some.inj h
  rfl
noncomputable def ref03_Delete (d : Disk) (name : Str) : Option (Disk × Int) :=
  if d.Off then
    some (d, 6)
  else
    (ref03_at d name).bind fun y6 =>
    if (decide (y6 < 0)) then
      some (d, 7)
    else
      (ref03_power d).bind fun y9 =>
      if (!y9.2) then
        some (y9.1, 6)
      else
        (ref03_at y9.1 name).bind fun y17 =>
        (ref03_less y9.1 y17).bind fun y19 =>
        some (y19, 0)
def gm_ref03_Delete : Gm := ⟨tys, [], [], []⟩
theorem ref03_Delete_walk (d : Disk) (name : Str) (r : Disk × Int) (h : ref03_Delete d name = some r) : PureP Try.prog 52 [.agg [.sl (List.map encFile d.Files), .v (.int .i64 d.Room), .v (.int .i64 d.Fuse), .v (.bool d.Off)], .v (.string (bs name))] (fun a => a = .tup [.agg [.sl (List.map encFile r.1.Files), .v (.int .i64 r.1.Room), .v (.int .i64 r.1.Fuse), .v (.bool r.1.Off)], .v (.int .i64 r.2)]) := by
  unfold ref03_Delete at h
  refine pureW (G := gm_ref03_Delete) tyOk Try.func52 rfl (by kernel_rfl) (by simp [Try.f52]) ?_
  refine Tri.seqK ?_
  refine Tri.run (G := gm_ref03_Delete) tyOk mixed ?_
  conv => whnf
  refine Tri.seqK ?_
  refine Tri.seqK ?_
  refine Tri.run (G := gm_ref03_Delete) tyOk mixed ?_
  conv => whnf
  refine Tri.cond rfl (fun c2 => ?_) (fun c2 => ?_)
  · replace h := if_t c2 h
    refine Tri.seqK ?_
    refine Tri.run (G := gm_ref03_Delete) tyOk mixed ?_
    conv => whnf
    refine Tri.run (G := gm_ref03_Delete) tyOk mixed ?_
    conv => whnf
    refine fin_here ?_
    conv => whnf
    obtain rfl := Option.some.inj h
    rfl
  · replace h := if_f c2 h
    refine Tri.run (G := gm_ref03_Delete) tyOk mixed ?_
    conv => whnf
    refine Tri.seqK ?_
    refine Tri.seqK ?_
    refine Tri.run (G := gm_ref03_Delete) tyOk mixed ?_
    conv => whnf
    replace h := bind_some h
    obtain ⟨y6, q7, h⟩ := h
    refine PureP.mono (ref03_at_walk d name y6 q7) ?_
    rintro _ rfl
    conv => whnf
    refine Tri.cond rfl (fun c8 => ?_) (fun c8 => ?_)
    · replace h := if_t c8 h
      refine Tri.seqK ?_
      refine Tri.run (G := gm_ref03_Delete) tyOk mixed ?_
      conv => whnf
      refine Tri.run (G := gm_ref03_Delete) tyOk mixed ?_
      conv => whnf
      refine fin_here ?_
      conv => whnf
      obtain rfl := Option.some.inj h
      rfl
    · replace h := if_f c8 h
      refine Tri.run (G := gm_ref03_Delete) tyOk mixed ?_
      conv => whnf
      refine Tri.seqK ?_
      refine Tri.run (G := gm_ref03_Delete) tyOk mixed ?_
      conv => whnf
      replace h := bind_some h
      obtain ⟨y9, q10, h⟩ := h
      refine PureP.mono (ref03_power_walk d y9 q10) ?_
      rintro _ rfl
      conv => whnf
      refine Tri.seqK ?_
      refine Tri.seqK ?_
      refine Tri.run (G := gm_ref03_Delete) tyOk mixed ?_
      conv => whnf
      refine Tri.cond rfl (fun c12 => ?_) (fun c12 => ?_)
      · replace h := if_t c12 h
        refine Tri.seqK ?_
        refine Tri.run (G := gm_ref03_Delete) tyOk mixed ?_
        conv => whnf
        refine Tri.run (G := gm_ref03_Delete) tyOk mixed ?_
        conv => whnf
        refine fin_here ?_
        conv => whnf
        obtain rfl := Option.some.inj h
        rfl
      · replace h := if_f c12 h
        refine Tri.run (G := gm_ref03_Delete) tyOk mixed ?_
        conv => whnf
        refine Tri.seqK ?_
        refine Tri.run (G := gm_ref03_Delete) tyOk mixed ?_
        conv => whnf
        refine Draw.one 5 (.take 0 (.take 1 (.take 2 (.alt 3 (.alt 4 (.fin) (.nil)) (.nil))))) [] (by kernel_rfl) ?_
        conv => whnf
        refine ⟨?_, ?_⟩
        · conv => whnf
          replace h := bind_some h
          obtain ⟨y17, q18, h⟩ := h
          refine PureP.mono (ref03_at_walk y9.1 name y17 q18) ?_
          rintro _ rfl
          conv => whnf
          refine ⟨?_, ?_⟩
          · conv => whnf
            replace h := bind_some h
            obtain ⟨y19, q20, h⟩ := h
            refine PureP.mono (ref03_less_walk y9.1 y17 y19 q20) ?_
            rintro _ rfl
            conv => whnf
            refine Tri.run (G := gm_ref03_Delete) tyOk mixed ?_
            conv => whnf
            refine fin_here ?_
            conv => whnf
            obtain rfl := Option.some.inj h
            rfl
          · conv => whnf
            trivial
        · conv => whnf
          trivial
noncomputable def ref03_Rename (d : Disk) (from_ : Str) (to : Str) : Option (Disk × Int) :=
  if d.Off then
    some (d, 6)
  else
    if ((decide ((to.length : Int) < 1)) || (decide ((to.length : Int) > 16))) then
      some (d, 1)
    else
      (ref03_at d from_).bind fun y18 =>
      if (decide (y18 < 0)) then
        some (d, 7)
      else
        if (decide (from_ = to)) then
          some (d, 0)
        else
          (ref03_power d).bind fun y23 =>
          if (!y23.2) then
            some (y23.1, 6)
          else
            (ref03_at y23.1 to).bind fun y27 =>
            (
              if (decide (y27 ≥ 0)) then
                (ref03_less y23.1 y27).bind fun y38 =>
                some (y38.Files, y38.Room, y38.Fuse, y38.Off)
              else
                some (y23.1.Files, y23.1.Room, y23.1.Fuse, y23.1.Off)).bind fun (y35 : (List File) × Int × Int × Bool) =>
            (ref03_at ({ Files := y35.1, Room := y35.2.1, Fuse := y35.2.2.1, Off := y35.2.2.2 } : Disk) from_).bind fun y41 =>
            (ix y35.1 y41).bind fun x43 =>
            (ref03_with ({ Files := y35.1, Room := y35.2.1, Fuse := y35.2.2.1, Off := y35.2.2.2 } : Disk) y41 ({ Name := to, Safe := x43.Safe, Wait := x43.Wait } : File)).bind fun y45 =>
            some (y45, 0)
def gm_ref03_Rename : Gm := ⟨tys, [], [], []⟩
theorem ref03_Rename_walk (d : Disk) (from_ : Str) (to : Str) (r : Disk × Int) (h : ref03_Rename d from_ to = some r) : PureP Try.prog 68 [.agg [.sl (List.map encFile d.Files), .v (.int .i64 d.Room), .v (.int .i64 d.Fuse), .v (.bool d.Off)], .v (.string (bs from_)), .v (.string (bs to))] (fun a => a = .tup [.agg [.sl (List.map encFile r.1.Files), .v (.int .i64 r.1.Room), .v (.int .i64 r.1.Fuse), .v (.bool r.1.Off)], .v (.int .i64 r.2)]) := by
  unfold ref03_Rename at h
  refine pureW (G := gm_ref03_Rename) tyOk Try.func68 rfl (by kernel_rfl) (by simp [Try.f68]) ?_
  refine Tri.seqK ?_
  refine Tri.run (G := gm_ref03_Rename) tyOk mixed ?_
  conv => whnf
  refine Tri.seqK ?_
  refine Tri.seqK ?_
  refine Tri.run (G := gm_ref03_Rename) tyOk mixed ?_
  conv => whnf
  refine Tri.cond rfl (fun c2 => ?_) (fun c2 => ?_)
  · replace h := if_t c2 h
    refine Tri.seqK ?_
    refine Tri.run (G := gm_ref03_Rename) tyOk mixed ?_
    conv => whnf
    refine Tri.run (G := gm_ref03_Rename) tyOk mixed ?_
    conv => whnf
    refine fin_here ?_
    conv => whnf
    obtain rfl := Option.some.inj h
    rfl
  · replace h := if_f c2 h
    refine Tri.run (G := gm_ref03_Rename) tyOk mixed ?_
    conv => whnf
    refine Tri.seqK ?_
    refine Tri.seqK ?_
    refine Tri.cut (fun ex S' => ex = .normal ∧ Weak S' ⟨63, 0, ofRegs [(1, .v (.string (bs from_))), (2, .v (.string (bs to))), (3, .ptr 0 0), (6, .ptr 1 0), (22, .v (.bool ((decide ((to.length : Int) < 1)) || (decide ((to.length : Int) > 16)))))], [.var 31 [.sl (List.map encFile d.Files), .v (.int .i64 d.Room), .v (.int .i64 d.Fuse), .v (.bool d.Off)], .var 31 [.v (.slice none 0 0), .v (.int .i64 0), .v (.int .i64 0), .v (.bool false)]]⟩) ?_ ?_
    · refine Tri.run (G := gm_ref03_Rename) tyOk mixed ?_
      conv => whnf
      refine ⟨⟨(to.length : Int), rfl, ?_⟩⟩
      conv => whnf
      refine cond_mk (fun c12 => ?_) (fun c12 => ?_)
      · replace c12 : (decide ((to.length : Int) < 1)) = true := c12
        conv => whnf
        exact ⟨rfl, weak_fin _ rfl rfl rfl (.cons (.same rfl) (.cons (.same rfl) (LeH.rest))) (.cons (.one (.same rfl)) (.cons (.one (.same rfl)) (.cons (.one (.same rfl)) (.cons (.one (.same rfl)) (.cons (.one (.same (show (.v (.bool true) : AV) = (.v (.bool ((decide ((to.length : Int) < 1)) || (decide ((to.length : Int) > 16)))) : AV) from by first | (simp [c12]; done) | simp only [c12, Bool.or_true, Bool.true_or, Bool.false_or, Bool.or_false, Bool.and_true, Bool.true_and, Bool.and_false, Bool.false_and, Bool.not_true, Bool.not_false, if_true, if_false, Bool.false_eq_true]))) (.nil)))))) rfl rfl⟩
      · replace c12 : (decide ((to.length : Int) < 1)) = false := c12
        conv => whnf
        refine ⟨⟨(to.length : Int), rfl, ?_⟩⟩
        conv => whnf
        exact ⟨rfl, weak_fin _ rfl rfl rfl (.cons (.same rfl) (.cons (.same rfl) (LeH.rest))) (.cons (.one (.same rfl)) (.cons (.one (.same rfl)) (.cons (.one (.same rfl)) (.cons (.one (.same rfl)) (.cons (.one (.same (show (.v (.bool (decide ((to.length : Int) > 16))) : AV) = (.v (.bool ((decide ((to.length : Int) < 1)) || (decide ((to.length : Int) > 16)))) : AV) from by first | (simp [c12]; done) | simp only [c12, Bool.or_true, Bool.true_or, Bool.false_or, Bool.or_false, Bool.and_true, Bool.true_and, Bool.and_false, Bool.false_and, Bool.not_true, Bool.not_false, if_true, if_false, Bool.false_eq_true]))) (.nil)))))) rfl rfl⟩
    · rintro ex S' ⟨rfl, w13⟩
      conv => whnf
      refine Tri.weak w13 ?_
      refine Tri.cond rfl (fun c14 => ?_) (fun c14 => ?_)
      · replace h := if_t c14 h
        refine Tri.seqK ?_
        refine Tri.run (G := gm_ref03_Rename) tyOk mixed ?_
        conv => whnf
        refine Tri.run (G := gm_ref03_Rename) tyOk mixed ?_
        conv => whnf
        refine fin_here ?_
        conv => whnf
        obtain rfl := Option.some.inj h
        rfl
      · replace h := if_f c14 h
        refine Tri.run (G := gm_ref03_Rename) tyOk mixed ?_
        conv => whnf
        refine Tri.seqK ?_
        refine Tri.seqK ?_
        refine Tri.run (G := gm_ref03_Rename) tyOk mixed ?_
        conv => whnf
        replace h := bind_some h
        obtain ⟨y18, q19, h⟩ := h
        refine PureP.mono (ref03_at_walk d from_ y18 q19) ?_
        rintro _ rfl
        conv => whnf
        refine Tri.cond rfl (fun c20 => ?_) (fun c20 => ?_)
        · replace h := if_t c20 h
          refine Tri.seqK ?_
          refine Tri.run (G := gm_ref03_Rename) tyOk mixed ?_
          conv => whnf
          refine Tri.run (G := gm_ref03_Rename) tyOk mixed ?_
          conv => whnf
          refine fin_here ?_
          conv => whnf
          obtain rfl := Option.some.inj h
          rfl
        · replace h := if_f c20 h
          refine Tri.run (G := gm_ref03_Rename) tyOk mixed ?_
          conv => whnf
          refine Tri.seqK ?_
          refine Tri.seqK ?_
          refine Tri.run (G := gm_ref03_Rename) tyOk mixed ?_
          conv => whnf
          refine ⟨⟨(decide (from_ = to)), bs_eq _ _, ?_⟩⟩
          conv => whnf
          refine Tri.cond rfl (fun c22 => ?_) (fun c22 => ?_)
          · replace h := if_t c22 h
            refine Tri.seqK ?_
            refine Tri.run (G := gm_ref03_Rename) tyOk mixed ?_
            conv => whnf
            refine Tri.run (G := gm_ref03_Rename) tyOk mixed ?_
            conv => whnf
            refine fin_here ?_
            conv => whnf
            obtain rfl := Option.some.inj h
            rfl
          · replace h := if_f c22 h
            refine Tri.run (G := gm_ref03_Rename) tyOk mixed ?_
            conv => whnf
            refine Tri.seqK ?_
            refine Tri.run (G := gm_ref03_Rename) tyOk mixed ?_
            conv => whnf
            replace h := bind_some h
            obtain ⟨y23, q24, h⟩ := h
            refine PureP.mono (ref03_power_walk d y23 q24) ?_
            rintro _ rfl
            conv => whnf
            refine Tri.seqK ?_
            refine Tri.seqK ?_
            refine Tri.run (G := gm_ref03_Rename) tyOk mixed ?_
            conv => whnf
            refine Tri.cond rfl (fun c26 => ?_) (fun c26 => ?_)
            · replace h := if_t c26 h
              refine Tri.seqK ?_
              refine Tri.run (G := gm_ref03_Rename) tyOk mixed ?_
              conv => whnf
              refine Tri.run (G := gm_ref03_Rename) tyOk mixed ?_
              conv => whnf
              refine fin_here ?_
              conv => whnf
              obtain rfl := Option.some.inj h
              rfl
            · replace h := if_f c26 h
              refine Tri.run (G := gm_ref03_Rename) tyOk mixed ?_
              conv => whnf
              refine Tri.seqK ?_
              refine Tri.run (G := gm_ref03_Rename) tyOk mixed ?_
              conv => whnf
              replace h := bind_some h
              obtain ⟨y27, q28, h⟩ := h
              refine PureP.mono (ref03_at_walk y23.1 to y27 q28) ?_
              rintro _ rfl
              conv => whnf
              refine Tri.seqK ?_
              replace h := bind_some h
              obtain ⟨y35, q36, h⟩ := h
              refine Tri.cut (fun ex S' => ex = .normal ∧ Weak S' ⟨63, 0, ofRegs [(1, .v (.string (bs from_))), (2, .v (.string (bs to))), (3, .ptr 0 0), (6, .ptr 1 0)], [.var 31 [.sl (List.map encFile y35.1), .v (.int .i64 y35.2.1), .v (.int .i64 y35.2.2.1), .v (.bool y35.2.2.2)], .var 31 [.v (.slice none 0 0), .v (.int .i64 0), .v (.int .i64 0), .v (.bool false)]]⟩) ?_ ?_
              · refine Tri.seqK ?_
                refine Tri.run (G := gm_ref03_Rename) tyOk mixed ?_
                conv => whnf
                refine Tri.cond rfl (fun c37 => ?_) (fun c37 => ?_)
                · replace q36 := if_t c37 q36
                  refine Tri.run (G := gm_ref03_Rename) tyOk mixed ?_
                  conv => whnf
                  replace q36 := bind_some q36
                  obtain ⟨y38, q39, q36⟩ := q36
                  refine PureP.mono (ref03_less_walk y23.1 y27 y38 q39) ?_
                  rintro _ rfl
                  conv => whnf
                  obtain rfl := Option.some.inj q36
                  exact ⟨rfl, weak_fin _ rfl rfl rfl (.cons (.same rfl) (.cons (.same rfl) (LeH.rest))) (.cons (.one (.same rfl)) (.cons (.one (.same rfl)) (.cons (.one (.same rfl)) (.cons (.one (.same rfl)) (.nil))))) rfl rfl⟩
                · replace q36 := if_f c37 q36
                  refine Tri.run (G := gm_ref03_Rename) tyOk mixed ?_
                  conv => whnf
                  obtain rfl := Option.some.inj q36
                  exact ⟨rfl, weak_fin _ rfl rfl rfl (.cons (.same rfl) (.cons (.same rfl) (LeH.rest))) (.cons (.one (.same rfl)) (.cons (.one (.same rfl)) (.cons (.one (.same rfl)) (.cons (.one (.same rfl)) (.nil))))) rfl rfl⟩
              · rintro ex S' ⟨rfl, w40⟩
                conv => whnf
                refine Tri.weak w40 ?_
                refine Tri.seqK ?_
                refine Tri.run (G := gm_ref03_Rename) tyOk mixed ?_
                conv => whnf
                replace h := bind_some h
                obtain ⟨y41, q42, h⟩ := h
                refine PureP.mono (ref03_at_walk ({ Files := y35.1, Room := y35.2.1, Fuse := y35.2.2.1, Off := y35.2.2.2 } : Disk) from_ y41 q42) ?_
                rintro _ rfl
                conv => whnf
                refine Tri.seqK ?_
                refine Tri.run (G := gm_ref03_Rename) tyOk mixed ?_
                conv => whnf
                replace h := bind_some h
                obtain ⟨x43, q44, h⟩ := h
                refine ⟨(ix_some q44).1, ?_⟩
                conv => whnf
                refine ⟨⟨_, map_get encFile (ix_some q44).2, ?_⟩⟩
                conv => whnf
                refine ⟨rfl, ?_⟩
                conv => whnf
                refine Tri.seqK ?_
                refine Tri.run (G := gm_ref03_Rename) tyOk mixed ?_
                conv => whnf
                refine Tri.seqK ?_
                refine Tri.run (G := gm_ref03_Rename) tyOk mixed ?_
                conv => whnf
                replace h := bind_some h
                obtain ⟨y45, q46, h⟩ := h
                refine PureP.mono (ref03_with_walk ({ Files := y35.1, Room := y35.2.1, Fuse := y35.2.2.1, Off := y35.2.2.2 } : Disk) y41 ({ Name := to, Safe := x43.Safe, Wait := x43.Wait } : File) y45 q46) ?_
                rintro _ rfl
                conv => whnf
                refine Tri.run (G := gm_ref03_Rename) tyOk mixed ?_
                conv => whnf
                refine fin_here ?_
                conv => whnf
                obtain rfl := Option.some.inj h
                rfl
end Go.Ab
