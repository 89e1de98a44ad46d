/- The program's functions as plain Lean functions, and that the program comes to what they come to. Printed by a program of this session. -/
import Derived.Test.YtdoceelfokmhfaaW4
import Derived.Test.YtdoceelfokmhfaaSh
namespace Go.Ab
open Go.Proofs
set_option linter.unusedVariables false
set_option linter.unusedSimpArgs false
set_option maxRecDepth 100000
set_option maxHeartbeats 4000000
noncomputable def law10_LockAsks (with_ : LockAsksIn) : Option (Bool) :=
  law10_shown.bind fun y1 =>
  (law10_small with_.L).bind fun y3 =>
  if ((!y1) || (!y3)) then
    some y1
  else
    (lock_Ask with_.L with_.Txn with_.W with_.Until).bind fun y17 =>
    (ref10_Ask with_.L with_.Txn with_.W with_.Until).bind fun y19 =>
    (ref10_Same y17.1 y19.1).bind fun y21 =>
    (lock_Blockers with_.L with_.Txn with_.W with_.N).bind fun y29 =>
    (ref10_Blockers with_.L with_.Txn with_.W with_.N).bind fun y31 =>
    (ref10_Ints y29 y31).bind fun y33 =>
    (lock_Late with_.L with_.Until).bind fun y41 =>
    (ref10_Late with_.L with_.Until).bind fun y43 =>
    (ref10_Ints y41 y43).bind fun y45 =>
    if y21 then
      if (decide (y17.2 = y19.2)) then
        if y33 then
          if y45 then
            (lock_Waits with_.L with_.Txn).bind fun y67 =>
            (ref10_Waits with_.L with_.Txn).bind fun y69 =>
            if (y67 == y69) then
              (lock_Same with_.L with_.Other).bind fun y72 =>
              (ref10_Same with_.L with_.Other).bind fun y74 =>
              if (y72 == y74) then
                (lock_Same with_.L with_.L).bind fun y77 =>
                some y77
              else
                some false
            else
              some false
          else
            some false
        else
          some false
      else
        some false
    else
      some false
def gm_law10_LockAsks : Gm := ⟨tys, [], [], []⟩
theorem law10_LockAsks_walk (with_ : LockAsksIn) (r : Bool) (h : law10_LockAsks with_ = some r) : PureP Try.prog 14 [.agg [.sl (List.map encHold with_.L.Held), .sl (List.map encClaim with_.L.Queue), .v (.int .i64 with_.Txn), .v (.int .i64 with_.W.Mode), .v (.string (bs with_.W.Lo)), .v (.string (bs with_.W.Hi)), .v (.int .u64 with_.Until), .v (.int .i64 with_.N), .sl (List.map encHold with_.Other.Held), .sl (List.map encClaim with_.Other.Queue)]] (fun a => a = .v (.bool r)) := by
  unfold law10_LockAsks at h
  refine pureW (G := gm_law10_LockAsks) tyOk Try.func14 rfl (by kernel_rfl) (by simp [Try.f14]) ?_
  refine Tri.seqK ?_
  refine Tri.run (G := gm_law10_LockAsks) tyOk mixed ?_
  conv => whnf
  refine Tri.seqK ?_
  refine Tri.run (G := gm_law10_LockAsks) tyOk mixed ?_
  conv => whnf
  refine Tri.seqK ?_
  refine Tri.run (G := gm_law10_LockAsks) tyOk mixed ?_
  conv => whnf
  refine Tri.seqK ?_
  refine Tri.run (G := gm_law10_LockAsks) tyOk mixed ?_
  conv => whnf
  refine Tri.seqK ?_
  refine Tri.run (G := gm_law10_LockAsks) tyOk mixed ?_
  conv => whnf
  refine Tri.seqK ?_
  refine Tri.run (G := gm_law10_LockAsks) tyOk mixed ?_
  conv => whnf
  refine Tri.seqK ?_
  refine Tri.run (G := gm_law10_LockAsks) tyOk mixed ?_
  conv => whnf
  refine Tri.seqK ?_
  refine Tri.run (G := gm_law10_LockAsks) tyOk mixed ?_
  conv => whnf
  replace h := bind_some h
  obtain ⟨y1, q2, h⟩ := h
  refine PureP.mono (law10_shown_walk y1 q2) ?_
  rintro _ rfl
  conv => whnf
  refine Tri.seqK ?_
  refine Tri.run (G := gm_law10_LockAsks) tyOk mixed ?_
  conv => whnf
  replace h := bind_some h
  obtain ⟨y3, q4, h⟩ := h
  refine PureP.mono (law10_small_walk with_.L y3 q4) ?_
  rintro _ rfl
  conv => whnf
  refine Tri.seqK ?_
  refine Tri.seqK ?_
  refine Tri.cut (fun ex S' => ex = .normal ∧ Weak S' ⟨112, 0, ofRegs [(3, .ptr 1 0), (4, .v (.int .i64 with_.Txn)), (5, .ptr 2 0), (6, .v (.int .u64 with_.Until)), (7, .v (.int .i64 with_.N)), (8, .ptr 3 0), (9, .v (.bool y1)), (38, .v (.bool ((!y1) || (!y3))))], [.gone, .var 25 [.sl (List.map encHold with_.L.Held), .sl (List.map encClaim with_.L.Queue)], .var 44 [.v (.int .i64 with_.W.Mode), .v (.string (bs with_.W.Lo)), .v (.string (bs with_.W.Hi))], .var 25 [.sl (List.map encHold with_.Other.Held), .sl (List.map encClaim with_.Other.Queue)]]⟩) ?_ ?_
  · refine Tri.run (G := gm_law10_LockAsks) tyOk mixed ?_
    conv => whnf
    refine cond_mk (fun c14 => ?_) (fun c14 => ?_)
    · replace c14 : (!y1) = true := c14
      conv => whnf
      exact ⟨rfl, weak_fin _ rfl rfl rfl (.cons (.gone) (.cons (.same rfl) (.cons (.same rfl) (.cons (.same rfl) (LeH.rest))))) (.cons (.one (.same rfl)) (.cons (.one (.same rfl)) (.cons (.one (.same rfl)) (.cons (.one (.same rfl)) (.cons (.one (.same rfl)) (.cons (.one (.same rfl)) (.cons (.one (.same rfl)) (.cons (.one (.same (show (.v (.bool true) : AV) = (.v (.bool ((!y1) || (!y3))) : AV) from by first | (simp [c14]; done) | simp only [c14, Bool.or_true, Bool.true_or, Bool.false_or, Bool.or_false, Bool.and_true, Bool.true_and, Bool.and_false, Bool.false_and, Bool.not_true, Bool.not_false, if_true, if_false, Bool.false_eq_true]))) (.nil))))))))) rfl rfl⟩
    · replace c14 : (!y1) = false := c14
      conv => whnf
      exact ⟨rfl, weak_fin _ rfl rfl rfl (.cons (.gone) (.cons (.same rfl) (.cons (.same rfl) (.cons (.same rfl) (LeH.rest))))) (.cons (.one (.same rfl)) (.cons (.one (.same rfl)) (.cons (.one (.same rfl)) (.cons (.one (.same rfl)) (.cons (.one (.same rfl)) (.cons (.one (.same rfl)) (.cons (.one (.same rfl)) (.cons (.one (.same (show (.v (.bool (!y3)) : AV) = (.v (.bool ((!y1) || (!y3))) : AV) from by first | (simp [c14]; done) | simp only [c14, Bool.or_true, Bool.true_or, Bool.false_or, Bool.or_false, Bool.and_true, Bool.true_and, Bool.and_false, Bool.false_and, Bool.not_true, Bool.not_false, if_true, if_false, Bool.false_eq_true]))) (.nil))))))))) rfl rfl⟩
  · rintro ex S' ⟨rfl, w15⟩
    conv => whnf
    refine Tri.weak w15 ?_
    refine Tri.cond rfl (fun c16 => ?_) (fun c16 => ?_)
    · replace h := if_t c16 h
      refine Tri.seqK ?_
      refine Tri.run (G := gm_law10_LockAsks) tyOk mixed ?_
      conv => whnf
      refine Tri.run (G := gm_law10_LockAsks) tyOk mixed ?_
      conv => whnf
      refine fin_here ?_
      conv => whnf
      cases h
      rfl
    · replace h := if_f c16 h
      refine Tri.run (G := gm_law10_LockAsks) tyOk mixed ?_
      conv => whnf
      refine Tri.seqK ?_
      refine Tri.run (G := gm_law10_LockAsks) tyOk mixed ?_
      conv => whnf
      replace h := bind_some h
      obtain ⟨y17, q18, h⟩ := h
      refine PureP.mono (lock_Ask_walk with_.L with_.Txn with_.W with_.Until y17 q18) ?_
      rintro _ rfl
      conv => whnf
      refine Tri.seqK ?_
      refine Tri.run (G := gm_law10_LockAsks) tyOk mixed ?_
      conv => whnf
      replace h := bind_some h
      obtain ⟨y19, q20, h⟩ := h
      refine PureP.mono (ref10_Ask_walk with_.L with_.Txn with_.W with_.Until y19 q20) ?_
      rintro _ rfl
      conv => whnf
      refine Tri.seqK ?_
      refine Tri.run (G := gm_law10_LockAsks) tyOk mixed ?_
      conv => whnf
      replace h := bind_some h
      obtain ⟨y21, q22, h⟩ := h
      refine PureP.mono (ref10_Same_walk y17.1 y19.1 y21 q22) ?_
      rintro _ rfl
      conv => whnf
      refine Tri.seqK ?_
      refine Tri.run (G := gm_law10_LockAsks) tyOk mixed ?_
      conv => whnf
      refine Draw.one 12 (.take 0 (.take 1 (.take 2 (.take 3 (.take 5 (.take 6 (.take 7 (.take 8 (.alt 4 (.alt 9 (.alt 10 (.take 11 (.fin)) (.nil)) (.nil)) (.nil)))))))))) [] (by kernel_rfl) ?_
      conv => whnf
      refine ⟨?_, ?_⟩
      · conv => whnf
        replace h := bind_some h
        obtain ⟨y29, q30, h⟩ := h
        refine PureP.mono (lock_Blockers_walk with_.L with_.Txn with_.W with_.N y29 q30) ?_
        rintro _ rfl
        conv => whnf
        refine ⟨?_, ?_⟩
        · conv => whnf
          replace h := bind_some h
          obtain ⟨y31, q32, h⟩ := h
          refine PureP.mono (ref10_Blockers_walk with_.L with_.Txn with_.W with_.N y31 q32) ?_
          rintro _ rfl
          conv => whnf
          refine ⟨?_, ?_⟩
          · conv => whnf
            replace h := bind_some h
            obtain ⟨y33, q34, h⟩ := h
            refine PureP.mono (ref10_Ints_walk y29 y31 y33 q34) ?_
            rintro _ rfl
            conv => whnf
            refine Tri.seqK ?_
            refine Tri.run (G := gm_law10_LockAsks) tyOk mixed ?_
            conv => whnf
            refine Draw.one 8 (.take 0 (.take 1 (.take 3 (.take 4 (.alt 2 (.alt 5 (.alt 6 (.take 7 (.fin)) (.nil)) (.nil)) (.nil)))))) [] (by kernel_rfl) ?_
            conv => whnf
            refine ⟨?_, ?_⟩
            · conv => whnf
              replace h := bind_some h
              obtain ⟨y41, q42, h⟩ := h
              refine PureP.mono (lock_Late_walk with_.L with_.Until y41 q42) ?_
              rintro _ rfl
              conv => whnf
              refine ⟨?_, ?_⟩
              · conv => whnf
                replace h := bind_some h
                obtain ⟨y43, q44, h⟩ := h
                refine PureP.mono (ref10_Late_walk with_.L with_.Until y43 q44) ?_
                rintro _ rfl
                conv => whnf
                refine ⟨?_, ?_⟩
                · conv => whnf
                  replace h := bind_some h
                  obtain ⟨y45, q46, h⟩ := h
                  refine PureP.mono (ref10_Ints_walk y41 y43 y45 q46) ?_
                  rintro _ rfl
                  conv => whnf
                  refine Tri.seqK ?_
                  refine Tri.run (G := gm_law10_LockAsks) tyOk mixed ?_
                  conv => whnf
                  refine Draw.one 36 (.take 0 (.take 1 (.take 2 (.take 3 (.take 4 (.take 5 (.take 6 (.take 7 (.take 8 (.take 9 (.take 10 (.take 11 (.take 12 (.take 13 (.take 14 (.take 16 (.take 17 (.alt 15 (.alt 18 (.take 19 (.take 20 (.take 21 (.take 22 (.take 23 (.take 25 (.take 26 (.alt 24 (.alt 27 (.take 28 (.take 29 (.take 30 (.take 31 (.take 32 (.alt 33 (.take 34 (.take 35 (.fin))) (.nil))))))) (.nil)) (.nil))))))))) (.nil)) (.nil))))))))))))))))))) [] (by kernel_rfl) ?_
                  conv => whnf
                  refine cond_mk (fun c63 => ?_) (fun c63 => ?_)
                  · replace h := if_t c63 h
                    conv => whnf
                    refine cond_mk (fun c64 => ?_) (fun c64 => ?_)
                    · replace h := if_t c64 h
                      conv => whnf
                      refine cond_mk (fun c65 => ?_) (fun c65 => ?_)
                      · replace h := if_t c65 h
                        conv => whnf
                        refine cond_mk (fun c66 => ?_) (fun c66 => ?_)
                        · replace h := if_t c66 h
                          conv => whnf
                          refine ⟨?_, ?_⟩
                          · conv => whnf
                            replace h := bind_some h
                            obtain ⟨y67, q68, h⟩ := h
                            refine PureP.mono (lock_Waits_walk with_.L with_.Txn y67 q68) ?_
                            rintro _ rfl
                            conv => whnf
                            refine ⟨?_, ?_⟩
                            · conv => whnf
                              replace h := bind_some h
                              obtain ⟨y69, q70, h⟩ := h
                              refine PureP.mono (ref10_Waits_walk with_.L with_.Txn y69 q70) ?_
                              rintro _ rfl
                              conv => whnf
                              refine cond_mk (fun c71 => ?_) (fun c71 => ?_)
                              · replace h := if_t c71 h
                                conv => whnf
                                refine ⟨?_, ?_⟩
                                · conv => whnf
                                  replace h := bind_some h
                                  obtain ⟨y72, q73, h⟩ := h
                                  refine PureP.mono (lock_Same_walk with_.L with_.Other y72 q73) ?_
                                  rintro _ rfl
                                  conv => whnf
                                  refine ⟨?_, ?_⟩
                                  · conv => whnf
                                    replace h := bind_some h
                                    obtain ⟨y74, q75, h⟩ := h
                                    refine PureP.mono (ref10_Same_walk with_.L with_.Other y74 q75) ?_
                                    rintro _ rfl
                                    conv => whnf
                                    refine cond_mk (fun c76 => ?_) (fun c76 => ?_)
                                    · replace h := if_t c76 h
                                      conv => whnf
                                      refine ⟨?_, ?_⟩
                                      · conv => whnf
                                        replace h := bind_some h
                                        obtain ⟨y77, q78, h⟩ := h
                                        refine PureP.mono (lock_Same_walk with_.L with_.L y77 q78) ?_
                                        rintro _ rfl
                                        conv => whnf
                                        refine Tri.run (G := gm_law10_LockAsks) tyOk mixed ?_
                                        conv => whnf
                                        refine fin_here ?_
                                        conv => whnf
                                        cases h
                                        rfl
                                      · conv => whnf
                                        trivial
                                    · replace h := if_f c76 h
                                      conv => whnf
                                      refine ⟨?_, ?_⟩
                                      · conv => whnf
                                        refine Tri.run (G := gm_law10_LockAsks) tyOk mixed ?_
                                        conv => whnf
                                        refine fin_here ?_
                                        conv => whnf
                                        cases h
                                        rfl
                                      · conv => whnf
                                        trivial
                                  · conv => whnf
                                    trivial
                                · conv => whnf
                                  trivial
                              · replace h := if_f c71 h
                                conv => whnf
                                refine ⟨?_, ?_⟩
                                · conv => whnf
                                  refine ⟨?_, ?_⟩
                                  · conv => whnf
                                    refine ⟨?_, ?_⟩
                                    · conv => whnf
                                      refine Tri.run (G := gm_law10_LockAsks) tyOk mixed ?_
                                      conv => whnf
                                      refine fin_here ?_
                                      conv => whnf
                                      cases h
                                      rfl
                                    · conv => whnf
                                      trivial
                                  · conv => whnf
                                    trivial
                                · conv => whnf
                                  trivial
                            · conv => whnf
                              trivial
                          · conv => whnf
                            trivial
                        · replace h := if_f c66 h
                          conv => whnf
                          refine ⟨?_, ?_⟩
                          · conv => whnf
                            refine ⟨?_, ?_⟩
                            · conv => whnf
                              refine ⟨?_, ?_⟩
                              · conv => whnf
                                refine ⟨?_, ?_⟩
                                · conv => whnf
                                  refine ⟨?_, ?_⟩
                                  · conv => whnf
                                    refine Tri.run (G := gm_law10_LockAsks) tyOk mixed ?_
                                    conv => whnf
                                    refine fin_here ?_
                                    conv => whnf
                                    cases h
                                    rfl
                                  · conv => whnf
                                    trivial
                                · conv => whnf
                                  trivial
                              · conv => whnf
                                trivial
                            · conv => whnf
                              trivial
                          · conv => whnf
                            trivial
                      · replace h := if_f c65 h
                        conv => whnf
                        refine ⟨?_, ?_⟩
                        · conv => whnf
                          refine ⟨?_, ?_⟩
                          · conv => whnf
                            refine ⟨?_, ?_⟩
                            · conv => whnf
                              refine ⟨?_, ?_⟩
                              · conv => whnf
                                refine ⟨?_, ?_⟩
                                · conv => whnf
                                  refine Tri.run (G := gm_law10_LockAsks) tyOk mixed ?_
                                  conv => whnf
                                  refine fin_here ?_
                                  conv => whnf
                                  cases h
                                  rfl
                                · conv => whnf
                                  trivial
                              · conv => whnf
                                trivial
                            · conv => whnf
                              trivial
                          · conv => whnf
                            trivial
                        · conv => whnf
                          trivial
                    · replace h := if_f c64 h
                      conv => whnf
                      refine ⟨?_, ?_⟩
                      · conv => whnf
                        refine ⟨?_, ?_⟩
                        · conv => whnf
                          refine ⟨?_, ?_⟩
                          · conv => whnf
                            refine ⟨?_, ?_⟩
                            · conv => whnf
                              refine ⟨?_, ?_⟩
                              · conv => whnf
                                refine Tri.run (G := gm_law10_LockAsks) tyOk mixed ?_
                                conv => whnf
                                refine fin_here ?_
                                conv => whnf
                                cases h
                                rfl
                              · conv => whnf
                                trivial
                            · conv => whnf
                              trivial
                          · conv => whnf
                            trivial
                        · conv => whnf
                          trivial
                      · conv => whnf
                        trivial
                  · replace h := if_f c63 h
                    conv => whnf
                    refine ⟨?_, ?_⟩
                    · conv => whnf
                      refine ⟨?_, ?_⟩
                      · conv => whnf
                        refine ⟨?_, ?_⟩
                        · conv => whnf
                          refine ⟨?_, ?_⟩
                          · conv => whnf
                            refine ⟨?_, ?_⟩
                            · conv => whnf
                              refine Tri.run (G := gm_law10_LockAsks) tyOk mixed ?_
                              conv => whnf
                              refine fin_here ?_
                              conv => whnf
                              cases h
                              rfl
                            · conv => whnf
                              trivial
                          · conv => whnf
                            trivial
                        · conv => whnf
                          trivial
                      · conv => whnf
                        trivial
                    · conv => whnf
                      trivial
                · conv => whnf
                  trivial
              · conv => whnf
                trivial
            · conv => whnf
              trivial
          · conv => whnf
            trivial
        · conv => whnf
          trivial
      · conv => whnf
        trivial
end Go.Ab
