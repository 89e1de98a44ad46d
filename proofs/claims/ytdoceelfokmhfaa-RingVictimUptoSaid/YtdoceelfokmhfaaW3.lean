/- The program's functions as plain Lean functions, and that the program comes to what they come to. Printed by a program of this session. -/
import Derived.Test.YtdoceelfokmhfaaW2
import Derived.Test.YtdoceelfokmhfaaSh
namespace Go.Ab
open Go.Proofs
set_option linter.unusedVariables false
set_option linter.unusedSimpArgs false
set_option maxRecDepth 100000
set_option maxHeartbeats 4000000
noncomputable def law11_RingSame_l26 (y17 : (List Int)) (y2003 : (List Int)) (a2097 : Bool) (a2098 : Int) : Option ((Bool × Int) ⊕ (Bool)) :=
  if (decide (a2098 < (y2003.length : Int))) then
    (
      if a2097 then
        some true
      else
        (ix y2003 a2098).bind fun x2119 =>
        (law11_has y17 x2119).bind fun y2121 =>
        some y2121).bind fun (y2116 : Bool) =>
    some (.inl (y2116, (IntKind.i64.wrap (a2098 + 1))))
  else
    some (.inr a2097)
noncomputable def law11_RingSame_l22 (l : Locks) (y17 : (List Int)) (a1770 : Int) : Option ((Int) ⊕ ((Unit) ⊕ (Unit))) :=
  if (decide (a1770 < (y17.length : Int))) then
    (ix y17 a1770).bind fun x1959 =>
    (ring_Ring l x1959).bind fun y1961 =>
    (ref10_Ints y17 y1961).bind fun y1963 =>
    (ring_Victim l x1959).bind fun y1967 =>
    (
      if (!y1963) then
        some true
      else
        if (!y1967.2) then
          some true
        else
          (ix y17 (IntKind.i64.wrap ((y17.length : Int) - 1))).bind fun x1997 =>
          some (!(decide (y1967.1 = x1997)))).bind fun (y1993 : Bool) =>
    if y1993 then
      some (.inr (.inl ()))
    else
      (ring_After l x1959).bind fun y2003 =>
      (loop (fun (s2101 : Bool × Int) => law11_RingSame_l26 y17 y2003 s2101.1 s2101.2) (false, (0 : Int))).bind fun (y2099 : Bool) =>
      if (!y2099) then
        some (.inr (.inl ()))
      else
        some (.inl (IntKind.i64.wrap (a1770 + 1)))
  else
    some (.inr (.inr ()))
noncomputable def law11_RingSame (l : Locks) (txn : Int) : Option (Bool) :=
  law11_shown.bind fun y1 =>
  (law11_small l).bind fun y3 =>
  if ((!y1) || (!y3)) then
    some y1
  else
    (ring_Ring l txn).bind fun y17 =>
    (loop (fun (s1775 : Int) => law11_RingSame_l22 l y17 s1775) (0 : Int)).bind fun (y1771 : (Unit) ⊕ (Unit)) =>
    match y1771 with
    | (.inl v1773) =>
      some false
    | (.inr v1774) =>
      some true
def gm_law11_RingSame : Gm := ⟨tys, [], [], []⟩
theorem law11_RingSame_walk (l : Locks) (txn : Int) (r : Bool) (h : law11_RingSame l txn = some r) : PureP Try.prog 4 [.agg [.sl (List.map encHold l.Held), .sl (List.map encClaim l.Queue)], .v (.int .i64 txn)] (fun a => a = .v (.bool r)) := by
  unfold law11_RingSame at h
  refine pureW (G := gm_law11_RingSame) tyOk Try.func4 rfl (by kernel_rfl) (by simp [Try.f4]) ?_
  refine Tri.seqK ?_
  refine Tri.run (G := gm_law11_RingSame) tyOk mixed ?_
  conv => whnf
  refine Tri.seqK ?_
  refine Tri.run (G := gm_law11_RingSame) tyOk mixed ?_
  conv => whnf
  replace h := bind_some h
  obtain ⟨y1, q2, h⟩ := h
  refine PureP.mono (law11_shown_walk y1 q2) ?_
  rintro _ rfl
  conv => whnf
  refine Tri.seqK ?_
  refine Tri.run (G := gm_law11_RingSame) tyOk mixed ?_
  conv => whnf
  replace h := bind_some h
  obtain ⟨y3, q4, h⟩ := h
  refine PureP.mono (law11_small_walk l y3 q4) ?_
  rintro _ rfl
  conv => whnf
  refine Tri.seqK ?_
  refine Tri.seqK ?_
  refine Tri.cut (fun ex S' => ex = .normal ∧ Weak S' ⟨90, 0, ofRegs [(1, .v (.int .i64 txn)), (2, .ptr 0 0), (5, .v (.bool y1)), (23, .v (.bool ((!y1) || (!y3))))], [.var 25 [.sl (List.map encHold l.Held), .sl (List.map encClaim l.Queue)]]⟩) ?_ ?_
  · refine Tri.run (G := gm_law11_RingSame) tyOk mixed ?_
    conv => whnf
    refine cond_mk (fun c14 => ?_) (fun c14 => ?_)
    · replace c14 : (!y1) = true := c14
      conv => whnf
      exact ⟨rfl, weak_fin _ rfl rfl rfl (.cons (.same rfl) (LeH.rest)) (.cons (.one (.same rfl)) (.cons (.one (.same rfl)) (.cons (.one (.same rfl)) (.cons (.one (.same (show (.v (.bool true) : AV) = (.v (.bool ((!y1) || (!y3))) : AV) from by first | (simp [c14]; done) | simp only [c14, Bool.or_true, Bool.true_or, Bool.false_or, Bool.or_false, Bool.and_true, Bool.true_and, Bool.and_false, Bool.false_and, Bool.not_true, Bool.not_false, if_true, if_false, Bool.false_eq_true]))) (.nil))))) rfl rfl⟩
    · replace c14 : (!y1) = false := c14
      conv => whnf
      exact ⟨rfl, weak_fin _ rfl rfl rfl (.cons (.same rfl) (LeH.rest)) (.cons (.one (.same rfl)) (.cons (.one (.same rfl)) (.cons (.one (.same rfl)) (.cons (.one (.same (show (.v (.bool (!y3)) : AV) = (.v (.bool ((!y1) || (!y3))) : AV) from by first | (simp [c14]; done) | simp only [c14, Bool.or_true, Bool.true_or, Bool.false_or, Bool.or_false, Bool.and_true, Bool.true_and, Bool.and_false, Bool.false_and, Bool.not_true, Bool.not_false, if_true, if_false, Bool.false_eq_true]))) (.nil))))) rfl rfl⟩
  · rintro ex S' ⟨rfl, w15⟩
    conv => whnf
    refine Tri.weak w15 ?_
    refine Tri.cond rfl (fun c16 => ?_) (fun c16 => ?_)
    · replace h := if_t c16 h
      refine Tri.seqK ?_
      refine Tri.run (G := gm_law11_RingSame) tyOk mixed ?_
      conv => whnf
      refine Tri.run (G := gm_law11_RingSame) tyOk mixed ?_
      conv => whnf
      refine fin_here ?_
      conv => whnf
      cases h
      rfl
    · replace h := if_f c16 h
      refine Tri.run (G := gm_law11_RingSame) tyOk mixed ?_
      conv => whnf
      refine Tri.seqK ?_
      refine Tri.run (G := gm_law11_RingSame) tyOk mixed ?_
      conv => whnf
      replace h := bind_some h
      obtain ⟨y17, q18, h⟩ := h
      refine PureP.mono (ring_Ring_walk l txn y17 q18) ?_
      rintro _ rfl
      conv => whnf
      refine Tri.seqK ?_
      refine Tri.seqK ?_
      refine Tri.run (G := gm_law11_RingSame) tyOk mixed ?_
      conv => whnf
      refine Tri.block ?_
      replace h := bind_some h
      obtain ⟨y1771, q1772, h⟩ := h
      refine Tri.cut (fun ex S' => (∃ v1773 : Unit, y1771 = (.inl v1773) ∧ ex = .ret ∧ Weak S' ⟨90, 0, ofRegs [(4, .v (.bool false))], []⟩) ∨ (∃ v1774 : Unit, y1771 = (.inr v1774) ∧ ex = (.exit 0) ∧ Weak S' ⟨90, 0, ofRegs [], []⟩)) ?_ ?_
      · refine Tri.loopF (fun (s1775 : Int) => (⟨90, 0, ofRegs [(2, .ptr 0 0), (7, .sl (List.map (encI .i64) y17)), (8, .v (.int .i64 s1775))], [.var 25 [.sl (List.map encHold l.Held), .sl (List.map encClaim l.Queue)]]⟩ : St)) q1772 (weak_fin _ rfl rfl rfl (.cons (.same rfl) (LeH.rest)) (.cons (.one (.same rfl)) (.cons (.one (.same rfl)) (.cons (.one (.same rfl)) (.nil)))) rfl rfl) ?_
        rintro a1770 v1776 hv r1777
        have hv : law11_RingSame_l22 l y17 a1770 = some v1776 := hv
        unfold law11_RingSame_l22 at hv
        refine Tri.seqK ?_
        refine Tri.seqK ?_
        refine Tri.run (G := gm_law11_RingSame) tyOk mixed ?_
        conv => whnf
        refine ⟨⟨(y17.length : Int), (len_map _ _).symm, ?_⟩⟩
        conv => whnf
        refine Tri.cond rfl (fun c1779 => ?_) (fun c1779 => ?_)
        · replace hv := if_t c1779 hv
          refine Tri.run (G := gm_law11_RingSame) tyOk mixed ?_
          conv => whnf
          refine Tri.seqK ?_
          refine Tri.block ?_
          refine Tri.seqK ?_
          refine Tri.run (G := gm_law11_RingSame) tyOk mixed ?_
          conv => whnf
          refine Draw.one 9 (.take 0 (.take 1 (.take 2 (.take 3 (.take 4 (.take 5 (.alt 6 (.alt 7 (.take 8 (.fin)) (.nil)) (.nil)))))))) [] (by kernel_rfl) ?_
          conv => whnf
          replace hv := bind_some hv
          obtain ⟨x1959, q1960, hv⟩ := hv
          refine ⟨(ix_some q1960).1, ?_⟩
          conv => whnf
          refine ⟨⟨_, map_get (encI .i64) (ix_some q1960).2, ?_⟩⟩
          conv => whnf
          refine ⟨rfl, ?_⟩
          conv => whnf
          refine ⟨?_, ?_⟩
          · conv => whnf
            replace hv := bind_some hv
            obtain ⟨y1961, q1962, hv⟩ := hv
            refine PureP.mono (ring_Ring_walk l x1959 y1961 q1962) ?_
            rintro _ rfl
            conv => whnf
            refine ⟨?_, ?_⟩
            · conv => whnf
              replace hv := bind_some hv
              obtain ⟨y1963, q1964, hv⟩ := hv
              refine PureP.mono (ref10_Ints_walk y17 y1961 y1963 q1964) ?_
              rintro _ rfl
              conv => whnf
              refine Tri.seqK ?_
              refine Tri.run (G := gm_law11_RingSame) tyOk mixed ?_
              conv => whnf
              refine Draw.one 11 (.take 0 (.take 1 (.take 2 (.take 3 (.take 4 (.alt 5 (.take 6 (.take 7 (.take 8 (.take 9 (.take 10 (.fin)))))) (.nil))))))) [] (by kernel_rfl) ?_
              conv => whnf
              refine ⟨(ix_some q1960).1, ?_⟩
              conv => whnf
              refine ⟨⟨_, map_get (encI .i64) (ix_some q1960).2, ?_⟩⟩
              conv => whnf
              refine ⟨rfl, ?_⟩
              conv => whnf
              refine ⟨?_, ?_⟩
              · conv => whnf
                replace hv := bind_some hv
                obtain ⟨y1967, q1968, hv⟩ := hv
                refine PureP.mono (ring_Victim_walk l x1959 y1967 q1968) ?_
                rintro _ rfl
                conv => whnf
                refine Tri.seqK ?_
                refine Tri.seqK ?_
                replace hv := bind_some hv
                obtain ⟨y1993, q1994, hv⟩ := hv
                refine Tri.cut (fun ex S' => ex = .normal ∧ Weak S' ⟨90, 0, ofRegs [(2, .ptr 0 0), (7, .sl (List.map (encI .i64) y17)), (8, .v (.int .i64 a1770)), (66, .v (.bool y1993))], [.var 25 [.sl (List.map encHold l.Held), .sl (List.map encClaim l.Queue)]]⟩) ?_ ?_
                · refine Tri.run (G := gm_law11_RingSame) tyOk mixed ?_
                  conv => whnf
                  refine cond_mk (fun c1995 => ?_) (fun c1995 => ?_)
                  · replace q1994 := if_t c1995 q1994
                    conv => whnf
                    cases q1994
                    exact ⟨rfl, weak_fin _ rfl rfl rfl (.cons (.same rfl) (LeH.rest)) (.cons (.one (.same rfl)) (.cons (.one (.same rfl)) (.cons (.one (.same rfl)) (.cons (.one (.same rfl)) (.nil))))) rfl rfl⟩
                  · replace q1994 := if_f c1995 q1994
                    conv => whnf
                    refine cond_mk (fun c1996 => ?_) (fun c1996 => ?_)
                    · replace q1994 := if_t c1996 q1994
                      conv => whnf
                      cases q1994
                      exact ⟨rfl, weak_fin _ rfl rfl rfl (.cons (.same rfl) (LeH.rest)) (.cons (.one (.same rfl)) (.cons (.one (.same rfl)) (.cons (.one (.same rfl)) (.cons (.one (.same rfl)) (.nil))))) rfl rfl⟩
                    · replace q1994 := if_f c1996 q1994
                      conv => whnf
                      refine ⟨⟨(y17.length : Int), (len_map _ _).symm, ?_⟩⟩
                      conv => whnf
                      replace q1994 := bind_some q1994
                      obtain ⟨x1997, q1998, q1994⟩ := q1994
                      refine ⟨(ix_some q1998).1, ?_⟩
                      conv => whnf
                      refine ⟨⟨_, map_get (encI .i64) (ix_some q1998).2, ?_⟩⟩
                      conv => whnf
                      refine ⟨rfl, ?_⟩
                      conv => whnf
                      cases q1994
                      exact ⟨rfl, weak_fin _ rfl rfl rfl (.cons (.same rfl) (LeH.rest)) (.cons (.one (.same rfl)) (.cons (.one (.same rfl)) (.cons (.one (.same rfl)) (.cons (.one (.same rfl)) (.nil))))) rfl rfl⟩
                · rintro ex S' ⟨rfl, w1999⟩
                  conv => whnf
                  refine Tri.weak w1999 ?_
                  refine Tri.cond rfl (fun c2000 => ?_) (fun c2000 => ?_)
                  · replace hv := if_t c2000 hv
                    refine Tri.seqK ?_
                    refine Tri.run (G := gm_law11_RingSame) tyOk mixed ?_
                    conv => whnf
                    refine Tri.run (G := gm_law11_RingSame) tyOk mixed ?_
                    conv => whnf
                    cases hv
                    obtain rfl := r1777 _ rfl
                    exact Or.inl ⟨_, rfl, rfl, weak_fin _ rfl rfl rfl (LeH.rest) (.cons (.one (.same rfl)) (.nil)) rfl rfl⟩
                  · replace hv := if_f c2000 hv
                    refine Tri.run (G := gm_law11_RingSame) tyOk mixed ?_
                    conv => whnf
                    refine Tri.seqK ?_
                    refine Tri.run (G := gm_law11_RingSame) tyOk mixed ?_
                    conv => whnf
                    refine Draw.one 7 (.take 0 (.take 1 (.take 2 (.take 3 (.take 4 (.alt 5 (.take 6 (.fin)) (.nil))))))) [] (by kernel_rfl) ?_
                    conv => whnf
                    refine ⟨(ix_some q1960).1, ?_⟩
                    conv => whnf
                    refine ⟨⟨_, map_get (encI .i64) (ix_some q1960).2, ?_⟩⟩
                    conv => whnf
                    refine ⟨rfl, ?_⟩
                    conv => whnf
                    refine ⟨?_, ?_⟩
                    · conv => whnf
                      replace hv := bind_some hv
                      obtain ⟨y2003, q2004, hv⟩ := hv
                      refine PureP.mono (ring_After_walk l x1959 y2003 q2004) ?_
                      rintro _ rfl
                      conv => whnf
                      refine Tri.seqK ?_
                      refine Tri.run (G := gm_law11_RingSame) tyOk mixed ?_
                      conv => whnf
                      refine Tri.seqK ?_
                      refine Tri.seqK ?_
                      refine Tri.run (G := gm_law11_RingSame) tyOk mixed ?_
                      conv => whnf
                      refine Tri.block ?_
                      replace hv := bind_some hv
                      obtain ⟨y2099, q2100, hv⟩ := hv
                      refine Tri.cut (fun ex S' => ex = (.exit 2) ∧ Weak S' ⟨90, 0, ofRegs [(2, .ptr 0 0), (7, .sl (List.map (encI .i64) y17)), (8, .v (.int .i64 a1770)), (13, .v (.bool y2099))], [.var 25 [.sl (List.map encHold l.Held), .sl (List.map encClaim l.Queue)]]⟩) ?_ ?_
                      · refine Tri.loopF (fun (s2101 : Bool × Int) => (⟨90, 0, ofRegs [(2, .ptr 0 0), (7, .sl (List.map (encI .i64) y17)), (8, .v (.int .i64 a1770)), (12, .sl (List.map (encI .i64) y2003)), (13, .v (.bool s2101.1)), (14, .v (.int .i64 s2101.2))], [.var 25 [.sl (List.map encHold l.Held), .sl (List.map encClaim l.Queue)]]⟩ : St)) q2100 (weak_fin _ rfl rfl rfl (.cons (.same rfl) (LeH.rest)) (.cons (.one (.same rfl)) (.cons (.one (.same rfl)) (.cons (.one (.same rfl)) (.cons (.one (.same rfl)) (.cons (.one (.same rfl)) (.cons (.one (.same rfl)) (.nil))))))) rfl rfl) ?_
                        rintro ⟨a2097, a2098⟩ v2102 hv r2103
                        have hv : law11_RingSame_l26 y17 y2003 a2097 a2098 = some v2102 := hv
                        unfold law11_RingSame_l26 at hv
                        dsimp only
                        refine Tri.seqK ?_
                        refine Tri.seqK ?_
                        refine Tri.run (G := gm_law11_RingSame) tyOk mixed ?_
                        conv => whnf
                        refine ⟨⟨(y2003.length : Int), (len_map _ _).symm, ?_⟩⟩
                        conv => whnf
                        refine Tri.cond rfl (fun c2105 => ?_) (fun c2105 => ?_)
                        · replace hv := if_t c2105 hv
                          refine Tri.run (G := gm_law11_RingSame) tyOk mixed ?_
                          conv => whnf
                          refine Tri.seqK ?_
                          replace hv := bind_some hv
                          obtain ⟨y2116, q2117, hv⟩ := hv
                          refine Tri.cut (fun ex S' => ex = .normal ∧ Weak S' ⟨90, 0, ofRegs [(2, .ptr 0 0), (7, .sl (List.map (encI .i64) y17)), (8, .v (.int .i64 a1770)), (12, .sl (List.map (encI .i64) y2003)), (13, .v (.bool y2116)), (14, .v (.int .i64 a2098))], [.var 25 [.sl (List.map encHold l.Held), .sl (List.map encClaim l.Queue)]]⟩) ?_ ?_
                          · refine Tri.block ?_
                            refine Tri.run (G := gm_law11_RingSame) tyOk mixed ?_
                            conv => whnf
                            refine cond_mk (fun c2118 => ?_) (fun c2118 => ?_)
                            · replace q2117 := if_t c2118 q2117
                              conv => whnf
                              cases q2117
                              exact ⟨rfl, weak_fin _ rfl rfl rfl (.cons (.same rfl) (LeH.rest)) (.cons (.one (.same rfl)) (.cons (.one (.same rfl)) (.cons (.one (.same rfl)) (.cons (.one (.same rfl)) (.cons (.one (.same rfl)) (.cons (.one (.same rfl)) (.nil))))))) rfl rfl⟩
                            · replace q2117 := if_f c2118 q2117
                              conv => whnf
                              replace q2117 := bind_some q2117
                              obtain ⟨x2119, q2120, q2117⟩ := q2117
                              refine ⟨(ix_some q2120).1, ?_⟩
                              conv => whnf
                              refine ⟨⟨_, map_get (encI .i64) (ix_some q2120).2, ?_⟩⟩
                              conv => whnf
                              refine ⟨rfl, ?_⟩
                              conv => whnf
                              replace q2117 := bind_some q2117
                              obtain ⟨y2121, q2122, q2117⟩ := q2117
                              refine PureP.mono (law11_has_walk y17 x2119 y2121 q2122) ?_
                              rintro _ rfl
                              conv => whnf
                              cases q2117
                              exact ⟨rfl, weak_fin _ rfl rfl rfl (.cons (.same rfl) (LeH.rest)) (.cons (.one (.same rfl)) (.cons (.one (.same rfl)) (.cons (.one (.same rfl)) (.cons (.one (.same rfl)) (.cons (.one (.same rfl)) (.cons (.one (.same rfl)) (.nil))))))) rfl rfl⟩
                          · rintro ex S' ⟨rfl, w2123⟩
                            conv => whnf
                            refine Tri.weak w2123 ?_
                            refine Tri.run (G := gm_law11_RingSame) tyOk mixed ?_
                            conv => whnf
                            cases hv
                            exact ⟨_, rfl, weak_fin _ rfl rfl rfl (.cons (.same rfl) (LeH.rest)) (.cons (.one (.same rfl)) (.cons (.one (.same rfl)) (.cons (.one (.same rfl)) (.cons (.one (.same rfl)) (.cons (.one (.same rfl)) (.cons (.one (.same rfl)) (.nil))))))) rfl rfl⟩
                        · replace hv := if_f c2105 hv
                          refine Tri.run (G := gm_law11_RingSame) tyOk mixed ?_
                          conv => whnf
                          cases hv
                          obtain rfl := r2103 _ rfl
                          exact ⟨rfl, weak_fin _ rfl rfl rfl (.cons (.same rfl) (LeH.rest)) (.cons (.one (.same rfl)) (.cons (.one (.same rfl)) (.cons (.one (.same rfl)) (.cons (.one (.same rfl)) (.nil))))) rfl rfl⟩
                      · rintro ex S' ⟨rfl, w2124⟩
                        conv => whnf
                        refine Tri.weak w2124 ?_
                        refine Tri.seqK ?_
                        refine Tri.run (G := gm_law11_RingSame) tyOk mixed ?_
                        conv => whnf
                        refine Tri.cond rfl (fun c2125 => ?_) (fun c2125 => ?_)
                        · replace hv := if_t c2125 hv
                          refine Tri.seqK ?_
                          refine Tri.run (G := gm_law11_RingSame) tyOk mixed ?_
                          conv => whnf
                          refine Tri.run (G := gm_law11_RingSame) tyOk mixed ?_
                          conv => whnf
                          cases hv
                          obtain rfl := r1777 _ rfl
                          exact Or.inl ⟨_, rfl, rfl, weak_fin _ rfl rfl rfl (LeH.rest) (.cons (.one (.same rfl)) (.nil)) rfl rfl⟩
                        · replace hv := if_f c2125 hv
                          refine Tri.run (G := gm_law11_RingSame) tyOk mixed ?_
                          conv => whnf
                          refine Tri.run (G := gm_law11_RingSame) tyOk mixed ?_
                          conv => whnf
                          cases hv
                          exact ⟨_, rfl, weak_fin _ rfl rfl rfl (.cons (.same rfl) (LeH.rest)) (.cons (.one (.same rfl)) (.cons (.one (.same rfl)) (.cons (.one (.same rfl)) (.nil)))) rfl rfl⟩
                    · conv => whnf
                      trivial
              · conv => whnf
                trivial
            · conv => whnf
              trivial
          · conv => whnf
            trivial
        · replace hv := if_f c1779 hv
          refine Tri.run (G := gm_law11_RingSame) tyOk mixed ?_
          conv => whnf
          cases hv
          obtain rfl := r1777 _ rfl
          exact Or.inr (⟨_, rfl, rfl, weak_fin _ rfl rfl rfl (LeH.rest) (.nil) rfl rfl⟩)
      · rintro ex S' (⟨v1773, rfl, rfl, w2126⟩ | ⟨v1774, rfl, rfl, w2126⟩)
        · dsimp only at h
          conv => whnf
          refine fin_pre w2126 ?_
          conv => whnf
          cases h
          rfl
        · dsimp only at h
          conv => whnf
          refine Tri.weak w2126 ?_
          refine Tri.seqK ?_
          refine Tri.run (G := gm_law11_RingSame) tyOk mixed ?_
          conv => whnf
          refine Tri.run (G := gm_law11_RingSame) tyOk mixed ?_
          conv => whnf
          refine fin_here ?_
          conv => whnf
          cases h
          rfl
noncomputable def ref10_Settle_l10 (a2639 : Bool) (a2640 : Int) (a2641 : (List Hold)) (a2642 : (List Claim)) (a2643 : (List Int)) : Option ((Bool × Int × (List Hold) × (List Claim) × (List Int)) ⊕ (Bool × (List Hold) × (List Claim) × (List Int))) :=
  if ((decide (a2640 < (a2642.length : Int))) && (!a2639)) then
    (
      (ix a2642 a2640).bind fun x2717 =>
      (ref10_Blockers ({ Held := a2641, Queue := a2642 } : Locks) x2717.Txn x2717.W a2640).bind fun y2722 =>
      if (decide ((y2722.length : Int) > 0)) then
        some (a2639, a2641, a2642, a2643)
      else
        need (0 ≤ (0 : Int) ∧ 0 ≤ a2640 ∧ a2640 ≤ (a2642.length : Int)) <|
        need ((([] : List Claim).length + (cut a2642 0 a2640).length) * 56 ≤ 140737488355328) <|
        need (0 ≤ (IntKind.i64.wrap (a2640 + 1)) ∧ (IntKind.i64.wrap (a2640 + 1)) ≤ (a2642.length : Int) ∧ (a2642.length : Int) ≤ (a2642.length : Int)) <|
        need (((([] : List Claim) ++ (cut a2642 0 a2640)).length + (cut a2642 (IntKind.i64.wrap (a2640 + 1)) (a2642.length : Int)).length) * 56 ≤ 140737488355328) <|
        need ((([] : List Hold).length + a2641.length) * 48 ≤ 140737488355328) <|
        need (((([] : List Hold) ++ a2641).length + 1) * 48 ≤ 140737488355328) <|
        need ((a2643.length + 1) * 8 ≤ 140737488355328) <|
        some (true, ((([] : List Hold) ++ a2641) ++ [({ Txn := x2717.Txn, W := x2717.W } : Hold)]), ((([] : List Claim) ++ (cut a2642 0 a2640)) ++ (cut a2642 (IntKind.i64.wrap (a2640 + 1)) (a2642.length : Int))), (a2643 ++ [x2717.Txn]))).bind fun (y2715 : Bool × (List Hold) × (List Claim) × (List Int)) =>
    some (.inl (y2715.1, (IntKind.i64.wrap (a2640 + 1)), y2715.2.1, y2715.2.2.1, y2715.2.2.2))
  else
    some (.inr (a2639, a2641, a2642, a2643))
noncomputable def ref10_Settle_l9 (a2431 : Bool) (a2432 : (List Hold)) (a2433 : (List Claim)) (a2434 : (List Int)) : Option ((Bool × (List Hold) × (List Claim) × (List Int)) ⊕ ((List Hold) × (List Claim) × (List Int))) :=
  if a2431 then
    (loop (fun (s2646 : Bool × Int × (List Hold) × (List Claim) × (List Int)) => ref10_Settle_l10 s2646.1 s2646.2.1 s2646.2.2.1 s2646.2.2.2.1 s2646.2.2.2.2) (false, (0 : Int), a2432, a2433, a2434)).bind fun (y2644 : Bool × (List Hold) × (List Claim) × (List Int)) =>
    some (.inl (y2644.1, y2644.2.1, y2644.2.2.1, y2644.2.2.2))
  else
    some (.inr (a2432, a2433, a2434))
noncomputable def ref10_Settle (l : Locks) : Option (Locks × (List Int)) :=
  (loop (fun (s2437 : Bool × (List Hold) × (List Claim) × (List Int)) => ref10_Settle_l9 s2437.1 s2437.2.1 s2437.2.2.1 s2437.2.2.2) (true, l.Held, l.Queue, ([] : (List Int)))).bind fun (y2435 : (List Hold) × (List Claim) × (List Int)) =>
  some (({ Held := y2435.1, Queue := y2435.2.1 } : Locks), y2435.2.2)
def gm_ref10_Settle : Gm := ⟨tys, [], [], []⟩
theorem ref10_Settle_walk (l : Locks) (r : Locks × (List Int)) (h : ref10_Settle l = some r) : PureP Try.prog 31 [.agg [.sl (List.map encHold l.Held), .sl (List.map encClaim l.Queue)]] (fun a => a = .tup [.agg [.sl (List.map encHold r.1.Held), .sl (List.map encClaim r.1.Queue)], .sl (List.map (encI .i64) r.2)]) := by
  unfold ref10_Settle at h
  refine pureW (G := gm_ref10_Settle) tyOk Try.func31 rfl (by kernel_rfl) (by simp [Try.f31]) ?_
  refine Tri.seqK ?_
  refine Tri.run (G := gm_ref10_Settle) tyOk mixed ?_
  conv => whnf
  refine Tri.seqK ?_
  refine Tri.run (G := gm_ref10_Settle) tyOk mixed ?_
  conv => whnf
  refine Tri.seqK ?_
  refine Tri.run (G := gm_ref10_Settle) tyOk mixed ?_
  conv => whnf
  refine Tri.seqK ?_
  refine Tri.block ?_
  replace h := bind_some h
  obtain ⟨y2435, q2436, h⟩ := h
  refine Tri.cut (fun ex S' => ex = (.exit 0) ∧ Weak S' ⟨68, 0, ofRegs [(1, .ptr 0 0), (2, .ptr 1 0), (4, .row 2 ((List.map (encI .i64) y2435.2.2).length))], [.var 25 [.sl (List.map encHold y2435.1), .sl (List.map encClaim y2435.2.1)], .var 25 [.v (.slice none 0 0), .v (.slice none 0 0)], .row 3 1 (List.map (encI .i64) y2435.2.2)]⟩) ?_ ?_
  · refine Tri.loopF (fun (s2437 : Bool × (List Hold) × (List Claim) × (List Int)) => (⟨68, 0, ofRegs [(1, .ptr 0 0), (2, .ptr 1 0), (4, .row 2 ((List.map (encI .i64) s2437.2.2.2).length)), (5, .v (.bool s2437.1))], [.var 25 [.sl (List.map encHold s2437.2.1), .sl (List.map encClaim s2437.2.2.1)], .var 25 [.v (.slice none 0 0), .v (.slice none 0 0)], .row 3 1 (List.map (encI .i64) s2437.2.2.2)]⟩ : St)) q2436 (Weak.trans (weak_nil 4 3 1 rfl) (weak_fin _ rfl rfl rfl (.cons (.same rfl) (.cons (.same rfl) (.cons (.same rfl) (LeH.rest)))) (.cons (.one (.same rfl)) (.cons (.one (.same rfl)) (.cons (.one (.same (show (.row 2 0 : AV) = (.row 2 ((List.map (encI .i64) []).length) : AV) from congrArg (AV.row 2) (by simp)))) (.cons (.one (.same rfl)) (.nil))))) rfl rfl)) ?_
    rintro ⟨a2431, a2432, a2433, a2434⟩ v2438 hv r2439
    have hv : ref10_Settle_l9 a2431 a2432 a2433 a2434 = some v2438 := hv
    unfold ref10_Settle_l9 at hv
    dsimp only
    refine Tri.seqK ?_
    refine Tri.seqK ?_
    refine Tri.run (G := gm_ref10_Settle) tyOk mixed ?_
    conv => whnf
    refine Tri.cond rfl (fun c2441 => ?_) (fun c2441 => ?_)
    · replace hv := if_t c2441 hv
      refine Tri.run (G := gm_ref10_Settle) tyOk mixed ?_
      conv => whnf
      refine Tri.block ?_
      refine Tri.seqK ?_
      refine Tri.run (G := gm_ref10_Settle) tyOk mixed ?_
      conv => whnf
      refine Tri.seqK ?_
      refine Tri.run (G := gm_ref10_Settle) tyOk mixed ?_
      conv => whnf
      refine Tri.block ?_
      replace hv := bind_some hv
      obtain ⟨y2644, q2645, hv⟩ := hv
      refine Tri.cut (fun ex S' => ex = (.exit 2) ∧ Weak S' ⟨68, 0, ofRegs [(1, .ptr 0 0), (2, .ptr 1 0), (4, .row 2 ((List.map (encI .i64) y2644.2.2.2).length)), (5, .v (.bool y2644.1))], [.var 25 [.sl (List.map encHold y2644.2.1), .sl (List.map encClaim y2644.2.2.1)], .var 25 [.v (.slice none 0 0), .v (.slice none 0 0)], .row 3 1 (List.map (encI .i64) y2644.2.2.2)]⟩) ?_ ?_
      · refine Tri.loopF (fun (s2646 : Bool × Int × (List Hold) × (List Claim) × (List Int)) => (⟨68, 0, ofRegs [(1, .ptr 0 0), (2, .ptr 1 0), (4, .row 2 ((List.map (encI .i64) s2646.2.2.2.2).length)), (5, .v (.bool s2646.1)), (6, .v (.int .i64 s2646.2.1))], [.var 25 [.sl (List.map encHold s2646.2.2.1), .sl (List.map encClaim s2646.2.2.2.1)], .var 25 [.v (.slice none 0 0), .v (.slice none 0 0)], .row 3 1 (List.map (encI .i64) s2646.2.2.2.2)]⟩ : St)) q2645 (weak_fin _ rfl rfl rfl (.cons (.same rfl) (.cons (.same rfl) (.cons (.same rfl) (LeH.rest)))) (.cons (.one (.same rfl)) (.cons (.one (.same rfl)) (.cons (.one (.same rfl)) (.cons (.one (.same rfl)) (.cons (.one (.same rfl)) (.nil)))))) rfl rfl) ?_
        rintro ⟨a2639, a2640, a2641, a2642, a2643⟩ v2647 hv r2648
        have hv : ref10_Settle_l10 a2639 a2640 a2641 a2642 a2643 = some v2647 := hv
        unfold ref10_Settle_l10 at hv
        dsimp only
        refine Tri.seqK ?_
        refine Tri.seqK ?_
        refine Tri.cut (fun ex S' => ex = .normal ∧ Weak S' ⟨68, 0, ofRegs [(1, .ptr 0 0), (2, .ptr 1 0), (4, .row 2 ((List.map (encI .i64) a2643).length)), (5, .v (.bool a2639)), (6, .v (.int .i64 a2640)), (18, .v (.bool ((decide (a2640 < (a2642.length : Int))) && (!a2639))))], [.var 25 [.sl (List.map encHold a2641), .sl (List.map encClaim a2642)], .var 25 [.v (.slice none 0 0), .v (.slice none 0 0)], .row 3 1 (List.map (encI .i64) a2643)]⟩) ?_ ?_
        · refine Tri.run (G := gm_ref10_Settle) tyOk mixed ?_
          conv => whnf
          refine ⟨⟨(a2642.length : Int), (len_map _ _).symm, ?_⟩⟩
          conv => whnf
          refine cond_mk (fun c2658 => ?_) (fun c2658 => ?_)
          · replace c2658 : (decide (a2640 < (a2642.length : Int))) = true := c2658
            conv => whnf
            exact ⟨rfl, weak_fin _ rfl rfl rfl (.cons (.same rfl) (.cons (.same rfl) (.cons (.same rfl) (LeH.rest)))) (.cons (.one (.same rfl)) (.cons (.one (.same rfl)) (.cons (.one (.same rfl)) (.cons (.one (.same rfl)) (.cons (.one (.same rfl)) (.cons (.one (.same (show (.v (.bool (!a2639)) : AV) = (.v (.bool ((decide (a2640 < (a2642.length : Int))) && (!a2639))) : AV) from by first | (simp [c2658]; done) | simp only [c2658, Bool.or_true, Bool.true_or, Bool.false_or, Bool.or_false, Bool.and_true, Bool.true_and, Bool.and_false, Bool.false_and, Bool.not_true, Bool.not_false, if_true, if_false, Bool.false_eq_true]))) (.nil))))))) rfl rfl⟩
          · replace c2658 : (decide (a2640 < (a2642.length : Int))) = false := c2658
            conv => whnf
            exact ⟨rfl, weak_fin _ rfl rfl rfl (.cons (.same rfl) (.cons (.same rfl) (.cons (.same rfl) (LeH.rest)))) (.cons (.one (.same rfl)) (.cons (.one (.same rfl)) (.cons (.one (.same rfl)) (.cons (.one (.same rfl)) (.cons (.one (.same rfl)) (.cons (.one (.same (show (.v (.bool false) : AV) = (.v (.bool ((decide (a2640 < (a2642.length : Int))) && (!a2639))) : AV) from by first | (simp [c2658]; done) | simp only [c2658, Bool.or_true, Bool.true_or, Bool.false_or, Bool.or_false, Bool.and_true, Bool.true_and, Bool.and_false, Bool.false_and, Bool.not_true, Bool.not_false, if_true, if_false, Bool.false_eq_true]))) (.nil))))))) rfl rfl⟩
        · rintro ex S' ⟨rfl, w2659⟩
          conv => whnf
          refine Tri.weak w2659 ?_
          refine Tri.cond rfl (fun c2660 => ?_) (fun c2660 => ?_)
          · replace hv := if_t c2660 hv
            refine Tri.run (G := gm_ref10_Settle) tyOk mixed ?_
            conv => whnf
            refine Tri.seqK ?_
            replace hv := bind_some hv
            obtain ⟨y2715, q2716, hv⟩ := hv
            refine Tri.cut (fun ex S' => ex = .normal ∧ Weak S' ⟨68, 0, ofRegs [(1, .ptr 0 0), (2, .ptr 1 0), (4, .row 2 ((List.map (encI .i64) y2715.2.2.2).length)), (5, .v (.bool y2715.1)), (6, .v (.int .i64 a2640))], [.var 25 [.sl (List.map encHold y2715.2.1), .sl (List.map encClaim y2715.2.2.1)], .var 25 [.v (.slice none 0 0), .v (.slice none 0 0)], .row 3 1 (List.map (encI .i64) y2715.2.2.2)]⟩) ?_ ?_
            · refine Tri.block ?_
              refine Tri.seqK ?_
              refine Tri.run (G := gm_ref10_Settle) tyOk mixed ?_
              conv => whnf
              replace q2716 := bind_some q2716
              obtain ⟨x2717, q2718, q2716⟩ := q2716
              refine ⟨(ix_some q2718).1, ?_⟩
              conv => whnf
              refine ⟨⟨_, map_get encClaim (ix_some q2718).2, ?_⟩⟩
              conv => whnf
              refine ⟨rfl, ?_⟩
              conv => whnf
              refine Tri.seqK ?_
              refine Tri.seqK ?_
              refine Tri.run (G := gm_ref10_Settle) tyOk mixed ?_
              conv => whnf
              replace q2716 := bind_some q2716
              obtain ⟨y2722, q2723, q2716⟩ := q2716
              refine PureP.mono (ref10_Blockers_walk ({ Held := a2641, Queue := a2642 } : Locks) x2717.Txn x2717.W a2640 y2722 q2723) ?_
              rintro _ rfl
              conv => whnf
              refine ⟨⟨(y2722.length : Int), (len_map _ _).symm, ?_⟩⟩
              conv => whnf
              refine Tri.cond rfl (fun c2724 => ?_) (fun c2724 => ?_)
              · replace q2716 := if_t c2724 q2716
                refine Tri.run (G := gm_ref10_Settle) tyOk mixed ?_
                conv => whnf
                cases q2716
                exact ⟨rfl, weak_fin _ rfl rfl rfl (.cons (.same rfl) (.cons (.same rfl) (.cons (.same rfl) (LeH.rest)))) (.cons (.one (.same rfl)) (.cons (.one (.same rfl)) (.cons (.one (.same rfl)) (.cons (.one (.same rfl)) (.cons (.one (.same rfl)) (.nil)))))) rfl rfl⟩
              · replace q2716 := if_f c2724 q2716
                refine Tri.run (G := gm_ref10_Settle) tyOk mixed ?_
                conv => whnf
                refine Tri.seqK ?_
                refine Tri.run (G := gm_ref10_Settle) tyOk mixed ?_
                conv => whnf
                refine Tri.seqK ?_
                refine Tri.run (G := gm_ref10_Settle) tyOk mixed ?_
                conv => whnf
                refine ⟨⟨List.map encClaim ([] : List Claim), rfl, ?_⟩⟩
                conv => whnf
                refine ⟨map_len (f := encClaim) (n := 5) (fun _ => rfl) _, ?_⟩
                conv => whnf
                replace q2716 := need_some q2716
                obtain ⟨p2725, q2716⟩ := q2716
                refine ⟨by simpa only [List.length_map] using p2725, ?_⟩
                conv => whnf
                refine ⟨⟨List.map encClaim (cut a2642 0 a2640), map_cut _ _ _ _, ?_⟩⟩
                conv => whnf
                refine ⟨rfl, ?_⟩
                conv => whnf
                refine ⟨map_len (f := encClaim) (n := 5) (fun _ => rfl) _, ?_⟩
                conv => whnf
                replace q2716 := need_some q2716
                obtain ⟨p2726, q2716⟩ := q2716
                refine ⟨by simp only [List.length_map]; exact p2726, ?_⟩
                conv => whnf
                refine ⟨⟨List.map encClaim (([] : List Claim) ++ (cut a2642 0 a2640)), map_app encClaim _ _ rfl rfl, ?_⟩⟩
                conv => whnf
                refine Tri.seqK ?_
                refine Tri.run (G := gm_ref10_Settle) tyOk mixed ?_
                conv => whnf
                refine ⟨map_len (f := encClaim) (n := 5) (fun _ => rfl) _, ?_⟩
                conv => whnf
                replace q2716 := need_some q2716
                obtain ⟨p2727, q2716⟩ := q2716
                refine ⟨by simpa only [List.length_map] using p2727, ?_⟩
                conv => whnf
                refine ⟨⟨List.map encClaim (cut a2642 (IntKind.i64.wrap (a2640 + 1)) (a2642.length : Int)), by rw [map_cut, len_map], ?_⟩⟩
                conv => whnf
                refine ⟨rfl, ?_⟩
                conv => whnf
                refine ⟨map_len (f := encClaim) (n := 5) (fun _ => rfl) _, ?_⟩
                conv => whnf
                replace q2716 := need_some q2716
                obtain ⟨p2728, q2716⟩ := q2716
                refine ⟨by simp only [List.length_map]; exact p2728, ?_⟩
                conv => whnf
                refine ⟨⟨List.map encClaim ((([] : List Claim) ++ (cut a2642 0 a2640)) ++ (cut a2642 (IntKind.i64.wrap (a2640 + 1)) (a2642.length : Int))), map_app encClaim _ _ rfl rfl, ?_⟩⟩
                conv => whnf
                refine Tri.seqK ?_
                refine Tri.run (G := gm_ref10_Settle) tyOk mixed ?_
                conv => whnf
                replace q2716 := need_some q2716
                obtain ⟨p2741, q2716⟩ := q2716
                replace q2716 := need_some q2716
                obtain ⟨p2742, q2716⟩ := q2716
                refine Draw.many 12 (.take 1 (.take 2 (.take 4 (.take 5 (.take 6 (.take 7 (.take 8 (.alt 0 (.alt 3 (.alt 9 (.alt 10 (.take 11 (.fin)) (.nil)) (.nil)) (.alt 9 (.alt 3 (.alt 10 (.take 11 (.fin)) (.nil)) (.nil)) (.nil))) (.alt 9 (.alt 0 (.alt 3 (.alt 10 (.take 11 (.fin)) (.nil)) (.nil)) (.nil)) (.nil)))))))))) [] (⟨68, 0, ofRegs [(1, .ptr 0 0), (2, .ptr 1 0), (4, .row 2 ((List.map (encI .i64) a2643).length)), (5, .v (.bool true)), (6, .v (.int .i64 a2640)), (7, .ptr 3 0), (59, .sl (List.map encHold ((([] : List Hold) ++ a2641) ++ [({ Txn := x2717.Txn, W := x2717.W } : Hold)]))), (60, .ptr 0 0)], [.var 25 [.sl (List.map encHold a2641), .row 4 ((List.map encClaim ((([] : List Claim) ++ (cut a2642 0 a2640)) ++ (cut a2642 (IntKind.i64.wrap (a2640 + 1)) (a2642.length : Int)))).length)], .var 25 [.v (.slice none 0 0), .v (.slice none 0 0)], .row 3 1 (List.map (encI .i64) a2643), .var 51 [.v (.int .i64 x2717.Txn), .v (.int .i64 x2717.W.Mode), .v (.string (bs x2717.W.Lo)), .v (.string (bs x2717.W.Hi)), .v (.int .u64 x2717.Until)], .row 51 5 (List.map encClaim ((([] : List Claim) ++ (cut a2642 0 a2640)) ++ (cut a2642 (IntKind.i64.wrap (a2640 + 1)) (a2642.length : Int))))]⟩) (by kernel_rfl) ?_ ?_
                · conv => whnf
                  refine ⟨?_, ?_⟩
                  · conv => whnf
                    refine ⟨⟨List.map encHold ([] : List Hold), rfl, ?_⟩⟩
                    conv => whnf
                    refine ⟨?_, ?_⟩
                    · conv => whnf
                      refine ⟨rfl, ?_⟩
                      conv => whnf
                      refine ⟨map_len (f := encHold) (n := 4) (fun _ => rfl) _, ?_⟩
                      conv => whnf
                      refine ⟨by simp only [List.length_map]; exact p2741, ?_⟩
                      conv => whnf
                      refine ⟨⟨List.map encHold (([] : List Hold) ++ a2641), map_app encHold _ _ rfl rfl, ?_⟩⟩
                      conv => whnf
                      refine ⟨?_, ?_⟩
                      · conv => whnf
                        refine ⟨⟨List.map encHold [({ Txn := x2717.Txn, W := x2717.W } : Hold)], rfl, ?_⟩⟩
                        conv => whnf
                        refine ⟨?_, ?_⟩
                        · conv => whnf
                          refine ⟨rfl, ?_⟩
                          conv => whnf
                          refine ⟨rfl, ?_⟩
                          conv => whnf
                          refine ⟨by simp only [List.length_map]; exact p2742, ?_⟩
                          conv => whnf
                          refine ⟨⟨List.map encHold ((([] : List Hold) ++ a2641) ++ [({ Txn := x2717.Txn, W := x2717.W } : Hold)]), map_app encHold _ _ rfl rfl, ?_⟩⟩
                          conv => whnf
                          exact Weak.trans (weak_freeze 5 rfl) (weak_fin _ rfl rfl rfl (.cons (.same rfl) (.cons (.same rfl) (.cons (.same rfl) (.cons (.same rfl) (.cons (.same rfl) (LeH.rest)))))) (.cons (.one (.same rfl)) (.cons (.one (.same rfl)) (.cons (.one (.same rfl)) (.cons (.one (.same rfl)) (.cons (.one (.same rfl)) (.cons (.one (.same rfl)) (.cons (.one (.frz rfl (rfl))) (.cons (.one (.same rfl)) (.nil))))))))) rfl rfl)
                        · conv => whnf
                          trivial
                      · conv => whnf
                        trivial
                    · conv => whnf
                      refine ⟨?_, ?_⟩
                      · conv => whnf
                        refine ⟨⟨List.map encHold [({ Txn := x2717.Txn, W := x2717.W } : Hold)], rfl, ?_⟩⟩
                        conv => whnf
                        refine ⟨?_, ?_⟩
                        · conv => whnf
                          refine ⟨rfl, ?_⟩
                          conv => whnf
                          refine ⟨map_len (f := encHold) (n := 4) (fun _ => rfl) _, ?_⟩
                          conv => whnf
                          refine ⟨by simp only [List.length_map]; exact p2741, ?_⟩
                          conv => whnf
                          refine ⟨⟨List.map encHold (([] : List Hold) ++ a2641), map_app encHold _ _ rfl rfl, ?_⟩⟩
                          conv => whnf
                          refine ⟨?_, ?_⟩
                          · conv => whnf
                            refine ⟨rfl, ?_⟩
                            conv => whnf
                            refine ⟨rfl, ?_⟩
                            conv => whnf
                            refine ⟨by simp only [List.length_map]; exact p2742, ?_⟩
                            conv => whnf
                            refine ⟨⟨List.map encHold ((([] : List Hold) ++ a2641) ++ [({ Txn := x2717.Txn, W := x2717.W } : Hold)]), map_app encHold _ _ rfl rfl, ?_⟩⟩
                            conv => whnf
                            exact Weak.trans (weak_freeze 5 rfl) (weak_fin _ rfl rfl rfl (.cons (.same rfl) (.cons (.same rfl) (.cons (.same rfl) (.cons (.same rfl) (.cons (.same rfl) (LeH.rest)))))) (.cons (.one (.same rfl)) (.cons (.one (.same rfl)) (.cons (.one (.same rfl)) (.cons (.one (.same rfl)) (.cons (.one (.same rfl)) (.cons (.one (.same rfl)) (.cons (.one (.frz rfl (rfl))) (.cons (.one (.same rfl)) (.nil))))))))) rfl rfl)
                          · conv => whnf
                            trivial
                        · conv => whnf
                          trivial
                      · conv => whnf
                        trivial
                  · conv => whnf
                    refine ⟨?_, ?_⟩
                    · conv => whnf
                      refine ⟨⟨List.map encHold [({ Txn := x2717.Txn, W := x2717.W } : Hold)], rfl, ?_⟩⟩
                      conv => whnf
                      refine ⟨?_, ?_⟩
                      · conv => whnf
                        refine ⟨⟨List.map encHold ([] : List Hold), rfl, ?_⟩⟩
                        conv => whnf
                        refine ⟨?_, ?_⟩
                        · conv => whnf
                          refine ⟨rfl, ?_⟩
                          conv => whnf
                          refine ⟨map_len (f := encHold) (n := 4) (fun _ => rfl) _, ?_⟩
                          conv => whnf
                          refine ⟨by simp only [List.length_map]; exact p2741, ?_⟩
                          conv => whnf
                          refine ⟨⟨List.map encHold (([] : List Hold) ++ a2641), map_app encHold _ _ rfl rfl, ?_⟩⟩
                          conv => whnf
                          refine ⟨?_, ?_⟩
                          · conv => whnf
                            refine ⟨rfl, ?_⟩
                            conv => whnf
                            refine ⟨rfl, ?_⟩
                            conv => whnf
                            refine ⟨by simp only [List.length_map]; exact p2742, ?_⟩
                            conv => whnf
                            refine ⟨⟨List.map encHold ((([] : List Hold) ++ a2641) ++ [({ Txn := x2717.Txn, W := x2717.W } : Hold)]), map_app encHold _ _ rfl rfl, ?_⟩⟩
                            conv => whnf
                            exact Weak.trans (weak_freeze 6 rfl) (weak_fin _ rfl rfl rfl (.cons (.same rfl) (.cons (.same rfl) (.cons (.same rfl) (.cons (.same rfl) (.cons (.same rfl) (LeH.rest)))))) (.cons (.one (.same rfl)) (.cons (.one (.same rfl)) (.cons (.one (.same rfl)) (.cons (.one (.same rfl)) (.cons (.one (.same rfl)) (.cons (.one (.same rfl)) (.cons (.one (.frz rfl (rfl))) (.cons (.one (.same rfl)) (.nil))))))))) rfl rfl)
                          · conv => whnf
                            trivial
                        · conv => whnf
                          trivial
                      · conv => whnf
                        trivial
                    · conv => whnf
                      trivial
                · conv => whnf
                  refine Tri.run (G := gm_ref10_Settle) tyOk mixed ?_
                  conv => whnf
                  refine ⟨⟨List.map (encI .i64) [x2717.Txn], rfl, ?_⟩⟩
                  conv => whnf
                  refine ⟨rfl, ?_⟩
                  conv => whnf
                  refine ⟨rfl, ?_⟩
                  conv => whnf
                  replace q2716 := need_some q2716
                  obtain ⟨p2743, q2716⟩ := q2716
                  refine ⟨by simp only [List.length_map]; exact p2743, ?_⟩
                  conv => whnf
                  refine ⟨⟨List.map (encI .i64) (a2643 ++ [x2717.Txn]), map_app (encI .i64) _ _ rfl rfl, ?_⟩⟩
                  conv => whnf
                  cases q2716
                  exact ⟨rfl, Weak.trans (weak_freeze 4 rfl) (weak_fin _ rfl rfl rfl (.cons (.var (.cons (.same rfl) (.cons (.frz rfl (rfl)) (.nil)))) (.cons (.same rfl) (.cons (.same rfl) (LeH.rest)))) (.cons (.one (.same rfl)) (.cons (.one (.same rfl)) (.cons (.one (.same rfl)) (.cons (.one (.same rfl)) (.cons (.one (.same rfl)) (.nil)))))) rfl rfl)⟩
            · rintro ex S' ⟨rfl, w2744⟩
              conv => whnf
              refine Tri.weak w2744 ?_
              refine Tri.run (G := gm_ref10_Settle) tyOk mixed ?_
              conv => whnf
              cases hv
              exact ⟨_, rfl, weak_fin _ rfl rfl rfl (.cons (.same rfl) (.cons (.same rfl) (.cons (.same rfl) (LeH.rest)))) (.cons (.one (.same rfl)) (.cons (.one (.same rfl)) (.cons (.one (.same rfl)) (.cons (.one (.same rfl)) (.cons (.one (.same rfl)) (.nil)))))) rfl rfl⟩
          · replace hv := if_f c2660 hv
            refine Tri.run (G := gm_ref10_Settle) tyOk mixed ?_
            conv => whnf
            cases hv
            obtain rfl := r2648 _ rfl
            exact ⟨rfl, weak_fin _ rfl rfl rfl (.cons (.same rfl) (.cons (.same rfl) (.cons (.same rfl) (LeH.rest)))) (.cons (.one (.same rfl)) (.cons (.one (.same rfl)) (.cons (.one (.same rfl)) (.cons (.one (.same rfl)) (.nil))))) rfl rfl⟩
      · rintro ex S' ⟨rfl, w2745⟩
        conv => whnf
        cases hv
        exact ⟨_, rfl, Weak.trans w2745 (weak_fin _ rfl rfl rfl (.cons (.same rfl) (.cons (.same rfl) (.cons (.same rfl) (LeH.rest)))) (.cons (.one (.same rfl)) (.cons (.one (.same rfl)) (.cons (.one (.same rfl)) (.cons (.one (.same rfl)) (.nil))))) rfl rfl)⟩
    · replace hv := if_f c2441 hv
      refine Tri.run (G := gm_ref10_Settle) tyOk mixed ?_
      conv => whnf
      cases hv
      obtain rfl := r2439 _ rfl
      exact ⟨rfl, weak_fin _ rfl rfl rfl (.cons (.same rfl) (.cons (.same rfl) (.cons (.same rfl) (LeH.rest)))) (.cons (.one (.same rfl)) (.cons (.one (.same rfl)) (.cons (.one (.same rfl)) (.nil)))) rfl rfl⟩
  · rintro ex S' ⟨rfl, w2746⟩
    conv => whnf
    refine Tri.weak w2746 ?_
    refine Tri.seqK ?_
    refine Tri.run (G := gm_ref10_Settle) tyOk mixed ?_
    conv => whnf
    refine Tri.run (G := gm_ref10_Settle) tyOk mixed ?_
    conv => whnf
    refine fin_here ?_
    conv => whnf
    refine ⟨rfl, ?_⟩
    conv => whnf
    cases h
    rfl
noncomputable def ref10_Free_l2 (l : Locks) (txn : Int) (a167 : Int) (a168 : (List Hold)) : Option ((Int × (List Hold)) ⊕ ((List Hold))) :=
  if (decide (a167 < (l.Held.length : Int))) then
    (
      (ix l.Held a167).bind fun x188 =>
      if (!(decide (x188.Txn = txn))) then
        need ((a168.length + 1) * 48 ≤ 140737488355328) <|
        some (a168 ++ [x188])
      else
        some a168).bind fun (y186 : (List Hold)) =>
    some (.inl ((IntKind.i64.wrap (a167 + 1)), y186))
  else
    some (.inr a168)
noncomputable def ref10_Free_l4 (l : Locks) (txn : Int) (a361 : Int) (a362 : (List Claim)) : Option ((Int × (List Claim)) ⊕ ((List Claim))) :=
  if (decide (a361 < (l.Queue.length : Int))) then
    (
      (ix l.Queue a361).bind fun x382 =>
      if (!(decide (x382.Txn = txn))) then
        need ((a362.length + 1) * 56 ≤ 140737488355328) <|
        some (a362 ++ [x382])
      else
        some a362).bind fun (y380 : (List Claim)) =>
    some (.inl ((IntKind.i64.wrap (a361 + 1)), y380))
  else
    some (.inr a362)
noncomputable def ref10_Free (l : Locks) (txn : Int) : Option (Locks × (List Int)) :=
  (loop (fun (s171 : Int × (List Hold)) => ref10_Free_l2 l txn s171.1 s171.2) ((0 : Int), ([] : (List Hold)))).bind fun (y169 : (List Hold)) =>
  (loop (fun (s365 : Int × (List Claim)) => ref10_Free_l4 l txn s365.1 s365.2) ((0 : Int), ([] : (List Claim)))).bind fun (y363 : (List Claim)) =>
  (ref10_Settle ({ Held := y169, Queue := y363 } : Locks)).bind fun y389 =>
  some (y389.1, y389.2)
def gm_ref10_Free : Gm := ⟨tys, [], [], []⟩
theorem ref10_Free_walk (l : Locks) (txn : Int) (r : Locks × (List Int)) (h : ref10_Free l txn = some r) : PureP Try.prog 27 [.agg [.sl (List.map encHold l.Held), .sl (List.map encClaim l.Queue)], .v (.int .i64 txn)] (fun a => a = .tup [.agg [.sl (List.map encHold r.1.Held), .sl (List.map encClaim r.1.Queue)], .sl (List.map (encI .i64) r.2)]) := by
  unfold ref10_Free at h
  refine pureW (G := gm_ref10_Free) tyOk Try.func27 rfl (by kernel_rfl) (by simp [Try.f27]) ?_
  refine Tri.seqK ?_
  refine Tri.run (G := gm_ref10_Free) tyOk mixed ?_
  conv => whnf
  refine Tri.seqK ?_
  refine Tri.run (G := gm_ref10_Free) tyOk mixed ?_
  conv => whnf
  refine Tri.seqK ?_
  refine Tri.seqK ?_
  refine Tri.run (G := gm_ref10_Free) tyOk mixed ?_
  conv => whnf
  refine Tri.block ?_
  replace h := bind_some h
  obtain ⟨y169, q170, h⟩ := h
  refine Tri.cut (fun ex S' => ex = (.exit 0) ∧ Weak S' ⟨64, 0, ofRegs [(1, .v (.int .i64 txn)), (2, .ptr 0 0), (4, .ptr 1 0), (6, .ptr 2 0)], [.var 25 [.sl (List.map encHold l.Held), .sl (List.map encClaim l.Queue)], .var 25 [.row 3 ((List.map encHold []).length), .v (.slice none 0 0)], .var 25 [.row 4 ((List.map encHold y169).length), .v (.slice none 0 0)], .row 46 4 (List.map encHold []), .row 46 4 (List.map encHold y169)]⟩) ?_ ?_
  · refine Tri.loopF (fun (s171 : Int × (List Hold)) => (⟨64, 0, ofRegs [(1, .v (.int .i64 txn)), (2, .ptr 0 0), (4, .ptr 1 0), (6, .ptr 2 0), (7, .v (.int .i64 s171.1))], [.var 25 [.sl (List.map encHold l.Held), .sl (List.map encClaim l.Queue)], .var 25 [.row 3 ((List.map encHold []).length), .v (.slice none 0 0)], .var 25 [.row 4 ((List.map encHold s171.2).length), .v (.slice none 0 0)], .row 46 4 (List.map encHold []), .row 46 4 (List.map encHold s171.2)]⟩ : St)) q170 (Weak.trans (weak_nilcell 1 0 46 4 rfl rfl) (Weak.trans (weak_nilcell 2 0 46 4 rfl rfl) (weak_fin _ rfl rfl rfl (.cons (.same rfl) (.cons (.var (.cons (.same (show (.row 3 0 : AV) = (.row 3 ((List.map encHold []).length) : AV) from congrArg (AV.row 3) (by simp))) (.cons (.same rfl) (.nil)))) (.cons (.var (.cons (.same (show (.row 4 0 : AV) = (.row 4 ((List.map encHold []).length) : AV) from congrArg (AV.row 4) (by simp))) (.cons (.same rfl) (.nil)))) (.cons (.same rfl) (.cons (.same rfl) (LeH.rest)))))) (.cons (.one (.same rfl)) (.cons (.one (.same rfl)) (.cons (.one (.same rfl)) (.cons (.one (.same rfl)) (.cons (.one (.same rfl)) (.nil)))))) rfl rfl))) ?_
    rintro ⟨a167, a168⟩ v172 hv r173
    have hv : ref10_Free_l2 l txn a167 a168 = some v172 := hv
    unfold ref10_Free_l2 at hv
    dsimp only
    refine Tri.seqK ?_
    refine Tri.seqK ?_
    refine Tri.run (G := gm_ref10_Free) tyOk mixed ?_
    conv => whnf
    refine ⟨⟨(l.Held.length : Int), (len_map _ _).symm, ?_⟩⟩
    conv => whnf
    refine Tri.cond rfl (fun c175 => ?_) (fun c175 => ?_)
    · replace hv := if_t c175 hv
      refine Tri.run (G := gm_ref10_Free) tyOk mixed ?_
      conv => whnf
      refine Tri.seqK ?_
      replace hv := bind_some hv
      obtain ⟨y186, q187, hv⟩ := hv
      refine Tri.cut (fun ex S' => ex = .normal ∧ Weak S' ⟨64, 0, ofRegs [(1, .v (.int .i64 txn)), (2, .ptr 0 0), (4, .ptr 1 0), (6, .ptr 2 0), (7, .v (.int .i64 a167))], [.var 25 [.sl (List.map encHold l.Held), .sl (List.map encClaim l.Queue)], .var 25 [.row 3 ((List.map encHold []).length), .v (.slice none 0 0)], .var 25 [.row 4 ((List.map encHold y186).length), .v (.slice none 0 0)], .row 46 4 (List.map encHold []), .row 46 4 (List.map encHold y186)]⟩) ?_ ?_
      · refine Tri.block ?_
        refine Tri.seqK ?_
        refine Tri.run (G := gm_ref10_Free) tyOk mixed ?_
        conv => whnf
        replace q187 := bind_some q187
        obtain ⟨x188, q189, q187⟩ := q187
        refine ⟨(ix_some q189).1, ?_⟩
        conv => whnf
        refine ⟨⟨_, map_get encHold (ix_some q189).2, ?_⟩⟩
        conv => whnf
        refine ⟨rfl, ?_⟩
        conv => whnf
        refine Tri.cond rfl (fun c190 => ?_) (fun c190 => ?_)
        · replace q187 := if_t c190 q187
          refine Tri.run (G := gm_ref10_Free) tyOk mixed ?_
          conv => whnf
          refine Draw.one 10 (.take 0 (.take 1 (.take 2 (.take 3 (.take 4 (.take 5 (.take 6 (.alt 7 (.alt 8 (.take 9 (.fin)) (.nil)) (.nil))))))))) [] (by kernel_rfl) ?_
          conv => whnf
          refine ⟨(ix_some q189).1, ?_⟩
          conv => whnf
          refine ⟨⟨_, map_get encHold (ix_some q189).2, ?_⟩⟩
          conv => whnf
          refine ⟨rfl, ?_⟩
          conv => whnf
          refine ⟨?_, ?_⟩
          · conv => whnf
            refine ⟨⟨List.map encHold [x188], rfl, ?_⟩⟩
            conv => whnf
            refine ⟨?_, ?_⟩
            · conv => whnf
              refine ⟨rfl, ?_⟩
              conv => whnf
              refine ⟨rfl, ?_⟩
              conv => whnf
              replace q187 := need_some q187
              obtain ⟨p192, q187⟩ := q187
              refine ⟨by simp only [List.length_map]; exact p192, ?_⟩
              conv => whnf
              refine ⟨⟨List.map encHold (a168 ++ [x188]), map_app encHold _ _ rfl rfl, ?_⟩⟩
              conv => whnf
              cases q187
              exact ⟨rfl, weak_fin _ rfl rfl rfl (.cons (.same rfl) (.cons (.same rfl) (.cons (.same rfl) (.cons (.same rfl) (.cons (.same rfl) (LeH.rest)))))) (.cons (.one (.same rfl)) (.cons (.one (.same rfl)) (.cons (.one (.same rfl)) (.cons (.one (.same rfl)) (.cons (.one (.same rfl)) (.nil)))))) rfl rfl⟩
            · conv => whnf
              trivial
          · conv => whnf
            trivial
        · replace q187 := if_f c190 q187
          refine Tri.run (G := gm_ref10_Free) tyOk mixed ?_
          conv => whnf
          cases q187
          exact ⟨rfl, weak_fin _ rfl rfl rfl (.cons (.same rfl) (.cons (.same rfl) (.cons (.same rfl) (.cons (.same rfl) (.cons (.same rfl) (LeH.rest)))))) (.cons (.one (.same rfl)) (.cons (.one (.same rfl)) (.cons (.one (.same rfl)) (.cons (.one (.same rfl)) (.cons (.one (.same rfl)) (.nil)))))) rfl rfl⟩
      · rintro ex S' ⟨rfl, w193⟩
        conv => whnf
        refine Tri.weak w193 ?_
        refine Tri.run (G := gm_ref10_Free) tyOk mixed ?_
        conv => whnf
        cases hv
        exact ⟨_, rfl, weak_fin _ rfl rfl rfl (.cons (.same rfl) (.cons (.same rfl) (.cons (.same rfl) (.cons (.same rfl) (.cons (.same rfl) (LeH.rest)))))) (.cons (.one (.same rfl)) (.cons (.one (.same rfl)) (.cons (.one (.same rfl)) (.cons (.one (.same rfl)) (.cons (.one (.same rfl)) (.nil)))))) rfl rfl⟩
    · replace hv := if_f c175 hv
      refine Tri.run (G := gm_ref10_Free) tyOk mixed ?_
      conv => whnf
      cases hv
      obtain rfl := r173 _ rfl
      exact ⟨rfl, weak_fin _ rfl rfl rfl (.cons (.same rfl) (.cons (.same rfl) (.cons (.same rfl) (.cons (.same rfl) (.cons (.same rfl) (LeH.rest)))))) (.cons (.one (.same rfl)) (.cons (.one (.same rfl)) (.cons (.one (.same rfl)) (.cons (.one (.same rfl)) (.nil))))) rfl rfl⟩
  · rintro ex S' ⟨rfl, w194⟩
    conv => whnf
    refine Tri.weak w194 ?_
    refine Tri.seqK ?_
    refine Tri.seqK ?_
    refine Tri.run (G := gm_ref10_Free) tyOk mixed ?_
    conv => whnf
    refine Tri.block ?_
    replace h := bind_some h
    obtain ⟨y363, q364, h⟩ := h
    refine Tri.cut (fun ex S' => ex = (.exit 2) ∧ Weak S' ⟨64, 0, ofRegs [(4, .ptr 1 0), (6, .ptr 2 0)], [.gone, .var 25 [.row 3 ((List.map encHold []).length), .row 5 ((List.map encClaim []).length)], .var 25 [.row 4 ((List.map encHold y169).length), .row 6 ((List.map encClaim y363).length)], .row 46 4 (List.map encHold []), .row 46 4 (List.map encHold y169), .row 51 5 (List.map encClaim []), .row 51 5 (List.map encClaim y363)]⟩) ?_ ?_
    · refine Tri.loopF (fun (s365 : Int × (List Claim)) => (⟨64, 0, ofRegs [(1, .v (.int .i64 txn)), (2, .ptr 0 0), (4, .ptr 1 0), (6, .ptr 2 0), (8, .v (.int .i64 s365.1))], [.var 25 [.sl (List.map encHold l.Held), .sl (List.map encClaim l.Queue)], .var 25 [.row 3 ((List.map encHold []).length), .row 5 ((List.map encClaim []).length)], .var 25 [.row 4 ((List.map encHold y169).length), .row 6 ((List.map encClaim s365.2).length)], .row 46 4 (List.map encHold []), .row 46 4 (List.map encHold y169), .row 51 5 (List.map encClaim []), .row 51 5 (List.map encClaim s365.2)]⟩ : St)) q364 (Weak.trans (weak_nilcell 1 1 51 5 rfl rfl) (Weak.trans (weak_nilcell 2 1 51 5 rfl rfl) (weak_fin _ rfl rfl rfl (.cons (.same rfl) (.cons (.var (.cons (.same rfl) (.cons (.same (show (.row 5 0 : AV) = (.row 5 ((List.map encClaim []).length) : AV) from congrArg (AV.row 5) (by simp))) (.nil)))) (.cons (.var (.cons (.same rfl) (.cons (.same (show (.row 6 0 : AV) = (.row 6 ((List.map encClaim []).length) : AV) from congrArg (AV.row 6) (by simp))) (.nil)))) (.cons (.same rfl) (.cons (.same rfl) (.cons (.same rfl) (.cons (.same rfl) (LeH.rest)))))))) (.cons (.one (.same rfl)) (.cons (.one (.same rfl)) (.cons (.one (.same rfl)) (.cons (.one (.same rfl)) (.cons (.one (.same rfl)) (.nil)))))) rfl rfl))) ?_
      rintro ⟨a361, a362⟩ v366 hv r367
      have hv : ref10_Free_l4 l txn a361 a362 = some v366 := hv
      unfold ref10_Free_l4 at hv
      dsimp only
      refine Tri.seqK ?_
      refine Tri.seqK ?_
      refine Tri.run (G := gm_ref10_Free) tyOk mixed ?_
      conv => whnf
      refine ⟨⟨(l.Queue.length : Int), (len_map _ _).symm, ?_⟩⟩
      conv => whnf
      refine Tri.cond rfl (fun c369 => ?_) (fun c369 => ?_)
      · replace hv := if_t c369 hv
        refine Tri.run (G := gm_ref10_Free) tyOk mixed ?_
        conv => whnf
        refine Tri.seqK ?_
        replace hv := bind_some hv
        obtain ⟨y380, q381, hv⟩ := hv
        refine Tri.cut (fun ex S' => ex = .normal ∧ Weak S' ⟨64, 0, ofRegs [(1, .v (.int .i64 txn)), (2, .ptr 0 0), (4, .ptr 1 0), (6, .ptr 2 0), (8, .v (.int .i64 a361))], [.var 25 [.sl (List.map encHold l.Held), .sl (List.map encClaim l.Queue)], .var 25 [.row 3 ((List.map encHold []).length), .row 5 ((List.map encClaim []).length)], .var 25 [.row 4 ((List.map encHold y169).length), .row 6 ((List.map encClaim y380).length)], .row 46 4 (List.map encHold []), .row 46 4 (List.map encHold y169), .row 51 5 (List.map encClaim []), .row 51 5 (List.map encClaim y380)]⟩) ?_ ?_
        · refine Tri.block ?_
          refine Tri.seqK ?_
          refine Tri.run (G := gm_ref10_Free) tyOk mixed ?_
          conv => whnf
          replace q381 := bind_some q381
          obtain ⟨x382, q383, q381⟩ := q381
          refine ⟨(ix_some q383).1, ?_⟩
          conv => whnf
          refine ⟨⟨_, map_get encClaim (ix_some q383).2, ?_⟩⟩
          conv => whnf
          refine ⟨rfl, ?_⟩
          conv => whnf
          refine Tri.cond rfl (fun c384 => ?_) (fun c384 => ?_)
          · replace q381 := if_t c384 q381
            refine Tri.run (G := gm_ref10_Free) tyOk mixed ?_
            conv => whnf
            refine Draw.one 10 (.take 0 (.take 1 (.take 2 (.take 3 (.take 4 (.take 5 (.take 6 (.alt 7 (.alt 8 (.take 9 (.fin)) (.nil)) (.nil))))))))) [] (by kernel_rfl) ?_
            conv => whnf
            refine ⟨(ix_some q383).1, ?_⟩
            conv => whnf
            refine ⟨⟨_, map_get encClaim (ix_some q383).2, ?_⟩⟩
            conv => whnf
            refine ⟨rfl, ?_⟩
            conv => whnf
            refine ⟨?_, ?_⟩
            · conv => whnf
              refine ⟨⟨List.map encClaim [x382], rfl, ?_⟩⟩
              conv => whnf
              refine ⟨?_, ?_⟩
              · conv => whnf
                refine ⟨rfl, ?_⟩
                conv => whnf
                refine ⟨rfl, ?_⟩
                conv => whnf
                replace q381 := need_some q381
                obtain ⟨p386, q381⟩ := q381
                refine ⟨by simp only [List.length_map]; exact p386, ?_⟩
                conv => whnf
                refine ⟨⟨List.map encClaim (a362 ++ [x382]), map_app encClaim _ _ rfl rfl, ?_⟩⟩
                conv => whnf
                cases q381
                exact ⟨rfl, weak_fin _ rfl rfl rfl (.cons (.same rfl) (.cons (.same rfl) (.cons (.same rfl) (.cons (.same rfl) (.cons (.same rfl) (.cons (.same rfl) (.cons (.same rfl) (LeH.rest)))))))) (.cons (.one (.same rfl)) (.cons (.one (.same rfl)) (.cons (.one (.same rfl)) (.cons (.one (.same rfl)) (.cons (.one (.same rfl)) (.nil)))))) rfl rfl⟩
              · conv => whnf
                trivial
            · conv => whnf
              trivial
          · replace q381 := if_f c384 q381
            refine Tri.run (G := gm_ref10_Free) tyOk mixed ?_
            conv => whnf
            cases q381
            exact ⟨rfl, weak_fin _ rfl rfl rfl (.cons (.same rfl) (.cons (.same rfl) (.cons (.same rfl) (.cons (.same rfl) (.cons (.same rfl) (.cons (.same rfl) (.cons (.same rfl) (LeH.rest)))))))) (.cons (.one (.same rfl)) (.cons (.one (.same rfl)) (.cons (.one (.same rfl)) (.cons (.one (.same rfl)) (.cons (.one (.same rfl)) (.nil)))))) rfl rfl⟩
        · rintro ex S' ⟨rfl, w387⟩
          conv => whnf
          refine Tri.weak w387 ?_
          refine Tri.run (G := gm_ref10_Free) tyOk mixed ?_
          conv => whnf
          cases hv
          exact ⟨_, rfl, weak_fin _ rfl rfl rfl (.cons (.same rfl) (.cons (.same rfl) (.cons (.same rfl) (.cons (.same rfl) (.cons (.same rfl) (.cons (.same rfl) (.cons (.same rfl) (LeH.rest)))))))) (.cons (.one (.same rfl)) (.cons (.one (.same rfl)) (.cons (.one (.same rfl)) (.cons (.one (.same rfl)) (.cons (.one (.same rfl)) (.nil)))))) rfl rfl⟩
      · replace hv := if_f c369 hv
        refine Tri.run (G := gm_ref10_Free) tyOk mixed ?_
        conv => whnf
        cases hv
        obtain rfl := r367 _ rfl
        exact ⟨rfl, weak_fin _ rfl rfl rfl (.cons (.gone) (.cons (.same rfl) (.cons (.same rfl) (.cons (.same rfl) (.cons (.same rfl) (.cons (.same rfl) (.cons (.same rfl) (LeH.rest)))))))) (.cons (.one (.same rfl)) (.cons (.one (.same rfl)) (.nil))) rfl rfl⟩
    · rintro ex S' ⟨rfl, w388⟩
      conv => whnf
      refine Tri.weak w388 ?_
      refine Tri.seqK ?_
      refine Tri.run (G := gm_ref10_Free) tyOk mixed ?_
      conv => whnf
      refine ⟨rfl, ?_⟩
      conv => whnf
      refine ⟨rfl, ?_⟩
      conv => whnf
      replace h := bind_some h
      obtain ⟨y389, q390, h⟩ := h
      refine PureP.mono (ref10_Settle_walk ({ Held := y169, Queue := y363 } : Locks) y389 q390) ?_
      rintro _ rfl
      conv => whnf
      refine Tri.run (G := gm_ref10_Free) tyOk mixed ?_
      conv => whnf
      refine fin_here ?_
      conv => whnf
      cases h
      rfl
noncomputable def law11_RingBreaks (l : Locks) (txn : Int) (other : Int) : Option (Bool) :=
  law11_shown.bind fun y1 =>
  (law11_small l).bind fun y3 =>
  if ((!y1) || (!y3)) then
    some y1
  else
    (ring_Ring l other).bind fun y17 =>
    (ref10_Free l txn).bind fun y19 =>
    (ring_Ring y19.1 txn).bind fun y21 =>
    (ring_Ring y19.1 other).bind fun y23 =>
    if (decide ((y21.length : Int) = 0)) then
      if (decide ((y17.length : Int) > 0)) then
        some true
      else
        some (decide ((y23.length : Int) = 0))
    else
      some false
def gm_law11_RingBreaks : Gm := ⟨tys, [], [], []⟩
theorem law11_RingBreaks_walk (l : Locks) (txn : Int) (other : Int) (r : Bool) (h : law11_RingBreaks l txn other = some r) : PureP Try.prog 5 [.agg [.sl (List.map encHold l.Held), .sl (List.map encClaim l.Queue)], .v (.int .i64 txn), .v (.int .i64 other)] (fun a => a = .v (.bool r)) := by
  unfold law11_RingBreaks at h
  refine pureW (G := gm_law11_RingBreaks) tyOk Try.func5 rfl (by kernel_rfl) (by simp [Try.f5]) ?_
  refine Tri.seqK ?_
  refine Tri.run (G := gm_law11_RingBreaks) tyOk mixed ?_
  conv => whnf
  refine Tri.seqK ?_
  refine Tri.run (G := gm_law11_RingBreaks) tyOk mixed ?_
  conv => whnf
  replace h := bind_some h
  obtain ⟨y1, q2, h⟩ := h
  refine PureP.mono (law11_shown_walk y1 q2) ?_
  rintro _ rfl
  conv => whnf
  refine Tri.seqK ?_
  refine Tri.run (G := gm_law11_RingBreaks) tyOk mixed ?_
  conv => whnf
  replace h := bind_some h
  obtain ⟨y3, q4, h⟩ := h
  refine PureP.mono (law11_small_walk l y3 q4) ?_
  rintro _ rfl
  conv => whnf
  refine Tri.seqK ?_
  refine Tri.seqK ?_
  refine Tri.cut (fun ex S' => ex = .normal ∧ Weak S' ⟨52, 0, ofRegs [(1, .v (.int .i64 txn)), (2, .v (.int .i64 other)), (3, .ptr 0 0), (7, .v (.bool y1)), (22, .v (.bool ((!y1) || (!y3))))], [.var 25 [.sl (List.map encHold l.Held), .sl (List.map encClaim l.Queue)]]⟩) ?_ ?_
  · refine Tri.run (G := gm_law11_RingBreaks) tyOk mixed ?_
    conv => whnf
    refine cond_mk (fun c14 => ?_) (fun c14 => ?_)
    · replace c14 : (!y1) = true := c14
      conv => whnf
      exact ⟨rfl, weak_fin _ rfl rfl rfl (.cons (.same rfl) (LeH.rest)) (.cons (.one (.same rfl)) (.cons (.one (.same rfl)) (.cons (.one (.same rfl)) (.cons (.one (.same rfl)) (.cons (.one (.same (show (.v (.bool true) : AV) = (.v (.bool ((!y1) || (!y3))) : AV) from by first | (simp [c14]; done) | simp only [c14, Bool.or_true, Bool.true_or, Bool.false_or, Bool.or_false, Bool.and_true, Bool.true_and, Bool.and_false, Bool.false_and, Bool.not_true, Bool.not_false, if_true, if_false, Bool.false_eq_true]))) (.nil)))))) rfl rfl⟩
    · replace c14 : (!y1) = false := c14
      conv => whnf
      exact ⟨rfl, weak_fin _ rfl rfl rfl (.cons (.same rfl) (LeH.rest)) (.cons (.one (.same rfl)) (.cons (.one (.same rfl)) (.cons (.one (.same rfl)) (.cons (.one (.same rfl)) (.cons (.one (.same (show (.v (.bool (!y3)) : AV) = (.v (.bool ((!y1) || (!y3))) : AV) from by first | (simp [c14]; done) | simp only [c14, Bool.or_true, Bool.true_or, Bool.false_or, Bool.or_false, Bool.and_true, Bool.true_and, Bool.and_false, Bool.false_and, Bool.not_true, Bool.not_false, if_true, if_false, Bool.false_eq_true]))) (.nil)))))) rfl rfl⟩
  · rintro ex S' ⟨rfl, w15⟩
    conv => whnf
    refine Tri.weak w15 ?_
    refine Tri.cond rfl (fun c16 => ?_) (fun c16 => ?_)
    · replace h := if_t c16 h
      refine Tri.seqK ?_
      refine Tri.run (G := gm_law11_RingBreaks) tyOk mixed ?_
      conv => whnf
      refine Tri.run (G := gm_law11_RingBreaks) tyOk mixed ?_
      conv => whnf
      refine fin_here ?_
      conv => whnf
      cases h
      rfl
    · replace h := if_f c16 h
      refine Tri.run (G := gm_law11_RingBreaks) tyOk mixed ?_
      conv => whnf
      refine Tri.seqK ?_
      refine Tri.run (G := gm_law11_RingBreaks) tyOk mixed ?_
      conv => whnf
      replace h := bind_some h
      obtain ⟨y17, q18, h⟩ := h
      refine PureP.mono (ring_Ring_walk l other y17 q18) ?_
      rintro _ rfl
      conv => whnf
      refine Tri.seqK ?_
      refine Tri.run (G := gm_law11_RingBreaks) tyOk mixed ?_
      conv => whnf
      replace h := bind_some h
      obtain ⟨y19, q20, h⟩ := h
      refine PureP.mono (ref10_Free_walk l txn y19 q20) ?_
      rintro _ rfl
      conv => whnf
      refine Tri.seqK ?_
      refine Tri.run (G := gm_law11_RingBreaks) tyOk mixed ?_
      conv => whnf
      replace h := bind_some h
      obtain ⟨y21, q22, h⟩ := h
      refine PureP.mono (ring_Ring_walk y19.1 txn y21 q22) ?_
      rintro _ rfl
      conv => whnf
      refine Tri.seqK ?_
      refine Tri.run (G := gm_law11_RingBreaks) tyOk mixed ?_
      conv => whnf
      replace h := bind_some h
      obtain ⟨y23, q24, h⟩ := h
      refine PureP.mono (ring_Ring_walk y19.1 other y23 q24) ?_
      rintro _ rfl
      conv => whnf
      refine Tri.seqK ?_
      refine Tri.run (G := gm_law11_RingBreaks) tyOk mixed ?_
      conv => whnf
      refine ⟨⟨(y21.length : Int), (len_map _ _).symm, ?_⟩⟩
      conv => whnf
      refine cond_mk (fun c25 => ?_) (fun c25 => ?_)
      · replace h := if_t c25 h
        conv => whnf
        refine ⟨⟨(y17.length : Int), (len_map _ _).symm, ?_⟩⟩
        conv => whnf
        refine cond_mk (fun c26 => ?_) (fun c26 => ?_)
        · replace h := if_t c26 h
          conv => whnf
          refine Tri.run (G := gm_law11_RingBreaks) tyOk mixed ?_
          conv => whnf
          refine fin_here ?_
          conv => whnf
          cases h
          rfl
        · replace h := if_f c26 h
          conv => whnf
          refine ⟨⟨(y23.length : Int), (len_map _ _).symm, ?_⟩⟩
          conv => whnf
          refine Tri.run (G := gm_law11_RingBreaks) tyOk mixed ?_
          conv => whnf
          refine fin_here ?_
          conv => whnf
          cases h
          rfl
      · replace h := if_f c25 h
        conv => whnf
        refine Tri.run (G := gm_law11_RingBreaks) tyOk mixed ?_
        conv => whnf
        refine fin_here ?_
        conv => whnf
        cases h
        rfl
noncomputable def law11_RingNone_l2 (y17 : (List Int)) (y19 : (List Int)) (a98 : Int) : Option ((Int) ⊕ ((Unit) ⊕ (Unit))) :=
  if (decide (a98 < (y17.length : Int))) then
    (ix y17 a98).bind fun x113 =>
    (law11_has y19 x113).bind fun y115 =>
    if (!y115) then
      some (.inr (.inl ()))
    else
      some (.inl (IntKind.i64.wrap (a98 + 1)))
  else
    some (.inr (.inr ()))
noncomputable def law11_RingNone (l : Locks) (txn : Int) : Option (Bool) :=
  law11_shown.bind fun y1 =>
  (law11_small l).bind fun y3 =>
  if ((!y1) || (!y3)) then
    some y1
  else
    (ring_After l txn).bind fun y17 =>
    (ring_Reach l txn).bind fun y19 =>
    (ring_Ring l txn).bind fun y21 =>
    if (decide ((y17.length : Int) = 0)) then
      if (decide ((y19.length : Int) = 0)) then
        some (decide ((y21.length : Int) = 0))
      else
        some false
    else
      (loop (fun (s103 : Int) => law11_RingNone_l2 y17 y19 s103) (0 : Int)).bind fun (y99 : (Unit) ⊕ (Unit)) =>
      match y99 with
      | (.inl v101) =>
        some false
      | (.inr v102) =>
        (law11_has y19 txn).bind fun y119 =>
        some (y119 == (decide ((y21.length : Int) > 0)))
def gm_law11_RingNone : Gm := ⟨tys, [], [(20, 3, 1)], []⟩
theorem law11_RingNone_walk (l : Locks) (txn : Int) (r : Bool) (h : law11_RingNone l txn = some r) : PureP Try.prog 6 [.agg [.sl (List.map encHold l.Held), .sl (List.map encClaim l.Queue)], .v (.int .i64 txn)] (fun a => a = .v (.bool r)) := by
  unfold law11_RingNone at h
  refine pureW (G := gm_law11_RingNone) tyOk Try.func6 rfl (by kernel_rfl) (by simp [Try.f6]) ?_
  refine Tri.seqK ?_
  refine Tri.run (G := gm_law11_RingNone) tyOk mixed ?_
  conv => whnf
  refine Tri.seqK ?_
  refine Tri.run (G := gm_law11_RingNone) tyOk mixed ?_
  conv => whnf
  replace h := bind_some h
  obtain ⟨y1, q2, h⟩ := h
  refine PureP.mono (law11_shown_walk y1 q2) ?_
  rintro _ rfl
  conv => whnf
  refine Tri.seqK ?_
  refine Tri.run (G := gm_law11_RingNone) tyOk mixed ?_
  conv => whnf
  replace h := bind_some h
  obtain ⟨y3, q4, h⟩ := h
  refine PureP.mono (law11_small_walk l y3 q4) ?_
  rintro _ rfl
  conv => whnf
  refine Tri.seqK ?_
  refine Tri.seqK ?_
  refine Tri.cut (fun ex S' => ex = .normal ∧ Weak S' ⟨63, 0, ofRegs [(1, .v (.int .i64 txn)), (2, .ptr 0 0), (5, .v (.bool y1)), (20, .v (.bool ((!y1) || (!y3))))], [.var 25 [.sl (List.map encHold l.Held), .sl (List.map encClaim l.Queue)]]⟩) ?_ ?_
  · refine Tri.run (G := gm_law11_RingNone) tyOk mixed ?_
    conv => whnf
    refine cond_mk (fun c14 => ?_) (fun c14 => ?_)
    · replace c14 : (!y1) = true := c14
      conv => whnf
      exact ⟨rfl, weak_fin _ rfl rfl rfl (.cons (.same rfl) (LeH.rest)) (.cons (.one (.same rfl)) (.cons (.one (.same rfl)) (.cons (.one (.same rfl)) (.cons (.one (.same (show (.v (.bool true) : AV) = (.v (.bool ((!y1) || (!y3))) : AV) from by first | (simp [c14]; done) | simp only [c14, Bool.or_true, Bool.true_or, Bool.false_or, Bool.or_false, Bool.and_true, Bool.true_and, Bool.and_false, Bool.false_and, Bool.not_true, Bool.not_false, if_true, if_false, Bool.false_eq_true]))) (.nil))))) rfl rfl⟩
    · replace c14 : (!y1) = false := c14
      conv => whnf
      exact ⟨rfl, weak_fin _ rfl rfl rfl (.cons (.same rfl) (LeH.rest)) (.cons (.one (.same rfl)) (.cons (.one (.same rfl)) (.cons (.one (.same rfl)) (.cons (.one (.same (show (.v (.bool (!y3)) : AV) = (.v (.bool ((!y1) || (!y3))) : AV) from by first | (simp [c14]; done) | simp only [c14, Bool.or_true, Bool.true_or, Bool.false_or, Bool.or_false, Bool.and_true, Bool.true_and, Bool.and_false, Bool.false_and, Bool.not_true, Bool.not_false, if_true, if_false, Bool.false_eq_true]))) (.nil))))) rfl rfl⟩
  · rintro ex S' ⟨rfl, w15⟩
    conv => whnf
    refine Tri.weak w15 ?_
    refine Tri.cond rfl (fun c16 => ?_) (fun c16 => ?_)
    · replace h := if_t c16 h
      refine Tri.seqK ?_
      refine Tri.run (G := gm_law11_RingNone) tyOk mixed ?_
      conv => whnf
      refine Tri.run (G := gm_law11_RingNone) tyOk mixed ?_
      conv => whnf
      refine fin_here ?_
      conv => whnf
      cases h
      rfl
    · replace h := if_f c16 h
      refine Tri.run (G := gm_law11_RingNone) tyOk mixed ?_
      conv => whnf
      refine Tri.seqK ?_
      refine Tri.run (G := gm_law11_RingNone) tyOk mixed ?_
      conv => whnf
      replace h := bind_some h
      obtain ⟨y17, q18, h⟩ := h
      refine PureP.mono (ring_After_walk l txn y17 q18) ?_
      rintro _ rfl
      conv => whnf
      refine Tri.seqK ?_
      refine Tri.run (G := gm_law11_RingNone) tyOk mixed ?_
      conv => whnf
      replace h := bind_some h
      obtain ⟨y19, q20, h⟩ := h
      refine FreshP.mono (ring_Reach_walk l txn y19 q20) ?_
      rintro _ rfl
      conv => whnf
      refine Tri.seqK ?_
      refine Tri.run (G := gm_law11_RingNone) tyOk mixed ?_
      conv => whnf
      replace h := bind_some h
      obtain ⟨y21, q22, h⟩ := h
      refine PureP.mono (ring_Ring_walk l txn y21 q22) ?_
      rintro _ rfl
      conv => whnf
      refine Tri.seqK ?_
      refine Tri.seqK ?_
      refine Tri.run (G := gm_law11_RingNone) tyOk mixed ?_
      conv => whnf
      refine ⟨⟨(y17.length : Int), (len_map _ _).symm, ?_⟩⟩
      conv => whnf
      refine Tri.cond rfl (fun c25 => ?_) (fun c25 => ?_)
      · replace h := if_t c25 h
        refine Tri.seqK ?_
        refine Tri.run (G := gm_law11_RingNone) tyOk mixed ?_
        conv => whnf
        refine ⟨rfl, ?_⟩
        conv => whnf
        refine ⟨⟨(y19.length : Int), by simp, ?_⟩⟩
        conv => whnf
        refine cond_mk (fun c26 => ?_) (fun c26 => ?_)
        · replace h := if_t c26 h
          conv => whnf
          refine ⟨⟨(y21.length : Int), (len_map _ _).symm, ?_⟩⟩
          conv => whnf
          refine Tri.run (G := gm_law11_RingNone) tyOk mixed ?_
          conv => whnf
          refine fin_here ?_
          conv => whnf
          cases h
          rfl
        · replace h := if_f c26 h
          conv => whnf
          refine Tri.run (G := gm_law11_RingNone) tyOk mixed ?_
          conv => whnf
          refine fin_here ?_
          conv => whnf
          cases h
          rfl
      · replace h := if_f c25 h
        refine Tri.run (G := gm_law11_RingNone) tyOk mixed ?_
        conv => whnf
        refine Tri.seqK ?_
        refine Tri.seqK ?_
        refine Tri.run (G := gm_law11_RingNone) tyOk mixed ?_
        conv => whnf
        refine Tri.block ?_
        replace h := bind_some h
        obtain ⟨y99, q100, h⟩ := h
        refine Tri.cut (fun ex S' => (∃ v101 : Unit, y99 = (.inl v101) ∧ ex = .ret ∧ Weak S' ⟨63, 0, ofRegs [(4, .v (.bool false))], []⟩) ∨ (∃ v102 : Unit, y99 = (.inr v102) ∧ ex = (.exit 0) ∧ Weak S' ⟨63, 0, ofRegs [(1, .v (.int .i64 txn)), (8, .row 1 ((List.map (encI .i64) y19).length)), (9, .sl (List.map (encI .i64) y21))], [.gone, .row 3 1 (List.map (encI .i64) y19)]⟩)) ?_ ?_
        · refine Tri.loopF (fun (s103 : Int) => (⟨63, 0, ofRegs [(1, .v (.int .i64 txn)), (7, .sl (List.map (encI .i64) y17)), (8, .row 1 ((List.map (encI .i64) y19).length)), (9, .sl (List.map (encI .i64) y21)), (10, .v (.int .i64 s103))], [.gone, .row 3 1 (List.map (encI .i64) y19)]⟩ : St)) q100 (weak_fin _ rfl rfl rfl (.cons (.gone) (.cons (.same rfl) (LeH.rest))) (.cons (.one (.same rfl)) (.cons (.one (.same rfl)) (.cons (.one (.same rfl)) (.cons (.one (.same rfl)) (.cons (.one (.same rfl)) (.nil)))))) rfl rfl) ?_
          rintro a98 v104 hv r105
          have hv : law11_RingNone_l2 y17 y19 a98 = some v104 := hv
          unfold law11_RingNone_l2 at hv
          refine Tri.seqK ?_
          refine Tri.seqK ?_
          refine Tri.run (G := gm_law11_RingNone) tyOk mixed ?_
          conv => whnf
          refine ⟨⟨(y17.length : Int), (len_map _ _).symm, ?_⟩⟩
          conv => whnf
          refine Tri.cond rfl (fun c107 => ?_) (fun c107 => ?_)
          · replace hv := if_t c107 hv
            refine Tri.run (G := gm_law11_RingNone) tyOk mixed ?_
            conv => whnf
            refine Tri.seqK ?_
            refine Tri.block ?_
            refine Tri.seqK ?_
            refine Tri.run (G := gm_law11_RingNone) tyOk mixed ?_
            conv => whnf
            replace hv := bind_some hv
            obtain ⟨x113, q114, hv⟩ := hv
            refine ⟨(ix_some q114).1, ?_⟩
            conv => whnf
            refine ⟨⟨_, map_get (encI .i64) (ix_some q114).2, ?_⟩⟩
            conv => whnf
            refine ⟨rfl, ?_⟩
            conv => whnf
            refine ⟨rfl, ?_⟩
            conv => whnf
            replace hv := bind_some hv
            obtain ⟨y115, q116, hv⟩ := hv
            refine PureP.mono (law11_has_walk y19 x113 y115 q116) ?_
            rintro _ rfl
            conv => whnf
            refine Tri.seqK ?_
            refine Tri.run (G := gm_law11_RingNone) tyOk mixed ?_
            conv => whnf
            refine Tri.cond rfl (fun c117 => ?_) (fun c117 => ?_)
            · replace hv := if_t c117 hv
              refine Tri.seqK ?_
              refine Tri.run (G := gm_law11_RingNone) tyOk mixed ?_
              conv => whnf
              refine Tri.run (G := gm_law11_RingNone) tyOk mixed ?_
              conv => whnf
              cases hv
              obtain rfl := r105 _ rfl
              exact Or.inl ⟨_, rfl, rfl, weak_fin _ rfl rfl rfl (LeH.rest) (.cons (.one (.same rfl)) (.nil)) rfl rfl⟩
            · replace hv := if_f c117 hv
              refine Tri.run (G := gm_law11_RingNone) tyOk mixed ?_
              conv => whnf
              refine Tri.run (G := gm_law11_RingNone) tyOk mixed ?_
              conv => whnf
              cases hv
              exact ⟨_, rfl, weak_fin _ rfl rfl rfl (.cons (.same rfl) (.cons (.same rfl) (LeH.rest))) (.cons (.one (.same rfl)) (.cons (.one (.same rfl)) (.cons (.one (.same rfl)) (.cons (.one (.same rfl)) (.cons (.one (.same rfl)) (.nil)))))) rfl rfl⟩
          · replace hv := if_f c107 hv
            refine Tri.run (G := gm_law11_RingNone) tyOk mixed ?_
            conv => whnf
            cases hv
            obtain rfl := r105 _ rfl
            exact Or.inr (⟨_, rfl, rfl, weak_fin _ rfl rfl rfl (.cons (.same rfl) (.cons (.same rfl) (LeH.rest))) (.cons (.one (.same rfl)) (.cons (.one (.same rfl)) (.cons (.one (.same rfl)) (.nil)))) rfl rfl⟩)
        · rintro ex S' (⟨v101, rfl, rfl, w118⟩ | ⟨v102, rfl, rfl, w118⟩)
          · dsimp only at h
            conv => whnf
            refine fin_pre w118 ?_
            conv => whnf
            cases h
            rfl
          · dsimp only at h
            conv => whnf
            refine Tri.weak w118 ?_
            refine Tri.seqK ?_
            refine Tri.run (G := gm_law11_RingNone) tyOk mixed ?_
            conv => whnf
            refine ⟨rfl, ?_⟩
            conv => whnf
            replace h := bind_some h
            obtain ⟨y119, q120, h⟩ := h
            refine PureP.mono (law11_has_walk y19 txn y119 q120) ?_
            rintro _ rfl
            conv => whnf
            refine ⟨⟨(y21.length : Int), (len_map _ _).symm, ?_⟩⟩
            conv => whnf
            refine Tri.run (G := gm_law11_RingNone) tyOk mixed ?_
            conv => whnf
            refine fin_here ?_
            conv => whnf
            cases h
            rfl
noncomputable def law11_RingVictim_l2 (txn : Int) (y17 : (List Int)) (a106 : Int) (a107 : (List Hold)) (a108 : (List Claim)) : Option ((Int × (List Hold) × (List Claim)) ⊕ ((Unit) ⊕ ((List Hold) × (List Claim)))) :=
  if (decide (a106 < (y17.length : Int))) then
    (ring_Victim ({ Held := a107, Queue := a108 } : Locks) txn).bind fun y124 =>
    if (!y124.2) then
      some (.inr (.inl ()))
    else
      (ref10_Free ({ Held := a107, Queue := a108 } : Locks) y124.1).bind fun y128 =>
      some (.inl ((IntKind.i64.wrap (a106 + 1)), y128.1.Held, y128.1.Queue))
  else
    some (.inr (.inr (a107, a108)))
noncomputable def law11_RingVictim (l : Locks) (txn : Int) : Option (Bool) :=
  law11_shown.bind fun y1 =>
  (law11_small l).bind fun y3 =>
  if ((!y1) || (!y3)) then
    some y1
  else
    (ring_Ring l txn).bind fun y17 =>
    (loop (fun (s113 : Int × (List Hold) × (List Claim)) => law11_RingVictim_l2 txn y17 s113.1 s113.2.1 s113.2.2) ((0 : Int), l.Held, l.Queue)).bind fun (y109 : (Unit) ⊕ ((List Hold) × (List Claim))) =>
    match y109 with
    | (.inl v111) =>
      some true
    | (.inr v112) =>
      (ring_Victim ({ Held := v112.1, Queue := v112.2 } : Locks) txn).bind fun y131 =>
      some (!y131.2)
def gm_law11_RingVictim : Gm := ⟨tys, [], [], []⟩
theorem law11_RingVictim_walk (l : Locks) (txn : Int) (r : Bool) (h : law11_RingVictim l txn = some r) : PureP Try.prog 7 [.agg [.sl (List.map encHold l.Held), .sl (List.map encClaim l.Queue)], .v (.int .i64 txn)] (fun a => a = .v (.bool r)) := by
  unfold law11_RingVictim at h
  refine pureW (G := gm_law11_RingVictim) tyOk Try.func7 rfl (by kernel_rfl) (by simp [Try.f7]) ?_
  refine Tri.seqK ?_
  refine Tri.run (G := gm_law11_RingVictim) tyOk mixed ?_
  conv => whnf
  refine Tri.seqK ?_
  refine Tri.run (G := gm_law11_RingVictim) tyOk mixed ?_
  conv => whnf
  replace h := bind_some h
  obtain ⟨y1, q2, h⟩ := h
  refine PureP.mono (law11_shown_walk y1 q2) ?_
  rintro _ rfl
  conv => whnf
  refine Tri.seqK ?_
  refine Tri.run (G := gm_law11_RingVictim) tyOk mixed ?_
  conv => whnf
  replace h := bind_some h
  obtain ⟨y3, q4, h⟩ := h
  refine PureP.mono (law11_small_walk l y3 q4) ?_
  rintro _ rfl
  conv => whnf
  refine Tri.seqK ?_
  refine Tri.seqK ?_
  refine Tri.cut (fun ex S' => ex = .normal ∧ Weak S' ⟨57, 0, ofRegs [(1, .v (.int .i64 txn)), (2, .ptr 0 0), (5, .v (.bool y1)), (23, .v (.bool ((!y1) || (!y3))))], [.var 25 [.sl (List.map encHold l.Held), .sl (List.map encClaim l.Queue)]]⟩) ?_ ?_
  · refine Tri.run (G := gm_law11_RingVictim) tyOk mixed ?_
    conv => whnf
    refine cond_mk (fun c14 => ?_) (fun c14 => ?_)
    · replace c14 : (!y1) = true := c14
      conv => whnf
      exact ⟨rfl, weak_fin _ rfl rfl rfl (.cons (.same rfl) (LeH.rest)) (.cons (.one (.same rfl)) (.cons (.one (.same rfl)) (.cons (.one (.same rfl)) (.cons (.one (.same (show (.v (.bool true) : AV) = (.v (.bool ((!y1) || (!y3))) : AV) from by first | (simp [c14]; done) | simp only [c14, Bool.or_true, Bool.true_or, Bool.false_or, Bool.or_false, Bool.and_true, Bool.true_and, Bool.and_false, Bool.false_and, Bool.not_true, Bool.not_false, if_true, if_false, Bool.false_eq_true]))) (.nil))))) rfl rfl⟩
    · replace c14 : (!y1) = false := c14
      conv => whnf
      exact ⟨rfl, weak_fin _ rfl rfl rfl (.cons (.same rfl) (LeH.rest)) (.cons (.one (.same rfl)) (.cons (.one (.same rfl)) (.cons (.one (.same rfl)) (.cons (.one (.same (show (.v (.bool (!y3)) : AV) = (.v (.bool ((!y1) || (!y3))) : AV) from by first | (simp [c14]; done) | simp only [c14, Bool.or_true, Bool.true_or, Bool.false_or, Bool.or_false, Bool.and_true, Bool.true_and, Bool.and_false, Bool.false_and, Bool.not_true, Bool.not_false, if_true, if_false, Bool.false_eq_true]))) (.nil))))) rfl rfl⟩
  · rintro ex S' ⟨rfl, w15⟩
    conv => whnf
    refine Tri.weak w15 ?_
    refine Tri.cond rfl (fun c16 => ?_) (fun c16 => ?_)
    · replace h := if_t c16 h
      refine Tri.seqK ?_
      refine Tri.run (G := gm_law11_RingVictim) tyOk mixed ?_
      conv => whnf
      refine Tri.run (G := gm_law11_RingVictim) tyOk mixed ?_
      conv => whnf
      refine fin_here ?_
      conv => whnf
      cases h
      rfl
    · replace h := if_f c16 h
      refine Tri.run (G := gm_law11_RingVictim) tyOk mixed ?_
      conv => whnf
      refine Tri.seqK ?_
      refine Tri.run (G := gm_law11_RingVictim) tyOk mixed ?_
      conv => whnf
      replace h := bind_some h
      obtain ⟨y17, q18, h⟩ := h
      refine PureP.mono (ring_Ring_walk l txn y17 q18) ?_
      rintro _ rfl
      conv => whnf
      refine ⟨⟨(y17.length : Int), (len_map _ _).symm, ?_⟩⟩
      conv => whnf
      refine Tri.seqK ?_
      refine Tri.seqK ?_
      refine Tri.run (G := gm_law11_RingVictim) tyOk mixed ?_
      conv => whnf
      refine Tri.block ?_
      replace h := bind_some h
      obtain ⟨y109, q110, h⟩ := h
      refine Tri.cut (fun ex S' => (∃ v111 : Unit, y109 = (.inl v111) ∧ ex = .ret ∧ Weak S' ⟨57, 0, ofRegs [(4, .v (.bool true))], []⟩) ∨ (∃ v112 : (List Hold) × (List Claim), y109 = (.inr v112) ∧ ex = (.exit 0) ∧ Weak S' ⟨57, 0, ofRegs [(1, .v (.int .i64 txn)), (2, .ptr 0 0)], [.var 25 [.sl (List.map encHold v112.1), .sl (List.map encClaim v112.2)]]⟩)) ?_ ?_
      · refine Tri.loopF (fun (s113 : Int × (List Hold) × (List Claim)) => (⟨57, 0, ofRegs [(1, .v (.int .i64 txn)), (2, .ptr 0 0), (7, .v (.int .i64 (y17.length : Int))), (8, .v (.int .i64 s113.1))], [.var 25 [.sl (List.map encHold s113.2.1), .sl (List.map encClaim s113.2.2)]]⟩ : St)) q110 (weak_fin _ rfl rfl rfl (.cons (.same rfl) (LeH.rest)) (.cons (.one (.same rfl)) (.cons (.one (.same rfl)) (.cons (.one (.same rfl)) (.cons (.one (.same rfl)) (.nil))))) rfl rfl) ?_
        rintro ⟨a106, a107, a108⟩ v114 hv r115
        have hv : law11_RingVictim_l2 txn y17 a106 a107 a108 = some v114 := hv
        unfold law11_RingVictim_l2 at hv
        dsimp only
        refine Tri.seqK ?_
        refine Tri.seqK ?_
        refine Tri.run (G := gm_law11_RingVictim) tyOk mixed ?_
        conv => whnf
        refine Tri.cond rfl (fun c117 => ?_) (fun c117 => ?_)
        · replace hv := if_t c117 hv
          refine Tri.run (G := gm_law11_RingVictim) tyOk mixed ?_
          conv => whnf
          refine Tri.seqK ?_
          refine Tri.block ?_
          refine Tri.seqK ?_
          refine Tri.run (G := gm_law11_RingVictim) tyOk mixed ?_
          conv => whnf
          replace hv := bind_some hv
          obtain ⟨y124, q125, hv⟩ := hv
          refine PureP.mono (ring_Victim_walk ({ Held := a107, Queue := a108 } : Locks) txn y124 q125) ?_
          rintro _ rfl
          conv => whnf
          refine Tri.seqK ?_
          refine Tri.seqK ?_
          refine Tri.run (G := gm_law11_RingVictim) tyOk mixed ?_
          conv => whnf
          refine Tri.cond rfl (fun c127 => ?_) (fun c127 => ?_)
          · replace hv := if_t c127 hv
            refine Tri.seqK ?_
            refine Tri.run (G := gm_law11_RingVictim) tyOk mixed ?_
            conv => whnf
            refine Tri.run (G := gm_law11_RingVictim) tyOk mixed ?_
            conv => whnf
            cases hv
            obtain rfl := r115 _ rfl
            exact Or.inl ⟨_, rfl, rfl, weak_fin _ rfl rfl rfl (LeH.rest) (.cons (.one (.same rfl)) (.nil)) rfl rfl⟩
          · replace hv := if_f c127 hv
            refine Tri.run (G := gm_law11_RingVictim) tyOk mixed ?_
            conv => whnf
            refine Tri.seqK ?_
            refine Tri.run (G := gm_law11_RingVictim) tyOk mixed ?_
            conv => whnf
            replace hv := bind_some hv
            obtain ⟨y128, q129, hv⟩ := hv
            refine PureP.mono (ref10_Free_walk ({ Held := a107, Queue := a108 } : Locks) y124.1 y128 q129) ?_
            rintro _ rfl
            conv => whnf
            refine Tri.run (G := gm_law11_RingVictim) tyOk mixed ?_
            conv => whnf
            refine Tri.run (G := gm_law11_RingVictim) tyOk mixed ?_
            conv => whnf
            cases hv
            exact ⟨_, rfl, weak_fin _ rfl rfl rfl (.cons (.same rfl) (LeH.rest)) (.cons (.one (.same rfl)) (.cons (.one (.same rfl)) (.cons (.one (.same rfl)) (.cons (.one (.same rfl)) (.nil))))) rfl rfl⟩
        · replace hv := if_f c117 hv
          refine Tri.run (G := gm_law11_RingVictim) tyOk mixed ?_
          conv => whnf
          cases hv
          obtain rfl := r115 _ rfl
          exact Or.inr (⟨_, rfl, rfl, weak_fin _ rfl rfl rfl (.cons (.same rfl) (LeH.rest)) (.cons (.one (.same rfl)) (.cons (.one (.same rfl)) (.nil))) rfl rfl⟩)
      · rintro ex S' (⟨v111, rfl, rfl, w130⟩ | ⟨v112, rfl, rfl, w130⟩)
        · dsimp only at h
          conv => whnf
          refine fin_pre w130 ?_
          conv => whnf
          cases h
          rfl
        · dsimp only at h
          conv => whnf
          refine Tri.weak w130 ?_
          refine Tri.seqK ?_
          refine Tri.run (G := gm_law11_RingVictim) tyOk mixed ?_
          conv => whnf
          replace h := bind_some h
          obtain ⟨y131, q132, h⟩ := h
          refine PureP.mono (ring_Victim_walk ({ Held := v112.1, Queue := v112.2 } : Locks) txn y131 q132) ?_
          rintro _ rfl
          conv => whnf
          refine Tri.seqK ?_
          refine Tri.run (G := gm_law11_RingVictim) tyOk mixed ?_
          conv => whnf
          refine Tri.run (G := gm_law11_RingVictim) tyOk mixed ?_
          conv => whnf
          refine fin_here ?_
          conv => whnf
          cases h
          rfl
noncomputable def span_May (w : Want) : Option (Bool) :=
  (
    if ((!(decide (w.Mode = 1))) && (!(decide (w.Mode = 2)))) then
      some (.inl ())
    else
      (span_empty w).bind fun y97 =>
      if y97 then
        some (.inl ())
      else
        some (.inr ())).bind fun (y81 : (Unit) ⊕ (Unit)) =>
  match y81 with
  | (.inl v83) =>
    some false
  | (.inr v84) =>
    some true
def gm_span_May : Gm := ⟨tys, [], [], []⟩
theorem span_May_walk (w : Want) (r : Bool) (h : span_May w = some r) : PureP Try.prog 74 [.agg [.v (.int .i64 w.Mode), .v (.string (bs w.Lo)), .v (.string (bs w.Hi))]] (fun a => a = .v (.bool r)) := by
  unfold span_May at h
  refine pureW (G := gm_span_May) tyOk Try.func74 rfl (by kernel_rfl) (by simp [Try.f74]) ?_
  refine Tri.seqK ?_
  refine Tri.run (G := gm_span_May) tyOk mixed ?_
  conv => whnf
  refine Tri.seqK ?_
  refine Tri.block ?_
  refine Tri.seqK ?_
  replace h := bind_some h
  obtain ⟨y81, q82, h⟩ := h
  refine Tri.cut (fun ex S' => (∃ v83 : Unit, y81 = (.inl v83) ∧ ex = .normal ∧ Weak S' ⟨15, 0, ofRegs [], []⟩) ∨ (∃ v84 : Unit, y81 = (.inr v84) ∧ ex = (.exit 0) ∧ Weak S' ⟨15, 0, ofRegs [], []⟩)) ?_ ?_
  · refine Tri.block ?_
    refine Tri.block ?_
    refine Tri.seqK ?_
    refine Tri.seqK ?_
    refine Tri.seqK ?_
    refine Tri.cut (fun ex S' => ex = .normal ∧ Weak S' ⟨15, 0, ofRegs [(1, .ptr 0 0), (3, .v (.bool ((!(decide (w.Mode = 1))) && (!(decide (w.Mode = 2))))))], [.var 44 [.v (.int .i64 w.Mode), .v (.string (bs w.Lo)), .v (.string (bs w.Hi))]]⟩) ?_ ?_
    · refine Tri.run (G := gm_span_May) tyOk mixed ?_
      conv => whnf
      refine cond_mk (fun c94 => ?_) (fun c94 => ?_)
      · replace c94 : (!(decide (w.Mode = 1))) = true := c94
        conv => whnf
        exact ⟨rfl, weak_fin _ rfl rfl rfl (.cons (.same rfl) (LeH.rest)) (.cons (.one (.same rfl)) (.cons (.one (.same (show (.v (.bool (!(decide (w.Mode = 2)))) : AV) = (.v (.bool ((!(decide (w.Mode = 1))) && (!(decide (w.Mode = 2))))) : AV) from by first | (simp [c94]; done) | simp only [c94, Bool.or_true, Bool.true_or, Bool.false_or, Bool.or_false, Bool.and_true, Bool.true_and, Bool.and_false, Bool.false_and, Bool.not_true, Bool.not_false, if_true, if_false, Bool.false_eq_true]))) (.nil))) rfl rfl⟩
      · replace c94 : (!(decide (w.Mode = 1))) = false := c94
        conv => whnf
        exact ⟨rfl, weak_fin _ rfl rfl rfl (.cons (.same rfl) (LeH.rest)) (.cons (.one (.same rfl)) (.cons (.one (.same (show (.v (.bool false) : AV) = (.v (.bool ((!(decide (w.Mode = 1))) && (!(decide (w.Mode = 2))))) : AV) from by first | (simp [c94]; done) | simp only [c94, Bool.or_true, Bool.true_or, Bool.false_or, Bool.or_false, Bool.and_true, Bool.true_and, Bool.and_false, Bool.false_and, Bool.not_true, Bool.not_false, if_true, if_false, Bool.false_eq_true]))) (.nil))) rfl rfl⟩
    · rintro ex S' ⟨rfl, w95⟩
      conv => whnf
      refine Tri.weak w95 ?_
      refine Tri.cond rfl (fun c96 => ?_) (fun c96 => ?_)
      · replace q82 := if_t c96 q82
        refine Tri.run (G := gm_span_May) tyOk mixed ?_
        conv => whnf
        cases q82
        exact Or.inl ⟨_, rfl, rfl, weak_fin _ rfl rfl rfl (LeH.rest) (.nil) rfl rfl⟩
      · replace q82 := if_f c96 q82
        refine Tri.run (G := gm_span_May) tyOk mixed ?_
        conv => whnf
        refine Tri.seqK ?_
        refine Tri.run (G := gm_span_May) tyOk mixed ?_
        conv => whnf
        replace q82 := bind_some q82
        obtain ⟨y97, q98, q82⟩ := q82
        refine PureP.mono (span_empty_walk w y97 q98) ?_
        rintro _ rfl
        conv => whnf
        refine Tri.cond rfl (fun c99 => ?_) (fun c99 => ?_)
        · replace q82 := if_t c99 q82
          refine Tri.run (G := gm_span_May) tyOk mixed ?_
          conv => whnf
          cases q82
          exact Or.inl ⟨_, rfl, rfl, weak_fin _ rfl rfl rfl (LeH.rest) (.nil) rfl rfl⟩
        · replace q82 := if_f c99 q82
          refine Tri.run (G := gm_span_May) tyOk mixed ?_
          conv => whnf
          refine Tri.run (G := gm_span_May) tyOk mixed ?_
          conv => whnf
          cases q82
          exact Or.inr (⟨_, rfl, rfl, weak_fin _ rfl rfl rfl (LeH.rest) (.nil) rfl rfl⟩)
  · rintro ex S' (⟨v83, rfl, rfl, w100⟩ | ⟨v84, rfl, rfl, w100⟩)
    · dsimp only at h
      conv => whnf
      refine Tri.weak w100 ?_
      refine Tri.seqK ?_
      refine Tri.seqK ?_
      refine Tri.run (G := gm_span_May) tyOk mixed ?_
      conv => whnf
      refine Tri.run (G := gm_span_May) tyOk mixed ?_
      conv => whnf
      refine fin_here ?_
      conv => whnf
      cases h
      rfl
    · dsimp only at h
      conv => whnf
      refine Tri.weak w100 ?_
      refine Tri.seqK ?_
      refine Tri.run (G := gm_span_May) tyOk mixed ?_
      conv => whnf
      refine Tri.run (G := gm_span_May) tyOk mixed ?_
      conv => whnf
      refine fin_here ?_
      conv => whnf
      cases h
      rfl
noncomputable def lock_Waits_1 (c : Claim) (v : Int) : Option (Bool) :=
  some (decide (c.Txn = v))
def gm_lock_Waits_1 : Gm := ⟨tys, [], [], []⟩
theorem lock_Waits_1_walk (c : Claim) (v : Int) (r : Bool) (h : lock_Waits_1 c v = some r) : CallP Try.prog 68 [.var 3 [.v (.int .i64 v)]] [.agg [.v (.int .i64 c.Txn), .v (.int .i64 c.W.Mode), .v (.string (bs c.W.Lo)), .v (.string (bs c.W.Hi)), .v (.int .u64 c.Until)], .ptr 0 0] (fun a H' => a = .v (.bool r) ∧ H'.take ([.var 3 [.v (.int .i64 v)]] : List Ob).length = [.var 3 [.v (.int .i64 v)]]) := by
  unfold lock_Waits_1 at h
  refine callW (G := gm_lock_Waits_1) tyOk Try.func68 rfl (by kernel_rfl) (by simp [Try.f68]) ?_
  refine Tri.seqK ?_
  refine Tri.run (G := gm_lock_Waits_1) tyOk mixed ?_
  conv => whnf
  refine Tri.seqK ?_
  refine Tri.run (G := gm_lock_Waits_1) tyOk mixed ?_
  conv => whnf
  refine Tri.run (G := gm_lock_Waits_1) tyOk mixed ?_
  conv => whnf
  refine fin_pre (S' := ⟨8, 1, ofRegs [(3, .v (.bool (decide (c.Txn = v))))], [.var 3 [.v (.int .i64 v)]]⟩) (weak_fin _ rfl rfl rfl (.cons (.same rfl) (LeH.rest)) (.cons (.one (.same rfl)) (.nil)) rfl rfl) ?_
  conv => whnf
  cases h
  exact ⟨rfl, rfl⟩
noncomputable def slices_IndexFunc_Claim__lock_Waits_1_l4 (s : (List Claim)) (v : Int) (a164 : Int) : Option ((Int) ⊕ ((Int) ⊕ (Unit))) :=
  if (decide (a164 < (s.length : Int))) then
    (ix s a164).bind fun x179 =>
    (lock_Waits_1 x179 v).bind fun y181 =>
    if y181 then
      some (.inr (.inl a164))
    else
      some (.inl (IntKind.i64.wrap (a164 + 1)))
  else
    some (.inr (.inr ()))
noncomputable def slices_IndexFunc_Claim__lock_Waits_1 (s : (List Claim)) (v : Int) : Option (Int) :=
  (loop (fun (s169 : Int) => slices_IndexFunc_Claim__lock_Waits_1_l4 s v s169) (0 : Int)).bind fun (y165 : (Int) ⊕ (Unit)) =>
  match y165 with
  | (.inl v167) =>
    some v167
  | (.inr v168) =>
    some (-1)
def gm_slices_IndexFunc_Claim__lock_Waits_1 : Gm := ⟨tys, [68], [], []⟩
theorem slices_IndexFunc_Claim__lock_Waits_1_walk (s : (List Claim)) (v : Int) (r : Int) (h : slices_IndexFunc_Claim__lock_Waits_1 s v = some r) : CallP Try.prog 86 [.var 3 [.v (.int .i64 v)]] [.sl (List.map encClaim s), .fn (.func 68) [] [.ptr 0 0]] (fun a H' => a = .v (.int .i64 r) ∧ H'.take ([.var 3 [.v (.int .i64 v)]] : List Ob).length = [.var 3 [.v (.int .i64 v)]]) := by
  unfold slices_IndexFunc_Claim__lock_Waits_1 at h
  refine callW (G := gm_slices_IndexFunc_Claim__lock_Waits_1) tyOk Try.func86 rfl (by kernel_rfl) (by simp [Try.f86]) ?_
  refine Tri.seqK ?_
  refine Tri.run (G := gm_slices_IndexFunc_Claim__lock_Waits_1) tyOk mixed ?_
  conv => whnf
  refine Tri.seqK ?_
  refine Tri.seqK ?_
  refine Tri.run (G := gm_slices_IndexFunc_Claim__lock_Waits_1) tyOk mixed ?_
  conv => whnf
  refine ⟨⟨(s.length : Int), (len_map _ _).symm, ?_⟩⟩
  conv => whnf
  refine Tri.block ?_
  replace h := bind_some h
  obtain ⟨y165, q166, h⟩ := h
  refine Tri.cut (fun ex S' => (∃ v167 : Int, y165 = (.inl v167) ∧ ex = .ret ∧ Weak S' ⟨19, 1, ofRegs [(4, .v (.int .i64 v167))], [.var 3 [.v (.int .i64 v)]]⟩) ∨ (∃ v168 : Unit, y165 = (.inr v168) ∧ ex = (.exit 0) ∧ Weak S' ⟨19, 1, ofRegs [], [.var 3 [.v (.int .i64 v)]]⟩)) ?_ ?_
  · refine Tri.loopF (fun (s169 : Int) => (⟨19, 1, ofRegs [(0, .sl (List.map encClaim s)), (1, .fn (.func 68) [] [.ptr 0 0]), (7, .v (.int .i64 (s.length : Int))), (8, .v (.int .i64 s169))], [.var 3 [.v (.int .i64 v)]]⟩ : St)) q166 (weak_fin _ rfl rfl rfl (.cons (.same rfl) (LeH.rest)) (.cons (.one (.same rfl)) (.cons (.one (.same rfl)) (.cons (.one (.same rfl)) (.cons (.one (.same rfl)) (.nil))))) rfl rfl) ?_
    rintro a164 v170 hv r171
    have hv : slices_IndexFunc_Claim__lock_Waits_1_l4 s v a164 = some v170 := hv
    unfold slices_IndexFunc_Claim__lock_Waits_1_l4 at hv
    refine Tri.seqK ?_
    refine Tri.run (G := gm_slices_IndexFunc_Claim__lock_Waits_1) tyOk mixed ?_
    conv => whnf
    refine Tri.seqK ?_
    refine Tri.cond rfl (fun c173 => ?_) (fun c173 => ?_)
    · replace hv := if_t c173 hv
      refine Tri.run (G := gm_slices_IndexFunc_Claim__lock_Waits_1) tyOk mixed ?_
      conv => whnf
      refine Tri.seqK ?_
      refine Tri.block ?_
      refine Tri.seqK ?_
      refine Tri.run (G := gm_slices_IndexFunc_Claim__lock_Waits_1) tyOk mixed ?_
      conv => whnf
      refine Tri.seqK ?_
      refine Tri.run (G := gm_slices_IndexFunc_Claim__lock_Waits_1) tyOk mixed ?_
      conv => whnf
      replace hv := bind_some hv
      obtain ⟨x179, q180, hv⟩ := hv
      refine ⟨(ix_some q180).1, ?_⟩
      conv => whnf
      refine ⟨⟨_, map_get encClaim (ix_some q180).2, ?_⟩⟩
      conv => whnf
      refine ⟨rfl, ?_⟩
      conv => whnf
      replace hv := bind_some hv
      obtain ⟨y181, q182, hv⟩ := hv
      refine CallP.use (lock_Waits_1_walk x179 v y181 q182) [0] rfl rfl rfl rfl rfl rfl rfl rfl rfl ?_
      conv => whnf
      refine Tri.cond rfl (fun c183 => ?_) (fun c183 => ?_)
      · replace hv := if_t c183 hv
        refine Tri.seqK ?_
        refine Tri.run (G := gm_slices_IndexFunc_Claim__lock_Waits_1) tyOk mixed ?_
        conv => whnf
        refine Tri.run (G := gm_slices_IndexFunc_Claim__lock_Waits_1) tyOk mixed ?_
        conv => whnf
        cases hv
        obtain rfl := r171 _ rfl
        exact Or.inl ⟨_, rfl, rfl, weak_fin _ rfl rfl rfl (.cons (.same rfl) (LeH.rest)) (.cons (.one (.same rfl)) (.nil)) rfl rfl⟩
      · replace hv := if_f c183 hv
        refine Tri.run (G := gm_slices_IndexFunc_Claim__lock_Waits_1) tyOk mixed ?_
        conv => whnf
        refine Tri.run (G := gm_slices_IndexFunc_Claim__lock_Waits_1) tyOk mixed ?_
        conv => whnf
        cases hv
        exact ⟨_, rfl, weak_fin _ rfl rfl rfl (.cons (.same rfl) (LeH.rest)) (.cons (.one (.same rfl)) (.cons (.one (.same rfl)) (.cons (.one (.same rfl)) (.cons (.one (.same rfl)) (.nil))))) rfl rfl⟩
    · replace hv := if_f c173 hv
      refine Tri.run (G := gm_slices_IndexFunc_Claim__lock_Waits_1) tyOk mixed ?_
      conv => whnf
      cases hv
      obtain rfl := r171 _ rfl
      exact Or.inr (⟨_, rfl, rfl, weak_fin _ rfl rfl rfl (.cons (.same rfl) (LeH.rest)) (.nil) rfl rfl⟩)
  · rintro ex S' (⟨v167, rfl, rfl, w184⟩ | ⟨v168, rfl, rfl, w184⟩)
    · dsimp only at h
      conv => whnf
      refine fin_pre (S' := ⟨19, 1, ofRegs [(4, .v (.int .i64 v167))], [.var 3 [.v (.int .i64 v)]]⟩) (Weak.trans w184 (weak_fin _ rfl rfl rfl (.cons (.same rfl) (LeH.rest)) (.cons (.one (.same rfl)) (.nil)) rfl rfl)) ?_
      conv => whnf
      cases h
      exact ⟨rfl, rfl⟩
    · dsimp only at h
      conv => whnf
      refine Tri.weak w184 ?_
      refine Tri.seqK ?_
      refine Tri.run (G := gm_slices_IndexFunc_Claim__lock_Waits_1) tyOk mixed ?_
      conv => whnf
      refine Tri.run (G := gm_slices_IndexFunc_Claim__lock_Waits_1) tyOk mixed ?_
      conv => whnf
      refine fin_pre (S' := ⟨19, 1, ofRegs [(4, .v (.int .i64 (-1)))], [.var 3 [.v (.int .i64 v)]]⟩) (weak_fin _ rfl rfl rfl (.cons (.same rfl) (LeH.rest)) (.cons (.one (.same rfl)) (.nil)) rfl rfl) ?_
      conv => whnf
      cases h
      exact ⟨rfl, rfl⟩
noncomputable def slices_ContainsFunc_Claim__lock_Waits_1 (s : (List Claim)) (v : Int) : Option (Bool) :=
  (slices_IndexFunc_Claim__lock_Waits_1 s v).bind fun y3 =>
  some (decide (y3 ≥ 0))
def gm_slices_ContainsFunc_Claim__lock_Waits_1 : Gm := ⟨tys, [86], [], []⟩
theorem slices_ContainsFunc_Claim__lock_Waits_1_walk (s : (List Claim)) (v : Int) (r : Bool) (h : slices_ContainsFunc_Claim__lock_Waits_1 s v = some r) : CallP Try.prog 67 [.var 3 [.v (.int .i64 v)]] [.sl (List.map encClaim s), .fn (.func 68) [] [.ptr 0 0]] (fun a H' => a = .v (.bool r) ∧ H'.take ([.var 3 [.v (.int .i64 v)]] : List Ob).length = [.var 3 [.v (.int .i64 v)]]) := by
  unfold slices_ContainsFunc_Claim__lock_Waits_1 at h
  refine callW (G := gm_slices_ContainsFunc_Claim__lock_Waits_1) tyOk Try.func67 rfl (by kernel_rfl) (by simp [Try.f67]) ?_
  refine Tri.seqK ?_
  refine Tri.run (G := gm_slices_ContainsFunc_Claim__lock_Waits_1) tyOk mixed ?_
  conv => whnf
  refine Tri.seqK ?_
  refine Tri.run (G := gm_slices_ContainsFunc_Claim__lock_Waits_1) tyOk mixed ?_
  conv => whnf
  replace h := bind_some h
  obtain ⟨y3, q4, h⟩ := h
  refine CallP.use (slices_IndexFunc_Claim__lock_Waits_1_walk s v y3 q4) [0] rfl rfl rfl rfl rfl rfl rfl rfl rfl ?_
  conv => whnf
  refine Tri.run (G := gm_slices_ContainsFunc_Claim__lock_Waits_1) tyOk mixed ?_
  conv => whnf
  refine fin_pre (S' := ⟨9, 1, ofRegs [(4, .v (.bool (decide (y3 ≥ 0))))], [.var 3 [.v (.int .i64 v)]]⟩) (weak_fin _ rfl rfl rfl (.cons (.same rfl) (LeH.rest)) (.cons (.one (.same rfl)) (.nil)) rfl rfl) ?_
  conv => whnf
  cases h
  exact ⟨rfl, rfl⟩
noncomputable def lock_Waits (l : Locks) (txn : Int) : Option (Bool) :=
  (slices_ContainsFunc_Claim__lock_Waits_1 l.Queue txn).bind fun y1 =>
  some y1
def gm_lock_Waits : Gm := ⟨tys, [67], [], []⟩
theorem lock_Waits_walk (l : Locks) (txn : Int) (r : Bool) (h : lock_Waits l txn = some r) : PureP Try.prog 37 [.agg [.sl (List.map encHold l.Held), .sl (List.map encClaim l.Queue)], .v (.int .i64 txn)] (fun a => a = .v (.bool r)) := by
  unfold lock_Waits at h
  refine pureW (G := gm_lock_Waits) tyOk Try.func37 rfl (by kernel_rfl) (by simp [Try.f37]) ?_
  refine Tri.seqK ?_
  refine Tri.run (G := gm_lock_Waits) tyOk mixed ?_
  conv => whnf
  refine Tri.seqK ?_
  refine Tri.run (G := gm_lock_Waits) tyOk mixed ?_
  conv => whnf
  replace h := bind_some h
  obtain ⟨y1, q2, h⟩ := h
  refine CallP.use (slices_ContainsFunc_Claim__lock_Waits_1_walk l.Queue txn y1 q2) [1] rfl rfl rfl rfl rfl rfl rfl rfl rfl ?_
  conv => whnf
  refine Tri.run (G := gm_lock_Waits) tyOk mixed ?_
  conv => whnf
  refine fin_here ?_
  conv => whnf
  cases h
  rfl
noncomputable def span_Covers (a : Want) (b : Want) : Option (Bool) :=
  (
    (span_May b).bind fun y236 =>
    if (!y236) then
      some (.inl ())
    else
      if ((!(decide (a.Mode = 2))) && (decide (b.Mode = 2))) then
        some (.inl ())
      else
        if (decide (a = b)) then
          some (.inr (.inl ()))
        else
          some (.inr (.inr ()))).bind fun (y228 : (Unit) ⊕ (Unit) ⊕ (Unit)) =>
  match y228 with
  | (.inl v230) =>
    some false
  | (.inr (.inl v231)) =>
    some true
  | (.inr (.inr v232)) =>
    if (ltS a.Lo b.Lo || decide (a.Lo = b.Lo)) then
      if (decide (a.Hi = [])) then
        some true
      else
        if (!decide (b.Hi = [])) then
          some (ltS b.Hi a.Hi || decide (b.Hi = a.Hi))
        else
          some false
    else
      some false
def gm_span_Covers : Gm := ⟨tys, [], [], []⟩
theorem span_Covers_walk (a : Want) (b : Want) (r : Bool) (h : span_Covers a b = some r) : PureP Try.prog 73 [.agg [.v (.int .i64 a.Mode), .v (.string (bs a.Lo)), .v (.string (bs a.Hi))], .agg [.v (.int .i64 b.Mode), .v (.string (bs b.Lo)), .v (.string (bs b.Hi))]] (fun a => a = .v (.bool r)) := by
  unfold span_Covers at h
  refine pureW (G := gm_span_Covers) tyOk Try.func73 rfl (by kernel_rfl) (by simp [Try.f73]) ?_
  refine Tri.seqK ?_
  refine Tri.run (G := gm_span_Covers) tyOk mixed ?_
  conv => whnf
  refine Tri.seqK ?_
  refine Tri.block ?_
  refine Tri.seqK ?_
  refine Tri.block ?_
  refine Tri.seqK ?_
  replace h := bind_some h
  obtain ⟨y228, q229, h⟩ := h
  refine Tri.cut (fun ex S' => (∃ v230 : Unit, y228 = (.inl v230) ∧ ex = .normal ∧ Weak S' ⟨44, 0, ofRegs [], []⟩) ∨ (∃ v231 : Unit, y228 = (.inr (.inl v231)) ∧ ex = (.exit 3) ∧ Weak S' ⟨44, 0, ofRegs [], []⟩) ∨ (∃ v232 : Unit, y228 = (.inr (.inr v232)) ∧ ex = (.exit 0) ∧ Weak S' ⟨44, 0, ofRegs [(2, .ptr 0 0), (3, .ptr 1 0)], [.var 44 [.v (.int .i64 a.Mode), .v (.string (bs a.Lo)), .v (.string (bs a.Hi))], .var 44 [.v (.int .i64 b.Mode), .v (.string (bs b.Lo)), .v (.string (bs b.Hi))]]⟩)) ?_ ?_
  · refine Tri.block ?_
    refine Tri.block ?_
    refine Tri.seqK ?_
    refine Tri.seqK ?_
    refine Tri.seqK ?_
    refine Tri.run (G := gm_span_Covers) tyOk mixed ?_
    conv => whnf
    replace q229 := bind_some q229
    obtain ⟨y236, q237, q229⟩ := q229
    refine PureP.mono (span_May_walk b y236 q237) ?_
    rintro _ rfl
    conv => whnf
    refine Tri.cond rfl (fun c238 => ?_) (fun c238 => ?_)
    · replace q229 := if_t c238 q229
      refine Tri.run (G := gm_span_Covers) tyOk mixed ?_
      conv => whnf
      cases q229
      exact Or.inl ⟨_, rfl, rfl, weak_fin _ rfl rfl rfl (LeH.rest) (.nil) rfl rfl⟩
    · replace q229 := if_f c238 q229
      refine Tri.run (G := gm_span_Covers) tyOk mixed ?_
      conv => whnf
      refine Tri.seqK ?_
      refine Tri.seqK ?_
      refine Tri.cut (fun ex S' => ex = .normal ∧ Weak S' ⟨44, 0, ofRegs [(2, .ptr 0 0), (3, .ptr 1 0), (9, .v (.bool ((!(decide (a.Mode = 2))) && (decide (b.Mode = 2)))))], [.var 44 [.v (.int .i64 a.Mode), .v (.string (bs a.Lo)), .v (.string (bs a.Hi))], .var 44 [.v (.int .i64 b.Mode), .v (.string (bs b.Lo)), .v (.string (bs b.Hi))]]⟩) ?_ ?_
      · refine Tri.run (G := gm_span_Covers) tyOk mixed ?_
        conv => whnf
        refine cond_mk (fun c248 => ?_) (fun c248 => ?_)
        · replace c248 : (!(decide (a.Mode = 2))) = true := c248
          conv => whnf
          exact ⟨rfl, weak_fin _ rfl rfl rfl (.cons (.same rfl) (.cons (.same rfl) (LeH.rest))) (.cons (.one (.same rfl)) (.cons (.one (.same rfl)) (.cons (.one (.same (show (.v (.bool (decide (b.Mode = 2))) : AV) = (.v (.bool ((!(decide (a.Mode = 2))) && (decide (b.Mode = 2)))) : AV) from by first | (simp [c248]; done) | simp only [c248, Bool.or_true, Bool.true_or, Bool.false_or, Bool.or_false, Bool.and_true, Bool.true_and, Bool.and_false, Bool.false_and, Bool.not_true, Bool.not_false, if_true, if_false, Bool.false_eq_true]))) (.nil)))) rfl rfl⟩
        · replace c248 : (!(decide (a.Mode = 2))) = false := c248
          conv => whnf
          exact ⟨rfl, weak_fin _ rfl rfl rfl (.cons (.same rfl) (.cons (.same rfl) (LeH.rest))) (.cons (.one (.same rfl)) (.cons (.one (.same rfl)) (.cons (.one (.same (show (.v (.bool false) : AV) = (.v (.bool ((!(decide (a.Mode = 2))) && (decide (b.Mode = 2)))) : AV) from by first | (simp [c248]; done) | simp only [c248, Bool.or_true, Bool.true_or, Bool.false_or, Bool.or_false, Bool.and_true, Bool.true_and, Bool.and_false, Bool.false_and, Bool.not_true, Bool.not_false, if_true, if_false, Bool.false_eq_true]))) (.nil)))) rfl rfl⟩
      · rintro ex S' ⟨rfl, w249⟩
        conv => whnf
        refine Tri.weak w249 ?_
        refine Tri.cond rfl (fun c250 => ?_) (fun c250 => ?_)
        · replace q229 := if_t c250 q229
          refine Tri.run (G := gm_span_Covers) tyOk mixed ?_
          conv => whnf
          cases q229
          exact Or.inl ⟨_, rfl, rfl, weak_fin _ rfl rfl rfl (LeH.rest) (.nil) rfl rfl⟩
        · replace q229 := if_f c250 q229
          refine Tri.run (G := gm_span_Covers) tyOk mixed ?_
          conv => whnf
          refine Tri.seqK ?_
          refine Tri.run (G := gm_span_Covers) tyOk mixed ?_
          conv => whnf
          refine ⟨⟨(decide (a = b)), eq_Want _ _, ?_⟩⟩
          conv => whnf
          refine Tri.cond rfl (fun c251 => ?_) (fun c251 => ?_)
          · replace q229 := if_t c251 q229
            refine Tri.run (G := gm_span_Covers) tyOk mixed ?_
            conv => whnf
            cases q229
            exact Or.inr (Or.inl ⟨_, rfl, rfl, weak_fin _ rfl rfl rfl (LeH.rest) (.nil) rfl rfl⟩)
          · replace q229 := if_f c251 q229
            refine Tri.run (G := gm_span_Covers) tyOk mixed ?_
            conv => whnf
            refine Tri.run (G := gm_span_Covers) tyOk mixed ?_
            conv => whnf
            cases q229
            exact Or.inr (Or.inr (⟨_, rfl, rfl, weak_fin _ rfl rfl rfl (.cons (.same rfl) (.cons (.same rfl) (LeH.rest))) (.cons (.one (.same rfl)) (.cons (.one (.same rfl)) (.nil))) rfl rfl⟩))
  · rintro ex S' (⟨v230, rfl, rfl, w252⟩ | ⟨v231, rfl, rfl, w252⟩ | ⟨v232, rfl, rfl, w252⟩)
    · dsimp only at h
      conv => whnf
      refine Tri.weak w252 ?_
      refine Tri.seqK ?_
      refine Tri.seqK ?_
      refine Tri.run (G := gm_span_Covers) tyOk mixed ?_
      conv => whnf
      refine Tri.run (G := gm_span_Covers) tyOk mixed ?_
      conv => whnf
      refine fin_here ?_
      conv => whnf
      cases h
      rfl
    · dsimp only at h
      conv => whnf
      refine Tri.weak w252 ?_
      refine Tri.seqK ?_
      refine Tri.seqK ?_
      refine Tri.run (G := gm_span_Covers) tyOk mixed ?_
      conv => whnf
      refine Tri.run (G := gm_span_Covers) tyOk mixed ?_
      conv => whnf
      refine fin_here ?_
      conv => whnf
      cases h
      rfl
    · dsimp only at h
      conv => whnf
      refine Tri.weak w252 ?_
      refine Tri.seqK ?_
      refine Tri.run (G := gm_span_Covers) tyOk mixed ?_
      conv => whnf
      refine ⟨⟨(ltS a.Lo b.Lo || decide (a.Lo = b.Lo)), bs_le _ _, ?_⟩⟩
      conv => whnf
      refine cond_mk (fun c253 => ?_) (fun c253 => ?_)
      · replace h := if_t c253 h
        conv => whnf
        refine ⟨⟨(decide (a.Hi = [])), bs_eq _ _, ?_⟩⟩
        conv => whnf
        refine cond_mk (fun c254 => ?_) (fun c254 => ?_)
        · replace h := if_t c254 h
          conv => whnf
          refine Tri.run (G := gm_span_Covers) tyOk mixed ?_
          conv => whnf
          refine fin_here ?_
          conv => whnf
          cases h
          rfl
        · replace h := if_f c254 h
          conv => whnf
          refine ⟨⟨(!decide (b.Hi = [])), bs_ne _ _, ?_⟩⟩
          conv => whnf
          refine cond_mk (fun c255 => ?_) (fun c255 => ?_)
          · replace h := if_t c255 h
            conv => whnf
            refine ⟨⟨(ltS b.Hi a.Hi || decide (b.Hi = a.Hi)), bs_le _ _, ?_⟩⟩
            conv => whnf
            refine Tri.run (G := gm_span_Covers) tyOk mixed ?_
            conv => whnf
            refine fin_here ?_
            conv => whnf
            cases h
            rfl
          · replace h := if_f c255 h
            conv => whnf
            refine Tri.run (G := gm_span_Covers) tyOk mixed ?_
            conv => whnf
            refine fin_here ?_
            conv => whnf
            cases h
            rfl
      · replace h := if_f c253 h
        conv => whnf
        refine Tri.run (G := gm_span_Covers) tyOk mixed ?_
        conv => whnf
        refine fin_here ?_
        conv => whnf
        cases h
        rfl
noncomputable def lock_Ask_1 (h_ : Hold) (v : Int) (v2 : Want) : Option (Bool) :=
  if (decide (h_.Txn = v)) then
    (span_Covers h_.W v2).bind fun y5 =>
    some y5
  else
    some false
def gm_lock_Ask_1 : Gm := ⟨tys, [], [], []⟩
theorem lock_Ask_1_walk (h_ : Hold) (v : Int) (v2 : Want) (r : Bool) (h : lock_Ask_1 h_ v v2 = some r) : CallP Try.prog 72 [.var 3 [.v (.int .i64 v)], .var 44 [.v (.int .i64 v2.Mode), .v (.string (bs v2.Lo)), .v (.string (bs v2.Hi))]] [.agg [.v (.int .i64 h_.Txn), .v (.int .i64 h_.W.Mode), .v (.string (bs h_.W.Lo)), .v (.string (bs h_.W.Hi))], .ptr 0 0, .ptr 1 0] (fun a H' => a = .v (.bool r) ∧ H'.take ([.var 3 [.v (.int .i64 v)], .var 44 [.v (.int .i64 v2.Mode), .v (.string (bs v2.Lo)), .v (.string (bs v2.Hi))]] : List Ob).length = [.var 3 [.v (.int .i64 v)], .var 44 [.v (.int .i64 v2.Mode), .v (.string (bs v2.Lo)), .v (.string (bs v2.Hi))]]) := by
  unfold lock_Ask_1 at h
  refine callW (G := gm_lock_Ask_1) tyOk Try.func72 rfl (by kernel_rfl) (by simp [Try.f72]) ?_
  refine Tri.seqK ?_
  refine Tri.run (G := gm_lock_Ask_1) tyOk mixed ?_
  conv => whnf
  refine Tri.seqK ?_
  refine Tri.run (G := gm_lock_Ask_1) tyOk mixed ?_
  conv => whnf
  refine cond_mk (fun c4 => ?_) (fun c4 => ?_)
  · replace h := if_t c4 h
    conv => whnf
    replace h := bind_some h
    obtain ⟨y5, q6, h⟩ := h
    refine PureP.mono (span_Covers_walk h_.W v2 y5 q6) ?_
    rintro _ rfl
    conv => whnf
    refine Tri.run (G := gm_lock_Ask_1) tyOk mixed ?_
    conv => whnf
    refine fin_pre (S' := ⟨15, 2, ofRegs [(4, .v (.bool y5))], [.var 3 [.v (.int .i64 v)], .var 44 [.v (.int .i64 v2.Mode), .v (.string (bs v2.Lo)), .v (.string (bs v2.Hi))]]⟩) (weak_fin _ rfl rfl rfl (.cons (.same rfl) (.cons (.same rfl) (LeH.rest))) (.cons (.one (.same rfl)) (.nil)) rfl rfl) ?_
    conv => whnf
    cases h
    exact ⟨rfl, rfl⟩
  · replace h := if_f c4 h
    conv => whnf
    refine Tri.run (G := gm_lock_Ask_1) tyOk mixed ?_
    conv => whnf
    refine fin_pre (S' := ⟨15, 2, ofRegs [(4, .v (.bool false))], [.var 3 [.v (.int .i64 v)], .var 44 [.v (.int .i64 v2.Mode), .v (.string (bs v2.Lo)), .v (.string (bs v2.Hi))]]⟩) (weak_fin _ rfl rfl rfl (.cons (.same rfl) (.cons (.same rfl) (LeH.rest))) (.cons (.one (.same rfl)) (.nil)) rfl rfl) ?_
    conv => whnf
    cases h
    exact ⟨rfl, rfl⟩
noncomputable def slices_IndexFunc_Hold__lock_Ask_1_l4 (s : (List Hold)) (v : Int) (v2 : Want) (a164 : Int) : Option ((Int) ⊕ ((Int) ⊕ (Unit))) :=
  if (decide (a164 < (s.length : Int))) then
    (ix s a164).bind fun x179 =>
    (lock_Ask_1 x179 v v2).bind fun y181 =>
    if y181 then
      some (.inr (.inl a164))
    else
      some (.inl (IntKind.i64.wrap (a164 + 1)))
  else
    some (.inr (.inr ()))
noncomputable def slices_IndexFunc_Hold__lock_Ask_1 (s : (List Hold)) (v : Int) (v2 : Want) : Option (Int) :=
  (loop (fun (s169 : Int) => slices_IndexFunc_Hold__lock_Ask_1_l4 s v v2 s169) (0 : Int)).bind fun (y165 : (Int) ⊕ (Unit)) =>
  match y165 with
  | (.inl v167) =>
    some v167
  | (.inr v168) =>
    some (-1)
def gm_slices_IndexFunc_Hold__lock_Ask_1 : Gm := ⟨tys, [72], [], []⟩
theorem slices_IndexFunc_Hold__lock_Ask_1_walk (s : (List Hold)) (v : Int) (v2 : Want) (r : Int) (h : slices_IndexFunc_Hold__lock_Ask_1 s v v2 = some r) : CallP Try.prog 85 [.var 3 [.v (.int .i64 v)], .var 44 [.v (.int .i64 v2.Mode), .v (.string (bs v2.Lo)), .v (.string (bs v2.Hi))]] [.sl (List.map encHold s), .fn (.func 72) [] [.ptr 0 0, .ptr 1 0]] (fun a H' => a = .v (.int .i64 r) ∧ H'.take ([.var 3 [.v (.int .i64 v)], .var 44 [.v (.int .i64 v2.Mode), .v (.string (bs v2.Lo)), .v (.string (bs v2.Hi))]] : List Ob).length = [.var 3 [.v (.int .i64 v)], .var 44 [.v (.int .i64 v2.Mode), .v (.string (bs v2.Lo)), .v (.string (bs v2.Hi))]]) := by
  unfold slices_IndexFunc_Hold__lock_Ask_1 at h
  refine callW (G := gm_slices_IndexFunc_Hold__lock_Ask_1) tyOk Try.func85 rfl (by kernel_rfl) (by simp [Try.f85]) ?_
  refine Tri.seqK ?_
  refine Tri.run (G := gm_slices_IndexFunc_Hold__lock_Ask_1) tyOk mixed ?_
  conv => whnf
  refine Tri.seqK ?_
  refine Tri.seqK ?_
  refine Tri.run (G := gm_slices_IndexFunc_Hold__lock_Ask_1) tyOk mixed ?_
  conv => whnf
  refine ⟨⟨(s.length : Int), (len_map _ _).symm, ?_⟩⟩
  conv => whnf
  refine Tri.block ?_
  replace h := bind_some h
  obtain ⟨y165, q166, h⟩ := h
  refine Tri.cut (fun ex S' => (∃ v167 : Int, y165 = (.inl v167) ∧ ex = .ret ∧ Weak S' ⟨19, 2, ofRegs [(4, .v (.int .i64 v167))], [.var 3 [.v (.int .i64 v)], .var 44 [.v (.int .i64 v2.Mode), .v (.string (bs v2.Lo)), .v (.string (bs v2.Hi))]]⟩) ∨ (∃ v168 : Unit, y165 = (.inr v168) ∧ ex = (.exit 0) ∧ Weak S' ⟨19, 2, ofRegs [], [.var 3 [.v (.int .i64 v)], .var 44 [.v (.int .i64 v2.Mode), .v (.string (bs v2.Lo)), .v (.string (bs v2.Hi))]]⟩)) ?_ ?_
  · refine Tri.loopF (fun (s169 : Int) => (⟨19, 2, ofRegs [(0, .sl (List.map encHold s)), (1, .fn (.func 72) [] [.ptr 0 0, .ptr 1 0]), (7, .v (.int .i64 (s.length : Int))), (8, .v (.int .i64 s169))], [.var 3 [.v (.int .i64 v)], .var 44 [.v (.int .i64 v2.Mode), .v (.string (bs v2.Lo)), .v (.string (bs v2.Hi))]]⟩ : St)) q166 (weak_fin _ rfl rfl rfl (.cons (.same rfl) (.cons (.same rfl) (LeH.rest))) (.cons (.one (.same rfl)) (.cons (.one (.same rfl)) (.cons (.one (.same rfl)) (.cons (.one (.same rfl)) (.nil))))) rfl rfl) ?_
    rintro a164 v170 hv r171
    have hv : slices_IndexFunc_Hold__lock_Ask_1_l4 s v v2 a164 = some v170 := hv
    unfold slices_IndexFunc_Hold__lock_Ask_1_l4 at hv
    refine Tri.seqK ?_
    refine Tri.run (G := gm_slices_IndexFunc_Hold__lock_Ask_1) tyOk mixed ?_
    conv => whnf
    refine Tri.seqK ?_
    refine Tri.cond rfl (fun c173 => ?_) (fun c173 => ?_)
    · replace hv := if_t c173 hv
      refine Tri.run (G := gm_slices_IndexFunc_Hold__lock_Ask_1) tyOk mixed ?_
      conv => whnf
      refine Tri.seqK ?_
      refine Tri.block ?_
      refine Tri.seqK ?_
      refine Tri.run (G := gm_slices_IndexFunc_Hold__lock_Ask_1) tyOk mixed ?_
      conv => whnf
      refine Tri.seqK ?_
      refine Tri.run (G := gm_slices_IndexFunc_Hold__lock_Ask_1) tyOk mixed ?_
      conv => whnf
      replace hv := bind_some hv
      obtain ⟨x179, q180, hv⟩ := hv
      refine ⟨(ix_some q180).1, ?_⟩
      conv => whnf
      refine ⟨⟨_, map_get encHold (ix_some q180).2, ?_⟩⟩
      conv => whnf
      refine ⟨rfl, ?_⟩
      conv => whnf
      replace hv := bind_some hv
      obtain ⟨y181, q182, hv⟩ := hv
      refine CallP.use (lock_Ask_1_walk x179 v v2 y181 q182) [0, 1] rfl rfl rfl rfl rfl rfl rfl rfl rfl ?_
      conv => whnf
      refine Tri.cond rfl (fun c183 => ?_) (fun c183 => ?_)
      · replace hv := if_t c183 hv
        refine Tri.seqK ?_
        refine Tri.run (G := gm_slices_IndexFunc_Hold__lock_Ask_1) tyOk mixed ?_
        conv => whnf
        refine Tri.run (G := gm_slices_IndexFunc_Hold__lock_Ask_1) tyOk mixed ?_
        conv => whnf
        cases hv
        obtain rfl := r171 _ rfl
        exact Or.inl ⟨_, rfl, rfl, weak_fin _ rfl rfl rfl (.cons (.same rfl) (.cons (.same rfl) (LeH.rest))) (.cons (.one (.same rfl)) (.nil)) rfl rfl⟩
      · replace hv := if_f c183 hv
        refine Tri.run (G := gm_slices_IndexFunc_Hold__lock_Ask_1) tyOk mixed ?_
        conv => whnf
        refine Tri.run (G := gm_slices_IndexFunc_Hold__lock_Ask_1) tyOk mixed ?_
        conv => whnf
        cases hv
        exact ⟨_, rfl, weak_fin _ rfl rfl rfl (.cons (.same rfl) (.cons (.same rfl) (LeH.rest))) (.cons (.one (.same rfl)) (.cons (.one (.same rfl)) (.cons (.one (.same rfl)) (.cons (.one (.same rfl)) (.nil))))) rfl rfl⟩
    · replace hv := if_f c173 hv
      refine Tri.run (G := gm_slices_IndexFunc_Hold__lock_Ask_1) tyOk mixed ?_
      conv => whnf
      cases hv
      obtain rfl := r171 _ rfl
      exact Or.inr (⟨_, rfl, rfl, weak_fin _ rfl rfl rfl (.cons (.same rfl) (.cons (.same rfl) (LeH.rest))) (.nil) rfl rfl⟩)
  · rintro ex S' (⟨v167, rfl, rfl, w184⟩ | ⟨v168, rfl, rfl, w184⟩)
    · dsimp only at h
      conv => whnf
      refine fin_pre (S' := ⟨19, 2, ofRegs [(4, .v (.int .i64 v167))], [.var 3 [.v (.int .i64 v)], .var 44 [.v (.int .i64 v2.Mode), .v (.string (bs v2.Lo)), .v (.string (bs v2.Hi))]]⟩) (Weak.trans w184 (weak_fin _ rfl rfl rfl (.cons (.same rfl) (.cons (.same rfl) (LeH.rest))) (.cons (.one (.same rfl)) (.nil)) rfl rfl)) ?_
      conv => whnf
      cases h
      exact ⟨rfl, rfl⟩
    · dsimp only at h
      conv => whnf
      refine Tri.weak w184 ?_
      refine Tri.seqK ?_
      refine Tri.run (G := gm_slices_IndexFunc_Hold__lock_Ask_1) tyOk mixed ?_
      conv => whnf
      refine Tri.run (G := gm_slices_IndexFunc_Hold__lock_Ask_1) tyOk mixed ?_
      conv => whnf
      refine fin_pre (S' := ⟨19, 2, ofRegs [(4, .v (.int .i64 (-1)))], [.var 3 [.v (.int .i64 v)], .var 44 [.v (.int .i64 v2.Mode), .v (.string (bs v2.Lo)), .v (.string (bs v2.Hi))]]⟩) (weak_fin _ rfl rfl rfl (.cons (.same rfl) (.cons (.same rfl) (LeH.rest))) (.cons (.one (.same rfl)) (.nil)) rfl rfl) ?_
      conv => whnf
      cases h
      exact ⟨rfl, rfl⟩
noncomputable def slices_ContainsFunc_Hold__lock_Ask_1 (s : (List Hold)) (v : Int) (v2 : Want) : Option (Bool) :=
  (slices_IndexFunc_Hold__lock_Ask_1 s v v2).bind fun y3 =>
  some (decide (y3 ≥ 0))
def gm_slices_ContainsFunc_Hold__lock_Ask_1 : Gm := ⟨tys, [85], [], []⟩
theorem slices_ContainsFunc_Hold__lock_Ask_1_walk (s : (List Hold)) (v : Int) (v2 : Want) (r : Bool) (h : slices_ContainsFunc_Hold__lock_Ask_1 s v v2 = some r) : CallP Try.prog 75 [.var 3 [.v (.int .i64 v)], .var 44 [.v (.int .i64 v2.Mode), .v (.string (bs v2.Lo)), .v (.string (bs v2.Hi))]] [.sl (List.map encHold s), .fn (.func 72) [] [.ptr 0 0, .ptr 1 0]] (fun a H' => a = .v (.bool r) ∧ H'.take ([.var 3 [.v (.int .i64 v)], .var 44 [.v (.int .i64 v2.Mode), .v (.string (bs v2.Lo)), .v (.string (bs v2.Hi))]] : List Ob).length = [.var 3 [.v (.int .i64 v)], .var 44 [.v (.int .i64 v2.Mode), .v (.string (bs v2.Lo)), .v (.string (bs v2.Hi))]]) := by
  unfold slices_ContainsFunc_Hold__lock_Ask_1 at h
  refine callW (G := gm_slices_ContainsFunc_Hold__lock_Ask_1) tyOk Try.func75 rfl (by kernel_rfl) (by simp [Try.f75]) ?_
  refine Tri.seqK ?_
  refine Tri.run (G := gm_slices_ContainsFunc_Hold__lock_Ask_1) tyOk mixed ?_
  conv => whnf
  refine Tri.seqK ?_
  refine Tri.run (G := gm_slices_ContainsFunc_Hold__lock_Ask_1) tyOk mixed ?_
  conv => whnf
  replace h := bind_some h
  obtain ⟨y3, q4, h⟩ := h
  refine CallP.use (slices_IndexFunc_Hold__lock_Ask_1_walk s v v2 y3 q4) [0, 1] rfl rfl rfl rfl rfl rfl rfl rfl rfl ?_
  conv => whnf
  refine Tri.run (G := gm_slices_ContainsFunc_Hold__lock_Ask_1) tyOk mixed ?_
  conv => whnf
  refine fin_pre (S' := ⟨9, 2, ofRegs [(4, .v (.bool (decide (y3 ≥ 0))))], [.var 3 [.v (.int .i64 v)], .var 44 [.v (.int .i64 v2.Mode), .v (.string (bs v2.Lo)), .v (.string (bs v2.Hi))]]⟩) (weak_fin _ rfl rfl rfl (.cons (.same rfl) (.cons (.same rfl) (LeH.rest))) (.cons (.one (.same rfl)) (.nil)) rfl rfl) ?_
  conv => whnf
  cases h
  exact ⟨rfl, rfl⟩
noncomputable def lock_Ask (l : Locks) (txn : Int) (w : Want) (until_ : Int) : Option (Locks × Int) :=
  (
    if (decide (txn < 1)) then
      some true
    else
      (span_May w).bind fun y43 =>
      some (!y43)).bind fun (y40 : Bool) =>
  if y40 then
    some (l, 1)
  else
    (lock_Waits l txn).bind fun y47 =>
    if y47 then
      some (l, 8)
    else
      (slices_ContainsFunc_Hold__lock_Ask_1 l.Held txn w).bind fun y50 =>
      if y50 then
        some (l, 0)
      else
        (lock_Blockers l txn w (l.Queue.length : Int)).bind fun y53 =>
        if (decide ((y53.length : Int) = 0)) then
          need (l.Held.length * 48 ≤ 140737488355328) <|
          need ((l.Held.length + 1) * 48 ≤ 140737488355328) <|
          some (({ Held := (l.Held ++ [({ Txn := txn, W := w } : Hold)]), Queue := l.Queue } : Locks), 0)
        else
          if (decide ((l.Queue.length : Int) ≥ 16)) then
            some (l, 11)
          else
            need (l.Queue.length * 56 ≤ 140737488355328) <|
            need ((l.Queue.length + 1) * 56 ≤ 140737488355328) <|
            some (({ Held := l.Held, Queue := (l.Queue ++ [({ Txn := txn, W := w, Until := until_ } : Claim)]) } : Locks), 12)
def gm_lock_Ask : Gm := ⟨tys, [75], [(60, 46, 4), (59, 51, 5)], []⟩
theorem lock_Ask_walk (l : Locks) (txn : Int) (w : Want) (until_ : Int) (r : Locks × Int) (h : lock_Ask l txn w until_ = some r) : PureP Try.prog 39 [.agg [.sl (List.map encHold l.Held), .sl (List.map encClaim l.Queue)], .v (.int .i64 txn), .agg [.v (.int .i64 w.Mode), .v (.string (bs w.Lo)), .v (.string (bs w.Hi))], .v (.int .u64 until_)] (fun a => a = .tup [.agg [.sl (List.map encHold r.1.Held), .sl (List.map encClaim r.1.Queue)], .v (.int .i64 r.2)]) := by
  unfold lock_Ask at h
  refine pureW (G := gm_lock_Ask) tyOk Try.func39 rfl (by kernel_rfl) (by simp [Try.f39]) ?_
  refine Tri.seqK ?_
  refine Tri.run (G := gm_lock_Ask) tyOk mixed ?_
  conv => whnf
  refine Tri.seqK ?_
  refine Tri.run (G := gm_lock_Ask) tyOk mixed ?_
  conv => whnf
  refine Tri.seqK ?_
  refine Tri.block ?_
  refine Tri.seqK ?_
  replace h := bind_some h
  obtain ⟨y40, q41, h⟩ := h
  refine Tri.cut (fun ex S' => ex = .normal ∧ Weak S' ⟨69, 0, ofRegs [(3, .v (.int .u64 until_)), (4, .ptr 0 0), (5, .ptr 1 0), (6, .ptr 2 0), (8, .ptr 3 0), (10, .fn (.func 72) [] [.ptr 1 0, .ptr 2 0]), (12, .v (.bool y40))], [.var 25 [.sl (List.map encHold l.Held), .sl (List.map encClaim l.Queue)], .var 3 [.v (.int .i64 txn)], .var 44 [.v (.int .i64 w.Mode), .v (.string (bs w.Lo)), .v (.string (bs w.Hi))], .var 25 [.v (.slice none 0 0), .v (.slice none 0 0)]]⟩) ?_ ?_
  · refine Tri.run (G := gm_lock_Ask) tyOk mixed ?_
    conv => whnf
    refine cond_mk (fun c42 => ?_) (fun c42 => ?_)
    · replace q41 := if_t c42 q41
      conv => whnf
      cases q41
      exact ⟨rfl, weak_fin _ rfl rfl rfl (.cons (.same rfl) (.cons (.same rfl) (.cons (.same rfl) (.cons (.same rfl) (LeH.rest))))) (.cons (.one (.same rfl)) (.cons (.one (.same rfl)) (.cons (.one (.same rfl)) (.cons (.one (.same rfl)) (.cons (.one (.same rfl)) (.cons (.one (.same rfl)) (.cons (.one (.same rfl)) (.nil)))))))) rfl rfl⟩
    · replace q41 := if_f c42 q41
      conv => whnf
      replace q41 := bind_some q41
      obtain ⟨y43, q44, q41⟩ := q41
      refine PureP.mono (span_May_walk w y43 q44) ?_
      rintro _ rfl
      conv => whnf
      cases q41
      exact ⟨rfl, weak_fin _ rfl rfl rfl (.cons (.same rfl) (.cons (.same rfl) (.cons (.same rfl) (.cons (.same rfl) (LeH.rest))))) (.cons (.one (.same rfl)) (.cons (.one (.same rfl)) (.cons (.one (.same rfl)) (.cons (.one (.same rfl)) (.cons (.one (.same rfl)) (.cons (.one (.same rfl)) (.cons (.one (.same rfl)) (.nil)))))))) rfl rfl⟩
  · rintro ex S' ⟨rfl, w45⟩
    conv => whnf
    refine Tri.weak w45 ?_
    refine Tri.cond rfl (fun c46 => ?_) (fun c46 => ?_)
    · replace h := if_t c46 h
      refine Tri.seqK ?_
      refine Tri.run (G := gm_lock_Ask) tyOk mixed ?_
      conv => whnf
      refine Tri.run (G := gm_lock_Ask) tyOk mixed ?_
      conv => whnf
      refine fin_here ?_
      conv => whnf
      cases h
      rfl
    · replace h := if_f c46 h
      refine Tri.seqK ?_
      refine Tri.run (G := gm_lock_Ask) tyOk mixed ?_
      conv => whnf
      replace h := bind_some h
      obtain ⟨y47, q48, h⟩ := h
      refine PureP.mono (lock_Waits_walk l txn y47 q48) ?_
      rintro _ rfl
      conv => whnf
      refine Tri.cond rfl (fun c49 => ?_) (fun c49 => ?_)
      · replace h := if_t c49 h
        refine Tri.seqK ?_
        refine Tri.run (G := gm_lock_Ask) tyOk mixed ?_
        conv => whnf
        refine Tri.run (G := gm_lock_Ask) tyOk mixed ?_
        conv => whnf
        refine fin_here ?_
        conv => whnf
        cases h
        rfl
      · replace h := if_f c49 h
        refine Tri.seqK ?_
        refine Tri.run (G := gm_lock_Ask) tyOk mixed ?_
        conv => whnf
        replace h := bind_some h
        obtain ⟨y50, q51, h⟩ := h
        refine CallP.use (slices_ContainsFunc_Hold__lock_Ask_1_walk l.Held txn w y50 q51) [1, 2] rfl rfl rfl rfl rfl rfl rfl rfl rfl ?_
        conv => whnf
        refine Tri.cond rfl (fun c52 => ?_) (fun c52 => ?_)
        · replace h := if_t c52 h
          refine Tri.seqK ?_
          refine Tri.run (G := gm_lock_Ask) tyOk mixed ?_
          conv => whnf
          refine Tri.run (G := gm_lock_Ask) tyOk mixed ?_
          conv => whnf
          refine fin_here ?_
          conv => whnf
          cases h
          rfl
        · replace h := if_f c52 h
          refine Tri.seqK ?_
          refine Tri.run (G := gm_lock_Ask) tyOk mixed ?_
          conv => whnf
          refine ⟨⟨(l.Queue.length : Int), (len_map _ _).symm, ?_⟩⟩
          conv => whnf
          replace h := bind_some h
          obtain ⟨y53, q54, h⟩ := h
          refine PureP.mono (lock_Blockers_walk l txn w (l.Queue.length : Int) y53 q54) ?_
          rintro _ rfl
          conv => whnf
          refine ⟨⟨(y53.length : Int), (len_map _ _).symm, ?_⟩⟩
          conv => whnf
          refine Tri.cond rfl (fun c55 => ?_) (fun c55 => ?_)
          · replace h := if_t c55 h
            refine Tri.seqK ?_
            refine Tri.run (G := gm_lock_Ask) tyOk mixed ?_
            conv => whnf
            replace h := need_some h
            obtain ⟨p64, h⟩ := h
            replace h := need_some h
            obtain ⟨p65, h⟩ := h
            refine Draw.many 9 (.take 0 (.take 1 (.take 3 (.take 4 (.take 5 (.alt 2 (.alt 6 (.alt 7 (.take 8 (.fin)) (.nil)) (.nil)) (.alt 6 (.alt 2 (.alt 7 (.take 8 (.fin)) (.nil)) (.nil)) (.nil)))))))) [] (⟨69, 0, ofRegs [(4, .ptr 0 0), (8, .ptr 3 0), (49, .sl (List.map encHold (l.Held ++ [({ Txn := txn, W := w } : Hold)]))), (50, .ptr 0 0)], [.var 25 [.sl (List.map encHold l.Held), .sl (List.map encClaim l.Queue)], .var 3 [.v (.int .i64 txn)], .var 44 [.v (.int .i64 w.Mode), .v (.string (bs w.Lo)), .v (.string (bs w.Hi))], .var 25 [.v (.slice none 0 0), .v (.slice none 0 0)]]⟩) (by kernel_rfl) ?_ ?_
            · conv => whnf
              refine ⟨?_, ?_⟩
              · conv => whnf
                refine FreshP.mono (clone_60 l.Held p64) ?_
                rintro _ rfl
                conv => whnf
                refine ⟨?_, ?_⟩
                · conv => whnf
                  refine ⟨⟨List.map encHold [({ Txn := txn, W := w } : Hold)], rfl, ?_⟩⟩
                  conv => whnf
                  refine ⟨?_, ?_⟩
                  · conv => whnf
                    refine ⟨rfl, ?_⟩
                    conv => whnf
                    refine ⟨rfl, ?_⟩
                    conv => whnf
                    refine ⟨by simp only [List.length_map]; exact p65, ?_⟩
                    conv => whnf
                    refine ⟨⟨List.map encHold (l.Held ++ [({ Txn := txn, W := w } : Hold)]), map_app encHold _ _ rfl rfl, ?_⟩⟩
                    conv => whnf
                    exact Weak.trans (weak_freeze 4 rfl) (weak_fin _ rfl rfl rfl (.cons (.same rfl) (.cons (.same rfl) (.cons (.same rfl) (.cons (.same rfl) (LeH.rest))))) (.cons (.one (.same rfl)) (.cons (.one (.same rfl)) (.cons (.one (.frz rfl (rfl))) (.cons (.one (.same rfl)) (.nil))))) rfl rfl)
                  · conv => whnf
                    trivial
                · conv => whnf
                  trivial
              · conv => whnf
                refine ⟨?_, ?_⟩
                · conv => whnf
                  refine ⟨⟨List.map encHold [({ Txn := txn, W := w } : Hold)], rfl, ?_⟩⟩
                  conv => whnf
                  refine ⟨?_, ?_⟩
                  · conv => whnf
                    refine FreshP.mono (clone_60 l.Held p64) ?_
                    rintro _ rfl
                    conv => whnf
                    refine ⟨?_, ?_⟩
                    · conv => whnf
                      refine ⟨rfl, ?_⟩
                      conv => whnf
                      refine ⟨rfl, ?_⟩
                      conv => whnf
                      refine ⟨by simp only [List.length_map]; exact p65, ?_⟩
                      conv => whnf
                      refine ⟨⟨List.map encHold (l.Held ++ [({ Txn := txn, W := w } : Hold)]), map_app encHold _ _ rfl rfl, ?_⟩⟩
                      conv => whnf
                      exact Weak.trans (weak_freeze 5 rfl) (weak_fin _ rfl rfl rfl (.cons (.same rfl) (.cons (.same rfl) (.cons (.same rfl) (.cons (.same rfl) (LeH.rest))))) (.cons (.one (.same rfl)) (.cons (.one (.same rfl)) (.cons (.one (.frz rfl (rfl))) (.cons (.one (.same rfl)) (.nil))))) rfl rfl)
                    · conv => whnf
                      trivial
                  · conv => whnf
                    trivial
                · conv => whnf
                  trivial
            · conv => whnf
              refine Tri.seqK ?_
              refine Tri.run (G := gm_lock_Ask) tyOk mixed ?_
              conv => whnf
              refine Tri.run (G := gm_lock_Ask) tyOk mixed ?_
              conv => whnf
              refine fin_here ?_
              conv => whnf
              cases h
              rfl
          · replace h := if_f c55 h
            refine Tri.seqK ?_
            refine Tri.run (G := gm_lock_Ask) tyOk mixed ?_
            conv => whnf
            refine ⟨⟨(l.Queue.length : Int), (len_map _ _).symm, ?_⟩⟩
            conv => whnf
            refine Tri.cond rfl (fun c66 => ?_) (fun c66 => ?_)
            · replace h := if_t c66 h
              refine Tri.seqK ?_
              refine Tri.run (G := gm_lock_Ask) tyOk mixed ?_
              conv => whnf
              refine Tri.run (G := gm_lock_Ask) tyOk mixed ?_
              conv => whnf
              refine fin_here ?_
              conv => whnf
              cases h
              rfl
            · replace h := if_f c66 h
              refine Tri.run (G := gm_lock_Ask) tyOk mixed ?_
              conv => whnf
              refine Tri.seqK ?_
              refine Tri.run (G := gm_lock_Ask) tyOk mixed ?_
              conv => whnf
              replace h := need_some h
              obtain ⟨p75, h⟩ := h
              replace h := need_some h
              obtain ⟨p76, h⟩ := h
              refine Draw.many 10 (.take 0 (.take 1 (.take 3 (.take 4 (.take 5 (.take 6 (.alt 2 (.alt 7 (.alt 8 (.take 9 (.fin)) (.nil)) (.nil)) (.alt 7 (.alt 2 (.alt 8 (.take 9 (.fin)) (.nil)) (.nil)) (.nil))))))))) [] (⟨69, 0, ofRegs [(4, .ptr 0 0), (8, .ptr 3 0), (66, .sl (List.map encClaim (l.Queue ++ [({ Txn := txn, W := w, Until := until_ } : Claim)]))), (67, .ptr 0 1)], [.var 25 [.sl (List.map encHold l.Held), .sl (List.map encClaim l.Queue)], .var 3 [.v (.int .i64 txn)], .var 44 [.v (.int .i64 w.Mode), .v (.string (bs w.Lo)), .v (.string (bs w.Hi))], .var 25 [.v (.slice none 0 0), .v (.slice none 0 0)]]⟩) (by kernel_rfl) ?_ ?_
              · conv => whnf
                refine ⟨?_, ?_⟩
                · conv => whnf
                  refine FreshP.mono (clone_59 l.Queue p75) ?_
                  rintro _ rfl
                  conv => whnf
                  refine ⟨?_, ?_⟩
                  · conv => whnf
                    refine ⟨⟨List.map encClaim [({ Txn := txn, W := w, Until := until_ } : Claim)], rfl, ?_⟩⟩
                    conv => whnf
                    refine ⟨?_, ?_⟩
                    · conv => whnf
                      refine ⟨rfl, ?_⟩
                      conv => whnf
                      refine ⟨rfl, ?_⟩
                      conv => whnf
                      refine ⟨by simp only [List.length_map]; exact p76, ?_⟩
                      conv => whnf
                      refine ⟨⟨List.map encClaim (l.Queue ++ [({ Txn := txn, W := w, Until := until_ } : Claim)]), map_app encClaim _ _ rfl rfl, ?_⟩⟩
                      conv => whnf
                      exact Weak.trans (weak_freeze 4 rfl) (weak_fin _ rfl rfl rfl (.cons (.same rfl) (.cons (.same rfl) (.cons (.same rfl) (.cons (.same rfl) (LeH.rest))))) (.cons (.one (.same rfl)) (.cons (.one (.same rfl)) (.cons (.one (.frz rfl (rfl))) (.cons (.one (.same rfl)) (.nil))))) rfl rfl)
                    · conv => whnf
                      trivial
                  · conv => whnf
                    trivial
                · conv => whnf
                  refine ⟨?_, ?_⟩
                  · conv => whnf
                    refine ⟨⟨List.map encClaim [({ Txn := txn, W := w, Until := until_ } : Claim)], rfl, ?_⟩⟩
                    conv => whnf
                    refine ⟨?_, ?_⟩
                    · conv => whnf
                      refine FreshP.mono (clone_59 l.Queue p75) ?_
                      rintro _ rfl
                      conv => whnf
                      refine ⟨?_, ?_⟩
                      · conv => whnf
                        refine ⟨rfl, ?_⟩
                        conv => whnf
                        refine ⟨rfl, ?_⟩
                        conv => whnf
                        refine ⟨by simp only [List.length_map]; exact p76, ?_⟩
                        conv => whnf
                        refine ⟨⟨List.map encClaim (l.Queue ++ [({ Txn := txn, W := w, Until := until_ } : Claim)]), map_app encClaim _ _ rfl rfl, ?_⟩⟩
                        conv => whnf
                        exact Weak.trans (weak_freeze 5 rfl) (weak_fin _ rfl rfl rfl (.cons (.same rfl) (.cons (.same rfl) (.cons (.same rfl) (.cons (.same rfl) (LeH.rest))))) (.cons (.one (.same rfl)) (.cons (.one (.same rfl)) (.cons (.one (.frz rfl (rfl))) (.cons (.one (.same rfl)) (.nil))))) rfl rfl)
                      · conv => whnf
                        trivial
                    · conv => whnf
                      trivial
                  · conv => whnf
                    trivial
              · conv => whnf
                refine Tri.seqK ?_
                refine Tri.run (G := gm_lock_Ask) tyOk mixed ?_
                conv => whnf
                refine Tri.run (G := gm_lock_Ask) tyOk mixed ?_
                conv => whnf
                refine fin_here ?_
                conv => whnf
                cases h
                rfl
noncomputable def lock_Free_1 (h_ : Hold) (v : Int) : Option (Bool) :=
  some (decide (h_.Txn = v))
def gm_lock_Free_1 : Gm := ⟨tys, [], [], []⟩
theorem lock_Free_1_walk (h_ : Hold) (v : Int) (r : Bool) (h : lock_Free_1 h_ v = some r) : CallP Try.prog 62 [.var 3 [.v (.int .i64 v)]] [.agg [.v (.int .i64 h_.Txn), .v (.int .i64 h_.W.Mode), .v (.string (bs h_.W.Lo)), .v (.string (bs h_.W.Hi))], .ptr 0 0] (fun a H' => a = .v (.bool r) ∧ H'.take ([.var 3 [.v (.int .i64 v)]] : List Ob).length = [.var 3 [.v (.int .i64 v)]]) := by
  unfold lock_Free_1 at h
  refine callW (G := gm_lock_Free_1) tyOk Try.func62 rfl (by kernel_rfl) (by simp [Try.f62]) ?_
  refine Tri.seqK ?_
  refine Tri.run (G := gm_lock_Free_1) tyOk mixed ?_
  conv => whnf
  refine Tri.seqK ?_
  refine Tri.run (G := gm_lock_Free_1) tyOk mixed ?_
  conv => whnf
  refine Tri.run (G := gm_lock_Free_1) tyOk mixed ?_
  conv => whnf
  refine fin_pre (S' := ⟨8, 1, ofRegs [(3, .v (.bool (decide (h_.Txn = v))))], [.var 3 [.v (.int .i64 v)]]⟩) (weak_fin _ rfl rfl rfl (.cons (.same rfl) (LeH.rest)) (.cons (.one (.same rfl)) (.nil)) rfl rfl) ?_
  conv => whnf
  cases h
  exact ⟨rfl, rfl⟩
noncomputable def slices_IndexFunc_Hold__lock_Free_1_l4 (l : (List Hold)) (v : Int) (a164 : Int) : Option ((Int) ⊕ ((Int) ⊕ (Unit))) :=
  if (decide (a164 < (l.length : Int))) then
    (ix l a164).bind fun x179 =>
    (lock_Free_1 x179 v).bind fun y181 =>
    if y181 then
      some (.inr (.inl a164))
    else
      some (.inl (IntKind.i64.wrap (a164 + 1)))
  else
    some (.inr (.inr ()))
noncomputable def slices_IndexFunc_Hold__lock_Free_1 (l : (List Hold)) (v : Int) : Option (Int) :=
  (loop (fun (s169 : Int) => slices_IndexFunc_Hold__lock_Free_1_l4 l v s169) (0 : Int)).bind fun (y165 : (Int) ⊕ (Unit)) =>
  match y165 with
  | (.inl v167) =>
    some v167
  | (.inr v168) =>
    some (-1)
def gm_slices_IndexFunc_Hold__lock_Free_1 : Gm := ⟨tys, [62], [], []⟩
theorem slices_IndexFunc_Hold__lock_Free_1_walk (l : (List Hold)) (v : Int) (r : Int) (h : slices_IndexFunc_Hold__lock_Free_1 l v = some r) : CallP Try.prog 85 [.row 46 4 (List.map encHold l), .var 3 [.v (.int .i64 v)]] [.row 0 ((List.map encHold l).length), .fn (.func 62) [] [.ptr 1 0]] (fun a H' => a = .v (.int .i64 r) ∧ H'.take ([.row 46 4 (List.map encHold l), .var 3 [.v (.int .i64 v)]] : List Ob).length = [.row 46 4 (List.map encHold l), .var 3 [.v (.int .i64 v)]]) := by
  unfold slices_IndexFunc_Hold__lock_Free_1 at h
  refine callW (G := gm_slices_IndexFunc_Hold__lock_Free_1) tyOk Try.func85 rfl (by kernel_rfl) (by simp [Try.f85]) ?_
  refine Tri.seqK ?_
  refine Tri.run (G := gm_slices_IndexFunc_Hold__lock_Free_1) tyOk mixed ?_
  conv => whnf
  refine Tri.seqK ?_
  refine Tri.seqK ?_
  refine Tri.run (G := gm_slices_IndexFunc_Hold__lock_Free_1) tyOk mixed ?_
  conv => whnf
  refine ⟨rfl, ?_⟩
  conv => whnf
  refine ⟨⟨(l.length : Int), by simp, ?_⟩⟩
  conv => whnf
  refine Tri.block ?_
  replace h := bind_some h
  obtain ⟨y165, q166, h⟩ := h
  refine Tri.cut (fun ex S' => (∃ v167 : Int, y165 = (.inl v167) ∧ ex = .ret ∧ Weak S' ⟨19, 2, ofRegs [(4, .v (.int .i64 v167))], [.row 46 4 (List.map encHold l), .var 3 [.v (.int .i64 v)]]⟩) ∨ (∃ v168 : Unit, y165 = (.inr v168) ∧ ex = (.exit 0) ∧ Weak S' ⟨19, 2, ofRegs [], [.row 46 4 (List.map encHold l), .var 3 [.v (.int .i64 v)]]⟩)) ?_ ?_
  · refine Tri.loopF (fun (s169 : Int) => (⟨19, 2, ofRegs [(0, .row 0 ((List.map encHold l).length)), (1, .fn (.func 62) [] [.ptr 1 0]), (7, .v (.int .i64 (l.length : Int))), (8, .v (.int .i64 s169))], [.row 46 4 (List.map encHold l), .var 3 [.v (.int .i64 v)]]⟩ : St)) q166 (weak_fin _ rfl rfl rfl (.cons (.same rfl) (.cons (.same rfl) (LeH.rest))) (.cons (.one (.same rfl)) (.cons (.one (.same rfl)) (.cons (.one (.same rfl)) (.cons (.one (.same rfl)) (.nil))))) rfl rfl) ?_
    rintro a164 v170 hv r171
    have hv : slices_IndexFunc_Hold__lock_Free_1_l4 l v a164 = some v170 := hv
    unfold slices_IndexFunc_Hold__lock_Free_1_l4 at hv
    refine Tri.seqK ?_
    refine Tri.run (G := gm_slices_IndexFunc_Hold__lock_Free_1) tyOk mixed ?_
    conv => whnf
    refine Tri.seqK ?_
    refine Tri.cond rfl (fun c173 => ?_) (fun c173 => ?_)
    · replace hv := if_t c173 hv
      refine Tri.run (G := gm_slices_IndexFunc_Hold__lock_Free_1) tyOk mixed ?_
      conv => whnf
      refine Tri.seqK ?_
      refine Tri.block ?_
      refine Tri.seqK ?_
      refine Tri.run (G := gm_slices_IndexFunc_Hold__lock_Free_1) tyOk mixed ?_
      conv => whnf
      refine Tri.seqK ?_
      refine Tri.run (G := gm_slices_IndexFunc_Hold__lock_Free_1) tyOk mixed ?_
      conv => whnf
      replace hv := bind_some hv
      obtain ⟨x179, q180, hv⟩ := hv
      refine ⟨⟨rfl, (ix_lt q180).1, by have := ix_lt q180; simp only [List.length_map, List.length_set, List.length_cons, List.length_nil] at *; omega⟩, ?_⟩
      conv => whnf
      refine ⟨rfl, ?_⟩
      conv => whnf
      refine ⟨⟨_, map_get encHold (ix_some q180).2, ?_⟩⟩
      conv => whnf
      replace hv := bind_some hv
      obtain ⟨y181, q182, hv⟩ := hv
      refine CallP.use (lock_Free_1_walk x179 v y181 q182) [1] rfl rfl rfl rfl rfl rfl rfl rfl rfl ?_
      conv => whnf
      refine Tri.cond rfl (fun c183 => ?_) (fun c183 => ?_)
      · replace hv := if_t c183 hv
        refine Tri.seqK ?_
        refine Tri.run (G := gm_slices_IndexFunc_Hold__lock_Free_1) tyOk mixed ?_
        conv => whnf
        refine Tri.run (G := gm_slices_IndexFunc_Hold__lock_Free_1) tyOk mixed ?_
        conv => whnf
        cases hv
        obtain rfl := r171 _ rfl
        exact Or.inl ⟨_, rfl, rfl, weak_fin _ rfl rfl rfl (.cons (.same rfl) (.cons (.same rfl) (LeH.rest))) (.cons (.one (.same rfl)) (.nil)) rfl rfl⟩
      · replace hv := if_f c183 hv
        refine Tri.run (G := gm_slices_IndexFunc_Hold__lock_Free_1) tyOk mixed ?_
        conv => whnf
        refine Tri.run (G := gm_slices_IndexFunc_Hold__lock_Free_1) tyOk mixed ?_
        conv => whnf
        cases hv
        exact ⟨_, rfl, weak_fin _ rfl rfl rfl (.cons (.same rfl) (.cons (.same rfl) (LeH.rest))) (.cons (.one (.same rfl)) (.cons (.one (.same rfl)) (.cons (.one (.same rfl)) (.cons (.one (.same rfl)) (.nil))))) rfl rfl⟩
    · replace hv := if_f c173 hv
      refine Tri.run (G := gm_slices_IndexFunc_Hold__lock_Free_1) tyOk mixed ?_
      conv => whnf
      cases hv
      obtain rfl := r171 _ rfl
      exact Or.inr (⟨_, rfl, rfl, weak_fin _ rfl rfl rfl (.cons (.same rfl) (.cons (.same rfl) (LeH.rest))) (.nil) rfl rfl⟩)
  · rintro ex S' (⟨v167, rfl, rfl, w184⟩ | ⟨v168, rfl, rfl, w184⟩)
    · dsimp only at h
      conv => whnf
      refine fin_pre (S' := ⟨19, 2, ofRegs [(4, .v (.int .i64 v167))], [.row 46 4 (List.map encHold l), .var 3 [.v (.int .i64 v)]]⟩) (Weak.trans w184 (weak_fin _ rfl rfl rfl (.cons (.same rfl) (.cons (.same rfl) (LeH.rest))) (.cons (.one (.same rfl)) (.nil)) rfl rfl)) ?_
      conv => whnf
      cases h
      exact ⟨rfl, rfl⟩
    · dsimp only at h
      conv => whnf
      refine Tri.weak w184 ?_
      refine Tri.seqK ?_
      refine Tri.run (G := gm_slices_IndexFunc_Hold__lock_Free_1) tyOk mixed ?_
      conv => whnf
      refine Tri.run (G := gm_slices_IndexFunc_Hold__lock_Free_1) tyOk mixed ?_
      conv => whnf
      refine fin_pre (S' := ⟨19, 2, ofRegs [(4, .v (.int .i64 (-1)))], [.row 46 4 (List.map encHold l), .var 3 [.v (.int .i64 v)]]⟩) (weak_fin _ rfl rfl rfl (.cons (.same rfl) (.cons (.same rfl) (LeH.rest))) (.cons (.one (.same rfl)) (.nil)) rfl rfl) ?_
      conv => whnf
      cases h
      exact ⟨rfl, rfl⟩
noncomputable def slices_DeleteFunc_Hold__lock_Free_1_l4 (v : Int) (a338 : Int) (a339 : Int) (a340 : (List Hold)) : Option ((Int × Int × (List Hold)) ⊕ (Int × (List Hold))) :=
  if (decide (a339 < (a340.length : Int))) then
    (
      (ix a340 a339).bind fun x364 =>
      (lock_Free_1 x364 v).bind fun y366 =>
      if (!y366) then
        (ix a340 a338).bind fun x369 =>
        some ((IntKind.i64.wrap (a338 + 1)), (List.set a340 (a338).toNat x364))
      else
        some (a338, a340)).bind fun (y362 : Int × (List Hold)) =>
    some (.inl (y362.1, (IntKind.i64.wrap (a339 + 1)), y362.2))
  else
    some (.inr (a338, a340))
noncomputable def slices_DeleteFunc_Hold__lock_Free_1 (l : (List Hold)) (v : Int) : Option ((List Hold)) :=
  (slices_IndexFunc_Hold__lock_Free_1 l v).bind fun y189 =>
  if (decide (y189 = (-1))) then
    some l
  else
    (loop (fun (s343 : Int × Int × (List Hold)) => slices_DeleteFunc_Hold__lock_Free_1_l4 v s343.1 s343.2.1 s343.2.2) (y189, (IntKind.i64.wrap (y189 + 1)), l)).bind fun (y341 : Int × (List Hold)) =>
    need (0 < y341.2.length) <|
    need (0 ≤ y341.1 ∧ y341.1 ≤ (y341.2.length : Int) ∧ (y341.2.length : Int) ≤ (y341.2.length : Int)) <|
    need (0 < (List.take ((y341.1).toNat) y341.2 ++ List.replicate (((((List.map encHold y341.2).length : Nat) : Int).toNat) - ((y341.1).toNat)) (({ Txn := 0, W := ({ Mode := 0, Lo := [], Hi := [] } : Want) } : Hold) : Hold) ++ List.drop ((((List.map encHold y341.2).length : Nat) : Int).toNat) y341.2).length) <|
    need (0 ≤ (0 : Int) ∧ 0 ≤ y341.1 ∧ y341.1 ≤ ((List.take ((y341.1).toNat) y341.2 ++ List.replicate (((((List.map encHold y341.2).length : Nat) : Int).toNat) - ((y341.1).toNat)) (({ Txn := 0, W := ({ Mode := 0, Lo := [], Hi := [] } : Want) } : Hold) : Hold) ++ List.drop ((((List.map encHold y341.2).length : Nat) : Int).toNat) y341.2).length : Int)) <|
    some (List.drop ((0 : Int).toNat) (List.take ((y341.1).toNat) (List.take ((y341.1).toNat) y341.2 ++ List.replicate (((((List.map encHold y341.2).length : Nat) : Int).toNat) - ((y341.1).toNat)) (({ Txn := 0, W := ({ Mode := 0, Lo := [], Hi := [] } : Want) } : Hold) : Hold) ++ List.drop ((((List.map encHold y341.2).length : Nat) : Int).toNat) y341.2)))
def gm_slices_DeleteFunc_Hold__lock_Free_1 : Gm := ⟨tys, [62, 85], [], []⟩
theorem slices_DeleteFunc_Hold__lock_Free_1_walk (l : (List Hold)) (v : Int) (r : (List Hold)) (h : slices_DeleteFunc_Hold__lock_Free_1 l v = some r) : CallP Try.prog 61 [.row 46 4 (List.map encHold l), .var 3 [.v (.int .i64 v)]] [.row 0 ((List.map encHold l).length), .fn (.func 62) [] [.ptr 1 0]] (fun a H' => a = .sl (List.map encHold r) ∧ H'.take ([.gone, .var 3 [.v (.int .i64 v)]] : List Ob).length = [.gone, .var 3 [.v (.int .i64 v)]]) := by
  unfold slices_DeleteFunc_Hold__lock_Free_1 at h
  refine callW (G := gm_slices_DeleteFunc_Hold__lock_Free_1) tyOk Try.func61 rfl (by kernel_rfl) (by simp [Try.f61]) ?_
  refine Tri.seqK ?_
  refine Tri.run (G := gm_slices_DeleteFunc_Hold__lock_Free_1) tyOk mixed ?_
  conv => whnf
  refine Tri.seqK ?_
  refine Tri.run (G := gm_slices_DeleteFunc_Hold__lock_Free_1) tyOk mixed ?_
  conv => whnf
  replace h := bind_some h
  obtain ⟨y189, q190, h⟩ := h
  refine CallP.use (slices_IndexFunc_Hold__lock_Free_1_walk l v y189 q190) [0, 1] rfl rfl rfl rfl rfl rfl rfl rfl rfl ?_
  conv => whnf
  refine Tri.seqK ?_
  refine Tri.seqK ?_
  refine Tri.run (G := gm_slices_DeleteFunc_Hold__lock_Free_1) tyOk mixed ?_
  conv => whnf
  refine Tri.cond rfl (fun c192 => ?_) (fun c192 => ?_)
  · replace h := if_t c192 h
    refine Tri.seqK ?_
    refine Tri.run (G := gm_slices_DeleteFunc_Hold__lock_Free_1) tyOk mixed ?_
    conv => whnf
    refine Tri.run (G := gm_slices_DeleteFunc_Hold__lock_Free_1) tyOk mixed ?_
    conv => whnf
    refine fin_pre (S' := ⟨42, 2, ofRegs [(4, .sl (List.map encHold l))], [.gone, .var 3 [.v (.int .i64 v)]]⟩) (Weak.trans (weak_freeze 0 rfl) (weak_fin _ rfl rfl rfl (.cons (.gone) (.cons (.same rfl) (LeH.rest))) (.cons (.one (.frz rfl (rfl))) (.nil)) rfl rfl)) ?_
    conv => whnf
    cases h
    exact ⟨rfl, rfl⟩
  · replace h := if_f c192 h
    refine Tri.run (G := gm_slices_DeleteFunc_Hold__lock_Free_1) tyOk mixed ?_
    conv => whnf
    refine Tri.seqK ?_
    refine Tri.seqK ?_
    refine Tri.run (G := gm_slices_DeleteFunc_Hold__lock_Free_1) tyOk mixed ?_
    conv => whnf
    refine Tri.block ?_
    replace h := bind_some h
    obtain ⟨y341, q342, h⟩ := h
    refine Tri.cut (fun ex S' => ex = (.exit 0) ∧ Weak S' ⟨42, 2, ofRegs [(0, .row 0 ((List.map encHold y341.2).length)), (5, .v (.int .i64 y341.1))], [.row 46 4 (List.map encHold y341.2), .var 3 [.v (.int .i64 v)]]⟩) ?_ ?_
    · refine Tri.loopF (fun (s343 : Int × Int × (List Hold)) => (⟨42, 2, ofRegs [(0, .row 0 ((List.map encHold s343.2.2).length)), (1, .fn (.func 62) [] [.ptr 1 0]), (5, .v (.int .i64 s343.1)), (6, .v (.int .i64 s343.2.1))], [.row 46 4 (List.map encHold s343.2.2), .var 3 [.v (.int .i64 v)]]⟩ : St)) q342 (weak_fin _ rfl rfl rfl (.cons (.same rfl) (.cons (.same rfl) (LeH.rest))) (.cons (.one (.same rfl)) (.cons (.one (.same rfl)) (.cons (.one (.same rfl)) (.cons (.one (.same rfl)) (.nil))))) rfl rfl) ?_
      rintro ⟨a338, a339, a340⟩ v344 hv r345
      have hv : slices_DeleteFunc_Hold__lock_Free_1_l4 v a338 a339 a340 = some v344 := hv
      unfold slices_DeleteFunc_Hold__lock_Free_1_l4 at hv
      dsimp only
      refine Tri.seqK ?_
      refine Tri.seqK ?_
      refine Tri.run (G := gm_slices_DeleteFunc_Hold__lock_Free_1) tyOk mixed ?_
      conv => whnf
      refine ⟨rfl, ?_⟩
      conv => whnf
      refine ⟨⟨(a340.length : Int), by simp, ?_⟩⟩
      conv => whnf
      refine Tri.cond rfl (fun c347 => ?_) (fun c347 => ?_)
      · replace hv := if_t c347 hv
        refine Tri.run (G := gm_slices_DeleteFunc_Hold__lock_Free_1) tyOk mixed ?_
        conv => whnf
        refine Tri.seqK ?_
        replace hv := bind_some hv
        obtain ⟨y362, q363, hv⟩ := hv
        refine Tri.cut (fun ex S' => ex = .normal ∧ Weak S' ⟨42, 2, ofRegs [(0, .row 0 ((List.map encHold y362.2).length)), (1, .fn (.func 62) [] [.ptr 1 0]), (5, .v (.int .i64 y362.1)), (6, .v (.int .i64 a339))], [.row 46 4 (List.map encHold y362.2), .var 3 [.v (.int .i64 v)]]⟩) ?_ ?_
        · refine Tri.block ?_
          refine Tri.seqK ?_
          refine Tri.run (G := gm_slices_DeleteFunc_Hold__lock_Free_1) tyOk mixed ?_
          conv => whnf
          replace q363 := bind_some q363
          obtain ⟨x364, q365, q363⟩ := q363
          refine ⟨⟨rfl, (ix_lt q365).1, by have := ix_lt q365; simp only [List.length_map, List.length_set, List.length_cons, List.length_nil] at *; omega⟩, ?_⟩
          conv => whnf
          refine ⟨rfl, ?_⟩
          conv => whnf
          refine ⟨⟨_, map_get encHold (ix_some q365).2, ?_⟩⟩
          conv => whnf
          refine Tri.seqK ?_
          refine Tri.run (G := gm_slices_DeleteFunc_Hold__lock_Free_1) tyOk mixed ?_
          conv => whnf
          replace q363 := bind_some q363
          obtain ⟨y366, q367, q363⟩ := q363
          refine CallP.use (lock_Free_1_walk x364 v y366 q367) [1] rfl rfl rfl rfl rfl rfl rfl rfl rfl ?_
          conv => whnf
          refine Tri.cond rfl (fun c368 => ?_) (fun c368 => ?_)
          · replace q363 := if_t c368 q363
            refine Tri.seqK ?_
            refine Tri.run (G := gm_slices_DeleteFunc_Hold__lock_Free_1) tyOk mixed ?_
            conv => whnf
            replace q363 := bind_some q363
            obtain ⟨x369, q370, q363⟩ := q363
            refine ⟨⟨rfl, (ix_lt q370).1, by have := ix_lt q370; simp only [List.length_map, List.length_set, List.length_cons, List.length_nil] at *; omega⟩, ?_⟩
            conv => whnf
            refine ⟨rfl, ?_⟩
            conv => whnf
            refine ⟨⟨_, map_get encHold (ix_some q370).2, ?_⟩⟩
            conv => whnf
            refine ⟨Nat.le_of_ble_eq_true rfl, ?_⟩
            conv => whnf
            refine ⟨⟨List.map encHold (List.set a340 (a338).toNat x364), map_set encHold _ _ _ rfl, ?_⟩⟩
            conv => whnf
            refine Tri.run (G := gm_slices_DeleteFunc_Hold__lock_Free_1) tyOk mixed ?_
            conv => whnf
            cases q363
            exact ⟨rfl, weak_fin _ rfl rfl rfl (.cons (.same rfl) (.cons (.same rfl) (LeH.rest))) (.cons (.one (.same (show (.row 0 ((List.map encHold a340).length) : AV) = (.row 0 ((List.map encHold (List.set a340 (a338).toNat x364)).length) : AV) from congrArg (AV.row 0) (by simp)))) (.cons (.one (.same rfl)) (.cons (.one (.same rfl)) (.cons (.one (.same rfl)) (.nil))))) rfl rfl⟩
          · replace q363 := if_f c368 q363
            refine Tri.run (G := gm_slices_DeleteFunc_Hold__lock_Free_1) tyOk mixed ?_
            conv => whnf
            cases q363
            exact ⟨rfl, weak_fin _ rfl rfl rfl (.cons (.same rfl) (.cons (.same rfl) (LeH.rest))) (.cons (.one (.same rfl)) (.cons (.one (.same rfl)) (.cons (.one (.same rfl)) (.cons (.one (.same rfl)) (.nil))))) rfl rfl⟩
        · rintro ex S' ⟨rfl, w371⟩
          conv => whnf
          refine Tri.weak w371 ?_
          refine Tri.run (G := gm_slices_DeleteFunc_Hold__lock_Free_1) tyOk mixed ?_
          conv => whnf
          cases hv
          exact ⟨_, rfl, weak_fin _ rfl rfl rfl (.cons (.same rfl) (.cons (.same rfl) (LeH.rest))) (.cons (.one (.same rfl)) (.cons (.one (.same rfl)) (.cons (.one (.same rfl)) (.cons (.one (.same rfl)) (.nil))))) rfl rfl⟩
      · replace hv := if_f c347 hv
        refine Tri.run (G := gm_slices_DeleteFunc_Hold__lock_Free_1) tyOk mixed ?_
        conv => whnf
        cases hv
        obtain rfl := r345 _ rfl
        exact ⟨rfl, weak_fin _ rfl rfl rfl (.cons (.same rfl) (.cons (.same rfl) (LeH.rest))) (.cons (.one (.same rfl)) (.cons (.one (.same rfl)) (.nil))) rfl rfl⟩
    · rintro ex S' ⟨rfl, w372⟩
      conv => whnf
      refine Tri.weak w372 ?_
      refine Tri.seqK ?_
      refine Tri.run (G := gm_slices_DeleteFunc_Hold__lock_Free_1) tyOk mixed ?_
      conv => whnf
      replace h := need_some h
      obtain ⟨p373, h⟩ := h
      refine ⟨⟨rfl, by have := p373; simp only [List.length_map, List.length_append, List.length_take, List.length_drop, List.length_replicate, List.length_set] at *; omega⟩, ?_⟩
      conv => whnf
      replace h := need_some h
      obtain ⟨p374, h⟩ := h
      refine ⟨by have := p374; simp only [List.length_map, List.length_append, List.length_take, List.length_drop, List.length_replicate, List.length_set] at *; omega, ?_⟩
      conv => whnf
      refine ⟨rfl, ?_⟩
      conv => whnf
      refine ⟨⟨List.map encHold (List.take ((y341.1).toNat) y341.2 ++ List.replicate (((((List.map encHold y341.2).length : Nat) : Int).toNat) - ((y341.1).toNat)) (({ Txn := 0, W := ({ Mode := 0, Lo := [], Hi := [] } : Want) } : Hold) : Hold) ++ List.drop ((((List.map encHold y341.2).length : Nat) : Int).toNat) y341.2), by rw [List.map_append, List.map_append, List.map_take, List.map_drop, List.map_replicate]; rfl, ?_⟩⟩
      conv => whnf
      refine Tri.seqK ?_
      refine Tri.run (G := gm_slices_DeleteFunc_Hold__lock_Free_1) tyOk mixed ?_
      conv => whnf
      replace h := need_some h
      obtain ⟨p375, h⟩ := h
      refine ⟨⟨by first | (simp; done) | (simp only [List.length_map, List.length_append, List.length_take, List.length_drop, List.length_replicate, List.length_set, List.length_mergeSort]; omega), by have := p375; simp only [List.length_map, List.length_append, List.length_take, List.length_drop, List.length_replicate, List.length_set] at *; omega⟩, ?_⟩
      conv => whnf
      replace h := need_some h
      obtain ⟨p376, h⟩ := h
      refine ⟨by have := p376; simp only [List.length_map, List.length_append, List.length_take, List.length_drop, List.length_replicate, List.length_set] at *; omega, ?_⟩
      conv => whnf
      refine Tri.run (G := gm_slices_DeleteFunc_Hold__lock_Free_1) tyOk mixed ?_
      conv => whnf
      refine fin_pre (S' := ⟨42, 2, ofRegs [(4, .sl (List.map encHold (List.drop ((0 : Int).toNat) (List.take ((y341.1).toNat) (List.take ((y341.1).toNat) y341.2 ++ List.replicate (((((List.map encHold y341.2).length : Nat) : Int).toNat) - ((y341.1).toNat)) (({ Txn := 0, W := ({ Mode := 0, Lo := [], Hi := [] } : Want) } : Hold) : Hold) ++ List.drop ((((List.map encHold y341.2).length : Nat) : Int).toNat) y341.2)))))], [.gone, .var 3 [.v (.int .i64 v)]]⟩) (Weak.trans (weak_freeze 0 rfl) (weak_fin _ rfl rfl rfl (.cons (.gone) (.cons (.same rfl) (LeH.rest))) (.cons (.one (.frzvw rfl (by first | (simp; done) | (simp only [List.length_map, List.length_append, List.length_take, List.length_drop, List.length_replicate, List.length_set, List.length_mergeSort]; omega)) (by rw [List.map_drop, List.map_take]))) (.nil)) rfl rfl)) ?_
      conv => whnf
      cases h
      exact ⟨rfl, rfl⟩
noncomputable def lock_Free_2 (c : Claim) (v : Int) : Option (Bool) :=
  some (decide (c.Txn = v))
def gm_lock_Free_2 : Gm := ⟨tys, [], [], []⟩
theorem lock_Free_2_walk (c : Claim) (v : Int) (r : Bool) (h : lock_Free_2 c v = some r) : CallP Try.prog 64 [.var 3 [.v (.int .i64 v)]] [.agg [.v (.int .i64 c.Txn), .v (.int .i64 c.W.Mode), .v (.string (bs c.W.Lo)), .v (.string (bs c.W.Hi)), .v (.int .u64 c.Until)], .ptr 0 0] (fun a H' => a = .v (.bool r) ∧ H'.take ([.var 3 [.v (.int .i64 v)]] : List Ob).length = [.var 3 [.v (.int .i64 v)]]) := by
  unfold lock_Free_2 at h
  refine callW (G := gm_lock_Free_2) tyOk Try.func64 rfl (by kernel_rfl) (by simp [Try.f64]) ?_
  refine Tri.seqK ?_
  refine Tri.run (G := gm_lock_Free_2) tyOk mixed ?_
  conv => whnf
  refine Tri.seqK ?_
  refine Tri.run (G := gm_lock_Free_2) tyOk mixed ?_
  conv => whnf
  refine Tri.run (G := gm_lock_Free_2) tyOk mixed ?_
  conv => whnf
  refine fin_pre (S' := ⟨8, 1, ofRegs [(3, .v (.bool (decide (c.Txn = v))))], [.var 3 [.v (.int .i64 v)]]⟩) (weak_fin _ rfl rfl rfl (.cons (.same rfl) (LeH.rest)) (.cons (.one (.same rfl)) (.nil)) rfl rfl) ?_
  conv => whnf
  cases h
  exact ⟨rfl, rfl⟩
noncomputable def slices_IndexFunc_Claim__lock_Free_2_l4 (l : (List Claim)) (v : Int) (a164 : Int) : Option ((Int) ⊕ ((Int) ⊕ (Unit))) :=
  if (decide (a164 < (l.length : Int))) then
    (ix l a164).bind fun x179 =>
    (lock_Free_2 x179 v).bind fun y181 =>
    if y181 then
      some (.inr (.inl a164))
    else
      some (.inl (IntKind.i64.wrap (a164 + 1)))
  else
    some (.inr (.inr ()))
noncomputable def slices_IndexFunc_Claim__lock_Free_2 (l : (List Claim)) (v : Int) : Option (Int) :=
  (loop (fun (s169 : Int) => slices_IndexFunc_Claim__lock_Free_2_l4 l v s169) (0 : Int)).bind fun (y165 : (Int) ⊕ (Unit)) =>
  match y165 with
  | (.inl v167) =>
    some v167
  | (.inr v168) =>
    some (-1)
def gm_slices_IndexFunc_Claim__lock_Free_2 : Gm := ⟨tys, [64], [], []⟩
theorem slices_IndexFunc_Claim__lock_Free_2_walk (l : (List Claim)) (v : Int) (r : Int) (h : slices_IndexFunc_Claim__lock_Free_2 l v = some r) : CallP Try.prog 86 [.row 51 5 (List.map encClaim l), .var 3 [.v (.int .i64 v)]] [.row 0 ((List.map encClaim l).length), .fn (.func 64) [] [.ptr 1 0]] (fun a H' => a = .v (.int .i64 r) ∧ H'.take ([.row 51 5 (List.map encClaim l), .var 3 [.v (.int .i64 v)]] : List Ob).length = [.row 51 5 (List.map encClaim l), .var 3 [.v (.int .i64 v)]]) := by
  unfold slices_IndexFunc_Claim__lock_Free_2 at h
  refine callW (G := gm_slices_IndexFunc_Claim__lock_Free_2) tyOk Try.func86 rfl (by kernel_rfl) (by simp [Try.f86]) ?_
  refine Tri.seqK ?_
  refine Tri.run (G := gm_slices_IndexFunc_Claim__lock_Free_2) tyOk mixed ?_
  conv => whnf
  refine Tri.seqK ?_
  refine Tri.seqK ?_
  refine Tri.run (G := gm_slices_IndexFunc_Claim__lock_Free_2) tyOk mixed ?_
  conv => whnf
  refine ⟨rfl, ?_⟩
  conv => whnf
  refine ⟨⟨(l.length : Int), by simp, ?_⟩⟩
  conv => whnf
  refine Tri.block ?_
  replace h := bind_some h
  obtain ⟨y165, q166, h⟩ := h
  refine Tri.cut (fun ex S' => (∃ v167 : Int, y165 = (.inl v167) ∧ ex = .ret ∧ Weak S' ⟨19, 2, ofRegs [(4, .v (.int .i64 v167))], [.row 51 5 (List.map encClaim l), .var 3 [.v (.int .i64 v)]]⟩) ∨ (∃ v168 : Unit, y165 = (.inr v168) ∧ ex = (.exit 0) ∧ Weak S' ⟨19, 2, ofRegs [], [.row 51 5 (List.map encClaim l), .var 3 [.v (.int .i64 v)]]⟩)) ?_ ?_
  · refine Tri.loopF (fun (s169 : Int) => (⟨19, 2, ofRegs [(0, .row 0 ((List.map encClaim l).length)), (1, .fn (.func 64) [] [.ptr 1 0]), (7, .v (.int .i64 (l.length : Int))), (8, .v (.int .i64 s169))], [.row 51 5 (List.map encClaim l), .var 3 [.v (.int .i64 v)]]⟩ : St)) q166 (weak_fin _ rfl rfl rfl (.cons (.same rfl) (.cons (.same rfl) (LeH.rest))) (.cons (.one (.same rfl)) (.cons (.one (.same rfl)) (.cons (.one (.same rfl)) (.cons (.one (.same rfl)) (.nil))))) rfl rfl) ?_
    rintro a164 v170 hv r171
    have hv : slices_IndexFunc_Claim__lock_Free_2_l4 l v a164 = some v170 := hv
    unfold slices_IndexFunc_Claim__lock_Free_2_l4 at hv
    refine Tri.seqK ?_
    refine Tri.run (G := gm_slices_IndexFunc_Claim__lock_Free_2) tyOk mixed ?_
    conv => whnf
    refine Tri.seqK ?_
    refine Tri.cond rfl (fun c173 => ?_) (fun c173 => ?_)
    · replace hv := if_t c173 hv
      refine Tri.run (G := gm_slices_IndexFunc_Claim__lock_Free_2) tyOk mixed ?_
      conv => whnf
      refine Tri.seqK ?_
      refine Tri.block ?_
      refine Tri.seqK ?_
      refine Tri.run (G := gm_slices_IndexFunc_Claim__lock_Free_2) tyOk mixed ?_
      conv => whnf
      refine Tri.seqK ?_
      refine Tri.run (G := gm_slices_IndexFunc_Claim__lock_Free_2) tyOk mixed ?_
      conv => whnf
      replace hv := bind_some hv
      obtain ⟨x179, q180, hv⟩ := hv
      refine ⟨⟨rfl, (ix_lt q180).1, by have := ix_lt q180; simp only [List.length_map, List.length_set, List.length_cons, List.length_nil] at *; omega⟩, ?_⟩
      conv => whnf
      refine ⟨rfl, ?_⟩
      conv => whnf
      refine ⟨⟨_, map_get encClaim (ix_some q180).2, ?_⟩⟩
      conv => whnf
      replace hv := bind_some hv
      obtain ⟨y181, q182, hv⟩ := hv
      refine CallP.use (lock_Free_2_walk x179 v y181 q182) [1] rfl rfl rfl rfl rfl rfl rfl rfl rfl ?_
      conv => whnf
      refine Tri.cond rfl (fun c183 => ?_) (fun c183 => ?_)
      · replace hv := if_t c183 hv
        refine Tri.seqK ?_
        refine Tri.run (G := gm_slices_IndexFunc_Claim__lock_Free_2) tyOk mixed ?_
        conv => whnf
        refine Tri.run (G := gm_slices_IndexFunc_Claim__lock_Free_2) tyOk mixed ?_
        conv => whnf
        cases hv
        obtain rfl := r171 _ rfl
        exact Or.inl ⟨_, rfl, rfl, weak_fin _ rfl rfl rfl (.cons (.same rfl) (.cons (.same rfl) (LeH.rest))) (.cons (.one (.same rfl)) (.nil)) rfl rfl⟩
      · replace hv := if_f c183 hv
        refine Tri.run (G := gm_slices_IndexFunc_Claim__lock_Free_2) tyOk mixed ?_
        conv => whnf
        refine Tri.run (G := gm_slices_IndexFunc_Claim__lock_Free_2) tyOk mixed ?_
        conv => whnf
        cases hv
        exact ⟨_, rfl, weak_fin _ rfl rfl rfl (.cons (.same rfl) (.cons (.same rfl) (LeH.rest))) (.cons (.one (.same rfl)) (.cons (.one (.same rfl)) (.cons (.one (.same rfl)) (.cons (.one (.same rfl)) (.nil))))) rfl rfl⟩
    · replace hv := if_f c173 hv
      refine Tri.run (G := gm_slices_IndexFunc_Claim__lock_Free_2) tyOk mixed ?_
      conv => whnf
      cases hv
      obtain rfl := r171 _ rfl
      exact Or.inr (⟨_, rfl, rfl, weak_fin _ rfl rfl rfl (.cons (.same rfl) (.cons (.same rfl) (LeH.rest))) (.nil) rfl rfl⟩)
  · rintro ex S' (⟨v167, rfl, rfl, w184⟩ | ⟨v168, rfl, rfl, w184⟩)
    · dsimp only at h
      conv => whnf
      refine fin_pre (S' := ⟨19, 2, ofRegs [(4, .v (.int .i64 v167))], [.row 51 5 (List.map encClaim l), .var 3 [.v (.int .i64 v)]]⟩) (Weak.trans w184 (weak_fin _ rfl rfl rfl (.cons (.same rfl) (.cons (.same rfl) (LeH.rest))) (.cons (.one (.same rfl)) (.nil)) rfl rfl)) ?_
      conv => whnf
      cases h
      exact ⟨rfl, rfl⟩
    · dsimp only at h
      conv => whnf
      refine Tri.weak w184 ?_
      refine Tri.seqK ?_
      refine Tri.run (G := gm_slices_IndexFunc_Claim__lock_Free_2) tyOk mixed ?_
      conv => whnf
      refine Tri.run (G := gm_slices_IndexFunc_Claim__lock_Free_2) tyOk mixed ?_
      conv => whnf
      refine fin_pre (S' := ⟨19, 2, ofRegs [(4, .v (.int .i64 (-1)))], [.row 51 5 (List.map encClaim l), .var 3 [.v (.int .i64 v)]]⟩) (weak_fin _ rfl rfl rfl (.cons (.same rfl) (.cons (.same rfl) (LeH.rest))) (.cons (.one (.same rfl)) (.nil)) rfl rfl) ?_
      conv => whnf
      cases h
      exact ⟨rfl, rfl⟩
end Go.Ab
