/- The program's functions as plain Lean functions, and that the program comes to what they come to. Printed by a program of this session. -/
import Derived.Test.YtdoceelfokmhfaaW2
import Derived.Test.YtdoceelfokmhfaaSh
namespace Go.Ab
open Go.Proofs
set_option linter.unusedVariables false
set_option linter.unusedSimpArgs false
set_option maxRecDepth 100000
set_option maxHeartbeats 4000000
noncomputable def law10_LockFrees (l : Locks) (txn : Int) : Option (Bool) :=
  law10_shown.bind fun y1 =>
  (law10_small l).bind fun y3 =>
  if ((!y1) || (!y3)) then
    some y1
  else
    (lock_Settle l).bind fun y17 =>
    (ref10_Settle l).bind fun y19 =>
    (lock_Free l txn).bind fun y21 =>
    (ref10_Free l txn).bind fun y23 =>
    (
      (ref10_Same y17.1 y19.1).bind fun y37 =>
      if y37 then
        (ref10_Same y21.1 y23.1).bind fun y40 =>
        some y40
      else
        some false).bind fun (y35 : Bool) =>
    if y35 then
      (ref10_Ints y17.2 y19.2).bind fun y44 =>
      if y44 then
        (ref10_Ints y21.2 y23.2).bind fun y47 =>
        some y47
      else
        some false
    else
      some false
def gm_law10_LockFrees : Gm := ⟨tys, [], [], []⟩
theorem law10_LockFrees_walk (l : Locks) (txn : Int) (r : Bool) (h : law10_LockFrees l txn = some r) : PureP Try.prog 8 [.agg [.sl (List.map encHold l.Held), .sl (List.map encClaim l.Queue)], .v (.int .i64 txn)] (fun a => a = .v (.bool r)) := by
  unfold law10_LockFrees at h
  refine pureW (G := gm_law10_LockFrees) tyOk Try.func8 rfl (by kernel_rfl) (by simp [Try.f8]) ?_
  refine Tri.seqK ?_
  refine Tri.run (G := gm_law10_LockFrees) tyOk mixed ?_
  conv => whnf
  refine Tri.seqK ?_
  refine Tri.run (G := gm_law10_LockFrees) tyOk mixed ?_
  conv => whnf
  replace h := bind_some h
  obtain ⟨y1, q2, h⟩ := h
  refine PureP.mono (law10_shown_walk y1 q2) ?_
  rintro _ rfl
  conv => whnf
  refine Tri.seqK ?_
  refine Tri.run (G := gm_law10_LockFrees) tyOk mixed ?_
  conv => whnf
  replace h := bind_some h
  obtain ⟨y3, q4, h⟩ := h
  refine PureP.mono (law10_small_walk l y3 q4) ?_
  rintro _ rfl
  conv => whnf
  refine Tri.seqK ?_
  refine Tri.seqK ?_
  refine Tri.cut (fun ex S' => ex = .normal ∧ Weak S' ⟨67, 0, ofRegs [(1, .v (.int .i64 txn)), (2, .ptr 0 0), (5, .v (.bool y1)), (24, .v (.bool ((!y1) || (!y3))))], [.var 25 [.sl (List.map encHold l.Held), .sl (List.map encClaim l.Queue)]]⟩) ?_ ?_
  · refine Tri.run (G := gm_law10_LockFrees) tyOk mixed ?_
    conv => whnf
    refine cond_mk (fun c14 => ?_) (fun c14 => ?_)
    · replace c14 : (!y1) = true := c14
      conv => whnf
      exact ⟨rfl, weak_fin _ rfl rfl rfl (.cons (.same rfl) (LeH.rest)) (.cons (.one (.same rfl)) (.cons (.one (.same rfl)) (.cons (.one (.same rfl)) (.cons (.one (.same (show (.v (.bool true) : AV) = (.v (.bool ((!y1) || (!y3))) : AV) from by first | (simp [c14]; done) | simp only [c14, Bool.or_true, Bool.true_or, Bool.false_or, Bool.or_false, Bool.and_true, Bool.true_and, Bool.and_false, Bool.false_and, Bool.not_true, Bool.not_false, if_true, if_false, Bool.false_eq_true]))) (.nil))))) rfl rfl⟩
    · replace c14 : (!y1) = false := c14
      conv => whnf
      exact ⟨rfl, weak_fin _ rfl rfl rfl (.cons (.same rfl) (LeH.rest)) (.cons (.one (.same rfl)) (.cons (.one (.same rfl)) (.cons (.one (.same rfl)) (.cons (.one (.same (show (.v (.bool (!y3)) : AV) = (.v (.bool ((!y1) || (!y3))) : AV) from by first | (simp [c14]; done) | simp only [c14, Bool.or_true, Bool.true_or, Bool.false_or, Bool.or_false, Bool.and_true, Bool.true_and, Bool.and_false, Bool.false_and, Bool.not_true, Bool.not_false, if_true, if_false, Bool.false_eq_true]))) (.nil))))) rfl rfl⟩
  · rintro ex S' ⟨rfl, w15⟩
    conv => whnf
    refine Tri.weak w15 ?_
    refine Tri.cond rfl (fun c16 => ?_) (fun c16 => ?_)
    · replace h := if_t c16 h
      refine Tri.seqK ?_
      refine Tri.run (G := gm_law10_LockFrees) tyOk mixed ?_
      conv => whnf
      refine Tri.run (G := gm_law10_LockFrees) tyOk mixed ?_
      conv => whnf
      refine fin_here ?_
      conv => whnf
      cases h
      rfl
    · replace h := if_f c16 h
      refine Tri.run (G := gm_law10_LockFrees) tyOk mixed ?_
      conv => whnf
      refine Tri.seqK ?_
      refine Tri.run (G := gm_law10_LockFrees) tyOk mixed ?_
      conv => whnf
      replace h := bind_some h
      obtain ⟨y17, q18, h⟩ := h
      refine PureP.mono (lock_Settle_walk l y17 q18) ?_
      rintro _ rfl
      conv => whnf
      refine Tri.seqK ?_
      refine Tri.run (G := gm_law10_LockFrees) tyOk mixed ?_
      conv => whnf
      replace h := bind_some h
      obtain ⟨y19, q20, h⟩ := h
      refine PureP.mono (ref10_Settle_walk l y19 q20) ?_
      rintro _ rfl
      conv => whnf
      refine Tri.seqK ?_
      refine Tri.run (G := gm_law10_LockFrees) tyOk mixed ?_
      conv => whnf
      replace h := bind_some h
      obtain ⟨y21, q22, h⟩ := h
      refine PureP.mono (lock_Free_walk l txn y21 q22) ?_
      rintro _ rfl
      conv => whnf
      refine Tri.seqK ?_
      refine Tri.run (G := gm_law10_LockFrees) tyOk mixed ?_
      conv => whnf
      replace h := bind_some h
      obtain ⟨y23, q24, h⟩ := h
      refine PureP.mono (ref10_Free_walk l txn y23 q24) ?_
      rintro _ rfl
      conv => whnf
      refine Tri.seqK ?_
      replace h := bind_some h
      obtain ⟨y35, q36, h⟩ := h
      refine Tri.cut (fun ex S' => ex = .normal ∧ Weak S' ⟨67, 0, ofRegs [(8, .sl (List.map (encI .i64) y17.2)), (10, .sl (List.map (encI .i64) y19.2)), (12, .sl (List.map (encI .i64) y21.2)), (14, .sl (List.map (encI .i64) y23.2)), (15, .v (.bool y35))], []⟩) ?_ ?_
      · refine Tri.run (G := gm_law10_LockFrees) tyOk mixed ?_
        conv => whnf
        replace q36 := bind_some q36
        obtain ⟨y37, q38, q36⟩ := q36
        refine PureP.mono (ref10_Same_walk y17.1 y19.1 y37 q38) ?_
        rintro _ rfl
        conv => whnf
        refine cond_mk (fun c39 => ?_) (fun c39 => ?_)
        · replace q36 := if_t c39 q36
          conv => whnf
          replace q36 := bind_some q36
          obtain ⟨y40, q41, q36⟩ := q36
          refine PureP.mono (ref10_Same_walk y21.1 y23.1 y40 q41) ?_
          rintro _ rfl
          conv => whnf
          cases q36
          exact ⟨rfl, weak_fin _ rfl rfl rfl (LeH.rest) (.cons (.one (.same rfl)) (.cons (.one (.same rfl)) (.cons (.one (.same rfl)) (.cons (.one (.same rfl)) (.cons (.one (.same rfl)) (.nil)))))) rfl rfl⟩
        · replace q36 := if_f c39 q36
          conv => whnf
          cases q36
          exact ⟨rfl, weak_fin _ rfl rfl rfl (LeH.rest) (.cons (.one (.same rfl)) (.cons (.one (.same rfl)) (.cons (.one (.same rfl)) (.cons (.one (.same rfl)) (.cons (.one (.same rfl)) (.nil)))))) rfl rfl⟩
      · rintro ex S' ⟨rfl, w42⟩
        conv => whnf
        refine Tri.weak w42 ?_
        refine Tri.seqK ?_
        refine Tri.run (G := gm_law10_LockFrees) tyOk mixed ?_
        conv => whnf
        refine cond_mk (fun c43 => ?_) (fun c43 => ?_)
        · replace h := if_t c43 h
          conv => whnf
          replace h := bind_some h
          obtain ⟨y44, q45, h⟩ := h
          refine PureP.mono (ref10_Ints_walk y17.2 y19.2 y44 q45) ?_
          rintro _ rfl
          conv => whnf
          refine cond_mk (fun c46 => ?_) (fun c46 => ?_)
          · replace h := if_t c46 h
            conv => whnf
            replace h := bind_some h
            obtain ⟨y47, q48, h⟩ := h
            refine PureP.mono (ref10_Ints_walk y21.2 y23.2 y47 q48) ?_
            rintro _ rfl
            conv => whnf
            refine Tri.run (G := gm_law10_LockFrees) tyOk mixed ?_
            conv => whnf
            refine fin_here ?_
            conv => whnf
            cases h
            rfl
          · replace h := if_f c46 h
            conv => whnf
            refine Tri.run (G := gm_law10_LockFrees) tyOk mixed ?_
            conv => whnf
            refine fin_here ?_
            conv => whnf
            cases h
            rfl
        · replace h := if_f c43 h
          conv => whnf
          refine Tri.run (G := gm_law10_LockFrees) tyOk mixed ?_
          conv => whnf
          refine fin_here ?_
          conv => whnf
          cases h
          rfl
noncomputable def law10_plays_l2 (l : (List Act)) (a256 : Int) (a257 : (List Hold)) (a258 : (List Claim)) : Option ((Int × (List Hold) × (List Claim)) ⊕ ((List Hold) × (List Claim))) :=
  if ((decide (a256 < (l.length : Int))) && (decide (a256 < 100))) then
    (
      (ix l a256).bind fun x300 =>
      if (decide (x300.Kind = 1)) then
        (lock_Ask ({ Held := a257, Queue := a258 } : Locks) x300.Txn x300.W 9).bind fun y305 =>
        some (y305.1.Held, y305.1.Queue)
      else
        (lock_Free ({ Held := a257, Queue := a258 } : Locks) x300.Txn).bind fun y309 =>
        some (y309.1.Held, y309.1.Queue)).bind fun (y298 : (List Hold) × (List Claim)) =>
    some (.inl ((IntKind.i64.wrap (a256 + 1)), y298.1, y298.2))
  else
    some (.inr (a257, a258))
noncomputable def law10_plays (l : (List Act)) : Option (Locks) :=
  (loop (fun (s261 : Int × (List Hold) × (List Claim)) => law10_plays_l2 l s261.1 s261.2.1 s261.2.2) ((0 : Int), ([] : (List Hold)), ([] : (List Claim)))).bind fun (y259 : (List Hold) × (List Claim)) =>
  some ({ Held := y259.1, Queue := y259.2 } : Locks)
def gm_law10_plays : Gm := ⟨tys, [], [], []⟩
theorem law10_plays_walk (l : (List Act)) (r : Locks) (h : law10_plays l = some r) : PureP Try.prog 34 [.sl (List.map encAct l)] (fun a => a = .agg [.sl (List.map encHold r.Held), .sl (List.map encClaim r.Queue)]) := by
  unfold law10_plays at h
  refine pureW (G := gm_law10_plays) tyOk Try.func34 rfl (by kernel_rfl) (by simp [Try.f34]) ?_
  refine Tri.seqK ?_
  refine Tri.run (G := gm_law10_plays) tyOk mixed ?_
  conv => whnf
  refine Tri.seqK ?_
  refine Tri.run (G := gm_law10_plays) tyOk mixed ?_
  conv => whnf
  refine Tri.seqK ?_
  refine Tri.seqK ?_
  refine Tri.run (G := gm_law10_plays) tyOk mixed ?_
  conv => whnf
  refine Tri.block ?_
  replace h := bind_some h
  obtain ⟨y259, q260, h⟩ := h
  refine Tri.cut (fun ex S' => ex = (.exit 0) ∧ Weak S' ⟨48, 0, ofRegs [(2, .ptr 0 0), (3, .ptr 1 0)], [.var 25 [.v (.slice none 0 0), .v (.slice none 0 0)], .var 25 [.sl (List.map encHold y259.1), .sl (List.map encClaim y259.2)]]⟩) ?_ ?_
  · refine Tri.loopF (fun (s261 : Int × (List Hold) × (List Claim)) => (⟨48, 0, ofRegs [(0, .sl (List.map encAct l)), (2, .ptr 0 0), (3, .ptr 1 0), (4, .v (.int .i64 s261.1))], [.var 25 [.v (.slice none 0 0), .v (.slice none 0 0)], .var 25 [.sl (List.map encHold s261.2.1), .sl (List.map encClaim s261.2.2)]]⟩ : St)) q260 (weak_fin _ rfl rfl rfl (.cons (.same rfl) (.cons (.var (.cons (.nil) (.cons (.nil) (.nil)))) (LeH.rest))) (.cons (.one (.same rfl)) (.cons (.one (.same rfl)) (.cons (.one (.same rfl)) (.cons (.one (.same rfl)) (.nil))))) rfl rfl) ?_
    rintro ⟨a256, a257, a258⟩ v262 hv r263
    have hv : law10_plays_l2 l a256 a257 a258 = some v262 := hv
    unfold law10_plays_l2 at hv
    dsimp only
    refine Tri.seqK ?_
    refine Tri.seqK ?_
    refine Tri.cut (fun ex S' => ex = .normal ∧ Weak S' ⟨48, 0, ofRegs [(0, .sl (List.map encAct l)), (2, .ptr 0 0), (3, .ptr 1 0), (4, .v (.int .i64 a256)), (13, .v (.bool ((decide (a256 < (l.length : Int))) && (decide (a256 < 100)))))], [.var 25 [.v (.slice none 0 0), .v (.slice none 0 0)], .var 25 [.sl (List.map encHold a257), .sl (List.map encClaim a258)]]⟩) ?_ ?_
    · refine Tri.run (G := gm_law10_plays) tyOk mixed ?_
      conv => whnf
      refine ⟨⟨(l.length : Int), (len_map _ _).symm, ?_⟩⟩
      conv => whnf
      refine cond_mk (fun c273 => ?_) (fun c273 => ?_)
      · replace c273 : (decide (a256 < (l.length : Int))) = true := c273
        conv => whnf
        exact ⟨rfl, weak_fin _ rfl rfl rfl (.cons (.same rfl) (.cons (.same rfl) (LeH.rest))) (.cons (.one (.same rfl)) (.cons (.one (.same rfl)) (.cons (.one (.same rfl)) (.cons (.one (.same rfl)) (.cons (.one (.same (show (.v (.bool (decide (a256 < 100))) : AV) = (.v (.bool ((decide (a256 < (l.length : Int))) && (decide (a256 < 100)))) : AV) from by first | (simp [c273]; done) | simp only [c273, Bool.or_true, Bool.true_or, Bool.false_or, Bool.or_false, Bool.and_true, Bool.true_and, Bool.and_false, Bool.false_and, Bool.not_true, Bool.not_false, if_true, if_false, Bool.false_eq_true]))) (.nil)))))) rfl rfl⟩
      · replace c273 : (decide (a256 < (l.length : Int))) = false := c273
        conv => whnf
        exact ⟨rfl, weak_fin _ rfl rfl rfl (.cons (.same rfl) (.cons (.same rfl) (LeH.rest))) (.cons (.one (.same rfl)) (.cons (.one (.same rfl)) (.cons (.one (.same rfl)) (.cons (.one (.same rfl)) (.cons (.one (.same (show (.v (.bool false) : AV) = (.v (.bool ((decide (a256 < (l.length : Int))) && (decide (a256 < 100)))) : AV) from by first | (simp [c273]; done) | simp only [c273, Bool.or_true, Bool.true_or, Bool.false_or, Bool.or_false, Bool.and_true, Bool.true_and, Bool.and_false, Bool.false_and, Bool.not_true, Bool.not_false, if_true, if_false, Bool.false_eq_true]))) (.nil)))))) rfl rfl⟩
    · rintro ex S' ⟨rfl, w274⟩
      conv => whnf
      refine Tri.weak w274 ?_
      refine Tri.cond rfl (fun c275 => ?_) (fun c275 => ?_)
      · replace hv := if_t c275 hv
        refine Tri.run (G := gm_law10_plays) tyOk mixed ?_
        conv => whnf
        refine Tri.seqK ?_
        replace hv := bind_some hv
        obtain ⟨y298, q299, hv⟩ := hv
        refine Tri.cut (fun ex S' => ex = .normal ∧ Weak S' ⟨48, 0, ofRegs [(0, .sl (List.map encAct l)), (2, .ptr 0 0), (3, .ptr 1 0), (4, .v (.int .i64 a256))], [.var 25 [.v (.slice none 0 0), .v (.slice none 0 0)], .var 25 [.sl (List.map encHold y298.1), .sl (List.map encClaim y298.2)]]⟩) ?_ ?_
        · refine Tri.block ?_
          refine Tri.seqK ?_
          refine Tri.run (G := gm_law10_plays) tyOk mixed ?_
          conv => whnf
          replace q299 := bind_some q299
          obtain ⟨x300, q301, q299⟩ := q299
          refine ⟨(ix_some q301).1, ?_⟩
          conv => whnf
          refine ⟨⟨_, map_get encAct (ix_some q301).2, ?_⟩⟩
          conv => whnf
          refine ⟨rfl, ?_⟩
          conv => whnf
          refine Tri.cond rfl (fun c302 => ?_) (fun c302 => ?_)
          · replace q299 := if_t c302 q299
            refine Tri.run (G := gm_law10_plays) tyOk mixed ?_
            conv => whnf
            refine Draw.one 16 (.take 1 (.take 2 (.take 3 (.take 4 (.take 5 (.take 6 (.take 7 (.take 8 (.take 9 (.take 10 (.alt 0 (.alt 11 (.take 12 (.take 13 (.take 14 (.alt 15 (.fin) (.nil))))) (.nil)) (.nil)))))))))))) [1, 2, 3, 4, 5, 6, 7] (by kernel_rfl) ?_
            conv => whnf
            refine ⟨(ix_some q301).1, ?_⟩
            conv => whnf
            refine ⟨⟨_, map_get encAct (ix_some q301).2, ?_⟩⟩
            conv => whnf
            refine ⟨rfl, ?_⟩
            conv => whnf
            refine ⟨(ix_some q301).1, ?_⟩
            conv => whnf
            refine ⟨⟨_, map_get encAct (ix_some q301).2, ?_⟩⟩
            conv => whnf
            refine ⟨rfl, ?_⟩
            conv => whnf
            refine ⟨?_, ?_⟩
            · conv => whnf
              refine ⟨?_, ?_⟩
              · conv => whnf
                replace q299 := bind_some q299
                obtain ⟨y305, q306, q299⟩ := q299
                refine PureP.mono (lock_Ask_walk ({ Held := a257, Queue := a258 } : Locks) x300.Txn x300.W 9 y305 q306) ?_
                rintro _ rfl
                conv => whnf
                refine ⟨?_, ?_⟩
                · conv => whnf
                  cases q299
                  exact ⟨rfl, weak_fin _ rfl rfl rfl (.cons (.same rfl) (.cons (.same rfl) (LeH.rest))) (.cons (.one (.same rfl)) (.cons (.one (.same rfl)) (.cons (.one (.same rfl)) (.cons (.one (.same rfl)) (.nil))))) rfl rfl⟩
                · conv => whnf
                  trivial
              · conv => whnf
                trivial
            · conv => whnf
              trivial
          · replace q299 := if_f c302 q299
            refine Tri.run (G := gm_law10_plays) tyOk mixed ?_
            conv => whnf
            refine Draw.one 11 (.take 1 (.take 2 (.take 3 (.take 4 (.take 5 (.alt 0 (.alt 6 (.take 7 (.take 8 (.take 9 (.alt 10 (.fin) (.nil))))) (.nil)) (.nil))))))) [1, 2, 3, 4, 5, 6, 7] (by kernel_rfl) ?_
            conv => whnf
            refine ⟨(ix_some q301).1, ?_⟩
            conv => whnf
            refine ⟨⟨_, map_get encAct (ix_some q301).2, ?_⟩⟩
            conv => whnf
            refine ⟨rfl, ?_⟩
            conv => whnf
            refine ⟨?_, ?_⟩
            · conv => whnf
              refine ⟨?_, ?_⟩
              · conv => whnf
                replace q299 := bind_some q299
                obtain ⟨y309, q310, q299⟩ := q299
                refine PureP.mono (lock_Free_walk ({ Held := a257, Queue := a258 } : Locks) x300.Txn y309 q310) ?_
                rintro _ rfl
                conv => whnf
                refine ⟨?_, ?_⟩
                · conv => whnf
                  cases q299
                  exact ⟨rfl, weak_fin _ rfl rfl rfl (.cons (.same rfl) (.cons (.same rfl) (LeH.rest))) (.cons (.one (.same rfl)) (.cons (.one (.same rfl)) (.cons (.one (.same rfl)) (.cons (.one (.same rfl)) (.nil))))) rfl rfl⟩
                · conv => whnf
                  trivial
              · conv => whnf
                trivial
            · conv => whnf
              trivial
        · rintro ex S' ⟨rfl, w311⟩
          conv => whnf
          refine Tri.weak w311 ?_
          refine Tri.run (G := gm_law10_plays) tyOk mixed ?_
          conv => whnf
          cases hv
          exact ⟨_, rfl, weak_fin _ rfl rfl rfl (.cons (.same rfl) (.cons (.same rfl) (LeH.rest))) (.cons (.one (.same rfl)) (.cons (.one (.same rfl)) (.cons (.one (.same rfl)) (.cons (.one (.same rfl)) (.nil))))) rfl rfl⟩
      · replace hv := if_f c275 hv
        refine Tri.run (G := gm_law10_plays) tyOk mixed ?_
        conv => whnf
        cases hv
        obtain rfl := r263 _ rfl
        exact ⟨rfl, weak_fin _ rfl rfl rfl (.cons (.same rfl) (.cons (.same rfl) (LeH.rest))) (.cons (.one (.same rfl)) (.cons (.one (.same rfl)) (.nil))) rfl rfl⟩
  · rintro ex S' ⟨rfl, w312⟩
    conv => whnf
    refine Tri.weak w312 ?_
    refine Tri.seqK ?_
    refine Tri.run (G := gm_law10_plays) tyOk mixed ?_
    conv => whnf
    refine Tri.run (G := gm_law10_plays) tyOk mixed ?_
    conv => whnf
    refine fin_here ?_
    conv => whnf
    cases h
    rfl
noncomputable def law10_LockApart_l14 (y3 : Locks) (a938 : Int) (a1189 : Int) : Option ((Int) ⊕ ((Unit) ⊕ (Unit))) :=
  if (decide (a1189 < a938)) then
    (ix y3.Held a938).bind fun x1227 =>
    (ix y3.Held a1189).bind fun x1229 =>
    (ref09_Clash x1227.W x1229.W).bind fun y1231 =>
    if (y1231 && (!(decide (x1227.Txn = x1229.Txn)))) then
      some (.inr (.inl ()))
    else
      some (.inl (IntKind.i64.wrap (a1189 + 1)))
  else
    some (.inr (.inr ()))
noncomputable def law10_LockApart_l12 (y3 : Locks) (a938 : Int) : Option ((Int) ⊕ ((Unit) ⊕ (Unit))) :=
  if (decide (a938 < (y3.Held.length : Int))) then
    (loop (fun (s1194 : Int) => law10_LockApart_l14 y3 a938 s1194) (0 : Int)).bind fun (y1190 : (Unit) ⊕ (Unit)) =>
    match y1190 with
    | (.inl v1192) =>
      some (.inr (.inl ()))
    | (.inr v1193) =>
      some (.inl (IntKind.i64.wrap (a938 + 1)))
  else
    some (.inr (.inr ()))
noncomputable def law10_LockApart (l : (List Act)) : Option (Bool) :=
  law10_shown.bind fun y1 =>
  (law10_plays l).bind fun y3 =>
  (loop (fun (s943 : Int) => law10_LockApart_l12 y3 s943) (0 : Int)).bind fun (y939 : (Unit) ⊕ (Unit)) =>
  match y939 with
  | (.inl v941) =>
    some false
  | (.inr v942) =>
    some y1
def gm_law10_LockApart : Gm := ⟨tys, [], [], []⟩
theorem law10_LockApart_walk (l : (List Act)) (r : Bool) (h : law10_LockApart l = some r) : PureP Try.prog 9 [.sl (List.map encAct l)] (fun a => a = .v (.bool r)) := by
  unfold law10_LockApart at h
  refine pureW (G := gm_law10_LockApart) tyOk Try.func9 rfl (by kernel_rfl) (by simp [Try.f9]) ?_
  refine Tri.seqK ?_
  refine Tri.run (G := gm_law10_LockApart) tyOk mixed ?_
  conv => whnf
  refine Tri.seqK ?_
  refine Tri.run (G := gm_law10_LockApart) tyOk mixed ?_
  conv => whnf
  replace h := bind_some h
  obtain ⟨y1, q2, h⟩ := h
  refine PureP.mono (law10_shown_walk y1 q2) ?_
  rintro _ rfl
  conv => whnf
  refine Tri.seqK ?_
  refine Tri.run (G := gm_law10_LockApart) tyOk mixed ?_
  conv => whnf
  replace h := bind_some h
  obtain ⟨y3, q4, h⟩ := h
  refine PureP.mono (law10_plays_walk l y3 q4) ?_
  rintro _ rfl
  conv => whnf
  refine Tri.seqK ?_
  refine Tri.seqK ?_
  refine Tri.run (G := gm_law10_LockApart) tyOk mixed ?_
  conv => whnf
  refine Tri.block ?_
  replace h := bind_some h
  obtain ⟨y939, q940, h⟩ := h
  refine Tri.cut (fun ex S' => (∃ v941 : Unit, y939 = (.inl v941) ∧ ex = .ret ∧ Weak S' ⟨53, 0, ofRegs [(2, .v (.bool false))], []⟩) ∨ (∃ v942 : Unit, y939 = (.inr v942) ∧ ex = (.exit 0) ∧ Weak S' ⟨53, 0, ofRegs [(3, .v (.bool y1))], []⟩)) ?_ ?_
  · refine Tri.loopF (fun (s943 : Int) => (⟨53, 0, ofRegs [(3, .v (.bool y1)), (4, .ptr 0 0), (5, .v (.int .i64 s943))], [.var 25 [.sl (List.map encHold y3.Held), .sl (List.map encClaim y3.Queue)]]⟩ : St)) q940 (weak_fin _ rfl rfl rfl (.cons (.same rfl) (LeH.rest)) (.cons (.one (.same rfl)) (.cons (.one (.same rfl)) (.cons (.one (.same rfl)) (.nil)))) rfl rfl) ?_
    rintro a938 v944 hv r945
    have hv : law10_LockApart_l12 y3 a938 = some v944 := hv
    unfold law10_LockApart_l12 at hv
    refine Tri.seqK ?_
    refine Tri.seqK ?_
    refine Tri.run (G := gm_law10_LockApart) tyOk mixed ?_
    conv => whnf
    refine ⟨⟨(y3.Held.length : Int), (len_map _ _).symm, ?_⟩⟩
    conv => whnf
    refine Tri.cond rfl (fun c947 => ?_) (fun c947 => ?_)
    · replace hv := if_t c947 hv
      refine Tri.run (G := gm_law10_LockApart) tyOk mixed ?_
      conv => whnf
      refine Tri.seqK ?_
      refine Tri.block ?_
      refine Tri.seqK ?_
      refine Tri.run (G := gm_law10_LockApart) tyOk mixed ?_
      conv => whnf
      refine Tri.block ?_
      replace hv := bind_some hv
      obtain ⟨y1190, q1191, hv⟩ := hv
      refine Tri.cut (fun ex S' => (∃ v1192 : Unit, y1190 = (.inl v1192) ∧ ex = .ret ∧ Weak S' ⟨53, 0, ofRegs [(2, .v (.bool false))], []⟩) ∨ (∃ v1193 : Unit, y1190 = (.inr v1193) ∧ ex = (.exit 2) ∧ Weak S' ⟨53, 0, ofRegs [(3, .v (.bool y1)), (4, .ptr 0 0), (5, .v (.int .i64 a938))], [.var 25 [.sl (List.map encHold y3.Held), .sl (List.map encClaim y3.Queue)]]⟩)) ?_ ?_
      · refine Tri.loopF (fun (s1194 : Int) => (⟨53, 0, ofRegs [(3, .v (.bool y1)), (4, .ptr 0 0), (5, .v (.int .i64 a938)), (6, .v (.int .i64 s1194))], [.var 25 [.sl (List.map encHold y3.Held), .sl (List.map encClaim y3.Queue)]]⟩ : St)) q1191 (weak_fin _ rfl rfl rfl (.cons (.same rfl) (LeH.rest)) (.cons (.one (.same rfl)) (.cons (.one (.same rfl)) (.cons (.one (.same rfl)) (.cons (.one (.same rfl)) (.nil))))) rfl rfl) ?_
        rintro a1189 v1195 hv r1196
        have hv : law10_LockApart_l14 y3 a938 a1189 = some v1195 := hv
        unfold law10_LockApart_l14 at hv
        refine Tri.seqK ?_
        refine Tri.seqK ?_
        refine Tri.run (G := gm_law10_LockApart) tyOk mixed ?_
        conv => whnf
        refine Tri.cond rfl (fun c1198 => ?_) (fun c1198 => ?_)
        · replace hv := if_t c1198 hv
          refine Tri.run (G := gm_law10_LockApart) tyOk mixed ?_
          conv => whnf
          refine Tri.seqK ?_
          refine Tri.block ?_
          refine Tri.seqK ?_
          refine Tri.run (G := gm_law10_LockApart) tyOk mixed ?_
          conv => whnf
          refine Draw.one 14 (.take 0 (.take 1 (.take 2 (.take 3 (.take 4 (.take 5 (.take 6 (.take 7 (.take 8 (.take 9 (.take 10 (.take 11 (.alt 12 (.take 13 (.fin)) (.nil)))))))))))))) [] (by kernel_rfl) ?_
          conv => whnf
          replace hv := bind_some hv
          obtain ⟨x1227, q1228, hv⟩ := hv
          refine ⟨(ix_some q1228).1, ?_⟩
          conv => whnf
          refine ⟨⟨_, map_get encHold (ix_some q1228).2, ?_⟩⟩
          conv => whnf
          refine ⟨rfl, ?_⟩
          conv => whnf
          replace hv := bind_some hv
          obtain ⟨x1229, q1230, hv⟩ := hv
          refine ⟨(ix_some q1230).1, ?_⟩
          conv => whnf
          refine ⟨⟨_, map_get encHold (ix_some q1230).2, ?_⟩⟩
          conv => whnf
          refine ⟨rfl, ?_⟩
          conv => whnf
          refine ⟨?_, ?_⟩
          · conv => whnf
            replace hv := bind_some hv
            obtain ⟨y1231, q1232, hv⟩ := hv
            refine PureP.mono (ref09_Clash_walk x1227.W x1229.W y1231 q1232) ?_
            rintro _ rfl
            conv => whnf
            refine Tri.seqK ?_
            refine Tri.cut (fun ex S' => ex = .normal ∧ Weak S' ⟨53, 0, ofRegs [(3, .v (.bool y1)), (4, .ptr 0 0), (5, .v (.int .i64 a938)), (6, .v (.int .i64 a1189)), (51, .v (.bool (y1231 && (!(decide (x1227.Txn = x1229.Txn))))))], [.var 25 [.sl (List.map encHold y3.Held), .sl (List.map encClaim y3.Queue)]]⟩) ?_ ?_
            · refine Tri.run (G := gm_law10_LockApart) tyOk mixed ?_
              conv => whnf
              refine Draw.one 16 (.take 0 (.take 1 (.take 2 (.take 3 (.take 4 (.take 5 (.take 6 (.take 7 (.take 8 (.take 9 (.take 10 (.take 11 (.take 12 (.take 13 (.take 14 (.take 15 (.fin))))))))))))))))) [] (by kernel_rfl) ?_
              conv => whnf
              refine cond_mk (fun c1240 => ?_) (fun c1240 => ?_)
              · replace c1240 : y1231 = true := c1240
                conv => whnf
                refine ⟨(ix_some q1228).1, ?_⟩
                conv => whnf
                refine ⟨⟨_, map_get encHold (ix_some q1228).2, ?_⟩⟩
                conv => whnf
                refine ⟨rfl, ?_⟩
                conv => whnf
                refine ⟨(ix_some q1230).1, ?_⟩
                conv => whnf
                refine ⟨⟨_, map_get encHold (ix_some q1230).2, ?_⟩⟩
                conv => whnf
                refine ⟨rfl, ?_⟩
                conv => whnf
                exact ⟨rfl, weak_fin _ rfl rfl rfl (.cons (.same rfl) (LeH.rest)) (.cons (.one (.same rfl)) (.cons (.one (.same rfl)) (.cons (.one (.same rfl)) (.cons (.one (.same rfl)) (.cons (.one (.same (show (.v (.bool (!(decide (x1227.Txn = x1229.Txn)))) : AV) = (.v (.bool (y1231 && (!(decide (x1227.Txn = x1229.Txn))))) : AV) from by first | (simp [c1240]; done) | simp only [c1240, Bool.or_true, Bool.true_or, Bool.false_or, Bool.or_false, Bool.and_true, Bool.true_and, Bool.and_false, Bool.false_and, Bool.not_true, Bool.not_false, if_true, if_false, Bool.false_eq_true]))) (.nil)))))) rfl rfl⟩
              · replace c1240 : y1231 = false := c1240
                conv => whnf
                exact ⟨rfl, weak_fin _ rfl rfl rfl (.cons (.same rfl) (LeH.rest)) (.cons (.one (.same rfl)) (.cons (.one (.same rfl)) (.cons (.one (.same rfl)) (.cons (.one (.same rfl)) (.cons (.one (.same (show (.v (.bool false) : AV) = (.v (.bool (y1231 && (!(decide (x1227.Txn = x1229.Txn))))) : AV) from by first | (simp [c1240]; done) | simp only [c1240, Bool.or_true, Bool.true_or, Bool.false_or, Bool.or_false, Bool.and_true, Bool.true_and, Bool.and_false, Bool.false_and, Bool.not_true, Bool.not_false, if_true, if_false, Bool.false_eq_true]))) (.nil)))))) rfl rfl⟩
            · rintro ex S' ⟨rfl, w1241⟩
              conv => whnf
              refine Tri.weak w1241 ?_
              refine Tri.cond rfl (fun c1242 => ?_) (fun c1242 => ?_)
              · replace hv := if_t c1242 hv
                refine Tri.seqK ?_
                refine Tri.run (G := gm_law10_LockApart) tyOk mixed ?_
                conv => whnf
                refine Tri.run (G := gm_law10_LockApart) tyOk mixed ?_
                conv => whnf
                cases hv
                obtain rfl := r1196 _ rfl
                exact Or.inl ⟨_, rfl, rfl, weak_fin _ rfl rfl rfl (LeH.rest) (.cons (.one (.same rfl)) (.nil)) rfl rfl⟩
              · replace hv := if_f c1242 hv
                refine Tri.run (G := gm_law10_LockApart) tyOk mixed ?_
                conv => whnf
                refine Tri.run (G := gm_law10_LockApart) tyOk mixed ?_
                conv => whnf
                cases hv
                exact ⟨_, rfl, weak_fin _ rfl rfl rfl (.cons (.same rfl) (LeH.rest)) (.cons (.one (.same rfl)) (.cons (.one (.same rfl)) (.cons (.one (.same rfl)) (.cons (.one (.same rfl)) (.nil))))) rfl rfl⟩
          · conv => whnf
            trivial
        · replace hv := if_f c1198 hv
          refine Tri.run (G := gm_law10_LockApart) tyOk mixed ?_
          conv => whnf
          cases hv
          obtain rfl := r1196 _ rfl
          exact Or.inr (⟨_, rfl, rfl, weak_fin _ rfl rfl rfl (.cons (.same rfl) (LeH.rest)) (.cons (.one (.same rfl)) (.cons (.one (.same rfl)) (.cons (.one (.same rfl)) (.nil)))) rfl rfl⟩)
      · rintro ex S' (⟨v1192, rfl, rfl, w1243⟩ | ⟨v1193, rfl, rfl, w1243⟩)
        · dsimp only at hv
          conv => whnf
          cases hv
          obtain rfl := r945 _ rfl
          exact Or.inl ⟨_, rfl, rfl, Weak.trans w1243 (weak_fin _ rfl rfl rfl (LeH.rest) (.cons (.one (.same rfl)) (.nil)) rfl rfl)⟩
        · dsimp only at hv
          conv => whnf
          refine Tri.weak w1243 ?_
          refine Tri.run (G := gm_law10_LockApart) tyOk mixed ?_
          conv => whnf
          cases hv
          exact ⟨_, rfl, weak_fin _ rfl rfl rfl (.cons (.same rfl) (LeH.rest)) (.cons (.one (.same rfl)) (.cons (.one (.same rfl)) (.cons (.one (.same rfl)) (.nil)))) rfl rfl⟩
    · replace hv := if_f c947 hv
      refine Tri.run (G := gm_law10_LockApart) tyOk mixed ?_
      conv => whnf
      cases hv
      obtain rfl := r945 _ rfl
      exact Or.inr (⟨_, rfl, rfl, weak_fin _ rfl rfl rfl (LeH.rest) (.cons (.one (.same rfl)) (.nil)) rfl rfl⟩)
  · rintro ex S' (⟨v941, rfl, rfl, w1244⟩ | ⟨v942, rfl, rfl, w1244⟩)
    · dsimp only at h
      conv => whnf
      refine fin_pre w1244 ?_
      conv => whnf
      cases h
      rfl
    · dsimp only at h
      conv => whnf
      refine Tri.weak w1244 ?_
      refine Tri.seqK ?_
      refine Tri.run (G := gm_law10_LockApart) tyOk mixed ?_
      conv => whnf
      refine Tri.run (G := gm_law10_LockApart) tyOk mixed ?_
      conv => whnf
      refine fin_here ?_
      conv => whnf
      cases h
      rfl
noncomputable def law10_LockWaits_l14 (y3 : Locks) (a426 : Int) (x496 : Claim) (a527 : Int) : Option ((Int) ⊕ ((Unit) ⊕ (Unit))) :=
  if (decide (a527 < a426)) then
    (ix y3.Queue a527).bind fun x544 =>
    if (decide (x544.Txn = x496.Txn)) then
      some (.inr (.inl ()))
    else
      some (.inl (IntKind.i64.wrap (a527 + 1)))
  else
    some (.inr (.inr ()))
noncomputable def law10_LockWaits_l12 (y3 : Locks) (a426 : Int) : Option ((Int) ⊕ ((Unit) ⊕ (Unit))) :=
  if (decide (a426 < (y3.Queue.length : Int))) then
    (ix y3.Queue a426).bind fun x496 =>
    (lock_Blockers y3 x496.Txn x496.W a426).bind fun y498 =>
    if (decide ((y498.length : Int) = 0)) then
      some (.inr (.inl ()))
    else
      (loop (fun (s532 : Int) => law10_LockWaits_l14 y3 a426 x496 s532) (0 : Int)).bind fun (y528 : (Unit) ⊕ (Unit)) =>
      match y528 with
      | (.inl v530) =>
        some (.inr (.inl ()))
      | (.inr v531) =>
        some (.inl (IntKind.i64.wrap (a426 + 1)))
  else
    some (.inr (.inr ()))
noncomputable def law10_LockWaits (l : (List Act)) : Option (Bool) :=
  law10_shown.bind fun y1 =>
  (law10_plays l).bind fun y3 =>
  (loop (fun (s431 : Int) => law10_LockWaits_l12 y3 s431) (0 : Int)).bind fun (y427 : (Unit) ⊕ (Unit)) =>
  match y427 with
  | (.inl v429) =>
    some false
  | (.inr v430) =>
    if y1 then
      some (decide ((y3.Queue.length : Int) ≤ 16))
    else
      some false
def gm_law10_LockWaits : Gm := ⟨tys, [], [], []⟩
theorem law10_LockWaits_walk (l : (List Act)) (r : Bool) (h : law10_LockWaits l = some r) : PureP Try.prog 10 [.sl (List.map encAct l)] (fun a => a = .v (.bool r)) := by
  unfold law10_LockWaits at h
  refine pureW (G := gm_law10_LockWaits) tyOk Try.func10 rfl (by kernel_rfl) (by simp [Try.f10]) ?_
  refine Tri.seqK ?_
  refine Tri.run (G := gm_law10_LockWaits) tyOk mixed ?_
  conv => whnf
  refine Tri.seqK ?_
  refine Tri.run (G := gm_law10_LockWaits) tyOk mixed ?_
  conv => whnf
  replace h := bind_some h
  obtain ⟨y1, q2, h⟩ := h
  refine PureP.mono (law10_shown_walk y1 q2) ?_
  rintro _ rfl
  conv => whnf
  refine Tri.seqK ?_
  refine Tri.run (G := gm_law10_LockWaits) tyOk mixed ?_
  conv => whnf
  replace h := bind_some h
  obtain ⟨y3, q4, h⟩ := h
  refine PureP.mono (law10_plays_walk l y3 q4) ?_
  rintro _ rfl
  conv => whnf
  refine Tri.seqK ?_
  refine Tri.seqK ?_
  refine Tri.run (G := gm_law10_LockWaits) tyOk mixed ?_
  conv => whnf
  refine Tri.block ?_
  replace h := bind_some h
  obtain ⟨y427, q428, h⟩ := h
  refine Tri.cut (fun ex S' => (∃ v429 : Unit, y427 = (.inl v429) ∧ ex = .ret ∧ Weak S' ⟨61, 0, ofRegs [(2, .v (.bool false))], []⟩) ∨ (∃ v430 : Unit, y427 = (.inr v430) ∧ ex = (.exit 0) ∧ Weak S' ⟨61, 0, ofRegs [(3, .v (.bool y1)), (4, .ptr 0 0)], [.var 25 [.sl (List.map encHold y3.Held), .sl (List.map encClaim y3.Queue)]]⟩)) ?_ ?_
  · refine Tri.loopF (fun (s431 : Int) => (⟨61, 0, ofRegs [(3, .v (.bool y1)), (4, .ptr 0 0), (5, .v (.int .i64 s431))], [.var 25 [.sl (List.map encHold y3.Held), .sl (List.map encClaim y3.Queue)]]⟩ : St)) q428 (weak_fin _ rfl rfl rfl (.cons (.same rfl) (LeH.rest)) (.cons (.one (.same rfl)) (.cons (.one (.same rfl)) (.cons (.one (.same rfl)) (.nil)))) rfl rfl) ?_
    rintro a426 v432 hv r433
    have hv : law10_LockWaits_l12 y3 a426 = some v432 := hv
    unfold law10_LockWaits_l12 at hv
    refine Tri.seqK ?_
    refine Tri.seqK ?_
    refine Tri.run (G := gm_law10_LockWaits) tyOk mixed ?_
    conv => whnf
    refine ⟨⟨(y3.Queue.length : Int), (len_map _ _).symm, ?_⟩⟩
    conv => whnf
    refine Tri.cond rfl (fun c435 => ?_) (fun c435 => ?_)
    · replace hv := if_t c435 hv
      refine Tri.run (G := gm_law10_LockWaits) tyOk mixed ?_
      conv => whnf
      refine Tri.seqK ?_
      refine Tri.block ?_
      refine Tri.seqK ?_
      refine Tri.run (G := gm_law10_LockWaits) tyOk mixed ?_
      conv => whnf
      refine Draw.one 16 (.take 0 (.take 1 (.take 2 (.take 3 (.take 4 (.take 5 (.take 6 (.take 7 (.take 8 (.take 9 (.take 10 (.take 11 (.take 12 (.take 13 (.alt 14 (.take 15 (.fin)) (.nil)))))))))))))))) [] (by kernel_rfl) ?_
      conv => whnf
      replace hv := bind_some hv
      obtain ⟨x496, q497, hv⟩ := hv
      refine ⟨(ix_some q497).1, ?_⟩
      conv => whnf
      refine ⟨⟨_, map_get encClaim (ix_some q497).2, ?_⟩⟩
      conv => whnf
      refine ⟨rfl, ?_⟩
      conv => whnf
      refine ⟨(ix_some q497).1, ?_⟩
      conv => whnf
      refine ⟨⟨_, map_get encClaim (ix_some q497).2, ?_⟩⟩
      conv => whnf
      refine ⟨rfl, ?_⟩
      conv => whnf
      refine ⟨?_, ?_⟩
      · conv => whnf
        replace hv := bind_some hv
        obtain ⟨y498, q499, hv⟩ := hv
        refine PureP.mono (lock_Blockers_walk y3 x496.Txn x496.W a426 y498 q499) ?_
        rintro _ rfl
        conv => whnf
        refine Tri.seqK ?_
        refine Tri.seqK ?_
        refine Tri.run (G := gm_law10_LockWaits) tyOk mixed ?_
        conv => whnf
        refine ⟨⟨(y498.length : Int), (len_map _ _).symm, ?_⟩⟩
        conv => whnf
        refine Tri.cond rfl (fun c501 => ?_) (fun c501 => ?_)
        · replace hv := if_t c501 hv
          refine Tri.seqK ?_
          refine Tri.run (G := gm_law10_LockWaits) tyOk mixed ?_
          conv => whnf
          refine Tri.run (G := gm_law10_LockWaits) tyOk mixed ?_
          conv => whnf
          cases hv
          obtain rfl := r433 _ rfl
          exact Or.inl ⟨_, rfl, rfl, weak_fin _ rfl rfl rfl (LeH.rest) (.cons (.one (.same rfl)) (.nil)) rfl rfl⟩
        · replace hv := if_f c501 hv
          refine Tri.run (G := gm_law10_LockWaits) tyOk mixed ?_
          conv => whnf
          refine Tri.seqK ?_
          refine Tri.run (G := gm_law10_LockWaits) tyOk mixed ?_
          conv => whnf
          refine Tri.block ?_
          replace hv := bind_some hv
          obtain ⟨y528, q529, hv⟩ := hv
          refine Tri.cut (fun ex S' => (∃ v530 : Unit, y528 = (.inl v530) ∧ ex = .ret ∧ Weak S' ⟨61, 0, ofRegs [(2, .v (.bool false))], []⟩) ∨ (∃ v531 : Unit, y528 = (.inr v531) ∧ ex = (.exit 2) ∧ Weak S' ⟨61, 0, ofRegs [(3, .v (.bool y1)), (4, .ptr 0 0), (5, .v (.int .i64 a426))], [.var 25 [.sl (List.map encHold y3.Held), .sl (List.map encClaim y3.Queue)]]⟩)) ?_ ?_
          · refine Tri.loopF (fun (s532 : Int) => (⟨61, 0, ofRegs [(3, .v (.bool y1)), (4, .ptr 0 0), (5, .v (.int .i64 a426)), (7, .v (.int .i64 s532))], [.var 25 [.sl (List.map encHold y3.Held), .sl (List.map encClaim y3.Queue)]]⟩ : St)) q529 (weak_fin _ rfl rfl rfl (.cons (.same rfl) (LeH.rest)) (.cons (.one (.same rfl)) (.cons (.one (.same rfl)) (.cons (.one (.same rfl)) (.cons (.one (.same rfl)) (.nil))))) rfl rfl) ?_
            rintro a527 v533 hv r534
            have hv : law10_LockWaits_l14 y3 a426 x496 a527 = some v533 := hv
            unfold law10_LockWaits_l14 at hv
            refine Tri.seqK ?_
            refine Tri.seqK ?_
            refine Tri.run (G := gm_law10_LockWaits) tyOk mixed ?_
            conv => whnf
            refine Tri.cond rfl (fun c536 => ?_) (fun c536 => ?_)
            · replace hv := if_t c536 hv
              refine Tri.run (G := gm_law10_LockWaits) tyOk mixed ?_
              conv => whnf
              refine Tri.seqK ?_
              refine Tri.block ?_
              refine Tri.seqK ?_
              refine Tri.run (G := gm_law10_LockWaits) tyOk mixed ?_
              conv => whnf
              refine Draw.one 13 (.take 0 (.take 1 (.take 2 (.take 3 (.take 4 (.take 5 (.take 6 (.take 7 (.take 8 (.take 9 (.take 10 (.take 11 (.take 12 (.fin)))))))))))))) [] (by kernel_rfl) ?_
              conv => whnf
              replace hv := bind_some hv
              obtain ⟨x544, q545, hv⟩ := hv
              refine ⟨(ix_some q545).1, ?_⟩
              conv => whnf
              refine ⟨⟨_, map_get encClaim (ix_some q545).2, ?_⟩⟩
              conv => whnf
              refine ⟨rfl, ?_⟩
              conv => whnf
              refine ⟨(ix_some q497).1, ?_⟩
              conv => whnf
              refine ⟨⟨_, map_get encClaim (ix_some q497).2, ?_⟩⟩
              conv => whnf
              refine ⟨rfl, ?_⟩
              conv => whnf
              refine Tri.cond rfl (fun c546 => ?_) (fun c546 => ?_)
              · replace hv := if_t c546 hv
                refine Tri.seqK ?_
                refine Tri.run (G := gm_law10_LockWaits) tyOk mixed ?_
                conv => whnf
                refine Tri.run (G := gm_law10_LockWaits) tyOk mixed ?_
                conv => whnf
                cases hv
                obtain rfl := r534 _ rfl
                exact Or.inl ⟨_, rfl, rfl, weak_fin _ rfl rfl rfl (LeH.rest) (.cons (.one (.same rfl)) (.nil)) rfl rfl⟩
              · replace hv := if_f c546 hv
                refine Tri.run (G := gm_law10_LockWaits) tyOk mixed ?_
                conv => whnf
                refine Tri.run (G := gm_law10_LockWaits) tyOk mixed ?_
                conv => whnf
                cases hv
                exact ⟨_, rfl, weak_fin _ rfl rfl rfl (.cons (.same rfl) (LeH.rest)) (.cons (.one (.same rfl)) (.cons (.one (.same rfl)) (.cons (.one (.same rfl)) (.cons (.one (.same rfl)) (.nil))))) rfl rfl⟩
            · replace hv := if_f c536 hv
              refine Tri.run (G := gm_law10_LockWaits) tyOk mixed ?_
              conv => whnf
              cases hv
              obtain rfl := r534 _ rfl
              exact Or.inr (⟨_, rfl, rfl, weak_fin _ rfl rfl rfl (.cons (.same rfl) (LeH.rest)) (.cons (.one (.same rfl)) (.cons (.one (.same rfl)) (.cons (.one (.same rfl)) (.nil)))) rfl rfl⟩)
          · rintro ex S' (⟨v530, rfl, rfl, w547⟩ | ⟨v531, rfl, rfl, w547⟩)
            · dsimp only at hv
              conv => whnf
              cases hv
              obtain rfl := r433 _ rfl
              exact Or.inl ⟨_, rfl, rfl, Weak.trans w547 (weak_fin _ rfl rfl rfl (LeH.rest) (.cons (.one (.same rfl)) (.nil)) rfl rfl)⟩
            · dsimp only at hv
              conv => whnf
              refine Tri.weak w547 ?_
              refine Tri.run (G := gm_law10_LockWaits) tyOk mixed ?_
              conv => whnf
              cases hv
              exact ⟨_, rfl, weak_fin _ rfl rfl rfl (.cons (.same rfl) (LeH.rest)) (.cons (.one (.same rfl)) (.cons (.one (.same rfl)) (.cons (.one (.same rfl)) (.nil)))) rfl rfl⟩
      · conv => whnf
        trivial
    · replace hv := if_f c435 hv
      refine Tri.run (G := gm_law10_LockWaits) tyOk mixed ?_
      conv => whnf
      cases hv
      obtain rfl := r433 _ rfl
      exact Or.inr (⟨_, rfl, rfl, weak_fin _ rfl rfl rfl (.cons (.same rfl) (LeH.rest)) (.cons (.one (.same rfl)) (.cons (.one (.same rfl)) (.nil))) rfl rfl⟩)
  · rintro ex S' (⟨v429, rfl, rfl, w548⟩ | ⟨v430, rfl, rfl, w548⟩)
    · dsimp only at h
      conv => whnf
      refine fin_pre w548 ?_
      conv => whnf
      cases h
      rfl
    · dsimp only at h
      conv => whnf
      refine Tri.weak w548 ?_
      refine Tri.seqK ?_
      refine Tri.run (G := gm_law10_LockWaits) tyOk mixed ?_
      conv => whnf
      refine cond_mk (fun c549 => ?_) (fun c549 => ?_)
      · replace h := if_t c549 h
        conv => whnf
        refine ⟨⟨(y3.Queue.length : Int), (len_map _ _).symm, ?_⟩⟩
        conv => whnf
        refine Tri.run (G := gm_law10_LockWaits) tyOk mixed ?_
        conv => whnf
        refine fin_here ?_
        conv => whnf
        cases h
        rfl
      · replace h := if_f c549 h
        conv => whnf
        refine Tri.run (G := gm_law10_LockWaits) tyOk mixed ?_
        conv => whnf
        refine fin_here ?_
        conv => whnf
        cases h
        rfl
noncomputable def law10_LockGoes_l2 (txn : Int) (y17 : Locks × (List Int)) (a70 : Int) : Option ((Int) ⊕ ((Unit) ⊕ (Unit))) :=
  if (decide (a70 < (y17.1.Held.length : Int))) then
    (ix y17.1.Held a70).bind fun x83 =>
    if (decide (x83.Txn = txn)) then
      some (.inr (.inl ()))
    else
      some (.inl (IntKind.i64.wrap (a70 + 1)))
  else
    some (.inr (.inr ()))
noncomputable def law10_LockGoes_l4 (l : Locks) (txn : Int) (y17 : Locks × (List Int)) (a886 : Int) (a887 : Int) : Option ((Int × Int) ⊕ ((Unit) ⊕ (Int))) :=
  if (decide (a887 < (l.Held.length : Int))) then
    (
      (ix l.Held a887).bind fun x1004 =>
      if (decide (x1004.Txn = txn)) then
        some (.inl a886)
      else
        (
          if (decide (a886 ≥ (y17.1.Held.length : Int))) then
            some true
          else
            (ix y17.1.Held a886).bind fun x1047 =>
            some (!(decide (x1047 = x1004)))).bind fun (y1041 : Bool) =>
        if y1041 then
          some (.inr ())
        else
          some (.inl (IntKind.i64.wrap (a886 + 1)))).bind fun (y997 : (Int) ⊕ (Unit)) =>
    match y997 with
    | (.inl v999) =>
      some (.inl (v999, (IntKind.i64.wrap (a887 + 1))))
    | (.inr v1000) =>
      some (.inr (.inl ()))
  else
    some (.inr (.inr a886))
noncomputable def law10_LockGoes (l : Locks) (txn : Int) : Option (Bool) :=
  law10_shown.bind fun y1 =>
  (law10_small l).bind fun y3 =>
  if ((!y1) || (!y3)) then
    some y1
  else
    (lock_Free l txn).bind fun y17 =>
    (loop (fun (s75 : Int) => law10_LockGoes_l2 txn y17 s75) (0 : Int)).bind fun (y71 : (Unit) ⊕ (Unit)) =>
    match y71 with
    | (.inl v73) =>
      some false
    | (.inr v74) =>
      (loop (fun (s892 : Int × Int) => law10_LockGoes_l4 l txn y17 s892.1 s892.2) ((0 : Int), (0 : Int))).bind fun (y888 : (Unit) ⊕ (Int)) =>
      match y888 with
      | (.inl v890) =>
        some false
      | (.inr v891) =>
        (lock_Waits y17.1 txn).bind fun y1053 =>
        if (!y1053) then
          some (decide ((y17.1.Held.length : Int) = (IntKind.i64.wrap (v891 + (y17.2.length : Int)))))
        else
          some false
def gm_law10_LockGoes : Gm := ⟨tys, [], [], []⟩
theorem law10_LockGoes_walk (l : Locks) (txn : Int) (r : Bool) (h : law10_LockGoes l txn = some r) : PureP Try.prog 11 [.agg [.sl (List.map encHold l.Held), .sl (List.map encClaim l.Queue)], .v (.int .i64 txn)] (fun a => a = .v (.bool r)) := by
  unfold law10_LockGoes at h
  refine pureW (G := gm_law10_LockGoes) tyOk Try.func11 rfl (by kernel_rfl) (by simp [Try.f11]) ?_
  refine Tri.seqK ?_
  refine Tri.run (G := gm_law10_LockGoes) tyOk mixed ?_
  conv => whnf
  refine Tri.seqK ?_
  refine Tri.run (G := gm_law10_LockGoes) tyOk mixed ?_
  conv => whnf
  replace h := bind_some h
  obtain ⟨y1, q2, h⟩ := h
  refine PureP.mono (law10_shown_walk y1 q2) ?_
  rintro _ rfl
  conv => whnf
  refine Tri.seqK ?_
  refine Tri.run (G := gm_law10_LockGoes) tyOk mixed ?_
  conv => whnf
  replace h := bind_some h
  obtain ⟨y3, q4, h⟩ := h
  refine PureP.mono (law10_small_walk l y3 q4) ?_
  rintro _ rfl
  conv => whnf
  refine Tri.seqK ?_
  refine Tri.seqK ?_
  refine Tri.cut (fun ex S' => ex = .normal ∧ Weak S' ⟨92, 0, ofRegs [(1, .v (.int .i64 txn)), (2, .ptr 0 0), (5, .v (.bool y1)), (20, .v (.bool ((!y1) || (!y3))))], [.var 25 [.sl (List.map encHold l.Held), .sl (List.map encClaim l.Queue)]]⟩) ?_ ?_
  · refine Tri.run (G := gm_law10_LockGoes) tyOk mixed ?_
    conv => whnf
    refine cond_mk (fun c14 => ?_) (fun c14 => ?_)
    · replace c14 : (!y1) = true := c14
      conv => whnf
      exact ⟨rfl, weak_fin _ rfl rfl rfl (.cons (.same rfl) (LeH.rest)) (.cons (.one (.same rfl)) (.cons (.one (.same rfl)) (.cons (.one (.same rfl)) (.cons (.one (.same (show (.v (.bool true) : AV) = (.v (.bool ((!y1) || (!y3))) : AV) from by first | (simp [c14]; done) | simp only [c14, Bool.or_true, Bool.true_or, Bool.false_or, Bool.or_false, Bool.and_true, Bool.true_and, Bool.and_false, Bool.false_and, Bool.not_true, Bool.not_false, if_true, if_false, Bool.false_eq_true]))) (.nil))))) rfl rfl⟩
    · replace c14 : (!y1) = false := c14
      conv => whnf
      exact ⟨rfl, weak_fin _ rfl rfl rfl (.cons (.same rfl) (LeH.rest)) (.cons (.one (.same rfl)) (.cons (.one (.same rfl)) (.cons (.one (.same rfl)) (.cons (.one (.same (show (.v (.bool (!y3)) : AV) = (.v (.bool ((!y1) || (!y3))) : AV) from by first | (simp [c14]; done) | simp only [c14, Bool.or_true, Bool.true_or, Bool.false_or, Bool.or_false, Bool.and_true, Bool.true_and, Bool.and_false, Bool.false_and, Bool.not_true, Bool.not_false, if_true, if_false, Bool.false_eq_true]))) (.nil))))) rfl rfl⟩
  · rintro ex S' ⟨rfl, w15⟩
    conv => whnf
    refine Tri.weak w15 ?_
    refine Tri.cond rfl (fun c16 => ?_) (fun c16 => ?_)
    · replace h := if_t c16 h
      refine Tri.seqK ?_
      refine Tri.run (G := gm_law10_LockGoes) tyOk mixed ?_
      conv => whnf
      refine Tri.run (G := gm_law10_LockGoes) tyOk mixed ?_
      conv => whnf
      refine fin_here ?_
      conv => whnf
      cases h
      rfl
    · replace h := if_f c16 h
      refine Tri.run (G := gm_law10_LockGoes) tyOk mixed ?_
      conv => whnf
      refine Tri.seqK ?_
      refine Tri.run (G := gm_law10_LockGoes) tyOk mixed ?_
      conv => whnf
      replace h := bind_some h
      obtain ⟨y17, q18, h⟩ := h
      refine PureP.mono (lock_Free_walk l txn y17 q18) ?_
      rintro _ rfl
      conv => whnf
      refine Tri.seqK ?_
      refine Tri.seqK ?_
      refine Tri.run (G := gm_law10_LockGoes) tyOk mixed ?_
      conv => whnf
      refine Tri.block ?_
      replace h := bind_some h
      obtain ⟨y71, q72, h⟩ := h
      refine Tri.cut (fun ex S' => (∃ v73 : Unit, y71 = (.inl v73) ∧ ex = .ret ∧ Weak S' ⟨92, 0, ofRegs [(4, .v (.bool false))], []⟩) ∨ (∃ v74 : Unit, y71 = (.inr v74) ∧ ex = (.exit 0) ∧ Weak S' ⟨92, 0, ofRegs [(1, .v (.int .i64 txn)), (2, .ptr 0 0), (7, .ptr 1 0), (8, .sl (List.map (encI .i64) y17.2))], [.var 25 [.sl (List.map encHold l.Held), .sl (List.map encClaim l.Queue)], .var 25 [.sl (List.map encHold y17.1.Held), .sl (List.map encClaim y17.1.Queue)]]⟩)) ?_ ?_
      · refine Tri.loopF (fun (s75 : Int) => (⟨92, 0, ofRegs [(1, .v (.int .i64 txn)), (2, .ptr 0 0), (7, .ptr 1 0), (8, .sl (List.map (encI .i64) y17.2)), (9, .v (.int .i64 s75))], [.var 25 [.sl (List.map encHold l.Held), .sl (List.map encClaim l.Queue)], .var 25 [.sl (List.map encHold y17.1.Held), .sl (List.map encClaim y17.1.Queue)]]⟩ : St)) q72 (weak_fin _ rfl rfl rfl (.cons (.same rfl) (.cons (.same rfl) (LeH.rest))) (.cons (.one (.same rfl)) (.cons (.one (.same rfl)) (.cons (.one (.same rfl)) (.cons (.one (.same rfl)) (.cons (.one (.same rfl)) (.nil)))))) rfl rfl) ?_
        rintro a70 v76 hv r77
        have hv : law10_LockGoes_l2 txn y17 a70 = some v76 := hv
        unfold law10_LockGoes_l2 at hv
        refine Tri.seqK ?_
        refine Tri.seqK ?_
        refine Tri.run (G := gm_law10_LockGoes) tyOk mixed ?_
        conv => whnf
        refine ⟨⟨(y17.1.Held.length : Int), (len_map _ _).symm, ?_⟩⟩
        conv => whnf
        refine Tri.cond rfl (fun c79 => ?_) (fun c79 => ?_)
        · replace hv := if_t c79 hv
          refine Tri.run (G := gm_law10_LockGoes) tyOk mixed ?_
          conv => whnf
          refine Tri.seqK ?_
          refine Tri.block ?_
          refine Tri.seqK ?_
          refine Tri.run (G := gm_law10_LockGoes) tyOk mixed ?_
          conv => whnf
          replace hv := bind_some hv
          obtain ⟨x83, q84, hv⟩ := hv
          refine ⟨(ix_some q84).1, ?_⟩
          conv => whnf
          refine ⟨⟨_, map_get encHold (ix_some q84).2, ?_⟩⟩
          conv => whnf
          refine ⟨rfl, ?_⟩
          conv => whnf
          refine Tri.cond rfl (fun c85 => ?_) (fun c85 => ?_)
          · replace hv := if_t c85 hv
            refine Tri.seqK ?_
            refine Tri.run (G := gm_law10_LockGoes) tyOk mixed ?_
            conv => whnf
            refine Tri.run (G := gm_law10_LockGoes) tyOk mixed ?_
            conv => whnf
            cases hv
            obtain rfl := r77 _ rfl
            exact Or.inl ⟨_, rfl, rfl, weak_fin _ rfl rfl rfl (LeH.rest) (.cons (.one (.same rfl)) (.nil)) rfl rfl⟩
          · replace hv := if_f c85 hv
            refine Tri.run (G := gm_law10_LockGoes) tyOk mixed ?_
            conv => whnf
            refine Tri.run (G := gm_law10_LockGoes) tyOk mixed ?_
            conv => whnf
            cases hv
            exact ⟨_, rfl, weak_fin _ rfl rfl rfl (.cons (.same rfl) (.cons (.same rfl) (LeH.rest))) (.cons (.one (.same rfl)) (.cons (.one (.same rfl)) (.cons (.one (.same rfl)) (.cons (.one (.same rfl)) (.cons (.one (.same rfl)) (.nil)))))) rfl rfl⟩
        · replace hv := if_f c79 hv
          refine Tri.run (G := gm_law10_LockGoes) tyOk mixed ?_
          conv => whnf
          cases hv
          obtain rfl := r77 _ rfl
          exact Or.inr (⟨_, rfl, rfl, weak_fin _ rfl rfl rfl (.cons (.same rfl) (.cons (.same rfl) (LeH.rest))) (.cons (.one (.same rfl)) (.cons (.one (.same rfl)) (.cons (.one (.same rfl)) (.cons (.one (.same rfl)) (.nil))))) rfl rfl⟩)
      · rintro ex S' (⟨v73, rfl, rfl, w86⟩ | ⟨v74, rfl, rfl, w86⟩)
        · dsimp only at h
          conv => whnf
          refine fin_pre w86 ?_
          conv => whnf
          cases h
          rfl
        · dsimp only at h
          conv => whnf
          refine Tri.weak w86 ?_
          refine Tri.seqK ?_
          refine Tri.run (G := gm_law10_LockGoes) tyOk mixed ?_
          conv => whnf
          refine Tri.seqK ?_
          refine Tri.seqK ?_
          refine Tri.run (G := gm_law10_LockGoes) tyOk mixed ?_
          conv => whnf
          refine Tri.block ?_
          replace h := bind_some h
          obtain ⟨y888, q889, h⟩ := h
          refine Tri.cut (fun ex S' => (∃ v890 : Unit, y888 = (.inl v890) ∧ ex = .ret ∧ Weak S' ⟨92, 0, ofRegs [(4, .v (.bool false))], []⟩) ∨ (∃ v891 : Int, y888 = (.inr v891) ∧ ex = (.exit 2) ∧ Weak S' ⟨92, 0, ofRegs [(1, .v (.int .i64 txn)), (7, .ptr 1 0), (8, .sl (List.map (encI .i64) y17.2)), (10, .v (.int .i64 v891))], [.gone, .var 25 [.sl (List.map encHold y17.1.Held), .sl (List.map encClaim y17.1.Queue)]]⟩)) ?_ ?_
          · refine Tri.loopF (fun (s892 : Int × Int) => (⟨92, 0, ofRegs [(1, .v (.int .i64 txn)), (2, .ptr 0 0), (7, .ptr 1 0), (8, .sl (List.map (encI .i64) y17.2)), (10, .v (.int .i64 s892.1)), (11, .v (.int .i64 s892.2))], [.var 25 [.sl (List.map encHold l.Held), .sl (List.map encClaim l.Queue)], .var 25 [.sl (List.map encHold y17.1.Held), .sl (List.map encClaim y17.1.Queue)]]⟩ : St)) q889 (weak_fin _ rfl rfl rfl (.cons (.same rfl) (.cons (.same rfl) (LeH.rest))) (.cons (.one (.same rfl)) (.cons (.one (.same rfl)) (.cons (.one (.same rfl)) (.cons (.one (.same rfl)) (.cons (.one (.same rfl)) (.cons (.one (.same rfl)) (.nil))))))) rfl rfl) ?_
            rintro ⟨a886, a887⟩ v893 hv r894
            have hv : law10_LockGoes_l4 l txn y17 a886 a887 = some v893 := hv
            unfold law10_LockGoes_l4 at hv
            dsimp only
            refine Tri.seqK ?_
            refine Tri.seqK ?_
            refine Tri.run (G := gm_law10_LockGoes) tyOk mixed ?_
            conv => whnf
            refine ⟨⟨(l.Held.length : Int), (len_map _ _).symm, ?_⟩⟩
            conv => whnf
            refine Tri.cond rfl (fun c896 => ?_) (fun c896 => ?_)
            · replace hv := if_t c896 hv
              refine Tri.run (G := gm_law10_LockGoes) tyOk mixed ?_
              conv => whnf
              refine Tri.seqK ?_
              replace hv := bind_some hv
              obtain ⟨y997, q998, hv⟩ := hv
              refine Tri.cut (fun ex S' => (∃ v999 : Int, y997 = (.inl v999) ∧ ex = .normal ∧ Weak S' ⟨92, 0, ofRegs [(1, .v (.int .i64 txn)), (2, .ptr 0 0), (7, .ptr 1 0), (8, .sl (List.map (encI .i64) y17.2)), (10, .v (.int .i64 v999)), (11, .v (.int .i64 a887))], [.var 25 [.sl (List.map encHold l.Held), .sl (List.map encClaim l.Queue)], .var 25 [.sl (List.map encHold y17.1.Held), .sl (List.map encClaim y17.1.Queue)]]⟩) ∨ (∃ v1000 : Unit, y997 = (.inr v1000) ∧ ex = .ret ∧ Weak S' ⟨92, 0, ofRegs [(4, .v (.bool false))], []⟩)) ?_ ?_
              · refine Tri.block ?_
                refine Tri.seqK ?_
                refine Tri.seqK ?_
                refine Tri.run (G := gm_law10_LockGoes) tyOk mixed ?_
                conv => whnf
                replace q998 := bind_some q998
                obtain ⟨x1004, q1005, q998⟩ := q998
                refine ⟨(ix_some q1005).1, ?_⟩
                conv => whnf
                refine ⟨⟨_, map_get encHold (ix_some q1005).2, ?_⟩⟩
                conv => whnf
                refine ⟨rfl, ?_⟩
                conv => whnf
                refine Tri.cond rfl (fun c1006 => ?_) (fun c1006 => ?_)
                · replace q998 := if_t c1006 q998
                  refine Tri.run (G := gm_law10_LockGoes) tyOk mixed ?_
                  conv => whnf
                  cases q998
                  exact Or.inl ⟨_, rfl, rfl, weak_fin _ rfl rfl rfl (.cons (.same rfl) (.cons (.same rfl) (LeH.rest))) (.cons (.one (.same rfl)) (.cons (.one (.same rfl)) (.cons (.one (.same rfl)) (.cons (.one (.same rfl)) (.cons (.one (.same rfl)) (.cons (.one (.same rfl)) (.nil))))))) rfl rfl⟩
                · replace q998 := if_f c1006 q998
                  refine Tri.run (G := gm_law10_LockGoes) tyOk mixed ?_
                  conv => whnf
                  refine Tri.seqK ?_
                  refine Tri.seqK ?_
                  replace q998 := bind_some q998
                  obtain ⟨y1041, q1042, q998⟩ := q998
                  refine Tri.cut (fun ex S' => ex = .normal ∧ Weak S' ⟨92, 0, ofRegs [(1, .v (.int .i64 txn)), (2, .ptr 0 0), (7, .ptr 1 0), (8, .sl (List.map (encI .i64) y17.2)), (10, .v (.int .i64 a886)), (11, .v (.int .i64 a887)), (75, .v (.bool y1041))], [.var 25 [.sl (List.map encHold l.Held), .sl (List.map encClaim l.Queue)], .var 25 [.sl (List.map encHold y17.1.Held), .sl (List.map encClaim y17.1.Queue)]]⟩) ?_ ?_
                  · refine Tri.run (G := gm_law10_LockGoes) tyOk mixed ?_
                    conv => whnf
                    refine Draw.one 18 (.take 0 (.take 1 (.take 2 (.take 3 (.take 4 (.take 5 (.take 6 (.take 7 (.take 8 (.take 9 (.take 10 (.take 11 (.take 12 (.take 13 (.take 14 (.take 15 (.take 16 (.take 17 (.fin))))))))))))))))))) [] (by kernel_rfl) ?_
                    conv => whnf
                    refine ⟨⟨(y17.1.Held.length : Int), (len_map _ _).symm, ?_⟩⟩
                    conv => whnf
                    refine cond_mk (fun c1046 => ?_) (fun c1046 => ?_)
                    · replace q1042 := if_t c1046 q1042
                      conv => whnf
                      cases q1042
                      exact ⟨rfl, weak_fin _ rfl rfl rfl (.cons (.same rfl) (.cons (.same rfl) (LeH.rest))) (.cons (.one (.same rfl)) (.cons (.one (.same rfl)) (.cons (.one (.same rfl)) (.cons (.one (.same rfl)) (.cons (.one (.same rfl)) (.cons (.one (.same rfl)) (.cons (.one (.same rfl)) (.nil)))))))) rfl rfl⟩
                    · replace q1042 := if_f c1046 q1042
                      conv => whnf
                      replace q1042 := bind_some q1042
                      obtain ⟨x1047, q1048, q1042⟩ := q1042
                      refine ⟨(ix_some q1048).1, ?_⟩
                      conv => whnf
                      refine ⟨⟨_, map_get encHold (ix_some q1048).2, ?_⟩⟩
                      conv => whnf
                      refine ⟨rfl, ?_⟩
                      conv => whnf
                      refine ⟨(ix_some q1005).1, ?_⟩
                      conv => whnf
                      refine ⟨⟨_, map_get encHold (ix_some q1005).2, ?_⟩⟩
                      conv => whnf
                      refine ⟨rfl, ?_⟩
                      conv => whnf
                      refine ⟨⟨(!(decide (x1047 = x1004))), congrArg Bool.not (eq_Hold _ _), ?_⟩⟩
                      conv => whnf
                      cases q1042
                      exact ⟨rfl, weak_fin _ rfl rfl rfl (.cons (.same rfl) (.cons (.same rfl) (LeH.rest))) (.cons (.one (.same rfl)) (.cons (.one (.same rfl)) (.cons (.one (.same rfl)) (.cons (.one (.same rfl)) (.cons (.one (.same rfl)) (.cons (.one (.same rfl)) (.cons (.one (.same rfl)) (.nil)))))))) rfl rfl⟩
                  · rintro ex S' ⟨rfl, w1049⟩
                    conv => whnf
                    refine Tri.weak w1049 ?_
                    refine Tri.cond rfl (fun c1050 => ?_) (fun c1050 => ?_)
                    · replace q998 := if_t c1050 q998
                      refine Tri.seqK ?_
                      refine Tri.run (G := gm_law10_LockGoes) tyOk mixed ?_
                      conv => whnf
                      refine Tri.run (G := gm_law10_LockGoes) tyOk mixed ?_
                      conv => whnf
                      cases q998
                      exact Or.inr (⟨_, rfl, rfl, weak_fin _ rfl rfl rfl (LeH.rest) (.cons (.one (.same rfl)) (.nil)) rfl rfl⟩)
                    · replace q998 := if_f c1050 q998
                      refine Tri.run (G := gm_law10_LockGoes) tyOk mixed ?_
                      conv => whnf
                      refine Tri.run (G := gm_law10_LockGoes) tyOk mixed ?_
                      conv => whnf
                      cases q998
                      exact Or.inl ⟨_, rfl, rfl, weak_fin _ rfl rfl rfl (.cons (.same rfl) (.cons (.same rfl) (LeH.rest))) (.cons (.one (.same rfl)) (.cons (.one (.same rfl)) (.cons (.one (.same rfl)) (.cons (.one (.same rfl)) (.cons (.one (.same rfl)) (.cons (.one (.same rfl)) (.nil))))))) rfl rfl⟩
              · rintro ex S' (⟨v999, rfl, rfl, w1051⟩ | ⟨v1000, rfl, rfl, w1051⟩)
                · dsimp only at hv
                  conv => whnf
                  refine Tri.weak w1051 ?_
                  refine Tri.run (G := gm_law10_LockGoes) tyOk mixed ?_
                  conv => whnf
                  cases hv
                  exact ⟨_, rfl, weak_fin _ rfl rfl rfl (.cons (.same rfl) (.cons (.same rfl) (LeH.rest))) (.cons (.one (.same rfl)) (.cons (.one (.same rfl)) (.cons (.one (.same rfl)) (.cons (.one (.same rfl)) (.cons (.one (.same rfl)) (.cons (.one (.same rfl)) (.nil))))))) rfl rfl⟩
                · dsimp only at hv
                  conv => whnf
                  cases hv
                  obtain rfl := r894 _ rfl
                  exact Or.inl ⟨_, rfl, rfl, Weak.trans w1051 (weak_fin _ rfl rfl rfl (LeH.rest) (.cons (.one (.same rfl)) (.nil)) rfl rfl)⟩
            · replace hv := if_f c896 hv
              refine Tri.run (G := gm_law10_LockGoes) tyOk mixed ?_
              conv => whnf
              cases hv
              obtain rfl := r894 _ rfl
              exact Or.inr (⟨_, rfl, rfl, weak_fin _ rfl rfl rfl (.cons (.gone) (.cons (.same rfl) (LeH.rest))) (.cons (.one (.same rfl)) (.cons (.one (.same rfl)) (.cons (.one (.same rfl)) (.cons (.one (.same rfl)) (.nil))))) rfl rfl⟩)
          · rintro ex S' (⟨v890, rfl, rfl, w1052⟩ | ⟨v891, rfl, rfl, w1052⟩)
            · dsimp only at h
              conv => whnf
              refine fin_pre w1052 ?_
              conv => whnf
              cases h
              rfl
            · dsimp only at h
              conv => whnf
              refine Tri.weak w1052 ?_
              refine Tri.seqK ?_
              refine Tri.run (G := gm_law10_LockGoes) tyOk mixed ?_
              conv => whnf
              replace h := bind_some h
              obtain ⟨y1053, q1054, h⟩ := h
              refine PureP.mono (lock_Waits_walk y17.1 txn y1053 q1054) ?_
              rintro _ rfl
              conv => whnf
              refine cond_mk (fun c1055 => ?_) (fun c1055 => ?_)
              · replace h := if_t c1055 h
                conv => whnf
                refine ⟨⟨(y17.1.Held.length : Int), (len_map _ _).symm, ?_⟩⟩
                conv => whnf
                refine ⟨⟨(y17.2.length : Int), (len_map _ _).symm, ?_⟩⟩
                conv => whnf
                refine Tri.run (G := gm_law10_LockGoes) tyOk mixed ?_
                conv => whnf
                refine fin_here ?_
                conv => whnf
                cases h
                rfl
              · replace h := if_f c1055 h
                conv => whnf
                refine Tri.run (G := gm_law10_LockGoes) tyOk mixed ?_
                conv => whnf
                refine fin_here ?_
                conv => whnf
                cases h
                rfl
noncomputable def law10_LockCovered (l : Locks) (i : Int) (w : Want) : Option (Bool) :=
  law10_shown.bind fun y1 =>
  (law10_small l).bind fun y3 =>
  (
    if (!y1) then
      some true
    else
      if (!y3) then
        some true
      else
        if (decide (i < 0)) then
          some true
        else
          if (decide (i ≥ (l.Held.length : Int))) then
            some true
          else
            (ix l.Held i).bind fun x114 =>
            if (decide (x114.Txn < 1)) then
              some true
            else
              (lock_Waits l x114.Txn).bind fun y117 =>
              some y117).bind fun (y99 : Bool) =>
  if y99 then
    some y1
  else
    (ix l.Held i).bind fun x125 =>
    (ref09_Covers x125.W w).bind fun y127 =>
    if (!y127) then
      some y1
    else
      (lock_Ask l x125.Txn w 5).bind fun y135 =>
      if (decide (y135.2 = 0)) then
        (lock_Same y135.1 l).bind fun y141 =>
        some y141
      else
        some false
def gm_law10_LockCovered : Gm := ⟨tys, [], [], []⟩
theorem law10_LockCovered_walk (l : Locks) (i : Int) (w : Want) (r : Bool) (h : law10_LockCovered l i w = some r) : PureP Try.prog 12 [.agg [.sl (List.map encHold l.Held), .sl (List.map encClaim l.Queue)], .v (.int .i64 i), .agg [.v (.int .i64 w.Mode), .v (.string (bs w.Lo)), .v (.string (bs w.Hi))]] (fun a => a = .v (.bool r)) := by
  unfold law10_LockCovered at h
  refine pureW (G := gm_law10_LockCovered) tyOk Try.func12 rfl (by kernel_rfl) (by simp [Try.f12]) ?_
  refine Tri.seqK ?_
  refine Tri.run (G := gm_law10_LockCovered) tyOk mixed ?_
  conv => whnf
  refine Tri.seqK ?_
  refine Tri.run (G := gm_law10_LockCovered) tyOk mixed ?_
  conv => whnf
  replace h := bind_some h
  obtain ⟨y1, q2, h⟩ := h
  refine PureP.mono (law10_shown_walk y1 q2) ?_
  rintro _ rfl
  conv => whnf
  refine Tri.seqK ?_
  refine Tri.run (G := gm_law10_LockCovered) tyOk mixed ?_
  conv => whnf
  replace h := bind_some h
  obtain ⟨y3, q4, h⟩ := h
  refine PureP.mono (law10_small_walk l y3 q4) ?_
  rintro _ rfl
  conv => whnf
  refine Tri.seqK ?_
  refine Tri.seqK ?_
  replace h := bind_some h
  obtain ⟨y99, q100, h⟩ := h
  refine Tri.cut (fun ex S' => ex = .normal ∧ Weak S' ⟨82, 0, ofRegs [(1, .v (.int .i64 i)), (3, .ptr 0 0), (5, .ptr 1 0), (7, .v (.bool y1)), (50, .v (.bool y99))], [.var 25 [.sl (List.map encHold l.Held), .sl (List.map encClaim l.Queue)], .var 44 [.v (.int .i64 w.Mode), .v (.string (bs w.Lo)), .v (.string (bs w.Hi))]]⟩) ?_ ?_
  · refine Tri.run (G := gm_law10_LockCovered) tyOk mixed ?_
    conv => whnf
    refine Draw.one 36 (.take 0 (.take 1 (.take 2 (.take 3 (.take 4 (.take 5 (.take 6 (.take 7 (.take 8 (.take 9 (.take 10 (.take 11 (.take 12 (.take 13 (.take 14 (.take 15 (.take 16 (.take 17 (.take 18 (.take 19 (.take 20 (.take 21 (.take 22 (.take 23 (.take 24 (.take 25 (.take 26 (.take 27 (.take 28 (.take 29 (.take 30 (.take 31 (.take 32 (.take 33 (.alt 34 (.take 35 (.fin)) (.nil)))))))))))))))))))))))))))))))))))) [] (by kernel_rfl) ?_
    conv => whnf
    refine cond_mk (fun c110 => ?_) (fun c110 => ?_)
    · replace q100 := if_t c110 q100
      conv => whnf
      refine ⟨?_, ?_⟩
      · conv => whnf
        cases q100
        exact ⟨rfl, weak_fin _ rfl rfl rfl (.cons (.same rfl) (.cons (.same rfl) (LeH.rest))) (.cons (.one (.same rfl)) (.cons (.one (.same rfl)) (.cons (.one (.same rfl)) (.cons (.one (.same rfl)) (.cons (.one (.same rfl)) (.nil)))))) rfl rfl⟩
      · conv => whnf
        trivial
    · replace q100 := if_f c110 q100
      conv => whnf
      refine cond_mk (fun c111 => ?_) (fun c111 => ?_)
      · replace q100 := if_t c111 q100
        conv => whnf
        refine ⟨?_, ?_⟩
        · conv => whnf
          cases q100
          exact ⟨rfl, weak_fin _ rfl rfl rfl (.cons (.same rfl) (.cons (.same rfl) (LeH.rest))) (.cons (.one (.same rfl)) (.cons (.one (.same rfl)) (.cons (.one (.same rfl)) (.cons (.one (.same rfl)) (.cons (.one (.same rfl)) (.nil)))))) rfl rfl⟩
        · conv => whnf
          trivial
      · replace q100 := if_f c111 q100
        conv => whnf
        refine cond_mk (fun c112 => ?_) (fun c112 => ?_)
        · replace q100 := if_t c112 q100
          conv => whnf
          refine ⟨?_, ?_⟩
          · conv => whnf
            cases q100
            exact ⟨rfl, weak_fin _ rfl rfl rfl (.cons (.same rfl) (.cons (.same rfl) (LeH.rest))) (.cons (.one (.same rfl)) (.cons (.one (.same rfl)) (.cons (.one (.same rfl)) (.cons (.one (.same rfl)) (.cons (.one (.same rfl)) (.nil)))))) rfl rfl⟩
          · conv => whnf
            trivial
        · replace q100 := if_f c112 q100
          conv => whnf
          refine ⟨⟨(l.Held.length : Int), (len_map _ _).symm, ?_⟩⟩
          conv => whnf
          refine cond_mk (fun c113 => ?_) (fun c113 => ?_)
          · replace q100 := if_t c113 q100
            conv => whnf
            refine ⟨?_, ?_⟩
            · conv => whnf
              cases q100
              exact ⟨rfl, weak_fin _ rfl rfl rfl (.cons (.same rfl) (.cons (.same rfl) (LeH.rest))) (.cons (.one (.same rfl)) (.cons (.one (.same rfl)) (.cons (.one (.same rfl)) (.cons (.one (.same rfl)) (.cons (.one (.same rfl)) (.nil)))))) rfl rfl⟩
            · conv => whnf
              trivial
          · replace q100 := if_f c113 q100
            conv => whnf
            replace q100 := bind_some q100
            obtain ⟨x114, q115, q100⟩ := q100
            refine ⟨(ix_some q115).1, ?_⟩
            conv => whnf
            refine ⟨⟨_, map_get encHold (ix_some q115).2, ?_⟩⟩
            conv => whnf
            refine ⟨rfl, ?_⟩
            conv => whnf
            refine cond_mk (fun c116 => ?_) (fun c116 => ?_)
            · replace q100 := if_t c116 q100
              conv => whnf
              refine ⟨?_, ?_⟩
              · conv => whnf
                cases q100
                exact ⟨rfl, weak_fin _ rfl rfl rfl (.cons (.same rfl) (.cons (.same rfl) (LeH.rest))) (.cons (.one (.same rfl)) (.cons (.one (.same rfl)) (.cons (.one (.same rfl)) (.cons (.one (.same rfl)) (.cons (.one (.same rfl)) (.nil)))))) rfl rfl⟩
              · conv => whnf
                trivial
            · replace q100 := if_f c116 q100
              conv => whnf
              refine ⟨(ix_some q115).1, ?_⟩
              conv => whnf
              refine ⟨⟨_, map_get encHold (ix_some q115).2, ?_⟩⟩
              conv => whnf
              refine ⟨rfl, ?_⟩
              conv => whnf
              refine ⟨?_, ?_⟩
              · conv => whnf
                replace q100 := bind_some q100
                obtain ⟨y117, q118, q100⟩ := q100
                refine PureP.mono (lock_Waits_walk l x114.Txn y117 q118) ?_
                rintro _ rfl
                conv => whnf
                cases q100
                exact ⟨rfl, weak_fin _ rfl rfl rfl (.cons (.same rfl) (.cons (.same rfl) (LeH.rest))) (.cons (.one (.same rfl)) (.cons (.one (.same rfl)) (.cons (.one (.same rfl)) (.cons (.one (.same rfl)) (.cons (.one (.same rfl)) (.nil)))))) rfl rfl⟩
              · conv => whnf
                trivial
  · rintro ex S' ⟨rfl, w119⟩
    conv => whnf
    refine Tri.weak w119 ?_
    refine Tri.cond rfl (fun c120 => ?_) (fun c120 => ?_)
    · replace h := if_t c120 h
      refine Tri.seqK ?_
      refine Tri.run (G := gm_law10_LockCovered) tyOk mixed ?_
      conv => whnf
      refine Tri.run (G := gm_law10_LockCovered) tyOk mixed ?_
      conv => whnf
      refine fin_here ?_
      conv => whnf
      cases h
      rfl
    · replace h := if_f c120 h
      refine Tri.run (G := gm_law10_LockCovered) tyOk mixed ?_
      conv => whnf
      refine Tri.seqK ?_
      refine Tri.run (G := gm_law10_LockCovered) tyOk mixed ?_
      conv => whnf
      refine Draw.one 9 (.take 0 (.take 1 (.take 2 (.take 3 (.take 4 (.take 5 (.take 6 (.alt 7 (.take 8 (.fin)) (.nil))))))))) [] (by kernel_rfl) ?_
      conv => whnf
      replace h := bind_some h
      obtain ⟨x125, q126, h⟩ := h
      refine ⟨(ix_some q126).1, ?_⟩
      conv => whnf
      refine ⟨⟨_, map_get encHold (ix_some q126).2, ?_⟩⟩
      conv => whnf
      refine ⟨rfl, ?_⟩
      conv => whnf
      refine ⟨?_, ?_⟩
      · conv => whnf
        replace h := bind_some h
        obtain ⟨y127, q128, h⟩ := h
        refine PureP.mono (ref09_Covers_walk x125.W w y127 q128) ?_
        rintro _ rfl
        conv => whnf
        refine Tri.seqK ?_
        refine Tri.seqK ?_
        refine Tri.run (G := gm_law10_LockCovered) tyOk mixed ?_
        conv => whnf
        refine Tri.cond rfl (fun c130 => ?_) (fun c130 => ?_)
        · replace h := if_t c130 h
          refine Tri.seqK ?_
          refine Tri.run (G := gm_law10_LockCovered) tyOk mixed ?_
          conv => whnf
          refine Tri.run (G := gm_law10_LockCovered) tyOk mixed ?_
          conv => whnf
          refine fin_here ?_
          conv => whnf
          cases h
          rfl
        · replace h := if_f c130 h
          refine Tri.run (G := gm_law10_LockCovered) tyOk mixed ?_
          conv => whnf
          refine Tri.seqK ?_
          refine Tri.run (G := gm_law10_LockCovered) tyOk mixed ?_
          conv => whnf
          replace h := bind_some h
          obtain ⟨y135, q139, h⟩ := h
          refine Draw.many 14 (.take 0 (.take 1 (.take 2 (.take 3 (.take 4 (.take 5 (.take 6 (.take 7 (.alt 8 (.take 9 (.take 10 (.take 11 (.alt 12 (.alt 13 (.fin) (.nil)) (.nil))))) (.alt 12 (.alt 8 (.take 9 (.take 10 (.take 11 (.alt 13 (.fin) (.nil))))) (.nil)) (.nil))))))))))) [2, 3, 4, 5, 6, 7] (⟨82, 0, ofRegs [(3, .ptr 0 0), (10, .ptr 2 0), (74, .v (.int .i64 y135.2))], [.var 25 [.sl (List.map encHold l.Held), .sl (List.map encClaim l.Queue)], .var 44 [.v (.int .i64 w.Mode), .v (.string (bs w.Lo)), .v (.string (bs w.Hi))], .var 25 [.sl (List.map encHold y135.1.Held), .sl (List.map encClaim y135.1.Queue)]]⟩) (by kernel_rfl) ?_ ?_
          · conv => whnf
            refine ⟨(ix_some q126).1, ?_⟩
            conv => whnf
            refine ⟨⟨_, map_get encHold (ix_some q126).2, ?_⟩⟩
            conv => whnf
            refine ⟨rfl, ?_⟩
            conv => whnf
            refine ⟨?_, ?_⟩
            · conv => whnf
              refine PureP.mono (lock_Ask_walk l x125.Txn w 5 y135 q139) ?_
              rintro _ rfl
              conv => whnf
              refine ⟨?_, ?_⟩
              · conv => whnf
                refine ⟨?_, ?_⟩
                · conv => whnf
                  exact weak_fin _ rfl rfl rfl (.cons (.same rfl) (.cons (.same rfl) (.cons (.same rfl) (LeH.rest)))) (.cons (.one (.same rfl)) (.cons (.one (.same rfl)) (.cons (.one (.same rfl)) (.nil)))) rfl rfl
                · conv => whnf
                  trivial
              · conv => whnf
                trivial
            · conv => whnf
              refine ⟨?_, ?_⟩
              · conv => whnf
                refine ⟨?_, ?_⟩
                · conv => whnf
                  refine PureP.mono (lock_Ask_walk l x125.Txn w 5 y135 q139) ?_
                  rintro _ rfl
                  conv => whnf
                  refine ⟨?_, ?_⟩
                  · conv => whnf
                    exact weak_fin _ rfl rfl rfl (.cons (.same rfl) (.cons (.same rfl) (.cons (.same rfl) (LeH.rest)))) (.cons (.one (.same rfl)) (.cons (.one (.same rfl)) (.cons (.one (.same rfl)) (.nil)))) rfl rfl
                  · conv => whnf
                    trivial
                · conv => whnf
                  trivial
              · conv => whnf
                trivial
          · conv => whnf
            refine Tri.seqK ?_
            refine Tri.run (G := gm_law10_LockCovered) tyOk mixed ?_
            conv => whnf
            refine cond_mk (fun c140 => ?_) (fun c140 => ?_)
            · replace h := if_t c140 h
              conv => whnf
              replace h := bind_some h
              obtain ⟨y141, q142, h⟩ := h
              refine PureP.mono (lock_Same_walk y135.1 l y141 q142) ?_
              rintro _ rfl
              conv => whnf
              refine Tri.run (G := gm_law10_LockCovered) tyOk mixed ?_
              conv => whnf
              refine fin_here ?_
              conv => whnf
              cases h
              rfl
            · replace h := if_f c140 h
              conv => whnf
              refine Tri.run (G := gm_law10_LockCovered) tyOk mixed ?_
              conv => whnf
              refine fin_here ?_
              conv => whnf
              cases h
              rfl
      · conv => whnf
        trivial
noncomputable def law10_LockFair (with_ : LockFairIn) : Option (Bool) :=
  law10_shown.bind fun y1 =>
  (law10_small with_.L).bind fun y3 =>
  (
    if (!y1) then
      some true
    else
      if (!y3) then
        some true
      else
        if (decide (with_.I < 0)) then
          some true
        else
          if (decide (with_.I ≥ (with_.L.Queue.length : Int))) then
            some true
          else
            (ix with_.L.Queue with_.I).bind fun x45 =>
            some (decide (x45.Txn = with_.Txn))).bind fun (y39 : Bool) =>
  if y39 then
    some y1
  else
    (ix with_.L.Queue with_.I).bind fun x53 =>
    (ref09_Clash x53.W with_.W).bind fun y55 =>
    (lock_Ask with_.L with_.Txn with_.W 5).bind fun y57 =>
    if (!y55) then
      some true
    else
      if (!(decide (y57.2 = 0))) then
        some true
      else
        (lock_Same y57.1 with_.L).bind fun y61 =>
        some y61
def gm_law10_LockFair : Gm := ⟨tys, [], [], []⟩
theorem law10_LockFair_walk (with_ : LockFairIn) (r : Bool) (h : law10_LockFair with_ = some r) : PureP Try.prog 13 [.agg [.sl (List.map encHold with_.L.Held), .sl (List.map encClaim with_.L.Queue), .v (.int .i64 with_.Txn), .v (.int .i64 with_.W.Mode), .v (.string (bs with_.W.Lo)), .v (.string (bs with_.W.Hi)), .v (.int .i64 with_.I)]] (fun a => a = .v (.bool r)) := by
  unfold law10_LockFair at h
  refine pureW (G := gm_law10_LockFair) tyOk Try.func13 rfl (by kernel_rfl) (by simp [Try.f13]) ?_
  refine Tri.seqK ?_
  refine Tri.run (G := gm_law10_LockFair) tyOk mixed ?_
  conv => whnf
  refine Tri.seqK ?_
  refine Tri.run (G := gm_law10_LockFair) tyOk mixed ?_
  conv => whnf
  refine Tri.seqK ?_
  refine Tri.run (G := gm_law10_LockFair) tyOk mixed ?_
  conv => whnf
  refine Tri.seqK ?_
  refine Tri.run (G := gm_law10_LockFair) tyOk mixed ?_
  conv => whnf
  refine Tri.seqK ?_
  refine Tri.run (G := gm_law10_LockFair) tyOk mixed ?_
  conv => whnf
  refine Tri.seqK ?_
  refine Tri.run (G := gm_law10_LockFair) tyOk mixed ?_
  conv => whnf
  replace h := bind_some h
  obtain ⟨y1, q2, h⟩ := h
  refine PureP.mono (law10_shown_walk y1 q2) ?_
  rintro _ rfl
  conv => whnf
  refine Tri.seqK ?_
  refine Tri.run (G := gm_law10_LockFair) tyOk mixed ?_
  conv => whnf
  replace h := bind_some h
  obtain ⟨y3, q4, h⟩ := h
  refine PureP.mono (law10_small_walk with_.L y3 q4) ?_
  rintro _ rfl
  conv => whnf
  refine Tri.seqK ?_
  refine Tri.seqK ?_
  replace h := bind_some h
  obtain ⟨y39, q40, h⟩ := h
  refine Tri.cut (fun ex S' => ex = .normal ∧ Weak S' ⟨77, 0, ofRegs [(3, .ptr 1 0), (4, .v (.int .i64 with_.Txn)), (5, .ptr 2 0), (6, .v (.int .i64 with_.I)), (7, .v (.bool y1)), (49, .v (.bool y39))], [.gone, .var 25 [.sl (List.map encHold with_.L.Held), .sl (List.map encClaim with_.L.Queue)], .var 44 [.v (.int .i64 with_.W.Mode), .v (.string (bs with_.W.Lo)), .v (.string (bs with_.W.Hi))]]⟩) ?_ ?_
  · refine Tri.run (G := gm_law10_LockFair) tyOk mixed ?_
    conv => whnf
    refine cond_mk (fun c41 => ?_) (fun c41 => ?_)
    · replace q40 := if_t c41 q40
      conv => whnf
      cases q40
      exact ⟨rfl, weak_fin _ rfl rfl rfl (.cons (.gone) (.cons (.same rfl) (.cons (.same rfl) (LeH.rest)))) (.cons (.one (.same rfl)) (.cons (.one (.same rfl)) (.cons (.one (.same rfl)) (.cons (.one (.same rfl)) (.cons (.one (.same rfl)) (.cons (.one (.same rfl)) (.nil))))))) rfl rfl⟩
    · replace q40 := if_f c41 q40
      conv => whnf
      refine cond_mk (fun c42 => ?_) (fun c42 => ?_)
      · replace q40 := if_t c42 q40
        conv => whnf
        cases q40
        exact ⟨rfl, weak_fin _ rfl rfl rfl (.cons (.gone) (.cons (.same rfl) (.cons (.same rfl) (LeH.rest)))) (.cons (.one (.same rfl)) (.cons (.one (.same rfl)) (.cons (.one (.same rfl)) (.cons (.one (.same rfl)) (.cons (.one (.same rfl)) (.cons (.one (.same rfl)) (.nil))))))) rfl rfl⟩
      · replace q40 := if_f c42 q40
        conv => whnf
        refine cond_mk (fun c43 => ?_) (fun c43 => ?_)
        · replace q40 := if_t c43 q40
          conv => whnf
          cases q40
          exact ⟨rfl, weak_fin _ rfl rfl rfl (.cons (.gone) (.cons (.same rfl) (.cons (.same rfl) (LeH.rest)))) (.cons (.one (.same rfl)) (.cons (.one (.same rfl)) (.cons (.one (.same rfl)) (.cons (.one (.same rfl)) (.cons (.one (.same rfl)) (.cons (.one (.same rfl)) (.nil))))))) rfl rfl⟩
        · replace q40 := if_f c43 q40
          conv => whnf
          refine ⟨⟨(with_.L.Queue.length : Int), (len_map _ _).symm, ?_⟩⟩
          conv => whnf
          refine cond_mk (fun c44 => ?_) (fun c44 => ?_)
          · replace q40 := if_t c44 q40
            conv => whnf
            cases q40
            exact ⟨rfl, weak_fin _ rfl rfl rfl (.cons (.gone) (.cons (.same rfl) (.cons (.same rfl) (LeH.rest)))) (.cons (.one (.same rfl)) (.cons (.one (.same rfl)) (.cons (.one (.same rfl)) (.cons (.one (.same rfl)) (.cons (.one (.same rfl)) (.cons (.one (.same rfl)) (.nil))))))) rfl rfl⟩
          · replace q40 := if_f c44 q40
            conv => whnf
            replace q40 := bind_some q40
            obtain ⟨x45, q46, q40⟩ := q40
            refine ⟨(ix_some q46).1, ?_⟩
            conv => whnf
            refine ⟨⟨_, map_get encClaim (ix_some q46).2, ?_⟩⟩
            conv => whnf
            refine ⟨rfl, ?_⟩
            conv => whnf
            cases q40
            exact ⟨rfl, weak_fin _ rfl rfl rfl (.cons (.gone) (.cons (.same rfl) (.cons (.same rfl) (LeH.rest)))) (.cons (.one (.same rfl)) (.cons (.one (.same rfl)) (.cons (.one (.same rfl)) (.cons (.one (.same rfl)) (.cons (.one (.same rfl)) (.cons (.one (.same rfl)) (.nil))))))) rfl rfl⟩
  · rintro ex S' ⟨rfl, w47⟩
    conv => whnf
    refine Tri.weak w47 ?_
    refine Tri.cond rfl (fun c48 => ?_) (fun c48 => ?_)
    · replace h := if_t c48 h
      refine Tri.seqK ?_
      refine Tri.run (G := gm_law10_LockFair) tyOk mixed ?_
      conv => whnf
      refine Tri.run (G := gm_law10_LockFair) tyOk mixed ?_
      conv => whnf
      refine fin_here ?_
      conv => whnf
      cases h
      rfl
    · replace h := if_f c48 h
      refine Tri.run (G := gm_law10_LockFair) tyOk mixed ?_
      conv => whnf
      refine Tri.seqK ?_
      refine Tri.run (G := gm_law10_LockFair) tyOk mixed ?_
      conv => whnf
      refine Draw.one 9 (.take 0 (.take 1 (.take 2 (.take 3 (.take 4 (.take 5 (.take 6 (.alt 7 (.take 8 (.fin)) (.nil))))))))) [] (by kernel_rfl) ?_
      conv => whnf
      replace h := bind_some h
      obtain ⟨x53, q54, h⟩ := h
      refine ⟨(ix_some q54).1, ?_⟩
      conv => whnf
      refine ⟨⟨_, map_get encClaim (ix_some q54).2, ?_⟩⟩
      conv => whnf
      refine ⟨rfl, ?_⟩
      conv => whnf
      refine ⟨?_, ?_⟩
      · conv => whnf
        replace h := bind_some h
        obtain ⟨y55, q56, h⟩ := h
        refine PureP.mono (ref09_Clash_walk x53.W with_.W y55 q56) ?_
        rintro _ rfl
        conv => whnf
        refine Tri.seqK ?_
        refine Tri.run (G := gm_law10_LockFair) tyOk mixed ?_
        conv => whnf
        replace h := bind_some h
        obtain ⟨y57, q58, h⟩ := h
        refine PureP.mono (lock_Ask_walk with_.L with_.Txn with_.W 5 y57 q58) ?_
        rintro _ rfl
        conv => whnf
        refine Tri.seqK ?_
        refine Tri.run (G := gm_law10_LockFair) tyOk mixed ?_
        conv => whnf
        refine cond_mk (fun c59 => ?_) (fun c59 => ?_)
        · replace h := if_t c59 h
          conv => whnf
          refine Tri.run (G := gm_law10_LockFair) tyOk mixed ?_
          conv => whnf
          refine fin_here ?_
          conv => whnf
          cases h
          rfl
        · replace h := if_f c59 h
          conv => whnf
          refine cond_mk (fun c60 => ?_) (fun c60 => ?_)
          · replace h := if_t c60 h
            conv => whnf
            refine Tri.run (G := gm_law10_LockFair) tyOk mixed ?_
            conv => whnf
            refine fin_here ?_
            conv => whnf
            cases h
            rfl
          · replace h := if_f c60 h
            conv => whnf
            replace h := bind_some h
            obtain ⟨y61, q62, h⟩ := h
            refine PureP.mono (lock_Same_walk y57.1 with_.L y61 q62) ?_
            rintro _ rfl
            conv => whnf
            refine Tri.run (G := gm_law10_LockFair) tyOk mixed ?_
            conv => whnf
            refine fin_here ?_
            conv => whnf
            cases h
            rfl
      · conv => whnf
        trivial
noncomputable def slices_Compact_int_l52 (l : (List Int)) (a12048 : Int) (a13049 : Int) (a13050 : Int) (a13051 : (List Int)) : Option ((Int × Int × (List Int)) ⊕ (Int × (List Int))) :=
  if (decide (a13050 < ((((((List.map (encI .i64) l).length : Nat) : Int).toNat) - ((a12048).toNat) : Nat) : Int))) then
    (
      need (0 ≤ a13050 ∧ a13050 < ((((((List.map (encI .i64) l).length : Nat) : Int).toNat) - ((a12048).toNat) : Nat) : Int)) <|
      need (0 ≤ (IntKind.i64.wrap (a13050 - 1)) ∧ (IntKind.i64.wrap (a13050 - 1)) < ((((((List.map (encI .i64) l).length : Nat) : Int).toNat) - ((a12048).toNat) : Nat) : Int)) <|
      (ix a13051 ((((a12048).toNat) + (a13050).toNat : Nat) : Int)).bind fun x13127 =>
      (ix a13051 ((((a12048).toNat) + ((IntKind.i64.wrap (a13050 - 1))).toNat : Nat) : Int)).bind fun x13129 =>
      if (!(decide (x13127 = x13129))) then
        (ix a13051 a13049).bind fun x13140 =>
        some ((IntKind.i64.wrap (a13049 + 1)), (List.set a13051 (a13049).toNat x13127))
      else
        some (a13049, a13051)).bind fun (y13113 : Int × (List Int)) =>
    some (.inl (y13113.1, (IntKind.i64.wrap (a13050 + 1)), y13113.2))
  else
    some (.inr (a13049, a13051))
noncomputable def slices_Compact_int_l48 (l : (List Int)) (a12048 : Int) : Option ((Int) ⊕ (((List Int)) ⊕ (Unit))) :=
  if (decide (a12048 < (l.length : Int))) then
    (ix l a12048).bind fun x12607 =>
    (ix l (IntKind.i64.wrap (a12048 - 1))).bind fun x12609 =>
    if (decide (x12607 = x12609)) then
      need (0 < l.length) <|
      need (0 ≤ a12048 ∧ a12048 ≤ (l.length : Int) ∧ (l.length : Int) ≤ (l.length : Int)) <|
      (loop (fun (s13054 : Int × Int × (List Int)) => slices_Compact_int_l52 l a12048 s13054.1 s13054.2.1 s13054.2.2) (a12048, (1 : Int), l)).bind fun (y13052 : Int × (List Int)) =>
      need (0 < y13052.2.length) <|
      need (0 ≤ y13052.1 ∧ y13052.1 ≤ (y13052.2.length : Int) ∧ (y13052.2.length : Int) ≤ (y13052.2.length : Int)) <|
      need (0 < (List.take ((y13052.1).toNat) y13052.2 ++ List.replicate (((((List.map (encI .i64) y13052.2).length : Nat) : Int).toNat) - ((y13052.1).toNat)) (0 : Int) ++ List.drop ((((List.map (encI .i64) y13052.2).length : Nat) : Int).toNat) y13052.2).length) <|
      need (0 ≤ (0 : Int) ∧ 0 ≤ y13052.1 ∧ y13052.1 ≤ ((List.take ((y13052.1).toNat) y13052.2 ++ List.replicate (((((List.map (encI .i64) y13052.2).length : Nat) : Int).toNat) - ((y13052.1).toNat)) (0 : Int) ++ List.drop ((((List.map (encI .i64) y13052.2).length : Nat) : Int).toNat) y13052.2).length : Int)) <|
      some (.inr (.inl (List.drop ((0 : Int).toNat) (List.take ((y13052.1).toNat) (List.take ((y13052.1).toNat) y13052.2 ++ List.replicate (((((List.map (encI .i64) y13052.2).length : Nat) : Int).toNat) - ((y13052.1).toNat)) (0 : Int) ++ List.drop ((((List.map (encI .i64) y13052.2).length : Nat) : Int).toNat) y13052.2)))))
    else
      some (.inl (IntKind.i64.wrap (a12048 + 1)))
  else
    some (.inr (.inr ()))
noncomputable def slices_Compact_int (l : (List Int)) : Option ((List Int)) :=
  if (decide ((l.length : Int) < 2)) then
    some l
  else
    (loop (fun (s12053 : Int) => slices_Compact_int_l48 l s12053) (1 : Int)).bind fun (y12049 : ((List Int)) ⊕ (Unit)) =>
    match y12049 with
    | (.inl v12051) =>
      some v12051
    | (.inr v12052) =>
      some l
def gm_slices_Compact_int : Gm := ⟨tys, [], [], []⟩
theorem slices_Compact_int_walk (l : (List Int)) (r : (List Int)) (h : slices_Compact_int l = some r) : CallP Try.prog 48 [.row 3 1 (List.map (encI .i64) l)] [.row 0 ((List.map (encI .i64) l).length)] (fun a H' => a = .sl (List.map (encI .i64) r) ∧ H'.take ([.gone] : List Ob).length = [.gone]) := by
  unfold slices_Compact_int at h
  refine callW (G := gm_slices_Compact_int) tyOk Try.func48 rfl (by kernel_rfl) (by simp [Try.f48]) ?_
  refine Tri.seqK ?_
  refine Tri.run (G := gm_slices_Compact_int) tyOk mixed ?_
  conv => whnf
  refine Tri.seqK ?_
  refine Tri.seqK ?_
  refine Tri.run (G := gm_slices_Compact_int) tyOk mixed ?_
  conv => whnf
  refine ⟨rfl, ?_⟩
  conv => whnf
  refine ⟨⟨(l.length : Int), by simp, ?_⟩⟩
  conv => whnf
  refine Tri.cond rfl (fun c6576 => ?_) (fun c6576 => ?_)
  · replace h := if_t c6576 h
    refine Tri.seqK ?_
    refine Tri.run (G := gm_slices_Compact_int) tyOk mixed ?_
    conv => whnf
    refine Tri.run (G := gm_slices_Compact_int) tyOk mixed ?_
    conv => whnf
    refine fin_pre (S' := ⟨61, 1, ofRegs [(2, .sl (List.map (encI .i64) l))], [.gone]⟩) (Weak.trans (weak_freeze 0 rfl) (weak_fin _ rfl rfl rfl (.cons (.gone) (LeH.rest)) (.cons (.one (.frz rfl (rfl))) (.nil)) rfl rfl)) ?_
    conv => whnf
    cases h
    exact ⟨rfl, rfl⟩
  · replace h := if_f c6576 h
    refine Tri.run (G := gm_slices_Compact_int) tyOk mixed ?_
    conv => whnf
    refine Tri.seqK ?_
    refine Tri.seqK ?_
    refine Tri.run (G := gm_slices_Compact_int) tyOk mixed ?_
    conv => whnf
    refine Tri.block ?_
    replace h := bind_some h
    obtain ⟨y12049, q12050, h⟩ := h
    refine Tri.cut (fun ex S' => (∃ v12051 : (List Int), y12049 = (.inl v12051) ∧ ex = .ret ∧ Weak S' ⟨61, 1, ofRegs [(2, .sl (List.map (encI .i64) v12051))], [.gone]⟩) ∨ (∃ v12052 : Unit, y12049 = (.inr v12052) ∧ ex = (.exit 0) ∧ Weak S' ⟨61, 1, ofRegs [(0, .row 0 ((List.map (encI .i64) l).length))], [.row 3 1 (List.map (encI .i64) l)]⟩)) ?_ ?_
    · refine Tri.loopF (fun (s12053 : Int) => (⟨61, 1, ofRegs [(0, .row 0 ((List.map (encI .i64) l).length)), (3, .v (.int .i64 s12053))], [.row 3 1 (List.map (encI .i64) l)]⟩ : St)) q12050 (weak_fin _ rfl rfl rfl (.cons (.same rfl) (LeH.rest)) (.cons (.one (.same rfl)) (.cons (.one (.same rfl)) (.nil))) rfl rfl) ?_
      rintro a12048 v12054 hv r12055
      have hv : slices_Compact_int_l48 l a12048 = some v12054 := hv
      unfold slices_Compact_int_l48 at hv
      refine Tri.seqK ?_
      refine Tri.seqK ?_
      refine Tri.run (G := gm_slices_Compact_int) tyOk mixed ?_
      conv => whnf
      refine ⟨rfl, ?_⟩
      conv => whnf
      refine ⟨⟨(l.length : Int), by simp, ?_⟩⟩
      conv => whnf
      refine Tri.cond rfl (fun c12057 => ?_) (fun c12057 => ?_)
      · replace hv := if_t c12057 hv
        refine Tri.run (G := gm_slices_Compact_int) tyOk mixed ?_
        conv => whnf
        refine Tri.seqK ?_
        refine Tri.block ?_
        refine Tri.seqK ?_
        refine Tri.run (G := gm_slices_Compact_int) tyOk mixed ?_
        conv => whnf
        replace hv := bind_some hv
        obtain ⟨x12607, q12611, hv⟩ := hv
        replace hv := bind_some hv
        obtain ⟨x12609, q12612, hv⟩ := hv
        refine Draw.many 10 (.take 0 (.take 1 (.take 2 (.take 4 (.take 5 (.take 6 (.take 7 (.alt 3 (.alt 8 (.take 9 (.fin)) (.nil)) (.alt 8 (.alt 3 (.take 9 (.fin)) (.nil)) (.nil)))))))))) [] (⟨61, 1, ofRegs [(0, .row 0 ((List.map (encI .i64) l).length)), (3, .v (.int .i64 a12048)), (25, .v (.bool (decide (x12607 = x12609))))], [.row 3 1 (List.map (encI .i64) l)]⟩) (by kernel_rfl) ?_ ?_
        · conv => whnf
          refine ⟨⟨rfl, (ix_lt q12611).1, by have := ix_lt q12611; simp only [List.length_map, List.length_set, List.length_cons, List.length_nil] at *; omega⟩, ?_⟩
          conv => whnf
          refine ⟨⟨rfl, (ix_lt q12612).1, by have := ix_lt q12612; simp only [List.length_map, List.length_set, List.length_cons, List.length_nil] at *; omega⟩, ?_⟩
          conv => whnf
          refine ⟨?_, ?_⟩
          · conv => whnf
            refine ⟨rfl, ?_⟩
            conv => whnf
            refine ⟨⟨_, map_get (encI .i64) (ix_some q12611).2, ?_⟩⟩
            conv => whnf
            refine ⟨?_, ?_⟩
            · conv => whnf
              refine ⟨rfl, ?_⟩
              conv => whnf
              refine ⟨⟨_, map_get (encI .i64) (ix_some q12612).2, ?_⟩⟩
              conv => whnf
              exact weak_fin _ rfl rfl rfl (.cons (.same rfl) (LeH.rest)) (.cons (.one (.same rfl)) (.cons (.one (.same rfl)) (.cons (.one (.same rfl)) (.nil)))) rfl rfl
            · conv => whnf
              trivial
          · conv => whnf
            refine ⟨?_, ?_⟩
            · conv => whnf
              refine ⟨rfl, ?_⟩
              conv => whnf
              refine ⟨⟨_, map_get (encI .i64) (ix_some q12612).2, ?_⟩⟩
              conv => whnf
              refine ⟨?_, ?_⟩
              · conv => whnf
                refine ⟨rfl, ?_⟩
                conv => whnf
                refine ⟨⟨_, map_get (encI .i64) (ix_some q12611).2, ?_⟩⟩
                conv => whnf
                exact weak_fin _ rfl rfl rfl (.cons (.same rfl) (LeH.rest)) (.cons (.one (.same rfl)) (.cons (.one (.same rfl)) (.cons (.one (.same rfl)) (.nil)))) rfl rfl
              · conv => whnf
                trivial
            · conv => whnf
              trivial
        · conv => whnf
          refine Tri.cond rfl (fun c12613 => ?_) (fun c12613 => ?_)
          · replace hv := if_t c12613 hv
            refine Tri.seqK ?_
            refine Tri.run (G := gm_slices_Compact_int) tyOk mixed ?_
            conv => whnf
            replace hv := need_some hv
            obtain ⟨p12614, hv⟩ := hv
            refine ⟨⟨rfl, by have := p12614; simp only [List.length_map, List.length_append, List.length_take, List.length_drop, List.length_replicate, List.length_set] at *; omega⟩, ?_⟩
            conv => whnf
            replace hv := need_some hv
            obtain ⟨p12615, hv⟩ := hv
            refine ⟨by have := p12615; simp only [List.length_map, List.length_append, List.length_take, List.length_drop, List.length_replicate, List.length_set] at *; omega, ?_⟩
            conv => whnf
            refine Tri.seqK ?_
            refine Tri.seqK ?_
            refine Tri.run (G := gm_slices_Compact_int) tyOk mixed ?_
            conv => whnf
            refine Tri.block ?_
            replace hv := bind_some hv
            obtain ⟨y13052, q13053, hv⟩ := hv
            refine Tri.cut (fun ex S' => ex = (.exit 2) ∧ Weak S' ⟨61, 1, ofRegs [(0, .row 0 ((List.map (encI .i64) y13052.2).length)), (3, .v (.int .i64 y13052.1))], [.row 3 1 (List.map (encI .i64) y13052.2)]⟩) ?_ ?_
            · refine Tri.loopF (fun (s13054 : Int × Int × (List Int)) => (⟨61, 1, ofRegs [(0, .row 0 ((List.map (encI .i64) s13054.2.2).length)), (3, .v (.int .i64 s13054.1)), (4, .vw 0 ((List.map (encI .i64) s13054.2.2).length) 1 ((a12048).toNat) ((((List.map (encI .i64) l).length : Nat) : Int).toNat)), (5, .v (.int .i64 s13054.2.1))], [.row 3 1 (List.map (encI .i64) s13054.2.2)]⟩ : St)) q13053 (weak_fin _ rfl rfl rfl (.cons (.same rfl) (LeH.rest)) (.cons (.one (.same rfl)) (.cons (.one (.same rfl)) (.cons (.one (.same rfl)) (.cons (.one (.same rfl)) (.nil))))) rfl rfl) ?_
              rintro ⟨a13049, a13050, a13051⟩ v13055 hv r13056
              have hv : slices_Compact_int_l52 l a12048 a13049 a13050 a13051 = some v13055 := hv
              unfold slices_Compact_int_l52 at hv
              dsimp only
              refine Tri.seqK ?_
              refine Tri.seqK ?_
              refine Tri.run (G := gm_slices_Compact_int) tyOk mixed ?_
              conv => whnf
              refine ⟨rfl, ?_⟩
              conv => whnf
              refine ⟨⟨((((((List.map (encI .i64) l).length : Nat) : Int).toNat) - ((a12048).toNat) : Nat) : Int), rfl, ?_⟩⟩
              conv => whnf
              refine Tri.cond rfl (fun c13058 => ?_) (fun c13058 => ?_)
              · replace hv := if_t c13058 hv
                refine Tri.run (G := gm_slices_Compact_int) tyOk mixed ?_
                conv => whnf
                refine Tri.seqK ?_
                replace hv := bind_some hv
                obtain ⟨y13113, q13114, hv⟩ := hv
                refine Tri.cut (fun ex S' => ex = .normal ∧ Weak S' ⟨61, 1, ofRegs [(0, .row 0 ((List.map (encI .i64) y13113.2).length)), (3, .v (.int .i64 y13113.1)), (4, .vw 0 ((List.map (encI .i64) y13113.2).length) 1 ((a12048).toNat) ((((List.map (encI .i64) l).length : Nat) : Int).toNat)), (5, .v (.int .i64 a13050))], [.row 3 1 (List.map (encI .i64) y13113.2)]⟩) ?_ ?_
                · refine Tri.block ?_
                  refine Tri.seqK ?_
                  refine Tri.run (G := gm_slices_Compact_int) tyOk mixed ?_
                  conv => whnf
                  replace q13114 := need_some q13114
                  obtain ⟨p13135, q13114⟩ := q13114
                  replace q13114 := need_some q13114
                  obtain ⟨p13136, q13114⟩ := q13114
                  replace q13114 := bind_some q13114
                  obtain ⟨x13127, q13137, q13114⟩ := q13114
                  replace q13114 := bind_some q13114
                  obtain ⟨x13129, q13138, q13114⟩ := q13114
                  refine Draw.many 10 (.take 0 (.take 1 (.take 2 (.take 4 (.take 5 (.take 6 (.take 7 (.alt 3 (.alt 8 (.take 9 (.fin)) (.nil)) (.alt 8 (.alt 3 (.take 9 (.fin)) (.nil)) (.nil)))))))))) [] (⟨61, 1, ofRegs [(0, .row 0 ((List.map (encI .i64) a13051).length)), (3, .v (.int .i64 a13049)), (4, .vw 0 ((List.map (encI .i64) a13051).length) 1 ((a12048).toNat) ((((List.map (encI .i64) l).length : Nat) : Int).toNat)), (5, .v (.int .i64 a13050)), (44, .v (.bool (!(decide (x13127 = x13129)))))], [.row 3 1 (List.map (encI .i64) a13051)]⟩) (by kernel_rfl) ?_ ?_
                  · conv => whnf
                    refine ⟨⟨rfl, p13135.1, p13135.2⟩, ?_⟩
                    conv => whnf
                    refine ⟨⟨rfl, p13136.1, p13136.2⟩, ?_⟩
                    conv => whnf
                    refine ⟨?_, ?_⟩
                    · conv => whnf
                      refine ⟨rfl, ?_⟩
                      conv => whnf
                      refine ⟨⟨_, map_get (encI .i64) (ix_some q13137).2, ?_⟩⟩
                      conv => whnf
                      refine ⟨?_, ?_⟩
                      · conv => whnf
                        refine ⟨rfl, ?_⟩
                        conv => whnf
                        refine ⟨⟨_, map_get (encI .i64) (ix_some q13138).2, ?_⟩⟩
                        conv => whnf
                        exact weak_fin _ rfl rfl rfl (.cons (.same rfl) (LeH.rest)) (.cons (.one (.same rfl)) (.cons (.one (.same rfl)) (.cons (.one (.same rfl)) (.cons (.one (.same rfl)) (.cons (.one (.same rfl)) (.nil)))))) rfl rfl
                      · conv => whnf
                        trivial
                    · conv => whnf
                      refine ⟨?_, ?_⟩
                      · conv => whnf
                        refine ⟨rfl, ?_⟩
                        conv => whnf
                        refine ⟨⟨_, map_get (encI .i64) (ix_some q13138).2, ?_⟩⟩
                        conv => whnf
                        refine ⟨?_, ?_⟩
                        · conv => whnf
                          refine ⟨rfl, ?_⟩
                          conv => whnf
                          refine ⟨⟨_, map_get (encI .i64) (ix_some q13137).2, ?_⟩⟩
                          conv => whnf
                          exact weak_fin _ rfl rfl rfl (.cons (.same rfl) (LeH.rest)) (.cons (.one (.same rfl)) (.cons (.one (.same rfl)) (.cons (.one (.same rfl)) (.cons (.one (.same rfl)) (.cons (.one (.same rfl)) (.nil)))))) rfl rfl
                        · conv => whnf
                          trivial
                      · conv => whnf
                        trivial
                  · conv => whnf
                    refine Tri.cond rfl (fun c13139 => ?_) (fun c13139 => ?_)
                    · replace q13114 := if_t c13139 q13114
                      refine Tri.seqK ?_
                      refine Tri.run (G := gm_slices_Compact_int) tyOk mixed ?_
                      conv => whnf
                      refine ⟨⟨rfl, p13135.1, p13135.2⟩, ?_⟩
                      conv => whnf
                      refine ⟨rfl, ?_⟩
                      conv => whnf
                      refine ⟨⟨_, map_get (encI .i64) (ix_some q13137).2, ?_⟩⟩
                      conv => whnf
                      replace q13114 := bind_some q13114
                      obtain ⟨x13140, q13141, q13114⟩ := q13114
                      refine ⟨⟨rfl, (ix_lt q13141).1, by have := ix_lt q13141; simp only [List.length_map, List.length_set, List.length_cons, List.length_nil] at *; omega⟩, ?_⟩
                      conv => whnf
                      refine ⟨rfl, ?_⟩
                      conv => whnf
                      refine ⟨⟨_, map_get (encI .i64) (ix_some q13141).2, ?_⟩⟩
                      conv => whnf
                      refine ⟨Nat.le_of_ble_eq_true rfl, ?_⟩
                      conv => whnf
                      refine ⟨⟨List.map (encI .i64) (List.set a13051 (a13049).toNat x13127), map_set (encI .i64) _ _ _ rfl, ?_⟩⟩
                      conv => whnf
                      refine Tri.run (G := gm_slices_Compact_int) tyOk mixed ?_
                      conv => whnf
                      cases q13114
                      exact ⟨rfl, weak_fin _ rfl rfl rfl (.cons (.same rfl) (LeH.rest)) (.cons (.one (.same (show (.row 0 ((List.map (encI .i64) a13051).length) : AV) = (.row 0 ((List.map (encI .i64) (List.set a13051 (a13049).toNat x13127)).length) : AV) from congrArg (AV.row 0) (by simp)))) (.cons (.one (.same rfl)) (.cons (.one (.same (show (.vw 0 ((List.map (encI .i64) a13051).length) 1 ((a12048).toNat) ((((List.map (encI .i64) l).length : Nat) : Int).toNat) : AV) = (.vw 0 ((List.map (encI .i64) (List.set a13051 (a13049).toNat x13127)).length) 1 ((a12048).toNat) ((((List.map (encI .i64) l).length : Nat) : Int).toNat) : AV) from congrArg (fun n => AV.vw 0 n 1 ((a12048).toNat) ((((List.map (encI .i64) l).length : Nat) : Int).toNat)) (by simp)))) (.cons (.one (.same rfl)) (.nil))))) rfl rfl⟩
                    · replace q13114 := if_f c13139 q13114
                      refine Tri.run (G := gm_slices_Compact_int) tyOk mixed ?_
                      conv => whnf
                      cases q13114
                      exact ⟨rfl, weak_fin _ rfl rfl rfl (.cons (.same rfl) (LeH.rest)) (.cons (.one (.same rfl)) (.cons (.one (.same rfl)) (.cons (.one (.same rfl)) (.cons (.one (.same rfl)) (.nil))))) rfl rfl⟩
                · rintro ex S' ⟨rfl, w13142⟩
                  conv => whnf
                  refine Tri.weak w13142 ?_
                  refine Tri.run (G := gm_slices_Compact_int) tyOk mixed ?_
                  conv => whnf
                  cases hv
                  exact ⟨_, rfl, weak_fin _ rfl rfl rfl (.cons (.same rfl) (LeH.rest)) (.cons (.one (.same rfl)) (.cons (.one (.same rfl)) (.cons (.one (.same rfl)) (.cons (.one (.same rfl)) (.nil))))) rfl rfl⟩
              · replace hv := if_f c13058 hv
                refine Tri.run (G := gm_slices_Compact_int) tyOk mixed ?_
                conv => whnf
                cases hv
                obtain rfl := r13056 _ rfl
                exact ⟨rfl, weak_fin _ rfl rfl rfl (.cons (.same rfl) (LeH.rest)) (.cons (.one (.same rfl)) (.cons (.one (.same rfl)) (.nil))) rfl rfl⟩
            · rintro ex S' ⟨rfl, w13143⟩
              conv => whnf
              refine Tri.weak w13143 ?_
              refine Tri.seqK ?_
              refine Tri.run (G := gm_slices_Compact_int) tyOk mixed ?_
              conv => whnf
              replace hv := need_some hv
              obtain ⟨p13144, hv⟩ := hv
              refine ⟨⟨rfl, by have := p13144; simp only [List.length_map, List.length_append, List.length_take, List.length_drop, List.length_replicate, List.length_set] at *; omega⟩, ?_⟩
              conv => whnf
              replace hv := need_some hv
              obtain ⟨p13145, hv⟩ := hv
              refine ⟨by have := p13145; simp only [List.length_map, List.length_append, List.length_take, List.length_drop, List.length_replicate, List.length_set] at *; omega, ?_⟩
              conv => whnf
              refine ⟨rfl, ?_⟩
              conv => whnf
              refine ⟨⟨List.map (encI .i64) (List.take ((y13052.1).toNat) y13052.2 ++ List.replicate (((((List.map (encI .i64) y13052.2).length : Nat) : Int).toNat) - ((y13052.1).toNat)) (0 : Int) ++ List.drop ((((List.map (encI .i64) y13052.2).length : Nat) : Int).toNat) y13052.2), by rw [List.map_append, List.map_append, List.map_take, List.map_drop, List.map_replicate]; rfl, ?_⟩⟩
              conv => whnf
              refine Tri.seqK ?_
              refine Tri.run (G := gm_slices_Compact_int) tyOk mixed ?_
              conv => whnf
              replace hv := need_some hv
              obtain ⟨p13146, hv⟩ := hv
              refine ⟨⟨by first | (simp; done) | (simp only [List.length_map, List.length_append, List.length_take, List.length_drop, List.length_replicate, List.length_set, List.length_mergeSort]; omega), by have := p13146; simp only [List.length_map, List.length_append, List.length_take, List.length_drop, List.length_replicate, List.length_set] at *; omega⟩, ?_⟩
              conv => whnf
              replace hv := need_some hv
              obtain ⟨p13147, hv⟩ := hv
              refine ⟨by have := p13147; simp only [List.length_map, List.length_append, List.length_take, List.length_drop, List.length_replicate, List.length_set] at *; omega, ?_⟩
              conv => whnf
              refine Tri.run (G := gm_slices_Compact_int) tyOk mixed ?_
              conv => whnf
              cases hv
              obtain rfl := r12055 _ rfl
              exact Or.inl ⟨_, rfl, rfl, Weak.trans (weak_freeze 0 rfl) (weak_fin _ rfl rfl rfl (.cons (.gone) (LeH.rest)) (.cons (.one (.frzvw rfl (by first | (simp; done) | (simp only [List.length_map, List.length_append, List.length_take, List.length_drop, List.length_replicate, List.length_set, List.length_mergeSort]; omega)) (by rw [List.map_drop, List.map_take]))) (.nil)) rfl rfl)⟩
          · replace hv := if_f c12613 hv
            refine Tri.run (G := gm_slices_Compact_int) tyOk mixed ?_
            conv => whnf
            refine Tri.run (G := gm_slices_Compact_int) tyOk mixed ?_
            conv => whnf
            cases hv
            exact ⟨_, rfl, weak_fin _ rfl rfl rfl (.cons (.same rfl) (LeH.rest)) (.cons (.one (.same rfl)) (.cons (.one (.same rfl)) (.nil))) rfl rfl⟩
      · replace hv := if_f c12057 hv
        refine Tri.run (G := gm_slices_Compact_int) tyOk mixed ?_
        conv => whnf
        cases hv
        obtain rfl := r12055 _ rfl
        exact Or.inr (⟨_, rfl, rfl, weak_fin _ rfl rfl rfl (.cons (.same rfl) (LeH.rest)) (.cons (.one (.same rfl)) (.nil)) rfl rfl⟩)
    · rintro ex S' (⟨v12051, rfl, rfl, w13148⟩ | ⟨v12052, rfl, rfl, w13148⟩)
      · dsimp only at h
        conv => whnf
        refine fin_pre (S' := ⟨61, 1, ofRegs [(2, .sl (List.map (encI .i64) v12051))], [.gone]⟩) (Weak.trans w13148 (weak_fin _ rfl rfl rfl (.cons (.same rfl) (LeH.rest)) (.cons (.one (.same rfl)) (.nil)) rfl rfl)) ?_
        conv => whnf
        cases h
        exact ⟨rfl, rfl⟩
      · dsimp only at h
        conv => whnf
        refine Tri.weak w13148 ?_
        refine Tri.seqK ?_
        refine Tri.run (G := gm_slices_Compact_int) tyOk mixed ?_
        conv => whnf
        refine Tri.run (G := gm_slices_Compact_int) tyOk mixed ?_
        conv => whnf
        refine fin_pre (S' := ⟨61, 1, ofRegs [(2, .sl (List.map (encI .i64) l))], [.gone]⟩) (Weak.trans (weak_freeze 0 rfl) (weak_fin _ rfl rfl rfl (.cons (.gone) (LeH.rest)) (.cons (.one (.frz rfl (rfl))) (.nil)) rfl rfl)) ?_
        conv => whnf
        cases h
        exact ⟨rfl, rfl⟩
noncomputable def ring_After_l2 (l : Locks) (txn : Int) (a192 : Int) (a193 : (List Int)) : Option ((Int × (List Int)) ⊕ ((List Int))) :=
  if (decide (a192 < (l.Queue.length : Int))) then
    (
      (ix l.Queue a192).bind fun x215 =>
      if (decide (x215.Txn = txn)) then
        (lock_Blockers l txn x215.W a192).bind fun y218 =>
        need ((a193.length + y218.length) * 8 ≤ 140737488355328) <|
        some (a193 ++ y218)
      else
        some a193).bind fun (y213 : (List Int)) =>
    some (.inl ((IntKind.i64.wrap (a192 + 1)), y213))
  else
    some (.inr a193)
noncomputable def ring_After (l : Locks) (txn : Int) : Option ((List Int)) :=
  (loop (fun (s196 : Int × (List Int)) => ring_After_l2 l txn s196.1 s196.2) ((0 : Int), ([] : (List Int)))).bind fun (y194 : (List Int)) =>
  need (y194.length < 1073741824) <|
  (slices_Compact_int (List.mergeSort y194 leI)).bind fun y224 =>
  some y224
def gm_ring_After : Gm := ⟨tys, [47, 48], [], []⟩
theorem ring_After_walk (l : Locks) (txn : Int) (r : (List Int)) (h : ring_After l txn = some r) : PureP Try.prog 18 [.agg [.sl (List.map encHold l.Held), .sl (List.map encClaim l.Queue)], .v (.int .i64 txn)] (fun a => a = .sl (List.map (encI .i64) r)) := by
  unfold ring_After at h
  refine pureW (G := gm_ring_After) tyOk Try.func18 rfl (by kernel_rfl) (by simp [Try.f18]) ?_
  refine Tri.seqK ?_
  refine Tri.run (G := gm_ring_After) tyOk mixed ?_
  conv => whnf
  refine Tri.seqK ?_
  refine Tri.run (G := gm_ring_After) tyOk mixed ?_
  conv => whnf
  refine Tri.seqK ?_
  refine Tri.seqK ?_
  refine Tri.run (G := gm_ring_After) tyOk mixed ?_
  conv => whnf
  refine ⟨⟨(l.Queue.length : Int), (len_map _ _).symm, ?_⟩⟩
  conv => whnf
  refine Tri.block ?_
  replace h := bind_some h
  obtain ⟨y194, q195, h⟩ := h
  refine Tri.cut (fun ex S' => ex = (.exit 0) ∧ Weak S' ⟨33, 0, ofRegs [(5, .row 1 ((List.map (encI .i64) y194).length))], [.gone, .row 3 1 (List.map (encI .i64) y194)]⟩) ?_ ?_
  · refine Tri.loopF (fun (s196 : Int × (List Int)) => (⟨33, 0, ofRegs [(1, .v (.int .i64 txn)), (2, .ptr 0 0), (5, .row 1 ((List.map (encI .i64) s196.2).length)), (9, .sl (List.map encClaim l.Queue)), (10, .v (.int .i64 (l.Queue.length : Int))), (11, .v (.int .i64 s196.1))], [.var 25 [.sl (List.map encHold l.Held), .sl (List.map encClaim l.Queue)], .row 3 1 (List.map (encI .i64) s196.2)]⟩ : St)) q195 (Weak.trans (weak_nil 5 3 1 rfl) (weak_fin _ rfl rfl rfl (.cons (.same rfl) (.cons (.same rfl) (LeH.rest))) (.cons (.one (.same rfl)) (.cons (.one (.same rfl)) (.cons (.one (.same (show (.row 1 0 : AV) = (.row 1 ((List.map (encI .i64) []).length) : AV) from congrArg (AV.row 1) (by simp)))) (.cons (.one (.same rfl)) (.cons (.one (.same rfl)) (.cons (.one (.same rfl)) (.nil))))))) rfl rfl)) ?_
    rintro ⟨a192, a193⟩ v197 hv r198
    have hv : ring_After_l2 l txn a192 a193 = some v197 := hv
    unfold ring_After_l2 at hv
    dsimp only
    refine Tri.seqK ?_
    refine Tri.run (G := gm_ring_After) tyOk mixed ?_
    conv => whnf
    refine Tri.seqK ?_
    refine Tri.cond rfl (fun c200 => ?_) (fun c200 => ?_)
    · replace hv := if_t c200 hv
      refine Tri.run (G := gm_ring_After) tyOk mixed ?_
      conv => whnf
      refine Tri.seqK ?_
      replace hv := bind_some hv
      obtain ⟨y213, q214, hv⟩ := hv
      refine Tri.cut (fun ex S' => ex = .normal ∧ Weak S' ⟨33, 0, ofRegs [(1, .v (.int .i64 txn)), (2, .ptr 0 0), (5, .row 1 ((List.map (encI .i64) y213).length)), (9, .sl (List.map encClaim l.Queue)), (10, .v (.int .i64 (l.Queue.length : Int))), (11, .v (.int .i64 a192))], [.var 25 [.sl (List.map encHold l.Held), .sl (List.map encClaim l.Queue)], .row 3 1 (List.map (encI .i64) y213)]⟩) ?_ ?_
      · refine Tri.block ?_
        refine Tri.seqK ?_
        refine Tri.run (G := gm_ring_After) tyOk mixed ?_
        conv => whnf
        replace q214 := bind_some q214
        obtain ⟨x215, q216, q214⟩ := q214
        refine ⟨(ix_some q216).1, ?_⟩
        conv => whnf
        refine ⟨⟨_, map_get encClaim (ix_some q216).2, ?_⟩⟩
        conv => whnf
        refine ⟨rfl, ?_⟩
        conv => whnf
        refine Tri.seqK ?_
        refine Tri.run (G := gm_ring_After) tyOk mixed ?_
        conv => whnf
        refine Tri.cond rfl (fun c217 => ?_) (fun c217 => ?_)
        · replace q214 := if_t c217 q214
          refine Tri.run (G := gm_ring_After) tyOk mixed ?_
          conv => whnf
          replace q214 := bind_some q214
          obtain ⟨y218, q219, q214⟩ := q214
          refine PureP.mono (lock_Blockers_walk l txn x215.W a192 y218 q219) ?_
          rintro _ rfl
          conv => whnf
          refine ⟨rfl, ?_⟩
          conv => whnf
          refine ⟨map_len (f := (encI .i64)) (n := 1) (fun _ => rfl) _, ?_⟩
          conv => whnf
          replace q214 := need_some q214
          obtain ⟨p220, q214⟩ := q214
          refine ⟨by simp only [List.length_map]; exact p220, ?_⟩
          conv => whnf
          refine ⟨⟨List.map (encI .i64) (a193 ++ y218), map_app (encI .i64) _ _ rfl rfl, ?_⟩⟩
          conv => whnf
          cases q214
          exact ⟨rfl, weak_fin _ rfl rfl rfl (.cons (.same rfl) (.cons (.same rfl) (LeH.rest))) (.cons (.one (.same rfl)) (.cons (.one (.same rfl)) (.cons (.one (.same rfl)) (.cons (.one (.same rfl)) (.cons (.one (.same rfl)) (.cons (.one (.same rfl)) (.nil))))))) rfl rfl⟩
        · replace q214 := if_f c217 q214
          refine Tri.run (G := gm_ring_After) tyOk mixed ?_
          conv => whnf
          cases q214
          exact ⟨rfl, weak_fin _ rfl rfl rfl (.cons (.same rfl) (.cons (.same rfl) (LeH.rest))) (.cons (.one (.same rfl)) (.cons (.one (.same rfl)) (.cons (.one (.same rfl)) (.cons (.one (.same rfl)) (.cons (.one (.same rfl)) (.cons (.one (.same rfl)) (.nil))))))) rfl rfl⟩
      · rintro ex S' ⟨rfl, w221⟩
        conv => whnf
        refine Tri.weak w221 ?_
        refine Tri.run (G := gm_ring_After) tyOk mixed ?_
        conv => whnf
        cases hv
        exact ⟨_, rfl, weak_fin _ rfl rfl rfl (.cons (.same rfl) (.cons (.same rfl) (LeH.rest))) (.cons (.one (.same rfl)) (.cons (.one (.same rfl)) (.cons (.one (.same rfl)) (.cons (.one (.same rfl)) (.cons (.one (.same rfl)) (.cons (.one (.same rfl)) (.nil))))))) rfl rfl⟩
    · replace hv := if_f c200 hv
      refine Tri.run (G := gm_ring_After) tyOk mixed ?_
      conv => whnf
      cases hv
      obtain rfl := r198 _ rfl
      exact ⟨rfl, weak_fin _ rfl rfl rfl (.cons (.gone) (.cons (.same rfl) (LeH.rest))) (.cons (.one (.same rfl)) (.nil)) rfl rfl⟩
  · rintro ex S' ⟨rfl, w222⟩
    conv => whnf
    refine Tri.weak w222 ?_
    refine Tri.seqK ?_
    refine Tri.run (G := gm_ring_After) tyOk mixed ?_
    conv => whnf
    replace h := need_some h
    obtain ⟨p223, h⟩ := h
    refine sort_47 rfl (by simp) p223 ?_
    conv => whnf
    refine Tri.seqK ?_
    refine Tri.weak (show Weak _ ⟨33, 0, ofRegs [(5, .row 1 ((List.map (encI .i64) (List.mergeSort y194 leI)).length)), (29, .row 1 ((List.map (encI .i64) (List.mergeSort y194 leI)).length)), (30, .tup [])], [.gone, .row 3 1 (List.map (encI .i64) (List.mergeSort y194 leI))]⟩ from weak_fin _ rfl rfl rfl (.cons (.same rfl) (.cons (.same rfl) (LeH.rest))) (.cons (.one (.same (show (.row 1 ((List.map (encI .i64) y194).length) : AV) = (.row 1 ((List.map (encI .i64) (List.mergeSort y194 leI)).length) : AV) from congrArg (AV.row 1) (by simp)))) (.cons (.one (.same (show (.row 1 ((List.map (encI .i64) y194).length) : AV) = (.row 1 ((List.map (encI .i64) (List.mergeSort y194 leI)).length) : AV) from congrArg (AV.row 1) (by simp)))) (.cons (.one (.same rfl)) (.nil)))) rfl rfl) ?_
    refine Tri.run (G := gm_ring_After) tyOk mixed ?_
    conv => whnf
    replace h := bind_some h
    obtain ⟨y224, q225, h⟩ := h
    refine CallP.use (slices_Compact_int_walk (List.mergeSort y194 leI) y224 q225) [1] rfl rfl rfl rfl rfl rfl rfl rfl rfl ?_
    conv => whnf
    refine Tri.run (G := gm_ring_After) tyOk mixed ?_
    conv => whnf
    refine fin_here ?_
    conv => whnf
    cases h
    rfl
noncomputable def ring_Reach_1 (t : Int) (v : Locks) : Option ((List Int)) :=
  (ring_After v t).bind fun y3 =>
  some y3
def gm_ring_Reach_1 : Gm := ⟨tys, [], [], []⟩
theorem ring_Reach_1_walk (t : Int) (v : Locks) (r : (List Int)) (h : ring_Reach_1 t v = some r) : CallP Try.prog 50 [.var 25 [.sl (List.map encHold v.Held), .sl (List.map encClaim v.Queue)]] [.v (.int .i64 t), .ptr 0 0] (fun a H' => a = .sl (List.map (encI .i64) r) ∧ H'.take ([.var 25 [.sl (List.map encHold v.Held), .sl (List.map encClaim v.Queue)]] : List Ob).length = [.var 25 [.sl (List.map encHold v.Held), .sl (List.map encClaim v.Queue)]]) := by
  unfold ring_Reach_1 at h
  refine callW (G := gm_ring_Reach_1) tyOk Try.func50 rfl (by kernel_rfl) (by simp [Try.f50]) ?_
  refine Tri.seqK ?_
  refine Tri.run (G := gm_ring_Reach_1) tyOk mixed ?_
  conv => whnf
  refine Tri.seqK ?_
  refine Tri.run (G := gm_ring_Reach_1) tyOk mixed ?_
  conv => whnf
  replace h := bind_some h
  obtain ⟨y3, q4, h⟩ := h
  refine PureP.mono (ring_After_walk v t y3 q4) ?_
  rintro _ rfl
  conv => whnf
  refine Tri.run (G := gm_ring_Reach_1) tyOk mixed ?_
  conv => whnf
  refine fin_pre (S' := ⟨7, 1, ofRegs [(3, .sl (List.map (encI .i64) y3))], [.var 25 [.sl (List.map encHold v.Held), .sl (List.map encClaim v.Queue)]]⟩) (weak_fin _ rfl rfl rfl (.cons (.same rfl) (LeH.rest)) (.cons (.one (.same rfl)) (.nil)) rfl rfl) ?_
  conv => whnf
  cases h
  exact ⟨rfl, rfl⟩
noncomputable def ring_Reach_l91 (a6089 : (List Int)) (a6463 : Int) (a6464 : (List Int)) (a6465 : (List Int)) : Option ((Int × (List Int) × (List Int)) ⊕ ((List Int) × (List Int))) :=
  if (decide (a6463 < (a6089.length : Int))) then
    (
      (ix a6089 a6463).bind fun x6487 =>
      need (-9223372036854775808 ≤ x6487 ∧ x6487 ≤ 9223372036854775807) <|
      if (!(decide (x6487 ∈ a6464))) then
        need ((-9223372036854775808 ≤ x6487 ∧ x6487 ≤ 9223372036854775807) ∧ a6464.length < 1073741824) <|
        need ((-9223372036854775808 ≤ x6487 ∧ x6487 ≤ 9223372036854775807) ∧ a6465.length < 1073741824) <|
        some ((insI a6464 x6487), (insI a6465 x6487))
      else
        some (a6464, a6465)).bind fun (y6485 : (List Int) × (List Int)) =>
    some (.inl ((IntKind.i64.wrap (a6463 + 1)), y6485.1, y6485.2))
  else
    some (.inr (a6464, a6465))
noncomputable def ring_Reach_l92 (l : Locks) (y6466 : (List Int) × (List Int)) (a6532 : Int) (a6533 : (List Int)) (a6534 : (List Int)) : Option ((Int × (List Int) × (List Int)) ⊕ ((List Int) × (List Int))) :=
  if (decide (a6532 < ((List.mergeSort y6466.2 leI).length : Int))) then
    (ix (List.mergeSort y6466.2 leI) a6532).bind fun x6542 =>
    need (-9223372036854775808 ≤ x6542 ∧ x6542 ≤ 9223372036854775807) <|
    (ring_Reach_1 x6542 l).bind fun y6548 =>
    need ((a6534.length + y6548.length) * 8 ≤ 140737488355328) <|
    some (.inl ((IntKind.i64.wrap (a6532 + 1)), (delI a6533 x6542), (a6534 ++ y6548)))
  else
    some (.inr (a6533, a6534))
noncomputable def ring_Reach_l97 (a6090 : (List Int)) (a6901 : Int) (a6902 : (List Int)) (a6903 : (List Int)) : Option ((Int × (List Int) × (List Int)) ⊕ ((List Int) × (List Int))) :=
  if (decide (a6901 < (a6090.length : Int))) then
    (
      (ix a6090 a6901).bind fun x6925 =>
      need (-9223372036854775808 ≤ x6925 ∧ x6925 ≤ 9223372036854775807) <|
      if (!(decide (x6925 ∈ a6902))) then
        need ((-9223372036854775808 ≤ x6925 ∧ x6925 ≤ 9223372036854775807) ∧ a6902.length < 1073741824) <|
        need ((-9223372036854775808 ≤ x6925 ∧ x6925 ≤ 9223372036854775807) ∧ a6903.length < 1073741824) <|
        some ((insI a6902 x6925), (insI a6903 x6925))
      else
        some (a6902, a6903)).bind fun (y6923 : (List Int) × (List Int)) =>
    some (.inl ((IntKind.i64.wrap (a6901 + 1)), y6923.1, y6923.2))
  else
    some (.inr (a6902, a6903))
noncomputable def ring_Reach_l98 (l : Locks) (y6904 : (List Int) × (List Int)) (a6970 : Int) (a6971 : (List Int)) (a6972 : (List Int)) : Option ((Int × (List Int) × (List Int)) ⊕ ((List Int) × (List Int))) :=
  if (decide (a6970 < ((List.mergeSort y6904.2 leI).length : Int))) then
    (ix (List.mergeSort y6904.2 leI) a6970).bind fun x6980 =>
    need (-9223372036854775808 ≤ x6980 ∧ x6980 ≤ 9223372036854775807) <|
    (ring_Reach_1 x6980 l).bind fun y6986 =>
    need ((a6972.length + y6986.length) * 8 ≤ 140737488355328) <|
    some (.inl ((IntKind.i64.wrap (a6970 + 1)), (delI a6971 x6980), (a6972 ++ y6986)))
  else
    some (.inr (a6971, a6972))
noncomputable def ring_Reach_l86 (l : Locks) (a6086 : Int) (a6087 : (List Int)) (a6088 : (List Int)) (a6089 : (List Int)) (a6090 : (List Int)) : Option ((Int × (List Int) × (List Int) × (List Int) × (List Int)) ⊕ ((List Int))) :=
  (
    need (0 ≤ a6086 ∧ a6086 < 2) <|
    if (decide (a6086 = 0)) then
      if (decide ((a6089.length : Int) > 0)) then
        some (.inl ())
      else
        some (.inr (.inr ()))
    else
      if (decide ((a6090.length : Int) > 0)) then
        some (.inr (.inl ()))
      else
        some (.inr (.inr ()))).bind fun (y6104 : (Unit) ⊕ (Unit) ⊕ (Unit)) =>
  match y6104 with
  | (.inl v6106) =>
    (loop (fun (s6468 : Int × (List Int) × (List Int)) => ring_Reach_l91 a6089 s6468.1 s6468.2.1 s6468.2.2) ((0 : Int), a6087, a6088)).bind fun (y6466 : (List Int) × (List Int)) =>
    need (y6466.2.length < 1073741824) <|
    (loop (fun (s6537 : Int × (List Int) × (List Int)) => ring_Reach_l92 l y6466 s6537.1 s6537.2.1 s6537.2.2) ((0 : Int), y6466.2, ([] : (List Int)))).bind fun (y6535 : (List Int) × (List Int)) =>
    some (.inl (1, y6466.1, y6535.1, a6089, y6535.2))
  | (.inr (.inl v6107)) =>
    (loop (fun (s6906 : Int × (List Int) × (List Int)) => ring_Reach_l97 a6090 s6906.1 s6906.2.1 s6906.2.2) ((0 : Int), a6087, a6088)).bind fun (y6904 : (List Int) × (List Int)) =>
    need (y6904.2.length < 1073741824) <|
    (loop (fun (s6975 : Int × (List Int) × (List Int)) => ring_Reach_l98 l y6904 s6975.1 s6975.2.1 s6975.2.2) ((0 : Int), y6904.2, ([] : (List Int)))).bind fun (y6973 : (List Int) × (List Int)) =>
    some (.inl (0, y6904.1, y6973.1, y6973.2, a6090))
  | (.inr (.inr v6108)) =>
    some (.inr a6087)
noncomputable def ring_Reach (l : Locks) (txn : Int) : Option ((List Int)) :=
  (ring_Reach_1 txn l).bind fun y1 =>
  (loop (fun (s6093 : Int × (List Int) × (List Int) × (List Int) × (List Int)) => ring_Reach_l86 l s6093.1 s6093.2.1 s6093.2.2.1 s6093.2.2.2.1 s6093.2.2.2.2) ((0 : Int), ([] : List Int), ([] : List Int), y1, ([] : (List Int)))).bind fun (y6091 : (List Int)) =>
  need (y6091.length < 1073741824) <|
  some (List.mergeSort y6091 leI)
def gm_ring_Reach : Gm := ⟨tys, [50, 51, 52], [], []⟩
theorem ring_Reach_walk (l : Locks) (txn : Int) (r : (List Int)) (h : ring_Reach l txn = some r) : FreshP Try.prog 20 [.agg [.sl (List.map encHold l.Held), .sl (List.map encClaim l.Queue)], .v (.int .i64 txn)] 3 1 (fun ys => ys = List.map (encI .i64) r) := by
  unfold ring_Reach at h
  refine freshW (G := gm_ring_Reach) tyOk Try.func20 rfl (by kernel_rfl) (by simp [Try.f20]) ?_
  refine Tri.seqK ?_
  refine Tri.run (G := gm_ring_Reach) tyOk mixed ?_
  conv => whnf
  refine Tri.seqK ?_
  refine Tri.run (G := gm_ring_Reach) tyOk mixed ?_
  conv => whnf
  refine Tri.seqK ?_
  refine Tri.run (G := gm_ring_Reach) tyOk mixed ?_
  conv => whnf
  refine OpP.make 3 4 rfl rfl ?_
  conv => whnf
  refine Tri.seqK ?_
  refine Tri.run (G := gm_ring_Reach) tyOk mixed ?_
  conv => whnf
  refine OpP.make 3 4 rfl rfl ?_
  conv => whnf
  refine Tri.seqK ?_
  refine Tri.run (G := gm_ring_Reach) tyOk mixed ?_
  conv => whnf
  replace h := bind_some h
  obtain ⟨y1, q2, h⟩ := h
  refine CallP.use (ring_Reach_1_walk txn l y1 q2) [0] rfl rfl rfl rfl rfl rfl rfl rfl rfl ?_
  conv => whnf
  refine Tri.seqK ?_
  refine Tri.seqK ?_
  refine Tri.run (G := gm_ring_Reach) tyOk mixed ?_
  conv => whnf
  refine Tri.block ?_
  replace h := bind_some h
  obtain ⟨y6091, q6092, h⟩ := h
  refine Tri.cut (fun ex S' => ex = (.exit 0) ∧ Weak S' ⟨73, 0, ofRegs [(6, .mp 1)], [.gone, .ext (mapI Try.prog 3 4 y6091)]⟩) ?_ ?_
  · refine Tri.loopF (fun (s6093 : Int × (List Int) × (List Int) × (List Int) × (List Int)) => (⟨73, 0, ofRegs [(5, .fn (.func 50) [] [.ptr 0 0]), (6, .mp 1), (7, .mp 2), (8, .ptr 3 0), (9, .v (.int .i64 s6093.1))], [.var 25 [.sl (List.map encHold l.Held), .sl (List.map encClaim l.Queue)], .ext (mapI Try.prog 3 4 s6093.2.1), .ext (mapI Try.prog 3 4 s6093.2.2.1), .var 71 [.sl (List.map (encI .i64) s6093.2.2.2.1), .sl (List.map (encI .i64) s6093.2.2.2.2)]]⟩ : St)) q6092 (weak_fin _ rfl rfl rfl (.cons (.same rfl) (.cons (.same rfl) (.cons (.same rfl) (.cons (.var (.cons (.same rfl) (.cons (.nil) (.nil)))) (LeH.rest))))) (.cons (.one (.same rfl)) (.cons (.one (.same rfl)) (.cons (.one (.same rfl)) (.cons (.one (.same rfl)) (.cons (.one (.same rfl)) (.nil)))))) rfl rfl) ?_
    rintro ⟨a6086, a6087, a6088, a6089, a6090⟩ v6094 hv r6095
    have hv : ring_Reach_l86 l a6086 a6087 a6088 a6089 a6090 = some v6094 := hv
    unfold ring_Reach_l86 at hv
    dsimp only
    refine Tri.seqK ?_
    replace hv := bind_some hv
    obtain ⟨y6104, q6105, hv⟩ := hv
    refine Tri.cut (fun ex S' => (∃ v6106 : Unit, y6104 = (.inl v6106) ∧ ex = .normal ∧ Weak S' ⟨73, 0, ofRegs [(5, .fn (.func 50) [] [.ptr 0 0]), (6, .mp 1), (7, .mp 2), (8, .ptr 3 0), (9, .v (.int .i64 0))], [.var 25 [.sl (List.map encHold l.Held), .sl (List.map encClaim l.Queue)], .ext (mapI Try.prog 3 4 a6087), .ext (mapI Try.prog 3 4 a6088), .var 71 [.sl (List.map (encI .i64) a6089), .sl (List.map (encI .i64) a6090)]]⟩) ∨ (∃ v6107 : Unit, y6104 = (.inr (.inl v6107)) ∧ ex = .normal ∧ Weak S' ⟨73, 0, ofRegs [(5, .fn (.func 50) [] [.ptr 0 0]), (6, .mp 1), (7, .mp 2), (8, .ptr 3 0), (9, .v (.int .i64 1))], [.var 25 [.sl (List.map encHold l.Held), .sl (List.map encClaim l.Queue)], .ext (mapI Try.prog 3 4 a6087), .ext (mapI Try.prog 3 4 a6088), .var 71 [.sl (List.map (encI .i64) a6089), .sl (List.map (encI .i64) a6090)]]⟩) ∨ (∃ v6108 : Unit, y6104 = (.inr (.inr v6108)) ∧ ex = (.exit 0) ∧ Weak S' ⟨73, 0, ofRegs [(6, .mp 1)], [.gone, .ext (mapI Try.prog 3 4 a6087)]⟩)) ?_ ?_
    · refine Tri.seqK ?_
      refine Tri.run (G := gm_ring_Reach) tyOk mixed ?_
      conv => whnf
      replace q6105 := need_some q6105
      obtain ⟨p6109, q6105⟩ := q6105
      by_cases c6110 : (decide (a6086 = 0)) = true
      · replace q6105 := if_t c6110 q6105
        obtain rfl : a6086 = 0 := by simpa using c6110
        refine ⟨by decide, ?_⟩
        conv => whnf
        refine ⟨⟨(a6089.length : Int), (len_map _ _).symm, ?_⟩⟩
        conv => whnf
        refine Tri.cond rfl (fun c6111 => ?_) (fun c6111 => ?_)
        · replace q6105 := if_t c6111 q6105
          refine Tri.run (G := gm_ring_Reach) tyOk mixed ?_
          conv => whnf
          cases q6105
          exact Or.inl ⟨_, rfl, rfl, weak_fin _ rfl rfl rfl (.cons (.same rfl) (.cons (.same rfl) (.cons (.same rfl) (.cons (.same rfl) (LeH.rest))))) (.cons (.one (.same rfl)) (.cons (.one (.same rfl)) (.cons (.one (.same rfl)) (.cons (.one (.same rfl)) (.cons (.one (.same rfl)) (.nil)))))) rfl rfl⟩
        · replace q6105 := if_f c6111 q6105
          refine Tri.run (G := gm_ring_Reach) tyOk mixed ?_
          conv => whnf
          cases q6105
          exact Or.inr (Or.inr (⟨_, rfl, rfl, weak_fin _ rfl rfl rfl (.cons (.gone) (.cons (.same rfl) (LeH.rest))) (.cons (.one (.same rfl)) (.nil)) rfl rfl⟩))
      · replace c6110 := Bool.eq_false_iff.2 c6110
        replace q6105 := if_f c6110 q6105
        obtain rfl : a6086 = 1 := by have := c6110; simp at *; omega
        refine ⟨by decide, ?_⟩
        conv => whnf
        refine ⟨⟨(a6090.length : Int), (len_map _ _).symm, ?_⟩⟩
        conv => whnf
        refine Tri.cond rfl (fun c6112 => ?_) (fun c6112 => ?_)
        · replace q6105 := if_t c6112 q6105
          refine Tri.run (G := gm_ring_Reach) tyOk mixed ?_
          conv => whnf
          cases q6105
          exact Or.inr (Or.inl ⟨_, rfl, rfl, weak_fin _ rfl rfl rfl (.cons (.same rfl) (.cons (.same rfl) (.cons (.same rfl) (.cons (.same rfl) (LeH.rest))))) (.cons (.one (.same rfl)) (.cons (.one (.same rfl)) (.cons (.one (.same rfl)) (.cons (.one (.same rfl)) (.cons (.one (.same rfl)) (.nil)))))) rfl rfl⟩)
        · replace q6105 := if_f c6112 q6105
          refine Tri.run (G := gm_ring_Reach) tyOk mixed ?_
          conv => whnf
          cases q6105
          exact Or.inr (Or.inr (⟨_, rfl, rfl, weak_fin _ rfl rfl rfl (.cons (.gone) (.cons (.same rfl) (LeH.rest))) (.cons (.one (.same rfl)) (.nil)) rfl rfl⟩))
    · rintro ex S' (⟨v6106, rfl, rfl, w6113⟩ | ⟨v6107, rfl, rfl, w6113⟩ | ⟨v6108, rfl, rfl, w6113⟩)
      · dsimp only at hv
        conv => whnf
        refine Tri.weak w6113 ?_
        refine Tri.seqK ?_
        refine Tri.block ?_
        refine Tri.seqK ?_
        refine Tri.seqK ?_
        refine Tri.run (G := gm_ring_Reach) tyOk mixed ?_
        conv => whnf
        refine ⟨by decide, ?_⟩
        conv => whnf
        refine ⟨⟨(a6089.length : Int), (len_map _ _).symm, ?_⟩⟩
        conv => whnf
        refine Tri.block ?_
        replace hv := bind_some hv
        obtain ⟨y6466, q6467, hv⟩ := hv
        refine Tri.cut (fun ex S' => ex = (.exit 2) ∧ Weak S' ⟨73, 0, ofRegs [(5, .fn (.func 50) [] [.ptr 0 0]), (6, .mp 1), (7, .mp 2), (8, .ptr 3 0), (9, .v (.int .i64 0))], [.var 25 [.sl (List.map encHold l.Held), .sl (List.map encClaim l.Queue)], .ext (mapI Try.prog 3 4 y6466.1), .ext (mapI Try.prog 3 4 y6466.2), .var 71 [.sl (List.map (encI .i64) a6089), .sl (List.map (encI .i64) a6090)]]⟩) ?_ ?_
        · refine Tri.loopF (fun (s6468 : Int × (List Int) × (List Int)) => (⟨73, 0, ofRegs [(5, .fn (.func 50) [] [.ptr 0 0]), (6, .mp 1), (7, .mp 2), (8, .ptr 3 0), (9, .v (.int .i64 0)), (30, .sl (List.map (encI .i64) a6089)), (31, .v (.int .i64 (a6089.length : Int))), (32, .v (.int .i64 s6468.1))], [.var 25 [.sl (List.map encHold l.Held), .sl (List.map encClaim l.Queue)], .ext (mapI Try.prog 3 4 s6468.2.1), .ext (mapI Try.prog 3 4 s6468.2.2), .var 71 [.sl (List.map (encI .i64) a6089), .sl (List.map (encI .i64) a6090)]]⟩ : St)) q6467 (weak_fin _ rfl rfl rfl (.cons (.same rfl) (.cons (.same rfl) (.cons (.same rfl) (.cons (.same rfl) (LeH.rest))))) (.cons (.one (.same rfl)) (.cons (.one (.same rfl)) (.cons (.one (.same rfl)) (.cons (.one (.same rfl)) (.cons (.one (.same rfl)) (.cons (.one (.same rfl)) (.cons (.one (.same rfl)) (.cons (.one (.same rfl)) (.nil))))))))) rfl rfl) ?_
          rintro ⟨a6463, a6464, a6465⟩ v6469 hv r6470
          have hv : ring_Reach_l91 a6089 a6463 a6464 a6465 = some v6469 := hv
          unfold ring_Reach_l91 at hv
          dsimp only
          refine Tri.seqK ?_
          refine Tri.run (G := gm_ring_Reach) tyOk mixed ?_
          conv => whnf
          refine Tri.seqK ?_
          refine Tri.cond rfl (fun c6472 => ?_) (fun c6472 => ?_)
          · replace hv := if_t c6472 hv
            refine Tri.run (G := gm_ring_Reach) tyOk mixed ?_
            conv => whnf
            refine Tri.seqK ?_
            replace hv := bind_some hv
            obtain ⟨y6485, q6486, hv⟩ := hv
            refine Tri.cut (fun ex S' => ex = .normal ∧ Weak S' ⟨73, 0, ofRegs [(5, .fn (.func 50) [] [.ptr 0 0]), (6, .mp 1), (7, .mp 2), (8, .ptr 3 0), (9, .v (.int .i64 0)), (30, .sl (List.map (encI .i64) a6089)), (31, .v (.int .i64 (a6089.length : Int))), (32, .v (.int .i64 a6463))], [.var 25 [.sl (List.map encHold l.Held), .sl (List.map encClaim l.Queue)], .ext (mapI Try.prog 3 4 y6485.1), .ext (mapI Try.prog 3 4 y6485.2), .var 71 [.sl (List.map (encI .i64) a6089), .sl (List.map (encI .i64) a6090)]]⟩) ?_ ?_
            · refine Tri.block ?_
              refine Tri.seqK ?_
              refine Tri.run (G := gm_ring_Reach) tyOk mixed ?_
              conv => whnf
              replace q6486 := bind_some q6486
              obtain ⟨x6487, q6488, q6486⟩ := q6486
              refine ⟨(ix_some q6488).1, ?_⟩
              conv => whnf
              refine ⟨⟨_, map_get (encI .i64) (ix_some q6488).2, ?_⟩⟩
              conv => whnf
              refine ⟨rfl, ?_⟩
              conv => whnf
              refine Tri.seqK ?_
              refine Tri.run (G := gm_ring_Reach) tyOk mixed ?_
              conv => whnf
              replace q6486 := need_some q6486
              obtain ⟨p6489, q6486⟩ := q6486
              refine OpP.get rfl rfl rfl rfl rfl Try.underlying70 Try.underlying3 Try.underlying4 Try.zeroValue4 p6489 ?_
              conv => whnf
              refine Tri.cond rfl (fun c6490 => ?_) (fun c6490 => ?_)
              · replace q6486 := if_t c6490 q6486
                refine Tri.run (G := gm_ring_Reach) tyOk mixed ?_
                conv => whnf
                replace q6486 := need_some q6486
                obtain ⟨p6491, q6486⟩ := q6486
                refine OpP.set rfl rfl rfl rfl rfl rfl Try.underlying70 Try.underlying3 Try.underlying4 p6491 ?_
                conv => whnf
                replace q6486 := need_some q6486
                obtain ⟨p6492, q6486⟩ := q6486
                refine OpP.set rfl rfl rfl rfl rfl rfl Try.underlying70 Try.underlying3 Try.underlying4 p6492 ?_
                conv => whnf
                cases q6486
                exact ⟨rfl, weak_fin _ rfl rfl rfl (.cons (.same rfl) (.cons (.same rfl) (.cons (.same rfl) (.cons (.same rfl) (LeH.rest))))) (.cons (.one (.same rfl)) (.cons (.one (.same rfl)) (.cons (.one (.same rfl)) (.cons (.one (.same rfl)) (.cons (.one (.same rfl)) (.cons (.one (.same rfl)) (.cons (.one (.same rfl)) (.cons (.one (.same rfl)) (.nil))))))))) rfl rfl⟩
              · replace q6486 := if_f c6490 q6486
                refine Tri.run (G := gm_ring_Reach) tyOk mixed ?_
                conv => whnf
                cases q6486
                exact ⟨rfl, weak_fin _ rfl rfl rfl (.cons (.same rfl) (.cons (.same rfl) (.cons (.same rfl) (.cons (.same rfl) (LeH.rest))))) (.cons (.one (.same rfl)) (.cons (.one (.same rfl)) (.cons (.one (.same rfl)) (.cons (.one (.same rfl)) (.cons (.one (.same rfl)) (.cons (.one (.same rfl)) (.cons (.one (.same rfl)) (.cons (.one (.same rfl)) (.nil))))))))) rfl rfl⟩
            · rintro ex S' ⟨rfl, w6493⟩
              conv => whnf
              refine Tri.weak w6493 ?_
              refine Tri.run (G := gm_ring_Reach) tyOk mixed ?_
              conv => whnf
              cases hv
              exact ⟨_, rfl, weak_fin _ rfl rfl rfl (.cons (.same rfl) (.cons (.same rfl) (.cons (.same rfl) (.cons (.same rfl) (LeH.rest))))) (.cons (.one (.same rfl)) (.cons (.one (.same rfl)) (.cons (.one (.same rfl)) (.cons (.one (.same rfl)) (.cons (.one (.same rfl)) (.cons (.one (.same rfl)) (.cons (.one (.same rfl)) (.cons (.one (.same rfl)) (.nil))))))))) rfl rfl⟩
          · replace hv := if_f c6472 hv
            refine Tri.run (G := gm_ring_Reach) tyOk mixed ?_
            conv => whnf
            cases hv
            obtain rfl := r6470 _ rfl
            exact ⟨rfl, weak_fin _ rfl rfl rfl (.cons (.same rfl) (.cons (.same rfl) (.cons (.same rfl) (.cons (.same rfl) (LeH.rest))))) (.cons (.one (.same rfl)) (.cons (.one (.same rfl)) (.cons (.one (.same rfl)) (.cons (.one (.same rfl)) (.cons (.one (.same rfl)) (.nil)))))) rfl rfl⟩
        · rintro ex S' ⟨rfl, w6494⟩
          conv => whnf
          refine Tri.weak w6494 ?_
          refine Tri.seqK ?_
          refine Tri.run (G := gm_ring_Reach) tyOk mixed ?_
          conv => whnf
          refine ⟨by decide, ?_⟩
          conv => whnf
          refine Tri.seqK ?_
          refine Tri.run (G := gm_ring_Reach) tyOk mixed ?_
          conv => whnf
          refine keys_52 ?_
          conv => whnf
          replace hv := need_some hv
          obtain ⟨p6495, hv⟩ := hv
          refine sorted_51 rfl rfl p6495 ?_
          conv => whnf
          refine ⟨by first | (simp; done) | (simp only [List.length_map, List.length_append, List.length_take, List.length_drop, List.length_replicate, List.length_set, List.length_mergeSort]; omega), ?_⟩
          conv => whnf
          refine ⟨⟨((List.mergeSort y6466.2 leI).length : Int), by simp, ?_⟩⟩
          conv => whnf
          refine Tri.block ?_
          replace hv := bind_some hv
          obtain ⟨y6535, q6536, hv⟩ := hv
          refine Tri.cut (fun ex S' => ex = (.exit 4) ∧ Weak S' ⟨73, 0, ofRegs [(5, .fn (.func 50) [] [.ptr 0 0]), (6, .mp 1), (7, .mp 2), (8, .ptr 3 0), (9, .v (.int .i64 0))], [.var 25 [.sl (List.map encHold l.Held), .sl (List.map encClaim l.Queue)], .ext (mapI Try.prog 3 4 y6466.1), .ext (mapI Try.prog 3 4 y6535.1), .var 71 [.sl (List.map (encI .i64) a6089), .row 6 ((List.map (encI .i64) y6535.2).length)], .gone, .gone, .row 3 1 (List.map (encI .i64) y6535.2)]⟩) ?_ ?_
          · refine Tri.loopF (fun (s6537 : Int × (List Int) × (List Int)) => (⟨73, 0, ofRegs [(5, .fn (.func 50) [] [.ptr 0 0]), (6, .mp 1), (7, .mp 2), (8, .ptr 3 0), (9, .v (.int .i64 0)), (50, .row 5 ((List.map (encI .i64) (List.mergeSort y6466.2 leI)).length)), (51, .v (.int .i64 ((List.mergeSort y6466.2 leI).length : Int))), (52, .v (.int .i64 s6537.1))], [.var 25 [.sl (List.map encHold l.Held), .sl (List.map encClaim l.Queue)], .ext (mapI Try.prog 3 4 y6466.1), .ext (mapI Try.prog 3 4 s6537.2.1), .var 71 [.sl (List.map (encI .i64) a6089), .row 6 ((List.map (encI .i64) s6537.2.2).length)], .gone, .row 3 1 (List.map (encI .i64) (List.mergeSort y6466.2 leI)), .row 3 1 (List.map (encI .i64) s6537.2.2)]⟩ : St)) q6536 (Weak.trans (weak_nilcell 3 1 3 1 rfl rfl) (weak_fin _ rfl rfl rfl (.cons (.same rfl) (.cons (.same rfl) (.cons (.same rfl) (.cons (.var (.cons (.same rfl) (.cons (.same (show (.row 6 0 : AV) = (.row 6 ((List.map (encI .i64) []).length) : AV) from congrArg (AV.row 6) (by simp))) (.nil)))) (.cons (.gone) (.cons (.same rfl) (.cons (.same rfl) (LeH.rest)))))))) (.cons (.one (.same rfl)) (.cons (.one (.same rfl)) (.cons (.one (.same rfl)) (.cons (.one (.same rfl)) (.cons (.one (.same rfl)) (.cons (.one (.same (show (.row 5 ((List.mergeSort y6466.2 leI).length) : AV) = (.row 5 ((List.map (encI .i64) (List.mergeSort y6466.2 leI)).length) : AV) from congrArg (AV.row 5) (by simp)))) (.cons (.one (.same rfl)) (.cons (.one (.same rfl)) (.nil))))))))) rfl rfl)) ?_
            rintro ⟨a6532, a6533, a6534⟩ v6538 hv r6539
            have hv : ring_Reach_l92 l y6466 a6532 a6533 a6534 = some v6538 := hv
            unfold ring_Reach_l92 at hv
            dsimp only
            refine Tri.seqK ?_
            refine Tri.run (G := gm_ring_Reach) tyOk mixed ?_
            conv => whnf
            refine Tri.seqK ?_
            refine Tri.cond rfl (fun c6541 => ?_) (fun c6541 => ?_)
            · replace hv := if_t c6541 hv
              refine Tri.run (G := gm_ring_Reach) tyOk mixed ?_
              conv => whnf
              refine Tri.seqK ?_
              refine Tri.block ?_
              refine Tri.seqK ?_
              refine Tri.run (G := gm_ring_Reach) tyOk mixed ?_
              conv => whnf
              replace hv := bind_some hv
              obtain ⟨x6542, q6543, hv⟩ := hv
              refine ⟨⟨rfl, (ix_lt q6543).1, by have := ix_lt q6543; simp only [List.length_map, List.length_set, List.length_cons, List.length_nil] at *; omega⟩, ?_⟩
              conv => whnf
              refine ⟨rfl, ?_⟩
              conv => whnf
              refine ⟨⟨_, map_get (encI .i64) (ix_some q6543).2, ?_⟩⟩
              conv => whnf
              refine Tri.seqK ?_
              refine Tri.run (G := gm_ring_Reach) tyOk mixed ?_
              conv => whnf
              replace hv := need_some hv
              obtain ⟨p6544, hv⟩ := hv
              refine OpP.del rfl rfl rfl rfl rfl Try.underlying70 Try.underlying3 Try.underlying4 p6544 ?_
              conv => whnf
              refine Tri.run (G := gm_ring_Reach) tyOk mixed ?_
              conv => whnf
              refine Draw.one 11 (.take 0 (.take 1 (.take 2 (.take 3 (.take 4 (.take 5 (.take 6 (.take 7 (.alt 8 (.alt 9 (.take 10 (.fin)) (.nil)) (.nil)))))))))) [0] (by kernel_rfl) ?_
              conv => whnf
              refine ⟨by decide, ?_⟩
              conv => whnf
              refine ⟨?_, ?_⟩
              · conv => whnf
                replace hv := bind_some hv
                obtain ⟨y6548, q6549, hv⟩ := hv
                refine CallP.use (ring_Reach_1_walk x6542 l y6548 q6549) [0] rfl rfl rfl rfl rfl rfl rfl rfl rfl ?_
                conv => whnf
                refine ⟨?_, ?_⟩
                · conv => whnf
                  refine ⟨rfl, ?_⟩
                  conv => whnf
                  refine ⟨map_len (f := (encI .i64)) (n := 1) (fun _ => rfl) _, ?_⟩
                  conv => whnf
                  replace hv := need_some hv
                  obtain ⟨p6550, hv⟩ := hv
                  refine ⟨by simp only [List.length_map]; exact p6550, ?_⟩
                  conv => whnf
                  refine ⟨⟨List.map (encI .i64) (a6534 ++ y6548), map_app (encI .i64) _ _ rfl rfl, ?_⟩⟩
                  conv => whnf
                  refine ⟨by decide, ?_⟩
                  conv => whnf
                  refine Tri.run (G := gm_ring_Reach) tyOk mixed ?_
                  conv => whnf
                  cases hv
                  exact ⟨_, rfl, weak_fin _ rfl rfl rfl (.cons (.same rfl) (.cons (.same rfl) (.cons (.same rfl) (.cons (.same rfl) (.cons (.same rfl) (.cons (.same rfl) (.cons (.same rfl) (LeH.rest)))))))) (.cons (.one (.same rfl)) (.cons (.one (.same rfl)) (.cons (.one (.same rfl)) (.cons (.one (.same rfl)) (.cons (.one (.same rfl)) (.cons (.one (.same rfl)) (.cons (.one (.same rfl)) (.cons (.one (.same rfl)) (.nil))))))))) rfl rfl⟩
                · conv => whnf
                  trivial
              · conv => whnf
                trivial
            · replace hv := if_f c6541 hv
              refine Tri.run (G := gm_ring_Reach) tyOk mixed ?_
              conv => whnf
              cases hv
              obtain rfl := r6539 _ rfl
              exact ⟨rfl, weak_fin _ rfl rfl rfl (.cons (.same rfl) (.cons (.same rfl) (.cons (.same rfl) (.cons (.same rfl) (.cons (.same rfl) (.cons (.gone) (.cons (.same rfl) (LeH.rest)))))))) (.cons (.one (.same rfl)) (.cons (.one (.same rfl)) (.cons (.one (.same rfl)) (.cons (.one (.same rfl)) (.cons (.one (.same rfl)) (.nil)))))) rfl rfl⟩
          · rintro ex S' ⟨rfl, w6551⟩
            conv => whnf
            refine Tri.weak w6551 ?_
            refine Tri.run (G := gm_ring_Reach) tyOk mixed ?_
            conv => whnf
            cases hv
            exact ⟨_, rfl, Weak.trans (weak_freeze 6 rfl) (weak_fin _ rfl rfl rfl (.cons (.same rfl) (.cons (.same rfl) (.cons (.same rfl) (.cons (.var (.cons (.same rfl) (.cons (.frz rfl (rfl)) (.nil)))) (LeH.rest))))) (.cons (.one (.same rfl)) (.cons (.one (.same rfl)) (.cons (.one (.same rfl)) (.cons (.one (.same rfl)) (.cons (.one (.same rfl)) (.nil)))))) rfl rfl)⟩
      · dsimp only at hv
        conv => whnf
        refine Tri.weak w6113 ?_
        refine Tri.seqK ?_
        refine Tri.block ?_
        refine Tri.seqK ?_
        refine Tri.seqK ?_
        refine Tri.run (G := gm_ring_Reach) tyOk mixed ?_
        conv => whnf
        refine ⟨by decide, ?_⟩
        conv => whnf
        refine ⟨⟨(a6090.length : Int), (len_map _ _).symm, ?_⟩⟩
        conv => whnf
        refine Tri.block ?_
        replace hv := bind_some hv
        obtain ⟨y6904, q6905, hv⟩ := hv
        refine Tri.cut (fun ex S' => ex = (.exit 2) ∧ Weak S' ⟨73, 0, ofRegs [(5, .fn (.func 50) [] [.ptr 0 0]), (6, .mp 1), (7, .mp 2), (8, .ptr 3 0), (9, .v (.int .i64 1))], [.var 25 [.sl (List.map encHold l.Held), .sl (List.map encClaim l.Queue)], .ext (mapI Try.prog 3 4 y6904.1), .ext (mapI Try.prog 3 4 y6904.2), .var 71 [.sl (List.map (encI .i64) a6089), .sl (List.map (encI .i64) a6090)]]⟩) ?_ ?_
        · refine Tri.loopF (fun (s6906 : Int × (List Int) × (List Int)) => (⟨73, 0, ofRegs [(5, .fn (.func 50) [] [.ptr 0 0]), (6, .mp 1), (7, .mp 2), (8, .ptr 3 0), (9, .v (.int .i64 1)), (30, .sl (List.map (encI .i64) a6090)), (31, .v (.int .i64 (a6090.length : Int))), (32, .v (.int .i64 s6906.1))], [.var 25 [.sl (List.map encHold l.Held), .sl (List.map encClaim l.Queue)], .ext (mapI Try.prog 3 4 s6906.2.1), .ext (mapI Try.prog 3 4 s6906.2.2), .var 71 [.sl (List.map (encI .i64) a6089), .sl (List.map (encI .i64) a6090)]]⟩ : St)) q6905 (weak_fin _ rfl rfl rfl (.cons (.same rfl) (.cons (.same rfl) (.cons (.same rfl) (.cons (.same rfl) (LeH.rest))))) (.cons (.one (.same rfl)) (.cons (.one (.same rfl)) (.cons (.one (.same rfl)) (.cons (.one (.same rfl)) (.cons (.one (.same rfl)) (.cons (.one (.same rfl)) (.cons (.one (.same rfl)) (.cons (.one (.same rfl)) (.nil))))))))) rfl rfl) ?_
          rintro ⟨a6901, a6902, a6903⟩ v6907 hv r6908
          have hv : ring_Reach_l97 a6090 a6901 a6902 a6903 = some v6907 := hv
          unfold ring_Reach_l97 at hv
          dsimp only
          refine Tri.seqK ?_
          refine Tri.run (G := gm_ring_Reach) tyOk mixed ?_
          conv => whnf
          refine Tri.seqK ?_
          refine Tri.cond rfl (fun c6910 => ?_) (fun c6910 => ?_)
          · replace hv := if_t c6910 hv
            refine Tri.run (G := gm_ring_Reach) tyOk mixed ?_
            conv => whnf
            refine Tri.seqK ?_
            replace hv := bind_some hv
            obtain ⟨y6923, q6924, hv⟩ := hv
            refine Tri.cut (fun ex S' => ex = .normal ∧ Weak S' ⟨73, 0, ofRegs [(5, .fn (.func 50) [] [.ptr 0 0]), (6, .mp 1), (7, .mp 2), (8, .ptr 3 0), (9, .v (.int .i64 1)), (30, .sl (List.map (encI .i64) a6090)), (31, .v (.int .i64 (a6090.length : Int))), (32, .v (.int .i64 a6901))], [.var 25 [.sl (List.map encHold l.Held), .sl (List.map encClaim l.Queue)], .ext (mapI Try.prog 3 4 y6923.1), .ext (mapI Try.prog 3 4 y6923.2), .var 71 [.sl (List.map (encI .i64) a6089), .sl (List.map (encI .i64) a6090)]]⟩) ?_ ?_
            · refine Tri.block ?_
              refine Tri.seqK ?_
              refine Tri.run (G := gm_ring_Reach) tyOk mixed ?_
              conv => whnf
              replace q6924 := bind_some q6924
              obtain ⟨x6925, q6926, q6924⟩ := q6924
              refine ⟨(ix_some q6926).1, ?_⟩
              conv => whnf
              refine ⟨⟨_, map_get (encI .i64) (ix_some q6926).2, ?_⟩⟩
              conv => whnf
              refine ⟨rfl, ?_⟩
              conv => whnf
              refine Tri.seqK ?_
              refine Tri.run (G := gm_ring_Reach) tyOk mixed ?_
              conv => whnf
              replace q6924 := need_some q6924
              obtain ⟨p6927, q6924⟩ := q6924
              refine OpP.get rfl rfl rfl rfl rfl Try.underlying70 Try.underlying3 Try.underlying4 Try.zeroValue4 p6927 ?_
              conv => whnf
              refine Tri.cond rfl (fun c6928 => ?_) (fun c6928 => ?_)
              · replace q6924 := if_t c6928 q6924
                refine Tri.run (G := gm_ring_Reach) tyOk mixed ?_
                conv => whnf
                replace q6924 := need_some q6924
                obtain ⟨p6929, q6924⟩ := q6924
                refine OpP.set rfl rfl rfl rfl rfl rfl Try.underlying70 Try.underlying3 Try.underlying4 p6929 ?_
                conv => whnf
                replace q6924 := need_some q6924
                obtain ⟨p6930, q6924⟩ := q6924
                refine OpP.set rfl rfl rfl rfl rfl rfl Try.underlying70 Try.underlying3 Try.underlying4 p6930 ?_
                conv => whnf
                cases q6924
                exact ⟨rfl, weak_fin _ rfl rfl rfl (.cons (.same rfl) (.cons (.same rfl) (.cons (.same rfl) (.cons (.same rfl) (LeH.rest))))) (.cons (.one (.same rfl)) (.cons (.one (.same rfl)) (.cons (.one (.same rfl)) (.cons (.one (.same rfl)) (.cons (.one (.same rfl)) (.cons (.one (.same rfl)) (.cons (.one (.same rfl)) (.cons (.one (.same rfl)) (.nil))))))))) rfl rfl⟩
              · replace q6924 := if_f c6928 q6924
                refine Tri.run (G := gm_ring_Reach) tyOk mixed ?_
                conv => whnf
                cases q6924
                exact ⟨rfl, weak_fin _ rfl rfl rfl (.cons (.same rfl) (.cons (.same rfl) (.cons (.same rfl) (.cons (.same rfl) (LeH.rest))))) (.cons (.one (.same rfl)) (.cons (.one (.same rfl)) (.cons (.one (.same rfl)) (.cons (.one (.same rfl)) (.cons (.one (.same rfl)) (.cons (.one (.same rfl)) (.cons (.one (.same rfl)) (.cons (.one (.same rfl)) (.nil))))))))) rfl rfl⟩
            · rintro ex S' ⟨rfl, w6931⟩
              conv => whnf
              refine Tri.weak w6931 ?_
              refine Tri.run (G := gm_ring_Reach) tyOk mixed ?_
              conv => whnf
              cases hv
              exact ⟨_, rfl, weak_fin _ rfl rfl rfl (.cons (.same rfl) (.cons (.same rfl) (.cons (.same rfl) (.cons (.same rfl) (LeH.rest))))) (.cons (.one (.same rfl)) (.cons (.one (.same rfl)) (.cons (.one (.same rfl)) (.cons (.one (.same rfl)) (.cons (.one (.same rfl)) (.cons (.one (.same rfl)) (.cons (.one (.same rfl)) (.cons (.one (.same rfl)) (.nil))))))))) rfl rfl⟩
          · replace hv := if_f c6910 hv
            refine Tri.run (G := gm_ring_Reach) tyOk mixed ?_
            conv => whnf
            cases hv
            obtain rfl := r6908 _ rfl
            exact ⟨rfl, weak_fin _ rfl rfl rfl (.cons (.same rfl) (.cons (.same rfl) (.cons (.same rfl) (.cons (.same rfl) (LeH.rest))))) (.cons (.one (.same rfl)) (.cons (.one (.same rfl)) (.cons (.one (.same rfl)) (.cons (.one (.same rfl)) (.cons (.one (.same rfl)) (.nil)))))) rfl rfl⟩
        · rintro ex S' ⟨rfl, w6932⟩
          conv => whnf
          refine Tri.weak w6932 ?_
          refine Tri.seqK ?_
          refine Tri.run (G := gm_ring_Reach) tyOk mixed ?_
          conv => whnf
          refine ⟨by decide, ?_⟩
          conv => whnf
          refine Tri.seqK ?_
          refine Tri.run (G := gm_ring_Reach) tyOk mixed ?_
          conv => whnf
          refine keys_52 ?_
          conv => whnf
          replace hv := need_some hv
          obtain ⟨p6933, hv⟩ := hv
          refine sorted_51 rfl rfl p6933 ?_
          conv => whnf
          refine ⟨by first | (simp; done) | (simp only [List.length_map, List.length_append, List.length_take, List.length_drop, List.length_replicate, List.length_set, List.length_mergeSort]; omega), ?_⟩
          conv => whnf
          refine ⟨⟨((List.mergeSort y6904.2 leI).length : Int), by simp, ?_⟩⟩
          conv => whnf
          refine Tri.block ?_
          replace hv := bind_some hv
          obtain ⟨y6973, q6974, hv⟩ := hv
          refine Tri.cut (fun ex S' => ex = (.exit 4) ∧ Weak S' ⟨73, 0, ofRegs [(5, .fn (.func 50) [] [.ptr 0 0]), (6, .mp 1), (7, .mp 2), (8, .ptr 3 0), (9, .v (.int .i64 1))], [.var 25 [.sl (List.map encHold l.Held), .sl (List.map encClaim l.Queue)], .ext (mapI Try.prog 3 4 y6904.1), .ext (mapI Try.prog 3 4 y6973.1), .var 71 [.row 6 ((List.map (encI .i64) y6973.2).length), .sl (List.map (encI .i64) a6090)], .gone, .gone, .row 3 1 (List.map (encI .i64) y6973.2)]⟩) ?_ ?_
          · refine Tri.loopF (fun (s6975 : Int × (List Int) × (List Int)) => (⟨73, 0, ofRegs [(5, .fn (.func 50) [] [.ptr 0 0]), (6, .mp 1), (7, .mp 2), (8, .ptr 3 0), (9, .v (.int .i64 1)), (50, .row 5 ((List.map (encI .i64) (List.mergeSort y6904.2 leI)).length)), (51, .v (.int .i64 ((List.mergeSort y6904.2 leI).length : Int))), (52, .v (.int .i64 s6975.1))], [.var 25 [.sl (List.map encHold l.Held), .sl (List.map encClaim l.Queue)], .ext (mapI Try.prog 3 4 y6904.1), .ext (mapI Try.prog 3 4 s6975.2.1), .var 71 [.row 6 ((List.map (encI .i64) s6975.2.2).length), .sl (List.map (encI .i64) a6090)], .gone, .row 3 1 (List.map (encI .i64) (List.mergeSort y6904.2 leI)), .row 3 1 (List.map (encI .i64) s6975.2.2)]⟩ : St)) q6974 (Weak.trans (weak_nilcell 3 0 3 1 rfl rfl) (weak_fin _ rfl rfl rfl (.cons (.same rfl) (.cons (.same rfl) (.cons (.same rfl) (.cons (.var (.cons (.same (show (.row 6 0 : AV) = (.row 6 ((List.map (encI .i64) []).length) : AV) from congrArg (AV.row 6) (by simp))) (.cons (.same rfl) (.nil)))) (.cons (.gone) (.cons (.same rfl) (.cons (.same rfl) (LeH.rest)))))))) (.cons (.one (.same rfl)) (.cons (.one (.same rfl)) (.cons (.one (.same rfl)) (.cons (.one (.same rfl)) (.cons (.one (.same rfl)) (.cons (.one (.same (show (.row 5 ((List.mergeSort y6904.2 leI).length) : AV) = (.row 5 ((List.map (encI .i64) (List.mergeSort y6904.2 leI)).length) : AV) from congrArg (AV.row 5) (by simp)))) (.cons (.one (.same rfl)) (.cons (.one (.same rfl)) (.nil))))))))) rfl rfl)) ?_
            rintro ⟨a6970, a6971, a6972⟩ v6976 hv r6977
            have hv : ring_Reach_l98 l y6904 a6970 a6971 a6972 = some v6976 := hv
            unfold ring_Reach_l98 at hv
            dsimp only
            refine Tri.seqK ?_
            refine Tri.run (G := gm_ring_Reach) tyOk mixed ?_
            conv => whnf
            refine Tri.seqK ?_
            refine Tri.cond rfl (fun c6979 => ?_) (fun c6979 => ?_)
            · replace hv := if_t c6979 hv
              refine Tri.run (G := gm_ring_Reach) tyOk mixed ?_
              conv => whnf
              refine Tri.seqK ?_
              refine Tri.block ?_
              refine Tri.seqK ?_
              refine Tri.run (G := gm_ring_Reach) tyOk mixed ?_
              conv => whnf
              replace hv := bind_some hv
              obtain ⟨x6980, q6981, hv⟩ := hv
              refine ⟨⟨rfl, (ix_lt q6981).1, by have := ix_lt q6981; simp only [List.length_map, List.length_set, List.length_cons, List.length_nil] at *; omega⟩, ?_⟩
              conv => whnf
              refine ⟨rfl, ?_⟩
              conv => whnf
              refine ⟨⟨_, map_get (encI .i64) (ix_some q6981).2, ?_⟩⟩
              conv => whnf
              refine Tri.seqK ?_
              refine Tri.run (G := gm_ring_Reach) tyOk mixed ?_
              conv => whnf
              replace hv := need_some hv
              obtain ⟨p6982, hv⟩ := hv
              refine OpP.del rfl rfl rfl rfl rfl Try.underlying70 Try.underlying3 Try.underlying4 p6982 ?_
              conv => whnf
              refine Tri.run (G := gm_ring_Reach) tyOk mixed ?_
              conv => whnf
              refine Draw.one 11 (.take 0 (.take 1 (.take 2 (.take 3 (.take 4 (.take 5 (.take 6 (.take 7 (.alt 8 (.alt 9 (.take 10 (.fin)) (.nil)) (.nil)))))))))) [0] (by kernel_rfl) ?_
              conv => whnf
              refine ⟨by decide, ?_⟩
              conv => whnf
              refine ⟨?_, ?_⟩
              · conv => whnf
                replace hv := bind_some hv
                obtain ⟨y6986, q6987, hv⟩ := hv
                refine CallP.use (ring_Reach_1_walk x6980 l y6986 q6987) [0] rfl rfl rfl rfl rfl rfl rfl rfl rfl ?_
                conv => whnf
                refine ⟨?_, ?_⟩
                · conv => whnf
                  refine ⟨rfl, ?_⟩
                  conv => whnf
                  refine ⟨map_len (f := (encI .i64)) (n := 1) (fun _ => rfl) _, ?_⟩
                  conv => whnf
                  replace hv := need_some hv
                  obtain ⟨p6988, hv⟩ := hv
                  refine ⟨by simp only [List.length_map]; exact p6988, ?_⟩
                  conv => whnf
                  refine ⟨⟨List.map (encI .i64) (a6972 ++ y6986), map_app (encI .i64) _ _ rfl rfl, ?_⟩⟩
                  conv => whnf
                  refine ⟨by decide, ?_⟩
                  conv => whnf
                  refine Tri.run (G := gm_ring_Reach) tyOk mixed ?_
                  conv => whnf
                  cases hv
                  exact ⟨_, rfl, weak_fin _ rfl rfl rfl (.cons (.same rfl) (.cons (.same rfl) (.cons (.same rfl) (.cons (.same rfl) (.cons (.same rfl) (.cons (.same rfl) (.cons (.same rfl) (LeH.rest)))))))) (.cons (.one (.same rfl)) (.cons (.one (.same rfl)) (.cons (.one (.same rfl)) (.cons (.one (.same rfl)) (.cons (.one (.same rfl)) (.cons (.one (.same rfl)) (.cons (.one (.same rfl)) (.cons (.one (.same rfl)) (.nil))))))))) rfl rfl⟩
                · conv => whnf
                  trivial
              · conv => whnf
                trivial
            · replace hv := if_f c6979 hv
              refine Tri.run (G := gm_ring_Reach) tyOk mixed ?_
              conv => whnf
              cases hv
              obtain rfl := r6977 _ rfl
              exact ⟨rfl, weak_fin _ rfl rfl rfl (.cons (.same rfl) (.cons (.same rfl) (.cons (.same rfl) (.cons (.same rfl) (.cons (.same rfl) (.cons (.gone) (.cons (.same rfl) (LeH.rest)))))))) (.cons (.one (.same rfl)) (.cons (.one (.same rfl)) (.cons (.one (.same rfl)) (.cons (.one (.same rfl)) (.cons (.one (.same rfl)) (.nil)))))) rfl rfl⟩
          · rintro ex S' ⟨rfl, w6989⟩
            conv => whnf
            refine Tri.weak w6989 ?_
            refine Tri.run (G := gm_ring_Reach) tyOk mixed ?_
            conv => whnf
            cases hv
            exact ⟨_, rfl, Weak.trans (weak_freeze 6 rfl) (weak_fin _ rfl rfl rfl (.cons (.same rfl) (.cons (.same rfl) (.cons (.same rfl) (.cons (.var (.cons (.frz rfl (rfl)) (.cons (.same rfl) (.nil)))) (LeH.rest))))) (.cons (.one (.same rfl)) (.cons (.one (.same rfl)) (.cons (.one (.same rfl)) (.cons (.one (.same rfl)) (.cons (.one (.same rfl)) (.nil)))))) rfl rfl)⟩
      · dsimp only at hv
        conv => whnf
        cases hv
        obtain rfl := r6095 _ rfl
        exact ⟨rfl, Weak.trans w6113 (weak_fin _ rfl rfl rfl (.cons (.same rfl) (.cons (.same rfl) (LeH.rest))) (.cons (.one (.same rfl)) (.nil)) rfl rfl)⟩
  · rintro ex S' ⟨rfl, w6990⟩
    conv => whnf
    refine Tri.weak w6990 ?_
    refine Tri.seqK ?_
    refine Tri.run (G := gm_ring_Reach) tyOk mixed ?_
    conv => whnf
    refine keys_52 ?_
    conv => whnf
    replace h := need_some h
    obtain ⟨p6991, h⟩ := h
    refine sorted_51 rfl rfl p6991 ?_
    conv => whnf
    refine Tri.run (G := gm_ring_Reach) tyOk mixed ?_
    conv => whnf
    refine fin_here ?_
    conv => whnf
    refine ⟨by first | (simp; done) | (simp only [List.length_map, List.length_append, List.length_take, List.length_drop, List.length_replicate, List.length_set, List.length_mergeSort]; omega), ?_⟩
    conv => whnf
    cases h
    rfl
noncomputable def slices_Index_int_l2 (s : (List Int)) (v : Int) (a52 : Int) : Option ((Int) ⊕ ((Int) ⊕ (Unit))) :=
  if (decide (a52 < (s.length : Int))) then
    (ix s a52).bind fun x65 =>
    if (decide (v = x65)) then
      some (.inr (.inl a52))
    else
      some (.inl (IntKind.i64.wrap (a52 + 1)))
  else
    some (.inr (.inr ()))
noncomputable def slices_Index_int (s : (List Int)) (v : Int) : Option (Int) :=
  (loop (fun (s57 : Int) => slices_Index_int_l2 s v s57) (0 : Int)).bind fun (y53 : (Int) ⊕ (Unit)) =>
  match y53 with
  | (.inl v55) =>
    some v55
  | (.inr v56) =>
    some ((-1) : Int)
def gm_slices_Index_int : Gm := ⟨tys, [], [], []⟩
theorem slices_Index_int_walk (s : (List Int)) (v : Int) (r : Int) (h : slices_Index_int s v = some r) : PureP Try.prog 83 [.sl (List.map (encI .i64) s), .v (.int .i64 v)] (fun a => a = .v (.int .i64 r)) := by
  unfold slices_Index_int at h
  refine pureW (G := gm_slices_Index_int) tyOk Try.func83 rfl (by kernel_rfl) (by simp [Try.f83]) ?_
  refine Tri.seqK ?_
  refine Tri.run (G := gm_slices_Index_int) tyOk mixed ?_
  conv => whnf
  refine Tri.seqK ?_
  refine Tri.seqK ?_
  refine Tri.run (G := gm_slices_Index_int) tyOk mixed ?_
  conv => whnf
  refine ⟨⟨(s.length : Int), (len_map _ _).symm, ?_⟩⟩
  conv => whnf
  refine Tri.block ?_
  replace h := bind_some h
  obtain ⟨y53, q54, h⟩ := h
  refine Tri.cut (fun ex S' => (∃ v55 : Int, y53 = (.inl v55) ∧ ex = .ret ∧ Weak S' ⟨19, 0, ofRegs [(4, .v (.int .i64 v55))], []⟩) ∨ (∃ v56 : Unit, y53 = (.inr v56) ∧ ex = (.exit 0) ∧ Weak S' ⟨19, 0, ofRegs [], []⟩)) ?_ ?_
  · refine Tri.loopF (fun (s57 : Int) => (⟨19, 0, ofRegs [(0, .sl (List.map (encI .i64) s)), (1, .v (.int .i64 v)), (7, .v (.int .i64 (s.length : Int))), (8, .v (.int .i64 s57))], []⟩ : St)) q54 (weak_fin _ rfl rfl rfl (LeH.rest) (.cons (.one (.same rfl)) (.cons (.one (.same rfl)) (.cons (.one (.same rfl)) (.cons (.one (.same rfl)) (.nil))))) rfl rfl) ?_
    rintro a52 v58 hv r59
    have hv : slices_Index_int_l2 s v a52 = some v58 := hv
    unfold slices_Index_int_l2 at hv
    refine Tri.seqK ?_
    refine Tri.run (G := gm_slices_Index_int) tyOk mixed ?_
    conv => whnf
    refine Tri.seqK ?_
    refine Tri.cond rfl (fun c61 => ?_) (fun c61 => ?_)
    · replace hv := if_t c61 hv
      refine Tri.run (G := gm_slices_Index_int) tyOk mixed ?_
      conv => whnf
      refine Tri.seqK ?_
      refine Tri.block ?_
      refine Tri.seqK ?_
      refine Tri.run (G := gm_slices_Index_int) tyOk mixed ?_
      conv => whnf
      refine Tri.seqK ?_
      refine Tri.run (G := gm_slices_Index_int) tyOk mixed ?_
      conv => whnf
      replace hv := bind_some hv
      obtain ⟨x65, q66, hv⟩ := hv
      refine ⟨(ix_some q66).1, ?_⟩
      conv => whnf
      refine ⟨⟨_, map_get (encI .i64) (ix_some q66).2, ?_⟩⟩
      conv => whnf
      refine ⟨rfl, ?_⟩
      conv => whnf
      refine Tri.cond rfl (fun c67 => ?_) (fun c67 => ?_)
      · replace hv := if_t c67 hv
        refine Tri.seqK ?_
        refine Tri.run (G := gm_slices_Index_int) tyOk mixed ?_
        conv => whnf
        refine Tri.run (G := gm_slices_Index_int) tyOk mixed ?_
        conv => whnf
        cases hv
        obtain rfl := r59 _ rfl
        exact Or.inl ⟨_, rfl, rfl, weak_fin _ rfl rfl rfl (LeH.rest) (.cons (.one (.same rfl)) (.nil)) rfl rfl⟩
      · replace hv := if_f c67 hv
        refine Tri.run (G := gm_slices_Index_int) tyOk mixed ?_
        conv => whnf
        refine Tri.run (G := gm_slices_Index_int) tyOk mixed ?_
        conv => whnf
        cases hv
        exact ⟨_, rfl, weak_fin _ rfl rfl rfl (LeH.rest) (.cons (.one (.same rfl)) (.cons (.one (.same rfl)) (.cons (.one (.same rfl)) (.cons (.one (.same rfl)) (.nil))))) rfl rfl⟩
    · replace hv := if_f c61 hv
      refine Tri.run (G := gm_slices_Index_int) tyOk mixed ?_
      conv => whnf
      cases hv
      obtain rfl := r59 _ rfl
      exact Or.inr (⟨_, rfl, rfl, weak_fin _ rfl rfl rfl (LeH.rest) (.nil) rfl rfl⟩)
  · rintro ex S' (⟨v55, rfl, rfl, w68⟩ | ⟨v56, rfl, rfl, w68⟩)
    · dsimp only at h
      conv => whnf
      refine fin_pre w68 ?_
      conv => whnf
      cases h
      rfl
    · dsimp only at h
      conv => whnf
      refine Tri.weak w68 ?_
      refine Tri.seqK ?_
      refine Tri.run (G := gm_slices_Index_int) tyOk mixed ?_
      conv => whnf
      refine Tri.run (G := gm_slices_Index_int) tyOk mixed ?_
      conv => whnf
      refine fin_here ?_
      conv => whnf
      cases h
      rfl
noncomputable def slices_Contains_int (s : (List Int)) (v : Int) : Option (Bool) :=
  (slices_Index_int s v).bind fun y1 =>
  some (decide (y1 ≥ 0))
def gm_slices_Contains_int : Gm := ⟨tys, [], [], []⟩
theorem slices_Contains_int_walk (s : (List Int)) (v : Int) (r : Bool) (h : slices_Contains_int s v = some r) : PureP Try.prog 54 [.sl (List.map (encI .i64) s), .v (.int .i64 v)] (fun a => a = .v (.bool r)) := by
  unfold slices_Contains_int at h
  refine pureW (G := gm_slices_Contains_int) tyOk Try.func54 rfl (by kernel_rfl) (by simp [Try.f54]) ?_
  refine Tri.seqK ?_
  refine Tri.run (G := gm_slices_Contains_int) tyOk mixed ?_
  conv => whnf
  refine Tri.seqK ?_
  refine Tri.run (G := gm_slices_Contains_int) tyOk mixed ?_
  conv => whnf
  replace h := bind_some h
  obtain ⟨y1, q2, h⟩ := h
  refine PureP.mono (slices_Index_int_walk s v y1 q2) ?_
  rintro _ rfl
  conv => whnf
  refine Tri.run (G := gm_slices_Contains_int) tyOk mixed ?_
  conv => whnf
  refine fin_here ?_
  conv => whnf
  cases h
  rfl
noncomputable def ring_Ring_1 (t : Int) (v : Locks) (v2 : Int) : Option (Bool) :=
  (ring_Reach v t).bind fun y13 =>
  (slices_Contains_int y13 v2).bind fun y15 =>
  some (!y15)
def gm_ring_Ring_1 : Gm := ⟨tys, [], [(20, 3, 1)], []⟩
theorem ring_Ring_1_walk (t : Int) (v : Locks) (v2 : Int) (r : Bool) (h : ring_Ring_1 t v v2 = some r) : CallP Try.prog 56 [.var 25 [.sl (List.map encHold v.Held), .sl (List.map encClaim v.Queue)], .var 3 [.v (.int .i64 v2)]] [.v (.int .i64 t), .ptr 0 0, .ptr 1 0] (fun a H' => a = .v (.bool r) ∧ H'.take ([.var 25 [.sl (List.map encHold v.Held), .sl (List.map encClaim v.Queue)], .var 3 [.v (.int .i64 v2)]] : List Ob).length = [.var 25 [.sl (List.map encHold v.Held), .sl (List.map encClaim v.Queue)], .var 3 [.v (.int .i64 v2)]]) := by
  unfold ring_Ring_1 at h
  refine callW (G := gm_ring_Ring_1) tyOk Try.func56 rfl (by kernel_rfl) (by simp [Try.f56]) ?_
  refine Tri.seqK ?_
  refine Tri.run (G := gm_ring_Ring_1) tyOk mixed ?_
  conv => whnf
  refine Tri.seqK ?_
  refine Tri.run (G := gm_ring_Ring_1) tyOk mixed ?_
  conv => whnf
  refine Draw.one 7 (.take 0 (.take 1 (.take 3 (.alt 2 (.alt 4 (.take 5 (.take 6 (.fin))) (.nil)) (.nil))))) [] (by kernel_rfl) ?_
  conv => whnf
  refine ⟨?_, ?_⟩
  · conv => whnf
    replace h := bind_some h
    obtain ⟨y13, q14, h⟩ := h
    refine FreshP.mono (ring_Reach_walk v t y13 q14) ?_
    rintro _ rfl
    conv => whnf
    refine ⟨?_, ?_⟩
    · conv => whnf
      refine ⟨rfl, ?_⟩
      conv => whnf
      replace h := bind_some h
      obtain ⟨y15, q16, h⟩ := h
      refine PureP.mono (slices_Contains_int_walk y13 v2 y15 q16) ?_
      rintro _ rfl
      conv => whnf
      refine Tri.run (G := gm_ring_Ring_1) tyOk mixed ?_
      conv => whnf
      refine fin_pre (S' := ⟨11, 2, ofRegs [(4, .v (.bool (!y15)))], [.var 25 [.sl (List.map encHold v.Held), .sl (List.map encClaim v.Queue)], .var 3 [.v (.int .i64 v2)]]⟩) (weak_fin _ rfl rfl rfl (.cons (.same rfl) (.cons (.same rfl) (LeH.rest))) (.cons (.one (.same rfl)) (.nil)) rfl rfl) ?_
      conv => whnf
      cases h
      exact ⟨rfl, rfl⟩
    · conv => whnf
      trivial
  · conv => whnf
    trivial
noncomputable def slices_IndexFunc_int__ring_Ring_1_l4 (l : (List Int)) (v : Locks) (v2 : Int) (a164 : Int) : Option ((Int) ⊕ ((Int) ⊕ (Unit))) :=
  if (decide (a164 < (l.length : Int))) then
    (ix l a164).bind fun x179 =>
    (ring_Ring_1 x179 v v2).bind fun y181 =>
    if y181 then
      some (.inr (.inl a164))
    else
      some (.inl (IntKind.i64.wrap (a164 + 1)))
  else
    some (.inr (.inr ()))
noncomputable def slices_IndexFunc_int__ring_Ring_1 (l : (List Int)) (v : Locks) (v2 : Int) : Option (Int) :=
  (loop (fun (s169 : Int) => slices_IndexFunc_int__ring_Ring_1_l4 l v v2 s169) (0 : Int)).bind fun (y165 : (Int) ⊕ (Unit)) =>
  match y165 with
  | (.inl v167) =>
    some v167
  | (.inr v168) =>
    some (-1)
def gm_slices_IndexFunc_int__ring_Ring_1 : Gm := ⟨tys, [56], [], []⟩
theorem slices_IndexFunc_int__ring_Ring_1_walk (l : (List Int)) (v : Locks) (v2 : Int) (r : Int) (h : slices_IndexFunc_int__ring_Ring_1 l v v2 = some r) : CallP Try.prog 84 [.row 3 1 (List.map (encI .i64) l), .var 25 [.sl (List.map encHold v.Held), .sl (List.map encClaim v.Queue)], .var 3 [.v (.int .i64 v2)]] [.row 0 ((List.map (encI .i64) l).length), .fn (.func 56) [] [.ptr 1 0, .ptr 2 0]] (fun a H' => a = .v (.int .i64 r) ∧ H'.take ([.row 3 1 (List.map (encI .i64) l), .var 25 [.sl (List.map encHold v.Held), .sl (List.map encClaim v.Queue)], .var 3 [.v (.int .i64 v2)]] : List Ob).length = [.row 3 1 (List.map (encI .i64) l), .var 25 [.sl (List.map encHold v.Held), .sl (List.map encClaim v.Queue)], .var 3 [.v (.int .i64 v2)]]) := by
  unfold slices_IndexFunc_int__ring_Ring_1 at h
  refine callW (G := gm_slices_IndexFunc_int__ring_Ring_1) tyOk Try.func84 rfl (by kernel_rfl) (by simp [Try.f84]) ?_
  refine Tri.seqK ?_
  refine Tri.run (G := gm_slices_IndexFunc_int__ring_Ring_1) tyOk mixed ?_
  conv => whnf
  refine Tri.seqK ?_
  refine Tri.seqK ?_
  refine Tri.run (G := gm_slices_IndexFunc_int__ring_Ring_1) tyOk mixed ?_
  conv => whnf
  refine ⟨rfl, ?_⟩
  conv => whnf
  refine ⟨⟨(l.length : Int), by simp, ?_⟩⟩
  conv => whnf
  refine Tri.block ?_
  replace h := bind_some h
  obtain ⟨y165, q166, h⟩ := h
  refine Tri.cut (fun ex S' => (∃ v167 : Int, y165 = (.inl v167) ∧ ex = .ret ∧ Weak S' ⟨19, 3, ofRegs [(4, .v (.int .i64 v167))], [.row 3 1 (List.map (encI .i64) l), .var 25 [.sl (List.map encHold v.Held), .sl (List.map encClaim v.Queue)], .var 3 [.v (.int .i64 v2)]]⟩) ∨ (∃ v168 : Unit, y165 = (.inr v168) ∧ ex = (.exit 0) ∧ Weak S' ⟨19, 3, ofRegs [], [.row 3 1 (List.map (encI .i64) l), .var 25 [.sl (List.map encHold v.Held), .sl (List.map encClaim v.Queue)], .var 3 [.v (.int .i64 v2)]]⟩)) ?_ ?_
  · refine Tri.loopF (fun (s169 : Int) => (⟨19, 3, ofRegs [(0, .row 0 ((List.map (encI .i64) l).length)), (1, .fn (.func 56) [] [.ptr 1 0, .ptr 2 0]), (7, .v (.int .i64 (l.length : Int))), (8, .v (.int .i64 s169))], [.row 3 1 (List.map (encI .i64) l), .var 25 [.sl (List.map encHold v.Held), .sl (List.map encClaim v.Queue)], .var 3 [.v (.int .i64 v2)]]⟩ : St)) q166 (weak_fin _ rfl rfl rfl (.cons (.same rfl) (.cons (.same rfl) (.cons (.same rfl) (LeH.rest)))) (.cons (.one (.same rfl)) (.cons (.one (.same rfl)) (.cons (.one (.same rfl)) (.cons (.one (.same rfl)) (.nil))))) rfl rfl) ?_
    rintro a164 v170 hv r171
    have hv : slices_IndexFunc_int__ring_Ring_1_l4 l v v2 a164 = some v170 := hv
    unfold slices_IndexFunc_int__ring_Ring_1_l4 at hv
    refine Tri.seqK ?_
    refine Tri.run (G := gm_slices_IndexFunc_int__ring_Ring_1) tyOk mixed ?_
    conv => whnf
    refine Tri.seqK ?_
    refine Tri.cond rfl (fun c173 => ?_) (fun c173 => ?_)
    · replace hv := if_t c173 hv
      refine Tri.run (G := gm_slices_IndexFunc_int__ring_Ring_1) tyOk mixed ?_
      conv => whnf
      refine Tri.seqK ?_
      refine Tri.block ?_
      refine Tri.seqK ?_
      refine Tri.run (G := gm_slices_IndexFunc_int__ring_Ring_1) tyOk mixed ?_
      conv => whnf
      refine Tri.seqK ?_
      refine Tri.run (G := gm_slices_IndexFunc_int__ring_Ring_1) tyOk mixed ?_
      conv => whnf
      replace hv := bind_some hv
      obtain ⟨x179, q180, hv⟩ := hv
      refine ⟨⟨rfl, (ix_lt q180).1, by have := ix_lt q180; simp only [List.length_map, List.length_set, List.length_cons, List.length_nil] at *; omega⟩, ?_⟩
      conv => whnf
      refine ⟨rfl, ?_⟩
      conv => whnf
      refine ⟨⟨_, map_get (encI .i64) (ix_some q180).2, ?_⟩⟩
      conv => whnf
      replace hv := bind_some hv
      obtain ⟨y181, q182, hv⟩ := hv
      refine CallP.use (ring_Ring_1_walk x179 v v2 y181 q182) [1, 2] rfl rfl rfl rfl rfl rfl rfl rfl rfl ?_
      conv => whnf
      refine Tri.cond rfl (fun c183 => ?_) (fun c183 => ?_)
      · replace hv := if_t c183 hv
        refine Tri.seqK ?_
        refine Tri.run (G := gm_slices_IndexFunc_int__ring_Ring_1) tyOk mixed ?_
        conv => whnf
        refine Tri.run (G := gm_slices_IndexFunc_int__ring_Ring_1) tyOk mixed ?_
        conv => whnf
        cases hv
        obtain rfl := r171 _ rfl
        exact Or.inl ⟨_, rfl, rfl, weak_fin _ rfl rfl rfl (.cons (.same rfl) (.cons (.same rfl) (.cons (.same rfl) (LeH.rest)))) (.cons (.one (.same rfl)) (.nil)) rfl rfl⟩
      · replace hv := if_f c183 hv
        refine Tri.run (G := gm_slices_IndexFunc_int__ring_Ring_1) tyOk mixed ?_
        conv => whnf
        refine Tri.run (G := gm_slices_IndexFunc_int__ring_Ring_1) tyOk mixed ?_
        conv => whnf
        cases hv
        exact ⟨_, rfl, weak_fin _ rfl rfl rfl (.cons (.same rfl) (.cons (.same rfl) (.cons (.same rfl) (LeH.rest)))) (.cons (.one (.same rfl)) (.cons (.one (.same rfl)) (.cons (.one (.same rfl)) (.cons (.one (.same rfl)) (.nil))))) rfl rfl⟩
    · replace hv := if_f c173 hv
      refine Tri.run (G := gm_slices_IndexFunc_int__ring_Ring_1) tyOk mixed ?_
      conv => whnf
      cases hv
      obtain rfl := r171 _ rfl
      exact Or.inr (⟨_, rfl, rfl, weak_fin _ rfl rfl rfl (.cons (.same rfl) (.cons (.same rfl) (.cons (.same rfl) (LeH.rest)))) (.nil) rfl rfl⟩)
  · rintro ex S' (⟨v167, rfl, rfl, w184⟩ | ⟨v168, rfl, rfl, w184⟩)
    · dsimp only at h
      conv => whnf
      refine fin_pre (S' := ⟨19, 3, ofRegs [(4, .v (.int .i64 v167))], [.row 3 1 (List.map (encI .i64) l), .var 25 [.sl (List.map encHold v.Held), .sl (List.map encClaim v.Queue)], .var 3 [.v (.int .i64 v2)]]⟩) (Weak.trans w184 (weak_fin _ rfl rfl rfl (.cons (.same rfl) (.cons (.same rfl) (.cons (.same rfl) (LeH.rest)))) (.cons (.one (.same rfl)) (.nil)) rfl rfl)) ?_
      conv => whnf
      cases h
      exact ⟨rfl, rfl⟩
    · dsimp only at h
      conv => whnf
      refine Tri.weak w184 ?_
      refine Tri.seqK ?_
      refine Tri.run (G := gm_slices_IndexFunc_int__ring_Ring_1) tyOk mixed ?_
      conv => whnf
      refine Tri.run (G := gm_slices_IndexFunc_int__ring_Ring_1) tyOk mixed ?_
      conv => whnf
      refine fin_pre (S' := ⟨19, 3, ofRegs [(4, .v (.int .i64 (-1)))], [.row 3 1 (List.map (encI .i64) l), .var 25 [.sl (List.map encHold v.Held), .sl (List.map encClaim v.Queue)], .var 3 [.v (.int .i64 v2)]]⟩) (weak_fin _ rfl rfl rfl (.cons (.same rfl) (.cons (.same rfl) (.cons (.same rfl) (LeH.rest)))) (.cons (.one (.same rfl)) (.nil)) rfl rfl) ?_
      conv => whnf
      cases h
      exact ⟨rfl, rfl⟩
end Go.Ab
