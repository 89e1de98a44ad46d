/- The program's functions as plain Lean functions, and that the program comes to what they come to. Printed by a program of this session. -/
import Derived.Test.YthhddlhgkejhbaaW1
namespace Go.Ab
open Go.Proofs
set_option linter.unusedVariables false
set_option linter.unusedSimpArgs false
set_option maxRecDepth 100000
noncomputable def ref01_TakeNum_l2 (s : Str) (a170 : Int) : Option ((Int) ⊕ (Int)) :=
  (
    if (decide (a170 < (s.length : Int))) then
      (ix s a170).bind fun x203 =>
      if (decide ((x203.toNat : Int) ≥ 48)) then
        some (decide ((x203.toNat : Int) ≤ 57))
      else
        some false
    else
      some false).bind fun (y200 : Bool) =>
  if y200 then
    some (.inl (IntKind.i64.wrap (a170 + 1)))
  else
    some (.inr a170)
noncomputable def ref01_TakeNum_l4 (s : Str) (y171 : Int) (a405 : Int) (a406 : Int) : Option ((Int × Int) ⊕ ((Unit) ⊕ (Int))) :=
  if (decide (a406 < y171)) then
    (ix s a406).bind fun x438 =>
    if ((decide (a405 > 1844674407370955161)) || ((decide (a405 = 1844674407370955161)) && (decide ((IntKind.u64.wrap (IntKind.u8.wrap ((x438.toNat : Int) - 48))) > 5)))) then
      some (.inr (.inl ()))
    else
      some (.inl ((IntKind.u64.wrap ((IntKind.u64.wrap (10 * a405)) + (IntKind.u64.wrap (IntKind.u8.wrap ((x438.toNat : Int) - 48))))), (IntKind.i64.wrap (a406 + 1))))
  else
    some (.inr (.inr a405))
noncomputable def ref01_TakeNum (s : Str) : Option (Int × Str × Int) :=
  (loop (fun (s173 : Int) => ref01_TakeNum_l2 s s173) (0 : Int)).bind fun (y171 : Int) =>
  (
    if (decide (y171 > 20)) then
      some true
    else
      if (decide (y171 > 1)) then
        (ix s 0).bind fun x237 =>
        some (decide ((x237.toNat : Int) = 48))
      else
        some false).bind fun (y233 : Bool) =>
  if y233 then
    some (0, [], 3)
  else
    (loop (fun (s411 : Int × Int) => ref01_TakeNum_l4 s y171 s411.1 s411.2) ((0 : Int), (0 : Int))).bind fun (y407 : (Unit) ⊕ (Int)) =>
    match y407 with
    | (.inl v409) =>
      some (0, [], 3)
    | (.inr v410) =>
      if (decide (y171 = (s.length : Int))) then
        some (0, [], 2)
      else
        (
          (ix s y171).bind fun x484 =>
          if (!(decide ((x484.toNat : Int) = 59))) then
            some true
          else
            some (decide (y171 = 0))).bind fun (y482 : Bool) =>
        if y482 then
          some (0, [], 3)
        else
          need (0 ≤ (IntKind.i64.wrap (y171 + 1)) ∧ (IntKind.i64.wrap (y171 + 1)) ≤ (s.length : Int) ∧ (s.length : Int) ≤ (s.length : Int)) <|
          some (v410, (cut s (IntKind.i64.wrap (y171 + 1)) (s.length : Int)), 0)
def gm_ref01_TakeNum : Gm := ⟨tys, [], [], []⟩
theorem ref01_TakeNum_walk (s : Str) (r : Int × Str × Int) (h : ref01_TakeNum s = some r) : PureP Try.prog 30 [.v (.string (bs s))] (fun a => a = .tup [.v (.int .u64 r.1), .v (.string (bs r.2.1)), .v (.int .i64 r.2.2)]) := by
  unfold ref01_TakeNum at h
  refine pureW (G := gm_ref01_TakeNum) tyOk Try.func30 rfl (by kernel_rfl) (by simp [Try.f30]) ?_
  refine Tri.seqK ?_
  refine Tri.run (G := gm_ref01_TakeNum) tyOk mixed ?_
  conv => whnf
  refine Tri.seqK ?_
  refine Tri.run (G := gm_ref01_TakeNum) tyOk mixed ?_
  conv => whnf
  refine Tri.seqK ?_
  refine Tri.block ?_
  replace h := bind_some h
  obtain ⟨y171, q172, h⟩ := h
  refine Tri.cut (fun ex S' => ex = (.exit 0) ∧ Weak S' ⟨79, 0, ofRegs [(0, .v (.string (bs s))), (5, .v (.int .i64 y171))], []⟩) ?_ ?_
  · refine Tri.loopF (fun (s173 : Int) => (⟨79, 0, ofRegs [(0, .v (.string (bs s))), (5, .v (.int .i64 s173))], []⟩ : St)) q172 (weak_fin _ rfl rfl rfl (LeH.rest) (.cons (.one (.same rfl)) (.cons (.one (.same rfl)) (.nil))) rfl rfl) ?_
    rintro a170 v174 hv r175
    have hv : ref01_TakeNum_l2 s a170 = some v174 := hv
    unfold ref01_TakeNum_l2 at hv
    refine Tri.seqK ?_
    refine Tri.seqK ?_
    replace hv := bind_some hv
    obtain ⟨y200, q201, hv⟩ := hv
    refine Tri.cut (fun ex S' => ex = .normal ∧ Weak S' ⟨79, 0, ofRegs [(0, .v (.string (bs s))), (5, .v (.int .i64 a170)), (24, .v (.bool y200))], []⟩) ?_ ?_
    · refine Tri.run (G := gm_ref01_TakeNum) tyOk mixed ?_
      conv => whnf
      refine ⟨⟨(s.length : Int), rfl, ?_⟩⟩
      conv => whnf
      refine cond_mk (fun c202 => ?_) (fun c202 => ?_)
      · replace q201 := if_t c202 q201
        conv => whnf
        replace q201 := bind_some q201
        obtain ⟨x203, q204, q201⟩ := q201
        refine ⟨bs_bound q204, ?_⟩
        conv => whnf
        refine ⟨⟨(x203.toNat : Int), bs_at q204, ?_⟩⟩
        conv => whnf
        refine cond_mk (fun c205 => ?_) (fun c205 => ?_)
        · replace q201 := if_t c205 q201
          conv => whnf
          refine ⟨bs_bound q204, ?_⟩
          conv => whnf
          refine ⟨⟨(x203.toNat : Int), bs_at q204, ?_⟩⟩
          conv => whnf
          obtain rfl := Option.some.inj q201
          exact ⟨rfl, weak_fin _ rfl rfl rfl (LeH.rest) (.cons (.one (.same rfl)) (.cons (.one (.same rfl)) (.cons (.one (.same rfl)) (.nil)))) rfl rfl⟩
        · replace q201 := if_f c205 q201
          conv => whnf
          obtain rfl := Option.some.inj q201
          exact ⟨rfl, weak_fin _ rfl rfl rfl (LeH.rest) (.cons (.one (.same rfl)) (.cons (.one (.same rfl)) (.cons (.one (.same rfl)) (.nil)))) rfl rfl⟩
      · replace q201 := if_f c202 q201
        conv => whnf
        obtain rfl := Option.some.inj q201
        exact ⟨rfl, weak_fin _ rfl rfl rfl (LeH.rest) (.cons (.one (.same rfl)) (.cons (.one (.same rfl)) (.cons (.one (.same rfl)) (.nil)))) rfl rfl⟩
    · rintro ex S' ⟨rfl, w206⟩
      conv => whnf
      refine Tri.weak w206 ?_
      refine Tri.cond rfl (fun c207 => ?_) (fun c207 => ?_)
      · replace hv := if_t c207 hv
        refine Tri.run (G := gm_ref01_TakeNum) tyOk mixed ?_
        conv => whnf
        refine Tri.block ?_
        refine Tri.run (G := gm_ref01_TakeNum) tyOk mixed ?_
        conv => whnf
        obtain rfl := Option.some.inj hv
        exact ⟨_, rfl, weak_fin _ rfl rfl rfl (LeH.rest) (.cons (.one (.same rfl)) (.cons (.one (.same rfl)) (.nil))) rfl rfl⟩
      · replace hv := if_f c207 hv
        refine Tri.run (G := gm_ref01_TakeNum) tyOk mixed ?_
        conv => whnf
        obtain rfl := Option.some.inj hv
        obtain rfl := r175 _ rfl
        exact ⟨rfl, weak_fin _ rfl rfl rfl (LeH.rest) (.cons (.one (.same rfl)) (.cons (.one (.same rfl)) (.nil))) rfl rfl⟩
  · rintro ex S' ⟨rfl, w208⟩
    conv => whnf
    refine Tri.weak w208 ?_
    refine Tri.seqK ?_
    refine Tri.seqK ?_
    replace h := bind_some h
    obtain ⟨y233, q234, h⟩ := h
    refine Tri.cut (fun ex S' => ex = .normal ∧ Weak S' ⟨79, 0, ofRegs [(0, .v (.string (bs s))), (5, .v (.int .i64 y171)), (37, .v (.bool y233))], []⟩) ?_ ?_
    · refine Tri.run (G := gm_ref01_TakeNum) tyOk mixed ?_
      conv => whnf
      refine cond_mk (fun c235 => ?_) (fun c235 => ?_)
      · replace q234 := if_t c235 q234
        conv => whnf
        obtain rfl := Option.some.inj q234
        exact ⟨rfl, weak_fin _ rfl rfl rfl (LeH.rest) (.cons (.one (.same rfl)) (.cons (.one (.same rfl)) (.cons (.one (.same rfl)) (.nil)))) rfl rfl⟩
      · replace q234 := if_f c235 q234
        conv => whnf
        refine cond_mk (fun c236 => ?_) (fun c236 => ?_)
        · replace q234 := if_t c236 q234
          conv => whnf
          replace q234 := bind_some q234
          obtain ⟨x237, q238, q234⟩ := q234
          refine ⟨bs_bound q238, ?_⟩
          conv => whnf
          refine ⟨⟨(x237.toNat : Int), bs_at q238, ?_⟩⟩
          conv => whnf
          obtain rfl := Option.some.inj q234
          exact ⟨rfl, weak_fin _ rfl rfl rfl (LeH.rest) (.cons (.one (.same rfl)) (.cons (.one (.same rfl)) (.cons (.one (.same rfl)) (.nil)))) rfl rfl⟩
        · replace q234 := if_f c236 q234
          conv => whnf
          obtain rfl := Option.some.inj q234
          exact ⟨rfl, weak_fin _ rfl rfl rfl (LeH.rest) (.cons (.one (.same rfl)) (.cons (.one (.same rfl)) (.cons (.one (.same rfl)) (.nil)))) rfl rfl⟩
    · rintro ex S' ⟨rfl, w239⟩
      conv => whnf
      refine Tri.weak w239 ?_
      refine Tri.cond rfl (fun c240 => ?_) (fun c240 => ?_)
      · replace h := if_t c240 h
        refine Tri.seqK ?_
        refine Tri.run (G := gm_ref01_TakeNum) tyOk mixed ?_
        conv => whnf
        refine Tri.run (G := gm_ref01_TakeNum) tyOk mixed ?_
        conv => whnf
        refine fin_here ?_
        conv => whnf
        obtain rfl := Option.some.inj h
        rfl
      · replace h := if_f c240 h
        refine Tri.run (G := gm_ref01_TakeNum) tyOk mixed ?_
        conv => whnf
        refine Tri.seqK ?_
        refine Tri.run (G := gm_ref01_TakeNum) tyOk mixed ?_
        conv => whnf
        refine Tri.seqK ?_
        refine Tri.seqK ?_
        refine Tri.run (G := gm_ref01_TakeNum) tyOk mixed ?_
        conv => whnf
        refine Tri.block ?_
        replace h := bind_some h
        obtain ⟨y407, q408, h⟩ := h
        refine Tri.cut (fun ex S' => (∃ v409 : Unit, y407 = (.inl v409) ∧ ex = .ret ∧ Weak S' ⟨79, 0, ofRegs [(2, .v (.int .u64 0)), (3, .v (.string (bs []))), (4, .v (.int .i64 3))], []⟩) ∨ (∃ v410 : Int, y407 = (.inr v410) ∧ ex = (.exit 2) ∧ Weak S' ⟨79, 0, ofRegs [(0, .v (.string (bs s))), (5, .v (.int .i64 y171)), (6, .v (.int .u64 v410))], []⟩)) ?_ ?_
        · refine Tri.loopF (fun (s411 : Int × Int) => (⟨79, 0, ofRegs [(0, .v (.string (bs s))), (5, .v (.int .i64 y171)), (6, .v (.int .u64 s411.1)), (7, .v (.int .i64 s411.2))], []⟩ : St)) q408 (weak_fin _ rfl rfl rfl (LeH.rest) (.cons (.one (.same rfl)) (.cons (.one (.same rfl)) (.cons (.one (.same rfl)) (.cons (.one (.same rfl)) (.nil))))) rfl rfl) ?_
          rintro ⟨a405, a406⟩ v412 hv r413
          have hv : ref01_TakeNum_l4 s y171 a405 a406 = some v412 := hv
          unfold ref01_TakeNum_l4 at hv
          dsimp only
          refine Tri.seqK ?_
          refine Tri.seqK ?_
          refine Tri.run (G := gm_ref01_TakeNum) tyOk mixed ?_
          conv => whnf
          refine Tri.cond rfl (fun c415 => ?_) (fun c415 => ?_)
          · replace hv := if_t c415 hv
            refine Tri.run (G := gm_ref01_TakeNum) tyOk mixed ?_
            conv => whnf
            refine Tri.seqK ?_
            refine Tri.block ?_
            refine Tri.seqK ?_
            refine Tri.run (G := gm_ref01_TakeNum) tyOk mixed ?_
            conv => whnf
            replace hv := bind_some hv
            obtain ⟨x438, q439, hv⟩ := hv
            refine ⟨bs_bound q439, ?_⟩
            conv => whnf
            refine ⟨⟨(x438.toNat : Int), bs_at q439, ?_⟩⟩
            conv => whnf
            refine ⟨⟨(IntKind.u64.wrap (IntKind.u8.wrap ((x438.toNat : Int) - 48))), rfl, ?_⟩⟩
            conv => whnf
            refine Tri.seqK ?_
            refine Tri.seqK ?_
            refine Tri.cut (fun ex S' => ex = .normal ∧ Weak S' ⟨79, 0, ofRegs [(0, .v (.string (bs s))), (5, .v (.int .i64 y171)), (6, .v (.int .u64 a405)), (7, .v (.int .i64 a406)), (8, .v (.int .u64 (IntKind.u64.wrap (IntKind.u8.wrap ((x438.toNat : Int) - 48))))), (57, .v (.bool ((decide (a405 > 1844674407370955161)) || ((decide (a405 = 1844674407370955161)) && (decide ((IntKind.u64.wrap (IntKind.u8.wrap ((x438.toNat : Int) - 48))) > 5))))))], []⟩) ?_ ?_
            · refine Tri.run (G := gm_ref01_TakeNum) tyOk mixed ?_
              conv => whnf
              refine cond_mk (fun c456 => ?_) (fun c456 => ?_)
              · replace c456 : (decide (a405 > 1844674407370955161)) = true := c456
                conv => whnf
                exact ⟨rfl, weak_fin _ rfl rfl rfl (LeH.rest) (.cons (.one (.same rfl)) (.cons (.one (.same rfl)) (.cons (.one (.same rfl)) (.cons (.one (.same rfl)) (.cons (.one (.same rfl)) (.cons (.one (.same (show (.v (.bool true) : AV) = (.v (.bool ((decide (a405 > 1844674407370955161)) || ((decide (a405 = 1844674407370955161)) && (decide ((IntKind.u64.wrap (IntKind.u8.wrap ((x438.toNat : Int) - 48))) > 5))))) : AV) from by first | (simp [c456]; done) | simp only [c456, Bool.or_true, Bool.true_or, Bool.false_or, Bool.or_false, Bool.and_true, Bool.true_and, Bool.and_false, Bool.false_and, Bool.not_true, Bool.not_false, if_true, if_false, Bool.false_eq_true]))) (.nil))))))) rfl rfl⟩
              · replace c456 : (decide (a405 > 1844674407370955161)) = false := c456
                conv => whnf
                refine cond_mk (fun c457 => ?_) (fun c457 => ?_)
                · replace c457 : (decide (a405 = 1844674407370955161)) = true := c457
                  conv => whnf
                  exact ⟨rfl, weak_fin _ rfl rfl rfl (LeH.rest) (.cons (.one (.same rfl)) (.cons (.one (.same rfl)) (.cons (.one (.same rfl)) (.cons (.one (.same rfl)) (.cons (.one (.same rfl)) (.cons (.one (.same (show (.v (.bool (decide ((IntKind.u64.wrap (IntKind.u8.wrap ((x438.toNat : Int) - 48))) > 5))) : AV) = (.v (.bool ((decide (a405 > 1844674407370955161)) || ((decide (a405 = 1844674407370955161)) && (decide ((IntKind.u64.wrap (IntKind.u8.wrap ((x438.toNat : Int) - 48))) > 5))))) : AV) from by first | (simp [c456, c457]; done) | simp only [c456, c457, Bool.or_true, Bool.true_or, Bool.false_or, Bool.or_false, Bool.and_true, Bool.true_and, Bool.and_false, Bool.false_and, Bool.not_true, Bool.not_false, if_true, if_false, Bool.false_eq_true]))) (.nil))))))) rfl rfl⟩
                · replace c457 : (decide (a405 = 1844674407370955161)) = false := c457
                  conv => whnf
                  exact ⟨rfl, weak_fin _ rfl rfl rfl (LeH.rest) (.cons (.one (.same rfl)) (.cons (.one (.same rfl)) (.cons (.one (.same rfl)) (.cons (.one (.same rfl)) (.cons (.one (.same rfl)) (.cons (.one (.same (show (.v (.bool false) : AV) = (.v (.bool ((decide (a405 > 1844674407370955161)) || ((decide (a405 = 1844674407370955161)) && (decide ((IntKind.u64.wrap (IntKind.u8.wrap ((x438.toNat : Int) - 48))) > 5))))) : AV) from by first | (simp [c456, c457]; done) | simp only [c456, c457, Bool.or_true, Bool.true_or, Bool.false_or, Bool.or_false, Bool.and_true, Bool.true_and, Bool.and_false, Bool.false_and, Bool.not_true, Bool.not_false, if_true, if_false, Bool.false_eq_true]))) (.nil))))))) rfl rfl⟩
            · rintro ex S' ⟨rfl, w458⟩
              conv => whnf
              refine Tri.weak w458 ?_
              refine Tri.cond rfl (fun c459 => ?_) (fun c459 => ?_)
              · replace hv := if_t c459 hv
                refine Tri.seqK ?_
                refine Tri.run (G := gm_ref01_TakeNum) tyOk mixed ?_
                conv => whnf
                refine Tri.run (G := gm_ref01_TakeNum) tyOk mixed ?_
                conv => whnf
                obtain rfl := Option.some.inj hv
                obtain rfl := r413 _ rfl
                exact Or.inl ⟨_, rfl, rfl, weak_fin _ rfl rfl rfl (LeH.rest) (.cons (.one (.same rfl)) (.cons (.one (.same rfl)) (.cons (.one (.same rfl)) (.nil)))) rfl rfl⟩
              · replace hv := if_f c459 hv
                refine Tri.run (G := gm_ref01_TakeNum) tyOk mixed ?_
                conv => whnf
                refine Tri.run (G := gm_ref01_TakeNum) tyOk mixed ?_
                conv => whnf
                refine Tri.run (G := gm_ref01_TakeNum) tyOk mixed ?_
                conv => whnf
                obtain rfl := Option.some.inj hv
                exact ⟨_, rfl, weak_fin _ rfl rfl rfl (LeH.rest) (.cons (.one (.same rfl)) (.cons (.one (.same rfl)) (.cons (.one (.same rfl)) (.cons (.one (.same rfl)) (.nil))))) rfl rfl⟩
          · replace hv := if_f c415 hv
            refine Tri.run (G := gm_ref01_TakeNum) tyOk mixed ?_
            conv => whnf
            obtain rfl := Option.some.inj hv
            obtain rfl := r413 _ rfl
            exact Or.inr (⟨_, rfl, rfl, weak_fin _ rfl rfl rfl (LeH.rest) (.cons (.one (.same rfl)) (.cons (.one (.same rfl)) (.cons (.one (.same rfl)) (.nil)))) rfl rfl⟩)
        · rintro ex S' (⟨v409, rfl, rfl, w460⟩ | ⟨v410, rfl, rfl, w460⟩)
          · dsimp only at h
            conv => whnf
            refine fin_pre w460 ?_
            conv => whnf
            obtain rfl := Option.some.inj h
            rfl
          · dsimp only at h
            conv => whnf
            refine Tri.weak w460 ?_
            refine Tri.seqK ?_
            refine Tri.seqK ?_
            refine Tri.run (G := gm_ref01_TakeNum) tyOk mixed ?_
            conv => whnf
            refine ⟨⟨(s.length : Int), rfl, ?_⟩⟩
            conv => whnf
            refine Tri.cond rfl (fun c462 => ?_) (fun c462 => ?_)
            · replace h := if_t c462 h
              refine Tri.seqK ?_
              refine Tri.run (G := gm_ref01_TakeNum) tyOk mixed ?_
              conv => whnf
              refine Tri.run (G := gm_ref01_TakeNum) tyOk mixed ?_
              conv => whnf
              refine fin_here ?_
              conv => whnf
              obtain rfl := Option.some.inj h
              rfl
            · replace h := if_f c462 h
              refine Tri.run (G := gm_ref01_TakeNum) tyOk mixed ?_
              conv => whnf
              refine Tri.seqK ?_
              refine Tri.seqK ?_
              replace h := bind_some h
              obtain ⟨y482, q483, h⟩ := h
              refine Tri.cut (fun ex S' => ex = .normal ∧ Weak S' ⟨79, 0, ofRegs [(0, .v (.string (bs s))), (5, .v (.int .i64 y171)), (6, .v (.int .u64 v410)), (73, .v (.bool y482))], []⟩) ?_ ?_
              · refine Tri.run (G := gm_ref01_TakeNum) tyOk mixed ?_
                conv => whnf
                replace q483 := bind_some q483
                obtain ⟨x484, q485, q483⟩ := q483
                refine ⟨bs_bound q485, ?_⟩
                conv => whnf
                refine ⟨⟨(x484.toNat : Int), bs_at q485, ?_⟩⟩
                conv => whnf
                refine cond_mk (fun c486 => ?_) (fun c486 => ?_)
                · replace q483 := if_t c486 q483
                  conv => whnf
                  obtain rfl := Option.some.inj q483
                  exact ⟨rfl, weak_fin _ rfl rfl rfl (LeH.rest) (.cons (.one (.same rfl)) (.cons (.one (.same rfl)) (.cons (.one (.same rfl)) (.cons (.one (.same rfl)) (.nil))))) rfl rfl⟩
                · replace q483 := if_f c486 q483
                  conv => whnf
                  obtain rfl := Option.some.inj q483
                  exact ⟨rfl, weak_fin _ rfl rfl rfl (LeH.rest) (.cons (.one (.same rfl)) (.cons (.one (.same rfl)) (.cons (.one (.same rfl)) (.cons (.one (.same rfl)) (.nil))))) rfl rfl⟩
              · rintro ex S' ⟨rfl, w487⟩
                conv => whnf
                refine Tri.weak w487 ?_
                refine Tri.cond rfl (fun c488 => ?_) (fun c488 => ?_)
                · replace h := if_t c488 h
                  refine Tri.seqK ?_
                  refine Tri.run (G := gm_ref01_TakeNum) tyOk mixed ?_
                  conv => whnf
                  refine Tri.run (G := gm_ref01_TakeNum) tyOk mixed ?_
                  conv => whnf
                  refine fin_here ?_
                  conv => whnf
                  obtain rfl := Option.some.inj h
                  rfl
                · replace h := if_f c488 h
                  refine Tri.run (G := gm_ref01_TakeNum) tyOk mixed ?_
                  conv => whnf
                  refine Tri.seqK ?_
                  refine Tri.run (G := gm_ref01_TakeNum) tyOk mixed ?_
                  conv => whnf
                  refine Draw.one 8 (.take 0 (.take 1 (.take 2 (.take 3 (.take 4 (.take 5 (.take 6 (.take 7 (.fin))))))))) [] (by kernel_rfl) ?_
                  conv => whnf
                  replace h := need_some h
                  obtain ⟨p490, h⟩ := h
                  refine ⟨p490, ?_⟩
                  conv => whnf
                  refine ⟨⟨bs (cut s (IntKind.i64.wrap (y171 + 1)) (s.length : Int)), bs_cut _ _ _, ?_⟩⟩
                  conv => whnf
                  refine Tri.run (G := gm_ref01_TakeNum) tyOk mixed ?_
                  conv => whnf
                  refine fin_here ?_
                  conv => whnf
                  obtain rfl := Option.some.inj h
                  rfl
noncomputable def ref01_TakeText (s : Str) (most : Int) : Option (Str × Str × Int) :=
  (ref01_TakeNum s).bind fun y1 =>
  if (!(decide (y1.2.2 = 0))) then
    some ([], [], y1.2.2)
  else
    if ((decide (most < 0)) || (decide (y1.1 > (IntKind.u64.wrap most)))) then
      some ([], [], 4)
    else
      if (decide (y1.1 > (IntKind.u64.wrap (y1.2.1.length : Int)))) then
        some ([], [], 2)
      else
        need (0 ≤ (0 : Int) ∧ 0 ≤ y1.1 ∧ y1.1 ≤ (y1.2.1.length : Int)) <|
        need (0 ≤ y1.1 ∧ y1.1 ≤ (y1.2.1.length : Int) ∧ (y1.2.1.length : Int) ≤ (y1.2.1.length : Int)) <|
        some ((cut y1.2.1 0 y1.1), (cut y1.2.1 y1.1 (y1.2.1.length : Int)), 0)
def gm_ref01_TakeText : Gm := ⟨tys, [], [], []⟩
theorem ref01_TakeText_walk (s : Str) (most : Int) (r : Str × Str × Int) (h : ref01_TakeText s most = some r) : PureP Try.prog 45 [.v (.string (bs s)), .v (.int .i64 most)] (fun a => a = .tup [.v (.string (bs r.1)), .v (.string (bs r.2.1)), .v (.int .i64 r.2.2)]) := by
  unfold ref01_TakeText at h
  refine pureW (G := gm_ref01_TakeText) tyOk Try.func45 rfl (by kernel_rfl) (by simp [Try.f45]) ?_
  refine Tri.seqK ?_
  refine Tri.run (G := gm_ref01_TakeText) tyOk mixed ?_
  conv => whnf
  refine Tri.seqK ?_
  refine Tri.run (G := gm_ref01_TakeText) tyOk mixed ?_
  conv => whnf
  replace h := bind_some h
  obtain ⟨y1, q2, h⟩ := h
  refine PureP.mono (ref01_TakeNum_walk s y1 q2) ?_
  rintro _ rfl
  conv => whnf
  refine Tri.seqK ?_
  refine Tri.seqK ?_
  refine Tri.run (G := gm_ref01_TakeText) tyOk mixed ?_
  conv => whnf
  refine Tri.cond rfl (fun c4 => ?_) (fun c4 => ?_)
  · replace h := if_t c4 h
    refine Tri.seqK ?_
    refine Tri.run (G := gm_ref01_TakeText) tyOk mixed ?_
    conv => whnf
    refine Tri.run (G := gm_ref01_TakeText) tyOk mixed ?_
    conv => whnf
    refine fin_here ?_
    conv => whnf
    obtain rfl := Option.some.inj h
    rfl
  · replace h := if_f c4 h
    refine Tri.run (G := gm_ref01_TakeText) tyOk mixed ?_
    conv => whnf
    refine Tri.seqK ?_
    refine Tri.seqK ?_
    refine Tri.cut (fun ex S' => ex = .normal ∧ Weak S' ⟨38, 0, ofRegs [(7, .v (.int .u64 y1.1)), (8, .v (.string (bs y1.2.1))), (26, .v (.bool ((decide (most < 0)) || (decide (y1.1 > (IntKind.u64.wrap most))))))], []⟩) ?_ ?_
    · refine Tri.run (G := gm_ref01_TakeText) tyOk mixed ?_
      conv => whnf
      refine cond_mk (fun c14 => ?_) (fun c14 => ?_)
      · replace c14 : (decide (most < 0)) = true := c14
        conv => whnf
        exact ⟨rfl, weak_fin _ rfl rfl rfl (LeH.rest) (.cons (.one (.same rfl)) (.cons (.one (.same rfl)) (.cons (.one (.same (show (.v (.bool true) : AV) = (.v (.bool ((decide (most < 0)) || (decide (y1.1 > (IntKind.u64.wrap most))))) : AV) from by first | (simp [c14]; done) | simp only [c14, Bool.or_true, Bool.true_or, Bool.false_or, Bool.or_false, Bool.and_true, Bool.true_and, Bool.and_false, Bool.false_and, Bool.not_true, Bool.not_false, if_true, if_false, Bool.false_eq_true]))) (.nil)))) rfl rfl⟩
      · replace c14 : (decide (most < 0)) = false := c14
        conv => whnf
        refine ⟨⟨(IntKind.u64.wrap most), rfl, ?_⟩⟩
        conv => whnf
        exact ⟨rfl, weak_fin _ rfl rfl rfl (LeH.rest) (.cons (.one (.same rfl)) (.cons (.one (.same rfl)) (.cons (.one (.same (show (.v (.bool (decide (y1.1 > (IntKind.u64.wrap most)))) : AV) = (.v (.bool ((decide (most < 0)) || (decide (y1.1 > (IntKind.u64.wrap most))))) : AV) from by first | (simp [c14]; done) | simp only [c14, Bool.or_true, Bool.true_or, Bool.false_or, Bool.or_false, Bool.and_true, Bool.true_and, Bool.and_false, Bool.false_and, Bool.not_true, Bool.not_false, if_true, if_false, Bool.false_eq_true]))) (.nil)))) rfl rfl⟩
    · rintro ex S' ⟨rfl, w15⟩
      conv => whnf
      refine Tri.weak w15 ?_
      refine Tri.cond rfl (fun c16 => ?_) (fun c16 => ?_)
      · replace h := if_t c16 h
        refine Tri.seqK ?_
        refine Tri.run (G := gm_ref01_TakeText) tyOk mixed ?_
        conv => whnf
        refine Tri.run (G := gm_ref01_TakeText) tyOk mixed ?_
        conv => whnf
        refine fin_here ?_
        conv => whnf
        obtain rfl := Option.some.inj h
        rfl
      · replace h := if_f c16 h
        refine Tri.run (G := gm_ref01_TakeText) tyOk mixed ?_
        conv => whnf
        refine Tri.seqK ?_
        refine Tri.seqK ?_
        refine Tri.run (G := gm_ref01_TakeText) tyOk mixed ?_
        conv => whnf
        refine ⟨⟨(y1.2.1.length : Int), rfl, ?_⟩⟩
        conv => whnf
        refine ⟨⟨(IntKind.u64.wrap (y1.2.1.length : Int)), rfl, ?_⟩⟩
        conv => whnf
        refine Tri.cond rfl (fun c18 => ?_) (fun c18 => ?_)
        · replace h := if_t c18 h
          refine Tri.seqK ?_
          refine Tri.run (G := gm_ref01_TakeText) tyOk mixed ?_
          conv => whnf
          refine Tri.run (G := gm_ref01_TakeText) tyOk mixed ?_
          conv => whnf
          refine fin_here ?_
          conv => whnf
          obtain rfl := Option.some.inj h
          rfl
        · replace h := if_f c18 h
          refine Tri.run (G := gm_ref01_TakeText) tyOk mixed ?_
          conv => whnf
          refine Tri.seqK ?_
          refine Tri.run (G := gm_ref01_TakeText) tyOk mixed ?_
          conv => whnf
          refine Draw.one 9 (.take 0 (.take 1 (.take 2 (.take 3 (.take 4 (.take 5 (.take 6 (.take 7 (.take 8 (.fin)))))))))) [] (by kernel_rfl) ?_
          conv => whnf
          replace h := need_some h
          obtain ⟨p21, h⟩ := h
          refine ⟨p21, ?_⟩
          conv => whnf
          refine ⟨⟨bs (cut y1.2.1 0 y1.1), bs_cut _ _ _, ?_⟩⟩
          conv => whnf
          replace h := need_some h
          obtain ⟨p22, h⟩ := h
          refine ⟨p22, ?_⟩
          conv => whnf
          refine ⟨⟨bs (cut y1.2.1 y1.1 (y1.2.1.length : Int)), bs_cut _ _ _, ?_⟩⟩
          conv => whnf
          refine Tri.run (G := gm_ref01_TakeText) tyOk mixed ?_
          conv => whnf
          refine fin_here ?_
          conv => whnf
          obtain rfl := Option.some.inj h
          rfl
noncomputable def ref02_Open (f : Str) (most : Int) : Option (Str × Str × Int) :=
  (ref01_TakeText f most).bind fun y1 =>
  if (!(decide (y1.2.2 = 0))) then
    some ([], [], y1.2.2)
  else
    (ref01_TakeNum y1.2.1).bind fun y5 =>
    if (!(decide (y5.2.2 = 0))) then
      some ([], [], y5.2.2)
    else
      (ref02_Of y1.1).bind fun y12 =>
      if (!(decide (y5.1 = (IntKind.u64.wrap y12)))) then
        some ([], [], 10)
      else
        some (y1.1, y5.2.1, 0)
def gm_ref02_Open : Gm := ⟨tys, [], [], []⟩
theorem ref02_Open_walk (f : Str) (most : Int) (r : Str × Str × Int) (h : ref02_Open f most = some r) : PureP Try.prog 29 [.v (.string (bs f)), .v (.int .i64 most)] (fun a => a = .tup [.v (.string (bs r.1)), .v (.string (bs r.2.1)), .v (.int .i64 r.2.2)]) := by
  unfold ref02_Open at h
  refine pureW (G := gm_ref02_Open) tyOk Try.func29 rfl (by kernel_rfl) (by simp [Try.f29]) ?_
  refine Tri.seqK ?_
  refine Tri.run (G := gm_ref02_Open) tyOk mixed ?_
  conv => whnf
  refine Tri.seqK ?_
  refine Tri.run (G := gm_ref02_Open) tyOk mixed ?_
  conv => whnf
  replace h := bind_some h
  obtain ⟨y1, q2, h⟩ := h
  refine PureP.mono (ref01_TakeText_walk f most y1 q2) ?_
  rintro _ rfl
  conv => whnf
  refine Tri.seqK ?_
  refine Tri.seqK ?_
  refine Tri.run (G := gm_ref02_Open) tyOk mixed ?_
  conv => whnf
  refine Tri.cond rfl (fun c4 => ?_) (fun c4 => ?_)
  · replace h := if_t c4 h
    refine Tri.seqK ?_
    refine Tri.run (G := gm_ref02_Open) tyOk mixed ?_
    conv => whnf
    refine Tri.run (G := gm_ref02_Open) tyOk mixed ?_
    conv => whnf
    refine fin_here ?_
    conv => whnf
    obtain rfl := Option.some.inj h
    rfl
  · replace h := if_f c4 h
    refine Tri.run (G := gm_ref02_Open) tyOk mixed ?_
    conv => whnf
    refine Tri.seqK ?_
    refine Tri.run (G := gm_ref02_Open) tyOk mixed ?_
    conv => whnf
    replace h := bind_some h
    obtain ⟨y5, q6, h⟩ := h
    refine PureP.mono (ref01_TakeNum_walk y1.2.1 y5 q6) ?_
    rintro _ rfl
    conv => whnf
    refine Tri.seqK ?_
    refine Tri.seqK ?_
    refine Tri.run (G := gm_ref02_Open) tyOk mixed ?_
    conv => whnf
    refine Tri.cond rfl (fun c8 => ?_) (fun c8 => ?_)
    · replace h := if_t c8 h
      refine Tri.seqK ?_
      refine Tri.run (G := gm_ref02_Open) tyOk mixed ?_
      conv => whnf
      refine Tri.run (G := gm_ref02_Open) tyOk mixed ?_
      conv => whnf
      refine fin_here ?_
      conv => whnf
      obtain rfl := Option.some.inj h
      rfl
    · replace h := if_f c8 h
      refine Tri.run (G := gm_ref02_Open) tyOk mixed ?_
      conv => whnf
      refine Tri.seqK ?_
      refine Tri.seqK ?_
      refine Tri.run (G := gm_ref02_Open) tyOk mixed ?_
      conv => whnf
      replace h := bind_some h
      obtain ⟨y12, q13, h⟩ := h
      refine PureP.mono (ref02_Of_walk y1.1 y12 q13) ?_
      rintro _ rfl
      conv => whnf
      refine ⟨⟨(IntKind.u64.wrap y12), rfl, ?_⟩⟩
      conv => whnf
      refine Tri.cond rfl (fun c14 => ?_) (fun c14 => ?_)
      · replace h := if_t c14 h
        refine Tri.seqK ?_
        refine Tri.run (G := gm_ref02_Open) tyOk mixed ?_
        conv => whnf
        refine Tri.run (G := gm_ref02_Open) tyOk mixed ?_
        conv => whnf
        refine fin_here ?_
        conv => whnf
        obtain rfl := Option.some.inj h
        rfl
      · replace h := if_f c14 h
        refine Tri.run (G := gm_ref02_Open) tyOk mixed ?_
        conv => whnf
        refine Tri.seqK ?_
        refine Tri.run (G := gm_ref02_Open) tyOk mixed ?_
        conv => whnf
        refine Tri.run (G := gm_ref02_Open) tyOk mixed ?_
        conv => whnf
        refine fin_here ?_
        conv => whnf
        obtain rfl := Option.some.inj h
        rfl
noncomputable def ref18_Take (s : Str) : Option (Int × Int) :=
  (ref02_Open s 65536).bind fun y1 =>
  if ((!(decide (y1.2.2 = 0))) || (decide ((y1.2.1.length : Int) > 0))) then
    some (0, 3)
  else
    (ref01_TakeNum y1.1).bind fun y15 =>
    if ((!(decide (y15.2.2 = 0))) || ((decide ((y15.2.1.length : Int) > 0)) || (decide (y15.1 > 1073741824)))) then
      some (0, 3)
    else
      some ((IntKind.i64.wrap y15.1), 0)
def gm_ref18_Take : Gm := ⟨tys, [], [], []⟩
theorem ref18_Take_walk (s : Str) (r : Int × Int) (h : ref18_Take s = some r) : PureP Try.prog 13 [.v (.string (bs s))] (fun a => a = .tup [.v (.int .i64 r.1), .v (.int .i64 r.2)]) := by
  unfold ref18_Take at h
  refine pureW (G := gm_ref18_Take) tyOk Try.func13 rfl (by kernel_rfl) (by simp [Try.f13]) ?_
  refine Tri.seqK ?_
  refine Tri.run (G := gm_ref18_Take) tyOk mixed ?_
  conv => whnf
  refine Tri.seqK ?_
  refine Tri.run (G := gm_ref18_Take) tyOk mixed ?_
  conv => whnf
  replace h := bind_some h
  obtain ⟨y1, q2, h⟩ := h
  refine PureP.mono (ref02_Open_walk s 65536 y1 q2) ?_
  rintro _ rfl
  conv => whnf
  refine Tri.seqK ?_
  refine Tri.seqK ?_
  refine Tri.cut (fun ex S' => ex = .normal ∧ Weak S' ⟨42, 0, ofRegs [(4, .v (.string (bs y1.1))), (22, .v (.bool ((!(decide (y1.2.2 = 0))) || (decide ((y1.2.1.length : Int) > 0)))))], []⟩) ?_ ?_
  · refine Tri.run (G := gm_ref18_Take) tyOk mixed ?_
    conv => whnf
    refine cond_mk (fun c12 => ?_) (fun c12 => ?_)
    · replace c12 : (!(decide (y1.2.2 = 0))) = true := c12
      conv => whnf
      exact ⟨rfl, weak_fin _ rfl rfl rfl (LeH.rest) (.cons (.one (.same rfl)) (.cons (.one (.same (show (.v (.bool true) : AV) = (.v (.bool ((!(decide (y1.2.2 = 0))) || (decide ((y1.2.1.length : Int) > 0)))) : AV) from by first | (simp [c12]; done) | simp only [c12, Bool.or_true, Bool.true_or, Bool.false_or, Bool.or_false, Bool.and_true, Bool.true_and, Bool.and_false, Bool.false_and, Bool.not_true, Bool.not_false, if_true, if_false, Bool.false_eq_true]))) (.nil))) rfl rfl⟩
    · replace c12 : (!(decide (y1.2.2 = 0))) = false := c12
      conv => whnf
      refine ⟨⟨(y1.2.1.length : Int), rfl, ?_⟩⟩
      conv => whnf
      exact ⟨rfl, weak_fin _ rfl rfl rfl (LeH.rest) (.cons (.one (.same rfl)) (.cons (.one (.same (show (.v (.bool (decide ((y1.2.1.length : Int) > 0))) : AV) = (.v (.bool ((!(decide (y1.2.2 = 0))) || (decide ((y1.2.1.length : Int) > 0)))) : AV) from by first | (simp [c12]; done) | simp only [c12, Bool.or_true, Bool.true_or, Bool.false_or, Bool.or_false, Bool.and_true, Bool.true_and, Bool.and_false, Bool.false_and, Bool.not_true, Bool.not_false, if_true, if_false, Bool.false_eq_true]))) (.nil))) rfl rfl⟩
  · rintro ex S' ⟨rfl, w13⟩
    conv => whnf
    refine Tri.weak w13 ?_
    refine Tri.cond rfl (fun c14 => ?_) (fun c14 => ?_)
    · replace h := if_t c14 h
      refine Tri.seqK ?_
      refine Tri.run (G := gm_ref18_Take) tyOk mixed ?_
      conv => whnf
      refine Tri.run (G := gm_ref18_Take) tyOk mixed ?_
      conv => whnf
      refine fin_here ?_
      conv => whnf
      obtain rfl := Option.some.inj h
      rfl
    · replace h := if_f c14 h
      refine Tri.run (G := gm_ref18_Take) tyOk mixed ?_
      conv => whnf
      refine Tri.seqK ?_
      refine Tri.run (G := gm_ref18_Take) tyOk mixed ?_
      conv => whnf
      replace h := bind_some h
      obtain ⟨y15, q16, h⟩ := h
      refine PureP.mono (ref01_TakeNum_walk y1.1 y15 q16) ?_
      rintro _ rfl
      conv => whnf
      refine Tri.seqK ?_
      refine Tri.seqK ?_
      refine Tri.cut (fun ex S' => ex = .normal ∧ Weak S' ⟨42, 0, ofRegs [(7, .v (.int .u64 y15.1)), (39, .v (.bool ((!(decide (y15.2.2 = 0))) || ((decide ((y15.2.1.length : Int) > 0)) || (decide (y15.1 > 1073741824))))))], []⟩) ?_ ?_
      · refine Tri.run (G := gm_ref18_Take) tyOk mixed ?_
        conv => whnf
        refine cond_mk (fun c33 => ?_) (fun c33 => ?_)
        · replace c33 : (!(decide (y15.2.2 = 0))) = true := c33
          conv => whnf
          exact ⟨rfl, weak_fin _ rfl rfl rfl (LeH.rest) (.cons (.one (.same rfl)) (.cons (.one (.same (show (.v (.bool true) : AV) = (.v (.bool ((!(decide (y15.2.2 = 0))) || ((decide ((y15.2.1.length : Int) > 0)) || (decide (y15.1 > 1073741824))))) : AV) from by first | (simp [c33]; done) | simp only [c33, Bool.or_true, Bool.true_or, Bool.false_or, Bool.or_false, Bool.and_true, Bool.true_and, Bool.and_false, Bool.false_and, Bool.not_true, Bool.not_false, if_true, if_false, Bool.false_eq_true]))) (.nil))) rfl rfl⟩
        · replace c33 : (!(decide (y15.2.2 = 0))) = false := c33
          conv => whnf
          refine ⟨⟨(y15.2.1.length : Int), rfl, ?_⟩⟩
          conv => whnf
          refine cond_mk (fun c34 => ?_) (fun c34 => ?_)
          · replace c34 : (decide ((y15.2.1.length : Int) > 0)) = true := c34
            conv => whnf
            exact ⟨rfl, weak_fin _ rfl rfl rfl (LeH.rest) (.cons (.one (.same rfl)) (.cons (.one (.same (show (.v (.bool true) : AV) = (.v (.bool ((!(decide (y15.2.2 = 0))) || ((decide ((y15.2.1.length : Int) > 0)) || (decide (y15.1 > 1073741824))))) : AV) from by first | (simp [c33, c34]; done) | simp only [c33, c34, Bool.or_true, Bool.true_or, Bool.false_or, Bool.or_false, Bool.and_true, Bool.true_and, Bool.and_false, Bool.false_and, Bool.not_true, Bool.not_false, if_true, if_false, Bool.false_eq_true]))) (.nil))) rfl rfl⟩
          · replace c34 : (decide ((y15.2.1.length : Int) > 0)) = false := c34
            conv => whnf
            exact ⟨rfl, weak_fin _ rfl rfl rfl (LeH.rest) (.cons (.one (.same rfl)) (.cons (.one (.same (show (.v (.bool (decide (y15.1 > 1073741824))) : AV) = (.v (.bool ((!(decide (y15.2.2 = 0))) || ((decide ((y15.2.1.length : Int) > 0)) || (decide (y15.1 > 1073741824))))) : AV) from by first | (simp [c33, c34]; done) | simp only [c33, c34, Bool.or_true, Bool.true_or, Bool.false_or, Bool.or_false, Bool.and_true, Bool.true_and, Bool.and_false, Bool.false_and, Bool.not_true, Bool.not_false, if_true, if_false, Bool.false_eq_true]))) (.nil))) rfl rfl⟩
      · rintro ex S' ⟨rfl, w35⟩
        conv => whnf
        refine Tri.weak w35 ?_
        refine Tri.cond rfl (fun c36 => ?_) (fun c36 => ?_)
        · replace h := if_t c36 h
          refine Tri.seqK ?_
          refine Tri.run (G := gm_ref18_Take) tyOk mixed ?_
          conv => whnf
          refine Tri.run (G := gm_ref18_Take) tyOk mixed ?_
          conv => whnf
          refine fin_here ?_
          conv => whnf
          obtain rfl := Option.some.inj h
          rfl
        · replace h := if_f c36 h
          refine Tri.run (G := gm_ref18_Take) tyOk mixed ?_
          conv => whnf
          refine Tri.seqK ?_
          refine Tri.run (G := gm_ref18_Take) tyOk mixed ?_
          conv => whnf
          refine ⟨⟨(IntKind.i64.wrap y15.1), rfl, ?_⟩⟩
          conv => whnf
          refine Tri.run (G := gm_ref18_Take) tyOk mixed ?_
          conv => whnf
          refine fin_here ?_
          conv => whnf
          obtain rfl := Option.some.inj h
          rfl
noncomputable def ref03_at_l2 (d : Disk) (name : Str) (a52 : Int) : Option ((Int) ⊕ ((Int) ⊕ (Unit))) :=
  if (decide (a52 < (d.Files.length : Int))) then
    (ix d.Files a52).bind fun x65 =>
    if (decide (x65.Name = name)) then
      some (.inr (.inl a52))
    else
      some (.inl (IntKind.i64.wrap (a52 + 1)))
  else
    some (.inr (.inr ()))
noncomputable def ref03_at (d : Disk) (name : Str) : Option (Int) :=
  (loop (fun (s57 : Int) => ref03_at_l2 d name s57) (0 : Int)).bind fun (y53 : (Int) ⊕ (Unit)) =>
  match y53 with
  | (.inl v55) =>
    some v55
  | (.inr v56) =>
    some ((-1) : Int)
def gm_ref03_at : Gm := ⟨tys, [], [], []⟩
theorem ref03_at_walk (d : Disk) (name : Str) (r : Int) (h : ref03_at d name = some r) : PureP Try.prog 36 [.agg [.sl (List.map encFile d.Files), .v (.int .i64 d.Room), .v (.int .i64 d.Fuse), .v (.bool d.Off)], .v (.string (bs name))] (fun a => a = .v (.int .i64 r)) := by
  unfold ref03_at at h
  refine pureW (G := gm_ref03_at) tyOk Try.func36 rfl (by kernel_rfl) (by simp [Try.f36]) ?_
  refine Tri.seqK ?_
  refine Tri.run (G := gm_ref03_at) tyOk mixed ?_
  conv => whnf
  refine Tri.seqK ?_
  refine Tri.seqK ?_
  refine Tri.run (G := gm_ref03_at) tyOk mixed ?_
  conv => whnf
  refine Tri.block ?_
  replace h := bind_some h
  obtain ⟨y53, q54, h⟩ := h
  refine Tri.cut (fun ex S' => (∃ v55 : Int, y53 = (.inl v55) ∧ ex = .ret ∧ Weak S' ⟨22, 0, ofRegs [(4, .v (.int .i64 v55))], []⟩) ∨ (∃ v56 : Unit, y53 = (.inr v56) ∧ ex = (.exit 0) ∧ Weak S' ⟨22, 0, ofRegs [], []⟩)) ?_ ?_
  · refine Tri.loopF (fun (s57 : Int) => (⟨22, 0, ofRegs [(1, .v (.string (bs name))), (2, .ptr 0 0), (5, .v (.int .i64 s57))], [.var 24 [.sl (List.map encFile d.Files), .v (.int .i64 d.Room), .v (.int .i64 d.Fuse), .v (.bool d.Off)]]⟩ : St)) q54 (weak_fin _ rfl rfl rfl (.cons (.same rfl) (LeH.rest)) (.cons (.one (.same rfl)) (.cons (.one (.same rfl)) (.cons (.one (.same rfl)) (.nil)))) rfl rfl) ?_
    rintro a52 v58 hv r59
    have hv : ref03_at_l2 d name a52 = some v58 := hv
    unfold ref03_at_l2 at hv
    refine Tri.seqK ?_
    refine Tri.seqK ?_
    refine Tri.run (G := gm_ref03_at) tyOk mixed ?_
    conv => whnf
    refine ⟨⟨(d.Files.length : Int), (len_map _ _).symm, ?_⟩⟩
    conv => whnf
    refine Tri.cond rfl (fun c61 => ?_) (fun c61 => ?_)
    · replace hv := if_t c61 hv
      refine Tri.run (G := gm_ref03_at) tyOk mixed ?_
      conv => whnf
      refine Tri.seqK ?_
      refine Tri.block ?_
      refine Tri.seqK ?_
      refine Tri.run (G := gm_ref03_at) tyOk mixed ?_
      conv => whnf
      replace hv := bind_some hv
      obtain ⟨x65, q66, hv⟩ := hv
      refine ⟨(ix_some q66).1, ?_⟩
      conv => whnf
      refine ⟨⟨_, map_get encFile (ix_some q66).2, ?_⟩⟩
      conv => whnf
      refine ⟨rfl, ?_⟩
      conv => whnf
      refine ⟨⟨(decide (x65.Name = name)), bs_eq _ _, ?_⟩⟩
      conv => whnf
      refine Tri.cond rfl (fun c67 => ?_) (fun c67 => ?_)
      · replace hv := if_t c67 hv
        refine Tri.seqK ?_
        refine Tri.run (G := gm_ref03_at) tyOk mixed ?_
        conv => whnf
        refine Tri.run (G := gm_ref03_at) tyOk mixed ?_
        conv => whnf
        obtain rfl := Option.some.inj hv
        obtain rfl := r59 _ rfl
        exact Or.inl ⟨_, rfl, rfl, weak_fin _ rfl rfl rfl (LeH.rest) (.cons (.one (.same rfl)) (.nil)) rfl rfl⟩
      · replace hv := if_f c67 hv
        refine Tri.run (G := gm_ref03_at) tyOk mixed ?_
        conv => whnf
        refine Tri.run (G := gm_ref03_at) tyOk mixed ?_
        conv => whnf
        obtain rfl := Option.some.inj hv
        exact ⟨_, rfl, weak_fin _ rfl rfl rfl (.cons (.same rfl) (LeH.rest)) (.cons (.one (.same rfl)) (.cons (.one (.same rfl)) (.cons (.one (.same rfl)) (.nil)))) rfl rfl⟩
    · replace hv := if_f c61 hv
      refine Tri.run (G := gm_ref03_at) tyOk mixed ?_
      conv => whnf
      obtain rfl := Option.some.inj hv
      obtain rfl := r59 _ rfl
      exact Or.inr (⟨_, rfl, rfl, weak_fin _ rfl rfl rfl (LeH.rest) (.nil) rfl rfl⟩)
  · rintro ex S' (⟨v55, rfl, rfl, w68⟩ | ⟨v56, rfl, rfl, w68⟩)
    · dsimp only at h
      conv => whnf
      refine fin_pre w68 ?_
      conv => whnf
      obtain rfl := Option.some.inj h
      rfl
    · dsimp only at h
      conv => whnf
      refine Tri.weak w68 ?_
      refine Tri.seqK ?_
      refine Tri.run (G := gm_ref03_at) tyOk mixed ?_
      conv => whnf
      refine Tri.run (G := gm_ref03_at) tyOk mixed ?_
      conv => whnf
      refine fin_here ?_
      conv => whnf
      obtain rfl := Option.some.inj h
      rfl
noncomputable def ref03_Find (d : Disk) (name : Str) : Option (File × Bool) :=
  (ref03_at d name).bind fun y1 =>
  if (decide (y1 < 0)) then
    some (({ Name := [], Safe := [], Wait := [] } : File), false)
  else
    (ix d.Files y1).bind fun x5 =>
    some (x5, true)
def gm_ref03_Find : Gm := ⟨tys, [], [], []⟩
theorem ref03_Find_walk (d : Disk) (name : Str) (r : File × Bool) (h : ref03_Find d name = some r) : PureP Try.prog 22 [.agg [.sl (List.map encFile d.Files), .v (.int .i64 d.Room), .v (.int .i64 d.Fuse), .v (.bool d.Off)], .v (.string (bs name))] (fun a => a = .tup [.agg [.v (.string (bs r.1.Name)), .v (.string (bs r.1.Safe)), .v (.string (bs r.1.Wait))], .v (.bool r.2)]) := by
  unfold ref03_Find at h
  refine pureW (G := gm_ref03_Find) tyOk Try.func22 rfl (by kernel_rfl) (by simp [Try.f22]) ?_
  refine Tri.seqK ?_
  refine Tri.run (G := gm_ref03_Find) tyOk mixed ?_
  conv => whnf
  refine Tri.seqK ?_
  refine Tri.run (G := gm_ref03_Find) tyOk mixed ?_
  conv => whnf
  replace h := bind_some h
  obtain ⟨y1, q2, h⟩ := h
  refine PureP.mono (ref03_at_walk d name y1 q2) ?_
  rintro _ rfl
  conv => whnf
  refine Tri.seqK ?_
  refine Tri.seqK ?_
  refine Tri.run (G := gm_ref03_Find) tyOk mixed ?_
  conv => whnf
  refine Tri.cond rfl (fun c4 => ?_) (fun c4 => ?_)
  · replace h := if_t c4 h
    refine Tri.seqK ?_
    refine Tri.run (G := gm_ref03_Find) tyOk mixed ?_
    conv => whnf
    refine Tri.run (G := gm_ref03_Find) tyOk mixed ?_
    conv => whnf
    refine fin_here ?_
    conv => whnf
    obtain rfl := Option.some.inj h
    rfl
  · replace h := if_f c4 h
    refine Tri.run (G := gm_ref03_Find) tyOk mixed ?_
    conv => whnf
    refine Tri.seqK ?_
    refine Tri.run (G := gm_ref03_Find) tyOk mixed ?_
    conv => whnf
    replace h := bind_some h
    obtain ⟨x5, q6, h⟩ := h
    refine ⟨(ix_some q6).1, ?_⟩
    conv => whnf
    refine ⟨⟨_, map_get encFile (ix_some q6).2, ?_⟩⟩
    conv => whnf
    refine ⟨rfl, ?_⟩
    conv => whnf
    refine Tri.run (G := gm_ref03_Find) tyOk mixed ?_
    conv => whnf
    refine fin_here ?_
    conv => whnf
    obtain rfl := Option.some.inj h
    rfl
noncomputable def ref03_Read (d : Disk) (name : Str) : Option (Str × Int) :=
  (ref03_Find d name).bind fun y1 =>
  if (!y1.2) then
    some ([], 7)
  else
    need (y1.1.Safe.length + y1.1.Wait.length ≤ 9223372036854775807) <|
    some ((y1.1.Safe ++ y1.1.Wait), 0)
def gm_ref03_Read : Gm := ⟨tys, [], [], []⟩
theorem ref03_Read_walk (d : Disk) (name : Str) (r : Str × Int) (h : ref03_Read d name = some r) : PureP Try.prog 32 [.agg [.sl (List.map encFile d.Files), .v (.int .i64 d.Room), .v (.int .i64 d.Fuse), .v (.bool d.Off)], .v (.string (bs name))] (fun a => a = .tup [.v (.string (bs r.1)), .v (.int .i64 r.2)]) := by
  unfold ref03_Read at h
  refine pureW (G := gm_ref03_Read) tyOk Try.func32 rfl (by kernel_rfl) (by simp [Try.f32]) ?_
  refine Tri.seqK ?_
  refine Tri.run (G := gm_ref03_Read) tyOk mixed ?_
  conv => whnf
  refine Tri.seqK ?_
  refine Tri.run (G := gm_ref03_Read) tyOk mixed ?_
  conv => whnf
  replace h := bind_some h
  obtain ⟨y1, q2, h⟩ := h
  refine PureP.mono (ref03_Find_walk d name y1 q2) ?_
  rintro _ rfl
  conv => whnf
  refine Tri.seqK ?_
  refine Tri.seqK ?_
  refine Tri.run (G := gm_ref03_Read) tyOk mixed ?_
  conv => whnf
  refine Tri.cond rfl (fun c4 => ?_) (fun c4 => ?_)
  · replace h := if_t c4 h
    refine Tri.seqK ?_
    refine Tri.run (G := gm_ref03_Read) tyOk mixed ?_
    conv => whnf
    refine Tri.run (G := gm_ref03_Read) tyOk mixed ?_
    conv => whnf
    refine fin_here ?_
    conv => whnf
    obtain rfl := Option.some.inj h
    rfl
  · replace h := if_f c4 h
    refine Tri.run (G := gm_ref03_Read) tyOk mixed ?_
    conv => whnf
    refine Tri.seqK ?_
    refine Tri.run (G := gm_ref03_Read) tyOk mixed ?_
    conv => whnf
    replace h := need_some h
    obtain ⟨p5, h⟩ := h
    refine ⟨p5, ?_⟩
    conv => whnf
    refine ⟨⟨bs (y1.1.Safe ++ y1.1.Wait), bs_append _ _, ?_⟩⟩
    conv => whnf
    refine Tri.run (G := gm_ref03_Read) tyOk mixed ?_
    conv => whnf
    refine fin_here ?_
    conv => whnf
    obtain rfl := Option.some.inj h
    rfl
noncomputable def ref18_Read (d : Disk) : Option (Int × Int) :=
  (ref03_Read d [101]).bind fun y1 =>
  if (!(decide (y1.2 = 0))) then
    some (0, 0)
  else
    (ref18_Take y1.1).bind fun y5 =>
    some (y5.1, y5.2)
def gm_ref18_Read : Gm := ⟨tys, [], [], []⟩
theorem ref18_Read_walk (d : Disk) (r : Int × Int) (h : ref18_Read d = some r) : PureP Try.prog 15 [.agg [.sl (List.map encFile d.Files), .v (.int .i64 d.Room), .v (.int .i64 d.Fuse), .v (.bool d.Off)]] (fun a => a = .tup [.v (.int .i64 r.1), .v (.int .i64 r.2)]) := by
  unfold ref18_Read at h
  refine pureW (G := gm_ref18_Read) tyOk Try.func15 rfl (by kernel_rfl) (by simp [Try.f15]) ?_
  refine Tri.seqK ?_
  refine Tri.run (G := gm_ref18_Read) tyOk mixed ?_
  conv => whnf
  refine Tri.seqK ?_
  refine Tri.run (G := gm_ref18_Read) tyOk mixed ?_
  conv => whnf
  replace h := bind_some h
  obtain ⟨y1, q2, h⟩ := h
  refine PureP.mono (ref03_Read_walk d [101] y1 q2) ?_
  rintro _ rfl
  conv => whnf
  refine Tri.seqK ?_
  refine Tri.seqK ?_
  refine Tri.run (G := gm_ref18_Read) tyOk mixed ?_
  conv => whnf
  refine Tri.cond rfl (fun c4 => ?_) (fun c4 => ?_)
  · replace h := if_t c4 h
    refine Tri.seqK ?_
    refine Tri.run (G := gm_ref18_Read) tyOk mixed ?_
    conv => whnf
    refine Tri.run (G := gm_ref18_Read) tyOk mixed ?_
    conv => whnf
    refine fin_here ?_
    conv => whnf
    obtain rfl := Option.some.inj h
    rfl
  · replace h := if_f c4 h
    refine Tri.run (G := gm_ref18_Read) tyOk mixed ?_
    conv => whnf
    refine Tri.seqK ?_
    refine Tri.run (G := gm_ref18_Read) tyOk mixed ?_
    conv => whnf
    replace h := bind_some h
    obtain ⟨y5, q6, h⟩ := h
    refine PureP.mono (ref18_Take_walk y1.1 y5 q6) ?_
    rintro _ rfl
    conv => whnf
    refine Tri.run (G := gm_ref18_Read) tyOk mixed ?_
    conv => whnf
    refine fin_here ?_
    conv => whnf
    obtain rfl := Option.some.inj h
    rfl
noncomputable def law18_EpochBytes (n : Int) (s : Str) (d : Disk) : Option (Bool) :=
  law18_shown.bind fun y1 =>
  (epoch_Bytes n).bind fun y3 =>
  (ref18_Bytes n).bind fun y5 =>
  (epoch_Take s).bind fun y7 =>
  (ref18_Take s).bind fun y9 =>
  (epoch_Read d).bind fun y11 =>
  (ref18_Read d).bind fun y13 =>
  if y1 then
    if (decide (y3.1 = y5.1)) then
      if (decide (y3.2 = y5.2)) then
        if (decide (y7.1 = y9.1)) then
          if (decide (y7.2 = y9.2)) then
            if (decide (y11.1 = y13.1)) then
              some (decide (y11.2 = y13.2))
            else
              some false
          else
            some false
        else
          some false
      else
        some false
    else
      some false
  else
    some false
def gm_law18_EpochBytes : Gm := ⟨tys, [], [], []⟩
theorem law18_EpochBytes_walk (n : Int) (s : Str) (d : Disk) (r : Bool) (h : law18_EpochBytes n s d = some r) : PureP Try.prog 3 [.v (.int .i64 n), .v (.string (bs s)), .agg [.sl (List.map encFile d.Files), .v (.int .i64 d.Room), .v (.int .i64 d.Fuse), .v (.bool d.Off)]] (fun a => a = .v (.bool r)) := by
  unfold law18_EpochBytes at h
  refine pureW (G := gm_law18_EpochBytes) tyOk Try.func3 rfl (by kernel_rfl) (by simp [Try.f3]) ?_
  refine Tri.seqK ?_
  refine Tri.run (G := gm_law18_EpochBytes) tyOk mixed ?_
  conv => whnf
  refine Tri.seqK ?_
  refine Tri.run (G := gm_law18_EpochBytes) tyOk mixed ?_
  conv => whnf
  replace h := bind_some h
  obtain ⟨y1, q2, h⟩ := h
  refine PureP.mono (law18_shown_walk y1 q2) ?_
  rintro _ rfl
  conv => whnf
  refine Tri.seqK ?_
  refine Tri.run (G := gm_law18_EpochBytes) tyOk mixed ?_
  conv => whnf
  replace h := bind_some h
  obtain ⟨y3, q4, h⟩ := h
  refine PureP.mono (epoch_Bytes_walk n y3 q4) ?_
  rintro _ rfl
  conv => whnf
  refine Tri.seqK ?_
  refine Tri.run (G := gm_law18_EpochBytes) tyOk mixed ?_
  conv => whnf
  replace h := bind_some h
  obtain ⟨y5, q6, h⟩ := h
  refine PureP.mono (ref18_Bytes_walk n y5 q6) ?_
  rintro _ rfl
  conv => whnf
  refine Tri.seqK ?_
  refine Tri.run (G := gm_law18_EpochBytes) tyOk mixed ?_
  conv => whnf
  replace h := bind_some h
  obtain ⟨y7, q8, h⟩ := h
  refine PureP.mono (epoch_Take_walk s y7 q8) ?_
  rintro _ rfl
  conv => whnf
  refine Tri.seqK ?_
  refine Tri.run (G := gm_law18_EpochBytes) tyOk mixed ?_
  conv => whnf
  replace h := bind_some h
  obtain ⟨y9, q10, h⟩ := h
  refine PureP.mono (ref18_Take_walk s y9 q10) ?_
  rintro _ rfl
  conv => whnf
  refine Tri.seqK ?_
  refine Tri.run (G := gm_law18_EpochBytes) tyOk mixed ?_
  conv => whnf
  replace h := bind_some h
  obtain ⟨y11, q12, h⟩ := h
  refine PureP.mono (epoch_Read_walk d y11 q12) ?_
  rintro _ rfl
  conv => whnf
  refine Tri.seqK ?_
  refine Tri.run (G := gm_law18_EpochBytes) tyOk mixed ?_
  conv => whnf
  replace h := bind_some h
  obtain ⟨y13, q14, h⟩ := h
  refine PureP.mono (ref18_Read_walk d y13 q14) ?_
  rintro _ rfl
  conv => whnf
  refine Tri.seqK ?_
  refine Tri.run (G := gm_law18_EpochBytes) tyOk mixed ?_
  conv => whnf
  refine cond_mk (fun c15 => ?_) (fun c15 => ?_)
  · replace h := if_t c15 h
    conv => whnf
    refine ⟨⟨(decide (y3.1 = y5.1)), bs_eq _ _, ?_⟩⟩
    conv => whnf
    refine cond_mk (fun c16 => ?_) (fun c16 => ?_)
    · replace h := if_t c16 h
      conv => whnf
      refine cond_mk (fun c17 => ?_) (fun c17 => ?_)
      · replace h := if_t c17 h
        conv => whnf
        refine cond_mk (fun c18 => ?_) (fun c18 => ?_)
        · replace h := if_t c18 h
          conv => whnf
          refine cond_mk (fun c19 => ?_) (fun c19 => ?_)
          · replace h := if_t c19 h
            conv => whnf
            refine cond_mk (fun c20 => ?_) (fun c20 => ?_)
            · replace h := if_t c20 h
              conv => whnf
              refine Tri.run (G := gm_law18_EpochBytes) tyOk mixed ?_
              conv => whnf
              refine fin_here ?_
              conv => whnf
              obtain rfl := Option.some.inj h
              rfl
            · replace h := if_f c20 h
              conv => whnf
              refine Tri.run (G := gm_law18_EpochBytes) tyOk mixed ?_
              conv => whnf
              refine fin_here ?_
              conv => whnf
              obtain rfl := Option.some.inj h
              rfl
          · replace h := if_f c19 h
            conv => whnf
            refine Tri.run (G := gm_law18_EpochBytes) tyOk mixed ?_
            conv => whnf
            refine fin_here ?_
            conv => whnf
            obtain rfl := Option.some.inj h
            rfl
        · replace h := if_f c18 h
          conv => whnf
          refine Tri.run (G := gm_law18_EpochBytes) tyOk mixed ?_
          conv => whnf
          refine fin_here ?_
          conv => whnf
          obtain rfl := Option.some.inj h
          rfl
      · replace h := if_f c17 h
        conv => whnf
        refine Tri.run (G := gm_law18_EpochBytes) tyOk mixed ?_
        conv => whnf
        refine fin_here ?_
        conv => whnf
        obtain rfl := Option.some.inj h
        rfl
    · replace h := if_f c16 h
      conv => whnf
      refine Tri.run (G := gm_law18_EpochBytes) tyOk mixed ?_
      conv => whnf
      refine fin_here ?_
      conv => whnf
      obtain rfl := Option.some.inj h
      rfl
  · replace h := if_f c15 h
    conv => whnf
    refine Tri.run (G := gm_law18_EpochBytes) tyOk mixed ?_
    conv => whnf
    refine fin_here ?_
    conv => whnf
    obtain rfl := Option.some.inj h
    rfl
noncomputable def ref03_power (d : Disk) : Option (Disk × Bool) :=
  if (decide (d.Fuse = 0)) then
    some (({ Files := d.Files, Room := d.Room, Fuse := d.Fuse, Off := true } : Disk), false)
  else
    some (({ Files := d.Files, Room := d.Room, Fuse := (if (decide (d.Fuse > 0)) then (IntKind.i64.wrap (d.Fuse - 1)) else d.Fuse), Off := d.Off } : Disk), true)
def gm_ref03_power : Gm := ⟨tys, [], [], []⟩
theorem ref03_power_walk (d : Disk) (r : Disk × Bool) (h : ref03_power d = some r) : PureP Try.prog 65 [.agg [.sl (List.map encFile d.Files), .v (.int .i64 d.Room), .v (.int .i64 d.Fuse), .v (.bool d.Off)]] (fun a => a = .tup [.agg [.sl (List.map encFile r.1.Files), .v (.int .i64 r.1.Room), .v (.int .i64 r.1.Fuse), .v (.bool r.1.Off)], .v (.bool r.2)]) := by
  unfold ref03_power at h
  refine pureW (G := gm_ref03_power) tyOk Try.func65 rfl (by kernel_rfl) (by simp [Try.f65]) ?_
  refine Tri.seqK ?_
  refine Tri.run (G := gm_ref03_power) tyOk mixed ?_
  conv => whnf
  refine Tri.seqK ?_
  refine Tri.seqK ?_
  refine Tri.run (G := gm_ref03_power) tyOk mixed ?_
  conv => whnf
  refine Tri.cond rfl (fun c2 => ?_) (fun c2 => ?_)
  · replace h := if_t c2 h
    refine Tri.seqK ?_
    refine Tri.run (G := gm_ref03_power) tyOk mixed ?_
    conv => whnf
    refine Tri.seqK ?_
    refine Tri.run (G := gm_ref03_power) tyOk mixed ?_
    conv => whnf
    refine Tri.run (G := gm_ref03_power) tyOk mixed ?_
    conv => whnf
    refine fin_here ?_
    conv => whnf
    obtain rfl := Option.some.inj h
    rfl
  · replace h := if_f c2 h
    refine Tri.run (G := gm_ref03_power) tyOk mixed ?_
    conv => whnf
    refine Tri.seqK ?_
    refine Tri.cut (fun ex S' => ex = .normal ∧ Weak S' ⟨17, 0, ofRegs [(1, .ptr 0 0), (2, .ptr 1 0)], [.var 24 [.sl (List.map encFile d.Files), .v (.int .i64 d.Room), .v (.int .i64 (if (decide (d.Fuse > 0)) then (IntKind.i64.wrap (d.Fuse - 1)) else d.Fuse)), .v (.bool d.Off)], .var 24 [.v (.slice none 0 0), .v (.int .i64 0), .v (.int .i64 0), .v (.bool false)]]⟩) ?_ ?_
    · refine Tri.seqK ?_
      refine Tri.run (G := gm_ref03_power) tyOk mixed ?_
      conv => whnf
      refine Tri.cond rfl (fun c6 => ?_) (fun c6 => ?_)
      · replace c6 : (decide (d.Fuse > 0)) = true := c6
        refine Tri.run (G := gm_ref03_power) tyOk mixed ?_
        conv => whnf
        exact ⟨rfl, weak_fin _ rfl rfl rfl (.cons (.var (.cons (.same rfl) (.cons (.same rfl) (.cons (.same (show (.v (.int .i64 (IntKind.i64.wrap (d.Fuse - 1))) : AV) = (.v (.int .i64 (if (decide (d.Fuse > 0)) then (IntKind.i64.wrap (d.Fuse - 1)) else d.Fuse)) : AV) from by first | (simp [c6]; done) | simp only [c6, Bool.or_true, Bool.true_or, Bool.false_or, Bool.or_false, Bool.and_true, Bool.true_and, Bool.and_false, Bool.false_and, Bool.not_true, Bool.not_false, if_true, if_false, Bool.false_eq_true])) (.cons (.same rfl) (.nil)))))) (.cons (.same rfl) (LeH.rest))) (.cons (.one (.same rfl)) (.cons (.one (.same rfl)) (.nil))) rfl rfl⟩
      · replace c6 : (decide (d.Fuse > 0)) = false := c6
        refine Tri.run (G := gm_ref03_power) tyOk mixed ?_
        conv => whnf
        exact ⟨rfl, weak_fin _ rfl rfl rfl (.cons (.var (.cons (.same rfl) (.cons (.same rfl) (.cons (.same (show (.v (.int .i64 d.Fuse) : AV) = (.v (.int .i64 (if (decide (d.Fuse > 0)) then (IntKind.i64.wrap (d.Fuse - 1)) else d.Fuse)) : AV) from by first | (simp [c6]; done) | simp only [c6, Bool.or_true, Bool.true_or, Bool.false_or, Bool.or_false, Bool.and_true, Bool.true_and, Bool.and_false, Bool.false_and, Bool.not_true, Bool.not_false, if_true, if_false, Bool.false_eq_true])) (.cons (.same rfl) (.nil)))))) (.cons (.same rfl) (LeH.rest))) (.cons (.one (.same rfl)) (.cons (.one (.same rfl)) (.nil))) rfl rfl⟩
    · rintro ex S' ⟨rfl, w7⟩
      conv => whnf
      refine Tri.weak w7 ?_
      refine Tri.seqK ?_
      refine Tri.run (G := gm_ref03_power) tyOk mixed ?_
      conv => whnf
      refine Tri.run (G := gm_ref03_power) tyOk mixed ?_
      conv => whnf
      refine fin_here ?_
      conv => whnf
      obtain rfl := Option.some.inj h
      rfl
noncomputable def ref03_less (d : Disk) (i : Int) : Option (Disk) :=
  (ix d.Files i).bind fun x3 =>
  need (0 ≤ (0 : Int) ∧ 0 ≤ i ∧ i ≤ (d.Files.length : Int)) <|
  need ((([] : List File).length + (cut d.Files 0 i).length) * 48 ≤ 140737488355328) <|
  need (0 ≤ (IntKind.i64.wrap (i + 1)) ∧ (IntKind.i64.wrap (i + 1)) ≤ (d.Files.length : Int) ∧ (d.Files.length : Int) ≤ (d.Files.length : Int)) <|
  need (((([] : List File) ++ (cut d.Files 0 i)).length + (cut d.Files (IntKind.i64.wrap (i + 1)) (d.Files.length : Int)).length) * 48 ≤ 140737488355328) <|
  some ({ Files := ((([] : List File) ++ (cut d.Files 0 i)) ++ (cut d.Files (IntKind.i64.wrap (i + 1)) (d.Files.length : Int))), Room := (IntKind.i64.wrap ((IntKind.i64.wrap (d.Room + (x3.Safe.length : Int))) + (x3.Wait.length : Int))), Fuse := d.Fuse, Off := d.Off } : Disk)
def gm_ref03_less : Gm := ⟨tys, [], [], []⟩
theorem ref03_less_walk (d : Disk) (i : Int) (r : Disk) (h : ref03_less d i = some r) : PureP Try.prog 66 [.agg [.sl (List.map encFile d.Files), .v (.int .i64 d.Room), .v (.int .i64 d.Fuse), .v (.bool d.Off)], .v (.int .i64 i)] (fun a => a = .agg [.sl (List.map encFile r.Files), .v (.int .i64 r.Room), .v (.int .i64 r.Fuse), .v (.bool r.Off)]) := by
  unfold ref03_less at h
  refine pureW (G := gm_ref03_less) tyOk Try.func66 rfl (by kernel_rfl) (by simp [Try.f66]) ?_
  refine Tri.seqK ?_
  refine Tri.run (G := gm_ref03_less) tyOk mixed ?_
  conv => whnf
  refine Tri.seqK ?_
  refine Tri.run (G := gm_ref03_less) tyOk mixed ?_
  conv => whnf
  refine Draw.one 19 (.take 0 (.take 1 (.take 2 (.take 3 (.take 4 (.take 5 (.take 6 (.take 7 (.take 8 (.take 9 (.take 10 (.take 11 (.take 12 (.take 13 (.take 14 (.take 15 (.take 16 (.take 17 (.take 18 (.fin)))))))))))))))))))) [] (by kernel_rfl) ?_
  conv => whnf
  replace h := bind_some h
  obtain ⟨x3, q4, h⟩ := h
  refine ⟨(ix_some q4).1, ?_⟩
  conv => whnf
  refine ⟨⟨_, map_get encFile (ix_some q4).2, ?_⟩⟩
  conv => whnf
  refine ⟨rfl, ?_⟩
  conv => whnf
  refine ⟨⟨(x3.Safe.length : Int), rfl, ?_⟩⟩
  conv => whnf
  refine ⟨(ix_some q4).1, ?_⟩
  conv => whnf
  refine ⟨⟨_, map_get encFile (ix_some q4).2, ?_⟩⟩
  conv => whnf
  refine ⟨rfl, ?_⟩
  conv => whnf
  refine ⟨⟨(x3.Wait.length : Int), rfl, ?_⟩⟩
  conv => whnf
  refine Tri.seqK ?_
  refine Tri.run (G := gm_ref03_less) tyOk mixed ?_
  conv => whnf
  refine ⟨⟨List.map encFile ([] : List File), rfl, ?_⟩⟩
  conv => whnf
  refine ⟨map_len (f := encFile) (n := 3) (fun _ => rfl) _, ?_⟩
  conv => whnf
  replace h := need_some h
  obtain ⟨p5, h⟩ := h
  refine ⟨by simpa only [List.length_map] using p5, ?_⟩
  conv => whnf
  refine ⟨⟨List.map encFile (cut d.Files 0 i), map_cut _ _ _ _, ?_⟩⟩
  conv => whnf
  refine ⟨rfl, ?_⟩
  conv => whnf
  refine ⟨map_len (f := encFile) (n := 3) (fun _ => rfl) _, ?_⟩
  conv => whnf
  replace h := need_some h
  obtain ⟨p6, h⟩ := h
  refine ⟨by simp only [List.length_map]; exact p6, ?_⟩
  conv => whnf
  refine ⟨⟨List.map encFile (([] : List File) ++ (cut d.Files 0 i)), map_app encFile _ _ rfl rfl, ?_⟩⟩
  conv => whnf
  refine Tri.seqK ?_
  refine Tri.run (G := gm_ref03_less) tyOk mixed ?_
  conv => whnf
  refine ⟨map_len (f := encFile) (n := 3) (fun _ => rfl) _, ?_⟩
  conv => whnf
  replace h := need_some h
  obtain ⟨p7, h⟩ := h
  refine ⟨by simpa only [List.length_map] using p7, ?_⟩
  conv => whnf
  refine ⟨⟨List.map encFile (cut d.Files (IntKind.i64.wrap (i + 1)) (d.Files.length : Int)), by rw [map_cut, len_map], ?_⟩⟩
  conv => whnf
  refine ⟨rfl, ?_⟩
  conv => whnf
  refine ⟨map_len (f := encFile) (n := 3) (fun _ => rfl) _, ?_⟩
  conv => whnf
  replace h := need_some h
  obtain ⟨p8, h⟩ := h
  refine ⟨by simp only [List.length_map]; exact p8, ?_⟩
  conv => whnf
  refine ⟨⟨List.map encFile ((([] : List File) ++ (cut d.Files 0 i)) ++ (cut d.Files (IntKind.i64.wrap (i + 1)) (d.Files.length : Int))), map_app encFile _ _ rfl rfl, ?_⟩⟩
  conv => whnf
  refine Tri.seqK ?_
  refine Tri.run (G := gm_ref03_less) tyOk mixed ?_
  conv => whnf
  refine Tri.run (G := gm_ref03_less) tyOk mixed ?_
  conv => whnf
  refine fin_here ?_
  conv => whnf
  refine ⟨rfl, ?_⟩
  conv => whnf
  obtain rfl := Option.some.inj h
  rfl
noncomputable def ref03_Delete (d : Disk) (name : Str) : Option (Disk × Int) :=
  if d.Off then
    some (d, 6)
  else
    (ref03_at d name).bind fun y6 =>
    if (decide (y6 < 0)) then
      some (d, 7)
    else
      (ref03_power d).bind fun y9 =>
      if (!y9.2) then
        some (y9.1, 6)
      else
        (ref03_at y9.1 name).bind fun y17 =>
        (ref03_less y9.1 y17).bind fun y19 =>
        some (y19, 0)
def gm_ref03_Delete : Gm := ⟨tys, [], [], []⟩
theorem ref03_Delete_walk (d : Disk) (name : Str) (r : Disk × Int) (h : ref03_Delete d name = some r) : PureP Try.prog 51 [.agg [.sl (List.map encFile d.Files), .v (.int .i64 d.Room), .v (.int .i64 d.Fuse), .v (.bool d.Off)], .v (.string (bs name))] (fun a => a = .tup [.agg [.sl (List.map encFile r.1.Files), .v (.int .i64 r.1.Room), .v (.int .i64 r.1.Fuse), .v (.bool r.1.Off)], .v (.int .i64 r.2)]) := by
  unfold ref03_Delete at h
  refine pureW (G := gm_ref03_Delete) tyOk Try.func51 rfl (by kernel_rfl) (by simp [Try.f51]) ?_
  refine Tri.seqK ?_
  refine Tri.run (G := gm_ref03_Delete) tyOk mixed ?_
  conv => whnf
  refine Tri.seqK ?_
  refine Tri.seqK ?_
  refine Tri.run (G := gm_ref03_Delete) tyOk mixed ?_
  conv => whnf
  refine Tri.cond rfl (fun c2 => ?_) (fun c2 => ?_)
  · replace h := if_t c2 h
    refine Tri.seqK ?_
    refine Tri.run (G := gm_ref03_Delete) tyOk mixed ?_
    conv => whnf
    refine Tri.run (G := gm_ref03_Delete) tyOk mixed ?_
    conv => whnf
    refine fin_here ?_
    conv => whnf
    obtain rfl := Option.some.inj h
    rfl
  · replace h := if_f c2 h
    refine Tri.run (G := gm_ref03_Delete) tyOk mixed ?_
    conv => whnf
    refine Tri.seqK ?_
    refine Tri.seqK ?_
    refine Tri.run (G := gm_ref03_Delete) tyOk mixed ?_
    conv => whnf
    replace h := bind_some h
    obtain ⟨y6, q7, h⟩ := h
    refine PureP.mono (ref03_at_walk d name y6 q7) ?_
    rintro _ rfl
    conv => whnf
    refine Tri.cond rfl (fun c8 => ?_) (fun c8 => ?_)
    · replace h := if_t c8 h
      refine Tri.seqK ?_
      refine Tri.run (G := gm_ref03_Delete) tyOk mixed ?_
      conv => whnf
      refine Tri.run (G := gm_ref03_Delete) tyOk mixed ?_
      conv => whnf
      refine fin_here ?_
      conv => whnf
      obtain rfl := Option.some.inj h
      rfl
    · replace h := if_f c8 h
      refine Tri.run (G := gm_ref03_Delete) tyOk mixed ?_
      conv => whnf
      refine Tri.seqK ?_
      refine Tri.run (G := gm_ref03_Delete) tyOk mixed ?_
      conv => whnf
      replace h := bind_some h
      obtain ⟨y9, q10, h⟩ := h
      refine PureP.mono (ref03_power_walk d y9 q10) ?_
      rintro _ rfl
      conv => whnf
      refine Tri.seqK ?_
      refine Tri.seqK ?_
      refine Tri.run (G := gm_ref03_Delete) tyOk mixed ?_
      conv => whnf
      refine Tri.cond rfl (fun c12 => ?_) (fun c12 => ?_)
      · replace h := if_t c12 h
        refine Tri.seqK ?_
        refine Tri.run (G := gm_ref03_Delete) tyOk mixed ?_
        conv => whnf
        refine Tri.run (G := gm_ref03_Delete) tyOk mixed ?_
        conv => whnf
        refine fin_here ?_
        conv => whnf
        obtain rfl := Option.some.inj h
        rfl
      · replace h := if_f c12 h
        refine Tri.run (G := gm_ref03_Delete) tyOk mixed ?_
        conv => whnf
        refine Tri.seqK ?_
        refine Tri.run (G := gm_ref03_Delete) tyOk mixed ?_
        conv => whnf
        refine Draw.one 5 (.take 0 (.take 1 (.take 2 (.alt 3 (.alt 4 (.fin) (.nil)) (.nil))))) [] (by kernel_rfl) ?_
        conv => whnf
        refine ⟨?_, ?_⟩
        · conv => whnf
          replace h := bind_some h
          obtain ⟨y17, q18, h⟩ := h
          refine PureP.mono (ref03_at_walk y9.1 name y17 q18) ?_
          rintro _ rfl
          conv => whnf
          refine ⟨?_, ?_⟩
          · conv => whnf
            replace h := bind_some h
            obtain ⟨y19, q20, h⟩ := h
            refine PureP.mono (ref03_less_walk y9.1 y17 y19 q20) ?_
            rintro _ rfl
            conv => whnf
            refine Tri.run (G := gm_ref03_Delete) tyOk mixed ?_
            conv => whnf
            refine fin_here ?_
            conv => whnf
            obtain rfl := Option.some.inj h
            rfl
          · conv => whnf
            trivial
        · conv => whnf
          trivial
noncomputable def ref03_with (d : Disk) (i : Int) (f : File) : Option (Disk) :=
  need ((([] : List File).length + d.Files.length) * 48 ≤ 140737488355328) <|
  (ix (([] : List File) ++ d.Files) i).bind fun x2 =>
  some ({ Files := (List.set (([] : List File) ++ d.Files) (i).toNat f), Room := d.Room, Fuse := d.Fuse, Off := d.Off } : Disk)
def gm_ref03_with : Gm := ⟨tys, [], [], []⟩
theorem ref03_with_walk (d : Disk) (i : Int) (f : File) (r : Disk) (h : ref03_with d i f = some r) : PureP Try.prog 67 [.agg [.sl (List.map encFile d.Files), .v (.int .i64 d.Room), .v (.int .i64 d.Fuse), .v (.bool d.Off)], .v (.int .i64 i), .agg [.v (.string (bs f.Name)), .v (.string (bs f.Safe)), .v (.string (bs f.Wait))]] (fun a => a = .agg [.sl (List.map encFile r.Files), .v (.int .i64 r.Room), .v (.int .i64 r.Fuse), .v (.bool r.Off)]) := by
  unfold ref03_with at h
  refine pureW (G := gm_ref03_with) tyOk Try.func67 rfl (by kernel_rfl) (by simp [Try.f67]) ?_
  refine Tri.seqK ?_
  refine Tri.run (G := gm_ref03_with) tyOk mixed ?_
  conv => whnf
  refine Tri.seqK ?_
  refine Tri.run (G := gm_ref03_with) tyOk mixed ?_
  conv => whnf
  refine ⟨⟨List.map encFile ([] : List File), rfl, ?_⟩⟩
  conv => whnf
  refine ⟨rfl, ?_⟩
  conv => whnf
  refine ⟨map_len (f := encFile) (n := 3) (fun _ => rfl) _, ?_⟩
  conv => whnf
  replace h := need_some h
  obtain ⟨p1, h⟩ := h
  refine ⟨by simp only [List.length_map]; exact p1, ?_⟩
  conv => whnf
  refine ⟨⟨List.map encFile (([] : List File) ++ d.Files), map_app encFile _ _ rfl rfl, ?_⟩⟩
  conv => whnf
  refine Tri.seqK ?_
  refine Tri.run (G := gm_ref03_with) tyOk mixed ?_
  conv => whnf
  replace h := bind_some h
  obtain ⟨x2, q3, h⟩ := h
  refine ⟨⟨rfl, (ix_lt q3).1, by have := ix_lt q3; simp only [List.length_map, List.length_set, List.length_cons, List.length_nil] at *; omega⟩, ?_⟩
  conv => whnf
  refine ⟨rfl, ?_⟩
  conv => whnf
  refine ⟨⟨_, map_get encFile (ix_some q3).2, ?_⟩⟩
  conv => whnf
  refine ⟨Nat.le_of_ble_eq_true rfl, ?_⟩
  conv => whnf
  refine ⟨⟨List.map encFile (List.set (([] : List File) ++ d.Files) (i).toNat f), map_set encFile _ _ _ rfl, ?_⟩⟩
  conv => whnf
  refine Tri.seqK ?_
  refine Tri.run (G := gm_ref03_with) tyOk mixed ?_
  conv => whnf
  refine Tri.seqK ?_
  refine Tri.run (G := gm_ref03_with) tyOk mixed ?_
  conv => whnf
  refine Tri.run (G := gm_ref03_with) tyOk mixed ?_
  conv => whnf
  refine fin_here ?_
  conv => whnf
  refine ⟨by simp, ?_⟩
  conv => whnf
  obtain rfl := Option.some.inj h
  rfl
noncomputable def ref03_Append (d : Disk) (name : Str) (s : Str) : Option (Disk × Int) :=
  if d.Off then
    some (d, 6)
  else
    if ((decide ((name.length : Int) < 1)) || (decide ((name.length : Int) > 16))) then
      some (d, 1)
    else
      (ref03_at d name).bind fun y15 =>
      if (if (decide (y15 < 0)) then ((decide ((d.Files.length : Int) ≥ 64)) || (decide ((s.length : Int) > d.Room))) else (decide ((s.length : Int) > d.Room))) then
        some (d, 5)
      else
        (
          if (decide (y15 ≥ 0)) then
            (ix d.Files y15).bind fun x46 =>
            some (x46.Name, x46.Safe, x46.Wait)
          else
            some (name, [], [])).bind fun (y43 : Str × Str × Str) =>
        if (decide ((IntKind.i64.wrap ((IntKind.i64.wrap ((y43.2.1.length : Int) + (y43.2.2.length : Int))) + (s.length : Int))) > 65536)) then
          some (d, 4)
        else
          (
            if (decide (y15 < 0)) then
              need ((([] : List File).length + d.Files.length) * 48 ≤ 140737488355328) <|
              need (((([] : List File) ++ d.Files).length + 1) * 48 ≤ 140737488355328) <|
              some ((d.Files.length : Int), ((([] : List File) ++ d.Files) ++ [({ Name := y43.1, Safe := y43.2.1, Wait := y43.2.2 } : File)]))
            else
              some (y15, d.Files)).bind fun (y81 : Int × (List File)) =>
          need (0 ≤ (0 : Int) ∧ 0 ≤ (if ((decide (d.Fuse ≥ 0)) && (decide (d.Fuse < (s.length : Int)))) then d.Fuse else (s.length : Int)) ∧ (if ((decide (d.Fuse ≥ 0)) && (decide (d.Fuse < (s.length : Int)))) then d.Fuse else (s.length : Int)) ≤ (s.length : Int)) <|
          need (y43.2.2.length + (cut s 0 (if ((decide (d.Fuse ≥ 0)) && (decide (d.Fuse < (s.length : Int)))) then d.Fuse else (s.length : Int))).length ≤ 9223372036854775807) <|
          (ref03_with ({ Files := y81.2, Room := d.Room, Fuse := d.Fuse, Off := d.Off } : Disk) y81.1 ({ Name := y43.1, Safe := y43.2.1, Wait := (y43.2.2 ++ (cut s 0 (if ((decide (d.Fuse ≥ 0)) && (decide (d.Fuse < (s.length : Int)))) then d.Fuse else (s.length : Int)))) } : File)).bind fun y128 =>
          if (decide ((if ((decide (d.Fuse ≥ 0)) && (decide (d.Fuse < (s.length : Int)))) then d.Fuse else (s.length : Int)) < (s.length : Int))) then
            some (({ Files := y128.Files, Room := (IntKind.i64.wrap (y128.Room - (if ((decide (d.Fuse ≥ 0)) && (decide (d.Fuse < (s.length : Int)))) then d.Fuse else (s.length : Int)))), Fuse := (if (decide (y128.Fuse ≥ 0)) then (IntKind.i64.wrap (y128.Fuse - (if ((decide (d.Fuse ≥ 0)) && (decide (d.Fuse < (s.length : Int)))) then d.Fuse else (s.length : Int)))) else y128.Fuse), Off := true } : Disk), 6)
          else
            some (({ Files := y128.Files, Room := (IntKind.i64.wrap (y128.Room - (if ((decide (d.Fuse ≥ 0)) && (decide (d.Fuse < (s.length : Int)))) then d.Fuse else (s.length : Int)))), Fuse := (if (decide (y128.Fuse ≥ 0)) then (IntKind.i64.wrap (y128.Fuse - (if ((decide (d.Fuse ≥ 0)) && (decide (d.Fuse < (s.length : Int)))) then d.Fuse else (s.length : Int)))) else y128.Fuse), Off := y128.Off } : Disk), 0)
def gm_ref03_Append : Gm := ⟨tys, [], [], []⟩
theorem ref03_Append_walk (d : Disk) (name : Str) (s : Str) (r : Disk × Int) (h : ref03_Append d name s = some r) : PureP Try.prog 52 [.agg [.sl (List.map encFile d.Files), .v (.int .i64 d.Room), .v (.int .i64 d.Fuse), .v (.bool d.Off)], .v (.string (bs name)), .v (.string (bs s))] (fun a => a = .tup [.agg [.sl (List.map encFile r.1.Files), .v (.int .i64 r.1.Room), .v (.int .i64 r.1.Fuse), .v (.bool r.1.Off)], .v (.int .i64 r.2)]) := by
  unfold ref03_Append at h
  refine pureW (G := gm_ref03_Append) tyOk Try.func52 rfl (by kernel_rfl) (by simp [Try.f52]) ?_
  refine Tri.seqK ?_
  refine Tri.run (G := gm_ref03_Append) tyOk mixed ?_
  conv => whnf
  refine Tri.seqK ?_
  refine Tri.seqK ?_
  refine Tri.run (G := gm_ref03_Append) tyOk mixed ?_
  conv => whnf
  refine Tri.cond rfl (fun c2 => ?_) (fun c2 => ?_)
  · replace h := if_t c2 h
    refine Tri.seqK ?_
    refine Tri.run (G := gm_ref03_Append) tyOk mixed ?_
    conv => whnf
    refine Tri.run (G := gm_ref03_Append) tyOk mixed ?_
    conv => whnf
    refine fin_here ?_
    conv => whnf
    obtain rfl := Option.some.inj h
    rfl
  · replace h := if_f c2 h
    refine Tri.run (G := gm_ref03_Append) tyOk mixed ?_
    conv => whnf
    refine Tri.seqK ?_
    refine Tri.seqK ?_
    refine Tri.cut (fun ex S' => ex = .normal ∧ Weak S' ⟨120, 0, ofRegs [(1, .v (.string (bs name))), (2, .v (.string (bs s))), (3, .ptr 0 0), (6, .ptr 1 0), (21, .v (.bool ((decide ((name.length : Int) < 1)) || (decide ((name.length : Int) > 16)))))], [.var 24 [.sl (List.map encFile d.Files), .v (.int .i64 d.Room), .v (.int .i64 d.Fuse), .v (.bool d.Off)], .var 24 [.v (.slice none 0 0), .v (.int .i64 0), .v (.int .i64 0), .v (.bool false)]]⟩) ?_ ?_
    · refine Tri.run (G := gm_ref03_Append) tyOk mixed ?_
      conv => whnf
      refine ⟨⟨(name.length : Int), rfl, ?_⟩⟩
      conv => whnf
      refine cond_mk (fun c12 => ?_) (fun c12 => ?_)
      · replace c12 : (decide ((name.length : Int) < 1)) = true := c12
        conv => whnf
        exact ⟨rfl, weak_fin _ rfl rfl rfl (.cons (.same rfl) (.cons (.same rfl) (LeH.rest))) (.cons (.one (.same rfl)) (.cons (.one (.same rfl)) (.cons (.one (.same rfl)) (.cons (.one (.same rfl)) (.cons (.one (.same (show (.v (.bool true) : AV) = (.v (.bool ((decide ((name.length : Int) < 1)) || (decide ((name.length : Int) > 16)))) : AV) from by first | (simp [c12]; done) | simp only [c12, Bool.or_true, Bool.true_or, Bool.false_or, Bool.or_false, Bool.and_true, Bool.true_and, Bool.and_false, Bool.false_and, Bool.not_true, Bool.not_false, if_true, if_false, Bool.false_eq_true]))) (.nil)))))) rfl rfl⟩
      · replace c12 : (decide ((name.length : Int) < 1)) = false := c12
        conv => whnf
        refine ⟨⟨(name.length : Int), rfl, ?_⟩⟩
        conv => whnf
        exact ⟨rfl, weak_fin _ rfl rfl rfl (.cons (.same rfl) (.cons (.same rfl) (LeH.rest))) (.cons (.one (.same rfl)) (.cons (.one (.same rfl)) (.cons (.one (.same rfl)) (.cons (.one (.same rfl)) (.cons (.one (.same (show (.v (.bool (decide ((name.length : Int) > 16))) : AV) = (.v (.bool ((decide ((name.length : Int) < 1)) || (decide ((name.length : Int) > 16)))) : AV) from by first | (simp [c12]; done) | simp only [c12, Bool.or_true, Bool.true_or, Bool.false_or, Bool.or_false, Bool.and_true, Bool.true_and, Bool.and_false, Bool.false_and, Bool.not_true, Bool.not_false, if_true, if_false, Bool.false_eq_true]))) (.nil)))))) rfl rfl⟩
    · rintro ex S' ⟨rfl, w13⟩
      conv => whnf
      refine Tri.weak w13 ?_
      refine Tri.cond rfl (fun c14 => ?_) (fun c14 => ?_)
      · replace h := if_t c14 h
        refine Tri.seqK ?_
        refine Tri.run (G := gm_ref03_Append) tyOk mixed ?_
        conv => whnf
        refine Tri.run (G := gm_ref03_Append) tyOk mixed ?_
        conv => whnf
        refine fin_here ?_
        conv => whnf
        obtain rfl := Option.some.inj h
        rfl
      · replace h := if_f c14 h
        refine Tri.run (G := gm_ref03_Append) tyOk mixed ?_
        conv => whnf
        refine Tri.seqK ?_
        refine Tri.run (G := gm_ref03_Append) tyOk mixed ?_
        conv => whnf
        replace h := bind_some h
        obtain ⟨y15, q16, h⟩ := h
        refine PureP.mono (ref03_at_walk d name y15 q16) ?_
        rintro _ rfl
        conv => whnf
        refine Tri.seqK ?_
        refine Tri.seqK ?_
        refine Tri.cut (fun ex S' => ex = .normal ∧ Weak S' ⟨120, 0, ofRegs [(1, .v (.string (bs name))), (2, .v (.string (bs s))), (3, .ptr 0 0), (6, .ptr 1 0), (8, .v (.int .i64 y15)), (40, .v (.bool (if (decide (y15 < 0)) then ((decide ((d.Files.length : Int) ≥ 64)) || (decide ((s.length : Int) > d.Room))) else (decide ((s.length : Int) > d.Room)))))], [.var 24 [.sl (List.map encFile d.Files), .v (.int .i64 d.Room), .v (.int .i64 d.Fuse), .v (.bool d.Off)], .var 24 [.v (.slice none 0 0), .v (.int .i64 0), .v (.int .i64 0), .v (.bool false)]]⟩) ?_ ?_
        · refine Tri.run (G := gm_ref03_Append) tyOk mixed ?_
          conv => whnf
          refine cond_mk (fun c33 => ?_) (fun c33 => ?_)
          · replace c33 : (decide (y15 < 0)) = true := c33
            conv => whnf
            refine ⟨⟨(d.Files.length : Int), (len_map _ _).symm, ?_⟩⟩
            conv => whnf
            refine cond_mk (fun c34 => ?_) (fun c34 => ?_)
            · replace c34 : (decide ((d.Files.length : Int) ≥ 64)) = true := c34
              conv => whnf
              exact ⟨rfl, weak_fin _ rfl rfl rfl (.cons (.same rfl) (.cons (.same rfl) (LeH.rest))) (.cons (.one (.same rfl)) (.cons (.one (.same rfl)) (.cons (.one (.same rfl)) (.cons (.one (.same rfl)) (.cons (.one (.same rfl)) (.cons (.one (.same (show (.v (.bool true) : AV) = (.v (.bool (if (decide (y15 < 0)) then ((decide ((d.Files.length : Int) ≥ 64)) || (decide ((s.length : Int) > d.Room))) else (decide ((s.length : Int) > d.Room)))) : AV) from by first | (simp [c33, c34]; done) | simp only [c33, c34, Bool.or_true, Bool.true_or, Bool.false_or, Bool.or_false, Bool.and_true, Bool.true_and, Bool.and_false, Bool.false_and, Bool.not_true, Bool.not_false, if_true, if_false, Bool.false_eq_true]))) (.nil))))))) rfl rfl⟩
            · replace c34 : (decide ((d.Files.length : Int) ≥ 64)) = false := c34
              conv => whnf
              refine ⟨⟨(s.length : Int), rfl, ?_⟩⟩
              conv => whnf
              exact ⟨rfl, weak_fin _ rfl rfl rfl (.cons (.same rfl) (.cons (.same rfl) (LeH.rest))) (.cons (.one (.same rfl)) (.cons (.one (.same rfl)) (.cons (.one (.same rfl)) (.cons (.one (.same rfl)) (.cons (.one (.same rfl)) (.cons (.one (.same (show (.v (.bool (decide ((s.length : Int) > d.Room))) : AV) = (.v (.bool (if (decide (y15 < 0)) then ((decide ((d.Files.length : Int) ≥ 64)) || (decide ((s.length : Int) > d.Room))) else (decide ((s.length : Int) > d.Room)))) : AV) from by first | (simp [c33, c34]; done) | simp only [c33, c34, Bool.or_true, Bool.true_or, Bool.false_or, Bool.or_false, Bool.and_true, Bool.true_and, Bool.and_false, Bool.false_and, Bool.not_true, Bool.not_false, if_true, if_false, Bool.false_eq_true]))) (.nil))))))) rfl rfl⟩
          · replace c33 : (decide (y15 < 0)) = false := c33
            conv => whnf
            refine ⟨⟨(s.length : Int), rfl, ?_⟩⟩
            conv => whnf
            exact ⟨rfl, weak_fin _ rfl rfl rfl (.cons (.same rfl) (.cons (.same rfl) (LeH.rest))) (.cons (.one (.same rfl)) (.cons (.one (.same rfl)) (.cons (.one (.same rfl)) (.cons (.one (.same rfl)) (.cons (.one (.same rfl)) (.cons (.one (.same (show (.v (.bool (decide ((s.length : Int) > d.Room))) : AV) = (.v (.bool (if (decide (y15 < 0)) then ((decide ((d.Files.length : Int) ≥ 64)) || (decide ((s.length : Int) > d.Room))) else (decide ((s.length : Int) > d.Room)))) : AV) from by first | (simp [c33]; done) | simp only [c33, Bool.or_true, Bool.true_or, Bool.false_or, Bool.or_false, Bool.and_true, Bool.true_and, Bool.and_false, Bool.false_and, Bool.not_true, Bool.not_false, if_true, if_false, Bool.false_eq_true]))) (.nil))))))) rfl rfl⟩
        · rintro ex S' ⟨rfl, w35⟩
          conv => whnf
          refine Tri.weak w35 ?_
          refine Tri.cond rfl (fun c36 => ?_) (fun c36 => ?_)
          · replace h := if_t c36 h
            refine Tri.seqK ?_
            refine Tri.run (G := gm_ref03_Append) tyOk mixed ?_
            conv => whnf
            refine Tri.run (G := gm_ref03_Append) tyOk mixed ?_
            conv => whnf
            refine fin_here ?_
            conv => whnf
            obtain rfl := Option.some.inj h
            rfl
          · replace h := if_f c36 h
            refine Tri.run (G := gm_ref03_Append) tyOk mixed ?_
            conv => whnf
            refine Tri.seqK ?_
            refine Tri.run (G := gm_ref03_Append) tyOk mixed ?_
            conv => whnf
            refine Tri.seqK ?_
            replace h := bind_some h
            obtain ⟨y43, q44, h⟩ := h
            refine Tri.cut (fun ex S' => ex = .normal ∧ Weak S' ⟨120, 0, ofRegs [(2, .v (.string (bs s))), (3, .ptr 0 0), (6, .ptr 1 0), (8, .v (.int .i64 y15)), (9, .ptr 2 0)], [.var 24 [.sl (List.map encFile d.Files), .v (.int .i64 d.Room), .v (.int .i64 d.Fuse), .v (.bool d.Off)], .var 24 [.v (.slice none 0 0), .v (.int .i64 0), .v (.int .i64 0), .v (.bool false)], .var 55 [.v (.string (bs y43.1)), .v (.string (bs y43.2.1)), .v (.string (bs y43.2.2))]]⟩) ?_ ?_
            · refine Tri.seqK ?_
              refine Tri.run (G := gm_ref03_Append) tyOk mixed ?_
              conv => whnf
              refine Tri.cond rfl (fun c45 => ?_) (fun c45 => ?_)
              · replace q44 := if_t c45 q44
                refine Tri.run (G := gm_ref03_Append) tyOk mixed ?_
                conv => whnf
                replace q44 := bind_some q44
                obtain ⟨x46, q47, q44⟩ := q44
                refine ⟨(ix_some q47).1, ?_⟩
                conv => whnf
                refine ⟨⟨_, map_get encFile (ix_some q47).2, ?_⟩⟩
                conv => whnf
                refine ⟨rfl, ?_⟩
                conv => whnf
                obtain rfl := Option.some.inj q44
                exact ⟨rfl, weak_fin _ rfl rfl rfl (.cons (.same rfl) (.cons (.same rfl) (.cons (.same rfl) (LeH.rest)))) (.cons (.one (.same rfl)) (.cons (.one (.same rfl)) (.cons (.one (.same rfl)) (.cons (.one (.same rfl)) (.cons (.one (.same rfl)) (.nil)))))) rfl rfl⟩
              · replace q44 := if_f c45 q44
                refine Tri.run (G := gm_ref03_Append) tyOk mixed ?_
                conv => whnf
                obtain rfl := Option.some.inj q44
                exact ⟨rfl, weak_fin _ rfl rfl rfl (.cons (.same rfl) (.cons (.same rfl) (.cons (.same rfl) (LeH.rest)))) (.cons (.one (.same rfl)) (.cons (.one (.same rfl)) (.cons (.one (.same rfl)) (.cons (.one (.same rfl)) (.cons (.one (.same rfl)) (.nil)))))) rfl rfl⟩
            · rintro ex S' ⟨rfl, w48⟩
              conv => whnf
              refine Tri.weak w48 ?_
              refine Tri.seqK ?_
              refine Tri.seqK ?_
              refine Tri.run (G := gm_ref03_Append) tyOk mixed ?_
              conv => whnf
              refine ⟨⟨(y43.2.1.length : Int), rfl, ?_⟩⟩
              conv => whnf
              refine ⟨⟨(y43.2.2.length : Int), rfl, ?_⟩⟩
              conv => whnf
              refine ⟨⟨(s.length : Int), rfl, ?_⟩⟩
              conv => whnf
              refine Tri.cond rfl (fun c50 => ?_) (fun c50 => ?_)
              · replace h := if_t c50 h
                refine Tri.seqK ?_
                refine Tri.run (G := gm_ref03_Append) tyOk mixed ?_
                conv => whnf
                refine Tri.run (G := gm_ref03_Append) tyOk mixed ?_
                conv => whnf
                refine fin_here ?_
                conv => whnf
                obtain rfl := Option.some.inj h
                rfl
              · replace h := if_f c50 h
                refine Tri.run (G := gm_ref03_Append) tyOk mixed ?_
                conv => whnf
                refine Tri.seqK ?_
                replace h := bind_some h
                obtain ⟨y81, q82, h⟩ := h
                refine Tri.cut (fun ex S' => ex = .normal ∧ Weak S' ⟨120, 0, ofRegs [(2, .v (.string (bs s))), (3, .ptr 0 0), (6, .ptr 1 0), (8, .v (.int .i64 y81.1)), (9, .ptr 2 0)], [.var 24 [.sl (List.map encFile y81.2), .v (.int .i64 d.Room), .v (.int .i64 d.Fuse), .v (.bool d.Off)], .var 24 [.v (.slice none 0 0), .v (.int .i64 0), .v (.int .i64 0), .v (.bool false)], .var 55 [.v (.string (bs y43.1)), .v (.string (bs y43.2.1)), .v (.string (bs y43.2.2))]]⟩) ?_ ?_
                · refine Tri.seqK ?_
                  refine Tri.run (G := gm_ref03_Append) tyOk mixed ?_
                  conv => whnf
                  refine Tri.cond rfl (fun c83 => ?_) (fun c83 => ?_)
                  · replace q82 := if_t c83 q82
                    refine Tri.seqK ?_
                    refine Tri.run (G := gm_ref03_Append) tyOk mixed ?_
                    conv => whnf
                    refine ⟨⟨(d.Files.length : Int), (len_map _ _).symm, ?_⟩⟩
                    conv => whnf
                    refine Tri.run (G := gm_ref03_Append) tyOk mixed ?_
                    conv => whnf
                    replace q82 := need_some q82
                    obtain ⟨p96, q82⟩ := q82
                    replace q82 := need_some q82
                    obtain ⟨p97, q82⟩ := q82
                    refine Draw.many 8 (.take 1 (.take 2 (.take 4 (.alt 0 (.alt 3 (.alt 5 (.alt 6 (.take 7 (.fin)) (.nil)) (.nil)) (.alt 5 (.alt 3 (.alt 6 (.take 7 (.fin)) (.nil)) (.nil)) (.nil))) (.alt 5 (.alt 0 (.alt 3 (.alt 6 (.take 7 (.fin)) (.nil)) (.nil)) (.nil)) (.nil)))))) [] (⟨120, 0, ofRegs [(2, .v (.string (bs s))), (3, .ptr 0 0), (6, .ptr 1 0), (8, .v (.int .i64 (d.Files.length : Int))), (9, .ptr 2 0), (74, .sl (List.map encFile ((([] : List File) ++ d.Files) ++ [({ Name := y43.1, Safe := y43.2.1, Wait := y43.2.2 } : File)]))), (75, .ptr 0 0)], [.var 24 [.sl (List.map encFile d.Files), .v (.int .i64 d.Room), .v (.int .i64 d.Fuse), .v (.bool d.Off)], .var 24 [.v (.slice none 0 0), .v (.int .i64 0), .v (.int .i64 0), .v (.bool false)], .var 55 [.v (.string (bs y43.1)), .v (.string (bs y43.2.1)), .v (.string (bs y43.2.2))]]⟩) (by kernel_rfl) ?_ ?_
                    · conv => whnf
                      refine ⟨?_, ?_⟩
                      · conv => whnf
                        refine ⟨⟨List.map encFile ([] : List File), rfl, ?_⟩⟩
                        conv => whnf
                        refine ⟨?_, ?_⟩
                        · conv => whnf
                          refine ⟨rfl, ?_⟩
                          conv => whnf
                          refine ⟨map_len (f := encFile) (n := 3) (fun _ => rfl) _, ?_⟩
                          conv => whnf
                          refine ⟨by simp only [List.length_map]; exact p96, ?_⟩
                          conv => whnf
                          refine ⟨⟨List.map encFile (([] : List File) ++ d.Files), map_app encFile _ _ rfl rfl, ?_⟩⟩
                          conv => whnf
                          refine ⟨?_, ?_⟩
                          · conv => whnf
                            refine ⟨⟨List.map encFile [({ Name := y43.1, Safe := y43.2.1, Wait := y43.2.2 } : File)], rfl, ?_⟩⟩
                            conv => whnf
                            refine ⟨?_, ?_⟩
                            · conv => whnf
                              refine ⟨rfl, ?_⟩
                              conv => whnf
                              refine ⟨rfl, ?_⟩
                              conv => whnf
                              refine ⟨by simp only [List.length_map]; exact p97, ?_⟩
                              conv => whnf
                              refine ⟨⟨List.map encFile ((([] : List File) ++ d.Files) ++ [({ Name := y43.1, Safe := y43.2.1, Wait := y43.2.2 } : File)]), map_app encFile _ _ rfl rfl, ?_⟩⟩
                              conv => whnf
                              exact Weak.trans (weak_freeze 3 rfl) (weak_fin _ rfl rfl rfl (.cons (.same rfl) (.cons (.same rfl) (.cons (.same rfl) (LeH.rest)))) (.cons (.one (.same rfl)) (.cons (.one (.same rfl)) (.cons (.one (.same rfl)) (.cons (.one (.same rfl)) (.cons (.one (.same rfl)) (.cons (.one (.frz rfl rfl)) (.cons (.one (.same rfl)) (.nil)))))))) rfl rfl)
                            · conv => whnf
                              trivial
                          · conv => whnf
                            trivial
                        · conv => whnf
                          refine ⟨?_, ?_⟩
                          · conv => whnf
                            refine ⟨⟨List.map encFile [({ Name := y43.1, Safe := y43.2.1, Wait := y43.2.2 } : File)], rfl, ?_⟩⟩
                            conv => whnf
                            refine ⟨?_, ?_⟩
                            · conv => whnf
                              refine ⟨rfl, ?_⟩
                              conv => whnf
                              refine ⟨map_len (f := encFile) (n := 3) (fun _ => rfl) _, ?_⟩
                              conv => whnf
                              refine ⟨by simp only [List.length_map]; exact p96, ?_⟩
                              conv => whnf
                              refine ⟨⟨List.map encFile (([] : List File) ++ d.Files), map_app encFile _ _ rfl rfl, ?_⟩⟩
                              conv => whnf
                              refine ⟨?_, ?_⟩
                              · conv => whnf
                                refine ⟨rfl, ?_⟩
                                conv => whnf
                                refine ⟨rfl, ?_⟩
                                conv => whnf
                                refine ⟨by simp only [List.length_map]; exact p97, ?_⟩
                                conv => whnf
                                refine ⟨⟨List.map encFile ((([] : List File) ++ d.Files) ++ [({ Name := y43.1, Safe := y43.2.1, Wait := y43.2.2 } : File)]), map_app encFile _ _ rfl rfl, ?_⟩⟩
                                conv => whnf
                                exact Weak.trans (weak_freeze 3 rfl) (weak_fin _ rfl rfl rfl (.cons (.same rfl) (.cons (.same rfl) (.cons (.same rfl) (LeH.rest)))) (.cons (.one (.same rfl)) (.cons (.one (.same rfl)) (.cons (.one (.same rfl)) (.cons (.one (.same rfl)) (.cons (.one (.same rfl)) (.cons (.one (.frz rfl rfl)) (.cons (.one (.same rfl)) (.nil)))))))) rfl rfl)
                              · conv => whnf
                                trivial
                            · conv => whnf
                              trivial
                          · conv => whnf
                            trivial
                      · conv => whnf
                        refine ⟨?_, ?_⟩
                        · conv => whnf
                          refine ⟨⟨List.map encFile [({ Name := y43.1, Safe := y43.2.1, Wait := y43.2.2 } : File)], rfl, ?_⟩⟩
                          conv => whnf
                          refine ⟨?_, ?_⟩
                          · conv => whnf
                            refine ⟨⟨List.map encFile ([] : List File), rfl, ?_⟩⟩
                            conv => whnf
                            refine ⟨?_, ?_⟩
                            · conv => whnf
                              refine ⟨rfl, ?_⟩
                              conv => whnf
                              refine ⟨map_len (f := encFile) (n := 3) (fun _ => rfl) _, ?_⟩
                              conv => whnf
                              refine ⟨by simp only [List.length_map]; exact p96, ?_⟩
                              conv => whnf
                              refine ⟨⟨List.map encFile (([] : List File) ++ d.Files), map_app encFile _ _ rfl rfl, ?_⟩⟩
                              conv => whnf
                              refine ⟨?_, ?_⟩
                              · conv => whnf
                                refine ⟨rfl, ?_⟩
                                conv => whnf
                                refine ⟨rfl, ?_⟩
                                conv => whnf
                                refine ⟨by simp only [List.length_map]; exact p97, ?_⟩
                                conv => whnf
                                refine ⟨⟨List.map encFile ((([] : List File) ++ d.Files) ++ [({ Name := y43.1, Safe := y43.2.1, Wait := y43.2.2 } : File)]), map_app encFile _ _ rfl rfl, ?_⟩⟩
                                conv => whnf
                                exact Weak.trans (weak_freeze 4 rfl) (weak_fin _ rfl rfl rfl (.cons (.same rfl) (.cons (.same rfl) (.cons (.same rfl) (LeH.rest)))) (.cons (.one (.same rfl)) (.cons (.one (.same rfl)) (.cons (.one (.same rfl)) (.cons (.one (.same rfl)) (.cons (.one (.same rfl)) (.cons (.one (.frz rfl rfl)) (.cons (.one (.same rfl)) (.nil)))))))) rfl rfl)
                              · conv => whnf
                                trivial
                            · conv => whnf
                              trivial
                          · conv => whnf
                            trivial
                        · conv => whnf
                          trivial
                    · conv => whnf
                      obtain rfl := Option.some.inj q82
                      exact ⟨rfl, weak_fin _ rfl rfl rfl (.cons (.same rfl) (.cons (.same rfl) (.cons (.same rfl) (LeH.rest)))) (.cons (.one (.same rfl)) (.cons (.one (.same rfl)) (.cons (.one (.same rfl)) (.cons (.one (.same rfl)) (.cons (.one (.same rfl)) (.nil)))))) rfl rfl⟩
                  · replace q82 := if_f c83 q82
                    refine Tri.run (G := gm_ref03_Append) tyOk mixed ?_
                    conv => whnf
                    obtain rfl := Option.some.inj q82
                    exact ⟨rfl, weak_fin _ rfl rfl rfl (.cons (.same rfl) (.cons (.same rfl) (.cons (.same rfl) (LeH.rest)))) (.cons (.one (.same rfl)) (.cons (.one (.same rfl)) (.cons (.one (.same rfl)) (.cons (.one (.same rfl)) (.cons (.one (.same rfl)) (.nil)))))) rfl rfl⟩
                · rintro ex S' ⟨rfl, w98⟩
                  conv => whnf
                  refine Tri.weak w98 ?_
                  refine Tri.seqK ?_
                  refine Tri.run (G := gm_ref03_Append) tyOk mixed ?_
                  conv => whnf
                  refine ⟨⟨(s.length : Int), rfl, ?_⟩⟩
                  conv => whnf
                  refine Tri.seqK ?_
                  refine Tri.cut (fun ex S' => ex = .normal ∧ Weak S' ⟨120, 0, ofRegs [(2, .v (.string (bs s))), (3, .ptr 0 0), (6, .ptr 1 0), (8, .v (.int .i64 y81.1)), (9, .ptr 2 0), (10, .v (.int .i64 (if ((decide (d.Fuse ≥ 0)) && (decide (d.Fuse < (s.length : Int)))) then d.Fuse else (s.length : Int))))], [.var 24 [.sl (List.map encFile y81.2), .v (.int .i64 d.Room), .v (.int .i64 d.Fuse), .v (.bool d.Off)], .var 24 [.v (.slice none 0 0), .v (.int .i64 0), .v (.int .i64 0), .v (.bool false)], .var 55 [.v (.string (bs y43.1)), .v (.string (bs y43.2.1)), .v (.string (bs y43.2.2))]]⟩) ?_ ?_
                  · refine Tri.seqK ?_
                    refine Tri.cut (fun ex S' => ex = .normal ∧ Weak S' ⟨120, 0, ofRegs [(2, .v (.string (bs s))), (3, .ptr 0 0), (6, .ptr 1 0), (8, .v (.int .i64 y81.1)), (9, .ptr 2 0), (10, .v (.int .i64 (s.length : Int))), (86, .v (.bool ((decide (d.Fuse ≥ 0)) && (decide (d.Fuse < (s.length : Int))))))], [.var 24 [.sl (List.map encFile y81.2), .v (.int .i64 d.Room), .v (.int .i64 d.Fuse), .v (.bool d.Off)], .var 24 [.v (.slice none 0 0), .v (.int .i64 0), .v (.int .i64 0), .v (.bool false)], .var 55 [.v (.string (bs y43.1)), .v (.string (bs y43.2.1)), .v (.string (bs y43.2.2))]]⟩) ?_ ?_
                    · refine Tri.run (G := gm_ref03_Append) tyOk mixed ?_
                      conv => whnf
                      refine cond_mk (fun c120 => ?_) (fun c120 => ?_)
                      · replace c120 : (decide (d.Fuse ≥ 0)) = true := c120
                        conv => whnf
                        exact ⟨rfl, weak_fin _ rfl rfl rfl (.cons (.same rfl) (.cons (.same rfl) (.cons (.same rfl) (LeH.rest)))) (.cons (.one (.same rfl)) (.cons (.one (.same rfl)) (.cons (.one (.same rfl)) (.cons (.one (.same rfl)) (.cons (.one (.same rfl)) (.cons (.one (.same rfl)) (.cons (.one (.same (show (.v (.bool (decide (d.Fuse < (s.length : Int)))) : AV) = (.v (.bool ((decide (d.Fuse ≥ 0)) && (decide (d.Fuse < (s.length : Int))))) : AV) from by first | (simp [c120]; done) | simp only [c120, Bool.or_true, Bool.true_or, Bool.false_or, Bool.or_false, Bool.and_true, Bool.true_and, Bool.and_false, Bool.false_and, Bool.not_true, Bool.not_false, if_true, if_false, Bool.false_eq_true]))) (.nil)))))))) rfl rfl⟩
                      · replace c120 : (decide (d.Fuse ≥ 0)) = false := c120
                        conv => whnf
                        exact ⟨rfl, weak_fin _ rfl rfl rfl (.cons (.same rfl) (.cons (.same rfl) (.cons (.same rfl) (LeH.rest)))) (.cons (.one (.same rfl)) (.cons (.one (.same rfl)) (.cons (.one (.same rfl)) (.cons (.one (.same rfl)) (.cons (.one (.same rfl)) (.cons (.one (.same rfl)) (.cons (.one (.same (show (.v (.bool false) : AV) = (.v (.bool ((decide (d.Fuse ≥ 0)) && (decide (d.Fuse < (s.length : Int))))) : AV) from by first | (simp [c120]; done) | simp only [c120, Bool.or_true, Bool.true_or, Bool.false_or, Bool.or_false, Bool.and_true, Bool.true_and, Bool.and_false, Bool.false_and, Bool.not_true, Bool.not_false, if_true, if_false, Bool.false_eq_true]))) (.nil)))))))) rfl rfl⟩
                    · rintro ex S' ⟨rfl, w121⟩
                      conv => whnf
                      refine Tri.weak w121 ?_
                      refine Tri.cond rfl (fun c122 => ?_) (fun c122 => ?_)
                      · replace c122 : ((decide (d.Fuse ≥ 0)) && (decide (d.Fuse < (s.length : Int)))) = true := c122
                        refine Tri.run (G := gm_ref03_Append) tyOk mixed ?_
                        conv => whnf
                        exact ⟨rfl, weak_fin _ rfl rfl rfl (.cons (.same rfl) (.cons (.same rfl) (.cons (.same rfl) (LeH.rest)))) (.cons (.one (.same rfl)) (.cons (.one (.same rfl)) (.cons (.one (.same rfl)) (.cons (.one (.same rfl)) (.cons (.one (.same rfl)) (.cons (.one (.same (show (.v (.int .i64 d.Fuse) : AV) = (.v (.int .i64 (if ((decide (d.Fuse ≥ 0)) && (decide (d.Fuse < (s.length : Int)))) then d.Fuse else (s.length : Int))) : AV) from by first | (simp [c122]; done) | simp only [c122, Bool.or_true, Bool.true_or, Bool.false_or, Bool.or_false, Bool.and_true, Bool.true_and, Bool.and_false, Bool.false_and, Bool.not_true, Bool.not_false, if_true, if_false, Bool.false_eq_true]))) (.nil))))))) rfl rfl⟩
                      · replace c122 : ((decide (d.Fuse ≥ 0)) && (decide (d.Fuse < (s.length : Int)))) = false := c122
                        refine Tri.run (G := gm_ref03_Append) tyOk mixed ?_
                        conv => whnf
                        exact ⟨rfl, weak_fin _ rfl rfl rfl (.cons (.same rfl) (.cons (.same rfl) (.cons (.same rfl) (LeH.rest)))) (.cons (.one (.same rfl)) (.cons (.one (.same rfl)) (.cons (.one (.same rfl)) (.cons (.one (.same rfl)) (.cons (.one (.same rfl)) (.cons (.one (.same (show (.v (.int .i64 (s.length : Int)) : AV) = (.v (.int .i64 (if ((decide (d.Fuse ≥ 0)) && (decide (d.Fuse < (s.length : Int)))) then d.Fuse else (s.length : Int))) : AV) from by first | (simp [c122]; done) | simp only [c122, Bool.or_true, Bool.true_or, Bool.false_or, Bool.or_false, Bool.and_true, Bool.true_and, Bool.and_false, Bool.false_and, Bool.not_true, Bool.not_false, if_true, if_false, Bool.false_eq_true]))) (.nil))))))) rfl rfl⟩
                  · rintro ex S' ⟨rfl, w123⟩
                    conv => whnf
                    refine Tri.weak w123 ?_
                    refine Tri.seqK ?_
                    refine Tri.run (G := gm_ref03_Append) tyOk mixed ?_
                    conv => whnf
                    refine Draw.one 7 (.take 0 (.take 1 (.take 2 (.take 3 (.take 4 (.take 5 (.take 6 (.fin)))))))) [] (by kernel_rfl) ?_
                    conv => whnf
                    replace h := need_some h
                    obtain ⟨p126, h⟩ := h
                    refine ⟨p126, ?_⟩
                    conv => whnf
                    refine ⟨⟨bs (cut s 0 (if ((decide (d.Fuse ≥ 0)) && (decide (d.Fuse < (s.length : Int)))) then d.Fuse else (s.length : Int))), bs_cut _ _ _, ?_⟩⟩
                    conv => whnf
                    replace h := need_some h
                    obtain ⟨p127, h⟩ := h
                    refine ⟨p127, ?_⟩
                    conv => whnf
                    refine ⟨⟨bs (y43.2.2 ++ (cut s 0 (if ((decide (d.Fuse ≥ 0)) && (decide (d.Fuse < (s.length : Int)))) then d.Fuse else (s.length : Int)))), bs_append _ _, ?_⟩⟩
                    conv => whnf
                    refine Tri.seqK ?_
                    refine Tri.run (G := gm_ref03_Append) tyOk mixed ?_
                    conv => whnf
                    replace h := bind_some h
                    obtain ⟨y128, q129, h⟩ := h
                    refine PureP.mono (ref03_with_walk ({ Files := y81.2, Room := d.Room, Fuse := d.Fuse, Off := d.Off } : Disk) y81.1 ({ Name := y43.1, Safe := y43.2.1, Wait := (y43.2.2 ++ (cut s 0 (if ((decide (d.Fuse ≥ 0)) && (decide (d.Fuse < (s.length : Int)))) then d.Fuse else (s.length : Int)))) } : File) y128 q129) ?_
                    rintro _ rfl
                    conv => whnf
                    refine Tri.seqK ?_
                    refine Tri.run (G := gm_ref03_Append) tyOk mixed ?_
                    conv => whnf
                    refine Tri.seqK ?_
                    refine Tri.cut (fun ex S' => ex = .normal ∧ Weak S' ⟨120, 0, ofRegs [(2, .v (.string (bs s))), (3, .ptr 0 0), (6, .ptr 1 0), (10, .v (.int .i64 (if ((decide (d.Fuse ≥ 0)) && (decide (d.Fuse < (s.length : Int)))) then d.Fuse else (s.length : Int))))], [.var 24 [.sl (List.map encFile y128.Files), .v (.int .i64 (IntKind.i64.wrap (y128.Room - (if ((decide (d.Fuse ≥ 0)) && (decide (d.Fuse < (s.length : Int)))) then d.Fuse else (s.length : Int))))), .v (.int .i64 (if (decide (y128.Fuse ≥ 0)) then (IntKind.i64.wrap (y128.Fuse - (if ((decide (d.Fuse ≥ 0)) && (decide (d.Fuse < (s.length : Int)))) then d.Fuse else (s.length : Int)))) else y128.Fuse)), .v (.bool y128.Off)], .var 24 [.v (.slice none 0 0), .v (.int .i64 0), .v (.int .i64 0), .v (.bool false)]]⟩) ?_ ?_
                    · refine Tri.seqK ?_
                      refine Tri.run (G := gm_ref03_Append) tyOk mixed ?_
                      conv => whnf
                      refine Tri.cond rfl (fun c133 => ?_) (fun c133 => ?_)
                      · replace c133 : (decide (y128.Fuse ≥ 0)) = true := c133
                        refine Tri.run (G := gm_ref03_Append) tyOk mixed ?_
                        conv => whnf
                        exact ⟨rfl, weak_fin _ rfl rfl rfl (.cons (.var (.cons (.same rfl) (.cons (.same rfl) (.cons (.same (show (.v (.int .i64 (IntKind.i64.wrap (y128.Fuse - (if ((decide (d.Fuse ≥ 0)) && (decide (d.Fuse < (s.length : Int)))) then d.Fuse else (s.length : Int))))) : AV) = (.v (.int .i64 (if (decide (y128.Fuse ≥ 0)) then (IntKind.i64.wrap (y128.Fuse - (if ((decide (d.Fuse ≥ 0)) && (decide (d.Fuse < (s.length : Int)))) then d.Fuse else (s.length : Int)))) else y128.Fuse)) : AV) from by first | (simp [c133]; done) | simp only [c133, Bool.or_true, Bool.true_or, Bool.false_or, Bool.or_false, Bool.and_true, Bool.true_and, Bool.and_false, Bool.false_and, Bool.not_true, Bool.not_false, if_true, if_false, Bool.false_eq_true])) (.cons (.same rfl) (.nil)))))) (.cons (.same rfl) (LeH.rest))) (.cons (.one (.same rfl)) (.cons (.one (.same rfl)) (.cons (.one (.same rfl)) (.cons (.one (.same rfl)) (.nil))))) rfl rfl⟩
                      · replace c133 : (decide (y128.Fuse ≥ 0)) = false := c133
                        refine Tri.run (G := gm_ref03_Append) tyOk mixed ?_
                        conv => whnf
                        exact ⟨rfl, weak_fin _ rfl rfl rfl (.cons (.var (.cons (.same rfl) (.cons (.same rfl) (.cons (.same (show (.v (.int .i64 y128.Fuse) : AV) = (.v (.int .i64 (if (decide (y128.Fuse ≥ 0)) then (IntKind.i64.wrap (y128.Fuse - (if ((decide (d.Fuse ≥ 0)) && (decide (d.Fuse < (s.length : Int)))) then d.Fuse else (s.length : Int)))) else y128.Fuse)) : AV) from by first | (simp [c133]; done) | simp only [c133, Bool.or_true, Bool.true_or, Bool.false_or, Bool.or_false, Bool.and_true, Bool.true_and, Bool.and_false, Bool.false_and, Bool.not_true, Bool.not_false, if_true, if_false, Bool.false_eq_true])) (.cons (.same rfl) (.nil)))))) (.cons (.same rfl) (LeH.rest))) (.cons (.one (.same rfl)) (.cons (.one (.same rfl)) (.cons (.one (.same rfl)) (.cons (.one (.same rfl)) (.nil))))) rfl rfl⟩
                    · rintro ex S' ⟨rfl, w134⟩
                      conv => whnf
                      refine Tri.weak w134 ?_
                      refine Tri.seqK ?_
                      refine Tri.seqK ?_
                      refine Tri.run (G := gm_ref03_Append) tyOk mixed ?_
                      conv => whnf
                      refine ⟨⟨(s.length : Int), rfl, ?_⟩⟩
                      conv => whnf
                      refine Tri.cond rfl (fun c136 => ?_) (fun c136 => ?_)
                      · replace h := if_t c136 h
                        refine Tri.seqK ?_
                        refine Tri.run (G := gm_ref03_Append) tyOk mixed ?_
                        conv => whnf
                        refine Tri.seqK ?_
                        refine Tri.run (G := gm_ref03_Append) tyOk mixed ?_
                        conv => whnf
                        refine Tri.run (G := gm_ref03_Append) tyOk mixed ?_
                        conv => whnf
                        refine fin_here ?_
                        conv => whnf
                        obtain rfl := Option.some.inj h
                        rfl
                      · replace h := if_f c136 h
                        refine Tri.run (G := gm_ref03_Append) tyOk mixed ?_
                        conv => whnf
                        refine Tri.seqK ?_
                        refine Tri.run (G := gm_ref03_Append) tyOk mixed ?_
                        conv => whnf
                        refine Tri.run (G := gm_ref03_Append) tyOk mixed ?_
                        conv => whnf
                        refine fin_here ?_
                        conv => whnf
                        obtain rfl := Option.some.inj h
                        rfl
noncomputable def ref03_Sync (d : Disk) (name : Str) : Option (Disk × Int) :=
  if d.Off then
    some (d, 6)
  else
    (ref03_at d name).bind fun y3 =>
    if (decide (y3 < 0)) then
      some (d, 7)
    else
      (ix d.Files y3).bind fun x7 =>
      need (x7.Safe.length + x7.Wait.length ≤ 9223372036854775807) <|
      (ref03_with d y3 ({ Name := x7.Name, Safe := (x7.Safe ++ x7.Wait), Wait := [] } : File)).bind fun y10 =>
      some (y10, 0)
def gm_ref03_Sync : Gm := ⟨tys, [], [], []⟩
theorem ref03_Sync_walk (d : Disk) (name : Str) (r : Disk × Int) (h : ref03_Sync d name = some r) : PureP Try.prog 53 [.agg [.sl (List.map encFile d.Files), .v (.int .i64 d.Room), .v (.int .i64 d.Fuse), .v (.bool d.Off)], .v (.string (bs name))] (fun a => a = .tup [.agg [.sl (List.map encFile r.1.Files), .v (.int .i64 r.1.Room), .v (.int .i64 r.1.Fuse), .v (.bool r.1.Off)], .v (.int .i64 r.2)]) := by
  unfold ref03_Sync at h
  refine pureW (G := gm_ref03_Sync) tyOk Try.func53 rfl (by kernel_rfl) (by simp [Try.f53]) ?_
  refine Tri.seqK ?_
  refine Tri.run (G := gm_ref03_Sync) tyOk mixed ?_
  conv => whnf
  refine Tri.seqK ?_
  refine Tri.seqK ?_
  refine Tri.run (G := gm_ref03_Sync) tyOk mixed ?_
  conv => whnf
  refine Tri.cond rfl (fun c2 => ?_) (fun c2 => ?_)
  · replace h := if_t c2 h
    refine Tri.seqK ?_
    refine Tri.run (G := gm_ref03_Sync) tyOk mixed ?_
    conv => whnf
    refine Tri.run (G := gm_ref03_Sync) tyOk mixed ?_
    conv => whnf
    refine fin_here ?_
    conv => whnf
    obtain rfl := Option.some.inj h
    rfl
  · replace h := if_f c2 h
    refine Tri.run (G := gm_ref03_Sync) tyOk mixed ?_
    conv => whnf
    refine Tri.seqK ?_
    refine Tri.run (G := gm_ref03_Sync) tyOk mixed ?_
    conv => whnf
    replace h := bind_some h
    obtain ⟨y3, q4, h⟩ := h
    refine PureP.mono (ref03_at_walk d name y3 q4) ?_
    rintro _ rfl
    conv => whnf
    refine Tri.seqK ?_
    refine Tri.seqK ?_
    refine Tri.run (G := gm_ref03_Sync) tyOk mixed ?_
    conv => whnf
    refine Tri.cond rfl (fun c6 => ?_) (fun c6 => ?_)
    · replace h := if_t c6 h
      refine Tri.seqK ?_
      refine Tri.run (G := gm_ref03_Sync) tyOk mixed ?_
      conv => whnf
      refine Tri.run (G := gm_ref03_Sync) tyOk mixed ?_
      conv => whnf
      refine fin_here ?_
      conv => whnf
      obtain rfl := Option.some.inj h
      rfl
    · replace h := if_f c6 h
      refine Tri.run (G := gm_ref03_Sync) tyOk mixed ?_
      conv => whnf
      refine Tri.seqK ?_
      refine Tri.run (G := gm_ref03_Sync) tyOk mixed ?_
      conv => whnf
      replace h := bind_some h
      obtain ⟨x7, q8, h⟩ := h
      refine ⟨(ix_some q8).1, ?_⟩
      conv => whnf
      refine ⟨⟨_, map_get encFile (ix_some q8).2, ?_⟩⟩
      conv => whnf
      refine ⟨rfl, ?_⟩
      conv => whnf
      refine Tri.seqK ?_
      refine Tri.run (G := gm_ref03_Sync) tyOk mixed ?_
      conv => whnf
      replace h := need_some h
      obtain ⟨p9, h⟩ := h
      refine ⟨p9, ?_⟩
      conv => whnf
      refine ⟨⟨bs (x7.Safe ++ x7.Wait), bs_append _ _, ?_⟩⟩
      conv => whnf
      replace h := bind_some h
      obtain ⟨y10, q11, h⟩ := h
      refine PureP.mono (ref03_with_walk d y3 ({ Name := x7.Name, Safe := (x7.Safe ++ x7.Wait), Wait := [] } : File) y10 q11) ?_
      rintro _ rfl
      conv => whnf
      refine Tri.run (G := gm_ref03_Sync) tyOk mixed ?_
      conv => whnf
      refine fin_here ?_
      conv => whnf
      obtain rfl := Option.some.inj h
      rfl
noncomputable def ref03_Rename (d : Disk) (from_ : Str) (to : Str) : Option (Disk × Int) :=
  if d.Off then
    some (d, 6)
  else
    if ((decide ((to.length : Int) < 1)) || (decide ((to.length : Int) > 16))) then
      some (d, 1)
    else
      (ref03_at d from_).bind fun y18 =>
      if (decide (y18 < 0)) then
        some (d, 7)
      else
        if (decide (from_ = to)) then
          some (d, 0)
        else
          (ref03_power d).bind fun y23 =>
          if (!y23.2) then
            some (y23.1, 6)
          else
            (ref03_at y23.1 to).bind fun y27 =>
            (
              if (decide (y27 ≥ 0)) then
                (ref03_less y23.1 y27).bind fun y38 =>
                some (y38.Files, y38.Room, y38.Fuse, y38.Off)
              else
                some (y23.1.Files, y23.1.Room, y23.1.Fuse, y23.1.Off)).bind fun (y35 : (List File) × Int × Int × Bool) =>
            (ref03_at ({ Files := y35.1, Room := y35.2.1, Fuse := y35.2.2.1, Off := y35.2.2.2 } : Disk) from_).bind fun y41 =>
            (ix y35.1 y41).bind fun x43 =>
            (ref03_with ({ Files := y35.1, Room := y35.2.1, Fuse := y35.2.2.1, Off := y35.2.2.2 } : Disk) y41 ({ Name := to, Safe := x43.Safe, Wait := x43.Wait } : File)).bind fun y45 =>
            some (y45, 0)
def gm_ref03_Rename : Gm := ⟨tys, [], [], []⟩
theorem ref03_Rename_walk (d : Disk) (from_ : Str) (to : Str) (r : Disk × Int) (h : ref03_Rename d from_ to = some r) : PureP Try.prog 54 [.agg [.sl (List.map encFile d.Files), .v (.int .i64 d.Room), .v (.int .i64 d.Fuse), .v (.bool d.Off)], .v (.string (bs from_)), .v (.string (bs to))] (fun a => a = .tup [.agg [.sl (List.map encFile r.1.Files), .v (.int .i64 r.1.Room), .v (.int .i64 r.1.Fuse), .v (.bool r.1.Off)], .v (.int .i64 r.2)]) := by
  unfold ref03_Rename at h
  refine pureW (G := gm_ref03_Rename) tyOk Try.func54 rfl (by kernel_rfl) (by simp [Try.f54]) ?_
  refine Tri.seqK ?_
  refine Tri.run (G := gm_ref03_Rename) tyOk mixed ?_
  conv => whnf
  refine Tri.seqK ?_
  refine Tri.seqK ?_
  refine Tri.run (G := gm_ref03_Rename) tyOk mixed ?_
  conv => whnf
  refine Tri.cond rfl (fun c2 => ?_) (fun c2 => ?_)
  · replace h := if_t c2 h
    refine Tri.seqK ?_
    refine Tri.run (G := gm_ref03_Rename) tyOk mixed ?_
    conv => whnf
    refine Tri.run (G := gm_ref03_Rename) tyOk mixed ?_
    conv => whnf
    refine fin_here ?_
    conv => whnf
    obtain rfl := Option.some.inj h
    rfl
  · replace h := if_f c2 h
    refine Tri.run (G := gm_ref03_Rename) tyOk mixed ?_
    conv => whnf
    refine Tri.seqK ?_
    refine Tri.seqK ?_
    refine Tri.cut (fun ex S' => ex = .normal ∧ Weak S' ⟨63, 0, ofRegs [(1, .v (.string (bs from_))), (2, .v (.string (bs to))), (3, .ptr 0 0), (6, .ptr 1 0), (22, .v (.bool ((decide ((to.length : Int) < 1)) || (decide ((to.length : Int) > 16)))))], [.var 24 [.sl (List.map encFile d.Files), .v (.int .i64 d.Room), .v (.int .i64 d.Fuse), .v (.bool d.Off)], .var 24 [.v (.slice none 0 0), .v (.int .i64 0), .v (.int .i64 0), .v (.bool false)]]⟩) ?_ ?_
    · refine Tri.run (G := gm_ref03_Rename) tyOk mixed ?_
      conv => whnf
      refine ⟨⟨(to.length : Int), rfl, ?_⟩⟩
      conv => whnf
      refine cond_mk (fun c12 => ?_) (fun c12 => ?_)
      · replace c12 : (decide ((to.length : Int) < 1)) = true := c12
        conv => whnf
        exact ⟨rfl, weak_fin _ rfl rfl rfl (.cons (.same rfl) (.cons (.same rfl) (LeH.rest))) (.cons (.one (.same rfl)) (.cons (.one (.same rfl)) (.cons (.one (.same rfl)) (.cons (.one (.same rfl)) (.cons (.one (.same (show (.v (.bool true) : AV) = (.v (.bool ((decide ((to.length : Int) < 1)) || (decide ((to.length : Int) > 16)))) : AV) from by first | (simp [c12]; done) | simp only [c12, Bool.or_true, Bool.true_or, Bool.false_or, Bool.or_false, Bool.and_true, Bool.true_and, Bool.and_false, Bool.false_and, Bool.not_true, Bool.not_false, if_true, if_false, Bool.false_eq_true]))) (.nil)))))) rfl rfl⟩
      · replace c12 : (decide ((to.length : Int) < 1)) = false := c12
        conv => whnf
        refine ⟨⟨(to.length : Int), rfl, ?_⟩⟩
        conv => whnf
        exact ⟨rfl, weak_fin _ rfl rfl rfl (.cons (.same rfl) (.cons (.same rfl) (LeH.rest))) (.cons (.one (.same rfl)) (.cons (.one (.same rfl)) (.cons (.one (.same rfl)) (.cons (.one (.same rfl)) (.cons (.one (.same (show (.v (.bool (decide ((to.length : Int) > 16))) : AV) = (.v (.bool ((decide ((to.length : Int) < 1)) || (decide ((to.length : Int) > 16)))) : AV) from by first | (simp [c12]; done) | simp only [c12, Bool.or_true, Bool.true_or, Bool.false_or, Bool.or_false, Bool.and_true, Bool.true_and, Bool.and_false, Bool.false_and, Bool.not_true, Bool.not_false, if_true, if_false, Bool.false_eq_true]))) (.nil)))))) rfl rfl⟩
    · rintro ex S' ⟨rfl, w13⟩
      conv => whnf
      refine Tri.weak w13 ?_
      refine Tri.cond rfl (fun c14 => ?_) (fun c14 => ?_)
      · replace h := if_t c14 h
        refine Tri.seqK ?_
        refine Tri.run (G := gm_ref03_Rename) tyOk mixed ?_
        conv => whnf
        refine Tri.run (G := gm_ref03_Rename) tyOk mixed ?_
        conv => whnf
        refine fin_here ?_
        conv => whnf
        obtain rfl := Option.some.inj h
        rfl
      · replace h := if_f c14 h
        refine Tri.run (G := gm_ref03_Rename) tyOk mixed ?_
        conv => whnf
        refine Tri.seqK ?_
        refine Tri.seqK ?_
        refine Tri.run (G := gm_ref03_Rename) tyOk mixed ?_
        conv => whnf
        replace h := bind_some h
        obtain ⟨y18, q19, h⟩ := h
        refine PureP.mono (ref03_at_walk d from_ y18 q19) ?_
        rintro _ rfl
        conv => whnf
        refine Tri.cond rfl (fun c20 => ?_) (fun c20 => ?_)
        · replace h := if_t c20 h
          refine Tri.seqK ?_
          refine Tri.run (G := gm_ref03_Rename) tyOk mixed ?_
          conv => whnf
          refine Tri.run (G := gm_ref03_Rename) tyOk mixed ?_
          conv => whnf
          refine fin_here ?_
          conv => whnf
          obtain rfl := Option.some.inj h
          rfl
        · replace h := if_f c20 h
          refine Tri.run (G := gm_ref03_Rename) tyOk mixed ?_
          conv => whnf
          refine Tri.seqK ?_
          refine Tri.seqK ?_
          refine Tri.run (G := gm_ref03_Rename) tyOk mixed ?_
          conv => whnf
          refine ⟨⟨(decide (from_ = to)), bs_eq _ _, ?_⟩⟩
          conv => whnf
          refine Tri.cond rfl (fun c22 => ?_) (fun c22 => ?_)
          · replace h := if_t c22 h
            refine Tri.seqK ?_
            refine Tri.run (G := gm_ref03_Rename) tyOk mixed ?_
            conv => whnf
            refine Tri.run (G := gm_ref03_Rename) tyOk mixed ?_
            conv => whnf
            refine fin_here ?_
            conv => whnf
            obtain rfl := Option.some.inj h
            rfl
          · replace h := if_f c22 h
            refine Tri.run (G := gm_ref03_Rename) tyOk mixed ?_
            conv => whnf
            refine Tri.seqK ?_
            refine Tri.run (G := gm_ref03_Rename) tyOk mixed ?_
            conv => whnf
            replace h := bind_some h
            obtain ⟨y23, q24, h⟩ := h
            refine PureP.mono (ref03_power_walk d y23 q24) ?_
            rintro _ rfl
            conv => whnf
            refine Tri.seqK ?_
            refine Tri.seqK ?_
            refine Tri.run (G := gm_ref03_Rename) tyOk mixed ?_
            conv => whnf
            refine Tri.cond rfl (fun c26 => ?_) (fun c26 => ?_)
            · replace h := if_t c26 h
              refine Tri.seqK ?_
              refine Tri.run (G := gm_ref03_Rename) tyOk mixed ?_
              conv => whnf
              refine Tri.run (G := gm_ref03_Rename) tyOk mixed ?_
              conv => whnf
              refine fin_here ?_
              conv => whnf
              obtain rfl := Option.some.inj h
              rfl
            · replace h := if_f c26 h
              refine Tri.run (G := gm_ref03_Rename) tyOk mixed ?_
              conv => whnf
              refine Tri.seqK ?_
              refine Tri.run (G := gm_ref03_Rename) tyOk mixed ?_
              conv => whnf
              replace h := bind_some h
              obtain ⟨y27, q28, h⟩ := h
              refine PureP.mono (ref03_at_walk y23.1 to y27 q28) ?_
              rintro _ rfl
              conv => whnf
              refine Tri.seqK ?_
              replace h := bind_some h
              obtain ⟨y35, q36, h⟩ := h
              refine Tri.cut (fun ex S' => ex = .normal ∧ Weak S' ⟨63, 0, ofRegs [(1, .v (.string (bs from_))), (2, .v (.string (bs to))), (3, .ptr 0 0), (6, .ptr 1 0)], [.var 24 [.sl (List.map encFile y35.1), .v (.int .i64 y35.2.1), .v (.int .i64 y35.2.2.1), .v (.bool y35.2.2.2)], .var 24 [.v (.slice none 0 0), .v (.int .i64 0), .v (.int .i64 0), .v (.bool false)]]⟩) ?_ ?_
              · refine Tri.seqK ?_
                refine Tri.run (G := gm_ref03_Rename) tyOk mixed ?_
                conv => whnf
                refine Tri.cond rfl (fun c37 => ?_) (fun c37 => ?_)
                · replace q36 := if_t c37 q36
                  refine Tri.run (G := gm_ref03_Rename) tyOk mixed ?_
                  conv => whnf
                  replace q36 := bind_some q36
                  obtain ⟨y38, q39, q36⟩ := q36
                  refine PureP.mono (ref03_less_walk y23.1 y27 y38 q39) ?_
                  rintro _ rfl
                  conv => whnf
                  obtain rfl := Option.some.inj q36
                  exact ⟨rfl, weak_fin _ rfl rfl rfl (.cons (.same rfl) (.cons (.same rfl) (LeH.rest))) (.cons (.one (.same rfl)) (.cons (.one (.same rfl)) (.cons (.one (.same rfl)) (.cons (.one (.same rfl)) (.nil))))) rfl rfl⟩
                · replace q36 := if_f c37 q36
                  refine Tri.run (G := gm_ref03_Rename) tyOk mixed ?_
                  conv => whnf
                  obtain rfl := Option.some.inj q36
                  exact ⟨rfl, weak_fin _ rfl rfl rfl (.cons (.same rfl) (.cons (.same rfl) (LeH.rest))) (.cons (.one (.same rfl)) (.cons (.one (.same rfl)) (.cons (.one (.same rfl)) (.cons (.one (.same rfl)) (.nil))))) rfl rfl⟩
              · rintro ex S' ⟨rfl, w40⟩
                conv => whnf
                refine Tri.weak w40 ?_
                refine Tri.seqK ?_
                refine Tri.run (G := gm_ref03_Rename) tyOk mixed ?_
                conv => whnf
                replace h := bind_some h
                obtain ⟨y41, q42, h⟩ := h
                refine PureP.mono (ref03_at_walk ({ Files := y35.1, Room := y35.2.1, Fuse := y35.2.2.1, Off := y35.2.2.2 } : Disk) from_ y41 q42) ?_
                rintro _ rfl
                conv => whnf
                refine Tri.seqK ?_
                refine Tri.run (G := gm_ref03_Rename) tyOk mixed ?_
                conv => whnf
                replace h := bind_some h
                obtain ⟨x43, q44, h⟩ := h
                refine ⟨(ix_some q44).1, ?_⟩
                conv => whnf
                refine ⟨⟨_, map_get encFile (ix_some q44).2, ?_⟩⟩
                conv => whnf
                refine ⟨rfl, ?_⟩
                conv => whnf
                refine Tri.seqK ?_
                refine Tri.run (G := gm_ref03_Rename) tyOk mixed ?_
                conv => whnf
                refine Tri.seqK ?_
                refine Tri.run (G := gm_ref03_Rename) tyOk mixed ?_
                conv => whnf
                replace h := bind_some h
                obtain ⟨y45, q46, h⟩ := h
                refine PureP.mono (ref03_with_walk ({ Files := y35.1, Room := y35.2.1, Fuse := y35.2.2.1, Off := y35.2.2.2 } : Disk) y41 ({ Name := to, Safe := x43.Safe, Wait := x43.Wait } : File) y45 q46) ?_
                rintro _ rfl
                conv => whnf
                refine Tri.run (G := gm_ref03_Rename) tyOk mixed ?_
                conv => whnf
                refine fin_here ?_
                conv => whnf
                obtain rfl := Option.some.inj h
                rfl
noncomputable def ref06_Lay (d : Disk) (name : Str) (s : Str) : Option (Disk × Int) :=
  need (([110, 46] : Str).length + name.length ≤ 9223372036854775807) <|
  (ref03_Find d ([110, 46] ++ name)).bind fun y2 =>
  (
    if y2.2 then
      (ref03_Delete d ([110, 46] ++ name)).bind fun y13 =>
      some (y13.2, y13.1.Files, y13.1.Room, y13.1.Fuse, y13.1.Off)
    else
      some (0, d.Files, d.Room, d.Fuse, d.Off)).bind fun (y10 : Int × (List File) × Int × Int × Bool) =>
  (
    if (decide (y10.1 = 0)) then
      (ref03_Append ({ Files := y10.2.1, Room := y10.2.2.1, Fuse := y10.2.2.2.1, Off := y10.2.2.2.2 } : Disk) ([110, 46] ++ name) s).bind fun y25 =>
      some (y25.2, y25.1.Files, y25.1.Room, y25.1.Fuse, y25.1.Off)
    else
      some (y10.1, y10.2.1, y10.2.2.1, y10.2.2.2.1, y10.2.2.2.2)).bind fun (y22 : Int × (List File) × Int × Int × Bool) =>
  (
    if (decide (y22.1 = 0)) then
      (ref03_Sync ({ Files := y22.2.1, Room := y22.2.2.1, Fuse := y22.2.2.2.1, Off := y22.2.2.2.2 } : Disk) ([110, 46] ++ name)).bind fun y37 =>
      some (y37.2, y37.1.Files, y37.1.Room, y37.1.Fuse, y37.1.Off)
    else
      some (y22.1, y22.2.1, y22.2.2.1, y22.2.2.2.1, y22.2.2.2.2)).bind fun (y34 : Int × (List File) × Int × Int × Bool) =>
  (
    if (decide (y34.1 = 0)) then
      (ref03_Rename ({ Files := y34.2.1, Room := y34.2.2.1, Fuse := y34.2.2.2.1, Off := y34.2.2.2.2 } : Disk) ([110, 46] ++ name) name).bind fun y49 =>
      some (y49.2, y49.1.Files, y49.1.Room, y49.1.Fuse, y49.1.Off)
    else
      some (y34.1, y34.2.1, y34.2.2.1, y34.2.2.2.1, y34.2.2.2.2)).bind fun (y46 : Int × (List File) × Int × Int × Bool) =>
  some (({ Files := y46.2.1, Room := y46.2.2.1, Fuse := y46.2.2.2.1, Off := y46.2.2.2.2 } : Disk), y46.1)
def gm_ref06_Lay : Gm := ⟨tys, [], [], []⟩
theorem ref06_Lay_walk (d : Disk) (name : Str) (s : Str) (r : Disk × Int) (h : ref06_Lay d name s = some r) : PureP Try.prog 35 [.agg [.sl (List.map encFile d.Files), .v (.int .i64 d.Room), .v (.int .i64 d.Fuse), .v (.bool d.Off)], .v (.string (bs name)), .v (.string (bs s))] (fun a => a = .tup [.agg [.sl (List.map encFile r.1.Files), .v (.int .i64 r.1.Room), .v (.int .i64 r.1.Fuse), .v (.bool r.1.Off)], .v (.int .i64 r.2)]) := by
  unfold ref06_Lay at h
  refine pureW (G := gm_ref06_Lay) tyOk Try.func35 rfl (by kernel_rfl) (by simp [Try.f35]) ?_
  refine Tri.seqK ?_
  refine Tri.run (G := gm_ref06_Lay) tyOk mixed ?_
  conv => whnf
  refine Tri.seqK ?_
  refine Tri.run (G := gm_ref06_Lay) tyOk mixed ?_
  conv => whnf
  replace h := need_some h
  obtain ⟨p1, h⟩ := h
  refine ⟨p1, ?_⟩
  conv => whnf
  refine ⟨⟨bs ([110, 46] ++ name), bs_append _ _, ?_⟩⟩
  conv => whnf
  refine Tri.seqK ?_
  refine Tri.run (G := gm_ref06_Lay) tyOk mixed ?_
  conv => whnf
  refine Tri.seqK ?_
  refine Tri.run (G := gm_ref06_Lay) tyOk mixed ?_
  conv => whnf
  replace h := bind_some h
  obtain ⟨y2, q3, h⟩ := h
  refine PureP.mono (ref03_Find_walk d ([110, 46] ++ name) y2 q3) ?_
  rintro _ rfl
  conv => whnf
  refine Tri.seqK ?_
  replace h := bind_some h
  obtain ⟨y10, q11, h⟩ := h
  refine Tri.cut (fun ex S' => ex = .normal ∧ Weak S' ⟨55, 0, ofRegs [(1, .v (.string (bs name))), (2, .v (.string (bs s))), (3, .ptr 0 0), (6, .ptr 1 0), (8, .v (.string (bs ([110, 46] ++ name)))), (9, .v (.int .i64 y10.1))], [.var 24 [.sl (List.map encFile y10.2.1), .v (.int .i64 y10.2.2.1), .v (.int .i64 y10.2.2.2.1), .v (.bool y10.2.2.2.2)], .var 24 [.v (.slice none 0 0), .v (.int .i64 0), .v (.int .i64 0), .v (.bool false)]]⟩) ?_ ?_
  · refine Tri.seqK ?_
    refine Tri.run (G := gm_ref06_Lay) tyOk mixed ?_
    conv => whnf
    refine Tri.cond rfl (fun c12 => ?_) (fun c12 => ?_)
    · replace q11 := if_t c12 q11
      refine Tri.run (G := gm_ref06_Lay) tyOk mixed ?_
      conv => whnf
      replace q11 := bind_some q11
      obtain ⟨y13, q14, q11⟩ := q11
      refine PureP.mono (ref03_Delete_walk d ([110, 46] ++ name) y13 q14) ?_
      rintro _ rfl
      conv => whnf
      obtain rfl := Option.some.inj q11
      exact ⟨rfl, weak_fin _ rfl rfl rfl (.cons (.same rfl) (.cons (.same rfl) (LeH.rest))) (.cons (.one (.same rfl)) (.cons (.one (.same rfl)) (.cons (.one (.same rfl)) (.cons (.one (.same rfl)) (.cons (.one (.same rfl)) (.cons (.one (.same rfl)) (.nil))))))) rfl rfl⟩
    · replace q11 := if_f c12 q11
      refine Tri.run (G := gm_ref06_Lay) tyOk mixed ?_
      conv => whnf
      obtain rfl := Option.some.inj q11
      exact ⟨rfl, weak_fin _ rfl rfl rfl (.cons (.same rfl) (.cons (.same rfl) (LeH.rest))) (.cons (.one (.same rfl)) (.cons (.one (.same rfl)) (.cons (.one (.same rfl)) (.cons (.one (.same rfl)) (.cons (.one (.same rfl)) (.cons (.one (.same rfl)) (.nil))))))) rfl rfl⟩
  · rintro ex S' ⟨rfl, w15⟩
    conv => whnf
    refine Tri.weak w15 ?_
    refine Tri.seqK ?_
    replace h := bind_some h
    obtain ⟨y22, q23, h⟩ := h
    refine Tri.cut (fun ex S' => ex = .normal ∧ Weak S' ⟨55, 0, ofRegs [(1, .v (.string (bs name))), (3, .ptr 0 0), (6, .ptr 1 0), (8, .v (.string (bs ([110, 46] ++ name)))), (9, .v (.int .i64 y22.1))], [.var 24 [.sl (List.map encFile y22.2.1), .v (.int .i64 y22.2.2.1), .v (.int .i64 y22.2.2.2.1), .v (.bool y22.2.2.2.2)], .var 24 [.v (.slice none 0 0), .v (.int .i64 0), .v (.int .i64 0), .v (.bool false)]]⟩) ?_ ?_
    · refine Tri.seqK ?_
      refine Tri.run (G := gm_ref06_Lay) tyOk mixed ?_
      conv => whnf
      refine Tri.cond rfl (fun c24 => ?_) (fun c24 => ?_)
      · replace q23 := if_t c24 q23
        refine Tri.run (G := gm_ref06_Lay) tyOk mixed ?_
        conv => whnf
        replace q23 := bind_some q23
        obtain ⟨y25, q26, q23⟩ := q23
        refine PureP.mono (ref03_Append_walk ({ Files := y10.2.1, Room := y10.2.2.1, Fuse := y10.2.2.2.1, Off := y10.2.2.2.2 } : Disk) ([110, 46] ++ name) s y25 q26) ?_
        rintro _ rfl
        conv => whnf
        obtain rfl := Option.some.inj q23
        exact ⟨rfl, weak_fin _ rfl rfl rfl (.cons (.same rfl) (.cons (.same rfl) (LeH.rest))) (.cons (.one (.same rfl)) (.cons (.one (.same rfl)) (.cons (.one (.same rfl)) (.cons (.one (.same rfl)) (.cons (.one (.same rfl)) (.nil)))))) rfl rfl⟩
      · replace q23 := if_f c24 q23
        refine Tri.run (G := gm_ref06_Lay) tyOk mixed ?_
        conv => whnf
        obtain rfl := Option.some.inj q23
        exact ⟨rfl, weak_fin _ rfl rfl rfl (.cons (.same rfl) (.cons (.same rfl) (LeH.rest))) (.cons (.one (.same rfl)) (.cons (.one (.same rfl)) (.cons (.one (.same rfl)) (.cons (.one (.same rfl)) (.cons (.one (.same rfl)) (.nil)))))) rfl rfl⟩
    · rintro ex S' ⟨rfl, w27⟩
      conv => whnf
      refine Tri.weak w27 ?_
      refine Tri.seqK ?_
      replace h := bind_some h
      obtain ⟨y34, q35, h⟩ := h
      refine Tri.cut (fun ex S' => ex = .normal ∧ Weak S' ⟨55, 0, ofRegs [(1, .v (.string (bs name))), (3, .ptr 0 0), (6, .ptr 1 0), (8, .v (.string (bs ([110, 46] ++ name)))), (9, .v (.int .i64 y34.1))], [.var 24 [.sl (List.map encFile y34.2.1), .v (.int .i64 y34.2.2.1), .v (.int .i64 y34.2.2.2.1), .v (.bool y34.2.2.2.2)], .var 24 [.v (.slice none 0 0), .v (.int .i64 0), .v (.int .i64 0), .v (.bool false)]]⟩) ?_ ?_
      · refine Tri.seqK ?_
        refine Tri.run (G := gm_ref06_Lay) tyOk mixed ?_
        conv => whnf
        refine Tri.cond rfl (fun c36 => ?_) (fun c36 => ?_)
        · replace q35 := if_t c36 q35
          refine Tri.run (G := gm_ref06_Lay) tyOk mixed ?_
          conv => whnf
          replace q35 := bind_some q35
          obtain ⟨y37, q38, q35⟩ := q35
          refine PureP.mono (ref03_Sync_walk ({ Files := y22.2.1, Room := y22.2.2.1, Fuse := y22.2.2.2.1, Off := y22.2.2.2.2 } : Disk) ([110, 46] ++ name) y37 q38) ?_
          rintro _ rfl
          conv => whnf
          obtain rfl := Option.some.inj q35
          exact ⟨rfl, weak_fin _ rfl rfl rfl (.cons (.same rfl) (.cons (.same rfl) (LeH.rest))) (.cons (.one (.same rfl)) (.cons (.one (.same rfl)) (.cons (.one (.same rfl)) (.cons (.one (.same rfl)) (.cons (.one (.same rfl)) (.nil)))))) rfl rfl⟩
        · replace q35 := if_f c36 q35
          refine Tri.run (G := gm_ref06_Lay) tyOk mixed ?_
          conv => whnf
          obtain rfl := Option.some.inj q35
          exact ⟨rfl, weak_fin _ rfl rfl rfl (.cons (.same rfl) (.cons (.same rfl) (LeH.rest))) (.cons (.one (.same rfl)) (.cons (.one (.same rfl)) (.cons (.one (.same rfl)) (.cons (.one (.same rfl)) (.cons (.one (.same rfl)) (.nil)))))) rfl rfl⟩
      · rintro ex S' ⟨rfl, w39⟩
        conv => whnf
        refine Tri.weak w39 ?_
        refine Tri.seqK ?_
        replace h := bind_some h
        obtain ⟨y46, q47, h⟩ := h
        refine Tri.cut (fun ex S' => ex = .normal ∧ Weak S' ⟨55, 0, ofRegs [(3, .ptr 0 0), (6, .ptr 1 0), (9, .v (.int .i64 y46.1))], [.var 24 [.sl (List.map encFile y46.2.1), .v (.int .i64 y46.2.2.1), .v (.int .i64 y46.2.2.2.1), .v (.bool y46.2.2.2.2)], .var 24 [.v (.slice none 0 0), .v (.int .i64 0), .v (.int .i64 0), .v (.bool false)]]⟩) ?_ ?_
        · refine Tri.seqK ?_
          refine Tri.run (G := gm_ref06_Lay) tyOk mixed ?_
          conv => whnf
          refine Tri.cond rfl (fun c48 => ?_) (fun c48 => ?_)
          · replace q47 := if_t c48 q47
            refine Tri.run (G := gm_ref06_Lay) tyOk mixed ?_
            conv => whnf
            replace q47 := bind_some q47
            obtain ⟨y49, q50, q47⟩ := q47
            refine PureP.mono (ref03_Rename_walk ({ Files := y34.2.1, Room := y34.2.2.1, Fuse := y34.2.2.2.1, Off := y34.2.2.2.2 } : Disk) ([110, 46] ++ name) name y49 q50) ?_
            rintro _ rfl
            conv => whnf
            obtain rfl := Option.some.inj q47
            exact ⟨rfl, weak_fin _ rfl rfl rfl (.cons (.same rfl) (.cons (.same rfl) (LeH.rest))) (.cons (.one (.same rfl)) (.cons (.one (.same rfl)) (.cons (.one (.same rfl)) (.nil)))) rfl rfl⟩
          · replace q47 := if_f c48 q47
            refine Tri.run (G := gm_ref06_Lay) tyOk mixed ?_
            conv => whnf
            obtain rfl := Option.some.inj q47
            exact ⟨rfl, weak_fin _ rfl rfl rfl (.cons (.same rfl) (.cons (.same rfl) (LeH.rest))) (.cons (.one (.same rfl)) (.cons (.one (.same rfl)) (.cons (.one (.same rfl)) (.nil)))) rfl rfl⟩
        · rintro ex S' ⟨rfl, w51⟩
          conv => whnf
          refine Tri.weak w51 ?_
          refine Tri.seqK ?_
          refine Tri.run (G := gm_ref06_Lay) tyOk mixed ?_
          conv => whnf
          refine Tri.run (G := gm_ref06_Lay) tyOk mixed ?_
          conv => whnf
          refine fin_here ?_
          conv => whnf
          obtain rfl := Option.some.inj h
          rfl
noncomputable def ref18_Next (d : Disk) : Option (Disk × Int × Int) :=
  (ref18_Read d).bind fun y1 =>
  if (!(decide (y1.2 = 0))) then
    some (d, 0, y1.2)
  else
    if (decide (y1.1 = 1073741824)) then
      some (d, 0, 4)
    else
      (ref18_Bytes (IntKind.i64.wrap (y1.1 + 1))).bind fun y7 =>
      (ref06_Lay d [101] y7.1).bind fun y9 =>
      if (!(decide (y9.2 = 0))) then
        some (y9.1, 0, y9.2)
      else
        some (y9.1, (IntKind.i64.wrap (y1.1 + 1)), 0)
def gm_ref18_Next : Gm := ⟨tys, [], [], []⟩
theorem ref18_Next_walk (d : Disk) (r : Disk × Int × Int) (h : ref18_Next d = some r) : PureP Try.prog 17 [.agg [.sl (List.map encFile d.Files), .v (.int .i64 d.Room), .v (.int .i64 d.Fuse), .v (.bool d.Off)]] (fun a => a = .tup [.agg [.sl (List.map encFile r.1.Files), .v (.int .i64 r.1.Room), .v (.int .i64 r.1.Fuse), .v (.bool r.1.Off)], .v (.int .i64 r.2.1), .v (.int .i64 r.2.2)]) := by
  unfold ref18_Next at h
  refine pureW (G := gm_ref18_Next) tyOk Try.func17 rfl (by kernel_rfl) (by simp [Try.f17]) ?_
  refine Tri.seqK ?_
  refine Tri.run (G := gm_ref18_Next) tyOk mixed ?_
  conv => whnf
  refine Tri.seqK ?_
  refine Tri.run (G := gm_ref18_Next) tyOk mixed ?_
  conv => whnf
  replace h := bind_some h
  obtain ⟨y1, q2, h⟩ := h
  refine PureP.mono (ref18_Read_walk d y1 q2) ?_
  rintro _ rfl
  conv => whnf
  refine Tri.seqK ?_
  refine Tri.seqK ?_
  refine Tri.run (G := gm_ref18_Next) tyOk mixed ?_
  conv => whnf
  refine Tri.cond rfl (fun c4 => ?_) (fun c4 => ?_)
  · replace h := if_t c4 h
    refine Tri.seqK ?_
    refine Tri.run (G := gm_ref18_Next) tyOk mixed ?_
    conv => whnf
    refine Tri.run (G := gm_ref18_Next) tyOk mixed ?_
    conv => whnf
    refine fin_here ?_
    conv => whnf
    obtain rfl := Option.some.inj h
    rfl
  · replace h := if_f c4 h
    refine Tri.run (G := gm_ref18_Next) tyOk mixed ?_
    conv => whnf
    refine Tri.seqK ?_
    refine Tri.seqK ?_
    refine Tri.run (G := gm_ref18_Next) tyOk mixed ?_
    conv => whnf
    refine Tri.cond rfl (fun c6 => ?_) (fun c6 => ?_)
    · replace h := if_t c6 h
      refine Tri.seqK ?_
      refine Tri.run (G := gm_ref18_Next) tyOk mixed ?_
      conv => whnf
      refine Tri.run (G := gm_ref18_Next) tyOk mixed ?_
      conv => whnf
      refine fin_here ?_
      conv => whnf
      obtain rfl := Option.some.inj h
      rfl
    · replace h := if_f c6 h
      refine Tri.run (G := gm_ref18_Next) tyOk mixed ?_
      conv => whnf
      refine Tri.seqK ?_
      refine Tri.run (G := gm_ref18_Next) tyOk mixed ?_
      conv => whnf
      replace h := bind_some h
      obtain ⟨y7, q8, h⟩ := h
      refine PureP.mono (ref18_Bytes_walk (IntKind.i64.wrap (y1.1 + 1)) y7 q8) ?_
      rintro _ rfl
      conv => whnf
      refine Tri.seqK ?_
      refine Tri.run (G := gm_ref18_Next) tyOk mixed ?_
      conv => whnf
      replace h := bind_some h
      obtain ⟨y9, q10, h⟩ := h
      refine PureP.mono (ref06_Lay_walk d [101] y7.1 y9 q10) ?_
      rintro _ rfl
      conv => whnf
      refine Tri.seqK ?_
      refine Tri.seqK ?_
      refine Tri.run (G := gm_ref18_Next) tyOk mixed ?_
      conv => whnf
      refine Tri.cond rfl (fun c12 => ?_) (fun c12 => ?_)
      · replace h := if_t c12 h
        refine Tri.seqK ?_
        refine Tri.run (G := gm_ref18_Next) tyOk mixed ?_
        conv => whnf
        refine Tri.run (G := gm_ref18_Next) tyOk mixed ?_
        conv => whnf
        refine fin_here ?_
        conv => whnf
        obtain rfl := Option.some.inj h
        rfl
      · replace h := if_f c12 h
        refine Tri.run (G := gm_ref18_Next) tyOk mixed ?_
        conv => whnf
        refine Tri.seqK ?_
        refine Tri.run (G := gm_ref18_Next) tyOk mixed ?_
        conv => whnf
        refine Tri.run (G := gm_ref18_Next) tyOk mixed ?_
        conv => whnf
        refine fin_here ?_
        conv => whnf
        obtain rfl := Option.some.inj h
        rfl
noncomputable def ref03_Same_l2 (a : Disk) (b : Disk) (a140 : Int) : Option ((Int) ⊕ ((Unit) ⊕ (Unit))) :=
  if (decide (a140 < (a.Files.length : Int))) then
    (ix a.Files a140).bind fun x163 =>
    (ix b.Files a140).bind fun x165 =>
    if (!(decide (x163 = x165))) then
      some (.inr (.inl ()))
    else
      some (.inl (IntKind.i64.wrap (a140 + 1)))
  else
    some (.inr (.inr ()))
noncomputable def ref03_Same (a : Disk) (b : Disk) : Option (Bool) :=
  if ((!(decide (a.Room = b.Room))) || ((!(decide (a.Fuse = b.Fuse))) || ((!(a.Off == b.Off)) || (!(decide ((a.Files.length : Int) = (b.Files.length : Int))))))) then
    some false
  else
    (loop (fun (s145 : Int) => ref03_Same_l2 a b s145) (0 : Int)).bind fun (y141 : (Unit) ⊕ (Unit)) =>
    match y141 with
    | (.inl v143) =>
      some false
    | (.inr v144) =>
      some true
def gm_ref03_Same : Gm := ⟨tys, [], [], []⟩
theorem ref03_Same_walk (a : Disk) (b : Disk) (r : Bool) (h : ref03_Same a b = some r) : PureP Try.prog 18 [.agg [.sl (List.map encFile a.Files), .v (.int .i64 a.Room), .v (.int .i64 a.Fuse), .v (.bool a.Off)], .agg [.sl (List.map encFile b.Files), .v (.int .i64 b.Room), .v (.int .i64 b.Fuse), .v (.bool b.Off)]] (fun a => a = .v (.bool r)) := by
  unfold ref03_Same at h
  refine pureW (G := gm_ref03_Same) tyOk Try.func18 rfl (by kernel_rfl) (by simp [Try.f18]) ?_
  refine Tri.seqK ?_
  refine Tri.run (G := gm_ref03_Same) tyOk mixed ?_
  conv => whnf
  refine Tri.seqK ?_
  refine Tri.seqK ?_
  refine Tri.cut (fun ex S' => ex = .normal ∧ Weak S' ⟨52, 0, ofRegs [(2, .ptr 0 0), (3, .ptr 1 0), (33, .v (.bool ((!(decide (a.Room = b.Room))) || ((!(decide (a.Fuse = b.Fuse))) || ((!(a.Off == b.Off)) || (!(decide ((a.Files.length : Int) = (b.Files.length : Int)))))))))], [.var 24 [.sl (List.map encFile a.Files), .v (.int .i64 a.Room), .v (.int .i64 a.Fuse), .v (.bool a.Off)], .var 24 [.sl (List.map encFile b.Files), .v (.int .i64 b.Room), .v (.int .i64 b.Fuse), .v (.bool b.Off)]]⟩) ?_ ?_
  · refine Tri.run (G := gm_ref03_Same) tyOk mixed ?_
    conv => whnf
    refine cond_mk (fun c24 => ?_) (fun c24 => ?_)
    · replace c24 : (!(decide (a.Room = b.Room))) = true := c24
      conv => whnf
      exact ⟨rfl, weak_fin _ rfl rfl rfl (.cons (.same rfl) (.cons (.same rfl) (LeH.rest))) (.cons (.one (.same rfl)) (.cons (.one (.same rfl)) (.cons (.one (.same (show (.v (.bool true) : AV) = (.v (.bool ((!(decide (a.Room = b.Room))) || ((!(decide (a.Fuse = b.Fuse))) || ((!(a.Off == b.Off)) || (!(decide ((a.Files.length : Int) = (b.Files.length : Int)))))))) : AV) from by first | (simp [c24]; done) | simp only [c24, Bool.or_true, Bool.true_or, Bool.false_or, Bool.or_false, Bool.and_true, Bool.true_and, Bool.and_false, Bool.false_and, Bool.not_true, Bool.not_false, if_true, if_false, Bool.false_eq_true]))) (.nil)))) rfl rfl⟩
    · replace c24 : (!(decide (a.Room = b.Room))) = false := c24
      conv => whnf
      refine cond_mk (fun c25 => ?_) (fun c25 => ?_)
      · replace c25 : (!(decide (a.Fuse = b.Fuse))) = true := c25
        conv => whnf
        exact ⟨rfl, weak_fin _ rfl rfl rfl (.cons (.same rfl) (.cons (.same rfl) (LeH.rest))) (.cons (.one (.same rfl)) (.cons (.one (.same rfl)) (.cons (.one (.same (show (.v (.bool true) : AV) = (.v (.bool ((!(decide (a.Room = b.Room))) || ((!(decide (a.Fuse = b.Fuse))) || ((!(a.Off == b.Off)) || (!(decide ((a.Files.length : Int) = (b.Files.length : Int)))))))) : AV) from by first | (simp [c24, c25]; done) | simp only [c24, c25, Bool.or_true, Bool.true_or, Bool.false_or, Bool.or_false, Bool.and_true, Bool.true_and, Bool.and_false, Bool.false_and, Bool.not_true, Bool.not_false, if_true, if_false, Bool.false_eq_true]))) (.nil)))) rfl rfl⟩
      · replace c25 : (!(decide (a.Fuse = b.Fuse))) = false := c25
        conv => whnf
        refine cond_mk (fun c26 => ?_) (fun c26 => ?_)
        · replace c26 : (!(a.Off == b.Off)) = true := c26
          conv => whnf
          exact ⟨rfl, weak_fin _ rfl rfl rfl (.cons (.same rfl) (.cons (.same rfl) (LeH.rest))) (.cons (.one (.same rfl)) (.cons (.one (.same rfl)) (.cons (.one (.same (show (.v (.bool true) : AV) = (.v (.bool ((!(decide (a.Room = b.Room))) || ((!(decide (a.Fuse = b.Fuse))) || ((!(a.Off == b.Off)) || (!(decide ((a.Files.length : Int) = (b.Files.length : Int)))))))) : AV) from by first | (simp [c24, c25, c26]; done) | simp only [c24, c25, c26, Bool.or_true, Bool.true_or, Bool.false_or, Bool.or_false, Bool.and_true, Bool.true_and, Bool.and_false, Bool.false_and, Bool.not_true, Bool.not_false, if_true, if_false, Bool.false_eq_true]))) (.nil)))) rfl rfl⟩
        · replace c26 : (!(a.Off == b.Off)) = false := c26
          conv => whnf
          refine ⟨⟨(a.Files.length : Int), (len_map _ _).symm, ?_⟩⟩
          conv => whnf
          refine ⟨⟨(b.Files.length : Int), (len_map _ _).symm, ?_⟩⟩
          conv => whnf
          exact ⟨rfl, weak_fin _ rfl rfl rfl (.cons (.same rfl) (.cons (.same rfl) (LeH.rest))) (.cons (.one (.same rfl)) (.cons (.one (.same rfl)) (.cons (.one (.same (show (.v (.bool (!(decide ((a.Files.length : Int) = (b.Files.length : Int))))) : AV) = (.v (.bool ((!(decide (a.Room = b.Room))) || ((!(decide (a.Fuse = b.Fuse))) || ((!(a.Off == b.Off)) || (!(decide ((a.Files.length : Int) = (b.Files.length : Int)))))))) : AV) from by first | (simp [c24, c25, c26]; done) | simp only [c24, c25, c26, Bool.or_true, Bool.true_or, Bool.false_or, Bool.or_false, Bool.and_true, Bool.true_and, Bool.and_false, Bool.false_and, Bool.not_true, Bool.not_false, if_true, if_false, Bool.false_eq_true]))) (.nil)))) rfl rfl⟩
  · rintro ex S' ⟨rfl, w27⟩
    conv => whnf
    refine Tri.weak w27 ?_
    refine Tri.cond rfl (fun c28 => ?_) (fun c28 => ?_)
    · replace h := if_t c28 h
      refine Tri.seqK ?_
      refine Tri.run (G := gm_ref03_Same) tyOk mixed ?_
      conv => whnf
      refine Tri.run (G := gm_ref03_Same) tyOk mixed ?_
      conv => whnf
      refine fin_here ?_
      conv => whnf
      obtain rfl := Option.some.inj h
      rfl
    · replace h := if_f c28 h
      refine Tri.run (G := gm_ref03_Same) tyOk mixed ?_
      conv => whnf
      refine Tri.seqK ?_
      refine Tri.seqK ?_
      refine Tri.run (G := gm_ref03_Same) tyOk mixed ?_
      conv => whnf
      refine Tri.block ?_
      replace h := bind_some h
      obtain ⟨y141, q142, h⟩ := h
      refine Tri.cut (fun ex S' => (∃ v143 : Unit, y141 = (.inl v143) ∧ ex = .ret ∧ Weak S' ⟨52, 0, ofRegs [(4, .v (.bool false))], []⟩) ∨ (∃ v144 : Unit, y141 = (.inr v144) ∧ ex = (.exit 0) ∧ Weak S' ⟨52, 0, ofRegs [], []⟩)) ?_ ?_
      · refine Tri.loopF (fun (s145 : Int) => (⟨52, 0, ofRegs [(2, .ptr 0 0), (3, .ptr 1 0), (5, .v (.int .i64 s145))], [.var 24 [.sl (List.map encFile a.Files), .v (.int .i64 a.Room), .v (.int .i64 a.Fuse), .v (.bool a.Off)], .var 24 [.sl (List.map encFile b.Files), .v (.int .i64 b.Room), .v (.int .i64 b.Fuse), .v (.bool b.Off)]]⟩ : St)) q142 (weak_fin _ rfl rfl rfl (.cons (.same rfl) (.cons (.same rfl) (LeH.rest))) (.cons (.one (.same rfl)) (.cons (.one (.same rfl)) (.cons (.one (.same rfl)) (.nil)))) rfl rfl) ?_
        rintro a140 v146 hv r147
        have hv : ref03_Same_l2 a b a140 = some v146 := hv
        unfold ref03_Same_l2 at hv
        refine Tri.seqK ?_
        refine Tri.seqK ?_
        refine Tri.run (G := gm_ref03_Same) tyOk mixed ?_
        conv => whnf
        refine ⟨⟨(a.Files.length : Int), (len_map _ _).symm, ?_⟩⟩
        conv => whnf
        refine Tri.cond rfl (fun c149 => ?_) (fun c149 => ?_)
        · replace hv := if_t c149 hv
          refine Tri.run (G := gm_ref03_Same) tyOk mixed ?_
          conv => whnf
          refine Tri.seqK ?_
          refine Tri.block ?_
          refine Tri.seqK ?_
          refine Tri.run (G := gm_ref03_Same) tyOk mixed ?_
          conv => whnf
          refine Draw.one 11 (.take 0 (.take 1 (.take 2 (.take 3 (.take 4 (.take 5 (.take 6 (.take 7 (.take 8 (.take 9 (.take 10 (.fin)))))))))))) [] (by kernel_rfl) ?_
          conv => whnf
          replace hv := bind_some hv
          obtain ⟨x163, q164, hv⟩ := hv
          refine ⟨(ix_some q164).1, ?_⟩
          conv => whnf
          refine ⟨⟨_, map_get encFile (ix_some q164).2, ?_⟩⟩
          conv => whnf
          refine ⟨rfl, ?_⟩
          conv => whnf
          replace hv := bind_some hv
          obtain ⟨x165, q166, hv⟩ := hv
          refine ⟨(ix_some q166).1, ?_⟩
          conv => whnf
          refine ⟨⟨_, map_get encFile (ix_some q166).2, ?_⟩⟩
          conv => whnf
          refine ⟨rfl, ?_⟩
          conv => whnf
          refine ⟨⟨(!(decide (x163 = x165))), congrArg Bool.not (eq_File _ _), ?_⟩⟩
          conv => whnf
          refine Tri.cond rfl (fun c167 => ?_) (fun c167 => ?_)
          · replace hv := if_t c167 hv
            refine Tri.seqK ?_
            refine Tri.run (G := gm_ref03_Same) tyOk mixed ?_
            conv => whnf
            refine Tri.run (G := gm_ref03_Same) tyOk mixed ?_
            conv => whnf
            obtain rfl := Option.some.inj hv
            obtain rfl := r147 _ rfl
            exact Or.inl ⟨_, rfl, rfl, weak_fin _ rfl rfl rfl (LeH.rest) (.cons (.one (.same rfl)) (.nil)) rfl rfl⟩
          · replace hv := if_f c167 hv
            refine Tri.run (G := gm_ref03_Same) tyOk mixed ?_
            conv => whnf
            refine Tri.run (G := gm_ref03_Same) tyOk mixed ?_
            conv => whnf
            obtain rfl := Option.some.inj hv
            exact ⟨_, rfl, weak_fin _ rfl rfl rfl (.cons (.same rfl) (.cons (.same rfl) (LeH.rest))) (.cons (.one (.same rfl)) (.cons (.one (.same rfl)) (.cons (.one (.same rfl)) (.nil)))) rfl rfl⟩
        · replace hv := if_f c149 hv
          refine Tri.run (G := gm_ref03_Same) tyOk mixed ?_
          conv => whnf
          obtain rfl := Option.some.inj hv
          obtain rfl := r147 _ rfl
          exact Or.inr (⟨_, rfl, rfl, weak_fin _ rfl rfl rfl (LeH.rest) (.nil) rfl rfl⟩)
      · rintro ex S' (⟨v143, rfl, rfl, w168⟩ | ⟨v144, rfl, rfl, w168⟩)
        · dsimp only at h
          conv => whnf
          refine fin_pre w168 ?_
          conv => whnf
          obtain rfl := Option.some.inj h
          rfl
        · dsimp only at h
          conv => whnf
          refine Tri.weak w168 ?_
          refine Tri.seqK ?_
          refine Tri.run (G := gm_ref03_Same) tyOk mixed ?_
          conv => whnf
          refine Tri.run (G := gm_ref03_Same) tyOk mixed ?_
          conv => whnf
          refine fin_here ?_
          conv => whnf
          obtain rfl := Option.some.inj h
          rfl
noncomputable def law18_EpochNext (d : Disk) : Option (Bool) :=
  law18_shown.bind fun y1 =>
  (epoch_Next d).bind fun y3 =>
  (ref18_Next d).bind fun y5 =>
  (ref03_Same y3.1 y5.1).bind fun y7 =>
  if y1 then
    if y7 then
      if (decide (y3.2.1 = y5.2.1)) then
        some (decide (y3.2.2 = y5.2.2))
      else
        some false
    else
      some false
  else
    some false
def gm_law18_EpochNext : Gm := ⟨tys, [], [], []⟩
theorem law18_EpochNext_walk (d : Disk) (r : Bool) (h : law18_EpochNext d = some r) : PureP Try.prog 4 [.agg [.sl (List.map encFile d.Files), .v (.int .i64 d.Room), .v (.int .i64 d.Fuse), .v (.bool d.Off)]] (fun a => a = .v (.bool r)) := by
  unfold law18_EpochNext at h
  refine pureW (G := gm_law18_EpochNext) tyOk Try.func4 rfl (by kernel_rfl) (by simp [Try.f4]) ?_
  refine Tri.seqK ?_
  refine Tri.run (G := gm_law18_EpochNext) tyOk mixed ?_
  conv => whnf
  refine Tri.seqK ?_
  refine Tri.run (G := gm_law18_EpochNext) tyOk mixed ?_
  conv => whnf
  replace h := bind_some h
  obtain ⟨y1, q2, h⟩ := h
  refine PureP.mono (law18_shown_walk y1 q2) ?_
  rintro _ rfl
  conv => whnf
  refine Tri.seqK ?_
  refine Tri.run (G := gm_law18_EpochNext) tyOk mixed ?_
  conv => whnf
  replace h := bind_some h
  obtain ⟨y3, q4, h⟩ := h
  refine PureP.mono (epoch_Next_walk d y3 q4) ?_
  rintro _ rfl
  conv => whnf
  refine Tri.seqK ?_
  refine Tri.run (G := gm_law18_EpochNext) tyOk mixed ?_
  conv => whnf
  replace h := bind_some h
  obtain ⟨y5, q6, h⟩ := h
  refine PureP.mono (ref18_Next_walk d y5 q6) ?_
  rintro _ rfl
  conv => whnf
  refine Tri.seqK ?_
  refine Tri.run (G := gm_law18_EpochNext) tyOk mixed ?_
  conv => whnf
  replace h := bind_some h
  obtain ⟨y7, q8, h⟩ := h
  refine PureP.mono (ref03_Same_walk y3.1 y5.1 y7 q8) ?_
  rintro _ rfl
  conv => whnf
  refine Tri.seqK ?_
  refine Tri.run (G := gm_law18_EpochNext) tyOk mixed ?_
  conv => whnf
  refine cond_mk (fun c9 => ?_) (fun c9 => ?_)
  · replace h := if_t c9 h
    conv => whnf
    refine cond_mk (fun c10 => ?_) (fun c10 => ?_)
    · replace h := if_t c10 h
      conv => whnf
      refine cond_mk (fun c11 => ?_) (fun c11 => ?_)
      · replace h := if_t c11 h
        conv => whnf
        refine Tri.run (G := gm_law18_EpochNext) tyOk mixed ?_
        conv => whnf
        refine fin_here ?_
        conv => whnf
        obtain rfl := Option.some.inj h
        rfl
      · replace h := if_f c11 h
        conv => whnf
        refine Tri.run (G := gm_law18_EpochNext) tyOk mixed ?_
        conv => whnf
        refine fin_here ?_
        conv => whnf
        obtain rfl := Option.some.inj h
        rfl
    · replace h := if_f c10 h
      conv => whnf
      refine Tri.run (G := gm_law18_EpochNext) tyOk mixed ?_
      conv => whnf
      refine fin_here ?_
      conv => whnf
      obtain rfl := Option.some.inj h
      rfl
  · replace h := if_f c9 h
    conv => whnf
    refine Tri.run (G := gm_law18_EpochNext) tyOk mixed ?_
    conv => whnf
    refine fin_here ?_
    conv => whnf
    obtain rfl := Option.some.inj h
    rfl
noncomputable def law18_EpochBack (n : Int) (cut_ : Int) : Option (Bool) :=
  law18_shown.bind fun y1 =>
  (epoch_Bytes n).bind fun y3 =>
  if (!(decide (y3.2 = 0))) then
    if y1 then
      if (decide (n < 0)) then
        some true
      else
        some (decide (n > 1073741824))
    else
      some false
  else
    (epoch_Take y3.1).bind fun y11 =>
    if ((!(decide (y11.1 = n))) || (!(decide (y11.2 = 0)))) then
      some false
    else
      if ((decide (cut_ < 0)) || (decide (cut_ ≥ (y3.1.length : Int)))) then
        some y1
      else
        need (0 ≤ (0 : Int) ∧ 0 ≤ cut_ ∧ cut_ ≤ (y3.1.length : Int)) <|
        (epoch_Take (cut y3.1 0 cut_)).bind fun y38 =>
        if y1 then
          some (decide (y38.2 = 3))
        else
          some false
def gm_law18_EpochBack : Gm := ⟨tys, [], [], []⟩
theorem law18_EpochBack_walk (n : Int) (cut_ : Int) (r : Bool) (h : law18_EpochBack n cut_ = some r) : PureP Try.prog 5 [.v (.int .i64 n), .v (.int .i64 cut_)] (fun a => a = .v (.bool r)) := by
  unfold law18_EpochBack at h
  refine pureW (G := gm_law18_EpochBack) tyOk Try.func5 rfl (by kernel_rfl) (by simp [Try.f5]) ?_
  refine Tri.seqK ?_
  refine Tri.run (G := gm_law18_EpochBack) tyOk mixed ?_
  conv => whnf
  refine Tri.seqK ?_
  refine Tri.run (G := gm_law18_EpochBack) tyOk mixed ?_
  conv => whnf
  replace h := bind_some h
  obtain ⟨y1, q2, h⟩ := h
  refine PureP.mono (law18_shown_walk y1 q2) ?_
  rintro _ rfl
  conv => whnf
  refine Tri.seqK ?_
  refine Tri.run (G := gm_law18_EpochBack) tyOk mixed ?_
  conv => whnf
  replace h := bind_some h
  obtain ⟨y3, q4, h⟩ := h
  refine PureP.mono (epoch_Bytes_walk n y3 q4) ?_
  rintro _ rfl
  conv => whnf
  refine Tri.seqK ?_
  refine Tri.seqK ?_
  refine Tri.run (G := gm_law18_EpochBack) tyOk mixed ?_
  conv => whnf
  refine Tri.cond rfl (fun c8 => ?_) (fun c8 => ?_)
  · replace h := if_t c8 h
    refine Tri.seqK ?_
    refine Tri.run (G := gm_law18_EpochBack) tyOk mixed ?_
    conv => whnf
    refine cond_mk (fun c9 => ?_) (fun c9 => ?_)
    · replace h := if_t c9 h
      conv => whnf
      refine cond_mk (fun c10 => ?_) (fun c10 => ?_)
      · replace h := if_t c10 h
        conv => whnf
        refine Tri.run (G := gm_law18_EpochBack) tyOk mixed ?_
        conv => whnf
        refine fin_here ?_
        conv => whnf
        obtain rfl := Option.some.inj h
        rfl
      · replace h := if_f c10 h
        conv => whnf
        refine Tri.run (G := gm_law18_EpochBack) tyOk mixed ?_
        conv => whnf
        refine fin_here ?_
        conv => whnf
        obtain rfl := Option.some.inj h
        rfl
    · replace h := if_f c9 h
      conv => whnf
      refine Tri.run (G := gm_law18_EpochBack) tyOk mixed ?_
      conv => whnf
      refine fin_here ?_
      conv => whnf
      obtain rfl := Option.some.inj h
      rfl
  · replace h := if_f c8 h
    refine Tri.run (G := gm_law18_EpochBack) tyOk mixed ?_
    conv => whnf
    refine Tri.seqK ?_
    refine Tri.run (G := gm_law18_EpochBack) tyOk mixed ?_
    conv => whnf
    replace h := bind_some h
    obtain ⟨y11, q12, h⟩ := h
    refine PureP.mono (epoch_Take_walk y3.1 y11 q12) ?_
    rintro _ rfl
    conv => whnf
    refine Tri.seqK ?_
    refine Tri.seqK ?_
    refine Tri.cut (fun ex S' => ex = .normal ∧ Weak S' ⟨62, 0, ofRegs [(1, .v (.int .i64 cut_)), (5, .v (.bool y1)), (6, .v (.string (bs y3.1))), (40, .v (.bool ((!(decide (y11.1 = n))) || (!(decide (y11.2 = 0))))))], []⟩) ?_ ?_
    · refine Tri.run (G := gm_law18_EpochBack) tyOk mixed ?_
      conv => whnf
      refine cond_mk (fun c22 => ?_) (fun c22 => ?_)
      · replace c22 : (!(decide (y11.1 = n))) = true := c22
        conv => whnf
        exact ⟨rfl, weak_fin _ rfl rfl rfl (LeH.rest) (.cons (.one (.same rfl)) (.cons (.one (.same rfl)) (.cons (.one (.same rfl)) (.cons (.one (.same (show (.v (.bool true) : AV) = (.v (.bool ((!(decide (y11.1 = n))) || (!(decide (y11.2 = 0))))) : AV) from by first | (simp [c22]; done) | simp only [c22, Bool.or_true, Bool.true_or, Bool.false_or, Bool.or_false, Bool.and_true, Bool.true_and, Bool.and_false, Bool.false_and, Bool.not_true, Bool.not_false, if_true, if_false, Bool.false_eq_true]))) (.nil))))) rfl rfl⟩
      · replace c22 : (!(decide (y11.1 = n))) = false := c22
        conv => whnf
        exact ⟨rfl, weak_fin _ rfl rfl rfl (LeH.rest) (.cons (.one (.same rfl)) (.cons (.one (.same rfl)) (.cons (.one (.same rfl)) (.cons (.one (.same (show (.v (.bool (!(decide (y11.2 = 0)))) : AV) = (.v (.bool ((!(decide (y11.1 = n))) || (!(decide (y11.2 = 0))))) : AV) from by first | (simp [c22]; done) | simp only [c22, Bool.or_true, Bool.true_or, Bool.false_or, Bool.or_false, Bool.and_true, Bool.true_and, Bool.and_false, Bool.false_and, Bool.not_true, Bool.not_false, if_true, if_false, Bool.false_eq_true]))) (.nil))))) rfl rfl⟩
    · rintro ex S' ⟨rfl, w23⟩
      conv => whnf
      refine Tri.weak w23 ?_
      refine Tri.cond rfl (fun c24 => ?_) (fun c24 => ?_)
      · replace h := if_t c24 h
        refine Tri.seqK ?_
        refine Tri.run (G := gm_law18_EpochBack) tyOk mixed ?_
        conv => whnf
        refine Tri.run (G := gm_law18_EpochBack) tyOk mixed ?_
        conv => whnf
        refine fin_here ?_
        conv => whnf
        obtain rfl := Option.some.inj h
        rfl
      · replace h := if_f c24 h
        refine Tri.run (G := gm_law18_EpochBack) tyOk mixed ?_
        conv => whnf
        refine Tri.seqK ?_
        refine Tri.seqK ?_
        refine Tri.cut (fun ex S' => ex = .normal ∧ Weak S' ⟨62, 0, ofRegs [(1, .v (.int .i64 cut_)), (5, .v (.bool y1)), (6, .v (.string (bs y3.1))), (48, .v (.bool ((decide (cut_ < 0)) || (decide (cut_ ≥ (y3.1.length : Int))))))], []⟩) ?_ ?_
        · refine Tri.run (G := gm_law18_EpochBack) tyOk mixed ?_
          conv => whnf
          refine cond_mk (fun c34 => ?_) (fun c34 => ?_)
          · replace c34 : (decide (cut_ < 0)) = true := c34
            conv => whnf
            exact ⟨rfl, weak_fin _ rfl rfl rfl (LeH.rest) (.cons (.one (.same rfl)) (.cons (.one (.same rfl)) (.cons (.one (.same rfl)) (.cons (.one (.same (show (.v (.bool true) : AV) = (.v (.bool ((decide (cut_ < 0)) || (decide (cut_ ≥ (y3.1.length : Int))))) : AV) from by first | (simp [c34]; done) | simp only [c34, Bool.or_true, Bool.true_or, Bool.false_or, Bool.or_false, Bool.and_true, Bool.true_and, Bool.and_false, Bool.false_and, Bool.not_true, Bool.not_false, if_true, if_false, Bool.false_eq_true]))) (.nil))))) rfl rfl⟩
          · replace c34 : (decide (cut_ < 0)) = false := c34
            conv => whnf
            refine ⟨⟨(y3.1.length : Int), rfl, ?_⟩⟩
            conv => whnf
            exact ⟨rfl, weak_fin _ rfl rfl rfl (LeH.rest) (.cons (.one (.same rfl)) (.cons (.one (.same rfl)) (.cons (.one (.same rfl)) (.cons (.one (.same (show (.v (.bool (decide (cut_ ≥ (y3.1.length : Int)))) : AV) = (.v (.bool ((decide (cut_ < 0)) || (decide (cut_ ≥ (y3.1.length : Int))))) : AV) from by first | (simp [c34]; done) | simp only [c34, Bool.or_true, Bool.true_or, Bool.false_or, Bool.or_false, Bool.and_true, Bool.true_and, Bool.and_false, Bool.false_and, Bool.not_true, Bool.not_false, if_true, if_false, Bool.false_eq_true]))) (.nil))))) rfl rfl⟩
        · rintro ex S' ⟨rfl, w35⟩
          conv => whnf
          refine Tri.weak w35 ?_
          refine Tri.cond rfl (fun c36 => ?_) (fun c36 => ?_)
          · replace h := if_t c36 h
            refine Tri.seqK ?_
            refine Tri.run (G := gm_law18_EpochBack) tyOk mixed ?_
            conv => whnf
            refine Tri.run (G := gm_law18_EpochBack) tyOk mixed ?_
            conv => whnf
            refine fin_here ?_
            conv => whnf
            obtain rfl := Option.some.inj h
            rfl
          · replace h := if_f c36 h
            refine Tri.run (G := gm_law18_EpochBack) tyOk mixed ?_
            conv => whnf
            refine Tri.seqK ?_
            refine Tri.run (G := gm_law18_EpochBack) tyOk mixed ?_
            conv => whnf
            replace h := need_some h
            obtain ⟨p37, h⟩ := h
            refine ⟨p37, ?_⟩
            conv => whnf
            refine ⟨⟨bs (cut y3.1 0 cut_), bs_cut _ _ _, ?_⟩⟩
            conv => whnf
            replace h := bind_some h
            obtain ⟨y38, q39, h⟩ := h
            refine PureP.mono (epoch_Take_walk (cut y3.1 0 cut_) y38 q39) ?_
            rintro _ rfl
            conv => whnf
            refine Tri.seqK ?_
            refine Tri.run (G := gm_law18_EpochBack) tyOk mixed ?_
            conv => whnf
            refine cond_mk (fun c40 => ?_) (fun c40 => ?_)
            · replace h := if_t c40 h
              conv => whnf
              refine Tri.run (G := gm_law18_EpochBack) tyOk mixed ?_
              conv => whnf
              refine fin_here ?_
              conv => whnf
              obtain rfl := Option.some.inj h
              rfl
            · replace h := if_f c40 h
              conv => whnf
              refine Tri.run (G := gm_law18_EpochBack) tyOk mixed ?_
              conv => whnf
              refine fin_here ?_
              conv => whnf
              obtain rfl := Option.some.inj h
              rfl
noncomputable def ref03_Arm (d : Disk) (fuse : Int) : Option (Disk) :=
  some ({ Files := d.Files, Room := d.Room, Fuse := (if (decide (fuse < 0)) then (-1) else fuse), Off := d.Off } : Disk)
def gm_ref03_Arm : Gm := ⟨tys, [], [], []⟩
theorem ref03_Arm_walk (d : Disk) (fuse : Int) (r : Disk) (h : ref03_Arm d fuse = some r) : PureP Try.prog 20 [.agg [.sl (List.map encFile d.Files), .v (.int .i64 d.Room), .v (.int .i64 d.Fuse), .v (.bool d.Off)], .v (.int .i64 fuse)] (fun a => a = .agg [.sl (List.map encFile r.Files), .v (.int .i64 r.Room), .v (.int .i64 r.Fuse), .v (.bool r.Off)]) := by
  unfold ref03_Arm at h
  refine pureW (G := gm_ref03_Arm) tyOk Try.func20 rfl (by kernel_rfl) (by simp [Try.f20]) ?_
  refine Tri.seqK ?_
  refine Tri.run (G := gm_ref03_Arm) tyOk mixed ?_
  conv => whnf
  refine Tri.seqK ?_
  refine Tri.run (G := gm_ref03_Arm) tyOk mixed ?_
  conv => whnf
  refine Tri.seqK ?_
  refine Tri.cut (fun ex S' => ex = .normal ∧ Weak S' ⟨11, 0, ofRegs [(2, .ptr 0 0), (4, .ptr 1 0)], [.var 24 [.sl (List.map encFile d.Files), .v (.int .i64 d.Room), .v (.int .i64 (if (decide (fuse < 0)) then (-1) else fuse)), .v (.bool d.Off)], .var 24 [.v (.slice none 0 0), .v (.int .i64 0), .v (.int .i64 0), .v (.bool false)]]⟩) ?_ ?_
  · refine Tri.seqK ?_
    refine Tri.run (G := gm_ref03_Arm) tyOk mixed ?_
    conv => whnf
    refine Tri.cond rfl (fun c4 => ?_) (fun c4 => ?_)
    · replace c4 : (decide (fuse < 0)) = true := c4
      refine Tri.run (G := gm_ref03_Arm) tyOk mixed ?_
      conv => whnf
      exact ⟨rfl, weak_fin _ rfl rfl rfl (.cons (.var (.cons (.same rfl) (.cons (.same rfl) (.cons (.same (show (.v (.int .i64 (-1)) : AV) = (.v (.int .i64 (if (decide (fuse < 0)) then (-1) else fuse)) : AV) from by first | (simp [c4]; done) | simp only [c4, Bool.or_true, Bool.true_or, Bool.false_or, Bool.or_false, Bool.and_true, Bool.true_and, Bool.and_false, Bool.false_and, Bool.not_true, Bool.not_false, if_true, if_false, Bool.false_eq_true])) (.cons (.same rfl) (.nil)))))) (.cons (.same rfl) (LeH.rest))) (.cons (.one (.same rfl)) (.cons (.one (.same rfl)) (.nil))) rfl rfl⟩
    · replace c4 : (decide (fuse < 0)) = false := c4
      refine Tri.run (G := gm_ref03_Arm) tyOk mixed ?_
      conv => whnf
      exact ⟨rfl, weak_fin _ rfl rfl rfl (.cons (.var (.cons (.same rfl) (.cons (.same rfl) (.cons (.same (show (.v (.int .i64 fuse) : AV) = (.v (.int .i64 (if (decide (fuse < 0)) then (-1) else fuse)) : AV) from by first | (simp [c4]; done) | simp only [c4, Bool.or_true, Bool.true_or, Bool.false_or, Bool.or_false, Bool.and_true, Bool.true_and, Bool.and_false, Bool.false_and, Bool.not_true, Bool.not_false, if_true, if_false, Bool.false_eq_true])) (.cons (.same rfl) (.nil)))))) (.cons (.same rfl) (LeH.rest))) (.cons (.one (.same rfl)) (.cons (.one (.same rfl)) (.nil))) rfl rfl⟩
  · rintro ex S' ⟨rfl, w5⟩
    conv => whnf
    refine Tri.weak w5 ?_
    refine Tri.seqK ?_
    refine Tri.run (G := gm_ref03_Arm) tyOk mixed ?_
    conv => whnf
    refine Tri.run (G := gm_ref03_Arm) tyOk mixed ?_
    conv => whnf
    refine fin_here ?_
    conv => whnf
    obtain rfl := Option.some.inj h
    rfl
noncomputable def ref03_Crash_l2 (d : Disk) (keeps : (List Int)) (a884 : Int) (a885 : Int) (a886 : (List File)) : Option ((Int × Int × (List File)) ⊕ (Int × (List File))) :=
  if (decide (a884 < (d.Files.length : Int))) then
    (ix d.Files a884).bind fun x955 =>
    (
      (
        if (decide (a884 < (keeps.length : Int))) then
          (ix keeps a884).bind fun x998 =>
          some (decide (x998 > 0))
        else
          some false).bind fun (y995 : Bool) =>
      if y995 then
        (ix keeps a884).bind fun x1002 =>
        some x1002
      else
        some 0).bind fun (y987 : Int) =>
    need (0 ≤ (0 : Int) ∧ 0 ≤ (if (decide (y987 > (x955.Wait.length : Int))) then (x955.Wait.length : Int) else y987) ∧ (if (decide (y987 > (x955.Wait.length : Int))) then (x955.Wait.length : Int) else y987) ≤ (x955.Wait.length : Int)) <|
    need (x955.Safe.length + (cut x955.Wait 0 (if (decide (y987 > (x955.Wait.length : Int))) then (x955.Wait.length : Int) else y987)).length ≤ 9223372036854775807) <|
    need ((a886.length + 1) * 48 ≤ 140737488355328) <|
    some (.inl ((IntKind.i64.wrap (a884 + 1)), (IntKind.i64.wrap ((IntKind.i64.wrap (a885 + (x955.Wait.length : Int))) - (if (decide (y987 > (x955.Wait.length : Int))) then (x955.Wait.length : Int) else y987))), (a886 ++ [({ Name := x955.Name, Safe := (x955.Safe ++ (cut x955.Wait 0 (if (decide (y987 > (x955.Wait.length : Int))) then (x955.Wait.length : Int) else y987))), Wait := [] } : File)])))
  else
    some (.inr (a885, a886))
noncomputable def ref03_Crash (d : Disk) (keeps : (List Int)) : Option (Disk) :=
  (loop (fun (s889 : Int × Int × (List File)) => ref03_Crash_l2 d keeps s889.1 s889.2.1 s889.2.2) ((0 : Int), d.Room, ([] : (List File)))).bind fun (y887 : Int × (List File)) =>
  some ({ Files := y887.2, Room := y887.1, Fuse := (-1), Off := false } : Disk)
def gm_ref03_Crash : Gm := ⟨tys, [], [], []⟩
theorem ref03_Crash_walk (d : Disk) (keeps : (List Int)) (r : Disk) (h : ref03_Crash d keeps = some r) : PureP Try.prog 21 [.agg [.sl (List.map encFile d.Files), .v (.int .i64 d.Room), .v (.int .i64 d.Fuse), .v (.bool d.Off)], .sl (List.map (encI .i64) keeps)] (fun a => a = .agg [.sl (List.map encFile r.Files), .v (.int .i64 r.Room), .v (.int .i64 r.Fuse), .v (.bool r.Off)]) := by
  unfold ref03_Crash at h
  refine pureW (G := gm_ref03_Crash) tyOk Try.func21 rfl (by kernel_rfl) (by simp [Try.f21]) ?_
  refine Tri.seqK ?_
  refine Tri.run (G := gm_ref03_Crash) tyOk mixed ?_
  conv => whnf
  refine Tri.seqK ?_
  refine Tri.run (G := gm_ref03_Crash) tyOk mixed ?_
  conv => whnf
  refine Tri.seqK ?_
  refine Tri.seqK ?_
  refine Tri.run (G := gm_ref03_Crash) tyOk mixed ?_
  conv => whnf
  refine Tri.block ?_
  replace h := bind_some h
  obtain ⟨y887, q888, h⟩ := h
  refine Tri.cut (fun ex S' => ex = (.exit 0) ∧ Weak S' ⟨72, 0, ofRegs [(4, .ptr 1 0), (5, .ptr 2 0)], [.gone, .var 24 [.v (.slice none 0 0), .v (.int .i64 0), .v (.int .i64 0), .v (.bool false)], .var 24 [.row 3 ((List.map encFile y887.2).length), .v (.int .i64 y887.1), .v (.int .i64 (-1)), .v (.bool false)], .row 55 3 (List.map encFile y887.2)]⟩) ?_ ?_
  · refine Tri.loopF (fun (s889 : Int × Int × (List File)) => (⟨72, 0, ofRegs [(1, .sl (List.map (encI .i64) keeps)), (2, .ptr 0 0), (4, .ptr 1 0), (5, .ptr 2 0), (6, .v (.int .i64 s889.1))], [.var 24 [.sl (List.map encFile d.Files), .v (.int .i64 d.Room), .v (.int .i64 d.Fuse), .v (.bool d.Off)], .var 24 [.v (.slice none 0 0), .v (.int .i64 0), .v (.int .i64 0), .v (.bool false)], .var 24 [.row 3 ((List.map encFile s889.2.2).length), .v (.int .i64 s889.2.1), .v (.int .i64 (-1)), .v (.bool false)], .row 55 3 (List.map encFile s889.2.2)]⟩ : St)) q888 (Weak.trans (weak_nilcell 2 0 55 3 rfl rfl) (weak_fin _ rfl rfl rfl (.cons (.same rfl) (.cons (.same rfl) (.cons (.var (.cons (.same (show (.row 3 0 : AV) = (.row 3 ((List.map encFile []).length) : AV) from congrArg (AV.row 3) (by simp))) (.cons (.same rfl) (.cons (.same rfl) (.cons (.same rfl) (.nil)))))) (.cons (.same rfl) (LeH.rest))))) (.cons (.one (.same rfl)) (.cons (.one (.same rfl)) (.cons (.one (.same rfl)) (.cons (.one (.same rfl)) (.cons (.one (.same rfl)) (.nil)))))) rfl rfl)) ?_
    rintro ⟨a884, a885, a886⟩ v890 hv r891
    have hv : ref03_Crash_l2 d keeps a884 a885 a886 = some v890 := hv
    unfold ref03_Crash_l2 at hv
    dsimp only
    refine Tri.seqK ?_
    refine Tri.seqK ?_
    refine Tri.run (G := gm_ref03_Crash) tyOk mixed ?_
    conv => whnf
    refine ⟨⟨(d.Files.length : Int), (len_map _ _).symm, ?_⟩⟩
    conv => whnf
    refine Tri.cond rfl (fun c893 => ?_) (fun c893 => ?_)
    · replace hv := if_t c893 hv
      refine Tri.run (G := gm_ref03_Crash) tyOk mixed ?_
      conv => whnf
      refine Tri.seqK ?_
      refine Tri.block ?_
      refine Tri.seqK ?_
      refine Tri.run (G := gm_ref03_Crash) tyOk mixed ?_
      conv => whnf
      replace hv := bind_some hv
      obtain ⟨x955, q956, hv⟩ := hv
      refine ⟨(ix_some q956).1, ?_⟩
      conv => whnf
      refine ⟨⟨_, map_get encFile (ix_some q956).2, ?_⟩⟩
      conv => whnf
      refine ⟨rfl, ?_⟩
      conv => whnf
      refine Tri.seqK ?_
      refine Tri.run (G := gm_ref03_Crash) tyOk mixed ?_
      conv => whnf
      refine Tri.seqK ?_
      replace hv := bind_some hv
      obtain ⟨y987, q988, hv⟩ := hv
      refine Tri.cut (fun ex S' => ex = .normal ∧ Weak S' ⟨72, 0, ofRegs [(1, .sl (List.map (encI .i64) keeps)), (2, .ptr 0 0), (4, .ptr 1 0), (5, .ptr 2 0), (6, .v (.int .i64 a884)), (7, .ptr 4 0), (8, .v (.int .i64 y987))], [.var 24 [.sl (List.map encFile d.Files), .v (.int .i64 d.Room), .v (.int .i64 d.Fuse), .v (.bool d.Off)], .var 24 [.v (.slice none 0 0), .v (.int .i64 0), .v (.int .i64 0), .v (.bool false)], .var 24 [.row 3 ((List.map encFile a886).length), .v (.int .i64 a885), .v (.int .i64 (-1)), .v (.bool false)], .row 55 3 (List.map encFile a886), .var 55 [.v (.string (bs x955.Name)), .v (.string (bs x955.Safe)), .v (.string (bs x955.Wait))]]⟩) ?_ ?_
      · refine Tri.seqK ?_
        replace q988 := bind_some q988
        obtain ⟨y995, q996, q988⟩ := q988
        refine Tri.cut (fun ex S' => ex = .normal ∧ Weak S' ⟨72, 0, ofRegs [(1, .sl (List.map (encI .i64) keeps)), (2, .ptr 0 0), (4, .ptr 1 0), (5, .ptr 2 0), (6, .v (.int .i64 a884)), (7, .ptr 4 0), (8, .v (.int .i64 0)), (34, .v (.bool y995))], [.var 24 [.sl (List.map encFile d.Files), .v (.int .i64 d.Room), .v (.int .i64 d.Fuse), .v (.bool d.Off)], .var 24 [.v (.slice none 0 0), .v (.int .i64 0), .v (.int .i64 0), .v (.bool false)], .var 24 [.row 3 ((List.map encFile a886).length), .v (.int .i64 a885), .v (.int .i64 (-1)), .v (.bool false)], .row 55 3 (List.map encFile a886), .var 55 [.v (.string (bs x955.Name)), .v (.string (bs x955.Safe)), .v (.string (bs x955.Wait))]]⟩) ?_ ?_
        · refine Tri.run (G := gm_ref03_Crash) tyOk mixed ?_
          conv => whnf
          refine ⟨⟨(keeps.length : Int), (len_map _ _).symm, ?_⟩⟩
          conv => whnf
          refine cond_mk (fun c997 => ?_) (fun c997 => ?_)
          · replace q996 := if_t c997 q996
            conv => whnf
            replace q996 := bind_some q996
            obtain ⟨x998, q999, q996⟩ := q996
            refine ⟨(ix_some q999).1, ?_⟩
            conv => whnf
            refine ⟨⟨_, map_get (encI .i64) (ix_some q999).2, ?_⟩⟩
            conv => whnf
            refine ⟨rfl, ?_⟩
            conv => whnf
            obtain rfl := Option.some.inj q996
            exact ⟨rfl, weak_fin _ rfl rfl rfl (.cons (.same rfl) (.cons (.same rfl) (.cons (.same rfl) (.cons (.same rfl) (.cons (.same rfl) (LeH.rest)))))) (.cons (.one (.same rfl)) (.cons (.one (.same rfl)) (.cons (.one (.same rfl)) (.cons (.one (.same rfl)) (.cons (.one (.same rfl)) (.cons (.one (.same rfl)) (.cons (.one (.same rfl)) (.cons (.one (.same rfl)) (.nil))))))))) rfl rfl⟩
          · replace q996 := if_f c997 q996
            conv => whnf
            obtain rfl := Option.some.inj q996
            exact ⟨rfl, weak_fin _ rfl rfl rfl (.cons (.same rfl) (.cons (.same rfl) (.cons (.same rfl) (.cons (.same rfl) (.cons (.same rfl) (LeH.rest)))))) (.cons (.one (.same rfl)) (.cons (.one (.same rfl)) (.cons (.one (.same rfl)) (.cons (.one (.same rfl)) (.cons (.one (.same rfl)) (.cons (.one (.same rfl)) (.cons (.one (.same rfl)) (.cons (.one (.same rfl)) (.nil))))))))) rfl rfl⟩
        · rintro ex S' ⟨rfl, w1000⟩
          conv => whnf
          refine Tri.weak w1000 ?_
          refine Tri.cond rfl (fun c1001 => ?_) (fun c1001 => ?_)
          · replace q988 := if_t c1001 q988
            refine Tri.run (G := gm_ref03_Crash) tyOk mixed ?_
            conv => whnf
            replace q988 := bind_some q988
            obtain ⟨x1002, q1003, q988⟩ := q988
            refine ⟨(ix_some q1003).1, ?_⟩
            conv => whnf
            refine ⟨⟨_, map_get (encI .i64) (ix_some q1003).2, ?_⟩⟩
            conv => whnf
            refine ⟨rfl, ?_⟩
            conv => whnf
            obtain rfl := Option.some.inj q988
            exact ⟨rfl, weak_fin _ rfl rfl rfl (.cons (.same rfl) (.cons (.same rfl) (.cons (.same rfl) (.cons (.same rfl) (.cons (.same rfl) (LeH.rest)))))) (.cons (.one (.same rfl)) (.cons (.one (.same rfl)) (.cons (.one (.same rfl)) (.cons (.one (.same rfl)) (.cons (.one (.same rfl)) (.cons (.one (.same rfl)) (.cons (.one (.same rfl)) (.nil)))))))) rfl rfl⟩
          · replace q988 := if_f c1001 q988
            refine Tri.run (G := gm_ref03_Crash) tyOk mixed ?_
            conv => whnf
            obtain rfl := Option.some.inj q988
            exact ⟨rfl, weak_fin _ rfl rfl rfl (.cons (.same rfl) (.cons (.same rfl) (.cons (.same rfl) (.cons (.same rfl) (.cons (.same rfl) (LeH.rest)))))) (.cons (.one (.same rfl)) (.cons (.one (.same rfl)) (.cons (.one (.same rfl)) (.cons (.one (.same rfl)) (.cons (.one (.same rfl)) (.cons (.one (.same rfl)) (.cons (.one (.same rfl)) (.nil)))))))) rfl rfl⟩
      · rintro ex S' ⟨rfl, w1004⟩
        conv => whnf
        refine Tri.weak w1004 ?_
        refine Tri.seqK ?_
        refine Tri.cut (fun ex S' => ex = .normal ∧ Weak S' ⟨72, 0, ofRegs [(1, .sl (List.map (encI .i64) keeps)), (2, .ptr 0 0), (4, .ptr 1 0), (5, .ptr 2 0), (6, .v (.int .i64 a884)), (7, .ptr 4 0), (8, .v (.int .i64 (if (decide (y987 > (x955.Wait.length : Int))) then (x955.Wait.length : Int) else y987)))], [.var 24 [.sl (List.map encFile d.Files), .v (.int .i64 d.Room), .v (.int .i64 d.Fuse), .v (.bool d.Off)], .var 24 [.v (.slice none 0 0), .v (.int .i64 0), .v (.int .i64 0), .v (.bool false)], .var 24 [.row 3 ((List.map encFile a886).length), .v (.int .i64 a885), .v (.int .i64 (-1)), .v (.bool false)], .row 55 3 (List.map encFile a886), .var 55 [.v (.string (bs x955.Name)), .v (.string (bs x955.Safe)), .v (.string (bs x955.Wait))]]⟩) ?_ ?_
        · refine Tri.seqK ?_
          refine Tri.run (G := gm_ref03_Crash) tyOk mixed ?_
          conv => whnf
          refine ⟨⟨(x955.Wait.length : Int), rfl, ?_⟩⟩
          conv => whnf
          refine Tri.cond rfl (fun c1008 => ?_) (fun c1008 => ?_)
          · replace c1008 : (decide (y987 > (x955.Wait.length : Int))) = true := c1008
            refine Tri.run (G := gm_ref03_Crash) tyOk mixed ?_
            conv => whnf
            refine ⟨⟨(x955.Wait.length : Int), rfl, ?_⟩⟩
            conv => whnf
            exact ⟨rfl, weak_fin _ rfl rfl rfl (.cons (.same rfl) (.cons (.same rfl) (.cons (.same rfl) (.cons (.same rfl) (.cons (.same rfl) (LeH.rest)))))) (.cons (.one (.same rfl)) (.cons (.one (.same rfl)) (.cons (.one (.same rfl)) (.cons (.one (.same rfl)) (.cons (.one (.same rfl)) (.cons (.one (.same rfl)) (.cons (.one (.same (show (.v (.int .i64 (x955.Wait.length : Int)) : AV) = (.v (.int .i64 (if (decide (y987 > (x955.Wait.length : Int))) then (x955.Wait.length : Int) else y987)) : AV) from by first | (simp [c1008]; done) | simp only [c1008, Bool.or_true, Bool.true_or, Bool.false_or, Bool.or_false, Bool.and_true, Bool.true_and, Bool.and_false, Bool.false_and, Bool.not_true, Bool.not_false, if_true, if_false, Bool.false_eq_true]))) (.nil)))))))) rfl rfl⟩
          · replace c1008 : (decide (y987 > (x955.Wait.length : Int))) = false := c1008
            refine Tri.run (G := gm_ref03_Crash) tyOk mixed ?_
            conv => whnf
            exact ⟨rfl, weak_fin _ rfl rfl rfl (.cons (.same rfl) (.cons (.same rfl) (.cons (.same rfl) (.cons (.same rfl) (.cons (.same rfl) (LeH.rest)))))) (.cons (.one (.same rfl)) (.cons (.one (.same rfl)) (.cons (.one (.same rfl)) (.cons (.one (.same rfl)) (.cons (.one (.same rfl)) (.cons (.one (.same rfl)) (.cons (.one (.same (show (.v (.int .i64 y987) : AV) = (.v (.int .i64 (if (decide (y987 > (x955.Wait.length : Int))) then (x955.Wait.length : Int) else y987)) : AV) from by first | (simp [c1008]; done) | simp only [c1008, Bool.or_true, Bool.true_or, Bool.false_or, Bool.or_false, Bool.and_true, Bool.true_and, Bool.and_false, Bool.false_and, Bool.not_true, Bool.not_false, if_true, if_false, Bool.false_eq_true]))) (.nil)))))))) rfl rfl⟩
        · rintro ex S' ⟨rfl, w1009⟩
          conv => whnf
          refine Tri.weak w1009 ?_
          refine Tri.seqK ?_
          refine Tri.run (G := gm_ref03_Crash) tyOk mixed ?_
          conv => whnf
          refine ⟨⟨(x955.Wait.length : Int), rfl, ?_⟩⟩
          conv => whnf
          refine Tri.run (G := gm_ref03_Crash) tyOk mixed ?_
          conv => whnf
          refine Draw.one 15 (.take 0 (.take 1 (.take 2 (.take 3 (.take 4 (.take 5 (.take 6 (.take 7 (.take 8 (.take 9 (.take 10 (.take 11 (.alt 12 (.alt 13 (.take 14 (.fin)) (.nil)) (.nil)))))))))))))) [] (by kernel_rfl) ?_
          conv => whnf
          replace hv := need_some hv
          obtain ⟨p1013, hv⟩ := hv
          refine ⟨p1013, ?_⟩
          conv => whnf
          refine ⟨⟨bs (cut x955.Wait 0 (if (decide (y987 > (x955.Wait.length : Int))) then (x955.Wait.length : Int) else y987)), bs_cut _ _ _, ?_⟩⟩
          conv => whnf
          replace hv := need_some hv
          obtain ⟨p1014, hv⟩ := hv
          refine ⟨p1014, ?_⟩
          conv => whnf
          refine ⟨⟨bs (x955.Safe ++ (cut x955.Wait 0 (if (decide (y987 > (x955.Wait.length : Int))) then (x955.Wait.length : Int) else y987))), bs_append _ _, ?_⟩⟩
          conv => whnf
          refine ⟨?_, ?_⟩
          · conv => whnf
            refine ⟨⟨List.map encFile [({ Name := x955.Name, Safe := (x955.Safe ++ (cut x955.Wait 0 (if (decide (y987 > (x955.Wait.length : Int))) then (x955.Wait.length : Int) else y987))), Wait := [] } : File)], rfl, ?_⟩⟩
            conv => whnf
            refine ⟨?_, ?_⟩
            · conv => whnf
              refine ⟨rfl, ?_⟩
              conv => whnf
              refine ⟨rfl, ?_⟩
              conv => whnf
              replace hv := need_some hv
              obtain ⟨p1015, hv⟩ := hv
              refine ⟨by simp only [List.length_map]; exact p1015, ?_⟩
              conv => whnf
              refine ⟨⟨List.map encFile (a886 ++ [({ Name := x955.Name, Safe := (x955.Safe ++ (cut x955.Wait 0 (if (decide (y987 > (x955.Wait.length : Int))) then (x955.Wait.length : Int) else y987))), Wait := [] } : File)]), map_app encFile _ _ rfl rfl, ?_⟩⟩
              conv => whnf
              refine Tri.run (G := gm_ref03_Crash) tyOk mixed ?_
              conv => whnf
              obtain rfl := Option.some.inj hv
              exact ⟨_, rfl, weak_fin _ rfl rfl rfl (.cons (.same rfl) (.cons (.same rfl) (.cons (.same rfl) (.cons (.same rfl) (LeH.rest))))) (.cons (.one (.same rfl)) (.cons (.one (.same rfl)) (.cons (.one (.same rfl)) (.cons (.one (.same rfl)) (.cons (.one (.same rfl)) (.nil)))))) rfl rfl⟩
            · conv => whnf
              trivial
          · conv => whnf
            trivial
    · replace hv := if_f c893 hv
      refine Tri.run (G := gm_ref03_Crash) tyOk mixed ?_
      conv => whnf
      obtain rfl := Option.some.inj hv
      obtain rfl := r891 _ rfl
      exact ⟨rfl, weak_fin _ rfl rfl rfl (.cons (.gone) (.cons (.same rfl) (.cons (.same rfl) (.cons (.same rfl) (LeH.rest))))) (.cons (.one (.same rfl)) (.cons (.one (.same rfl)) (.nil))) rfl rfl⟩
  · rintro ex S' ⟨rfl, w1016⟩
    conv => whnf
    refine Tri.weak w1016 ?_
    refine Tri.seqK ?_
    refine Tri.run (G := gm_ref03_Crash) tyOk mixed ?_
    conv => whnf
    refine Tri.run (G := gm_ref03_Crash) tyOk mixed ?_
    conv => whnf
    refine fin_here ?_
    conv => whnf
    refine ⟨rfl, ?_⟩
    conv => whnf
    obtain rfl := Option.some.inj h
    rfl
end Go.Ab
