/- The program's functions as plain Lean functions, and that the program comes to what they come to. Printed by a program of this session. -/
import Derived.Test.YtdoceelfokmhfaaTy
import Derived.Test.YtdoceelfokmhfaaSh
namespace Go.Ab
open Go.Proofs
set_option linter.unusedVariables false
set_option linter.unusedSimpArgs false
set_option maxRecDepth 100000
set_option maxHeartbeats 4000000
noncomputable def ref09_Key (mode : Int) (key : Str) : Option (Want) :=
  need (key.length + ([0] : Str).length ≤ 9223372036854775807) <|
  some ({ Mode := mode, Lo := key, Hi := (key ++ [0]) } : Want)
def gm_ref09_Key : Gm := ⟨tys, [], [], []⟩
theorem ref09_Key_walk (mode : Int) (key : Str) (r : Want) (h : ref09_Key mode key = some r) : PureP Try.prog 46 [.v (.int .i64 mode), .v (.string (bs key))] (fun a => a = .agg [.v (.int .i64 r.Mode), .v (.string (bs r.Lo)), .v (.string (bs r.Hi))]) := by
  unfold ref09_Key at h
  refine pureW (G := gm_ref09_Key) tyOk Try.func46 rfl (by kernel_rfl) (by simp [Try.f46]) ?_
  refine Tri.seqK ?_
  refine Tri.run (G := gm_ref09_Key) tyOk mixed ?_
  conv => whnf
  refine Tri.seqK ?_
  refine Tri.run (G := gm_ref09_Key) tyOk mixed ?_
  conv => whnf
  replace h := need_some h
  obtain ⟨p1, h⟩ := h
  refine ⟨p1, ?_⟩
  conv => whnf
  refine ⟨⟨bs (key ++ [0]), bs_append _ _, ?_⟩⟩
  conv => whnf
  refine Tri.run (G := gm_ref09_Key) tyOk mixed ?_
  conv => whnf
  refine fin_here ?_
  conv => whnf
  cases h
  rfl
noncomputable def ref01_Less_l2 (a : Str) (b : Str) (a162 : Int) : Option ((Int) ⊕ ((Bool) ⊕ (Unit))) :=
  if ((decide (a162 < (a.length : Int))) && (decide (a162 < (b.length : Int)))) then
    (ix a a162).bind fun x195 =>
    (ix b a162).bind fun x197 =>
    if (!(decide ((x195.toNat : Int) = (x197.toNat : Int)))) then
      some (.inr (.inl (decide ((x195.toNat : Int) < (x197.toNat : Int)))))
    else
      some (.inl (IntKind.i64.wrap (a162 + 1)))
  else
    some (.inr (.inr ()))
noncomputable def ref01_Less (a : Str) (b : Str) : Option (Bool) :=
  (loop (fun (s167 : Int) => ref01_Less_l2 a b s167) (0 : Int)).bind fun (y163 : (Bool) ⊕ (Unit)) =>
  match y163 with
  | (.inl v165) =>
    some v165
  | (.inr v166) =>
    some (decide ((a.length : Int) < (b.length : Int)))
def gm_ref01_Less : Gm := ⟨tys, [], [], []⟩
theorem ref01_Less_walk (a : Str) (b : Str) (r : Bool) (h : ref01_Less a b = some r) : PureP Try.prog 71 [.v (.string (bs a)), .v (.string (bs b))] (fun a => a = .v (.bool r)) := by
  unfold ref01_Less at h
  refine pureW (G := gm_ref01_Less) tyOk Try.func71 rfl (by kernel_rfl) (by simp [Try.f71]) ?_
  refine Tri.seqK ?_
  refine Tri.run (G := gm_ref01_Less) tyOk mixed ?_
  conv => whnf
  refine Tri.seqK ?_
  refine Tri.seqK ?_
  refine Tri.run (G := gm_ref01_Less) tyOk mixed ?_
  conv => whnf
  refine Tri.block ?_
  replace h := bind_some h
  obtain ⟨y163, q164, h⟩ := h
  refine Tri.cut (fun ex S' => (∃ v165 : Bool, y163 = (.inl v165) ∧ ex = .ret ∧ Weak S' ⟨37, 0, ofRegs [(4, .v (.bool v165))], []⟩) ∨ (∃ v166 : Unit, y163 = (.inr v166) ∧ ex = (.exit 0) ∧ Weak S' ⟨37, 0, ofRegs [(0, .v (.string (bs a))), (1, .v (.string (bs b)))], []⟩)) ?_ ?_
  · refine Tri.loopF (fun (s167 : Int) => (⟨37, 0, ofRegs [(0, .v (.string (bs a))), (1, .v (.string (bs b))), (5, .v (.int .i64 s167))], []⟩ : St)) q164 (weak_fin _ rfl rfl rfl (LeH.rest) (.cons (.one (.same rfl)) (.cons (.one (.same rfl)) (.cons (.one (.same rfl)) (.nil)))) rfl rfl) ?_
    rintro a162 v168 hv r169
    have hv : ref01_Less_l2 a b a162 = some v168 := hv
    unfold ref01_Less_l2 at hv
    refine Tri.seqK ?_
    refine Tri.seqK ?_
    refine Tri.cut (fun ex S' => ex = .normal ∧ Weak S' ⟨37, 0, ofRegs [(0, .v (.string (bs a))), (1, .v (.string (bs b))), (5, .v (.int .i64 a162)), (15, .v (.bool ((decide (a162 < (a.length : Int))) && (decide (a162 < (b.length : Int))))))], []⟩) ?_ ?_
    · refine Tri.run (G := gm_ref01_Less) tyOk mixed ?_
      conv => whnf
      refine ⟨⟨(a.length : Int), rfl, ?_⟩⟩
      conv => whnf
      refine cond_mk (fun c179 => ?_) (fun c179 => ?_)
      · replace c179 : (decide (a162 < (a.length : Int))) = true := c179
        conv => whnf
        refine ⟨⟨(b.length : Int), rfl, ?_⟩⟩
        conv => whnf
        exact ⟨rfl, weak_fin _ rfl rfl rfl (LeH.rest) (.cons (.one (.same rfl)) (.cons (.one (.same rfl)) (.cons (.one (.same rfl)) (.cons (.one (.same (show (.v (.bool (decide (a162 < (b.length : Int)))) : AV) = (.v (.bool ((decide (a162 < (a.length : Int))) && (decide (a162 < (b.length : Int))))) : AV) from by first | (simp [c179]; done) | simp only [c179, Bool.or_true, Bool.true_or, Bool.false_or, Bool.or_false, Bool.and_true, Bool.true_and, Bool.and_false, Bool.false_and, Bool.not_true, Bool.not_false, if_true, if_false, Bool.false_eq_true]))) (.nil))))) rfl rfl⟩
      · replace c179 : (decide (a162 < (a.length : Int))) = false := c179
        conv => whnf
        exact ⟨rfl, weak_fin _ rfl rfl rfl (LeH.rest) (.cons (.one (.same rfl)) (.cons (.one (.same rfl)) (.cons (.one (.same rfl)) (.cons (.one (.same (show (.v (.bool false) : AV) = (.v (.bool ((decide (a162 < (a.length : Int))) && (decide (a162 < (b.length : Int))))) : AV) from by first | (simp [c179]; done) | simp only [c179, Bool.or_true, Bool.true_or, Bool.false_or, Bool.or_false, Bool.and_true, Bool.true_and, Bool.and_false, Bool.false_and, Bool.not_true, Bool.not_false, if_true, if_false, Bool.false_eq_true]))) (.nil))))) rfl rfl⟩
    · rintro ex S' ⟨rfl, w180⟩
      conv => whnf
      refine Tri.weak w180 ?_
      refine Tri.cond rfl (fun c181 => ?_) (fun c181 => ?_)
      · replace hv := if_t c181 hv
        refine Tri.run (G := gm_ref01_Less) tyOk mixed ?_
        conv => whnf
        refine Tri.seqK ?_
        refine Tri.block ?_
        refine Tri.seqK ?_
        refine Tri.run (G := gm_ref01_Less) tyOk mixed ?_
        conv => whnf
        refine Draw.one 7 (.take 0 (.take 1 (.take 2 (.take 3 (.take 4 (.take 5 (.take 6 (.fin)))))))) [] (by kernel_rfl) ?_
        conv => whnf
        replace hv := bind_some hv
        obtain ⟨x195, q196, hv⟩ := hv
        refine ⟨bs_bound q196, ?_⟩
        conv => whnf
        refine ⟨⟨(x195.toNat : Int), bs_at q196, ?_⟩⟩
        conv => whnf
        replace hv := bind_some hv
        obtain ⟨x197, q198, hv⟩ := hv
        refine ⟨bs_bound q198, ?_⟩
        conv => whnf
        refine ⟨⟨(x197.toNat : Int), bs_at q198, ?_⟩⟩
        conv => whnf
        refine Tri.cond rfl (fun c199 => ?_) (fun c199 => ?_)
        · replace hv := if_t c199 hv
          refine Tri.seqK ?_
          refine Tri.run (G := gm_ref01_Less) tyOk mixed ?_
          conv => whnf
          refine Draw.one 8 (.take 0 (.take 1 (.take 2 (.take 3 (.take 4 (.take 5 (.take 6 (.take 7 (.fin))))))))) [] (by kernel_rfl) ?_
          conv => whnf
          refine ⟨bs_bound q196, ?_⟩
          conv => whnf
          refine ⟨⟨(x195.toNat : Int), bs_at q196, ?_⟩⟩
          conv => whnf
          refine ⟨bs_bound q198, ?_⟩
          conv => whnf
          refine ⟨⟨(x197.toNat : Int), bs_at q198, ?_⟩⟩
          conv => whnf
          refine Tri.run (G := gm_ref01_Less) tyOk mixed ?_
          conv => whnf
          cases hv
          obtain rfl := r169 _ rfl
          exact Or.inl ⟨_, rfl, rfl, weak_fin _ rfl rfl rfl (LeH.rest) (.cons (.one (.same rfl)) (.nil)) rfl rfl⟩
        · replace hv := if_f c199 hv
          refine Tri.run (G := gm_ref01_Less) tyOk mixed ?_
          conv => whnf
          refine Tri.run (G := gm_ref01_Less) tyOk mixed ?_
          conv => whnf
          cases hv
          exact ⟨_, rfl, weak_fin _ rfl rfl rfl (LeH.rest) (.cons (.one (.same rfl)) (.cons (.one (.same rfl)) (.cons (.one (.same rfl)) (.nil)))) rfl rfl⟩
      · replace hv := if_f c181 hv
        refine Tri.run (G := gm_ref01_Less) tyOk mixed ?_
        conv => whnf
        cases hv
        obtain rfl := r169 _ rfl
        exact Or.inr (⟨_, rfl, rfl, weak_fin _ rfl rfl rfl (LeH.rest) (.cons (.one (.same rfl)) (.cons (.one (.same rfl)) (.nil))) rfl rfl⟩)
  · rintro ex S' (⟨v165, rfl, rfl, w200⟩ | ⟨v166, rfl, rfl, w200⟩)
    · dsimp only at h
      conv => whnf
      refine fin_pre w200 ?_
      conv => whnf
      cases h
      rfl
    · dsimp only at h
      conv => whnf
      refine Tri.weak w200 ?_
      refine Tri.seqK ?_
      refine Tri.run (G := gm_ref01_Less) tyOk mixed ?_
      conv => whnf
      refine ⟨⟨(a.length : Int), rfl, ?_⟩⟩
      conv => whnf
      refine ⟨⟨(b.length : Int), rfl, ?_⟩⟩
      conv => whnf
      refine Tri.run (G := gm_ref01_Less) tyOk mixed ?_
      conv => whnf
      refine fin_here ?_
      conv => whnf
      cases h
      rfl
noncomputable def ref09_May (w : Want) : Option (Bool) :=
  (
    if (decide (w.Hi = [])) then
      some true
    else
      (ref01_Less w.Lo w.Hi).bind fun y10 =>
      some y10).bind fun (y7 : Bool) =>
  if y7 then
    if (decide (w.Mode = 1)) then
      some true
    else
      some (decide (w.Mode = 2))
  else
    some false
def gm_ref09_May : Gm := ⟨tys, [], [], []⟩
theorem ref09_May_walk (w : Want) (r : Bool) (h : ref09_May w = some r) : PureP Try.prog 69 [.agg [.v (.int .i64 w.Mode), .v (.string (bs w.Lo)), .v (.string (bs w.Hi))]] (fun a => a = .v (.bool r)) := by
  unfold ref09_May at h
  refine pureW (G := gm_ref09_May) tyOk Try.func69 rfl (by kernel_rfl) (by simp [Try.f69]) ?_
  refine Tri.seqK ?_
  refine Tri.run (G := gm_ref09_May) tyOk mixed ?_
  conv => whnf
  refine Tri.seqK ?_
  replace h := bind_some h
  obtain ⟨y7, q8, h⟩ := h
  refine Tri.cut (fun ex S' => ex = .normal ∧ Weak S' ⟨25, 0, ofRegs [(1, .ptr 0 0), (3, .v (.bool y7))], [.var 44 [.v (.int .i64 w.Mode), .v (.string (bs w.Lo)), .v (.string (bs w.Hi))]]⟩) ?_ ?_
  · refine Tri.run (G := gm_ref09_May) tyOk mixed ?_
    conv => whnf
    refine ⟨⟨(decide (w.Hi = [])), bs_eq _ _, ?_⟩⟩
    conv => whnf
    refine cond_mk (fun c9 => ?_) (fun c9 => ?_)
    · replace q8 := if_t c9 q8
      conv => whnf
      cases q8
      exact ⟨rfl, weak_fin _ rfl rfl rfl (.cons (.same rfl) (LeH.rest)) (.cons (.one (.same rfl)) (.cons (.one (.same rfl)) (.nil))) rfl rfl⟩
    · replace q8 := if_f c9 q8
      conv => whnf
      replace q8 := bind_some q8
      obtain ⟨y10, q11, q8⟩ := q8
      refine PureP.mono (ref01_Less_walk w.Lo w.Hi y10 q11) ?_
      rintro _ rfl
      conv => whnf
      cases q8
      exact ⟨rfl, weak_fin _ rfl rfl rfl (.cons (.same rfl) (LeH.rest)) (.cons (.one (.same rfl)) (.cons (.one (.same rfl)) (.nil))) rfl rfl⟩
  · rintro ex S' ⟨rfl, w12⟩
    conv => whnf
    refine Tri.weak w12 ?_
    refine Tri.seqK ?_
    refine Tri.run (G := gm_ref09_May) tyOk mixed ?_
    conv => whnf
    refine cond_mk (fun c13 => ?_) (fun c13 => ?_)
    · replace h := if_t c13 h
      conv => whnf
      refine cond_mk (fun c14 => ?_) (fun c14 => ?_)
      · replace h := if_t c14 h
        conv => whnf
        refine Tri.run (G := gm_ref09_May) tyOk mixed ?_
        conv => whnf
        refine fin_here ?_
        conv => whnf
        cases h
        rfl
      · replace h := if_f c14 h
        conv => whnf
        refine Tri.run (G := gm_ref09_May) tyOk mixed ?_
        conv => whnf
        refine fin_here ?_
        conv => whnf
        cases h
        rfl
    · replace h := if_f c13 h
      conv => whnf
      refine Tri.run (G := gm_ref09_May) tyOk mixed ?_
      conv => whnf
      refine fin_here ?_
      conv => whnf
      cases h
      rfl
noncomputable def ref10_Waits_l2 (l : Locks) (txn : Int) (a52 : Int) : Option ((Int) ⊕ ((Unit) ⊕ (Unit))) :=
  if (decide (a52 < (l.Queue.length : Int))) then
    (ix l.Queue a52).bind fun x65 =>
    if (decide (x65.Txn = txn)) then
      some (.inr (.inl ()))
    else
      some (.inl (IntKind.i64.wrap (a52 + 1)))
  else
    some (.inr (.inr ()))
noncomputable def ref10_Waits (l : Locks) (txn : Int) : Option (Bool) :=
  (loop (fun (s57 : Int) => ref10_Waits_l2 l txn s57) (0 : Int)).bind fun (y53 : (Unit) ⊕ (Unit)) =>
  match y53 with
  | (.inl v55) =>
    some true
  | (.inr v56) =>
    some false
def gm_ref10_Waits : Gm := ⟨tys, [], [], []⟩
theorem ref10_Waits_walk (l : Locks) (txn : Int) (r : Bool) (h : ref10_Waits l txn = some r) : PureP Try.prog 45 [.agg [.sl (List.map encHold l.Held), .sl (List.map encClaim l.Queue)], .v (.int .i64 txn)] (fun a => a = .v (.bool r)) := by
  unfold ref10_Waits at h
  refine pureW (G := gm_ref10_Waits) tyOk Try.func45 rfl (by kernel_rfl) (by simp [Try.f45]) ?_
  refine Tri.seqK ?_
  refine Tri.run (G := gm_ref10_Waits) tyOk mixed ?_
  conv => whnf
  refine Tri.seqK ?_
  refine Tri.seqK ?_
  refine Tri.run (G := gm_ref10_Waits) tyOk mixed ?_
  conv => whnf
  refine Tri.block ?_
  replace h := bind_some h
  obtain ⟨y53, q54, h⟩ := h
  refine Tri.cut (fun ex S' => (∃ v55 : Unit, y53 = (.inl v55) ∧ ex = .ret ∧ Weak S' ⟨21, 0, ofRegs [(4, .v (.bool true))], []⟩) ∨ (∃ v56 : Unit, y53 = (.inr v56) ∧ ex = (.exit 0) ∧ Weak S' ⟨21, 0, ofRegs [], []⟩)) ?_ ?_
  · refine Tri.loopF (fun (s57 : Int) => (⟨21, 0, ofRegs [(1, .v (.int .i64 txn)), (2, .ptr 0 0), (5, .v (.int .i64 s57))], [.var 25 [.sl (List.map encHold l.Held), .sl (List.map encClaim l.Queue)]]⟩ : St)) q54 (weak_fin _ rfl rfl rfl (.cons (.same rfl) (LeH.rest)) (.cons (.one (.same rfl)) (.cons (.one (.same rfl)) (.cons (.one (.same rfl)) (.nil)))) rfl rfl) ?_
    rintro a52 v58 hv r59
    have hv : ref10_Waits_l2 l txn a52 = some v58 := hv
    unfold ref10_Waits_l2 at hv
    refine Tri.seqK ?_
    refine Tri.seqK ?_
    refine Tri.run (G := gm_ref10_Waits) tyOk mixed ?_
    conv => whnf
    refine ⟨⟨(l.Queue.length : Int), (len_map _ _).symm, ?_⟩⟩
    conv => whnf
    refine Tri.cond rfl (fun c61 => ?_) (fun c61 => ?_)
    · replace hv := if_t c61 hv
      refine Tri.run (G := gm_ref10_Waits) tyOk mixed ?_
      conv => whnf
      refine Tri.seqK ?_
      refine Tri.block ?_
      refine Tri.seqK ?_
      refine Tri.run (G := gm_ref10_Waits) tyOk mixed ?_
      conv => whnf
      replace hv := bind_some hv
      obtain ⟨x65, q66, hv⟩ := hv
      refine ⟨(ix_some q66).1, ?_⟩
      conv => whnf
      refine ⟨⟨_, map_get encClaim (ix_some q66).2, ?_⟩⟩
      conv => whnf
      refine ⟨rfl, ?_⟩
      conv => whnf
      refine Tri.cond rfl (fun c67 => ?_) (fun c67 => ?_)
      · replace hv := if_t c67 hv
        refine Tri.seqK ?_
        refine Tri.run (G := gm_ref10_Waits) tyOk mixed ?_
        conv => whnf
        refine Tri.run (G := gm_ref10_Waits) tyOk mixed ?_
        conv => whnf
        cases hv
        obtain rfl := r59 _ rfl
        exact Or.inl ⟨_, rfl, rfl, weak_fin _ rfl rfl rfl (LeH.rest) (.cons (.one (.same rfl)) (.nil)) rfl rfl⟩
      · replace hv := if_f c67 hv
        refine Tri.run (G := gm_ref10_Waits) tyOk mixed ?_
        conv => whnf
        refine Tri.run (G := gm_ref10_Waits) tyOk mixed ?_
        conv => whnf
        cases hv
        exact ⟨_, rfl, weak_fin _ rfl rfl rfl (.cons (.same rfl) (LeH.rest)) (.cons (.one (.same rfl)) (.cons (.one (.same rfl)) (.cons (.one (.same rfl)) (.nil)))) rfl rfl⟩
    · replace hv := if_f c61 hv
      refine Tri.run (G := gm_ref10_Waits) tyOk mixed ?_
      conv => whnf
      cases hv
      obtain rfl := r59 _ rfl
      exact Or.inr (⟨_, rfl, rfl, weak_fin _ rfl rfl rfl (LeH.rest) (.nil) rfl rfl⟩)
  · rintro ex S' (⟨v55, rfl, rfl, w68⟩ | ⟨v56, rfl, rfl, w68⟩)
    · dsimp only at h
      conv => whnf
      refine fin_pre w68 ?_
      conv => whnf
      cases h
      rfl
    · dsimp only at h
      conv => whnf
      refine Tri.weak w68 ?_
      refine Tri.seqK ?_
      refine Tri.run (G := gm_ref10_Waits) tyOk mixed ?_
      conv => whnf
      refine Tri.run (G := gm_ref10_Waits) tyOk mixed ?_
      conv => whnf
      refine fin_here ?_
      conv => whnf
      cases h
      rfl
noncomputable def ref09_In (w : Want) (key : Str) : Option (Bool) :=
  (ref01_Less key w.Lo).bind fun y1 =>
  if (!y1) then
    if (decide (w.Hi = [])) then
      some true
    else
      (ref01_Less key w.Hi).bind fun y5 =>
      some y5
  else
    some false
def gm_ref09_In : Gm := ⟨tys, [], [], []⟩
theorem ref09_In_walk (w : Want) (key : Str) (r : Bool) (h : ref09_In w key = some r) : PureP Try.prog 70 [.agg [.v (.int .i64 w.Mode), .v (.string (bs w.Lo)), .v (.string (bs w.Hi))], .v (.string (bs key))] (fun a => a = .v (.bool r)) := by
  unfold ref09_In at h
  refine pureW (G := gm_ref09_In) tyOk Try.func70 rfl (by kernel_rfl) (by simp [Try.f70]) ?_
  refine Tri.seqK ?_
  refine Tri.run (G := gm_ref09_In) tyOk mixed ?_
  conv => whnf
  refine Tri.seqK ?_
  refine Tri.run (G := gm_ref09_In) tyOk mixed ?_
  conv => whnf
  replace h := bind_some h
  obtain ⟨y1, q2, h⟩ := h
  refine PureP.mono (ref01_Less_walk key w.Lo y1 q2) ?_
  rintro _ rfl
  conv => whnf
  refine Tri.seqK ?_
  refine Tri.run (G := gm_ref09_In) tyOk mixed ?_
  conv => whnf
  refine cond_mk (fun c3 => ?_) (fun c3 => ?_)
  · replace h := if_t c3 h
    conv => whnf
    refine ⟨⟨(decide (w.Hi = [])), bs_eq _ _, ?_⟩⟩
    conv => whnf
    refine cond_mk (fun c4 => ?_) (fun c4 => ?_)
    · replace h := if_t c4 h
      conv => whnf
      refine Tri.run (G := gm_ref09_In) tyOk mixed ?_
      conv => whnf
      refine fin_here ?_
      conv => whnf
      cases h
      rfl
    · replace h := if_f c4 h
      conv => whnf
      replace h := bind_some h
      obtain ⟨y5, q6, h⟩ := h
      refine PureP.mono (ref01_Less_walk key w.Hi y5 q6) ?_
      rintro _ rfl
      conv => whnf
      refine Tri.run (G := gm_ref09_In) tyOk mixed ?_
      conv => whnf
      refine fin_here ?_
      conv => whnf
      cases h
      rfl
  · replace h := if_f c3 h
    conv => whnf
    refine Tri.run (G := gm_ref09_In) tyOk mixed ?_
    conv => whnf
    refine fin_here ?_
    conv => whnf
    cases h
    rfl
noncomputable def ref09_Covers (a : Want) (b : Want) : Option (Bool) :=
  (ref09_May b).bind fun y1 =>
  if ((!y1) || ((!(decide (a.Mode = 2))) && (decide (b.Mode = 2)))) then
    some false
  else
    (ref09_In a b.Lo).bind fun y23 =>
    if (!y23) then
      some false
    else
      if (decide (a.Hi = [])) then
        some true
      else
        (ref01_Less a.Hi b.Hi).bind fun y29 =>
        if (!decide (b.Hi = [])) then
          some (!y29)
        else
          some false
def gm_ref09_Covers : Gm := ⟨tys, [], [], []⟩
theorem ref09_Covers_walk (a : Want) (b : Want) (r : Bool) (h : ref09_Covers a b = some r) : PureP Try.prog 38 [.agg [.v (.int .i64 a.Mode), .v (.string (bs a.Lo)), .v (.string (bs a.Hi))], .agg [.v (.int .i64 b.Mode), .v (.string (bs b.Lo)), .v (.string (bs b.Hi))]] (fun a => a = .v (.bool r)) := by
  unfold ref09_Covers at h
  refine pureW (G := gm_ref09_Covers) tyOk Try.func38 rfl (by kernel_rfl) (by simp [Try.f38]) ?_
  refine Tri.seqK ?_
  refine Tri.run (G := gm_ref09_Covers) tyOk mixed ?_
  conv => whnf
  refine Tri.seqK ?_
  refine Tri.run (G := gm_ref09_Covers) tyOk mixed ?_
  conv => whnf
  replace h := bind_some h
  obtain ⟨y1, q2, h⟩ := h
  refine PureP.mono (ref09_May_walk b y1 q2) ?_
  rintro _ rfl
  conv => whnf
  refine Tri.seqK ?_
  refine Tri.seqK ?_
  refine Tri.cut (fun ex S' => ex = .normal ∧ Weak S' ⟨43, 0, ofRegs [(2, .ptr 0 0), (3, .ptr 1 0), (21, .v (.bool ((!y1) || ((!(decide (a.Mode = 2))) && (decide (b.Mode = 2))))))], [.var 44 [.v (.int .i64 a.Mode), .v (.string (bs a.Lo)), .v (.string (bs a.Hi))], .var 44 [.v (.int .i64 b.Mode), .v (.string (bs b.Lo)), .v (.string (bs b.Hi))]]⟩) ?_ ?_
  · refine Tri.run (G := gm_ref09_Covers) tyOk mixed ?_
    conv => whnf
    refine cond_mk (fun c19 => ?_) (fun c19 => ?_)
    · replace c19 : (!y1) = true := c19
      conv => whnf
      exact ⟨rfl, weak_fin _ rfl rfl rfl (.cons (.same rfl) (.cons (.same rfl) (LeH.rest))) (.cons (.one (.same rfl)) (.cons (.one (.same rfl)) (.cons (.one (.same (show (.v (.bool true) : AV) = (.v (.bool ((!y1) || ((!(decide (a.Mode = 2))) && (decide (b.Mode = 2))))) : AV) from by first | (simp [c19]; done) | simp only [c19, Bool.or_true, Bool.true_or, Bool.false_or, Bool.or_false, Bool.and_true, Bool.true_and, Bool.and_false, Bool.false_and, Bool.not_true, Bool.not_false, if_true, if_false, Bool.false_eq_true]))) (.nil)))) rfl rfl⟩
    · replace c19 : (!y1) = false := c19
      conv => whnf
      refine cond_mk (fun c20 => ?_) (fun c20 => ?_)
      · replace c20 : (!(decide (a.Mode = 2))) = true := c20
        conv => whnf
        exact ⟨rfl, weak_fin _ rfl rfl rfl (.cons (.same rfl) (.cons (.same rfl) (LeH.rest))) (.cons (.one (.same rfl)) (.cons (.one (.same rfl)) (.cons (.one (.same (show (.v (.bool (decide (b.Mode = 2))) : AV) = (.v (.bool ((!y1) || ((!(decide (a.Mode = 2))) && (decide (b.Mode = 2))))) : AV) from by first | (simp [c19, c20]; done) | simp only [c19, c20, Bool.or_true, Bool.true_or, Bool.false_or, Bool.or_false, Bool.and_true, Bool.true_and, Bool.and_false, Bool.false_and, Bool.not_true, Bool.not_false, if_true, if_false, Bool.false_eq_true]))) (.nil)))) rfl rfl⟩
      · replace c20 : (!(decide (a.Mode = 2))) = false := c20
        conv => whnf
        exact ⟨rfl, weak_fin _ rfl rfl rfl (.cons (.same rfl) (.cons (.same rfl) (LeH.rest))) (.cons (.one (.same rfl)) (.cons (.one (.same rfl)) (.cons (.one (.same (show (.v (.bool false) : AV) = (.v (.bool ((!y1) || ((!(decide (a.Mode = 2))) && (decide (b.Mode = 2))))) : AV) from by first | (simp [c19, c20]; done) | simp only [c19, c20, Bool.or_true, Bool.true_or, Bool.false_or, Bool.or_false, Bool.and_true, Bool.true_and, Bool.and_false, Bool.false_and, Bool.not_true, Bool.not_false, if_true, if_false, Bool.false_eq_true]))) (.nil)))) rfl rfl⟩
  · rintro ex S' ⟨rfl, w21⟩
    conv => whnf
    refine Tri.weak w21 ?_
    refine Tri.cond rfl (fun c22 => ?_) (fun c22 => ?_)
    · replace h := if_t c22 h
      refine Tri.seqK ?_
      refine Tri.run (G := gm_ref09_Covers) tyOk mixed ?_
      conv => whnf
      refine Tri.run (G := gm_ref09_Covers) tyOk mixed ?_
      conv => whnf
      refine fin_here ?_
      conv => whnf
      cases h
      rfl
    · replace h := if_f c22 h
      refine Tri.run (G := gm_ref09_Covers) tyOk mixed ?_
      conv => whnf
      refine Tri.seqK ?_
      refine Tri.run (G := gm_ref09_Covers) tyOk mixed ?_
      conv => whnf
      replace h := bind_some h
      obtain ⟨y23, q24, h⟩ := h
      refine PureP.mono (ref09_In_walk a b.Lo y23 q24) ?_
      rintro _ rfl
      conv => whnf
      refine Tri.seqK ?_
      refine Tri.seqK ?_
      refine Tri.run (G := gm_ref09_Covers) tyOk mixed ?_
      conv => whnf
      refine Tri.cond rfl (fun c26 => ?_) (fun c26 => ?_)
      · replace h := if_t c26 h
        refine Tri.seqK ?_
        refine Tri.run (G := gm_ref09_Covers) tyOk mixed ?_
        conv => whnf
        refine Tri.run (G := gm_ref09_Covers) tyOk mixed ?_
        conv => whnf
        refine fin_here ?_
        conv => whnf
        cases h
        rfl
      · replace h := if_f c26 h
        refine Tri.run (G := gm_ref09_Covers) tyOk mixed ?_
        conv => whnf
        refine Tri.seqK ?_
        refine Tri.seqK ?_
        refine Tri.run (G := gm_ref09_Covers) tyOk mixed ?_
        conv => whnf
        refine ⟨⟨(decide (a.Hi = [])), bs_eq _ _, ?_⟩⟩
        conv => whnf
        refine Tri.cond rfl (fun c28 => ?_) (fun c28 => ?_)
        · replace h := if_t c28 h
          refine Tri.seqK ?_
          refine Tri.run (G := gm_ref09_Covers) tyOk mixed ?_
          conv => whnf
          refine Tri.run (G := gm_ref09_Covers) tyOk mixed ?_
          conv => whnf
          refine fin_here ?_
          conv => whnf
          cases h
          rfl
        · replace h := if_f c28 h
          refine Tri.run (G := gm_ref09_Covers) tyOk mixed ?_
          conv => whnf
          refine Tri.seqK ?_
          refine Tri.run (G := gm_ref09_Covers) tyOk mixed ?_
          conv => whnf
          replace h := bind_some h
          obtain ⟨y29, q30, h⟩ := h
          refine PureP.mono (ref01_Less_walk a.Hi b.Hi y29 q30) ?_
          rintro _ rfl
          conv => whnf
          refine Tri.seqK ?_
          refine Tri.run (G := gm_ref09_Covers) tyOk mixed ?_
          conv => whnf
          refine ⟨⟨(!decide (b.Hi = [])), bs_ne _ _, ?_⟩⟩
          conv => whnf
          refine cond_mk (fun c31 => ?_) (fun c31 => ?_)
          · replace h := if_t c31 h
            conv => whnf
            refine Tri.run (G := gm_ref09_Covers) tyOk mixed ?_
            conv => whnf
            refine fin_here ?_
            conv => whnf
            cases h
            rfl
          · replace h := if_f c31 h
            conv => whnf
            refine Tri.run (G := gm_ref09_Covers) tyOk mixed ?_
            conv => whnf
            refine fin_here ?_
            conv => whnf
            cases h
            rfl
noncomputable def ref09_Overlap (a : Want) (b : Want) : Option (Bool) :=
  (ref01_Less a.Lo b.Lo).bind fun y1 =>
  (ref09_In a (if y1 then b.Lo else a.Lo)).bind fun y8 =>
  if y8 then
    (ref09_In b (if y1 then b.Lo else a.Lo)).bind fun y11 =>
    some y11
  else
    some false
def gm_ref09_Overlap : Gm := ⟨tys, [], [], []⟩
theorem ref09_Overlap_walk (a : Want) (b : Want) (r : Bool) (h : ref09_Overlap a b = some r) : PureP Try.prog 65 [.agg [.v (.int .i64 a.Mode), .v (.string (bs a.Lo)), .v (.string (bs a.Hi))], .agg [.v (.int .i64 b.Mode), .v (.string (bs b.Lo)), .v (.string (bs b.Hi))]] (fun a => a = .v (.bool r)) := by
  unfold ref09_Overlap at h
  refine pureW (G := gm_ref09_Overlap) tyOk Try.func65 rfl (by kernel_rfl) (by simp [Try.f65]) ?_
  refine Tri.seqK ?_
  refine Tri.run (G := gm_ref09_Overlap) tyOk mixed ?_
  conv => whnf
  refine Tri.seqK ?_
  refine Tri.run (G := gm_ref09_Overlap) tyOk mixed ?_
  conv => whnf
  refine Tri.seqK ?_
  refine Tri.run (G := gm_ref09_Overlap) tyOk mixed ?_
  conv => whnf
  replace h := bind_some h
  obtain ⟨y1, q2, h⟩ := h
  refine PureP.mono (ref01_Less_walk a.Lo b.Lo y1 q2) ?_
  rintro _ rfl
  conv => whnf
  refine Tri.seqK ?_
  refine Tri.cut (fun ex S' => ex = .normal ∧ Weak S' ⟨27, 0, ofRegs [(2, .ptr 0 0), (3, .ptr 1 0), (5, .v (.string (bs (if y1 then b.Lo else a.Lo))))], [.var 44 [.v (.int .i64 a.Mode), .v (.string (bs a.Lo)), .v (.string (bs a.Hi))], .var 44 [.v (.int .i64 b.Mode), .v (.string (bs b.Lo)), .v (.string (bs b.Hi))]]⟩) ?_ ?_
  · refine Tri.seqK ?_
    refine Tri.run (G := gm_ref09_Overlap) tyOk mixed ?_
    conv => whnf
    refine Tri.cond rfl (fun c6 => ?_) (fun c6 => ?_)
    · replace c6 : y1 = true := c6
      refine Tri.run (G := gm_ref09_Overlap) tyOk mixed ?_
      conv => whnf
      exact ⟨rfl, weak_fin _ rfl rfl rfl (.cons (.same rfl) (.cons (.same rfl) (LeH.rest))) (.cons (.one (.same rfl)) (.cons (.one (.same rfl)) (.cons (.one (.same (show (.v (.string (bs b.Lo)) : AV) = (.v (.string (bs (if y1 then b.Lo else a.Lo))) : AV) from by first | (simp [c6]; done) | simp only [c6, Bool.or_true, Bool.true_or, Bool.false_or, Bool.or_false, Bool.and_true, Bool.true_and, Bool.and_false, Bool.false_and, Bool.not_true, Bool.not_false, if_true, if_false, Bool.false_eq_true]))) (.nil)))) rfl rfl⟩
    · replace c6 : y1 = false := c6
      refine Tri.run (G := gm_ref09_Overlap) tyOk mixed ?_
      conv => whnf
      exact ⟨rfl, weak_fin _ rfl rfl rfl (.cons (.same rfl) (.cons (.same rfl) (LeH.rest))) (.cons (.one (.same rfl)) (.cons (.one (.same rfl)) (.cons (.one (.same (show (.v (.string (bs a.Lo)) : AV) = (.v (.string (bs (if y1 then b.Lo else a.Lo))) : AV) from by first | (simp [c6]; done) | simp only [c6, Bool.or_true, Bool.true_or, Bool.false_or, Bool.or_false, Bool.and_true, Bool.true_and, Bool.and_false, Bool.false_and, Bool.not_true, Bool.not_false, if_true, if_false, Bool.false_eq_true]))) (.nil)))) rfl rfl⟩
  · rintro ex S' ⟨rfl, w7⟩
    conv => whnf
    refine Tri.weak w7 ?_
    refine Tri.seqK ?_
    refine Tri.run (G := gm_ref09_Overlap) tyOk mixed ?_
    conv => whnf
    replace h := bind_some h
    obtain ⟨y8, q9, h⟩ := h
    refine PureP.mono (ref09_In_walk a (if y1 then b.Lo else a.Lo) y8 q9) ?_
    rintro _ rfl
    conv => whnf
    refine Tri.seqK ?_
    refine Tri.run (G := gm_ref09_Overlap) tyOk mixed ?_
    conv => whnf
    refine cond_mk (fun c10 => ?_) (fun c10 => ?_)
    · replace h := if_t c10 h
      conv => whnf
      replace h := bind_some h
      obtain ⟨y11, q12, h⟩ := h
      refine PureP.mono (ref09_In_walk b (if y1 then b.Lo else a.Lo) y11 q12) ?_
      rintro _ rfl
      conv => whnf
      refine Tri.run (G := gm_ref09_Overlap) tyOk mixed ?_
      conv => whnf
      refine fin_here ?_
      conv => whnf
      cases h
      rfl
    · replace h := if_f c10 h
      conv => whnf
      refine Tri.run (G := gm_ref09_Overlap) tyOk mixed ?_
      conv => whnf
      refine fin_here ?_
      conv => whnf
      cases h
      rfl
noncomputable def ref09_Clash (a : Want) (b : Want) : Option (Bool) :=
  (ref09_Overlap a b).bind fun y1 =>
  if y1 then
    if (decide (a.Mode = 2)) then
      some true
    else
      some (decide (b.Mode = 2))
  else
    some false
def gm_ref09_Clash : Gm := ⟨tys, [], [], []⟩
theorem ref09_Clash_walk (a : Want) (b : Want) (r : Bool) (h : ref09_Clash a b = some r) : PureP Try.prog 35 [.agg [.v (.int .i64 a.Mode), .v (.string (bs a.Lo)), .v (.string (bs a.Hi))], .agg [.v (.int .i64 b.Mode), .v (.string (bs b.Lo)), .v (.string (bs b.Hi))]] (fun a => a = .v (.bool r)) := by
  unfold ref09_Clash at h
  refine pureW (G := gm_ref09_Clash) tyOk Try.func35 rfl (by kernel_rfl) (by simp [Try.f35]) ?_
  refine Tri.seqK ?_
  refine Tri.run (G := gm_ref09_Clash) tyOk mixed ?_
  conv => whnf
  refine Tri.seqK ?_
  refine Tri.run (G := gm_ref09_Clash) tyOk mixed ?_
  conv => whnf
  replace h := bind_some h
  obtain ⟨y1, q2, h⟩ := h
  refine PureP.mono (ref09_Overlap_walk a b y1 q2) ?_
  rintro _ rfl
  conv => whnf
  refine Tri.seqK ?_
  refine Tri.run (G := gm_ref09_Clash) tyOk mixed ?_
  conv => whnf
  refine cond_mk (fun c3 => ?_) (fun c3 => ?_)
  · replace h := if_t c3 h
    conv => whnf
    refine cond_mk (fun c4 => ?_) (fun c4 => ?_)
    · replace h := if_t c4 h
      conv => whnf
      refine Tri.run (G := gm_ref09_Clash) tyOk mixed ?_
      conv => whnf
      refine fin_here ?_
      conv => whnf
      cases h
      rfl
    · replace h := if_f c4 h
      conv => whnf
      refine Tri.run (G := gm_ref09_Clash) tyOk mixed ?_
      conv => whnf
      refine fin_here ?_
      conv => whnf
      cases h
      rfl
  · replace h := if_f c3 h
    conv => whnf
    refine Tri.run (G := gm_ref09_Clash) tyOk mixed ?_
    conv => whnf
    refine fin_here ?_
    conv => whnf
    cases h
    rfl
noncomputable def ref10_put_l2 (l : (List Int)) (n : Int) (a748 : Bool) (a749 : Int) (a750 : (List Int)) : Option ((Bool × Int × (List Int)) ⊕ (Bool × (List Int))) :=
  if (decide (a749 < (l.length : Int))) then
    (
      (ix l a749).bind fun x826 =>
      if (decide (x826 = n)) then
        some true
      else
        some a748).bind fun (y824 : Bool) =>
    (
      (
        if (!y824) then
          (ix l a749).bind fun x869 =>
          some (decide (x869 > n))
        else
          some false).bind fun (y866 : Bool) =>
      if y866 then
        need ((a750.length + 1) * 8 ≤ 140737488355328) <|
        some (true, (a750 ++ [n]))
      else
        some (y824, a750)).bind fun (y858 : Bool × (List Int)) =>
    (ix l a749).bind fun x875 =>
    need ((y858.2.length + 1) * 8 ≤ 140737488355328) <|
    some (.inl (y858.1, (IntKind.i64.wrap (a749 + 1)), (y858.2 ++ [x875])))
  else
    some (.inr (a748, a750))
noncomputable def ref10_put (l : (List Int)) (n : Int) : Option ((List Int)) :=
  (loop (fun (s753 : Bool × Int × (List Int)) => ref10_put_l2 l n s753.1 s753.2.1 s753.2.2) (false, (0 : Int), ([] : (List Int)))).bind fun (y751 : Bool × (List Int)) =>
  (
    if (!y751.1) then
      need ((y751.2.length + 1) * 8 ≤ 140737488355328) <|
      some (y751.2 ++ [n])
    else
      some y751.2).bind fun (y883 : (List Int)) =>
  some y883
def gm_ref10_put : Gm := ⟨tys, [], [], []⟩
theorem ref10_put_walk (l : (List Int)) (n : Int) (r : (List Int)) (h : ref10_put l n = some r) : PureP Try.prog 78 [.sl (List.map (encI .i64) l), .v (.int .i64 n)] (fun a => a = .sl (List.map (encI .i64) r)) := by
  unfold ref10_put at h
  refine pureW (G := gm_ref10_put) tyOk Try.func78 rfl (by kernel_rfl) (by simp [Try.f78]) ?_
  refine Tri.seqK ?_
  refine Tri.run (G := gm_ref10_put) tyOk mixed ?_
  conv => whnf
  refine Tri.seqK ?_
  refine Tri.run (G := gm_ref10_put) tyOk mixed ?_
  conv => whnf
  refine Tri.seqK ?_
  refine Tri.run (G := gm_ref10_put) tyOk mixed ?_
  conv => whnf
  refine Tri.seqK ?_
  refine Tri.seqK ?_
  refine Tri.run (G := gm_ref10_put) tyOk mixed ?_
  conv => whnf
  refine Tri.block ?_
  replace h := bind_some h
  obtain ⟨y751, q752, h⟩ := h
  refine Tri.cut (fun ex S' => ex = (.exit 0) ∧ Weak S' ⟨48, 0, ofRegs [(1, .v (.int .i64 n)), (5, .row 0 ((List.map (encI .i64) y751.2).length)), (6, .v (.bool y751.1))], [.row 3 1 (List.map (encI .i64) y751.2)]⟩) ?_ ?_
  · refine Tri.loopF (fun (s753 : Bool × Int × (List Int)) => (⟨48, 0, ofRegs [(0, .sl (List.map (encI .i64) l)), (1, .v (.int .i64 n)), (5, .row 0 ((List.map (encI .i64) s753.2.2).length)), (6, .v (.bool s753.1)), (7, .v (.int .i64 s753.2.1))], [.row 3 1 (List.map (encI .i64) s753.2.2)]⟩ : St)) q752 (Weak.trans (weak_nil 5 3 1 rfl) (weak_fin _ rfl rfl rfl (.cons (.same rfl) (LeH.rest)) (.cons (.one (.same rfl)) (.cons (.one (.same rfl)) (.cons (.one (.same (show (.row 0 0 : AV) = (.row 0 ((List.map (encI .i64) []).length) : AV) from congrArg (AV.row 0) (by simp)))) (.cons (.one (.same rfl)) (.cons (.one (.same rfl)) (.nil)))))) rfl rfl)) ?_
    rintro ⟨a748, a749, a750⟩ v754 hv r755
    have hv : ref10_put_l2 l n a748 a749 a750 = some v754 := hv
    unfold ref10_put_l2 at hv
    dsimp only
    refine Tri.seqK ?_
    refine Tri.seqK ?_
    refine Tri.run (G := gm_ref10_put) tyOk mixed ?_
    conv => whnf
    refine ⟨⟨(l.length : Int), (len_map _ _).symm, ?_⟩⟩
    conv => whnf
    refine Tri.cond rfl (fun c757 => ?_) (fun c757 => ?_)
    · replace hv := if_t c757 hv
      refine Tri.run (G := gm_ref10_put) tyOk mixed ?_
      conv => whnf
      refine Tri.seqK ?_
      refine Tri.block ?_
      refine Tri.seqK ?_
      replace hv := bind_some hv
      obtain ⟨y824, q825, hv⟩ := hv
      refine Tri.cut (fun ex S' => ex = .normal ∧ Weak S' ⟨48, 0, ofRegs [(0, .sl (List.map (encI .i64) l)), (1, .v (.int .i64 n)), (5, .row 0 ((List.map (encI .i64) a750).length)), (6, .v (.bool y824)), (7, .v (.int .i64 a749))], [.row 3 1 (List.map (encI .i64) a750)]⟩) ?_ ?_
      · refine Tri.seqK ?_
        refine Tri.run (G := gm_ref10_put) tyOk mixed ?_
        conv => whnf
        replace q825 := bind_some q825
        obtain ⟨x826, q827, q825⟩ := q825
        refine ⟨(ix_some q827).1, ?_⟩
        conv => whnf
        refine ⟨⟨_, map_get (encI .i64) (ix_some q827).2, ?_⟩⟩
        conv => whnf
        refine ⟨rfl, ?_⟩
        conv => whnf
        refine Tri.cond rfl (fun c828 => ?_) (fun c828 => ?_)
        · replace q825 := if_t c828 q825
          refine Tri.run (G := gm_ref10_put) tyOk mixed ?_
          conv => whnf
          cases q825
          exact ⟨rfl, weak_fin _ rfl rfl rfl (.cons (.same rfl) (LeH.rest)) (.cons (.one (.same rfl)) (.cons (.one (.same rfl)) (.cons (.one (.same rfl)) (.cons (.one (.same rfl)) (.cons (.one (.same rfl)) (.nil)))))) rfl rfl⟩
        · replace q825 := if_f c828 q825
          refine Tri.run (G := gm_ref10_put) tyOk mixed ?_
          conv => whnf
          cases q825
          exact ⟨rfl, weak_fin _ rfl rfl rfl (.cons (.same rfl) (LeH.rest)) (.cons (.one (.same rfl)) (.cons (.one (.same rfl)) (.cons (.one (.same rfl)) (.cons (.one (.same rfl)) (.cons (.one (.same rfl)) (.nil)))))) rfl rfl⟩
      · rintro ex S' ⟨rfl, w829⟩
        conv => whnf
        refine Tri.weak w829 ?_
        refine Tri.seqK ?_
        replace hv := bind_some hv
        obtain ⟨y858, q859, hv⟩ := hv
        refine Tri.cut (fun ex S' => ex = .normal ∧ Weak S' ⟨48, 0, ofRegs [(0, .sl (List.map (encI .i64) l)), (1, .v (.int .i64 n)), (5, .row 0 ((List.map (encI .i64) y858.2).length)), (6, .v (.bool y858.1)), (7, .v (.int .i64 a749))], [.row 3 1 (List.map (encI .i64) y858.2)]⟩) ?_ ?_
        · refine Tri.seqK ?_
          replace q859 := bind_some q859
          obtain ⟨y866, q867, q859⟩ := q859
          refine Tri.cut (fun ex S' => ex = .normal ∧ Weak S' ⟨48, 0, ofRegs [(0, .sl (List.map (encI .i64) l)), (1, .v (.int .i64 n)), (5, .row 0 ((List.map (encI .i64) a750).length)), (6, .v (.bool y824)), (7, .v (.int .i64 a749)), (29, .v (.bool y866))], [.row 3 1 (List.map (encI .i64) a750)]⟩) ?_ ?_
          · refine Tri.run (G := gm_ref10_put) tyOk mixed ?_
            conv => whnf
            refine cond_mk (fun c868 => ?_) (fun c868 => ?_)
            · replace q867 := if_t c868 q867
              conv => whnf
              replace q867 := bind_some q867
              obtain ⟨x869, q870, q867⟩ := q867
              refine ⟨(ix_some q870).1, ?_⟩
              conv => whnf
              refine ⟨⟨_, map_get (encI .i64) (ix_some q870).2, ?_⟩⟩
              conv => whnf
              refine ⟨rfl, ?_⟩
              conv => whnf
              cases q867
              exact ⟨rfl, weak_fin _ rfl rfl rfl (.cons (.same rfl) (LeH.rest)) (.cons (.one (.same rfl)) (.cons (.one (.same rfl)) (.cons (.one (.same rfl)) (.cons (.one (.same rfl)) (.cons (.one (.same rfl)) (.cons (.one (.same rfl)) (.nil))))))) rfl rfl⟩
            · replace q867 := if_f c868 q867
              conv => whnf
              cases q867
              exact ⟨rfl, weak_fin _ rfl rfl rfl (.cons (.same rfl) (LeH.rest)) (.cons (.one (.same rfl)) (.cons (.one (.same rfl)) (.cons (.one (.same rfl)) (.cons (.one (.same rfl)) (.cons (.one (.same rfl)) (.cons (.one (.same rfl)) (.nil))))))) rfl rfl⟩
          · rintro ex S' ⟨rfl, w871⟩
            conv => whnf
            refine Tri.weak w871 ?_
            refine Tri.cond rfl (fun c872 => ?_) (fun c872 => ?_)
            · replace q859 := if_t c872 q859
              refine Tri.seqK ?_
              refine Tri.run (G := gm_ref10_put) tyOk mixed ?_
              conv => whnf
              refine ⟨⟨List.map (encI .i64) [n], rfl, ?_⟩⟩
              conv => whnf
              refine ⟨rfl, ?_⟩
              conv => whnf
              refine ⟨rfl, ?_⟩
              conv => whnf
              replace q859 := need_some q859
              obtain ⟨p873, q859⟩ := q859
              refine ⟨by simp only [List.length_map]; exact p873, ?_⟩
              conv => whnf
              refine ⟨⟨List.map (encI .i64) (a750 ++ [n]), map_app (encI .i64) _ _ rfl rfl, ?_⟩⟩
              conv => whnf
              refine Tri.run (G := gm_ref10_put) tyOk mixed ?_
              conv => whnf
              cases q859
              exact ⟨rfl, weak_fin _ rfl rfl rfl (.cons (.same rfl) (LeH.rest)) (.cons (.one (.same rfl)) (.cons (.one (.same rfl)) (.cons (.one (.same rfl)) (.cons (.one (.same rfl)) (.cons (.one (.same rfl)) (.nil)))))) rfl rfl⟩
            · replace q859 := if_f c872 q859
              refine Tri.run (G := gm_ref10_put) tyOk mixed ?_
              conv => whnf
              cases q859
              exact ⟨rfl, weak_fin _ rfl rfl rfl (.cons (.same rfl) (LeH.rest)) (.cons (.one (.same rfl)) (.cons (.one (.same rfl)) (.cons (.one (.same rfl)) (.cons (.one (.same rfl)) (.cons (.one (.same rfl)) (.nil)))))) rfl rfl⟩
        · rintro ex S' ⟨rfl, w874⟩
          conv => whnf
          refine Tri.weak w874 ?_
          refine Tri.run (G := gm_ref10_put) tyOk mixed ?_
          conv => whnf
          replace hv := bind_some hv
          obtain ⟨x875, q876, hv⟩ := hv
          refine ⟨(ix_some q876).1, ?_⟩
          conv => whnf
          refine ⟨⟨_, map_get (encI .i64) (ix_some q876).2, ?_⟩⟩
          conv => whnf
          refine ⟨rfl, ?_⟩
          conv => whnf
          refine ⟨⟨List.map (encI .i64) [x875], rfl, ?_⟩⟩
          conv => whnf
          refine ⟨rfl, ?_⟩
          conv => whnf
          refine ⟨rfl, ?_⟩
          conv => whnf
          replace hv := need_some hv
          obtain ⟨p877, hv⟩ := hv
          refine ⟨by simp only [List.length_map]; exact p877, ?_⟩
          conv => whnf
          refine ⟨⟨List.map (encI .i64) (y858.2 ++ [x875]), map_app (encI .i64) _ _ rfl rfl, ?_⟩⟩
          conv => whnf
          refine Tri.run (G := gm_ref10_put) tyOk mixed ?_
          conv => whnf
          cases hv
          exact ⟨_, rfl, weak_fin _ rfl rfl rfl (.cons (.same rfl) (LeH.rest)) (.cons (.one (.same rfl)) (.cons (.one (.same rfl)) (.cons (.one (.same rfl)) (.cons (.one (.same rfl)) (.cons (.one (.same rfl)) (.nil)))))) rfl rfl⟩
    · replace hv := if_f c757 hv
      refine Tri.run (G := gm_ref10_put) tyOk mixed ?_
      conv => whnf
      cases hv
      obtain rfl := r755 _ rfl
      exact ⟨rfl, weak_fin _ rfl rfl rfl (.cons (.same rfl) (LeH.rest)) (.cons (.one (.same rfl)) (.cons (.one (.same rfl)) (.cons (.one (.same rfl)) (.nil)))) rfl rfl⟩
  · rintro ex S' ⟨rfl, w878⟩
    conv => whnf
    refine Tri.weak w878 ?_
    refine Tri.seqK ?_
    replace h := bind_some h
    obtain ⟨y883, q884, h⟩ := h
    refine Tri.cut (fun ex S' => ex = .normal ∧ Weak S' ⟨48, 0, ofRegs [(5, .row 0 ((List.map (encI .i64) y883).length))], [.row 3 1 (List.map (encI .i64) y883)]⟩) ?_ ?_
    · refine Tri.seqK ?_
      refine Tri.run (G := gm_ref10_put) tyOk mixed ?_
      conv => whnf
      refine Tri.cond rfl (fun c885 => ?_) (fun c885 => ?_)
      · replace q884 := if_t c885 q884
        refine Tri.run (G := gm_ref10_put) tyOk mixed ?_
        conv => whnf
        refine ⟨⟨List.map (encI .i64) [n], rfl, ?_⟩⟩
        conv => whnf
        refine ⟨rfl, ?_⟩
        conv => whnf
        refine ⟨rfl, ?_⟩
        conv => whnf
        replace q884 := need_some q884
        obtain ⟨p886, q884⟩ := q884
        refine ⟨by simp only [List.length_map]; exact p886, ?_⟩
        conv => whnf
        refine ⟨⟨List.map (encI .i64) (y751.2 ++ [n]), map_app (encI .i64) _ _ rfl rfl, ?_⟩⟩
        conv => whnf
        cases q884
        exact ⟨rfl, weak_fin _ rfl rfl rfl (.cons (.same rfl) (LeH.rest)) (.cons (.one (.same rfl)) (.nil)) rfl rfl⟩
      · replace q884 := if_f c885 q884
        refine Tri.run (G := gm_ref10_put) tyOk mixed ?_
        conv => whnf
        cases q884
        exact ⟨rfl, weak_fin _ rfl rfl rfl (.cons (.same rfl) (LeH.rest)) (.cons (.one (.same rfl)) (.nil)) rfl rfl⟩
    · rintro ex S' ⟨rfl, w887⟩
      conv => whnf
      refine Tri.weak w887 ?_
      refine Tri.seqK ?_
      refine Tri.run (G := gm_ref10_put) tyOk mixed ?_
      conv => whnf
      refine Tri.run (G := gm_ref10_put) tyOk mixed ?_
      conv => whnf
      refine fin_here ?_
      conv => whnf
      refine ⟨rfl, ?_⟩
      conv => whnf
      cases h
      rfl
noncomputable def ref10_Blockers_l2 (l : Locks) (txn : Int) (w : Want) (a278 : (List Int)) (a279 : Int) : Option (((List Int) × Int) ⊕ ((List Int))) :=
  if (decide (a279 < (l.Held.length : Int))) then
    (
      (ix l.Held a279).bind fun x325 =>
      (ref09_Clash x325.W w).bind fun y327 =>
      if (y327 && (!(decide (x325.Txn = txn)))) then
        (ref10_put a278 x325.Txn).bind fun y335 =>
        some y335
      else
        some a278).bind fun (y319 : (List Int)) =>
    some (.inl (y319, (IntKind.i64.wrap (a279 + 1))))
  else
    some (.inr a278)
noncomputable def ref10_Blockers_l4 (l : Locks) (txn : Int) (w : Want) (n : Int) (a666 : (List Int)) (a667 : Int) : Option (((List Int) × Int) ⊕ ((List Int))) :=
  if ((decide (a667 < n)) && (decide (a667 < (l.Queue.length : Int)))) then
    (
      (ix l.Queue a667).bind fun x723 =>
      (ref09_Clash x723.W w).bind fun y725 =>
      if (y725 && (!(decide (x723.Txn = txn)))) then
        (ref10_put a666 x723.Txn).bind fun y733 =>
        some y733
      else
        some a666).bind fun (y717 : (List Int)) =>
    some (.inl (y717, (IntKind.i64.wrap (a667 + 1))))
  else
    some (.inr a666)
noncomputable def ref10_Blockers (l : Locks) (txn : Int) (w : Want) (n : Int) : Option ((List Int)) :=
  (loop (fun (s282 : (List Int) × Int) => ref10_Blockers_l2 l txn w s282.1 s282.2) (([] : (List Int)), (0 : Int))).bind fun (y280 : (List Int)) =>
  (loop (fun (s670 : (List Int) × Int) => ref10_Blockers_l4 l txn w n s670.1 s670.2) (y280, (0 : Int))).bind fun (y668 : (List Int)) =>
  some y668
def gm_ref10_Blockers : Gm := ⟨tys, [], [], []⟩
theorem ref10_Blockers_walk (l : Locks) (txn : Int) (w : Want) (n : Int) (r : (List Int)) (h : ref10_Blockers l txn w n = some r) : PureP Try.prog 42 [.agg [.sl (List.map encHold l.Held), .sl (List.map encClaim l.Queue)], .v (.int .i64 txn), .agg [.v (.int .i64 w.Mode), .v (.string (bs w.Lo)), .v (.string (bs w.Hi))], .v (.int .i64 n)] (fun a => a = .sl (List.map (encI .i64) r)) := by
  unfold ref10_Blockers at h
  refine pureW (G := gm_ref10_Blockers) tyOk Try.func42 rfl (by kernel_rfl) (by simp [Try.f42]) ?_
  refine Tri.seqK ?_
  refine Tri.run (G := gm_ref10_Blockers) tyOk mixed ?_
  conv => whnf
  refine Tri.seqK ?_
  refine Tri.run (G := gm_ref10_Blockers) tyOk mixed ?_
  conv => whnf
  refine Tri.seqK ?_
  refine Tri.seqK ?_
  refine Tri.run (G := gm_ref10_Blockers) tyOk mixed ?_
  conv => whnf
  refine Tri.block ?_
  replace h := bind_some h
  obtain ⟨y280, q281, h⟩ := h
  refine Tri.cut (fun ex S' => ex = (.exit 0) ∧ Weak S' ⟨88, 0, ofRegs [(1, .v (.int .i64 txn)), (3, .v (.int .i64 n)), (4, .ptr 0 0), (6, .ptr 1 0), (9, .sl (List.map (encI .i64) y280))], [.var 25 [.sl (List.map encHold l.Held), .sl (List.map encClaim l.Queue)], .var 44 [.v (.int .i64 w.Mode), .v (.string (bs w.Lo)), .v (.string (bs w.Hi))]]⟩) ?_ ?_
  · refine Tri.loopF (fun (s282 : (List Int) × Int) => (⟨88, 0, ofRegs [(1, .v (.int .i64 txn)), (3, .v (.int .i64 n)), (4, .ptr 0 0), (6, .ptr 1 0), (9, .sl (List.map (encI .i64) s282.1)), (10, .v (.int .i64 s282.2))], [.var 25 [.sl (List.map encHold l.Held), .sl (List.map encClaim l.Queue)], .var 44 [.v (.int .i64 w.Mode), .v (.string (bs w.Lo)), .v (.string (bs w.Hi))]]⟩ : St)) q281 (weak_fin _ rfl rfl rfl (.cons (.same rfl) (.cons (.same rfl) (LeH.rest))) (.cons (.one (.same rfl)) (.cons (.one (.same rfl)) (.cons (.one (.same rfl)) (.cons (.one (.same rfl)) (.cons (.one (.nil)) (.cons (.one (.same rfl)) (.nil))))))) rfl rfl) ?_
    rintro ⟨a278, a279⟩ v283 hv r284
    have hv : ref10_Blockers_l2 l txn w a278 a279 = some v283 := hv
    unfold ref10_Blockers_l2 at hv
    dsimp only
    refine Tri.seqK ?_
    refine Tri.seqK ?_
    refine Tri.run (G := gm_ref10_Blockers) tyOk mixed ?_
    conv => whnf
    refine ⟨⟨(l.Held.length : Int), (len_map _ _).symm, ?_⟩⟩
    conv => whnf
    refine Tri.cond rfl (fun c286 => ?_) (fun c286 => ?_)
    · replace hv := if_t c286 hv
      refine Tri.run (G := gm_ref10_Blockers) tyOk mixed ?_
      conv => whnf
      refine Tri.seqK ?_
      replace hv := bind_some hv
      obtain ⟨y319, q320, hv⟩ := hv
      refine Tri.cut (fun ex S' => ex = .normal ∧ Weak S' ⟨88, 0, ofRegs [(1, .v (.int .i64 txn)), (3, .v (.int .i64 n)), (4, .ptr 0 0), (6, .ptr 1 0), (9, .sl (List.map (encI .i64) y319)), (10, .v (.int .i64 a279))], [.var 25 [.sl (List.map encHold l.Held), .sl (List.map encClaim l.Queue)], .var 44 [.v (.int .i64 w.Mode), .v (.string (bs w.Lo)), .v (.string (bs w.Hi))]]⟩) ?_ ?_
      · refine Tri.block ?_
        refine Tri.seqK ?_
        refine Tri.run (G := gm_ref10_Blockers) tyOk mixed ?_
        conv => whnf
        refine Draw.one 9 (.take 0 (.take 1 (.take 2 (.take 3 (.take 4 (.take 5 (.take 6 (.alt 7 (.take 8 (.fin)) (.nil))))))))) [] (by kernel_rfl) ?_
        conv => whnf
        replace q320 := bind_some q320
        obtain ⟨x325, q326, q320⟩ := q320
        refine ⟨(ix_some q326).1, ?_⟩
        conv => whnf
        refine ⟨⟨_, map_get encHold (ix_some q326).2, ?_⟩⟩
        conv => whnf
        refine ⟨rfl, ?_⟩
        conv => whnf
        refine ⟨?_, ?_⟩
        · conv => whnf
          replace q320 := bind_some q320
          obtain ⟨y327, q328, q320⟩ := q320
          refine PureP.mono (ref09_Clash_walk x325.W w y327 q328) ?_
          rintro _ rfl
          conv => whnf
          refine Tri.seqK ?_
          refine Tri.cut (fun ex S' => ex = .normal ∧ Weak S' ⟨88, 0, ofRegs [(1, .v (.int .i64 txn)), (3, .v (.int .i64 n)), (4, .ptr 0 0), (6, .ptr 1 0), (9, .sl (List.map (encI .i64) a278)), (10, .v (.int .i64 a279)), (39, .v (.bool (y327 && (!(decide (x325.Txn = txn))))))], [.var 25 [.sl (List.map encHold l.Held), .sl (List.map encClaim l.Queue)], .var 44 [.v (.int .i64 w.Mode), .v (.string (bs w.Lo)), .v (.string (bs w.Hi))]]⟩) ?_ ?_
          · refine Tri.run (G := gm_ref10_Blockers) tyOk mixed ?_
            conv => whnf
            refine cond_mk (fun c332 => ?_) (fun c332 => ?_)
            · replace c332 : y327 = true := c332
              conv => whnf
              refine ⟨(ix_some q326).1, ?_⟩
              conv => whnf
              refine ⟨⟨_, map_get encHold (ix_some q326).2, ?_⟩⟩
              conv => whnf
              refine ⟨rfl, ?_⟩
              conv => whnf
              exact ⟨rfl, weak_fin _ rfl rfl rfl (.cons (.same rfl) (.cons (.same rfl) (LeH.rest))) (.cons (.one (.same rfl)) (.cons (.one (.same rfl)) (.cons (.one (.same rfl)) (.cons (.one (.same rfl)) (.cons (.one (.same rfl)) (.cons (.one (.same rfl)) (.cons (.one (.same (show (.v (.bool (!(decide (x325.Txn = txn)))) : AV) = (.v (.bool (y327 && (!(decide (x325.Txn = txn))))) : AV) from by first | (simp [c332]; done) | simp only [c332, Bool.or_true, Bool.true_or, Bool.false_or, Bool.or_false, Bool.and_true, Bool.true_and, Bool.and_false, Bool.false_and, Bool.not_true, Bool.not_false, if_true, if_false, Bool.false_eq_true]))) (.nil)))))))) rfl rfl⟩
            · replace c332 : y327 = false := c332
              conv => whnf
              exact ⟨rfl, weak_fin _ rfl rfl rfl (.cons (.same rfl) (.cons (.same rfl) (LeH.rest))) (.cons (.one (.same rfl)) (.cons (.one (.same rfl)) (.cons (.one (.same rfl)) (.cons (.one (.same rfl)) (.cons (.one (.same rfl)) (.cons (.one (.same rfl)) (.cons (.one (.same (show (.v (.bool false) : AV) = (.v (.bool (y327 && (!(decide (x325.Txn = txn))))) : AV) from by first | (simp [c332]; done) | simp only [c332, Bool.or_true, Bool.true_or, Bool.false_or, Bool.or_false, Bool.and_true, Bool.true_and, Bool.and_false, Bool.false_and, Bool.not_true, Bool.not_false, if_true, if_false, Bool.false_eq_true]))) (.nil)))))))) rfl rfl⟩
          · rintro ex S' ⟨rfl, w333⟩
            conv => whnf
            refine Tri.weak w333 ?_
            refine Tri.cond rfl (fun c334 => ?_) (fun c334 => ?_)
            · replace q320 := if_t c334 q320
              refine Tri.run (G := gm_ref10_Blockers) tyOk mixed ?_
              conv => whnf
              refine ⟨(ix_some q326).1, ?_⟩
              conv => whnf
              refine ⟨⟨_, map_get encHold (ix_some q326).2, ?_⟩⟩
              conv => whnf
              refine ⟨rfl, ?_⟩
              conv => whnf
              replace q320 := bind_some q320
              obtain ⟨y335, q336, q320⟩ := q320
              refine PureP.mono (ref10_put_walk a278 x325.Txn y335 q336) ?_
              rintro _ rfl
              conv => whnf
              cases q320
              exact ⟨rfl, weak_fin _ rfl rfl rfl (.cons (.same rfl) (.cons (.same rfl) (LeH.rest))) (.cons (.one (.same rfl)) (.cons (.one (.same rfl)) (.cons (.one (.same rfl)) (.cons (.one (.same rfl)) (.cons (.one (.same rfl)) (.cons (.one (.same rfl)) (.nil))))))) rfl rfl⟩
            · replace q320 := if_f c334 q320
              refine Tri.run (G := gm_ref10_Blockers) tyOk mixed ?_
              conv => whnf
              cases q320
              exact ⟨rfl, weak_fin _ rfl rfl rfl (.cons (.same rfl) (.cons (.same rfl) (LeH.rest))) (.cons (.one (.same rfl)) (.cons (.one (.same rfl)) (.cons (.one (.same rfl)) (.cons (.one (.same rfl)) (.cons (.one (.same rfl)) (.cons (.one (.same rfl)) (.nil))))))) rfl rfl⟩
        · conv => whnf
          trivial
      · rintro ex S' ⟨rfl, w337⟩
        conv => whnf
        refine Tri.weak w337 ?_
        refine Tri.run (G := gm_ref10_Blockers) tyOk mixed ?_
        conv => whnf
        cases hv
        exact ⟨_, rfl, weak_fin _ rfl rfl rfl (.cons (.same rfl) (.cons (.same rfl) (LeH.rest))) (.cons (.one (.same rfl)) (.cons (.one (.same rfl)) (.cons (.one (.same rfl)) (.cons (.one (.same rfl)) (.cons (.one (.same rfl)) (.cons (.one (.same rfl)) (.nil))))))) rfl rfl⟩
    · replace hv := if_f c286 hv
      refine Tri.run (G := gm_ref10_Blockers) tyOk mixed ?_
      conv => whnf
      cases hv
      obtain rfl := r284 _ rfl
      exact ⟨rfl, weak_fin _ rfl rfl rfl (.cons (.same rfl) (.cons (.same rfl) (LeH.rest))) (.cons (.one (.same rfl)) (.cons (.one (.same rfl)) (.cons (.one (.same rfl)) (.cons (.one (.same rfl)) (.cons (.one (.same rfl)) (.nil)))))) rfl rfl⟩
  · rintro ex S' ⟨rfl, w338⟩
    conv => whnf
    refine Tri.weak w338 ?_
    refine Tri.seqK ?_
    refine Tri.seqK ?_
    refine Tri.run (G := gm_ref10_Blockers) tyOk mixed ?_
    conv => whnf
    refine Tri.block ?_
    replace h := bind_some h
    obtain ⟨y668, q669, h⟩ := h
    refine Tri.cut (fun ex S' => ex = (.exit 2) ∧ Weak S' ⟨88, 0, ofRegs [(9, .sl (List.map (encI .i64) y668))], []⟩) ?_ ?_
    · refine Tri.loopF (fun (s670 : (List Int) × Int) => (⟨88, 0, ofRegs [(1, .v (.int .i64 txn)), (3, .v (.int .i64 n)), (4, .ptr 0 0), (6, .ptr 1 0), (9, .sl (List.map (encI .i64) s670.1)), (12, .v (.int .i64 s670.2))], [.var 25 [.sl (List.map encHold l.Held), .sl (List.map encClaim l.Queue)], .var 44 [.v (.int .i64 w.Mode), .v (.string (bs w.Lo)), .v (.string (bs w.Hi))]]⟩ : St)) q669 (weak_fin _ rfl rfl rfl (.cons (.same rfl) (.cons (.same rfl) (LeH.rest))) (.cons (.one (.same rfl)) (.cons (.one (.same rfl)) (.cons (.one (.same rfl)) (.cons (.one (.same rfl)) (.cons (.one (.same rfl)) (.cons (.one (.same rfl)) (.nil))))))) rfl rfl) ?_
      rintro ⟨a666, a667⟩ v671 hv r672
      have hv : ref10_Blockers_l4 l txn w n a666 a667 = some v671 := hv
      unfold ref10_Blockers_l4 at hv
      dsimp only
      refine Tri.seqK ?_
      refine Tri.seqK ?_
      refine Tri.cut (fun ex S' => ex = .normal ∧ Weak S' ⟨88, 0, ofRegs [(1, .v (.int .i64 txn)), (3, .v (.int .i64 n)), (4, .ptr 0 0), (6, .ptr 1 0), (9, .sl (List.map (encI .i64) a666)), (12, .v (.int .i64 a667)), (57, .v (.bool ((decide (a667 < n)) && (decide (a667 < (l.Queue.length : Int))))))], [.var 25 [.sl (List.map encHold l.Held), .sl (List.map encClaim l.Queue)], .var 44 [.v (.int .i64 w.Mode), .v (.string (bs w.Lo)), .v (.string (bs w.Hi))]]⟩) ?_ ?_
      · refine Tri.run (G := gm_ref10_Blockers) tyOk mixed ?_
        conv => whnf
        refine cond_mk (fun c682 => ?_) (fun c682 => ?_)
        · replace c682 : (decide (a667 < n)) = true := c682
          conv => whnf
          refine ⟨⟨(l.Queue.length : Int), (len_map _ _).symm, ?_⟩⟩
          conv => whnf
          exact ⟨rfl, weak_fin _ rfl rfl rfl (.cons (.same rfl) (.cons (.same rfl) (LeH.rest))) (.cons (.one (.same rfl)) (.cons (.one (.same rfl)) (.cons (.one (.same rfl)) (.cons (.one (.same rfl)) (.cons (.one (.same rfl)) (.cons (.one (.same rfl)) (.cons (.one (.same (show (.v (.bool (decide (a667 < (l.Queue.length : Int)))) : AV) = (.v (.bool ((decide (a667 < n)) && (decide (a667 < (l.Queue.length : Int))))) : AV) from by first | (simp [c682]; done) | simp only [c682, Bool.or_true, Bool.true_or, Bool.false_or, Bool.or_false, Bool.and_true, Bool.true_and, Bool.and_false, Bool.false_and, Bool.not_true, Bool.not_false, if_true, if_false, Bool.false_eq_true]))) (.nil)))))))) rfl rfl⟩
        · replace c682 : (decide (a667 < n)) = false := c682
          conv => whnf
          exact ⟨rfl, weak_fin _ rfl rfl rfl (.cons (.same rfl) (.cons (.same rfl) (LeH.rest))) (.cons (.one (.same rfl)) (.cons (.one (.same rfl)) (.cons (.one (.same rfl)) (.cons (.one (.same rfl)) (.cons (.one (.same rfl)) (.cons (.one (.same rfl)) (.cons (.one (.same (show (.v (.bool false) : AV) = (.v (.bool ((decide (a667 < n)) && (decide (a667 < (l.Queue.length : Int))))) : AV) from by first | (simp [c682]; done) | simp only [c682, Bool.or_true, Bool.true_or, Bool.false_or, Bool.or_false, Bool.and_true, Bool.true_and, Bool.and_false, Bool.false_and, Bool.not_true, Bool.not_false, if_true, if_false, Bool.false_eq_true]))) (.nil)))))))) rfl rfl⟩
      · rintro ex S' ⟨rfl, w683⟩
        conv => whnf
        refine Tri.weak w683 ?_
        refine Tri.cond rfl (fun c684 => ?_) (fun c684 => ?_)
        · replace hv := if_t c684 hv
          refine Tri.run (G := gm_ref10_Blockers) tyOk mixed ?_
          conv => whnf
          refine Tri.seqK ?_
          replace hv := bind_some hv
          obtain ⟨y717, q718, hv⟩ := hv
          refine Tri.cut (fun ex S' => ex = .normal ∧ Weak S' ⟨88, 0, ofRegs [(1, .v (.int .i64 txn)), (3, .v (.int .i64 n)), (4, .ptr 0 0), (6, .ptr 1 0), (9, .sl (List.map (encI .i64) y717)), (12, .v (.int .i64 a667))], [.var 25 [.sl (List.map encHold l.Held), .sl (List.map encClaim l.Queue)], .var 44 [.v (.int .i64 w.Mode), .v (.string (bs w.Lo)), .v (.string (bs w.Hi))]]⟩) ?_ ?_
          · refine Tri.block ?_
            refine Tri.seqK ?_
            refine Tri.run (G := gm_ref10_Blockers) tyOk mixed ?_
            conv => whnf
            refine Draw.one 9 (.take 0 (.take 1 (.take 2 (.take 3 (.take 4 (.take 5 (.take 6 (.alt 7 (.take 8 (.fin)) (.nil))))))))) [] (by kernel_rfl) ?_
            conv => whnf
            replace q718 := bind_some q718
            obtain ⟨x723, q724, q718⟩ := q718
            refine ⟨(ix_some q724).1, ?_⟩
            conv => whnf
            refine ⟨⟨_, map_get encClaim (ix_some q724).2, ?_⟩⟩
            conv => whnf
            refine ⟨rfl, ?_⟩
            conv => whnf
            refine ⟨?_, ?_⟩
            · conv => whnf
              replace q718 := bind_some q718
              obtain ⟨y725, q726, q718⟩ := q718
              refine PureP.mono (ref09_Clash_walk x723.W w y725 q726) ?_
              rintro _ rfl
              conv => whnf
              refine Tri.seqK ?_
              refine Tri.cut (fun ex S' => ex = .normal ∧ Weak S' ⟨88, 0, ofRegs [(1, .v (.int .i64 txn)), (3, .v (.int .i64 n)), (4, .ptr 0 0), (6, .ptr 1 0), (9, .sl (List.map (encI .i64) a666)), (12, .v (.int .i64 a667)), (78, .v (.bool (y725 && (!(decide (x723.Txn = txn))))))], [.var 25 [.sl (List.map encHold l.Held), .sl (List.map encClaim l.Queue)], .var 44 [.v (.int .i64 w.Mode), .v (.string (bs w.Lo)), .v (.string (bs w.Hi))]]⟩) ?_ ?_
              · refine Tri.run (G := gm_ref10_Blockers) tyOk mixed ?_
                conv => whnf
                refine cond_mk (fun c730 => ?_) (fun c730 => ?_)
                · replace c730 : y725 = true := c730
                  conv => whnf
                  refine ⟨(ix_some q724).1, ?_⟩
                  conv => whnf
                  refine ⟨⟨_, map_get encClaim (ix_some q724).2, ?_⟩⟩
                  conv => whnf
                  refine ⟨rfl, ?_⟩
                  conv => whnf
                  exact ⟨rfl, weak_fin _ rfl rfl rfl (.cons (.same rfl) (.cons (.same rfl) (LeH.rest))) (.cons (.one (.same rfl)) (.cons (.one (.same rfl)) (.cons (.one (.same rfl)) (.cons (.one (.same rfl)) (.cons (.one (.same rfl)) (.cons (.one (.same rfl)) (.cons (.one (.same (show (.v (.bool (!(decide (x723.Txn = txn)))) : AV) = (.v (.bool (y725 && (!(decide (x723.Txn = txn))))) : AV) from by first | (simp [c730]; done) | simp only [c730, Bool.or_true, Bool.true_or, Bool.false_or, Bool.or_false, Bool.and_true, Bool.true_and, Bool.and_false, Bool.false_and, Bool.not_true, Bool.not_false, if_true, if_false, Bool.false_eq_true]))) (.nil)))))))) rfl rfl⟩
                · replace c730 : y725 = false := c730
                  conv => whnf
                  exact ⟨rfl, weak_fin _ rfl rfl rfl (.cons (.same rfl) (.cons (.same rfl) (LeH.rest))) (.cons (.one (.same rfl)) (.cons (.one (.same rfl)) (.cons (.one (.same rfl)) (.cons (.one (.same rfl)) (.cons (.one (.same rfl)) (.cons (.one (.same rfl)) (.cons (.one (.same (show (.v (.bool false) : AV) = (.v (.bool (y725 && (!(decide (x723.Txn = txn))))) : AV) from by first | (simp [c730]; done) | simp only [c730, Bool.or_true, Bool.true_or, Bool.false_or, Bool.or_false, Bool.and_true, Bool.true_and, Bool.and_false, Bool.false_and, Bool.not_true, Bool.not_false, if_true, if_false, Bool.false_eq_true]))) (.nil)))))))) rfl rfl⟩
              · rintro ex S' ⟨rfl, w731⟩
                conv => whnf
                refine Tri.weak w731 ?_
                refine Tri.cond rfl (fun c732 => ?_) (fun c732 => ?_)
                · replace q718 := if_t c732 q718
                  refine Tri.run (G := gm_ref10_Blockers) tyOk mixed ?_
                  conv => whnf
                  refine ⟨(ix_some q724).1, ?_⟩
                  conv => whnf
                  refine ⟨⟨_, map_get encClaim (ix_some q724).2, ?_⟩⟩
                  conv => whnf
                  refine ⟨rfl, ?_⟩
                  conv => whnf
                  replace q718 := bind_some q718
                  obtain ⟨y733, q734, q718⟩ := q718
                  refine PureP.mono (ref10_put_walk a666 x723.Txn y733 q734) ?_
                  rintro _ rfl
                  conv => whnf
                  cases q718
                  exact ⟨rfl, weak_fin _ rfl rfl rfl (.cons (.same rfl) (.cons (.same rfl) (LeH.rest))) (.cons (.one (.same rfl)) (.cons (.one (.same rfl)) (.cons (.one (.same rfl)) (.cons (.one (.same rfl)) (.cons (.one (.same rfl)) (.cons (.one (.same rfl)) (.nil))))))) rfl rfl⟩
                · replace q718 := if_f c732 q718
                  refine Tri.run (G := gm_ref10_Blockers) tyOk mixed ?_
                  conv => whnf
                  cases q718
                  exact ⟨rfl, weak_fin _ rfl rfl rfl (.cons (.same rfl) (.cons (.same rfl) (LeH.rest))) (.cons (.one (.same rfl)) (.cons (.one (.same rfl)) (.cons (.one (.same rfl)) (.cons (.one (.same rfl)) (.cons (.one (.same rfl)) (.cons (.one (.same rfl)) (.nil))))))) rfl rfl⟩
            · conv => whnf
              trivial
          · rintro ex S' ⟨rfl, w735⟩
            conv => whnf
            refine Tri.weak w735 ?_
            refine Tri.run (G := gm_ref10_Blockers) tyOk mixed ?_
            conv => whnf
            cases hv
            exact ⟨_, rfl, weak_fin _ rfl rfl rfl (.cons (.same rfl) (.cons (.same rfl) (LeH.rest))) (.cons (.one (.same rfl)) (.cons (.one (.same rfl)) (.cons (.one (.same rfl)) (.cons (.one (.same rfl)) (.cons (.one (.same rfl)) (.cons (.one (.same rfl)) (.nil))))))) rfl rfl⟩
        · replace hv := if_f c684 hv
          refine Tri.run (G := gm_ref10_Blockers) tyOk mixed ?_
          conv => whnf
          cases hv
          obtain rfl := r672 _ rfl
          exact ⟨rfl, weak_fin _ rfl rfl rfl (LeH.rest) (.cons (.one (.same rfl)) (.nil)) rfl rfl⟩
    · rintro ex S' ⟨rfl, w736⟩
      conv => whnf
      refine Tri.weak w736 ?_
      refine Tri.seqK ?_
      refine Tri.run (G := gm_ref10_Blockers) tyOk mixed ?_
      conv => whnf
      refine Tri.run (G := gm_ref10_Blockers) tyOk mixed ?_
      conv => whnf
      refine fin_here ?_
      conv => whnf
      cases h
      rfl
noncomputable def ref10_Ask_l2 (l : Locks) (txn : Int) (w : Want) (a180 : Int) : Option ((Int) ⊕ ((Unit) ⊕ (Unit))) :=
  if (decide (a180 < (l.Held.length : Int))) then
    (ix l.Held a180).bind fun x208 =>
    (ref09_Covers x208.W w).bind fun y210 =>
    if (y210 && (decide (x208.Txn = txn))) then
      some (.inr (.inl ()))
    else
      some (.inl (IntKind.i64.wrap (a180 + 1)))
  else
    some (.inr (.inr ()))
noncomputable def ref10_Ask (l : Locks) (txn : Int) (w : Want) (until_ : Int) : Option (Locks × Int) :=
  (ref09_May w).bind fun y1 =>
  if ((decide (txn < 1)) || (!y1)) then
    some (l, 1)
  else
    (ref10_Waits l txn).bind fun y15 =>
    if y15 then
      some (l, 8)
    else
      (loop (fun (s185 : Int) => ref10_Ask_l2 l txn w s185) (0 : Int)).bind fun (y181 : (Unit) ⊕ (Unit)) =>
      match y181 with
      | (.inl v183) =>
        some (l, 0)
      | (.inr v184) =>
        (ref10_Blockers l txn w (l.Queue.length : Int)).bind fun y236 =>
        if (decide ((y236.length : Int) = 0)) then
          need ((([] : List Hold).length + l.Held.length) * 48 ≤ 140737488355328) <|
          need (((([] : List Hold) ++ l.Held).length + 1) * 48 ≤ 140737488355328) <|
          some (({ Held := ((([] : List Hold) ++ l.Held) ++ [({ Txn := txn, W := w } : Hold)]), Queue := l.Queue } : Locks), 0)
        else
          if (decide ((l.Queue.length : Int) ≥ 16)) then
            some (l, 11)
          else
            need ((([] : List Claim).length + l.Queue.length) * 56 ≤ 140737488355328) <|
            need (((([] : List Claim) ++ l.Queue).length + 1) * 56 ≤ 140737488355328) <|
            some (({ Held := l.Held, Queue := ((([] : List Claim) ++ l.Queue) ++ [({ Txn := txn, W := w, Until := until_ } : Claim)]) } : Locks), 12)
def gm_ref10_Ask : Gm := ⟨tys, [], [], []⟩
theorem ref10_Ask_walk (l : Locks) (txn : Int) (w : Want) (until_ : Int) (r : Locks × Int) (h : ref10_Ask l txn w until_ = some r) : PureP Try.prog 41 [.agg [.sl (List.map encHold l.Held), .sl (List.map encClaim l.Queue)], .v (.int .i64 txn), .agg [.v (.int .i64 w.Mode), .v (.string (bs w.Lo)), .v (.string (bs w.Hi))], .v (.int .u64 until_)] (fun a => a = .tup [.agg [.sl (List.map encHold r.1.Held), .sl (List.map encClaim r.1.Queue)], .v (.int .i64 r.2)]) := by
  unfold ref10_Ask at h
  refine pureW (G := gm_ref10_Ask) tyOk Try.func41 rfl (by kernel_rfl) (by simp [Try.f41]) ?_
  refine Tri.seqK ?_
  refine Tri.run (G := gm_ref10_Ask) tyOk mixed ?_
  conv => whnf
  refine Tri.seqK ?_
  refine Tri.run (G := gm_ref10_Ask) tyOk mixed ?_
  conv => whnf
  replace h := bind_some h
  obtain ⟨y1, q2, h⟩ := h
  refine PureP.mono (ref09_May_walk w y1 q2) ?_
  rintro _ rfl
  conv => whnf
  refine Tri.seqK ?_
  refine Tri.seqK ?_
  refine Tri.cut (fun ex S' => ex = .normal ∧ Weak S' ⟨92, 0, ofRegs [(1, .v (.int .i64 txn)), (3, .v (.int .u64 until_)), (4, .ptr 0 0), (6, .ptr 1 0), (8, .ptr 2 0), (21, .v (.bool ((decide (txn < 1)) || (!y1))))], [.var 25 [.sl (List.map encHold l.Held), .sl (List.map encClaim l.Queue)], .var 44 [.v (.int .i64 w.Mode), .v (.string (bs w.Lo)), .v (.string (bs w.Hi))], .var 25 [.v (.slice none 0 0), .v (.slice none 0 0)]]⟩) ?_ ?_
  · refine Tri.run (G := gm_ref10_Ask) tyOk mixed ?_
    conv => whnf
    refine cond_mk (fun c12 => ?_) (fun c12 => ?_)
    · replace c12 : (decide (txn < 1)) = true := c12
      conv => whnf
      exact ⟨rfl, weak_fin _ rfl rfl rfl (.cons (.same rfl) (.cons (.same rfl) (.cons (.same rfl) (LeH.rest)))) (.cons (.one (.same rfl)) (.cons (.one (.same rfl)) (.cons (.one (.same rfl)) (.cons (.one (.same rfl)) (.cons (.one (.same rfl)) (.cons (.one (.same (show (.v (.bool true) : AV) = (.v (.bool ((decide (txn < 1)) || (!y1))) : AV) from by first | (simp [c12]; done) | simp only [c12, Bool.or_true, Bool.true_or, Bool.false_or, Bool.or_false, Bool.and_true, Bool.true_and, Bool.and_false, Bool.false_and, Bool.not_true, Bool.not_false, if_true, if_false, Bool.false_eq_true]))) (.nil))))))) rfl rfl⟩
    · replace c12 : (decide (txn < 1)) = false := c12
      conv => whnf
      exact ⟨rfl, weak_fin _ rfl rfl rfl (.cons (.same rfl) (.cons (.same rfl) (.cons (.same rfl) (LeH.rest)))) (.cons (.one (.same rfl)) (.cons (.one (.same rfl)) (.cons (.one (.same rfl)) (.cons (.one (.same rfl)) (.cons (.one (.same rfl)) (.cons (.one (.same (show (.v (.bool (!y1)) : AV) = (.v (.bool ((decide (txn < 1)) || (!y1))) : AV) from by first | (simp [c12]; done) | simp only [c12, Bool.or_true, Bool.true_or, Bool.false_or, Bool.or_false, Bool.and_true, Bool.true_and, Bool.and_false, Bool.false_and, Bool.not_true, Bool.not_false, if_true, if_false, Bool.false_eq_true]))) (.nil))))))) rfl rfl⟩
  · rintro ex S' ⟨rfl, w13⟩
    conv => whnf
    refine Tri.weak w13 ?_
    refine Tri.cond rfl (fun c14 => ?_) (fun c14 => ?_)
    · replace h := if_t c14 h
      refine Tri.seqK ?_
      refine Tri.run (G := gm_ref10_Ask) tyOk mixed ?_
      conv => whnf
      refine Tri.run (G := gm_ref10_Ask) tyOk mixed ?_
      conv => whnf
      refine fin_here ?_
      conv => whnf
      cases h
      rfl
    · replace h := if_f c14 h
      refine Tri.run (G := gm_ref10_Ask) tyOk mixed ?_
      conv => whnf
      refine Tri.seqK ?_
      refine Tri.run (G := gm_ref10_Ask) tyOk mixed ?_
      conv => whnf
      replace h := bind_some h
      obtain ⟨y15, q16, h⟩ := h
      refine PureP.mono (ref10_Waits_walk l txn y15 q16) ?_
      rintro _ rfl
      conv => whnf
      refine Tri.seqK ?_
      refine Tri.seqK ?_
      refine Tri.run (G := gm_ref10_Ask) tyOk mixed ?_
      conv => whnf
      refine Tri.cond rfl (fun c18 => ?_) (fun c18 => ?_)
      · replace h := if_t c18 h
        refine Tri.seqK ?_
        refine Tri.run (G := gm_ref10_Ask) tyOk mixed ?_
        conv => whnf
        refine Tri.run (G := gm_ref10_Ask) tyOk mixed ?_
        conv => whnf
        refine fin_here ?_
        conv => whnf
        cases h
        rfl
      · replace h := if_f c18 h
        refine Tri.run (G := gm_ref10_Ask) tyOk mixed ?_
        conv => whnf
        refine Tri.seqK ?_
        refine Tri.seqK ?_
        refine Tri.run (G := gm_ref10_Ask) tyOk mixed ?_
        conv => whnf
        refine Tri.block ?_
        replace h := bind_some h
        obtain ⟨y181, q182, h⟩ := h
        refine Tri.cut (fun ex S' => (∃ v183 : Unit, y181 = (.inl v183) ∧ ex = .ret ∧ Weak S' ⟨92, 0, ofRegs [(8, .ptr 2 0), (9, .v (.int .i64 0))], [.gone, .gone, .var 25 [.sl (List.map encHold l.Held), .sl (List.map encClaim l.Queue)]]⟩) ∨ (∃ v184 : Unit, y181 = (.inr v184) ∧ ex = (.exit 0) ∧ Weak S' ⟨92, 0, ofRegs [(1, .v (.int .i64 txn)), (3, .v (.int .u64 until_)), (4, .ptr 0 0), (6, .ptr 1 0), (8, .ptr 2 0)], [.var 25 [.sl (List.map encHold l.Held), .sl (List.map encClaim l.Queue)], .var 44 [.v (.int .i64 w.Mode), .v (.string (bs w.Lo)), .v (.string (bs w.Hi))], .var 25 [.v (.slice none 0 0), .v (.slice none 0 0)]]⟩)) ?_ ?_
        · refine Tri.loopF (fun (s185 : Int) => (⟨92, 0, ofRegs [(1, .v (.int .i64 txn)), (3, .v (.int .u64 until_)), (4, .ptr 0 0), (6, .ptr 1 0), (8, .ptr 2 0), (12, .v (.int .i64 s185))], [.var 25 [.sl (List.map encHold l.Held), .sl (List.map encClaim l.Queue)], .var 44 [.v (.int .i64 w.Mode), .v (.string (bs w.Lo)), .v (.string (bs w.Hi))], .var 25 [.v (.slice none 0 0), .v (.slice none 0 0)]]⟩ : St)) q182 (weak_fin _ rfl rfl rfl (.cons (.same rfl) (.cons (.same rfl) (.cons (.same rfl) (LeH.rest)))) (.cons (.one (.same rfl)) (.cons (.one (.same rfl)) (.cons (.one (.same rfl)) (.cons (.one (.same rfl)) (.cons (.one (.same rfl)) (.cons (.one (.same rfl)) (.nil))))))) rfl rfl) ?_
          rintro a180 v186 hv r187
          have hv : ref10_Ask_l2 l txn w a180 = some v186 := hv
          unfold ref10_Ask_l2 at hv
          refine Tri.seqK ?_
          refine Tri.seqK ?_
          refine Tri.run (G := gm_ref10_Ask) tyOk mixed ?_
          conv => whnf
          refine ⟨⟨(l.Held.length : Int), (len_map _ _).symm, ?_⟩⟩
          conv => whnf
          refine Tri.cond rfl (fun c189 => ?_) (fun c189 => ?_)
          · replace hv := if_t c189 hv
            refine Tri.run (G := gm_ref10_Ask) tyOk mixed ?_
            conv => whnf
            refine Tri.seqK ?_
            refine Tri.block ?_
            refine Tri.seqK ?_
            refine Tri.run (G := gm_ref10_Ask) tyOk mixed ?_
            conv => whnf
            refine Draw.one 9 (.take 0 (.take 1 (.take 2 (.take 3 (.take 4 (.take 5 (.take 6 (.alt 7 (.take 8 (.fin)) (.nil))))))))) [] (by kernel_rfl) ?_
            conv => whnf
            replace hv := bind_some hv
            obtain ⟨x208, q209, hv⟩ := hv
            refine ⟨(ix_some q209).1, ?_⟩
            conv => whnf
            refine ⟨⟨_, map_get encHold (ix_some q209).2, ?_⟩⟩
            conv => whnf
            refine ⟨rfl, ?_⟩
            conv => whnf
            refine ⟨?_, ?_⟩
            · conv => whnf
              replace hv := bind_some hv
              obtain ⟨y210, q211, hv⟩ := hv
              refine PureP.mono (ref09_Covers_walk x208.W w y210 q211) ?_
              rintro _ rfl
              conv => whnf
              refine Tri.seqK ?_
              refine Tri.cut (fun ex S' => ex = .normal ∧ Weak S' ⟨92, 0, ofRegs [(1, .v (.int .i64 txn)), (3, .v (.int .u64 until_)), (4, .ptr 0 0), (6, .ptr 1 0), (8, .ptr 2 0), (12, .v (.int .i64 a180)), (53, .v (.bool (y210 && (decide (x208.Txn = txn)))))], [.var 25 [.sl (List.map encHold l.Held), .sl (List.map encClaim l.Queue)], .var 44 [.v (.int .i64 w.Mode), .v (.string (bs w.Lo)), .v (.string (bs w.Hi))], .var 25 [.v (.slice none 0 0), .v (.slice none 0 0)]]⟩) ?_ ?_
              · refine Tri.run (G := gm_ref10_Ask) tyOk mixed ?_
                conv => whnf
                refine cond_mk (fun c215 => ?_) (fun c215 => ?_)
                · replace c215 : y210 = true := c215
                  conv => whnf
                  refine ⟨(ix_some q209).1, ?_⟩
                  conv => whnf
                  refine ⟨⟨_, map_get encHold (ix_some q209).2, ?_⟩⟩
                  conv => whnf
                  refine ⟨rfl, ?_⟩
                  conv => whnf
                  exact ⟨rfl, weak_fin _ rfl rfl rfl (.cons (.same rfl) (.cons (.same rfl) (.cons (.same rfl) (LeH.rest)))) (.cons (.one (.same rfl)) (.cons (.one (.same rfl)) (.cons (.one (.same rfl)) (.cons (.one (.same rfl)) (.cons (.one (.same rfl)) (.cons (.one (.same rfl)) (.cons (.one (.same (show (.v (.bool (decide (x208.Txn = txn))) : AV) = (.v (.bool (y210 && (decide (x208.Txn = txn)))) : AV) from by first | (simp [c215]; done) | simp only [c215, Bool.or_true, Bool.true_or, Bool.false_or, Bool.or_false, Bool.and_true, Bool.true_and, Bool.and_false, Bool.false_and, Bool.not_true, Bool.not_false, if_true, if_false, Bool.false_eq_true]))) (.nil)))))))) rfl rfl⟩
                · replace c215 : y210 = false := c215
                  conv => whnf
                  exact ⟨rfl, weak_fin _ rfl rfl rfl (.cons (.same rfl) (.cons (.same rfl) (.cons (.same rfl) (LeH.rest)))) (.cons (.one (.same rfl)) (.cons (.one (.same rfl)) (.cons (.one (.same rfl)) (.cons (.one (.same rfl)) (.cons (.one (.same rfl)) (.cons (.one (.same rfl)) (.cons (.one (.same (show (.v (.bool false) : AV) = (.v (.bool (y210 && (decide (x208.Txn = txn)))) : AV) from by first | (simp [c215]; done) | simp only [c215, Bool.or_true, Bool.true_or, Bool.false_or, Bool.or_false, Bool.and_true, Bool.true_and, Bool.and_false, Bool.false_and, Bool.not_true, Bool.not_false, if_true, if_false, Bool.false_eq_true]))) (.nil)))))))) rfl rfl⟩
              · rintro ex S' ⟨rfl, w216⟩
                conv => whnf
                refine Tri.weak w216 ?_
                refine Tri.cond rfl (fun c217 => ?_) (fun c217 => ?_)
                · replace hv := if_t c217 hv
                  refine Tri.seqK ?_
                  refine Tri.run (G := gm_ref10_Ask) tyOk mixed ?_
                  conv => whnf
                  refine Tri.run (G := gm_ref10_Ask) tyOk mixed ?_
                  conv => whnf
                  cases hv
                  obtain rfl := r187 _ rfl
                  exact Or.inl ⟨_, rfl, rfl, weak_fin _ rfl rfl rfl (.cons (.gone) (.cons (.gone) (.cons (.same rfl) (LeH.rest)))) (.cons (.one (.same rfl)) (.cons (.one (.same rfl)) (.nil))) rfl rfl⟩
                · replace hv := if_f c217 hv
                  refine Tri.run (G := gm_ref10_Ask) tyOk mixed ?_
                  conv => whnf
                  refine Tri.run (G := gm_ref10_Ask) tyOk mixed ?_
                  conv => whnf
                  cases hv
                  exact ⟨_, rfl, weak_fin _ rfl rfl rfl (.cons (.same rfl) (.cons (.same rfl) (.cons (.same rfl) (LeH.rest)))) (.cons (.one (.same rfl)) (.cons (.one (.same rfl)) (.cons (.one (.same rfl)) (.cons (.one (.same rfl)) (.cons (.one (.same rfl)) (.cons (.one (.same rfl)) (.nil))))))) rfl rfl⟩
            · conv => whnf
              trivial
          · replace hv := if_f c189 hv
            refine Tri.run (G := gm_ref10_Ask) tyOk mixed ?_
            conv => whnf
            cases hv
            obtain rfl := r187 _ rfl
            exact Or.inr (⟨_, rfl, rfl, weak_fin _ rfl rfl rfl (.cons (.same rfl) (.cons (.same rfl) (.cons (.same rfl) (LeH.rest)))) (.cons (.one (.same rfl)) (.cons (.one (.same rfl)) (.cons (.one (.same rfl)) (.cons (.one (.same rfl)) (.cons (.one (.same rfl)) (.nil)))))) rfl rfl⟩)
        · rintro ex S' (⟨v183, rfl, rfl, w218⟩ | ⟨v184, rfl, rfl, w218⟩)
          · dsimp only at h
            conv => whnf
            refine fin_pre w218 ?_
            conv => whnf
            cases h
            rfl
          · dsimp only at h
            conv => whnf
            refine Tri.weak w218 ?_
            refine Tri.seqK ?_
            refine Tri.seqK ?_
            refine Tri.run (G := gm_ref10_Ask) tyOk mixed ?_
            conv => whnf
            refine ⟨⟨(l.Queue.length : Int), (len_map _ _).symm, ?_⟩⟩
            conv => whnf
            replace h := bind_some h
            obtain ⟨y236, q237, h⟩ := h
            refine PureP.mono (ref10_Blockers_walk l txn w (l.Queue.length : Int) y236 q237) ?_
            rintro _ rfl
            conv => whnf
            refine ⟨⟨(y236.length : Int), (len_map _ _).symm, ?_⟩⟩
            conv => whnf
            refine Tri.cond rfl (fun c238 => ?_) (fun c238 => ?_)
            · replace h := if_t c238 h
              refine Tri.seqK ?_
              refine Tri.run (G := gm_ref10_Ask) tyOk mixed ?_
              conv => whnf
              replace h := need_some h
              obtain ⟨p251, h⟩ := h
              replace h := need_some h
              obtain ⟨p252, h⟩ := h
              refine Draw.many 10 (.take 1 (.take 2 (.take 4 (.take 5 (.take 6 (.alt 0 (.alt 3 (.alt 7 (.alt 8 (.take 9 (.fin)) (.nil)) (.nil)) (.alt 7 (.alt 3 (.alt 8 (.take 9 (.fin)) (.nil)) (.nil)) (.nil))) (.alt 7 (.alt 0 (.alt 3 (.alt 8 (.take 9 (.fin)) (.nil)) (.nil)) (.nil)) (.nil)))))))) [] (⟨92, 0, ofRegs [(4, .ptr 0 0), (8, .ptr 2 0), (72, .sl (List.map encHold ((([] : List Hold) ++ l.Held) ++ [({ Txn := txn, W := w } : Hold)]))), (73, .ptr 0 0)], [.var 25 [.sl (List.map encHold l.Held), .sl (List.map encClaim l.Queue)], .var 44 [.v (.int .i64 w.Mode), .v (.string (bs w.Lo)), .v (.string (bs w.Hi))], .var 25 [.v (.slice none 0 0), .v (.slice none 0 0)]]⟩) (by kernel_rfl) ?_ ?_
              · conv => whnf
                refine ⟨?_, ?_⟩
                · conv => whnf
                  refine ⟨⟨List.map encHold ([] : List Hold), rfl, ?_⟩⟩
                  conv => whnf
                  refine ⟨?_, ?_⟩
                  · conv => whnf
                    refine ⟨rfl, ?_⟩
                    conv => whnf
                    refine ⟨map_len (f := encHold) (n := 4) (fun _ => rfl) _, ?_⟩
                    conv => whnf
                    refine ⟨by simp only [List.length_map]; exact p251, ?_⟩
                    conv => whnf
                    refine ⟨⟨List.map encHold (([] : List Hold) ++ l.Held), map_app encHold _ _ rfl rfl, ?_⟩⟩
                    conv => whnf
                    refine ⟨?_, ?_⟩
                    · conv => whnf
                      refine ⟨⟨List.map encHold [({ Txn := txn, W := w } : Hold)], rfl, ?_⟩⟩
                      conv => whnf
                      refine ⟨?_, ?_⟩
                      · conv => whnf
                        refine ⟨rfl, ?_⟩
                        conv => whnf
                        refine ⟨rfl, ?_⟩
                        conv => whnf
                        refine ⟨by simp only [List.length_map]; exact p252, ?_⟩
                        conv => whnf
                        refine ⟨⟨List.map encHold ((([] : List Hold) ++ l.Held) ++ [({ Txn := txn, W := w } : Hold)]), map_app encHold _ _ rfl rfl, ?_⟩⟩
                        conv => whnf
                        exact Weak.trans (weak_freeze 3 rfl) (weak_fin _ rfl rfl rfl (.cons (.same rfl) (.cons (.same rfl) (.cons (.same rfl) (LeH.rest)))) (.cons (.one (.same rfl)) (.cons (.one (.same rfl)) (.cons (.one (.frz rfl (rfl))) (.cons (.one (.same rfl)) (.nil))))) rfl rfl)
                      · conv => whnf
                        trivial
                    · conv => whnf
                      trivial
                  · conv => whnf
                    refine ⟨?_, ?_⟩
                    · conv => whnf
                      refine ⟨⟨List.map encHold [({ Txn := txn, W := w } : Hold)], rfl, ?_⟩⟩
                      conv => whnf
                      refine ⟨?_, ?_⟩
                      · conv => whnf
                        refine ⟨rfl, ?_⟩
                        conv => whnf
                        refine ⟨map_len (f := encHold) (n := 4) (fun _ => rfl) _, ?_⟩
                        conv => whnf
                        refine ⟨by simp only [List.length_map]; exact p251, ?_⟩
                        conv => whnf
                        refine ⟨⟨List.map encHold (([] : List Hold) ++ l.Held), map_app encHold _ _ rfl rfl, ?_⟩⟩
                        conv => whnf
                        refine ⟨?_, ?_⟩
                        · conv => whnf
                          refine ⟨rfl, ?_⟩
                          conv => whnf
                          refine ⟨rfl, ?_⟩
                          conv => whnf
                          refine ⟨by simp only [List.length_map]; exact p252, ?_⟩
                          conv => whnf
                          refine ⟨⟨List.map encHold ((([] : List Hold) ++ l.Held) ++ [({ Txn := txn, W := w } : Hold)]), map_app encHold _ _ rfl rfl, ?_⟩⟩
                          conv => whnf
                          exact Weak.trans (weak_freeze 3 rfl) (weak_fin _ rfl rfl rfl (.cons (.same rfl) (.cons (.same rfl) (.cons (.same rfl) (LeH.rest)))) (.cons (.one (.same rfl)) (.cons (.one (.same rfl)) (.cons (.one (.frz rfl (rfl))) (.cons (.one (.same rfl)) (.nil))))) rfl rfl)
                        · conv => whnf
                          trivial
                      · conv => whnf
                        trivial
                    · conv => whnf
                      trivial
                · conv => whnf
                  refine ⟨?_, ?_⟩
                  · conv => whnf
                    refine ⟨⟨List.map encHold [({ Txn := txn, W := w } : Hold)], rfl, ?_⟩⟩
                    conv => whnf
                    refine ⟨?_, ?_⟩
                    · conv => whnf
                      refine ⟨⟨List.map encHold ([] : List Hold), rfl, ?_⟩⟩
                      conv => whnf
                      refine ⟨?_, ?_⟩
                      · conv => whnf
                        refine ⟨rfl, ?_⟩
                        conv => whnf
                        refine ⟨map_len (f := encHold) (n := 4) (fun _ => rfl) _, ?_⟩
                        conv => whnf
                        refine ⟨by simp only [List.length_map]; exact p251, ?_⟩
                        conv => whnf
                        refine ⟨⟨List.map encHold (([] : List Hold) ++ l.Held), map_app encHold _ _ rfl rfl, ?_⟩⟩
                        conv => whnf
                        refine ⟨?_, ?_⟩
                        · conv => whnf
                          refine ⟨rfl, ?_⟩
                          conv => whnf
                          refine ⟨rfl, ?_⟩
                          conv => whnf
                          refine ⟨by simp only [List.length_map]; exact p252, ?_⟩
                          conv => whnf
                          refine ⟨⟨List.map encHold ((([] : List Hold) ++ l.Held) ++ [({ Txn := txn, W := w } : Hold)]), map_app encHold _ _ rfl rfl, ?_⟩⟩
                          conv => whnf
                          exact Weak.trans (weak_freeze 4 rfl) (weak_fin _ rfl rfl rfl (.cons (.same rfl) (.cons (.same rfl) (.cons (.same rfl) (LeH.rest)))) (.cons (.one (.same rfl)) (.cons (.one (.same rfl)) (.cons (.one (.frz rfl (rfl))) (.cons (.one (.same rfl)) (.nil))))) rfl rfl)
                        · conv => whnf
                          trivial
                      · conv => whnf
                        trivial
                    · conv => whnf
                      trivial
                  · conv => whnf
                    trivial
              · conv => whnf
                refine Tri.seqK ?_
                refine Tri.run (G := gm_ref10_Ask) tyOk mixed ?_
                conv => whnf
                refine Tri.run (G := gm_ref10_Ask) tyOk mixed ?_
                conv => whnf
                refine fin_here ?_
                conv => whnf
                cases h
                rfl
            · replace h := if_f c238 h
              refine Tri.run (G := gm_ref10_Ask) tyOk mixed ?_
              conv => whnf
              refine Tri.seqK ?_
              refine Tri.seqK ?_
              refine Tri.run (G := gm_ref10_Ask) tyOk mixed ?_
              conv => whnf
              refine ⟨⟨(l.Queue.length : Int), (len_map _ _).symm, ?_⟩⟩
              conv => whnf
              refine Tri.cond rfl (fun c254 => ?_) (fun c254 => ?_)
              · replace h := if_t c254 h
                refine Tri.seqK ?_
                refine Tri.run (G := gm_ref10_Ask) tyOk mixed ?_
                conv => whnf
                refine Tri.run (G := gm_ref10_Ask) tyOk mixed ?_
                conv => whnf
                refine fin_here ?_
                conv => whnf
                cases h
                rfl
              · replace h := if_f c254 h
                refine Tri.run (G := gm_ref10_Ask) tyOk mixed ?_
                conv => whnf
                refine Tri.seqK ?_
                refine Tri.run (G := gm_ref10_Ask) tyOk mixed ?_
                conv => whnf
                replace h := need_some h
                obtain ⟨p267, h⟩ := h
                replace h := need_some h
                obtain ⟨p268, h⟩ := h
                refine Draw.many 11 (.take 1 (.take 2 (.take 4 (.take 5 (.take 6 (.take 7 (.alt 0 (.alt 3 (.alt 8 (.alt 9 (.take 10 (.fin)) (.nil)) (.nil)) (.alt 8 (.alt 3 (.alt 9 (.take 10 (.fin)) (.nil)) (.nil)) (.nil))) (.alt 8 (.alt 0 (.alt 3 (.alt 9 (.take 10 (.fin)) (.nil)) (.nil)) (.nil)) (.nil))))))))) [] (⟨92, 0, ofRegs [(4, .ptr 0 0), (8, .ptr 2 0), (89, .sl (List.map encClaim ((([] : List Claim) ++ l.Queue) ++ [({ Txn := txn, W := w, Until := until_ } : Claim)]))), (90, .ptr 0 1)], [.var 25 [.sl (List.map encHold l.Held), .sl (List.map encClaim l.Queue)], .var 44 [.v (.int .i64 w.Mode), .v (.string (bs w.Lo)), .v (.string (bs w.Hi))], .var 25 [.v (.slice none 0 0), .v (.slice none 0 0)]]⟩) (by kernel_rfl) ?_ ?_
                · conv => whnf
                  refine ⟨?_, ?_⟩
                  · conv => whnf
                    refine ⟨⟨List.map encClaim ([] : List Claim), rfl, ?_⟩⟩
                    conv => whnf
                    refine ⟨?_, ?_⟩
                    · conv => whnf
                      refine ⟨rfl, ?_⟩
                      conv => whnf
                      refine ⟨map_len (f := encClaim) (n := 5) (fun _ => rfl) _, ?_⟩
                      conv => whnf
                      refine ⟨by simp only [List.length_map]; exact p267, ?_⟩
                      conv => whnf
                      refine ⟨⟨List.map encClaim (([] : List Claim) ++ l.Queue), map_app encClaim _ _ rfl rfl, ?_⟩⟩
                      conv => whnf
                      refine ⟨?_, ?_⟩
                      · conv => whnf
                        refine ⟨⟨List.map encClaim [({ Txn := txn, W := w, Until := until_ } : Claim)], rfl, ?_⟩⟩
                        conv => whnf
                        refine ⟨?_, ?_⟩
                        · conv => whnf
                          refine ⟨rfl, ?_⟩
                          conv => whnf
                          refine ⟨rfl, ?_⟩
                          conv => whnf
                          refine ⟨by simp only [List.length_map]; exact p268, ?_⟩
                          conv => whnf
                          refine ⟨⟨List.map encClaim ((([] : List Claim) ++ l.Queue) ++ [({ Txn := txn, W := w, Until := until_ } : Claim)]), map_app encClaim _ _ rfl rfl, ?_⟩⟩
                          conv => whnf
                          exact Weak.trans (weak_freeze 3 rfl) (weak_fin _ rfl rfl rfl (.cons (.same rfl) (.cons (.same rfl) (.cons (.same rfl) (LeH.rest)))) (.cons (.one (.same rfl)) (.cons (.one (.same rfl)) (.cons (.one (.frz rfl (rfl))) (.cons (.one (.same rfl)) (.nil))))) rfl rfl)
                        · conv => whnf
                          trivial
                      · conv => whnf
                        trivial
                    · conv => whnf
                      refine ⟨?_, ?_⟩
                      · conv => whnf
                        refine ⟨⟨List.map encClaim [({ Txn := txn, W := w, Until := until_ } : Claim)], rfl, ?_⟩⟩
                        conv => whnf
                        refine ⟨?_, ?_⟩
                        · conv => whnf
                          refine ⟨rfl, ?_⟩
                          conv => whnf
                          refine ⟨map_len (f := encClaim) (n := 5) (fun _ => rfl) _, ?_⟩
                          conv => whnf
                          refine ⟨by simp only [List.length_map]; exact p267, ?_⟩
                          conv => whnf
                          refine ⟨⟨List.map encClaim (([] : List Claim) ++ l.Queue), map_app encClaim _ _ rfl rfl, ?_⟩⟩
                          conv => whnf
                          refine ⟨?_, ?_⟩
                          · conv => whnf
                            refine ⟨rfl, ?_⟩
                            conv => whnf
                            refine ⟨rfl, ?_⟩
                            conv => whnf
                            refine ⟨by simp only [List.length_map]; exact p268, ?_⟩
                            conv => whnf
                            refine ⟨⟨List.map encClaim ((([] : List Claim) ++ l.Queue) ++ [({ Txn := txn, W := w, Until := until_ } : Claim)]), map_app encClaim _ _ rfl rfl, ?_⟩⟩
                            conv => whnf
                            exact Weak.trans (weak_freeze 3 rfl) (weak_fin _ rfl rfl rfl (.cons (.same rfl) (.cons (.same rfl) (.cons (.same rfl) (LeH.rest)))) (.cons (.one (.same rfl)) (.cons (.one (.same rfl)) (.cons (.one (.frz rfl (rfl))) (.cons (.one (.same rfl)) (.nil))))) rfl rfl)
                          · conv => whnf
                            trivial
                        · conv => whnf
                          trivial
                      · conv => whnf
                        trivial
                  · conv => whnf
                    refine ⟨?_, ?_⟩
                    · conv => whnf
                      refine ⟨⟨List.map encClaim [({ Txn := txn, W := w, Until := until_ } : Claim)], rfl, ?_⟩⟩
                      conv => whnf
                      refine ⟨?_, ?_⟩
                      · conv => whnf
                        refine ⟨⟨List.map encClaim ([] : List Claim), rfl, ?_⟩⟩
                        conv => whnf
                        refine ⟨?_, ?_⟩
                        · conv => whnf
                          refine ⟨rfl, ?_⟩
                          conv => whnf
                          refine ⟨map_len (f := encClaim) (n := 5) (fun _ => rfl) _, ?_⟩
                          conv => whnf
                          refine ⟨by simp only [List.length_map]; exact p267, ?_⟩
                          conv => whnf
                          refine ⟨⟨List.map encClaim (([] : List Claim) ++ l.Queue), map_app encClaim _ _ rfl rfl, ?_⟩⟩
                          conv => whnf
                          refine ⟨?_, ?_⟩
                          · conv => whnf
                            refine ⟨rfl, ?_⟩
                            conv => whnf
                            refine ⟨rfl, ?_⟩
                            conv => whnf
                            refine ⟨by simp only [List.length_map]; exact p268, ?_⟩
                            conv => whnf
                            refine ⟨⟨List.map encClaim ((([] : List Claim) ++ l.Queue) ++ [({ Txn := txn, W := w, Until := until_ } : Claim)]), map_app encClaim _ _ rfl rfl, ?_⟩⟩
                            conv => whnf
                            exact Weak.trans (weak_freeze 4 rfl) (weak_fin _ rfl rfl rfl (.cons (.same rfl) (.cons (.same rfl) (.cons (.same rfl) (LeH.rest)))) (.cons (.one (.same rfl)) (.cons (.one (.same rfl)) (.cons (.one (.frz rfl (rfl))) (.cons (.one (.same rfl)) (.nil))))) rfl rfl)
                          · conv => whnf
                            trivial
                        · conv => whnf
                          trivial
                      · conv => whnf
                        trivial
                    · conv => whnf
                      trivial
                · conv => whnf
                  refine Tri.seqK ?_
                  refine Tri.run (G := gm_ref10_Ask) tyOk mixed ?_
                  conv => whnf
                  refine Tri.run (G := gm_ref10_Ask) tyOk mixed ?_
                  conv => whnf
                  refine fin_here ?_
                  conv => whnf
                  cases h
                  rfl
noncomputable def span_empty (w : Want) : Option (Bool) :=
  if (!decide (w.Hi = [])) then
    some (ltS w.Hi w.Lo || decide (w.Hi = w.Lo))
  else
    some false
def gm_span_empty : Gm := ⟨tys, [], [], []⟩
theorem span_empty_walk (w : Want) (r : Bool) (h : span_empty w = some r) : PureP Try.prog 88 [.agg [.v (.int .i64 w.Mode), .v (.string (bs w.Lo)), .v (.string (bs w.Hi))]] (fun a => a = .v (.bool r)) := by
  unfold span_empty at h
  refine pureW (G := gm_span_empty) tyOk Try.func88 rfl (by kernel_rfl) (by simp [Try.f88]) ?_
  refine Tri.seqK ?_
  refine Tri.run (G := gm_span_empty) tyOk mixed ?_
  conv => whnf
  refine Tri.seqK ?_
  refine Tri.run (G := gm_span_empty) tyOk mixed ?_
  conv => whnf
  refine ⟨⟨(!decide (w.Hi = [])), bs_ne _ _, ?_⟩⟩
  conv => whnf
  refine cond_mk (fun c1 => ?_) (fun c1 => ?_)
  · replace h := if_t c1 h
    conv => whnf
    refine ⟨⟨(ltS w.Hi w.Lo || decide (w.Hi = w.Lo)), bs_le _ _, ?_⟩⟩
    conv => whnf
    refine Tri.run (G := gm_span_empty) tyOk mixed ?_
    conv => whnf
    refine fin_here ?_
    conv => whnf
    cases h
    rfl
  · replace h := if_f c1 h
    conv => whnf
    refine Tri.run (G := gm_span_empty) tyOk mixed ?_
    conv => whnf
    refine fin_here ?_
    conv => whnf
    cases h
    rfl
noncomputable def span_In (w : Want) (key : Str) : Option (Bool) :=
  if (!ltS key w.Lo) then
    if (decide (w.Hi = [])) then
      some true
    else
      some (ltS key w.Hi)
  else
    some false
def gm_span_In : Gm := ⟨tys, [], [], []⟩
theorem span_In_walk (w : Want) (key : Str) (r : Bool) (h : span_In w key = some r) : PureP Try.prog 101 [.agg [.v (.int .i64 w.Mode), .v (.string (bs w.Lo)), .v (.string (bs w.Hi))], .v (.string (bs key))] (fun a => a = .v (.bool r)) := by
  unfold span_In at h
  refine pureW (G := gm_span_In) tyOk Try.func101 rfl (by kernel_rfl) (by simp [Try.f101]) ?_
  refine Tri.seqK ?_
  refine Tri.run (G := gm_span_In) tyOk mixed ?_
  conv => whnf
  refine Tri.seqK ?_
  refine Tri.run (G := gm_span_In) tyOk mixed ?_
  conv => whnf
  refine ⟨⟨(!ltS key w.Lo), bs_ge _ _, ?_⟩⟩
  conv => whnf
  refine cond_mk (fun c1 => ?_) (fun c1 => ?_)
  · replace h := if_t c1 h
    conv => whnf
    refine ⟨⟨(decide (w.Hi = [])), bs_eq _ _, ?_⟩⟩
    conv => whnf
    refine cond_mk (fun c2 => ?_) (fun c2 => ?_)
    · replace h := if_t c2 h
      conv => whnf
      refine Tri.run (G := gm_span_In) tyOk mixed ?_
      conv => whnf
      refine fin_here ?_
      conv => whnf
      cases h
      rfl
    · replace h := if_f c2 h
      conv => whnf
      refine ⟨⟨(ltS key w.Hi), bs_lt _ _, ?_⟩⟩
      conv => whnf
      refine Tri.run (G := gm_span_In) tyOk mixed ?_
      conv => whnf
      refine fin_here ?_
      conv => whnf
      cases h
      rfl
  · replace h := if_f c1 h
    conv => whnf
    refine Tri.run (G := gm_span_In) tyOk mixed ?_
    conv => whnf
    refine fin_here ?_
    conv => whnf
    cases h
    rfl
noncomputable def span_Overlap (a : Want) (b : Want) : Option (Bool) :=
  (
    (span_empty a).bind fun y32 =>
    if y32 then
      some true
    else
      (span_empty b).bind fun y35 =>
      some y35).bind fun (y30 : Bool) =>
  if y30 then
    some false
  else
    (span_In a b.Lo).bind fun y39 =>
    if y39 then
      some true
    else
      (span_In b a.Lo).bind fun y42 =>
      some y42
def gm_span_Overlap : Gm := ⟨tys, [], [], []⟩
theorem span_Overlap_walk (a : Want) (b : Want) (r : Bool) (h : span_Overlap a b = some r) : PureP Try.prog 87 [.agg [.v (.int .i64 a.Mode), .v (.string (bs a.Lo)), .v (.string (bs a.Hi))], .agg [.v (.int .i64 b.Mode), .v (.string (bs b.Lo)), .v (.string (bs b.Hi))]] (fun a => a = .v (.bool r)) := by
  unfold span_Overlap at h
  refine pureW (G := gm_span_Overlap) tyOk Try.func87 rfl (by kernel_rfl) (by simp [Try.f87]) ?_
  refine Tri.seqK ?_
  refine Tri.run (G := gm_span_Overlap) tyOk mixed ?_
  conv => whnf
  refine Tri.seqK ?_
  refine Tri.seqK ?_
  replace h := bind_some h
  obtain ⟨y30, q31, h⟩ := h
  refine Tri.cut (fun ex S' => ex = .normal ∧ Weak S' ⟨21, 0, ofRegs [(2, .ptr 0 0), (3, .ptr 1 0), (10, .v (.bool y30))], [.var 44 [.v (.int .i64 a.Mode), .v (.string (bs a.Lo)), .v (.string (bs a.Hi))], .var 44 [.v (.int .i64 b.Mode), .v (.string (bs b.Lo)), .v (.string (bs b.Hi))]]⟩) ?_ ?_
  · refine Tri.run (G := gm_span_Overlap) tyOk mixed ?_
    conv => whnf
    replace q31 := bind_some q31
    obtain ⟨y32, q33, q31⟩ := q31
    refine PureP.mono (span_empty_walk a y32 q33) ?_
    rintro _ rfl
    conv => whnf
    refine cond_mk (fun c34 => ?_) (fun c34 => ?_)
    · replace q31 := if_t c34 q31
      conv => whnf
      cases q31
      exact ⟨rfl, weak_fin _ rfl rfl rfl (.cons (.same rfl) (.cons (.same rfl) (LeH.rest))) (.cons (.one (.same rfl)) (.cons (.one (.same rfl)) (.cons (.one (.same rfl)) (.nil)))) rfl rfl⟩
    · replace q31 := if_f c34 q31
      conv => whnf
      replace q31 := bind_some q31
      obtain ⟨y35, q36, q31⟩ := q31
      refine PureP.mono (span_empty_walk b y35 q36) ?_
      rintro _ rfl
      conv => whnf
      cases q31
      exact ⟨rfl, weak_fin _ rfl rfl rfl (.cons (.same rfl) (.cons (.same rfl) (LeH.rest))) (.cons (.one (.same rfl)) (.cons (.one (.same rfl)) (.cons (.one (.same rfl)) (.nil)))) rfl rfl⟩
  · rintro ex S' ⟨rfl, w37⟩
    conv => whnf
    refine Tri.weak w37 ?_
    refine Tri.cond rfl (fun c38 => ?_) (fun c38 => ?_)
    · replace h := if_t c38 h
      refine Tri.seqK ?_
      refine Tri.run (G := gm_span_Overlap) tyOk mixed ?_
      conv => whnf
      refine Tri.run (G := gm_span_Overlap) tyOk mixed ?_
      conv => whnf
      refine fin_here ?_
      conv => whnf
      cases h
      rfl
    · replace h := if_f c38 h
      refine Tri.run (G := gm_span_Overlap) tyOk mixed ?_
      conv => whnf
      refine Tri.seqK ?_
      refine Tri.run (G := gm_span_Overlap) tyOk mixed ?_
      conv => whnf
      replace h := bind_some h
      obtain ⟨y39, q40, h⟩ := h
      refine PureP.mono (span_In_walk a b.Lo y39 q40) ?_
      rintro _ rfl
      conv => whnf
      refine cond_mk (fun c41 => ?_) (fun c41 => ?_)
      · replace h := if_t c41 h
        conv => whnf
        refine Tri.run (G := gm_span_Overlap) tyOk mixed ?_
        conv => whnf
        refine fin_here ?_
        conv => whnf
        cases h
        rfl
      · replace h := if_f c41 h
        conv => whnf
        replace h := bind_some h
        obtain ⟨y42, q43, h⟩ := h
        refine PureP.mono (span_In_walk b a.Lo y42 q43) ?_
        rintro _ rfl
        conv => whnf
        refine Tri.run (G := gm_span_Overlap) tyOk mixed ?_
        conv => whnf
        refine fin_here ?_
        conv => whnf
        cases h
        rfl
noncomputable def span_Clash (a : Want) (b : Want) : Option (Bool) :=
  (span_Overlap a b).bind fun y1 =>
  if y1 then
    if (decide (a.Mode = 2)) then
      some true
    else
      some (decide (b.Mode = 2))
  else
    some false
def gm_span_Clash : Gm := ⟨tys, [], [], []⟩
theorem span_Clash_walk (a : Want) (b : Want) (r : Bool) (h : span_Clash a b = some r) : PureP Try.prog 66 [.agg [.v (.int .i64 a.Mode), .v (.string (bs a.Lo)), .v (.string (bs a.Hi))], .agg [.v (.int .i64 b.Mode), .v (.string (bs b.Lo)), .v (.string (bs b.Hi))]] (fun a => a = .v (.bool r)) := by
  unfold span_Clash at h
  refine pureW (G := gm_span_Clash) tyOk Try.func66 rfl (by kernel_rfl) (by simp [Try.f66]) ?_
  refine Tri.seqK ?_
  refine Tri.run (G := gm_span_Clash) tyOk mixed ?_
  conv => whnf
  refine Tri.seqK ?_
  refine Tri.run (G := gm_span_Clash) tyOk mixed ?_
  conv => whnf
  replace h := bind_some h
  obtain ⟨y1, q2, h⟩ := h
  refine PureP.mono (span_Overlap_walk a b y1 q2) ?_
  rintro _ rfl
  conv => whnf
  refine cond_mk (fun c3 => ?_) (fun c3 => ?_)
  · replace h := if_t c3 h
    conv => whnf
    refine cond_mk (fun c4 => ?_) (fun c4 => ?_)
    · replace h := if_t c4 h
      conv => whnf
      refine Tri.run (G := gm_span_Clash) tyOk mixed ?_
      conv => whnf
      refine fin_here ?_
      conv => whnf
      cases h
      rfl
    · replace h := if_f c4 h
      conv => whnf
      refine Tri.run (G := gm_span_Clash) tyOk mixed ?_
      conv => whnf
      refine fin_here ?_
      conv => whnf
      cases h
      rfl
  · replace h := if_f c3 h
    conv => whnf
    refine Tri.run (G := gm_span_Clash) tyOk mixed ?_
    conv => whnf
    refine fin_here ?_
    conv => whnf
    cases h
    rfl
noncomputable def lock_Blockers_l2 (l : Locks) (txn : Int) (w : Want) (a278 : Int) (a279 : (List Int)) : Option ((Int × (List Int)) ⊕ ((List Int))) :=
  if (decide (a278 < (l.Held.length : Int))) then
    (
      (ix l.Held a278).bind fun x321 =>
      (
        if (!(decide (x321.Txn = txn))) then
          (span_Clash x321.W w).bind fun y332 =>
          some y332
        else
          some false).bind fun (y329 : Bool) =>
      if y329 then
        need ((-9223372036854775808 ≤ x321.Txn ∧ x321.Txn ≤ 9223372036854775807) ∧ a279.length < 1073741824) <|
        some (insI a279 x321.Txn)
      else
        some a279).bind fun (y319 : (List Int)) =>
    some (.inl ((IntKind.i64.wrap (a278 + 1)), y319))
  else
    some (.inr a279)
noncomputable def lock_Blockers_l4 (l : Locks) (txn : Int) (w : Want) (n : Int) (a618 : Int) (a619 : (List Int)) : Option ((Int × (List Int)) ⊕ ((List Int))) :=
  if (decide (a618 < ((cut l.Queue 0 (if (l.Queue.length : Int) < (if n < 0 then 0 else n) then (l.Queue.length : Int) else (if n < 0 then 0 else n))).length : Int))) then
    (
      (ix (cut l.Queue 0 (if (l.Queue.length : Int) < (if n < 0 then 0 else n) then (l.Queue.length : Int) else (if n < 0 then 0 else n))) a618).bind fun x661 =>
      (
        if (!(decide (x661.Txn = txn))) then
          (span_Clash x661.W w).bind fun y672 =>
          some y672
        else
          some false).bind fun (y669 : Bool) =>
      if y669 then
        need ((-9223372036854775808 ≤ x661.Txn ∧ x661.Txn ≤ 9223372036854775807) ∧ a619.length < 1073741824) <|
        some (insI a619 x661.Txn)
      else
        some a619).bind fun (y659 : (List Int)) =>
    some (.inl ((IntKind.i64.wrap (a618 + 1)), y659))
  else
    some (.inr a619)
noncomputable def lock_Blockers (l : Locks) (txn : Int) (w : Want) (n : Int) : Option ((List Int)) :=
  (loop (fun (s282 : Int × (List Int)) => lock_Blockers_l2 l txn w s282.1 s282.2) ((0 : Int), ([] : List Int))).bind fun (y280 : (List Int)) =>
  need (0 ≤ (0 : Int) ∧ 0 ≤ (if (l.Queue.length : Int) < (if n < 0 then 0 else n) then (l.Queue.length : Int) else (if n < 0 then 0 else n)) ∧ (if (l.Queue.length : Int) < (if n < 0 then 0 else n) then (l.Queue.length : Int) else (if n < 0 then 0 else n)) ≤ (l.Queue.length : Int)) <|
  (loop (fun (s622 : Int × (List Int)) => lock_Blockers_l4 l txn w n s622.1 s622.2) ((0 : Int), y280)).bind fun (y620 : (List Int)) =>
  need (y620.length < 1073741824) <|
  some (List.mergeSort y620 leI)
def gm_lock_Blockers : Gm := ⟨tys, [51, 52], [], []⟩
theorem lock_Blockers_walk (l : Locks) (txn : Int) (w : Want) (n : Int) (r : (List Int)) (h : lock_Blockers l txn w n = some r) : PureP Try.prog 36 [.agg [.sl (List.map encHold l.Held), .sl (List.map encClaim l.Queue)], .v (.int .i64 txn), .agg [.v (.int .i64 w.Mode), .v (.string (bs w.Lo)), .v (.string (bs w.Hi))], .v (.int .i64 n)] (fun a => a = .sl (List.map (encI .i64) r)) := by
  unfold lock_Blockers at h
  refine pureW (G := gm_lock_Blockers) tyOk Try.func36 rfl (by kernel_rfl) (by simp [Try.f36]) ?_
  refine Tri.seqK ?_
  refine Tri.run (G := gm_lock_Blockers) tyOk mixed ?_
  conv => whnf
  refine Tri.seqK ?_
  refine Tri.run (G := gm_lock_Blockers) tyOk mixed ?_
  conv => whnf
  refine OpP.make 3 4 rfl rfl ?_
  conv => whnf
  refine Tri.seqK ?_
  refine Tri.seqK ?_
  refine Tri.run (G := gm_lock_Blockers) tyOk mixed ?_
  conv => whnf
  refine ⟨⟨(l.Held.length : Int), (len_map _ _).symm, ?_⟩⟩
  conv => whnf
  refine Tri.block ?_
  replace h := bind_some h
  obtain ⟨y280, q281, h⟩ := h
  refine Tri.cut (fun ex S' => ex = (.exit 0) ∧ Weak S' ⟨67, 0, ofRegs [(1, .v (.int .i64 txn)), (3, .v (.int .i64 n)), (4, .ptr 0 0), (6, .ptr 1 0), (9, .mp 2)], [.var 25 [.sl (List.map encHold l.Held), .sl (List.map encClaim l.Queue)], .var 44 [.v (.int .i64 w.Mode), .v (.string (bs w.Lo)), .v (.string (bs w.Hi))], .ext (mapI Try.prog 3 4 y280)]⟩) ?_ ?_
  · refine Tri.loopF (fun (s282 : Int × (List Int)) => (⟨67, 0, ofRegs [(1, .v (.int .i64 txn)), (3, .v (.int .i64 n)), (4, .ptr 0 0), (6, .ptr 1 0), (9, .mp 2), (16, .sl (List.map encHold l.Held)), (17, .v (.int .i64 (l.Held.length : Int))), (18, .v (.int .i64 s282.1))], [.var 25 [.sl (List.map encHold l.Held), .sl (List.map encClaim l.Queue)], .var 44 [.v (.int .i64 w.Mode), .v (.string (bs w.Lo)), .v (.string (bs w.Hi))], .ext (mapI Try.prog 3 4 s282.2)]⟩ : St)) q281 (weak_fin _ rfl rfl rfl (.cons (.same rfl) (.cons (.same rfl) (.cons (.same rfl) (LeH.rest)))) (.cons (.one (.same rfl)) (.cons (.one (.same rfl)) (.cons (.one (.same rfl)) (.cons (.one (.same rfl)) (.cons (.one (.same rfl)) (.cons (.one (.same rfl)) (.cons (.one (.same rfl)) (.cons (.one (.same rfl)) (.nil))))))))) rfl rfl) ?_
    rintro ⟨a278, a279⟩ v283 hv r284
    have hv : lock_Blockers_l2 l txn w a278 a279 = some v283 := hv
    unfold lock_Blockers_l2 at hv
    dsimp only
    refine Tri.seqK ?_
    refine Tri.run (G := gm_lock_Blockers) tyOk mixed ?_
    conv => whnf
    refine Tri.seqK ?_
    refine Tri.cond rfl (fun c286 => ?_) (fun c286 => ?_)
    · replace hv := if_t c286 hv
      refine Tri.run (G := gm_lock_Blockers) tyOk mixed ?_
      conv => whnf
      refine Tri.seqK ?_
      replace hv := bind_some hv
      obtain ⟨y319, q320, hv⟩ := hv
      refine Tri.cut (fun ex S' => ex = .normal ∧ Weak S' ⟨67, 0, ofRegs [(1, .v (.int .i64 txn)), (3, .v (.int .i64 n)), (4, .ptr 0 0), (6, .ptr 1 0), (9, .mp 2), (16, .sl (List.map encHold l.Held)), (17, .v (.int .i64 (l.Held.length : Int))), (18, .v (.int .i64 a278))], [.var 25 [.sl (List.map encHold l.Held), .sl (List.map encClaim l.Queue)], .var 44 [.v (.int .i64 w.Mode), .v (.string (bs w.Lo)), .v (.string (bs w.Hi))], .ext (mapI Try.prog 3 4 y319)]⟩) ?_ ?_
      · refine Tri.block ?_
        refine Tri.seqK ?_
        refine Tri.run (G := gm_lock_Blockers) tyOk mixed ?_
        conv => whnf
        replace q320 := bind_some q320
        obtain ⟨x321, q322, q320⟩ := q320
        refine ⟨(ix_some q322).1, ?_⟩
        conv => whnf
        refine ⟨⟨_, map_get encHold (ix_some q322).2, ?_⟩⟩
        conv => whnf
        refine ⟨rfl, ?_⟩
        conv => whnf
        refine Tri.seqK ?_
        replace q320 := bind_some q320
        obtain ⟨y329, q330, q320⟩ := q320
        refine Tri.cut (fun ex S' => ex = .normal ∧ Weak S' ⟨67, 0, ofRegs [(1, .v (.int .i64 txn)), (3, .v (.int .i64 n)), (4, .ptr 0 0), (6, .ptr 1 0), (9, .mp 2), (11, .ptr 3 0), (16, .sl (List.map encHold l.Held)), (17, .v (.int .i64 (l.Held.length : Int))), (18, .v (.int .i64 a278)), (31, .v (.bool y329))], [.var 25 [.sl (List.map encHold l.Held), .sl (List.map encClaim l.Queue)], .var 44 [.v (.int .i64 w.Mode), .v (.string (bs w.Lo)), .v (.string (bs w.Hi))], .ext (mapI Try.prog 3 4 a279), .var 46 [.v (.int .i64 x321.Txn), .v (.int .i64 x321.W.Mode), .v (.string (bs x321.W.Lo)), .v (.string (bs x321.W.Hi))]]⟩) ?_ ?_
        · refine Tri.run (G := gm_lock_Blockers) tyOk mixed ?_
          conv => whnf
          refine cond_mk (fun c331 => ?_) (fun c331 => ?_)
          · replace q330 := if_t c331 q330
            conv => whnf
            replace q330 := bind_some q330
            obtain ⟨y332, q333, q330⟩ := q330
            refine PureP.mono (span_Clash_walk x321.W w y332 q333) ?_
            rintro _ rfl
            conv => whnf
            cases q330
            exact ⟨rfl, weak_fin _ rfl rfl rfl (.cons (.same rfl) (.cons (.same rfl) (.cons (.same rfl) (.cons (.same rfl) (LeH.rest))))) (.cons (.one (.same rfl)) (.cons (.one (.same rfl)) (.cons (.one (.same rfl)) (.cons (.one (.same rfl)) (.cons (.one (.same rfl)) (.cons (.one (.same rfl)) (.cons (.one (.same rfl)) (.cons (.one (.same rfl)) (.cons (.one (.same rfl)) (.cons (.one (.same rfl)) (.nil))))))))))) rfl rfl⟩
          · replace q330 := if_f c331 q330
            conv => whnf
            cases q330
            exact ⟨rfl, weak_fin _ rfl rfl rfl (.cons (.same rfl) (.cons (.same rfl) (.cons (.same rfl) (.cons (.same rfl) (LeH.rest))))) (.cons (.one (.same rfl)) (.cons (.one (.same rfl)) (.cons (.one (.same rfl)) (.cons (.one (.same rfl)) (.cons (.one (.same rfl)) (.cons (.one (.same rfl)) (.cons (.one (.same rfl)) (.cons (.one (.same rfl)) (.cons (.one (.same rfl)) (.cons (.one (.same rfl)) (.nil))))))))))) rfl rfl⟩
        · rintro ex S' ⟨rfl, w334⟩
          conv => whnf
          refine Tri.weak w334 ?_
          refine Tri.cond rfl (fun c335 => ?_) (fun c335 => ?_)
          · replace q320 := if_t c335 q320
            refine Tri.run (G := gm_lock_Blockers) tyOk mixed ?_
            conv => whnf
            replace q320 := need_some q320
            obtain ⟨p336, q320⟩ := q320
            refine OpP.set rfl rfl rfl rfl rfl rfl Try.underlying70 Try.underlying3 Try.underlying4 p336 ?_
            conv => whnf
            cases q320
            exact ⟨rfl, weak_fin _ rfl rfl rfl (.cons (.same rfl) (.cons (.same rfl) (.cons (.same rfl) (LeH.rest)))) (.cons (.one (.same rfl)) (.cons (.one (.same rfl)) (.cons (.one (.same rfl)) (.cons (.one (.same rfl)) (.cons (.one (.same rfl)) (.cons (.one (.same rfl)) (.cons (.one (.same rfl)) (.cons (.one (.same rfl)) (.nil))))))))) rfl rfl⟩
          · replace q320 := if_f c335 q320
            refine Tri.run (G := gm_lock_Blockers) tyOk mixed ?_
            conv => whnf
            cases q320
            exact ⟨rfl, weak_fin _ rfl rfl rfl (.cons (.same rfl) (.cons (.same rfl) (.cons (.same rfl) (LeH.rest)))) (.cons (.one (.same rfl)) (.cons (.one (.same rfl)) (.cons (.one (.same rfl)) (.cons (.one (.same rfl)) (.cons (.one (.same rfl)) (.cons (.one (.same rfl)) (.cons (.one (.same rfl)) (.cons (.one (.same rfl)) (.nil))))))))) rfl rfl⟩
      · rintro ex S' ⟨rfl, w337⟩
        conv => whnf
        refine Tri.weak w337 ?_
        refine Tri.run (G := gm_lock_Blockers) tyOk mixed ?_
        conv => whnf
        cases hv
        exact ⟨_, rfl, weak_fin _ rfl rfl rfl (.cons (.same rfl) (.cons (.same rfl) (.cons (.same rfl) (LeH.rest)))) (.cons (.one (.same rfl)) (.cons (.one (.same rfl)) (.cons (.one (.same rfl)) (.cons (.one (.same rfl)) (.cons (.one (.same rfl)) (.cons (.one (.same rfl)) (.cons (.one (.same rfl)) (.cons (.one (.same rfl)) (.nil))))))))) rfl rfl⟩
    · replace hv := if_f c286 hv
      refine Tri.run (G := gm_lock_Blockers) tyOk mixed ?_
      conv => whnf
      cases hv
      obtain rfl := r284 _ rfl
      exact ⟨rfl, weak_fin _ rfl rfl rfl (.cons (.same rfl) (.cons (.same rfl) (.cons (.same rfl) (LeH.rest)))) (.cons (.one (.same rfl)) (.cons (.one (.same rfl)) (.cons (.one (.same rfl)) (.cons (.one (.same rfl)) (.cons (.one (.same rfl)) (.nil)))))) rfl rfl⟩
  · rintro ex S' ⟨rfl, w338⟩
    conv => whnf
    refine Tri.weak w338 ?_
    refine Tri.seqK ?_
    refine Tri.seqK ?_
    refine Tri.run (G := gm_lock_Blockers) tyOk mixed ?_
    conv => whnf
    refine ⟨⟨(l.Queue.length : Int), (len_map _ _).symm, ?_⟩⟩
    conv => whnf
    refine ⟨map_len (f := encClaim) (n := 5) (fun _ => rfl) _, ?_⟩
    conv => whnf
    replace h := need_some h
    obtain ⟨p509, h⟩ := h
    refine ⟨by simpa only [List.length_map, if_true, if_false, Bool.false_eq_true] using p509, ?_⟩
    conv => whnf
    refine ⟨⟨List.map encClaim (cut l.Queue 0 (if (l.Queue.length : Int) < (if n < 0 then 0 else n) then (l.Queue.length : Int) else (if n < 0 then 0 else n))), map_cut _ _ _ _, ?_⟩⟩
    conv => whnf
    refine ⟨⟨((cut l.Queue 0 (if (l.Queue.length : Int) < (if n < 0 then 0 else n) then (l.Queue.length : Int) else (if n < 0 then 0 else n))).length : Int), (len_map _ _).symm, ?_⟩⟩
    conv => whnf
    refine Tri.block ?_
    replace h := bind_some h
    obtain ⟨y620, q621, h⟩ := h
    refine Tri.cut (fun ex S' => ex = (.exit 2) ∧ Weak S' ⟨67, 0, ofRegs [(9, .mp 2)], [.gone, .gone, .ext (mapI Try.prog 3 4 y620)]⟩) ?_ ?_
    · refine Tri.loopF (fun (s622 : Int × (List Int)) => (⟨67, 0, ofRegs [(1, .v (.int .i64 txn)), (6, .ptr 1 0), (9, .mp 2), (44, .sl (List.map encClaim (cut l.Queue 0 (if (l.Queue.length : Int) < (if n < 0 then 0 else n) then (l.Queue.length : Int) else (if n < 0 then 0 else n))))), (45, .v (.int .i64 ((cut l.Queue 0 (if (l.Queue.length : Int) < (if n < 0 then 0 else n) then (l.Queue.length : Int) else (if n < 0 then 0 else n))).length : Int))), (46, .v (.int .i64 s622.1))], [.gone, .var 44 [.v (.int .i64 w.Mode), .v (.string (bs w.Lo)), .v (.string (bs w.Hi))], .ext (mapI Try.prog 3 4 s622.2)]⟩ : St)) q621 (weak_fin _ rfl rfl rfl (.cons (.gone) (.cons (.same rfl) (.cons (.same rfl) (LeH.rest)))) (.cons (.one (.same rfl)) (.cons (.one (.same rfl)) (.cons (.one (.same rfl)) (.cons (.one (.same rfl)) (.cons (.one (.same rfl)) (.cons (.one (.same rfl)) (.nil))))))) rfl rfl) ?_
      rintro ⟨a618, a619⟩ v623 hv r624
      have hv : lock_Blockers_l4 l txn w n a618 a619 = some v623 := hv
      unfold lock_Blockers_l4 at hv
      dsimp only
      refine Tri.seqK ?_
      refine Tri.run (G := gm_lock_Blockers) tyOk mixed ?_
      conv => whnf
      refine Tri.seqK ?_
      refine Tri.cond rfl (fun c626 => ?_) (fun c626 => ?_)
      · replace hv := if_t c626 hv
        refine Tri.run (G := gm_lock_Blockers) tyOk mixed ?_
        conv => whnf
        refine Tri.seqK ?_
        replace hv := bind_some hv
        obtain ⟨y659, q660, hv⟩ := hv
        refine Tri.cut (fun ex S' => ex = .normal ∧ Weak S' ⟨67, 0, ofRegs [(1, .v (.int .i64 txn)), (6, .ptr 1 0), (9, .mp 2), (44, .sl (List.map encClaim (cut l.Queue 0 (if (l.Queue.length : Int) < (if n < 0 then 0 else n) then (l.Queue.length : Int) else (if n < 0 then 0 else n))))), (45, .v (.int .i64 ((cut l.Queue 0 (if (l.Queue.length : Int) < (if n < 0 then 0 else n) then (l.Queue.length : Int) else (if n < 0 then 0 else n))).length : Int))), (46, .v (.int .i64 a618))], [.gone, .var 44 [.v (.int .i64 w.Mode), .v (.string (bs w.Lo)), .v (.string (bs w.Hi))], .ext (mapI Try.prog 3 4 y659)]⟩) ?_ ?_
        · refine Tri.block ?_
          refine Tri.seqK ?_
          refine Tri.run (G := gm_lock_Blockers) tyOk mixed ?_
          conv => whnf
          replace q660 := bind_some q660
          obtain ⟨x661, q662, q660⟩ := q660
          refine ⟨(ix_some q662).1, ?_⟩
          conv => whnf
          refine ⟨⟨_, map_get encClaim (ix_some q662).2, ?_⟩⟩
          conv => whnf
          refine ⟨rfl, ?_⟩
          conv => whnf
          refine Tri.seqK ?_
          replace q660 := bind_some q660
          obtain ⟨y669, q670, q660⟩ := q660
          refine Tri.cut (fun ex S' => ex = .normal ∧ Weak S' ⟨67, 0, ofRegs [(1, .v (.int .i64 txn)), (6, .ptr 1 0), (9, .mp 2), (13, .ptr 3 0), (44, .sl (List.map encClaim (cut l.Queue 0 (if (l.Queue.length : Int) < (if n < 0 then 0 else n) then (l.Queue.length : Int) else (if n < 0 then 0 else n))))), (45, .v (.int .i64 ((cut l.Queue 0 (if (l.Queue.length : Int) < (if n < 0 then 0 else n) then (l.Queue.length : Int) else (if n < 0 then 0 else n))).length : Int))), (46, .v (.int .i64 a618)), (59, .v (.bool y669))], [.gone, .var 44 [.v (.int .i64 w.Mode), .v (.string (bs w.Lo)), .v (.string (bs w.Hi))], .ext (mapI Try.prog 3 4 a619), .var 51 [.v (.int .i64 x661.Txn), .v (.int .i64 x661.W.Mode), .v (.string (bs x661.W.Lo)), .v (.string (bs x661.W.Hi)), .v (.int .u64 x661.Until)]]⟩) ?_ ?_
          · refine Tri.run (G := gm_lock_Blockers) tyOk mixed ?_
            conv => whnf
            refine cond_mk (fun c671 => ?_) (fun c671 => ?_)
            · replace q670 := if_t c671 q670
              conv => whnf
              replace q670 := bind_some q670
              obtain ⟨y672, q673, q670⟩ := q670
              refine PureP.mono (span_Clash_walk x661.W w y672 q673) ?_
              rintro _ rfl
              conv => whnf
              cases q670
              exact ⟨rfl, weak_fin _ rfl rfl rfl (.cons (.same rfl) (.cons (.same rfl) (.cons (.same rfl) (.cons (.same rfl) (LeH.rest))))) (.cons (.one (.same rfl)) (.cons (.one (.same rfl)) (.cons (.one (.same rfl)) (.cons (.one (.same rfl)) (.cons (.one (.same rfl)) (.cons (.one (.same rfl)) (.cons (.one (.same rfl)) (.cons (.one (.same rfl)) (.nil))))))))) rfl rfl⟩
            · replace q670 := if_f c671 q670
              conv => whnf
              cases q670
              exact ⟨rfl, weak_fin _ rfl rfl rfl (.cons (.same rfl) (.cons (.same rfl) (.cons (.same rfl) (.cons (.same rfl) (LeH.rest))))) (.cons (.one (.same rfl)) (.cons (.one (.same rfl)) (.cons (.one (.same rfl)) (.cons (.one (.same rfl)) (.cons (.one (.same rfl)) (.cons (.one (.same rfl)) (.cons (.one (.same rfl)) (.cons (.one (.same rfl)) (.nil))))))))) rfl rfl⟩
          · rintro ex S' ⟨rfl, w674⟩
            conv => whnf
            refine Tri.weak w674 ?_
            refine Tri.cond rfl (fun c675 => ?_) (fun c675 => ?_)
            · replace q660 := if_t c675 q660
              refine Tri.run (G := gm_lock_Blockers) tyOk mixed ?_
              conv => whnf
              replace q660 := need_some q660
              obtain ⟨p676, q660⟩ := q660
              refine OpP.set rfl rfl rfl rfl rfl rfl Try.underlying70 Try.underlying3 Try.underlying4 p676 ?_
              conv => whnf
              cases q660
              exact ⟨rfl, weak_fin _ rfl rfl rfl (.cons (.same rfl) (.cons (.same rfl) (.cons (.same rfl) (LeH.rest)))) (.cons (.one (.same rfl)) (.cons (.one (.same rfl)) (.cons (.one (.same rfl)) (.cons (.one (.same rfl)) (.cons (.one (.same rfl)) (.cons (.one (.same rfl)) (.nil))))))) rfl rfl⟩
            · replace q660 := if_f c675 q660
              refine Tri.run (G := gm_lock_Blockers) tyOk mixed ?_
              conv => whnf
              cases q660
              exact ⟨rfl, weak_fin _ rfl rfl rfl (.cons (.same rfl) (.cons (.same rfl) (.cons (.same rfl) (LeH.rest)))) (.cons (.one (.same rfl)) (.cons (.one (.same rfl)) (.cons (.one (.same rfl)) (.cons (.one (.same rfl)) (.cons (.one (.same rfl)) (.cons (.one (.same rfl)) (.nil))))))) rfl rfl⟩
        · rintro ex S' ⟨rfl, w677⟩
          conv => whnf
          refine Tri.weak w677 ?_
          refine Tri.run (G := gm_lock_Blockers) tyOk mixed ?_
          conv => whnf
          cases hv
          exact ⟨_, rfl, weak_fin _ rfl rfl rfl (.cons (.same rfl) (.cons (.same rfl) (.cons (.same rfl) (LeH.rest)))) (.cons (.one (.same rfl)) (.cons (.one (.same rfl)) (.cons (.one (.same rfl)) (.cons (.one (.same rfl)) (.cons (.one (.same rfl)) (.cons (.one (.same rfl)) (.nil))))))) rfl rfl⟩
      · replace hv := if_f c626 hv
        refine Tri.run (G := gm_lock_Blockers) tyOk mixed ?_
        conv => whnf
        cases hv
        obtain rfl := r624 _ rfl
        exact ⟨rfl, weak_fin _ rfl rfl rfl (.cons (.same rfl) (.cons (.gone) (.cons (.same rfl) (LeH.rest)))) (.cons (.one (.same rfl)) (.nil)) rfl rfl⟩
    · rintro ex S' ⟨rfl, w678⟩
      conv => whnf
      refine Tri.weak w678 ?_
      refine Tri.seqK ?_
      refine Tri.run (G := gm_lock_Blockers) tyOk mixed ?_
      conv => whnf
      refine keys_52 ?_
      conv => whnf
      replace h := need_some h
      obtain ⟨p679, h⟩ := h
      refine sorted_51 rfl rfl p679 ?_
      conv => whnf
      refine Tri.run (G := gm_lock_Blockers) tyOk mixed ?_
      conv => whnf
      refine fin_here ?_
      conv => whnf
      refine ⟨by first | (simp; done) | (simp only [List.length_map, List.length_append, List.length_take, List.length_drop, List.length_replicate, List.length_set, List.length_mergeSort]; omega), ?_⟩
      conv => whnf
      cases h
      rfl
noncomputable def slices_Compact_int_l52 (l : (List Int)) (a12048 : Int) (a13049 : Int) (a13050 : Int) (a13051 : (List Int)) : Option ((Int × Int × (List Int)) ⊕ (Int × (List Int))) :=
  if (decide (a13050 < ((((((List.map (encI .i64) l).length : Nat) : Int).toNat) - ((a12048).toNat) : Nat) : Int))) then
    (
      need (0 ≤ a13050 ∧ a13050 < ((((((List.map (encI .i64) l).length : Nat) : Int).toNat) - ((a12048).toNat) : Nat) : Int)) <|
      need (0 ≤ (IntKind.i64.wrap (a13050 - 1)) ∧ (IntKind.i64.wrap (a13050 - 1)) < ((((((List.map (encI .i64) l).length : Nat) : Int).toNat) - ((a12048).toNat) : Nat) : Int)) <|
      (ix a13051 ((((a12048).toNat) + (a13050).toNat : Nat) : Int)).bind fun x13127 =>
      (ix a13051 ((((a12048).toNat) + ((IntKind.i64.wrap (a13050 - 1))).toNat : Nat) : Int)).bind fun x13129 =>
      if (!(decide (x13127 = x13129))) then
        (ix a13051 a13049).bind fun x13140 =>
        some ((IntKind.i64.wrap (a13049 + 1)), (List.set a13051 (a13049).toNat x13127))
      else
        some (a13049, a13051)).bind fun (y13113 : Int × (List Int)) =>
    some (.inl (y13113.1, (IntKind.i64.wrap (a13050 + 1)), y13113.2))
  else
    some (.inr (a13049, a13051))
noncomputable def slices_Compact_int_l48 (l : (List Int)) (a12048 : Int) : Option ((Int) ⊕ (((List Int)) ⊕ (Unit))) :=
  if (decide (a12048 < (l.length : Int))) then
    (ix l a12048).bind fun x12607 =>
    (ix l (IntKind.i64.wrap (a12048 - 1))).bind fun x12609 =>
    if (decide (x12607 = x12609)) then
      need (0 < l.length) <|
      need (0 ≤ a12048 ∧ a12048 ≤ (l.length : Int) ∧ (l.length : Int) ≤ (l.length : Int)) <|
      (loop (fun (s13054 : Int × Int × (List Int)) => slices_Compact_int_l52 l a12048 s13054.1 s13054.2.1 s13054.2.2) (a12048, (1 : Int), l)).bind fun (y13052 : Int × (List Int)) =>
      need (0 < y13052.2.length) <|
      need (0 ≤ y13052.1 ∧ y13052.1 ≤ (y13052.2.length : Int) ∧ (y13052.2.length : Int) ≤ (y13052.2.length : Int)) <|
      need (0 < (List.take ((y13052.1).toNat) y13052.2 ++ List.replicate (((((List.map (encI .i64) y13052.2).length : Nat) : Int).toNat) - ((y13052.1).toNat)) (0 : Int) ++ List.drop ((((List.map (encI .i64) y13052.2).length : Nat) : Int).toNat) y13052.2).length) <|
      need (0 ≤ (0 : Int) ∧ 0 ≤ y13052.1 ∧ y13052.1 ≤ ((List.take ((y13052.1).toNat) y13052.2 ++ List.replicate (((((List.map (encI .i64) y13052.2).length : Nat) : Int).toNat) - ((y13052.1).toNat)) (0 : Int) ++ List.drop ((((List.map (encI .i64) y13052.2).length : Nat) : Int).toNat) y13052.2).length : Int)) <|
      some (.inr (.inl (List.drop ((0 : Int).toNat) (List.take ((y13052.1).toNat) (List.take ((y13052.1).toNat) y13052.2 ++ List.replicate (((((List.map (encI .i64) y13052.2).length : Nat) : Int).toNat) - ((y13052.1).toNat)) (0 : Int) ++ List.drop ((((List.map (encI .i64) y13052.2).length : Nat) : Int).toNat) y13052.2)))))
    else
      some (.inl (IntKind.i64.wrap (a12048 + 1)))
  else
    some (.inr (.inr ()))
noncomputable def slices_Compact_int (l : (List Int)) : Option ((List Int)) :=
  if (decide ((l.length : Int) < 2)) then
    some l
  else
    (loop (fun (s12053 : Int) => slices_Compact_int_l48 l s12053) (1 : Int)).bind fun (y12049 : ((List Int)) ⊕ (Unit)) =>
    match y12049 with
    | (.inl v12051) =>
      some v12051
    | (.inr v12052) =>
      some l
def gm_slices_Compact_int : Gm := ⟨tys, [], [], []⟩
theorem slices_Compact_int_walk (l : (List Int)) (r : (List Int)) (h : slices_Compact_int l = some r) : CallP Try.prog 48 [.row 3 1 (List.map (encI .i64) l)] [.row 0 ((List.map (encI .i64) l).length)] (fun a H' => a = .sl (List.map (encI .i64) r) ∧ H'.take ([.gone] : List Ob).length = [.gone]) := by
  unfold slices_Compact_int at h
  refine callW (G := gm_slices_Compact_int) tyOk Try.func48 rfl (by kernel_rfl) (by simp [Try.f48]) ?_
  refine Tri.seqK ?_
  refine Tri.run (G := gm_slices_Compact_int) tyOk mixed ?_
  conv => whnf
  refine Tri.seqK ?_
  refine Tri.seqK ?_
  refine Tri.run (G := gm_slices_Compact_int) tyOk mixed ?_
  conv => whnf
  refine ⟨rfl, ?_⟩
  conv => whnf
  refine ⟨⟨(l.length : Int), by simp, ?_⟩⟩
  conv => whnf
  refine Tri.cond rfl (fun c6576 => ?_) (fun c6576 => ?_)
  · replace h := if_t c6576 h
    refine Tri.seqK ?_
    refine Tri.run (G := gm_slices_Compact_int) tyOk mixed ?_
    conv => whnf
    refine Tri.run (G := gm_slices_Compact_int) tyOk mixed ?_
    conv => whnf
    refine fin_pre (S' := ⟨61, 1, ofRegs [(2, .sl (List.map (encI .i64) l))], [.gone]⟩) (Weak.trans (weak_freeze 0 rfl) (weak_fin _ rfl rfl rfl (.cons (.gone) (LeH.rest)) (.cons (.one (.frz rfl (rfl))) (.nil)) rfl rfl)) ?_
    conv => whnf
    cases h
    exact ⟨rfl, rfl⟩
  · replace h := if_f c6576 h
    refine Tri.run (G := gm_slices_Compact_int) tyOk mixed ?_
    conv => whnf
    refine Tri.seqK ?_
    refine Tri.seqK ?_
    refine Tri.run (G := gm_slices_Compact_int) tyOk mixed ?_
    conv => whnf
    refine Tri.block ?_
    replace h := bind_some h
    obtain ⟨y12049, q12050, h⟩ := h
    refine Tri.cut (fun ex S' => (∃ v12051 : (List Int), y12049 = (.inl v12051) ∧ ex = .ret ∧ Weak S' ⟨61, 1, ofRegs [(2, .sl (List.map (encI .i64) v12051))], [.gone]⟩) ∨ (∃ v12052 : Unit, y12049 = (.inr v12052) ∧ ex = (.exit 0) ∧ Weak S' ⟨61, 1, ofRegs [(0, .row 0 ((List.map (encI .i64) l).length))], [.row 3 1 (List.map (encI .i64) l)]⟩)) ?_ ?_
    · refine Tri.loopF (fun (s12053 : Int) => (⟨61, 1, ofRegs [(0, .row 0 ((List.map (encI .i64) l).length)), (3, .v (.int .i64 s12053))], [.row 3 1 (List.map (encI .i64) l)]⟩ : St)) q12050 (weak_fin _ rfl rfl rfl (.cons (.same rfl) (LeH.rest)) (.cons (.one (.same rfl)) (.cons (.one (.same rfl)) (.nil))) rfl rfl) ?_
      rintro a12048 v12054 hv r12055
      have hv : slices_Compact_int_l48 l a12048 = some v12054 := hv
      unfold slices_Compact_int_l48 at hv
      refine Tri.seqK ?_
      refine Tri.seqK ?_
      refine Tri.run (G := gm_slices_Compact_int) tyOk mixed ?_
      conv => whnf
      refine ⟨rfl, ?_⟩
      conv => whnf
      refine ⟨⟨(l.length : Int), by simp, ?_⟩⟩
      conv => whnf
      refine Tri.cond rfl (fun c12057 => ?_) (fun c12057 => ?_)
      · replace hv := if_t c12057 hv
        refine Tri.run (G := gm_slices_Compact_int) tyOk mixed ?_
        conv => whnf
        refine Tri.seqK ?_
        refine Tri.block ?_
        refine Tri.seqK ?_
        refine Tri.run (G := gm_slices_Compact_int) tyOk mixed ?_
        conv => whnf
        replace hv := bind_some hv
        obtain ⟨x12607, q12611, hv⟩ := hv
        replace hv := bind_some hv
        obtain ⟨x12609, q12612, hv⟩ := hv
        refine Draw.many 10 (.take 0 (.take 1 (.take 2 (.take 4 (.take 5 (.take 6 (.take 7 (.alt 3 (.alt 8 (.take 9 (.fin)) (.nil)) (.alt 8 (.alt 3 (.take 9 (.fin)) (.nil)) (.nil)))))))))) [] (⟨61, 1, ofRegs [(0, .row 0 ((List.map (encI .i64) l).length)), (3, .v (.int .i64 a12048)), (25, .v (.bool (decide (x12607 = x12609))))], [.row 3 1 (List.map (encI .i64) l)]⟩) (by kernel_rfl) ?_ ?_
        · conv => whnf
          refine ⟨⟨rfl, (ix_lt q12611).1, by have := ix_lt q12611; simp only [List.length_map, List.length_set, List.length_cons, List.length_nil] at *; omega⟩, ?_⟩
          conv => whnf
          refine ⟨⟨rfl, (ix_lt q12612).1, by have := ix_lt q12612; simp only [List.length_map, List.length_set, List.length_cons, List.length_nil] at *; omega⟩, ?_⟩
          conv => whnf
          refine ⟨?_, ?_⟩
          · conv => whnf
            refine ⟨rfl, ?_⟩
            conv => whnf
            refine ⟨⟨_, map_get (encI .i64) (ix_some q12611).2, ?_⟩⟩
            conv => whnf
            refine ⟨?_, ?_⟩
            · conv => whnf
              refine ⟨rfl, ?_⟩
              conv => whnf
              refine ⟨⟨_, map_get (encI .i64) (ix_some q12612).2, ?_⟩⟩
              conv => whnf
              exact weak_fin _ rfl rfl rfl (.cons (.same rfl) (LeH.rest)) (.cons (.one (.same rfl)) (.cons (.one (.same rfl)) (.cons (.one (.same rfl)) (.nil)))) rfl rfl
            · conv => whnf
              trivial
          · conv => whnf
            refine ⟨?_, ?_⟩
            · conv => whnf
              refine ⟨rfl, ?_⟩
              conv => whnf
              refine ⟨⟨_, map_get (encI .i64) (ix_some q12612).2, ?_⟩⟩
              conv => whnf
              refine ⟨?_, ?_⟩
              · conv => whnf
                refine ⟨rfl, ?_⟩
                conv => whnf
                refine ⟨⟨_, map_get (encI .i64) (ix_some q12611).2, ?_⟩⟩
                conv => whnf
                exact weak_fin _ rfl rfl rfl (.cons (.same rfl) (LeH.rest)) (.cons (.one (.same rfl)) (.cons (.one (.same rfl)) (.cons (.one (.same rfl)) (.nil)))) rfl rfl
              · conv => whnf
                trivial
            · conv => whnf
              trivial
        · conv => whnf
          refine Tri.cond rfl (fun c12613 => ?_) (fun c12613 => ?_)
          · replace hv := if_t c12613 hv
            refine Tri.seqK ?_
            refine Tri.run (G := gm_slices_Compact_int) tyOk mixed ?_
            conv => whnf
            replace hv := need_some hv
            obtain ⟨p12614, hv⟩ := hv
            refine ⟨⟨rfl, by have := p12614; simp only [List.length_map, List.length_append, List.length_take, List.length_drop, List.length_replicate, List.length_set] at *; omega⟩, ?_⟩
            conv => whnf
            replace hv := need_some hv
            obtain ⟨p12615, hv⟩ := hv
            refine ⟨by have := p12615; simp only [List.length_map, List.length_append, List.length_take, List.length_drop, List.length_replicate, List.length_set] at *; omega, ?_⟩
            conv => whnf
            refine Tri.seqK ?_
            refine Tri.seqK ?_
            refine Tri.run (G := gm_slices_Compact_int) tyOk mixed ?_
            conv => whnf
            refine Tri.block ?_
            replace hv := bind_some hv
            obtain ⟨y13052, q13053, hv⟩ := hv
            refine Tri.cut (fun ex S' => ex = (.exit 2) ∧ Weak S' ⟨61, 1, ofRegs [(0, .row 0 ((List.map (encI .i64) y13052.2).length)), (3, .v (.int .i64 y13052.1))], [.row 3 1 (List.map (encI .i64) y13052.2)]⟩) ?_ ?_
            · refine Tri.loopF (fun (s13054 : Int × Int × (List Int)) => (⟨61, 1, ofRegs [(0, .row 0 ((List.map (encI .i64) s13054.2.2).length)), (3, .v (.int .i64 s13054.1)), (4, .vw 0 ((List.map (encI .i64) s13054.2.2).length) 1 ((a12048).toNat) ((((List.map (encI .i64) l).length : Nat) : Int).toNat)), (5, .v (.int .i64 s13054.2.1))], [.row 3 1 (List.map (encI .i64) s13054.2.2)]⟩ : St)) q13053 (weak_fin _ rfl rfl rfl (.cons (.same rfl) (LeH.rest)) (.cons (.one (.same rfl)) (.cons (.one (.same rfl)) (.cons (.one (.same rfl)) (.cons (.one (.same rfl)) (.nil))))) rfl rfl) ?_
              rintro ⟨a13049, a13050, a13051⟩ v13055 hv r13056
              have hv : slices_Compact_int_l52 l a12048 a13049 a13050 a13051 = some v13055 := hv
              unfold slices_Compact_int_l52 at hv
              dsimp only
              refine Tri.seqK ?_
              refine Tri.seqK ?_
              refine Tri.run (G := gm_slices_Compact_int) tyOk mixed ?_
              conv => whnf
              refine ⟨rfl, ?_⟩
              conv => whnf
              refine ⟨⟨((((((List.map (encI .i64) l).length : Nat) : Int).toNat) - ((a12048).toNat) : Nat) : Int), rfl, ?_⟩⟩
              conv => whnf
              refine Tri.cond rfl (fun c13058 => ?_) (fun c13058 => ?_)
              · replace hv := if_t c13058 hv
                refine Tri.run (G := gm_slices_Compact_int) tyOk mixed ?_
                conv => whnf
                refine Tri.seqK ?_
                replace hv := bind_some hv
                obtain ⟨y13113, q13114, hv⟩ := hv
                refine Tri.cut (fun ex S' => ex = .normal ∧ Weak S' ⟨61, 1, ofRegs [(0, .row 0 ((List.map (encI .i64) y13113.2).length)), (3, .v (.int .i64 y13113.1)), (4, .vw 0 ((List.map (encI .i64) y13113.2).length) 1 ((a12048).toNat) ((((List.map (encI .i64) l).length : Nat) : Int).toNat)), (5, .v (.int .i64 a13050))], [.row 3 1 (List.map (encI .i64) y13113.2)]⟩) ?_ ?_
                · refine Tri.block ?_
                  refine Tri.seqK ?_
                  refine Tri.run (G := gm_slices_Compact_int) tyOk mixed ?_
                  conv => whnf
                  replace q13114 := need_some q13114
                  obtain ⟨p13135, q13114⟩ := q13114
                  replace q13114 := need_some q13114
                  obtain ⟨p13136, q13114⟩ := q13114
                  replace q13114 := bind_some q13114
                  obtain ⟨x13127, q13137, q13114⟩ := q13114
                  replace q13114 := bind_some q13114
                  obtain ⟨x13129, q13138, q13114⟩ := q13114
                  refine Draw.many 10 (.take 0 (.take 1 (.take 2 (.take 4 (.take 5 (.take 6 (.take 7 (.alt 3 (.alt 8 (.take 9 (.fin)) (.nil)) (.alt 8 (.alt 3 (.take 9 (.fin)) (.nil)) (.nil)))))))))) [] (⟨61, 1, ofRegs [(0, .row 0 ((List.map (encI .i64) a13051).length)), (3, .v (.int .i64 a13049)), (4, .vw 0 ((List.map (encI .i64) a13051).length) 1 ((a12048).toNat) ((((List.map (encI .i64) l).length : Nat) : Int).toNat)), (5, .v (.int .i64 a13050)), (44, .v (.bool (!(decide (x13127 = x13129)))))], [.row 3 1 (List.map (encI .i64) a13051)]⟩) (by kernel_rfl) ?_ ?_
                  · conv => whnf
                    refine ⟨⟨rfl, p13135.1, p13135.2⟩, ?_⟩
                    conv => whnf
                    refine ⟨⟨rfl, p13136.1, p13136.2⟩, ?_⟩
                    conv => whnf
                    refine ⟨?_, ?_⟩
                    · conv => whnf
                      refine ⟨rfl, ?_⟩
                      conv => whnf
                      refine ⟨⟨_, map_get (encI .i64) (ix_some q13137).2, ?_⟩⟩
                      conv => whnf
                      refine ⟨?_, ?_⟩
                      · conv => whnf
                        refine ⟨rfl, ?_⟩
                        conv => whnf
                        refine ⟨⟨_, map_get (encI .i64) (ix_some q13138).2, ?_⟩⟩
                        conv => whnf
                        exact weak_fin _ rfl rfl rfl (.cons (.same rfl) (LeH.rest)) (.cons (.one (.same rfl)) (.cons (.one (.same rfl)) (.cons (.one (.same rfl)) (.cons (.one (.same rfl)) (.cons (.one (.same rfl)) (.nil)))))) rfl rfl
                      · conv => whnf
                        trivial
                    · conv => whnf
                      refine ⟨?_, ?_⟩
                      · conv => whnf
                        refine ⟨rfl, ?_⟩
                        conv => whnf
                        refine ⟨⟨_, map_get (encI .i64) (ix_some q13138).2, ?_⟩⟩
                        conv => whnf
                        refine ⟨?_, ?_⟩
                        · conv => whnf
                          refine ⟨rfl, ?_⟩
                          conv => whnf
                          refine ⟨⟨_, map_get (encI .i64) (ix_some q13137).2, ?_⟩⟩
                          conv => whnf
                          exact weak_fin _ rfl rfl rfl (.cons (.same rfl) (LeH.rest)) (.cons (.one (.same rfl)) (.cons (.one (.same rfl)) (.cons (.one (.same rfl)) (.cons (.one (.same rfl)) (.cons (.one (.same rfl)) (.nil)))))) rfl rfl
                        · conv => whnf
                          trivial
                      · conv => whnf
                        trivial
                  · conv => whnf
                    refine Tri.cond rfl (fun c13139 => ?_) (fun c13139 => ?_)
                    · replace q13114 := if_t c13139 q13114
                      refine Tri.seqK ?_
                      refine Tri.run (G := gm_slices_Compact_int) tyOk mixed ?_
                      conv => whnf
                      refine ⟨⟨rfl, p13135.1, p13135.2⟩, ?_⟩
                      conv => whnf
                      refine ⟨rfl, ?_⟩
                      conv => whnf
                      refine ⟨⟨_, map_get (encI .i64) (ix_some q13137).2, ?_⟩⟩
                      conv => whnf
                      replace q13114 := bind_some q13114
                      obtain ⟨x13140, q13141, q13114⟩ := q13114
                      refine ⟨⟨rfl, (ix_lt q13141).1, by have := ix_lt q13141; simp only [List.length_map, List.length_set, List.length_cons, List.length_nil] at *; omega⟩, ?_⟩
                      conv => whnf
                      refine ⟨rfl, ?_⟩
                      conv => whnf
                      refine ⟨⟨_, map_get (encI .i64) (ix_some q13141).2, ?_⟩⟩
                      conv => whnf
                      refine ⟨Nat.le_of_ble_eq_true rfl, ?_⟩
                      conv => whnf
                      refine ⟨⟨List.map (encI .i64) (List.set a13051 (a13049).toNat x13127), map_set (encI .i64) _ _ _ rfl, ?_⟩⟩
                      conv => whnf
                      refine Tri.run (G := gm_slices_Compact_int) tyOk mixed ?_
                      conv => whnf
                      cases q13114
                      exact ⟨rfl, weak_fin _ rfl rfl rfl (.cons (.same rfl) (LeH.rest)) (.cons (.one (.same (show (.row 0 ((List.map (encI .i64) a13051).length) : AV) = (.row 0 ((List.map (encI .i64) (List.set a13051 (a13049).toNat x13127)).length) : AV) from congrArg (AV.row 0) (by simp)))) (.cons (.one (.same rfl)) (.cons (.one (.same (show (.vw 0 ((List.map (encI .i64) a13051).length) 1 ((a12048).toNat) ((((List.map (encI .i64) l).length : Nat) : Int).toNat) : AV) = (.vw 0 ((List.map (encI .i64) (List.set a13051 (a13049).toNat x13127)).length) 1 ((a12048).toNat) ((((List.map (encI .i64) l).length : Nat) : Int).toNat) : AV) from congrArg (fun n => AV.vw 0 n 1 ((a12048).toNat) ((((List.map (encI .i64) l).length : Nat) : Int).toNat)) (by simp)))) (.cons (.one (.same rfl)) (.nil))))) rfl rfl⟩
                    · replace q13114 := if_f c13139 q13114
                      refine Tri.run (G := gm_slices_Compact_int) tyOk mixed ?_
                      conv => whnf
                      cases q13114
                      exact ⟨rfl, weak_fin _ rfl rfl rfl (.cons (.same rfl) (LeH.rest)) (.cons (.one (.same rfl)) (.cons (.one (.same rfl)) (.cons (.one (.same rfl)) (.cons (.one (.same rfl)) (.nil))))) rfl rfl⟩
                · rintro ex S' ⟨rfl, w13142⟩
                  conv => whnf
                  refine Tri.weak w13142 ?_
                  refine Tri.run (G := gm_slices_Compact_int) tyOk mixed ?_
                  conv => whnf
                  cases hv
                  exact ⟨_, rfl, weak_fin _ rfl rfl rfl (.cons (.same rfl) (LeH.rest)) (.cons (.one (.same rfl)) (.cons (.one (.same rfl)) (.cons (.one (.same rfl)) (.cons (.one (.same rfl)) (.nil))))) rfl rfl⟩
              · replace hv := if_f c13058 hv
                refine Tri.run (G := gm_slices_Compact_int) tyOk mixed ?_
                conv => whnf
                cases hv
                obtain rfl := r13056 _ rfl
                exact ⟨rfl, weak_fin _ rfl rfl rfl (.cons (.same rfl) (LeH.rest)) (.cons (.one (.same rfl)) (.cons (.one (.same rfl)) (.nil))) rfl rfl⟩
            · rintro ex S' ⟨rfl, w13143⟩
              conv => whnf
              refine Tri.weak w13143 ?_
              refine Tri.seqK ?_
              refine Tri.run (G := gm_slices_Compact_int) tyOk mixed ?_
              conv => whnf
              replace hv := need_some hv
              obtain ⟨p13144, hv⟩ := hv
              refine ⟨⟨rfl, by have := p13144; simp only [List.length_map, List.length_append, List.length_take, List.length_drop, List.length_replicate, List.length_set] at *; omega⟩, ?_⟩
              conv => whnf
              replace hv := need_some hv
              obtain ⟨p13145, hv⟩ := hv
              refine ⟨by have := p13145; simp only [List.length_map, List.length_append, List.length_take, List.length_drop, List.length_replicate, List.length_set] at *; omega, ?_⟩
              conv => whnf
              refine ⟨rfl, ?_⟩
              conv => whnf
              refine ⟨⟨List.map (encI .i64) (List.take ((y13052.1).toNat) y13052.2 ++ List.replicate (((((List.map (encI .i64) y13052.2).length : Nat) : Int).toNat) - ((y13052.1).toNat)) (0 : Int) ++ List.drop ((((List.map (encI .i64) y13052.2).length : Nat) : Int).toNat) y13052.2), by rw [List.map_append, List.map_append, List.map_take, List.map_drop, List.map_replicate]; rfl, ?_⟩⟩
              conv => whnf
              refine Tri.seqK ?_
              refine Tri.run (G := gm_slices_Compact_int) tyOk mixed ?_
              conv => whnf
              replace hv := need_some hv
              obtain ⟨p13146, hv⟩ := hv
              refine ⟨⟨by first | (simp; done) | (simp only [List.length_map, List.length_append, List.length_take, List.length_drop, List.length_replicate, List.length_set, List.length_mergeSort]; omega), by have := p13146; simp only [List.length_map, List.length_append, List.length_take, List.length_drop, List.length_replicate, List.length_set] at *; omega⟩, ?_⟩
              conv => whnf
              replace hv := need_some hv
              obtain ⟨p13147, hv⟩ := hv
              refine ⟨by have := p13147; simp only [List.length_map, List.length_append, List.length_take, List.length_drop, List.length_replicate, List.length_set] at *; omega, ?_⟩
              conv => whnf
              refine Tri.run (G := gm_slices_Compact_int) tyOk mixed ?_
              conv => whnf
              cases hv
              obtain rfl := r12055 _ rfl
              exact Or.inl ⟨_, rfl, rfl, Weak.trans (weak_freeze 0 rfl) (weak_fin _ rfl rfl rfl (.cons (.gone) (LeH.rest)) (.cons (.one (.frzvw rfl (by first | (simp; done) | (simp only [List.length_map, List.length_append, List.length_take, List.length_drop, List.length_replicate, List.length_set, List.length_mergeSort]; omega)) (by rw [List.map_drop, List.map_take]))) (.nil)) rfl rfl)⟩
          · replace hv := if_f c12613 hv
            refine Tri.run (G := gm_slices_Compact_int) tyOk mixed ?_
            conv => whnf
            refine Tri.run (G := gm_slices_Compact_int) tyOk mixed ?_
            conv => whnf
            cases hv
            exact ⟨_, rfl, weak_fin _ rfl rfl rfl (.cons (.same rfl) (LeH.rest)) (.cons (.one (.same rfl)) (.cons (.one (.same rfl)) (.nil))) rfl rfl⟩
      · replace hv := if_f c12057 hv
        refine Tri.run (G := gm_slices_Compact_int) tyOk mixed ?_
        conv => whnf
        cases hv
        obtain rfl := r12055 _ rfl
        exact Or.inr (⟨_, rfl, rfl, weak_fin _ rfl rfl rfl (.cons (.same rfl) (LeH.rest)) (.cons (.one (.same rfl)) (.nil)) rfl rfl⟩)
    · rintro ex S' (⟨v12051, rfl, rfl, w13148⟩ | ⟨v12052, rfl, rfl, w13148⟩)
      · dsimp only at h
        conv => whnf
        refine fin_pre (S' := ⟨61, 1, ofRegs [(2, .sl (List.map (encI .i64) v12051))], [.gone]⟩) (Weak.trans w13148 (weak_fin _ rfl rfl rfl (.cons (.same rfl) (LeH.rest)) (.cons (.one (.same rfl)) (.nil)) rfl rfl)) ?_
        conv => whnf
        cases h
        exact ⟨rfl, rfl⟩
      · dsimp only at h
        conv => whnf
        refine Tri.weak w13148 ?_
        refine Tri.seqK ?_
        refine Tri.run (G := gm_slices_Compact_int) tyOk mixed ?_
        conv => whnf
        refine Tri.run (G := gm_slices_Compact_int) tyOk mixed ?_
        conv => whnf
        refine fin_pre (S' := ⟨61, 1, ofRegs [(2, .sl (List.map (encI .i64) l))], [.gone]⟩) (Weak.trans (weak_freeze 0 rfl) (weak_fin _ rfl rfl rfl (.cons (.gone) (LeH.rest)) (.cons (.one (.frz rfl (rfl))) (.nil)) rfl rfl)) ?_
        conv => whnf
        cases h
        exact ⟨rfl, rfl⟩
noncomputable def ring_After_l2 (l : Locks) (txn : Int) (a192 : Int) (a193 : (List Int)) : Option ((Int × (List Int)) ⊕ ((List Int))) :=
  if (decide (a192 < (l.Queue.length : Int))) then
    (
      (ix l.Queue a192).bind fun x215 =>
      if (decide (x215.Txn = txn)) then
        (lock_Blockers l txn x215.W a192).bind fun y218 =>
        need ((a193.length + y218.length) * 8 ≤ 140737488355328) <|
        some (a193 ++ y218)
      else
        some a193).bind fun (y213 : (List Int)) =>
    some (.inl ((IntKind.i64.wrap (a192 + 1)), y213))
  else
    some (.inr a193)
noncomputable def ring_After (l : Locks) (txn : Int) : Option ((List Int)) :=
  (loop (fun (s196 : Int × (List Int)) => ring_After_l2 l txn s196.1 s196.2) ((0 : Int), ([] : (List Int)))).bind fun (y194 : (List Int)) =>
  need (y194.length < 1073741824) <|
  (slices_Compact_int (List.mergeSort y194 leI)).bind fun y224 =>
  some y224
def gm_ring_After : Gm := ⟨tys, [47, 48], [], []⟩
theorem ring_After_walk (l : Locks) (txn : Int) (r : (List Int)) (h : ring_After l txn = some r) : PureP Try.prog 18 [.agg [.sl (List.map encHold l.Held), .sl (List.map encClaim l.Queue)], .v (.int .i64 txn)] (fun a => a = .sl (List.map (encI .i64) r)) := by
  unfold ring_After at h
  refine pureW (G := gm_ring_After) tyOk Try.func18 rfl (by kernel_rfl) (by simp [Try.f18]) ?_
  refine Tri.seqK ?_
  refine Tri.run (G := gm_ring_After) tyOk mixed ?_
  conv => whnf
  refine Tri.seqK ?_
  refine Tri.run (G := gm_ring_After) tyOk mixed ?_
  conv => whnf
  refine Tri.seqK ?_
  refine Tri.seqK ?_
  refine Tri.run (G := gm_ring_After) tyOk mixed ?_
  conv => whnf
  refine ⟨⟨(l.Queue.length : Int), (len_map _ _).symm, ?_⟩⟩
  conv => whnf
  refine Tri.block ?_
  replace h := bind_some h
  obtain ⟨y194, q195, h⟩ := h
  refine Tri.cut (fun ex S' => ex = (.exit 0) ∧ Weak S' ⟨33, 0, ofRegs [(5, .row 1 ((List.map (encI .i64) y194).length))], [.gone, .row 3 1 (List.map (encI .i64) y194)]⟩) ?_ ?_
  · refine Tri.loopF (fun (s196 : Int × (List Int)) => (⟨33, 0, ofRegs [(1, .v (.int .i64 txn)), (2, .ptr 0 0), (5, .row 1 ((List.map (encI .i64) s196.2).length)), (9, .sl (List.map encClaim l.Queue)), (10, .v (.int .i64 (l.Queue.length : Int))), (11, .v (.int .i64 s196.1))], [.var 25 [.sl (List.map encHold l.Held), .sl (List.map encClaim l.Queue)], .row 3 1 (List.map (encI .i64) s196.2)]⟩ : St)) q195 (Weak.trans (weak_nil 5 3 1 rfl) (weak_fin _ rfl rfl rfl (.cons (.same rfl) (.cons (.same rfl) (LeH.rest))) (.cons (.one (.same rfl)) (.cons (.one (.same rfl)) (.cons (.one (.same (show (.row 1 0 : AV) = (.row 1 ((List.map (encI .i64) []).length) : AV) from congrArg (AV.row 1) (by simp)))) (.cons (.one (.same rfl)) (.cons (.one (.same rfl)) (.cons (.one (.same rfl)) (.nil))))))) rfl rfl)) ?_
    rintro ⟨a192, a193⟩ v197 hv r198
    have hv : ring_After_l2 l txn a192 a193 = some v197 := hv
    unfold ring_After_l2 at hv
    dsimp only
    refine Tri.seqK ?_
    refine Tri.run (G := gm_ring_After) tyOk mixed ?_
    conv => whnf
    refine Tri.seqK ?_
    refine Tri.cond rfl (fun c200 => ?_) (fun c200 => ?_)
    · replace hv := if_t c200 hv
      refine Tri.run (G := gm_ring_After) tyOk mixed ?_
      conv => whnf
      refine Tri.seqK ?_
      replace hv := bind_some hv
      obtain ⟨y213, q214, hv⟩ := hv
      refine Tri.cut (fun ex S' => ex = .normal ∧ Weak S' ⟨33, 0, ofRegs [(1, .v (.int .i64 txn)), (2, .ptr 0 0), (5, .row 1 ((List.map (encI .i64) y213).length)), (9, .sl (List.map encClaim l.Queue)), (10, .v (.int .i64 (l.Queue.length : Int))), (11, .v (.int .i64 a192))], [.var 25 [.sl (List.map encHold l.Held), .sl (List.map encClaim l.Queue)], .row 3 1 (List.map (encI .i64) y213)]⟩) ?_ ?_
      · refine Tri.block ?_
        refine Tri.seqK ?_
        refine Tri.run (G := gm_ring_After) tyOk mixed ?_
        conv => whnf
        replace q214 := bind_some q214
        obtain ⟨x215, q216, q214⟩ := q214
        refine ⟨(ix_some q216).1, ?_⟩
        conv => whnf
        refine ⟨⟨_, map_get encClaim (ix_some q216).2, ?_⟩⟩
        conv => whnf
        refine ⟨rfl, ?_⟩
        conv => whnf
        refine Tri.seqK ?_
        refine Tri.run (G := gm_ring_After) tyOk mixed ?_
        conv => whnf
        refine Tri.cond rfl (fun c217 => ?_) (fun c217 => ?_)
        · replace q214 := if_t c217 q214
          refine Tri.run (G := gm_ring_After) tyOk mixed ?_
          conv => whnf
          replace q214 := bind_some q214
          obtain ⟨y218, q219, q214⟩ := q214
          refine PureP.mono (lock_Blockers_walk l txn x215.W a192 y218 q219) ?_
          rintro _ rfl
          conv => whnf
          refine ⟨rfl, ?_⟩
          conv => whnf
          refine ⟨map_len (f := (encI .i64)) (n := 1) (fun _ => rfl) _, ?_⟩
          conv => whnf
          replace q214 := need_some q214
          obtain ⟨p220, q214⟩ := q214
          refine ⟨by simp only [List.length_map]; exact p220, ?_⟩
          conv => whnf
          refine ⟨⟨List.map (encI .i64) (a193 ++ y218), map_app (encI .i64) _ _ rfl rfl, ?_⟩⟩
          conv => whnf
          cases q214
          exact ⟨rfl, weak_fin _ rfl rfl rfl (.cons (.same rfl) (.cons (.same rfl) (LeH.rest))) (.cons (.one (.same rfl)) (.cons (.one (.same rfl)) (.cons (.one (.same rfl)) (.cons (.one (.same rfl)) (.cons (.one (.same rfl)) (.cons (.one (.same rfl)) (.nil))))))) rfl rfl⟩
        · replace q214 := if_f c217 q214
          refine Tri.run (G := gm_ring_After) tyOk mixed ?_
          conv => whnf
          cases q214
          exact ⟨rfl, weak_fin _ rfl rfl rfl (.cons (.same rfl) (.cons (.same rfl) (LeH.rest))) (.cons (.one (.same rfl)) (.cons (.one (.same rfl)) (.cons (.one (.same rfl)) (.cons (.one (.same rfl)) (.cons (.one (.same rfl)) (.cons (.one (.same rfl)) (.nil))))))) rfl rfl⟩
      · rintro ex S' ⟨rfl, w221⟩
        conv => whnf
        refine Tri.weak w221 ?_
        refine Tri.run (G := gm_ring_After) tyOk mixed ?_
        conv => whnf
        cases hv
        exact ⟨_, rfl, weak_fin _ rfl rfl rfl (.cons (.same rfl) (.cons (.same rfl) (LeH.rest))) (.cons (.one (.same rfl)) (.cons (.one (.same rfl)) (.cons (.one (.same rfl)) (.cons (.one (.same rfl)) (.cons (.one (.same rfl)) (.cons (.one (.same rfl)) (.nil))))))) rfl rfl⟩
    · replace hv := if_f c200 hv
      refine Tri.run (G := gm_ring_After) tyOk mixed ?_
      conv => whnf
      cases hv
      obtain rfl := r198 _ rfl
      exact ⟨rfl, weak_fin _ rfl rfl rfl (.cons (.gone) (.cons (.same rfl) (LeH.rest))) (.cons (.one (.same rfl)) (.nil)) rfl rfl⟩
  · rintro ex S' ⟨rfl, w222⟩
    conv => whnf
    refine Tri.weak w222 ?_
    refine Tri.seqK ?_
    refine Tri.run (G := gm_ring_After) tyOk mixed ?_
    conv => whnf
    replace h := need_some h
    obtain ⟨p223, h⟩ := h
    refine sort_47 rfl (by simp) p223 ?_
    conv => whnf
    refine Tri.seqK ?_
    refine Tri.weak (show Weak _ ⟨33, 0, ofRegs [(5, .row 1 ((List.map (encI .i64) (List.mergeSort y194 leI)).length)), (29, .row 1 ((List.map (encI .i64) (List.mergeSort y194 leI)).length)), (30, .tup [])], [.gone, .row 3 1 (List.map (encI .i64) (List.mergeSort y194 leI))]⟩ from weak_fin _ rfl rfl rfl (.cons (.same rfl) (.cons (.same rfl) (LeH.rest))) (.cons (.one (.same (show (.row 1 ((List.map (encI .i64) y194).length) : AV) = (.row 1 ((List.map (encI .i64) (List.mergeSort y194 leI)).length) : AV) from congrArg (AV.row 1) (by simp)))) (.cons (.one (.same (show (.row 1 ((List.map (encI .i64) y194).length) : AV) = (.row 1 ((List.map (encI .i64) (List.mergeSort y194 leI)).length) : AV) from congrArg (AV.row 1) (by simp)))) (.cons (.one (.same rfl)) (.nil)))) rfl rfl) ?_
    refine Tri.run (G := gm_ring_After) tyOk mixed ?_
    conv => whnf
    replace h := bind_some h
    obtain ⟨y224, q225, h⟩ := h
    refine CallP.use (slices_Compact_int_walk (List.mergeSort y194 leI) y224 q225) [1] rfl rfl rfl rfl rfl rfl rfl rfl rfl ?_
    conv => whnf
    refine Tri.run (G := gm_ring_After) tyOk mixed ?_
    conv => whnf
    refine fin_here ?_
    conv => whnf
    cases h
    rfl
noncomputable def ring_Reach_1 (t : Int) (v : Locks) : Option ((List Int)) :=
  (ring_After v t).bind fun y3 =>
  some y3
def gm_ring_Reach_1 : Gm := ⟨tys, [], [], []⟩
theorem ring_Reach_1_walk (t : Int) (v : Locks) (r : (List Int)) (h : ring_Reach_1 t v = some r) : CallP Try.prog 50 [.var 25 [.sl (List.map encHold v.Held), .sl (List.map encClaim v.Queue)]] [.v (.int .i64 t), .ptr 0 0] (fun a H' => a = .sl (List.map (encI .i64) r) ∧ H'.take ([.var 25 [.sl (List.map encHold v.Held), .sl (List.map encClaim v.Queue)]] : List Ob).length = [.var 25 [.sl (List.map encHold v.Held), .sl (List.map encClaim v.Queue)]]) := by
  unfold ring_Reach_1 at h
  refine callW (G := gm_ring_Reach_1) tyOk Try.func50 rfl (by kernel_rfl) (by simp [Try.f50]) ?_
  refine Tri.seqK ?_
  refine Tri.run (G := gm_ring_Reach_1) tyOk mixed ?_
  conv => whnf
  refine Tri.seqK ?_
  refine Tri.run (G := gm_ring_Reach_1) tyOk mixed ?_
  conv => whnf
  replace h := bind_some h
  obtain ⟨y3, q4, h⟩ := h
  refine PureP.mono (ring_After_walk v t y3 q4) ?_
  rintro _ rfl
  conv => whnf
  refine Tri.run (G := gm_ring_Reach_1) tyOk mixed ?_
  conv => whnf
  refine fin_pre (S' := ⟨7, 1, ofRegs [(3, .sl (List.map (encI .i64) y3))], [.var 25 [.sl (List.map encHold v.Held), .sl (List.map encClaim v.Queue)]]⟩) (weak_fin _ rfl rfl rfl (.cons (.same rfl) (LeH.rest)) (.cons (.one (.same rfl)) (.nil)) rfl rfl) ?_
  conv => whnf
  cases h
  exact ⟨rfl, rfl⟩
end Go.Ab
