/- The program's functions as plain Lean functions, and that the program comes to what they come to. Printed by a program of this session. -/
import Derived.Test.YtgmejofagmfcfaaGreatDoorW2
namespace Go.Ab
open Go.Proofs
set_option linter.unusedVariables false
set_option linter.unusedSimpArgs false
set_option maxRecDepth 100000
set_option maxHeartbeats 4000000
noncomputable def table_Put (l : (List Pair)) (key : Str) (val : Str) : Option ((List Pair)) :=
 need (l.length * 32 ≤ 140737488355328) <|
 (table_at l key).bind fun y7 =>
 if (decide (y7 ≥ 0)) then
  (ix l y7).bind fun x10 =>
  some (List.set l (y7).toNat ({ Key := key, Val := val } : Pair))
 else
  (slices_IndexFunc_Pair__table_Put_1 l key).bind fun y12 =>
  if (decide (y12 < 0)) then
   need ((l.length + 1) * 32 ≤ 140737488355328) <|
   some (l ++ [({ Key := key, Val := val } : Pair)])
  else
   need (0 ≤ y12 ∧ y12 < (l.length : Int) ∧ (l.length + 1) * 32 ≤ 140737488355328) <|
   some (List.take y12.toNat l ++ [({ Key := key, Val := val } : Pair)] ++ List.drop y12.toNat l)
def gm_table_Put : Gm := ⟨tys, [142, 144], [(138, 90, 2)], []⟩
theorem table_Put_walk (l : (List Pair)) (key : Str) (val : Str) (r : (List Pair)) (h : table_Put l key val = some r) : PureP Tryz.prog 97 [.sl (List.map encPair l), .v (.string (bs key)), .v (.string (bs val))] (fun a => a = .sl (List.map encPair r)) := by
 unfold table_Put at h
 refine pureW (G := gm_table_Put) tyOk Tryz.func97 rfl (by kernel_rfl) (by simp [Tryz.f97]) ?_
 refine Tri.seqK ?_
 refine Tri.run (G := gm_table_Put) tyOk mixed ?_
 conv => whnf
 refine Tri.seqK ?_
 refine Tri.run (G := gm_table_Put) tyOk mixed ?_
 conv => whnf
 refine Tri.seqK ?_
 refine Tri.run (G := gm_table_Put) tyOk mixed ?_
 conv => whnf
 replace h := need_some h
 obtain ⟨p1, h⟩ := h
 refine FreshP.mono (clone_138 l p1) ?_
 rintro _ rfl
 conv => whnf
 refine Tri.seqK ?_
 refine Tri.seqK ?_
 refine Tri.run (G := gm_table_Put) tyOk mixed ?_
 conv => whnf
 refine ⟨rfl, ?_⟩
 conv => whnf
 replace h := bind_some h
 obtain ⟨y7, q8, h⟩ := h
 refine PureP.mono (table_at_walk l key y7 q8) ?_
 rintro _ rfl
 conv => whnf
 refine Tri.seqK ?_
 refine Tri.run (G := gm_table_Put) tyOk mixed ?_
 conv => whnf
 refine Tri.cond rfl (fun c9 => ?_) (fun c9 => ?_)
 ·replace h := if_t c9 h
  refine Tri.seqK ?_
  refine Tri.run (G := gm_table_Put) tyOk mixed ?_
  conv => whnf
  replace h := bind_some h
  obtain ⟨x10, q11, h⟩ := h
  refine ⟨⟨rfl, (ix_lt q11).1, by have := ix_lt q11; simp only [List.length_map, List.length_set, List.length_cons, List.length_nil] at *; omega⟩, ?_⟩
  conv => whnf
  refine ⟨rfl, ?_⟩
  conv => whnf
  refine ⟨⟨_, map_get encPair (ix_some q11).2, ?_⟩⟩
  conv => whnf
  refine ⟨Nat.le_of_ble_eq_true rfl, ?_⟩
  conv => whnf
  refine ⟨⟨List.map encPair (List.set l (y7).toNat ({ Key := key, Val := val } : Pair)), map_set encPair _ _ _ rfl, ?_⟩⟩
  conv => whnf
  refine Tri.seqK ?_
  refine Tri.run (G := gm_table_Put) tyOk mixed ?_
  conv => whnf
  refine Tri.run (G := gm_table_Put) tyOk mixed ?_
  conv => whnf
  refine fin_here ?_
  conv => whnf
  refine ⟨by first | (simp; done) | (simp only [List.length_map, List.length_append, List.length_take, List.length_drop, List.length_replicate, List.length_set, List.length_mergeSort]; omega), ?_⟩
  conv => whnf
  cases h
  rfl
 ·replace h := if_f c9 h
  refine Tri.run (G := gm_table_Put) tyOk mixed ?_
  conv => whnf
  refine Tri.seqK ?_
  refine Tri.run (G := gm_table_Put) tyOk mixed ?_
  conv => whnf
  replace h := bind_some h
  obtain ⟨y12, q13, h⟩ := h
  refine CallP.use (slices_IndexFunc_Pair__table_Put_1_walk l key y12 q13) [2, 0] rfl rfl rfl rfl rfl rfl rfl rfl rfl ?_
  conv => whnf
  refine Tri.seqK ?_
  refine Tri.seqK ?_
  refine Tri.run (G := gm_table_Put) tyOk mixed ?_
  conv => whnf
  refine Tri.cond rfl (fun c16 => ?_) (fun c16 => ?_)
  ·replace h := if_t c16 h
   refine Tri.seqK ?_
   refine Tri.run (G := gm_table_Put) tyOk mixed ?_
   conv => whnf
   refine ⟨⟨List.map encPair [({ Key := key, Val := val } : Pair)], rfl, ?_⟩⟩
   conv => whnf
   refine ⟨rfl, ?_⟩
   conv => whnf
   refine ⟨rfl, ?_⟩
   conv => whnf
   replace h := need_some h
   obtain ⟨p17, h⟩ := h
   refine ⟨by simp only [List.length_map]; exact p17, ?_⟩
   conv => whnf
   refine ⟨⟨List.map encPair (l ++ [({ Key := key, Val := val } : Pair)]), map_app encPair _ _ rfl rfl, ?_⟩⟩
   conv => whnf
   refine Tri.run (G := gm_table_Put) tyOk mixed ?_
   conv => whnf
   refine fin_here ?_
   conv => whnf
   refine ⟨rfl, ?_⟩
   conv => whnf
   cases h
   rfl
  ·replace h := if_f c16 h
   refine Tri.run (G := gm_table_Put) tyOk mixed ?_
   conv => whnf
   refine Tri.seqK ?_
   refine Tri.run (G := gm_table_Put) tyOk mixed ?_
   conv => whnf
   refine ⟨⟨List.map encPair [({ Key := key, Val := val } : Pair)], rfl, ?_⟩⟩
   conv => whnf
   replace h := need_some h
   obtain ⟨p18, h⟩ := h
   refine CallP.use (insert_144 encPair l ({ Key := key, Val := val } : Pair) y12 p18) [2, 3] rfl rfl rfl rfl rfl rfl rfl rfl rfl ?_
   conv => whnf
   refine Tri.run (G := gm_table_Put) tyOk mixed ?_
   conv => whnf
   refine fin_here ?_
   conv => whnf
   refine ⟨rfl, ?_⟩
   conv => whnf
   cases h
   rfl
noncomputable def table_write_put (w : table_write) (l : (List Pair)) : Option ((List Pair)) :=
 (table_Put l w.Write.Key w.Write.Val).bind fun y1 =>
 some y1
def gm_table_write_put : Gm := ⟨tys, [], [], []⟩
theorem table_write_put_walk (w : table_write) (l : (List Pair)) (r : (List Pair)) (h : table_write_put w l = some r) : PureP Tryz.prog 139 [.agg [.v (.string (bs w.Write.Key)), .v (.string (bs w.Write.Val)), .v (.bool w.Write.Del)], .sl (List.map encPair l)] (fun a => a = .sl (List.map encPair r)) := by
 unfold table_write_put at h
 refine pureW (G := gm_table_write_put) tyOk Tryz.func139 rfl (by kernel_rfl) (by simp [Tryz.f139]) ?_
 refine Tri.seqK ?_
 refine Tri.run (G := gm_table_write_put) tyOk mixed ?_
 conv => whnf
 refine Tri.seqK ?_
 refine Tri.run (G := gm_table_write_put) tyOk mixed ?_
 conv => whnf
 replace h := bind_some h
 obtain ⟨y1, q2, h⟩ := h
 refine PureP.mono (table_Put_walk l w.Write.Key w.Write.Val y1 q2) ?_
 rintro _ rfl
 conv => whnf
 refine Tri.run (G := gm_table_write_put) tyOk mixed ?_
 conv => whnf
 refine fin_here ?_
 conv => whnf
 cases h
 rfl
noncomputable def table_Apply_l2 (w : (List Write)) (a249 : (List Pair)) (a250 : Int) : Option (((List Pair) × Int) ⊕ ((List Pair))) :=
 if (decide (a250 < (w.length : Int))) then
  (
   (ix w a250).bind fun x288 =>
   (
    if x288.Del then
     some (.inl ())
    else
     some (.inr ())).bind fun (y292 : (Unit) ⊕ (Unit)) =>
   match y292 with
   | (.inl v294) =>
    (table_write_drop ({ Write := x288 } : table_write) a249).bind fun y298 =>
    some y298
   | (.inr v295) =>
    (table_write_put ({ Write := x288 } : table_write) a249).bind fun y300 =>
    some y300).bind fun (y286 : (List Pair)) =>
  some (.inl (y286, (IntKind.i64.wrap (a250 + 1))))
 else
  some (.inr a249)
noncomputable def table_Apply (l : (List Pair)) (w : (List Write)) : Option ((List Pair)) :=
 need (l.length * 32 ≤ 140737488355328) <|
 (loop (fun (s253 : (List Pair) × Int) => table_Apply_l2 w s253.1 s253.2) (l, (0 : Int))).bind fun (y251 : (List Pair)) =>
 some y251
def gm_table_Apply : Gm := ⟨tys, [], [(138, 90, 2)], []⟩
theorem table_Apply_walk (l : (List Pair)) (w : (List Write)) (r : (List Pair)) (h : table_Apply l w = some r) : PureP Tryz.prog 96 [.sl (List.map encPair l), .sl (List.map encWrite w)] (fun a => a = .sl (List.map encPair r)) := by
 unfold table_Apply at h
 refine pureW (G := gm_table_Apply) tyOk Tryz.func96 rfl (by kernel_rfl) (by simp [Tryz.f96]) ?_
 refine Tri.seqK ?_
 refine Tri.run (G := gm_table_Apply) tyOk mixed ?_
 conv => whnf
 refine Tri.seqK ?_
 refine Tri.run (G := gm_table_Apply) tyOk mixed ?_
 conv => whnf
 replace h := need_some h
 obtain ⟨p1, h⟩ := h
 refine FreshP.mono (clone_138 l p1) ?_
 rintro _ rfl
 conv => whnf
 refine Tri.seqK ?_
 refine Tri.seqK ?_
 refine Tri.run (G := gm_table_Apply) tyOk mixed ?_
 conv => whnf
 refine ⟨⟨(w.length : Int), (len_map _ _).symm, ?_⟩⟩
 conv => whnf
 refine Tri.block ?_
 replace h := bind_some h
 obtain ⟨y251, q252, h⟩ := h
 refine Tri.cut (fun ex S' => ex = (.exit 0) ∧ Weak S' ⟨29, 0, ofRegs [(0, .sl (List.map encPair y251))], []⟩) ?_ ?_
 ·refine Tri.loopF (fun (s253 : (List Pair) × Int) => (⟨29, 0, ofRegs [(0, .sl (List.map encPair s253.1)), (10, .sl (List.map encWrite w)), (11, .v (.int .i64 (w.length : Int))), (12, .v (.int .i64 s253.2))], []⟩ : St)) q252 (Weak.trans (weak_freeze 0 rfl) (weak_fin _ rfl rfl rfl (LeH.rest) (.cons (.one (.frz rfl (rfl))) (.cons (.one (.same rfl)) (.cons (.one (.same rfl)) (.cons (.one (.same rfl)) (.nil))))) rfl rfl)) ?_
  rintro ⟨a249, a250⟩ v254 hv r255
  have hv : table_Apply_l2 w a249 a250 = some v254 := hv
  unfold table_Apply_l2 at hv
  dsimp only
  refine Tri.seqK ?_
  refine Tri.run (G := gm_table_Apply) tyOk mixed ?_
  conv => whnf
  refine Tri.seqK ?_
  refine Tri.cond rfl (fun c257 => ?_) (fun c257 => ?_)
  ·replace hv := if_t c257 hv
   refine Tri.run (G := gm_table_Apply) tyOk mixed ?_
   conv => whnf
   refine Tri.seqK ?_
   replace hv := bind_some hv
   obtain ⟨y286, q287, hv⟩ := hv
   refine Tri.cut (fun ex S' => ex = .normal ∧ Weak S' ⟨29, 0, ofRegs [(0, .sl (List.map encPair y286)), (10, .sl (List.map encWrite w)), (11, .v (.int .i64 (w.length : Int))), (12, .v (.int .i64 a250))], []⟩) ?_ ?_
   ·refine Tri.block ?_
    refine Tri.seqK ?_
    refine Tri.run (G := gm_table_Apply) tyOk mixed ?_
    conv => whnf
    replace q287 := bind_some q287
    obtain ⟨x288, q289, q287⟩ := q287
    refine ⟨(ix_some q289).1, ?_⟩
    conv => whnf
    refine ⟨⟨_, map_get encWrite (ix_some q289).2, ?_⟩⟩
    conv => whnf
    refine ⟨rfl, ?_⟩
    conv => whnf
    refine Tri.seqK ?_
    refine Tri.run (G := gm_table_Apply) tyOk mixed ?_
    conv => whnf
    refine Tri.seqK ?_
    replace q287 := bind_some q287
    obtain ⟨y292, q293, q287⟩ := q287
    refine Tri.cut (fun ex S' => (∃ v294 : Unit, y292 = (.inl v294) ∧ ex = .normal ∧ Weak S' ⟨29, 0, ofRegs [(0, .sl (List.map encPair a249)), (7, .fn (.func 140) [.agg [.v (.string (bs x288.Key)), .v (.string (bs x288.Val)), .v (.bool x288.Del)]] []), (10, .sl (List.map encWrite w)), (11, .v (.int .i64 (w.length : Int))), (12, .v (.int .i64 a250))], []⟩) ∨ (∃ v295 : Unit, y292 = (.inr v295) ∧ ex = .normal ∧ Weak S' ⟨29, 0, ofRegs [(0, .sl (List.map encPair a249)), (7, .fn (.func 139) [.agg [.v (.string (bs x288.Key)), .v (.string (bs x288.Val)), .v (.bool x288.Del)]] []), (10, .sl (List.map encWrite w)), (11, .v (.int .i64 (w.length : Int))), (12, .v (.int .i64 a250))], []⟩)) ?_ ?_
    ·refine Tri.seqK ?_
     refine Tri.run (G := gm_table_Apply) tyOk mixed ?_
     conv => whnf
     refine Tri.cond rfl (fun c296 => ?_) (fun c296 => ?_)
     ·replace q293 := if_t c296 q293
      refine Tri.run (G := gm_table_Apply) tyOk mixed ?_
      conv => whnf
      cases q293
      exact Or.inl ⟨_, rfl, rfl, weak_fin _ rfl rfl rfl (LeH.rest) (.cons (.one (.same rfl)) (.cons (.one (.same rfl)) (.cons (.one (.same rfl)) (.cons (.one (.same rfl)) (.cons (.one (.same rfl)) (.nil)))))) rfl rfl⟩
     ·replace q293 := if_f c296 q293
      refine Tri.run (G := gm_table_Apply) tyOk mixed ?_
      conv => whnf
      cases q293
      exact Or.inr (⟨_, rfl, rfl, weak_fin _ rfl rfl rfl (LeH.rest) (.cons (.one (.same rfl)) (.cons (.one (.same rfl)) (.cons (.one (.same rfl)) (.cons (.one (.same rfl)) (.cons (.one (.same rfl)) (.nil)))))) rfl rfl⟩)
    ·rintro ex S' (⟨v294, rfl, rfl, w297⟩ | ⟨v295, rfl, rfl, w297⟩)
     ·dsimp only at q287
      conv => whnf
      refine Tri.weak w297 ?_
      refine Tri.run (G := gm_table_Apply) tyOk mixed ?_
      conv => whnf
      replace q287 := bind_some q287
      obtain ⟨y298, q299, q287⟩ := q287
      refine PureP.mono (table_write_drop_walk ({ Write := x288 } : table_write) a249 y298 q299) ?_
      rintro _ rfl
      conv => whnf
      cases q287
      exact ⟨rfl, weak_fin _ rfl rfl rfl (LeH.rest) (.cons (.one (.same rfl)) (.cons (.one (.same rfl)) (.cons (.one (.same rfl)) (.cons (.one (.same rfl)) (.nil))))) rfl rfl⟩
     ·dsimp only at q287
      conv => whnf
      refine Tri.weak w297 ?_
      refine Tri.run (G := gm_table_Apply) tyOk mixed ?_
      conv => whnf
      replace q287 := bind_some q287
      obtain ⟨y300, q301, q287⟩ := q287
      refine PureP.mono (table_write_put_walk ({ Write := x288 } : table_write) a249 y300 q301) ?_
      rintro _ rfl
      conv => whnf
      cases q287
      exact ⟨rfl, weak_fin _ rfl rfl rfl (LeH.rest) (.cons (.one (.same rfl)) (.cons (.one (.same rfl)) (.cons (.one (.same rfl)) (.cons (.one (.same rfl)) (.nil))))) rfl rfl⟩
   ·rintro ex S' ⟨rfl, w302⟩
    conv => whnf
    refine Tri.weak w302 ?_
    refine Tri.run (G := gm_table_Apply) tyOk mixed ?_
    conv => whnf
    cases hv
    exact ⟨_, rfl, weak_fin _ rfl rfl rfl (LeH.rest) (.cons (.one (.same rfl)) (.cons (.one (.same rfl)) (.cons (.one (.same rfl)) (.cons (.one (.same rfl)) (.nil))))) rfl rfl⟩
  ·replace hv := if_f c257 hv
   refine Tri.run (G := gm_table_Apply) tyOk mixed ?_
   conv => whnf
   cases hv
   obtain rfl := r255 _ rfl
   exact ⟨rfl, weak_fin _ rfl rfl rfl (LeH.rest) (.cons (.one (.same rfl)) (.nil)) rfl rfl⟩
 ·rintro ex S' ⟨rfl, w303⟩
  conv => whnf
  refine Tri.weak w303 ?_
  refine Tri.seqK ?_
  refine Tri.run (G := gm_table_Apply) tyOk mixed ?_
  conv => whnf
  refine Tri.run (G := gm_table_Apply) tyOk mixed ?_
  conv => whnf
  refine fin_here ?_
  conv => whnf
  cases h
  rfl
noncomputable def batch_Do (s : State) (b : Batch) : Option (State × Int) :=
 (batch_May b).bind fun y4 =>
 if (!y4) then
  some (s, 1)
 else
  (batch_Decided s b.Token).bind fun y10 =>
  if y10.2 then
   some (s, 8)
  else
   (table_Apply s.Data b.Writes).bind fun y22 =>
   (table_Put s.Toks b.Token (if (decide (b.Kind = 2)) then [103] else [99])).bind fun y24 =>
   some (({ Data := y22, Toks := y24 } : State), 0)
def gm_batch_Do : Gm := ⟨tys, [], [], []⟩
theorem batch_Do_walk (s : State) (b : Batch) (r : State × Int) (h : batch_Do s b = some r) : PureP Tryz.prog 40 [.agg [.sl (List.map encPair s.Data), .sl (List.map encPair s.Toks)], .agg [.v (.int .i64 b.Kind), .v (.string (bs b.Token)), .sl (List.map encWrite b.Writes)]] (fun a => a = .tup [.agg [.sl (List.map encPair r.1.Data), .sl (List.map encPair r.1.Toks)], .v (.int .i64 r.2)]) := by
 unfold batch_Do at h
 refine pureW (G := gm_batch_Do) tyOk Tryz.func40 rfl (by kernel_rfl) (by simp [Tryz.f40]) ?_
 refine Tri.seqK ?_
 refine Tri.run (G := gm_batch_Do) tyOk mixed ?_
 conv => whnf
 refine Tri.seqK ?_
 refine Tri.seqK ?_
 refine Tri.run (G := gm_batch_Do) tyOk mixed ?_
 conv => whnf
 replace h := bind_some h
 obtain ⟨y4, q5, h⟩ := h
 refine PureP.mono (batch_May_walk b y4 q5) ?_
 rintro _ rfl
 conv => whnf
 refine Tri.cond rfl (fun c6 => ?_) (fun c6 => ?_)
 ·replace h := if_t c6 h
  refine Tri.seqK ?_
  refine Tri.run (G := gm_batch_Do) tyOk mixed ?_
  conv => whnf
  refine Tri.run (G := gm_batch_Do) tyOk mixed ?_
  conv => whnf
  refine fin_here ?_
  conv => whnf
  cases h
  rfl
 ·replace h := if_f c6 h
  refine Tri.run (G := gm_batch_Do) tyOk mixed ?_
  conv => whnf
  refine Tri.seqK ?_
  refine Tri.seqK ?_
  refine Tri.run (G := gm_batch_Do) tyOk mixed ?_
  conv => whnf
  replace h := bind_some h
  obtain ⟨y10, q11, h⟩ := h
  refine PureP.mono (batch_Decided_walk s b.Token y10 q11) ?_
  rintro _ rfl
  conv => whnf
  refine Tri.seqK ?_
  refine Tri.run (G := gm_batch_Do) tyOk mixed ?_
  conv => whnf
  refine Tri.cond rfl (fun c12 => ?_) (fun c12 => ?_)
  ·replace h := if_t c12 h
   refine Tri.seqK ?_
   refine Tri.run (G := gm_batch_Do) tyOk mixed ?_
   conv => whnf
   refine Tri.run (G := gm_batch_Do) tyOk mixed ?_
   conv => whnf
   refine fin_here ?_
   conv => whnf
   cases h
   rfl
  ·replace h := if_f c12 h
   refine Tri.run (G := gm_batch_Do) tyOk mixed ?_
   conv => whnf
   refine Tri.seqK ?_
   refine Tri.run (G := gm_batch_Do) tyOk mixed ?_
   conv => whnf
   refine Tri.seqK ?_
   refine Tri.cut (fun ex S' => ex = .normal ∧ Weak S' ⟨37, 0, ofRegs [(2, .ptr 0 0), (3, .ptr 1 0), (4, .ptr 2 0), (8, .v (.string (bs (if (decide (b.Kind = 2)) then [103] else [99]))))], [.var 36 [.sl (List.map encPair s.Data), .sl (List.map encPair s.Toks)], .var 25 [.v (.int .i64 b.Kind), .v (.string (bs b.Token)), .sl (List.map encWrite b.Writes)], .var 36 [.v (.slice none 0 0), .v (.slice none 0 0)]]⟩) ?_ ?_
   ·refine Tri.seqK ?_
    refine Tri.run (G := gm_batch_Do) tyOk mixed ?_
    conv => whnf
    refine Tri.cond rfl (fun c16 => ?_) (fun c16 => ?_)
    ·replace c16 : (decide (b.Kind = 2)) = true := c16
     refine Tri.run (G := gm_batch_Do) tyOk mixed ?_
     conv => whnf
     exact ⟨rfl, weak_fin _ rfl rfl rfl (.cons (.same rfl) (.cons (.same rfl) (.cons (.same rfl) (LeH.rest)))) (.cons (.one (.same rfl)) (.cons (.one (.same rfl)) (.cons (.one (.same rfl)) (.cons (.one (.same (show (.v (.string (bs [103])) : AV) = (.v (.string (bs (if (decide (b.Kind = 2)) then [103] else [99]))) : AV) from by first | (simp [c16]; done) | (simp only [c16, Bool.or_true, Bool.true_or, Bool.false_or, Bool.or_false, Bool.and_true, Bool.true_and, Bool.and_false, Bool.false_and, Bool.not_true, Bool.not_false, if_true, if_false, Bool.false_eq_true]; done) | (exfalso; revert c16; simp +contextual; done)))) (.nil))))) rfl rfl⟩
    ·replace c16 : (decide (b.Kind = 2)) = false := c16
     refine Tri.run (G := gm_batch_Do) tyOk mixed ?_
     conv => whnf
     exact ⟨rfl, weak_fin _ rfl rfl rfl (.cons (.same rfl) (.cons (.same rfl) (.cons (.same rfl) (LeH.rest)))) (.cons (.one (.same rfl)) (.cons (.one (.same rfl)) (.cons (.one (.same rfl)) (.cons (.one (.same (show (.v (.string (bs [99])) : AV) = (.v (.string (bs (if (decide (b.Kind = 2)) then [103] else [99]))) : AV) from by first | (simp [c16]; done) | (simp only [c16, Bool.or_true, Bool.true_or, Bool.false_or, Bool.or_false, Bool.and_true, Bool.true_and, Bool.and_false, Bool.false_and, Bool.not_true, Bool.not_false, if_true, if_false, Bool.false_eq_true]; done) | (exfalso; revert c16; simp +contextual; done)))) (.nil))))) rfl rfl⟩
   ·rintro ex S' ⟨rfl, w17⟩
    conv => whnf
    refine Tri.weak w17 ?_
    refine Tri.seqK ?_
    refine Tri.run (G := gm_batch_Do) tyOk mixed ?_
    conv => whnf
    refine Draw.one 12 (.take 0 (.take 1 (.take 2 (.take 3 (.take 5 (.take 6 (.take 7 (.take 8 (.take 9 (.alt 4 (.alt 10 (.take 11 (.fin)) (.nil)) (.nil))))))))))) [] (by kernel_rfl) ?_
    conv => whnf
    refine ⟨?_, ?_⟩
    ·conv => whnf
     replace h := bind_some h
     obtain ⟨y22, q23, h⟩ := h
     refine PureP.mono (table_Apply_walk s.Data b.Writes y22 q23) ?_
     rintro _ rfl
     conv => whnf
     refine ⟨?_, ?_⟩
     ·conv => whnf
      replace h := bind_some h
      obtain ⟨y24, q25, h⟩ := h
      refine PureP.mono (table_Put_walk s.Toks b.Token (if (decide (b.Kind = 2)) then [103] else [99]) y24 q25) ?_
      rintro _ rfl
      conv => whnf
      refine Tri.run (G := gm_batch_Do) tyOk mixed ?_
      conv => whnf
      refine fin_here ?_
      conv => whnf
      cases h
      rfl
     ·conv => whnf
      trivial
    ·conv => whnf
     trivial
noncomputable def kv_Open_l2 (y31 : Disk × (List Str) × Int × Int) (a142 : Int) (a143 : (List Pair)) (a144 : (List Pair)) : Option ((Int × (List Pair) × (List Pair)) ⊕ ((Int) ⊕ ((List Pair) × (List Pair)))) :=
 if (decide (a142 < (y31.2.1.length : Int))) then
  (ix y31.2.1 a142).bind fun x162 =>
  (batch_Take x162).bind fun y164 =>
  if (!(decide (y164.2 = 0))) then
   some (.inr (.inl y164.2))
  else
   (batch_Do ({ Data := a143, Toks := a144 } : State) y164.1).bind fun y168 =>
   some (.inl ((IntKind.i64.wrap (a142 + 1)), y168.1.Data, y168.1.Toks))
 else
  some (.inr (.inr (a143, a144)))
noncomputable def kv_Open (d : Disk) : Option (Store × Int) :=
 (
  (disk_Read d [109]).bind fun y19 =>
  if (decide (y19.2 = 0)) then
   (kv_TakeManifest y19.1).bind fun y22 =>
   if (!(decide (y22.2.2 = 0))) then
    some (.inr y22.2.2)
   else
    some (.inl (y22.1, y22.2.1))
  else
   some (.inl (1, 0))).bind fun (y15 : (Int × Int) ⊕ (Int)) =>
 match y15 with
 | (.inl v17) =>
  (kv_based d v17.2).bind fun y27 =>
  if (!(decide (y27.2 = 0))) then
   some (({ D := ({ Files := [], Room := 0, Fuse := 0, Off := false } : Disk), From := 0, Seg := 0, Run := 0, S := ({ Data := [], Toks := [] } : State), Down := false } : Store), y27.2)
  else
   (wal_Recover d v17.1).bind fun y31 =>
   if (!(decide (y31.2.2.2 = 0))) then
    some (({ D := ({ Files := [], Room := 0, Fuse := 0, Off := false } : Disk), From := 0, Seg := 0, Run := 0, S := ({ Data := [], Toks := [] } : State), Down := false } : Store), y31.2.2.2)
   else
    (loop (fun (s149 : Int × (List Pair) × (List Pair)) => kv_Open_l2 y31 s149.1 s149.2.1 s149.2.2) ((0 : Int), y27.1.Data, y27.1.Toks)).bind fun (y145 : (Int) ⊕ ((List Pair) × (List Pair))) =>
    match y145 with
    | (.inl v147) =>
     some (({ D := ({ Files := [], Room := 0, Fuse := 0, Off := false } : Disk), From := 0, Seg := 0, Run := 0, S := ({ Data := [], Toks := [] } : State), Down := false } : Store), v147)
    | (.inr v148) =>
     some (({ D := y31.1, From := v17.1, Seg := y31.2.2.1, Run := v17.2, S := ({ Data := v148.1, Toks := v148.2 } : State), Down := false } : Store), 0)
 | (.inr v18) =>
  some (({ D := ({ Files := [], Room := 0, Fuse := 0, Off := false } : Disk), From := 0, Seg := 0, Run := 0, S := ({ Data := [], Toks := [] } : State), Down := false } : Store), v18)
def gm_kv_Open : Gm := ⟨tys, [], [], []⟩
theorem kv_Open_walk (d : Disk) (r : Store × Int) (h : kv_Open d = some r) : PureP Tryz.prog 12 [.agg [.sl (List.map encFile d.Files), .v (.int .i64 d.Room), .v (.int .i64 d.Fuse), .v (.bool d.Off)]] (fun a => a = .tup [.agg [.sl (List.map encFile r.1.D.Files), .v (.int .i64 r.1.D.Room), .v (.int .i64 r.1.D.Fuse), .v (.bool r.1.D.Off), .v (.int .i64 r.1.From), .v (.int .i64 r.1.Seg), .v (.int .i64 r.1.Run), .sl (List.map encPair r.1.S.Data), .sl (List.map encPair r.1.S.Toks), .v (.bool r.1.Down)], .v (.int .i64 r.2)]) := by
 unfold kv_Open at h
 refine pureW (G := gm_kv_Open) tyOk Tryz.func12 rfl (by kernel_rfl) (by simp [Tryz.f12]) ?_
 refine Tri.seqK ?_
 refine Tri.run (G := gm_kv_Open) tyOk mixed ?_
 conv => whnf
 refine Tri.seqK ?_
 refine Tri.run (G := gm_kv_Open) tyOk mixed ?_
 conv => whnf
 refine Tri.seqK ?_
 replace h := bind_some h
 obtain ⟨y15, q16, h⟩ := h
 refine Tri.cut (fun ex S' => (∃ v17 : Int × Int, y15 = (.inl v17) ∧ ex = .normal ∧ Weak S' ⟨93, 0, ofRegs [(1, .ptr 0 0), (2, .ptr 1 0), (4, .ptr 2 0)], [.var 31 [.sl (List.map encFile d.Files), .v (.int .i64 d.Room), .v (.int .i64 d.Fuse), .v (.bool d.Off)], .var 38 [.v (.slice none 0 0), .v (.int .i64 0), .v (.int .i64 0), .v (.bool false), .v (.int .i64 0), .v (.int .i64 0), .v (.int .i64 0), .v (.slice none 0 0), .v (.slice none 0 0), .v (.bool false)], .var 38 [.v (.slice none 0 0), .v (.int .i64 0), .v (.int .i64 0), .v (.bool false), .v (.int .i64 v17.1), .v (.int .i64 0), .v (.int .i64 v17.2), .v (.slice none 0 0), .v (.slice none 0 0), .v (.bool false)]]⟩) ∨ (∃ v18 : Int, y15 = (.inr v18) ∧ ex = .ret ∧ Weak S' ⟨93, 0, ofRegs [(2, .ptr 1 0), (3, .v (.int .i64 v18))], [.gone, .var 38 [.v (.slice none 0 0), .v (.int .i64 0), .v (.int .i64 0), .v (.bool false), .v (.int .i64 0), .v (.int .i64 0), .v (.int .i64 0), .v (.slice none 0 0), .v (.slice none 0 0), .v (.bool false)]]⟩)) ?_ ?_
 ·refine Tri.seqK ?_
  refine Tri.run (G := gm_kv_Open) tyOk mixed ?_
  conv => whnf
  replace q16 := bind_some q16
  obtain ⟨y19, q20, q16⟩ := q16
  refine PureP.mono (disk_Read_walk d [109] y19 q20) ?_
  rintro _ rfl
  conv => whnf
  refine Tri.seqK ?_
  refine Tri.run (G := gm_kv_Open) tyOk mixed ?_
  conv => whnf
  refine Tri.cond rfl (fun c21 => ?_) (fun c21 => ?_)
  ·replace q16 := if_t c21 q16
   refine Tri.seqK ?_
   refine Tri.run (G := gm_kv_Open) tyOk mixed ?_
   conv => whnf
   replace q16 := bind_some q16
   obtain ⟨y22, q23, q16⟩ := q16
   refine PureP.mono (kv_TakeManifest_walk y19.1 y22 q23) ?_
   rintro _ rfl
   conv => whnf
   refine Tri.seqK ?_
   refine Tri.seqK ?_
   refine Tri.run (G := gm_kv_Open) tyOk mixed ?_
   conv => whnf
   refine Tri.cond rfl (fun c25 => ?_) (fun c25 => ?_)
   ·replace q16 := if_t c25 q16
    refine Tri.seqK ?_
    refine Tri.run (G := gm_kv_Open) tyOk mixed ?_
    conv => whnf
    refine Tri.run (G := gm_kv_Open) tyOk mixed ?_
    conv => whnf
    cases q16
    exact Or.inr (⟨_, rfl, rfl, weak_fin _ rfl rfl rfl (.cons (.gone) (.cons (.same rfl) (LeH.rest))) (.cons (.one (.same rfl)) (.cons (.one (.same rfl)) (.nil))) rfl rfl⟩)
   ·replace q16 := if_f c25 q16
    refine Tri.run (G := gm_kv_Open) tyOk mixed ?_
    conv => whnf
    refine Tri.run (G := gm_kv_Open) tyOk mixed ?_
    conv => whnf
    cases q16
    exact Or.inl ⟨_, rfl, rfl, weak_fin _ rfl rfl rfl (.cons (.same rfl) (.cons (.same rfl) (.cons (.same rfl) (LeH.rest)))) (.cons (.one (.same rfl)) (.cons (.one (.same rfl)) (.cons (.one (.same rfl)) (.nil)))) rfl rfl⟩
  ·replace q16 := if_f c21 q16
   refine Tri.run (G := gm_kv_Open) tyOk mixed ?_
   conv => whnf
   cases q16
   exact Or.inl ⟨_, rfl, rfl, weak_fin _ rfl rfl rfl (.cons (.same rfl) (.cons (.same rfl) (.cons (.same rfl) (LeH.rest)))) (.cons (.one (.same rfl)) (.cons (.one (.same rfl)) (.cons (.one (.same rfl)) (.nil)))) rfl rfl⟩
 ·rintro ex S' (⟨v17, rfl, rfl, w26⟩ | ⟨v18, rfl, rfl, w26⟩)
  ·dsimp only at h
   conv => whnf
   refine Tri.weak w26 ?_
   refine Tri.seqK ?_
   refine Tri.run (G := gm_kv_Open) tyOk mixed ?_
   conv => whnf
   replace h := bind_some h
   obtain ⟨y27, q28, h⟩ := h
   refine PureP.mono (kv_based_walk d v17.2 y27 q28) ?_
   rintro _ rfl
   conv => whnf
   refine Tri.seqK ?_
   refine Tri.seqK ?_
   refine Tri.run (G := gm_kv_Open) tyOk mixed ?_
   conv => whnf
   refine Tri.cond rfl (fun c30 => ?_) (fun c30 => ?_)
   ·replace h := if_t c30 h
    refine Tri.seqK ?_
    refine Tri.run (G := gm_kv_Open) tyOk mixed ?_
    conv => whnf
    refine Tri.run (G := gm_kv_Open) tyOk mixed ?_
    conv => whnf
    refine fin_here ?_
    conv => whnf
    cases h
    rfl
   ·replace h := if_f c30 h
    refine Tri.run (G := gm_kv_Open) tyOk mixed ?_
    conv => whnf
    refine Tri.seqK ?_
    refine Tri.run (G := gm_kv_Open) tyOk mixed ?_
    conv => whnf
    replace h := bind_some h
    obtain ⟨y31, q32, h⟩ := h
    refine PureP.mono (wal_Recover_walk d v17.1 y31 q32) ?_
    rintro _ rfl
    conv => whnf
    refine Tri.seqK ?_
    refine Tri.seqK ?_
    refine Tri.run (G := gm_kv_Open) tyOk mixed ?_
    conv => whnf
    refine Tri.cond rfl (fun c34 => ?_) (fun c34 => ?_)
    ·replace h := if_t c34 h
     refine Tri.seqK ?_
     refine Tri.run (G := gm_kv_Open) tyOk mixed ?_
     conv => whnf
     refine Tri.run (G := gm_kv_Open) tyOk mixed ?_
     conv => whnf
     refine fin_here ?_
     conv => whnf
     cases h
     rfl
    ·replace h := if_f c34 h
     refine Tri.run (G := gm_kv_Open) tyOk mixed ?_
     conv => whnf
     refine Tri.seqK ?_
     refine Tri.seqK ?_
     refine Tri.run (G := gm_kv_Open) tyOk mixed ?_
     conv => whnf
     refine ⟨⟨(y31.2.1.length : Int), (len_map _ _).symm, ?_⟩⟩
     conv => whnf
     refine Tri.block ?_
     replace h := bind_some h
     obtain ⟨y145, q146, h⟩ := h
     refine Tri.cut (fun ex S' => (∃ v147 : Int, y145 = (.inl v147) ∧ ex = .ret ∧ Weak S' ⟨93, 0, ofRegs [(2, .ptr 1 0), (3, .v (.int .i64 v147))], [.gone, .var 38 [.v (.slice none 0 0), .v (.int .i64 0), .v (.int .i64 0), .v (.bool false), .v (.int .i64 0), .v (.int .i64 0), .v (.int .i64 0), .v (.slice none 0 0), .v (.slice none 0 0), .v (.bool false)]]⟩) ∨ (∃ v148 : (List Pair) × (List Pair), y145 = (.inr v148) ∧ ex = (.exit 0) ∧ Weak S' ⟨93, 0, ofRegs [(1, .ptr 0 0), (2, .ptr 1 0), (4, .ptr 2 0), (10, .ptr 3 0), (13, .v (.int .i64 y31.2.2.1))], [.var 31 [.sl (List.map encFile y31.1.Files), .v (.int .i64 y31.1.Room), .v (.int .i64 y31.1.Fuse), .v (.bool y31.1.Off)], .var 38 [.v (.slice none 0 0), .v (.int .i64 0), .v (.int .i64 0), .v (.bool false), .v (.int .i64 0), .v (.int .i64 0), .v (.int .i64 0), .v (.slice none 0 0), .v (.slice none 0 0), .v (.bool false)], .var 38 [.v (.slice none 0 0), .v (.int .i64 0), .v (.int .i64 0), .v (.bool false), .v (.int .i64 v17.1), .v (.int .i64 0), .v (.int .i64 v17.2), .v (.slice none 0 0), .v (.slice none 0 0), .v (.bool false)], .var 36 [.sl (List.map encPair v148.1), .sl (List.map encPair v148.2)]]⟩)) ?_ ?_
     ·refine Tri.loopF (fun (s149 : Int × (List Pair) × (List Pair)) => (⟨93, 0, ofRegs [(1, .ptr 0 0), (2, .ptr 1 0), (4, .ptr 2 0), (10, .ptr 3 0), (13, .v (.int .i64 y31.2.2.1)), (64, .sl (List.map encS y31.2.1)), (65, .v (.int .i64 (y31.2.1.length : Int))), (66, .v (.int .i64 s149.1))], [.var 31 [.sl (List.map encFile y31.1.Files), .v (.int .i64 y31.1.Room), .v (.int .i64 y31.1.Fuse), .v (.bool y31.1.Off)], .var 38 [.v (.slice none 0 0), .v (.int .i64 0), .v (.int .i64 0), .v (.bool false), .v (.int .i64 0), .v (.int .i64 0), .v (.int .i64 0), .v (.slice none 0 0), .v (.slice none 0 0), .v (.bool false)], .var 38 [.v (.slice none 0 0), .v (.int .i64 0), .v (.int .i64 0), .v (.bool false), .v (.int .i64 v17.1), .v (.int .i64 0), .v (.int .i64 v17.2), .v (.slice none 0 0), .v (.slice none 0 0), .v (.bool false)], .var 36 [.sl (List.map encPair s149.2.1), .sl (List.map encPair s149.2.2)]]⟩ : St)) q146 (weak_fin _ rfl rfl rfl (.cons (.same rfl) (.cons (.same rfl) (.cons (.same rfl) (.cons (.same rfl) (LeH.rest))))) (.cons (.one (.same rfl)) (.cons (.one (.same rfl)) (.cons (.one (.same rfl)) (.cons (.one (.same rfl)) (.cons (.one (.same rfl)) (.cons (.one (.same rfl)) (.cons (.one (.same rfl)) (.cons (.one (.same rfl)) (.nil))))))))) rfl rfl) ?_
      rintro ⟨a142, a143, a144⟩ v150 hv r151
      have hv : kv_Open_l2 y31 a142 a143 a144 = some v150 := hv
      unfold kv_Open_l2 at hv
      dsimp only
      refine Tri.seqK ?_
      refine Tri.run (G := gm_kv_Open) tyOk mixed ?_
      conv => whnf
      refine Tri.seqK ?_
      refine Tri.cond rfl (fun c153 => ?_) (fun c153 => ?_)
      ·replace hv := if_t c153 hv
       refine Tri.run (G := gm_kv_Open) tyOk mixed ?_
       conv => whnf
       refine Tri.seqK ?_
       refine Tri.block ?_
       refine Tri.seqK ?_
       refine Tri.run (G := gm_kv_Open) tyOk mixed ?_
       conv => whnf
       replace hv := bind_some hv
       obtain ⟨x162, q163, hv⟩ := hv
       refine ⟨(ix_some q163).1, ?_⟩
       conv => whnf
       refine ⟨⟨_, map_get encS (ix_some q163).2, ?_⟩⟩
       conv => whnf
       refine ⟨rfl, ?_⟩
       conv => whnf
       refine Tri.seqK ?_
       refine Tri.run (G := gm_kv_Open) tyOk mixed ?_
       conv => whnf
       replace hv := bind_some hv
       obtain ⟨y164, q165, hv⟩ := hv
       refine PureP.mono (batch_Take_walk x162 y164 q165) ?_
       rintro _ rfl
       conv => whnf
       refine Tri.seqK ?_
       refine Tri.seqK ?_
       refine Tri.run (G := gm_kv_Open) tyOk mixed ?_
       conv => whnf
       refine Tri.cond rfl (fun c167 => ?_) (fun c167 => ?_)
       ·replace hv := if_t c167 hv
        refine Tri.seqK ?_
        refine Tri.run (G := gm_kv_Open) tyOk mixed ?_
        conv => whnf
        refine Tri.run (G := gm_kv_Open) tyOk mixed ?_
        conv => whnf
        cases hv
        obtain rfl := r151 _ rfl
        exact Or.inl ⟨_, rfl, rfl, weak_fin _ rfl rfl rfl (.cons (.gone) (.cons (.same rfl) (LeH.rest))) (.cons (.one (.same rfl)) (.cons (.one (.same rfl)) (.nil))) rfl rfl⟩
       ·replace hv := if_f c167 hv
        refine Tri.run (G := gm_kv_Open) tyOk mixed ?_
        conv => whnf
        refine Tri.run (G := gm_kv_Open) tyOk mixed ?_
        conv => whnf
        replace hv := bind_some hv
        obtain ⟨y168, q169, hv⟩ := hv
        refine PureP.mono (batch_Do_walk ({ Data := a143, Toks := a144 } : State) y164.1 y168 q169) ?_
        rintro _ rfl
        conv => whnf
        refine Tri.run (G := gm_kv_Open) tyOk mixed ?_
        conv => whnf
        cases hv
        exact ⟨_, rfl, weak_fin _ rfl rfl rfl (.cons (.same rfl) (.cons (.same rfl) (.cons (.same rfl) (.cons (.same rfl) (LeH.rest))))) (.cons (.one (.same rfl)) (.cons (.one (.same rfl)) (.cons (.one (.same rfl)) (.cons (.one (.same rfl)) (.cons (.one (.same rfl)) (.cons (.one (.same rfl)) (.cons (.one (.same rfl)) (.cons (.one (.same rfl)) (.nil))))))))) rfl rfl⟩
      ·replace hv := if_f c153 hv
       refine Tri.run (G := gm_kv_Open) tyOk mixed ?_
       conv => whnf
       cases hv
       obtain rfl := r151 _ rfl
       exact Or.inr (⟨_, rfl, rfl, weak_fin _ rfl rfl rfl (.cons (.same rfl) (.cons (.same rfl) (.cons (.same rfl) (.cons (.same rfl) (LeH.rest))))) (.cons (.one (.same rfl)) (.cons (.one (.same rfl)) (.cons (.one (.same rfl)) (.cons (.one (.same rfl)) (.cons (.one (.same rfl)) (.nil)))))) rfl rfl⟩)
     ·rintro ex S' (⟨v147, rfl, rfl, w170⟩ | ⟨v148, rfl, rfl, w170⟩)
      ·dsimp only at h
       conv => whnf
       refine fin_pre w170 ?_
       conv => whnf
       cases h
       rfl
      ·dsimp only at h
       conv => whnf
       refine Tri.weak w170 ?_
       refine Tri.seqK ?_
       refine Tri.run (G := gm_kv_Open) tyOk mixed ?_
       conv => whnf
       refine Draw.one 7 (.take 0 (.take 1 (.take 2 (.take 3 (.alt 4 (.take 5 (.alt 6 (.fin) (.nil))) (.nil)))))) [2, 4, 5, 6, 7, 8, 9] (by kernel_rfl) ?_
       conv => whnf
       refine ⟨?_, ?_⟩
       ·conv => whnf
        refine ⟨?_, ?_⟩
        ·conv => whnf
         refine Tri.seqK ?_
         refine Tri.run (G := gm_kv_Open) tyOk mixed ?_
         conv => whnf
         refine Tri.run (G := gm_kv_Open) tyOk mixed ?_
         conv => whnf
         refine fin_here ?_
         conv => whnf
         cases h
         rfl
        ·conv => whnf
         trivial
       ·conv => whnf
        trivial
  ·dsimp only at h
   conv => whnf
   refine fin_pre w26 ?_
   conv => whnf
   cases h
   rfl
noncomputable def dec_Text (t : Str) : Option (Str) :=
 (dec_Num (IntKind.u64.wrap (t.length : Int))).bind fun y1 =>
 need (y1.length + t.length ≤ 9223372036854775807) <|
 some (y1 ++ t)
def gm_dec_Text : Gm := ⟨tys, [], [], []⟩
theorem dec_Text_walk (t : Str) (r : Str) (h : dec_Text t = some r) : PureP Tryz.prog 99 [.v (.string (bs t))] (fun a => a = .v (.string (bs r))) := by
 unfold dec_Text at h
 refine pureW (G := gm_dec_Text) tyOk Tryz.func99 rfl (by kernel_rfl) (by simp [Tryz.f99]) ?_
 refine Tri.seqK ?_
 refine Tri.run (G := gm_dec_Text) tyOk mixed ?_
 conv => whnf
 refine Tri.seqK ?_
 refine Tri.run (G := gm_dec_Text) tyOk mixed ?_
 conv => whnf
 refine ⟨⟨(t.length : Int), rfl, ?_⟩⟩
 conv => whnf
 refine ⟨⟨(IntKind.u64.wrap (t.length : Int)), rfl, ?_⟩⟩
 conv => whnf
 replace h := bind_some h
 obtain ⟨y1, q2, h⟩ := h
 refine PureP.mono (dec_Num_walk (IntKind.u64.wrap (t.length : Int)) y1 q2) ?_
 rintro _ rfl
 conv => whnf
 replace h := need_some h
 obtain ⟨p3, h⟩ := h
 refine ⟨p3, ?_⟩
 conv => whnf
 refine ⟨⟨bs (y1 ++ t), bs_append _ _, ?_⟩⟩
 conv => whnf
 refine Tri.run (G := gm_dec_Text) tyOk mixed ?_
 conv => whnf
 refine fin_here ?_
 conv => whnf
 cases h
 rfl
noncomputable def batch_Bytes_l2 (b : Batch) (a297 : Int) (a298 : Str) : Option ((Int × Str) ⊕ (Str)) :=
 if (decide (a297 < (b.Writes.length : Int))) then
  (ix b.Writes a297).bind fun x331 =>
  (dec_Num (if x331.Del then 1 else 0)).bind fun y347 =>
  (dec_Text x331.Key).bind fun y349 =>
  need (y347.length + y349.length ≤ 9223372036854775807) <|
  (dec_Text x331.Val).bind fun y352 =>
  need ((y347 ++ y349).length + y352.length ≤ 9223372036854775807) <|
  need (0 < ((y347 ++ y349) ++ y352).length ∧ a298.length + ((y347 ++ y349) ++ y352).length ≤ 140737488355328) <|
  some (.inl ((IntKind.i64.wrap (a297 + 1)), (a298 ++ ((y347 ++ y349) ++ y352))))
 else
  some (.inr a298)
noncomputable def batch_Bytes (b : Batch) : Option (Str × Int) :=
 (batch_May b).bind fun y4 =>
 if (!y4) then
  some ([], 1)
 else
  (dec_Num (IntKind.u64.wrap b.Kind)).bind fun y16 =>
  (dec_Text b.Token).bind fun y18 =>
  need (y16.length + y18.length ≤ 9223372036854775807) <|
  (dec_Num (IntKind.u64.wrap (b.Writes.length : Int))).bind fun y21 =>
  need ((y16 ++ y18).length + y21.length ≤ 9223372036854775807) <|
  need (0 < ((y16 ++ y18) ++ y21).length ∧ ([] : Str).length + ((y16 ++ y18) ++ y21).length ≤ 140737488355328) <|
  (loop (fun (s301 : Int × Str) => batch_Bytes_l2 b s301.1 s301.2) ((0 : Int), (([] : Str) ++ ((y16 ++ y18) ++ y21)))).bind fun (y299 : Str) =>
  need (0 < y299.length) <|
  some (y299, 0)
def gm_batch_Bytes : Gm := ⟨tys, [98, 100], [], []⟩
theorem batch_Bytes_walk (b : Batch) (r : Str × Int) (h : batch_Bytes b = some r) : PureP Tryz.prog 41 [.agg [.v (.int .i64 b.Kind), .v (.string (bs b.Token)), .sl (List.map encWrite b.Writes)]] (fun a => a = .tup [.v (.string (bs r.1)), .v (.int .i64 r.2)]) := by
 unfold batch_Bytes at h
 refine pureW (G := gm_batch_Bytes) tyOk Tryz.func41 rfl (by kernel_rfl) (by simp [Tryz.f41]) ?_
 refine Tri.seqK ?_
 refine Tri.run (G := gm_batch_Bytes) tyOk mixed ?_
 conv => whnf
 refine Tri.seqK ?_
 refine Tri.seqK ?_
 refine Tri.run (G := gm_batch_Bytes) tyOk mixed ?_
 conv => whnf
 replace h := bind_some h
 obtain ⟨y4, q5, h⟩ := h
 refine PureP.mono (batch_May_walk b y4 q5) ?_
 rintro _ rfl
 conv => whnf
 refine Tri.cond rfl (fun c6 => ?_) (fun c6 => ?_)
 ·replace h := if_t c6 h
  refine Tri.seqK ?_
  refine Tri.run (G := gm_batch_Bytes) tyOk mixed ?_
  conv => whnf
  refine Tri.run (G := gm_batch_Bytes) tyOk mixed ?_
  conv => whnf
  refine fin_here ?_
  conv => whnf
  cases h
  rfl
 ·replace h := if_f c6 h
  refine Tri.run (G := gm_batch_Bytes) tyOk mixed ?_
  conv => whnf
  refine Tri.seqK ?_
  refine Tri.run (G := gm_batch_Bytes) tyOk mixed ?_
  conv => whnf
  refine Tri.seqK ?_
  refine Tri.weak (show Weak _ ⟨48, 0, ofRegs [(0, .agg [.v (.int .i64 b.Kind), .v (.string (bs b.Token)), .sl (List.map encWrite b.Writes)]), (1, .ptr 0 0), (2, .v (.string (bs []))), (3, .v (.int .i64 0)), (4, .ptr 1 0), (8, .agg [.v (.int .i64 b.Kind), .v (.string (bs b.Token)), .sl (List.map encWrite b.Writes)]), (9, .v (.bool y4)), (10, .v (.bool false))], [.var 25 [.v (.int .i64 b.Kind), .v (.string (bs b.Token)), .sl (List.map encWrite b.Writes)], .var 171 [.v (.pointer none), .row 2 ((List.map byteU ([] : Str)).length)], .row 5 1 (List.map byteU ([] : Str))]⟩ from Weak.trans (weak_nilcell 1 1 5 1 rfl rfl) (weak_fin _ rfl rfl rfl (.cons (.same rfl) (.cons (.same rfl) (.cons (.same rfl) (LeH.rest)))) (.cons (.one (.same rfl)) (.cons (.one (.same rfl)) (.cons (.one (.same rfl)) (.cons (.one (.same rfl)) (.cons (.one (.same rfl)) (.cons (.one (.same rfl)) (.cons (.one (.same rfl)) (.cons (.one (.same rfl)) (.nil))))))))) rfl rfl)) ?_
  refine Tri.run (G := gm_batch_Bytes) tyOk mixed ?_
  conv => whnf
  refine Draw.one 15 (.take 0 (.take 1 (.take 2 (.take 4 (.take 5 (.take 8 (.take 9 (.take 10 (.take 11 (.alt 3 (.alt 6 (.take 7 (.alt 12 (.take 13 (.alt 14 (.fin) (.nil))) (.nil))) (.nil)) (.nil))))))))))) [1] (by kernel_rfl) ?_
  conv => whnf
  refine ⟨⟨(IntKind.u64.wrap b.Kind), rfl, ?_⟩⟩
  conv => whnf
  refine ⟨⟨(b.Writes.length : Int), (len_map _ _).symm, ?_⟩⟩
  conv => whnf
  refine ⟨⟨(IntKind.u64.wrap (b.Writes.length : Int)), rfl, ?_⟩⟩
  conv => whnf
  refine ⟨?_, ?_⟩
  ·conv => whnf
   replace h := bind_some h
   obtain ⟨y16, q17, h⟩ := h
   refine PureP.mono (dec_Num_walk (IntKind.u64.wrap b.Kind) y16 q17) ?_
   rintro _ rfl
   conv => whnf
   refine ⟨?_, ?_⟩
   ·conv => whnf
    replace h := bind_some h
    obtain ⟨y18, q19, h⟩ := h
    refine PureP.mono (dec_Text_walk b.Token y18 q19) ?_
    rintro _ rfl
    conv => whnf
    replace h := need_some h
    obtain ⟨p20, h⟩ := h
    refine ⟨p20, ?_⟩
    conv => whnf
    refine ⟨⟨bs (y16 ++ y18), bs_append _ _, ?_⟩⟩
    conv => whnf
    refine ⟨?_, ?_⟩
    ·conv => whnf
     replace h := bind_some h
     obtain ⟨y21, q22, h⟩ := h
     refine PureP.mono (dec_Num_walk (IntKind.u64.wrap (b.Writes.length : Int)) y21 q22) ?_
     rintro _ rfl
     conv => whnf
     replace h := need_some h
     obtain ⟨p23, h⟩ := h
     refine ⟨p23, ?_⟩
     conv => whnf
     refine ⟨⟨bs ((y16 ++ y18) ++ y21), bs_append _ _, ?_⟩⟩
     conv => whnf
     refine ⟨?_, ?_⟩
     ·conv => whnf
      replace h := need_some h
      obtain ⟨p24, h⟩ := h
      refine CallP.use (bwrite_98 (.inl rfl) ([] : Str) ((y16 ++ y18) ++ y21) p24) [1, 2] rfl rfl rfl rfl rfl rfl rfl rfl rfl ?_
      conv => whnf
      refine Tri.seqK ?_
      refine Tri.seqK ?_
      refine Tri.run (G := gm_batch_Bytes) tyOk mixed ?_
      conv => whnf
      refine ⟨⟨(b.Writes.length : Int), (len_map _ _).symm, ?_⟩⟩
      conv => whnf
      refine Tri.block ?_
      replace h := bind_some h
      obtain ⟨y299, q300, h⟩ := h
      refine Tri.cut (fun ex S' => ex = (.exit 0) ∧ Weak S' ⟨48, 0, ofRegs [(4, .ptr 1 0)], [.gone, .var 171 [.ptr 1 0, .row 2 ((List.map byteU y299).length)], .row 5 1 (List.map byteU y299)]⟩) ?_ ?_
      ·refine Tri.loopF (fun (s301 : Int × Str) => (⟨48, 0, ofRegs [(4, .ptr 1 0), (27, .sl (List.map encWrite b.Writes)), (28, .v (.int .i64 (b.Writes.length : Int))), (29, .v (.int .i64 s301.1))], [.gone, .var 171 [.ptr 1 0, .row 2 ((List.map byteU s301.2).length)], .row 5 1 (List.map byteU s301.2)]⟩ : St)) q300 (weak_fin _ rfl rfl rfl (.cons (.gone) (.cons (.same rfl) (.cons (.same rfl) (LeH.rest)))) (.cons (.one (.same rfl)) (.cons (.one (.same rfl)) (.cons (.one (.same rfl)) (.cons (.one (.same rfl)) (.nil))))) rfl rfl) ?_
       rintro ⟨a297, a298⟩ v302 hv r303
       have hv : batch_Bytes_l2 b a297 a298 = some v302 := hv
       unfold batch_Bytes_l2 at hv
       dsimp only
       refine Tri.seqK ?_
       refine Tri.run (G := gm_batch_Bytes) tyOk mixed ?_
       conv => whnf
       refine Tri.seqK ?_
       refine Tri.cond rfl (fun c305 => ?_) (fun c305 => ?_)
       ·replace hv := if_t c305 hv
        refine Tri.run (G := gm_batch_Bytes) tyOk mixed ?_
        conv => whnf
        refine Tri.seqK ?_
        refine Tri.block ?_
        refine Tri.seqK ?_
        refine Tri.run (G := gm_batch_Bytes) tyOk mixed ?_
        conv => whnf
        replace hv := bind_some hv
        obtain ⟨x331, q332, hv⟩ := hv
        refine ⟨(ix_some q332).1, ?_⟩
        conv => whnf
        refine ⟨⟨_, map_get encWrite (ix_some q332).2, ?_⟩⟩
        conv => whnf
        refine ⟨rfl, ?_⟩
        conv => whnf
        refine Tri.seqK ?_
        refine Tri.run (G := gm_batch_Bytes) tyOk mixed ?_
        conv => whnf
        refine Tri.seqK ?_
        refine Tri.cut (fun ex S' => ex = .normal ∧ Weak S' ⟨48, 0, ofRegs [(4, .ptr 1 0), (6, .ptr 3 0), (7, .v (.int .u64 (if x331.Del then 1 else 0))), (27, .sl (List.map encWrite b.Writes)), (28, .v (.int .i64 (b.Writes.length : Int))), (29, .v (.int .i64 a297))], [.gone, .var 171 [.ptr 1 0, .row 2 ((List.map byteU a298).length)], .row 5 1 (List.map byteU a298), .var 88 [.v (.string (bs x331.Key)), .v (.string (bs x331.Val)), .v (.bool x331.Del)]]⟩) ?_ ?_
        ·refine Tri.seqK ?_
         refine Tri.run (G := gm_batch_Bytes) tyOk mixed ?_
         conv => whnf
         refine Tri.cond rfl (fun c336 => ?_) (fun c336 => ?_)
         ·replace c336 : x331.Del = true := c336
          refine Tri.run (G := gm_batch_Bytes) tyOk mixed ?_
          conv => whnf
          exact ⟨rfl, weak_fin _ rfl rfl rfl (.cons (.same rfl) (.cons (.same rfl) (.cons (.same rfl) (.cons (.same rfl) (LeH.rest))))) (.cons (.one (.same rfl)) (.cons (.one (.same rfl)) (.cons (.one (.same (show (.v (.int .u64 1) : AV) = (.v (.int .u64 (if x331.Del then 1 else 0)) : AV) from by first | (simp [c336]; done) | (simp only [c336, Bool.or_true, Bool.true_or, Bool.false_or, Bool.or_false, Bool.and_true, Bool.true_and, Bool.and_false, Bool.false_and, Bool.not_true, Bool.not_false, if_true, if_false, Bool.false_eq_true]; done) | (exfalso; revert c336; simp +contextual; done)))) (.cons (.one (.same rfl)) (.cons (.one (.same rfl)) (.cons (.one (.same rfl)) (.nil))))))) rfl rfl⟩
         ·replace c336 : x331.Del = false := c336
          refine Tri.run (G := gm_batch_Bytes) tyOk mixed ?_
          conv => whnf
          exact ⟨rfl, weak_fin _ rfl rfl rfl (.cons (.same rfl) (.cons (.same rfl) (.cons (.same rfl) (.cons (.same rfl) (LeH.rest))))) (.cons (.one (.same rfl)) (.cons (.one (.same rfl)) (.cons (.one (.same (show (.v (.int .u64 0) : AV) = (.v (.int .u64 (if x331.Del then 1 else 0)) : AV) from by first | (simp [c336]; done) | (simp only [c336, Bool.or_true, Bool.true_or, Bool.false_or, Bool.or_false, Bool.and_true, Bool.true_and, Bool.and_false, Bool.false_and, Bool.not_true, Bool.not_false, if_true, if_false, Bool.false_eq_true]; done) | (exfalso; revert c336; simp +contextual; done)))) (.cons (.one (.same rfl)) (.cons (.one (.same rfl)) (.cons (.one (.same rfl)) (.nil))))))) rfl rfl⟩
        ·rintro ex S' ⟨rfl, w337⟩
         conv => whnf
         refine Tri.weak w337 ?_
         refine Tri.run (G := gm_batch_Bytes) tyOk mixed ?_
         conv => whnf
         refine Draw.one 11 (.take 0 (.take 2 (.take 3 (.take 6 (.take 7 (.alt 1 (.alt 4 (.take 5 (.alt 8 (.take 9 (.alt 10 (.fin) (.nil))) (.nil))) (.nil)) (.nil))))))) [1] (by kernel_rfl) ?_
         conv => whnf
         refine ⟨?_, ?_⟩
         ·conv => whnf
          replace hv := bind_some hv
          obtain ⟨y347, q348, hv⟩ := hv
          refine PureP.mono (dec_Num_walk (if x331.Del then 1 else 0) y347 q348) ?_
          rintro _ rfl
          conv => whnf
          refine ⟨?_, ?_⟩
          ·conv => whnf
           replace hv := bind_some hv
           obtain ⟨y349, q350, hv⟩ := hv
           refine PureP.mono (dec_Text_walk x331.Key y349 q350) ?_
           rintro _ rfl
           conv => whnf
           replace hv := need_some hv
           obtain ⟨p351, hv⟩ := hv
           refine ⟨p351, ?_⟩
           conv => whnf
           refine ⟨⟨bs (y347 ++ y349), bs_append _ _, ?_⟩⟩
           conv => whnf
           refine ⟨?_, ?_⟩
           ·conv => whnf
            replace hv := bind_some hv
            obtain ⟨y352, q353, hv⟩ := hv
            refine PureP.mono (dec_Text_walk x331.Val y352 q353) ?_
            rintro _ rfl
            conv => whnf
            replace hv := need_some hv
            obtain ⟨p354, hv⟩ := hv
            refine ⟨p354, ?_⟩
            conv => whnf
            refine ⟨⟨bs ((y347 ++ y349) ++ y352), bs_append _ _, ?_⟩⟩
            conv => whnf
            refine ⟨?_, ?_⟩
            ·conv => whnf
             replace hv := need_some hv
             obtain ⟨p355, hv⟩ := hv
             refine CallP.use (bwrite_98 (.inr rfl) a298 ((y347 ++ y349) ++ y352) p355) [1, 2] rfl rfl rfl rfl rfl rfl rfl rfl rfl ?_
             conv => whnf
             refine Tri.run (G := gm_batch_Bytes) tyOk mixed ?_
             conv => whnf
             cases hv
             exact ⟨_, rfl, weak_fin _ rfl rfl rfl (.cons (.same rfl) (.cons (.same rfl) (.cons (.same rfl) (LeH.rest)))) (.cons (.one (.same rfl)) (.cons (.one (.same rfl)) (.cons (.one (.same rfl)) (.cons (.one (.same rfl)) (.nil))))) rfl rfl⟩
            ·conv => whnf
             trivial
           ·conv => whnf
            trivial
          ·conv => whnf
           trivial
         ·conv => whnf
          trivial
       ·replace hv := if_f c305 hv
        refine Tri.run (G := gm_batch_Bytes) tyOk mixed ?_
        conv => whnf
        cases hv
        obtain rfl := r303 _ rfl
        exact ⟨rfl, weak_fin _ rfl rfl rfl (.cons (.same rfl) (.cons (.same rfl) (.cons (.same rfl) (LeH.rest)))) (.cons (.one (.same rfl)) (.nil)) rfl rfl⟩
      ·rintro ex S' ⟨rfl, w356⟩
       conv => whnf
       refine Tri.weak w356 ?_
       refine Tri.seqK ?_
       refine Tri.run (G := gm_batch_Bytes) tyOk mixed ?_
       conv => whnf
       replace h := need_some h
       obtain ⟨p357, h⟩ := h
       refine CallP.use (bstr_100 (.ptr 0 0) y299 p357) [1, 2] rfl rfl rfl rfl rfl rfl rfl rfl rfl ?_
       conv => whnf
       refine Tri.run (G := gm_batch_Bytes) tyOk mixed ?_
       conv => whnf
       refine fin_here ?_
       conv => whnf
       cases h
       rfl
     ·conv => whnf
      trivial
    ·conv => whnf
     trivial
   ·conv => whnf
    trivial
  ·conv => whnf
   trivial
noncomputable def sum_Seal (s : Str) : Option (Str) :=
 (dec_Text s).bind fun y1 =>
 (sum_Of s).bind fun y3 =>
 (dec_Num (IntKind.u64.wrap y3)).bind fun y5 =>
 need (y1.length + y5.length ≤ 9223372036854775807) <|
 some (y1 ++ y5)
def gm_sum_Seal : Gm := ⟨tys, [], [], []⟩
theorem sum_Seal_walk (s : Str) (r : Str) (h : sum_Seal s = some r) : PureP Tryz.prog 65 [.v (.string (bs s))] (fun a => a = .v (.string (bs r))) := by
 unfold sum_Seal at h
 refine pureW (G := gm_sum_Seal) tyOk Tryz.func65 rfl (by kernel_rfl) (by simp [Tryz.f65]) ?_
 refine Tri.seqK ?_
 refine Tri.run (G := gm_sum_Seal) tyOk mixed ?_
 conv => whnf
 refine Tri.seqK ?_
 refine Tri.run (G := gm_sum_Seal) tyOk mixed ?_
 conv => whnf
 replace h := bind_some h
 obtain ⟨y1, q2, h⟩ := h
 refine PureP.mono (dec_Text_walk s y1 q2) ?_
 rintro _ rfl
 conv => whnf
 replace h := bind_some h
 obtain ⟨y3, q4, h⟩ := h
 refine PureP.mono (sum_Of_walk s y3 q4) ?_
 rintro _ rfl
 conv => whnf
 refine ⟨⟨(IntKind.u64.wrap y3), rfl, ?_⟩⟩
 conv => whnf
 replace h := bind_some h
 obtain ⟨y5, q6, h⟩ := h
 refine PureP.mono (dec_Num_walk (IntKind.u64.wrap y3) y5 q6) ?_
 rintro _ rfl
 conv => whnf
 replace h := need_some h
 obtain ⟨p7, h⟩ := h
 refine ⟨p7, ?_⟩
 conv => whnf
 refine ⟨⟨bs (y1 ++ y5), bs_append _ _, ?_⟩⟩
 conv => whnf
 refine Tri.run (G := gm_sum_Seal) tyOk mixed ?_
 conv => whnf
 refine fin_here ?_
 conv => whnf
 cases h
 rfl
noncomputable def wal_Put (d : Disk) (seg : Int) (rec : Str) : Option (Disk × Int × Int) :=
 (wal_may seg).bind fun y5 =>
 if (!y5) then
  some (d, seg, 1)
 else
  if (decide ((rec.length : Int) > 2048)) then
   some (d, seg, 4)
  else
   (
    (wal_Name seg).bind fun y737 =>
    (disk_Read d y737).bind fun y739 =>
    if (decide ((y739.1.length : Int) ≥ 256)) then
     (wal_Name seg).bind fun y752 =>
     (disk_Sync d y752).bind fun y754 =>
     (
      (
       if (decide (y754.2 = 0)) then
        (wal_may (IntKind.i64.wrap (seg + 1))).bind fun y1087 =>
        some y1087
       else
        some false).bind fun (y1084 : Bool) =>
      if y1084 then
       some (.inr ())
      else
       if (decide (y754.2 = 0)) then
        some (.inl 5)
       else
        some (.inl y754.2)).bind fun (y980 : (Int) ⊕ (Unit)) =>
     match y980 with
     | (.inl v982) =>
      some (.inr (v982, y754.1.Files, y754.1.Room, y754.1.Fuse, y754.1.Off))
     | (.inr v983) =>
      some (.inl ((IntKind.i64.wrap (seg + 1)), y754.1.Files, y754.1.Room, y754.1.Fuse, y754.1.Off))
    else
     some (.inl (seg, d.Files, d.Room, d.Fuse, d.Off))).bind fun (y729 : (Int × (List File) × Int × Int × Bool) ⊕ (Int × (List File) × Int × Int × Bool)) =>
   match y729 with
   | (.inl v731) =>
    (wal_Name v731.1).bind fun y1110 =>
    (sum_Seal rec).bind fun y1112 =>
    (disk_Append ({ Files := v731.2.1, Room := v731.2.2.1, Fuse := v731.2.2.2.1, Off := v731.2.2.2.2 } : Disk) y1110 y1112).bind fun y1114 =>
    some (y1114.1, v731.1, y1114.2)
   | (.inr v732) =>
    some (({ Files := v732.2.1, Room := v732.2.2.1, Fuse := v732.2.2.2.1, Off := v732.2.2.2.2 } : Disk), seg, v732.1)
def gm_wal_Put : Gm := ⟨tys, [], [], []⟩
theorem wal_Put_walk (d : Disk) (seg : Int) (rec : Str) (r : Disk × Int × Int) (h : wal_Put d seg rec = some r) : PureP Tryz.prog 43 [.agg [.sl (List.map encFile d.Files), .v (.int .i64 d.Room), .v (.int .i64 d.Fuse), .v (.bool d.Off)], .v (.int .i64 seg), .v (.string (bs rec))] (fun a => a = .tup [.agg [.sl (List.map encFile r.1.Files), .v (.int .i64 r.1.Room), .v (.int .i64 r.1.Fuse), .v (.bool r.1.Off)], .v (.int .i64 r.2.1), .v (.int .i64 r.2.2)]) := by
 unfold wal_Put at h
 refine pureW (G := gm_wal_Put) tyOk Tryz.func43 rfl (by kernel_rfl) (by simp [Tryz.f43]) ?_
 refine Tri.seqK ?_
 refine Tri.run (G := gm_wal_Put) tyOk mixed ?_
 conv => whnf
 refine Tri.seqK ?_
 refine Tri.block ?_
 refine Tri.seqK ?_
 refine Tri.run (G := gm_wal_Put) tyOk mixed ?_
 conv => whnf
 replace h := bind_some h
 obtain ⟨y5, q6, h⟩ := h
 refine PureP.mono (wal_may_walk seg y5 q6) ?_
 rintro _ rfl
 conv => whnf
 refine Tri.cond rfl (fun c7 => ?_) (fun c7 => ?_)
 ·replace h := if_t c7 h
  refine Tri.seqK ?_
  refine Tri.run (G := gm_wal_Put) tyOk mixed ?_
  conv => whnf
  refine Tri.run (G := gm_wal_Put) tyOk mixed ?_
  conv => whnf
  refine fin_here ?_
  conv => whnf
  cases h
  rfl
 ·replace h := if_f c7 h
  refine Tri.seqK ?_
  refine Tri.run (G := gm_wal_Put) tyOk mixed ?_
  conv => whnf
  refine ⟨⟨(rec.length : Int), rfl, ?_⟩⟩
  conv => whnf
  refine Tri.cond rfl (fun c8 => ?_) (fun c8 => ?_)
  ·replace h := if_t c8 h
   refine Tri.seqK ?_
   refine Tri.run (G := gm_wal_Put) tyOk mixed ?_
   conv => whnf
   refine Tri.run (G := gm_wal_Put) tyOk mixed ?_
   conv => whnf
   refine fin_here ?_
   conv => whnf
   cases h
   rfl
  ·replace h := if_f c8 h
   refine Tri.run (G := gm_wal_Put) tyOk mixed ?_
   conv => whnf
   refine Tri.seqK ?_
   replace h := bind_some h
   obtain ⟨y729, q730, h⟩ := h
   refine Tri.cut (fun ex S' => (∃ v731 : Int × (List File) × Int × Int × Bool, y729 = (.inl v731) ∧ ex = .normal ∧ Weak S' ⟨72, 0, ofRegs [(1, .v (.int .i64 v731.1)), (2, .v (.string (bs rec))), (3, .ptr 0 0), (6, .ptr 1 0)], [.var 31 [.sl (List.map encFile v731.2.1), .v (.int .i64 v731.2.2.1), .v (.int .i64 v731.2.2.2.1), .v (.bool v731.2.2.2.2)], .var 31 [.v (.slice none 0 0), .v (.int .i64 0), .v (.int .i64 0), .v (.bool false)]]⟩) ∨ (∃ v732 : Int × (List File) × Int × Int × Bool, y729 = (.inr v732) ∧ ex = .ret ∧ Weak S' ⟨72, 0, ofRegs [(6, .ptr 1 0), (7, .v (.int .i64 seg)), (8, .v (.int .i64 v732.1))], [.gone, .var 31 [.sl (List.map encFile v732.2.1), .v (.int .i64 v732.2.2.1), .v (.int .i64 v732.2.2.2.1), .v (.bool v732.2.2.2.2)]]⟩)) ?_ ?_
   ·refine Tri.seqK ?_
    refine Tri.run (G := gm_wal_Put) tyOk mixed ?_
    conv => whnf
    refine Draw.one 9 (.take 0 (.take 1 (.alt 2 (.alt 3 (.take 4 (.take 5 (.take 6 (.take 7 (.take 8 (.fin)))))) (.nil)) (.nil)))) [] (by kernel_rfl) ?_
    conv => whnf
    refine ⟨?_, ?_⟩
    ·conv => whnf
     replace q730 := bind_some q730
     obtain ⟨y737, q738, q730⟩ := q730
     refine PureP.mono (wal_Name_walk seg y737 q738) ?_
     rintro _ rfl
     conv => whnf
     refine ⟨?_, ?_⟩
     ·conv => whnf
      replace q730 := bind_some q730
      obtain ⟨y739, q740, q730⟩ := q730
      refine PureP.mono (disk_Read_walk d y737 y739 q740) ?_
      rintro _ rfl
      conv => whnf
      refine Tri.seqK ?_
      refine Tri.run (G := gm_wal_Put) tyOk mixed ?_
      conv => whnf
      refine ⟨⟨(y739.1.length : Int), rfl, ?_⟩⟩
      conv => whnf
      refine Tri.cond rfl (fun c741 => ?_) (fun c741 => ?_)
      ·replace q730 := if_t c741 q730
       refine Tri.seqK ?_
       refine Tri.run (G := gm_wal_Put) tyOk mixed ?_
       conv => whnf
       replace q730 := bind_some q730
       obtain ⟨y752, q762, q730⟩ := q730
       replace q730 := bind_some q730
       obtain ⟨y754, q763, q730⟩ := q730
       refine Draw.many 9 (.take 0 (.take 1 (.alt 2 (.alt 3 (.take 4 (.take 5 (.take 6 (.alt 7 (.alt 8 (.fin) (.nil)) (.nil))))) (.alt 7 (.alt 3 (.take 4 (.take 5 (.take 6 (.alt 8 (.fin) (.nil))))) (.nil)) (.nil))) (.alt 7 (.alt 2 (.alt 3 (.take 4 (.take 5 (.take 6 (.alt 8 (.fin) (.nil))))) (.nil)) (.nil)) (.nil))))) [2, 3, 4, 5, 6, 7] (⟨72, 0, ofRegs [(1, .v (.int .i64 seg)), (2, .v (.string (bs rec))), (3, .ptr 0 0), (6, .ptr 1 0), (11, .ptr 2 0), (42, .v (.int .i64 y754.2))], [.var 31 [.sl (List.map encFile d.Files), .v (.int .i64 d.Room), .v (.int .i64 d.Fuse), .v (.bool d.Off)], .var 31 [.v (.slice none 0 0), .v (.int .i64 0), .v (.int .i64 0), .v (.bool false)], .var 31 [.sl (List.map encFile y754.1.Files), .v (.int .i64 y754.1.Room), .v (.int .i64 y754.1.Fuse), .v (.bool y754.1.Off)]]⟩) (by kernel_rfl) ?_ ?_
       ·conv => whnf
        refine ⟨?_, ?_⟩
        ·conv => whnf
         refine PureP.mono (wal_Name_walk seg y752 q762) ?_
         rintro _ rfl
         conv => whnf
         refine ⟨?_, ?_⟩
         ·conv => whnf
          refine PureP.mono (disk_Sync_walk d y752 y754 q763) ?_
          rintro _ rfl
          conv => whnf
          refine ⟨?_, ?_⟩
          ·conv => whnf
           refine ⟨?_, ?_⟩
           ·conv => whnf
            exact weak_fin _ rfl rfl rfl (.cons (.same rfl) (.cons (.same rfl) (.cons (.same rfl) (LeH.rest)))) (.cons (.one (.same rfl)) (.cons (.one (.same rfl)) (.cons (.one (.same rfl)) (.cons (.one (.same rfl)) (.cons (.one (.same rfl)) (.cons (.one (.same rfl)) (.nil))))))) rfl rfl
           ·conv => whnf
            trivial
          ·conv => whnf
           trivial
         ·conv => whnf
          refine ⟨?_, ?_⟩
          ·conv => whnf
           refine ⟨?_, ?_⟩
           ·conv => whnf
            refine PureP.mono (disk_Sync_walk d y752 y754 q763) ?_
            rintro _ rfl
            conv => whnf
            refine ⟨?_, ?_⟩
            ·conv => whnf
             exact weak_fin _ rfl rfl rfl (.cons (.same rfl) (.cons (.same rfl) (.cons (.same rfl) (LeH.rest)))) (.cons (.one (.same rfl)) (.cons (.one (.same rfl)) (.cons (.one (.same rfl)) (.cons (.one (.same rfl)) (.cons (.one (.same rfl)) (.cons (.one (.same rfl)) (.nil))))))) rfl rfl
            ·conv => whnf
             trivial
           ·conv => whnf
            trivial
          ·conv => whnf
           trivial
        ·conv => whnf
         refine ⟨?_, ?_⟩
         ·conv => whnf
          refine ⟨?_, ?_⟩
          ·conv => whnf
           refine PureP.mono (wal_Name_walk seg y752 q762) ?_
           rintro _ rfl
           conv => whnf
           refine ⟨?_, ?_⟩
           ·conv => whnf
            refine PureP.mono (disk_Sync_walk d y752 y754 q763) ?_
            rintro _ rfl
            conv => whnf
            refine ⟨?_, ?_⟩
            ·conv => whnf
             exact weak_fin _ rfl rfl rfl (.cons (.same rfl) (.cons (.same rfl) (.cons (.same rfl) (LeH.rest)))) (.cons (.one (.same rfl)) (.cons (.one (.same rfl)) (.cons (.one (.same rfl)) (.cons (.one (.same rfl)) (.cons (.one (.same rfl)) (.cons (.one (.same rfl)) (.nil))))))) rfl rfl
            ·conv => whnf
             trivial
           ·conv => whnf
            trivial
          ·conv => whnf
           trivial
         ·conv => whnf
          trivial
       ·conv => whnf
        refine Tri.block ?_
        refine Tri.seqK ?_
        replace q730 := bind_some q730
        obtain ⟨y980, q981, q730⟩ := q730
        refine Tri.cut (fun ex S' => (∃ v982 : Int, y980 = (.inl v982) ∧ ex = .normal ∧ Weak S' ⟨72, 0, ofRegs [(1, .v (.int .i64 seg)), (6, .ptr 1 0), (11, .ptr 2 0), (12, .v (.int .i64 v982))], [.gone, .var 31 [.v (.slice none 0 0), .v (.int .i64 0), .v (.int .i64 0), .v (.bool false)], .var 31 [.sl (List.map encFile y754.1.Files), .v (.int .i64 y754.1.Room), .v (.int .i64 y754.1.Fuse), .v (.bool y754.1.Off)]]⟩) ∨ (∃ v983 : Unit, y980 = (.inr v983) ∧ ex = (.exit 1) ∧ Weak S' ⟨72, 0, ofRegs [(1, .v (.int .i64 (IntKind.i64.wrap (seg + 1)))), (2, .v (.string (bs rec))), (3, .ptr 0 0), (6, .ptr 1 0)], [.var 31 [.sl (List.map encFile y754.1.Files), .v (.int .i64 y754.1.Room), .v (.int .i64 y754.1.Fuse), .v (.bool y754.1.Off)], .var 31 [.v (.slice none 0 0), .v (.int .i64 0), .v (.int .i64 0), .v (.bool false)]]⟩)) ?_ ?_
        ·refine Tri.block ?_
         refine Tri.seqK ?_
         refine Tri.block ?_
         refine Tri.seqK ?_
         refine Tri.block ?_
         refine Tri.seqK ?_
         refine Tri.seqK ?_
         refine Tri.seqK ?_
         replace q981 := bind_some q981
         obtain ⟨y1084, q1085, q981⟩ := q981
         refine Tri.cut (fun ex S' => ex = .normal ∧ Weak S' ⟨72, 0, ofRegs [(1, .v (.int .i64 seg)), (2, .v (.string (bs rec))), (3, .ptr 0 0), (6, .ptr 1 0), (11, .ptr 2 0), (12, .v (.int .i64 y754.2)), (43, .v (.bool y1084))], [.var 31 [.sl (List.map encFile d.Files), .v (.int .i64 d.Room), .v (.int .i64 d.Fuse), .v (.bool d.Off)], .var 31 [.v (.slice none 0 0), .v (.int .i64 0), .v (.int .i64 0), .v (.bool false)], .var 31 [.sl (List.map encFile y754.1.Files), .v (.int .i64 y754.1.Room), .v (.int .i64 y754.1.Fuse), .v (.bool y754.1.Off)]]⟩) ?_ ?_
         ·refine Tri.run (G := gm_wal_Put) tyOk mixed ?_
          conv => whnf
          refine cond_mk (fun c1086 => ?_) (fun c1086 => ?_)
          ·replace q1085 := if_t c1086 q1085
           conv => whnf
           replace q1085 := bind_some q1085
           obtain ⟨y1087, q1088, q1085⟩ := q1085
           refine PureP.mono (wal_may_walk (IntKind.i64.wrap (seg + 1)) y1087 q1088) ?_
           rintro _ rfl
           conv => whnf
           cases q1085
           exact ⟨rfl, weak_fin _ rfl rfl rfl (.cons (.same rfl) (.cons (.same rfl) (.cons (.same rfl) (LeH.rest)))) (.cons (.one (.same rfl)) (.cons (.one (.same rfl)) (.cons (.one (.same rfl)) (.cons (.one (.same rfl)) (.cons (.one (.same rfl)) (.cons (.one (.same rfl)) (.cons (.one (.same rfl)) (.nil)))))))) rfl rfl⟩
          ·replace q1085 := if_f c1086 q1085
           conv => whnf
           cases q1085
           exact ⟨rfl, weak_fin _ rfl rfl rfl (.cons (.same rfl) (.cons (.same rfl) (.cons (.same rfl) (LeH.rest)))) (.cons (.one (.same rfl)) (.cons (.one (.same rfl)) (.cons (.one (.same rfl)) (.cons (.one (.same rfl)) (.cons (.one (.same rfl)) (.cons (.one (.same rfl)) (.cons (.one (.same rfl)) (.nil)))))))) rfl rfl⟩
         ·rintro ex S' ⟨rfl, w1089⟩
          conv => whnf
          refine Tri.weak w1089 ?_
          refine Tri.cond rfl (fun c1090 => ?_) (fun c1090 => ?_)
          ·replace q981 := if_t c1090 q981
           refine Tri.run (G := gm_wal_Put) tyOk mixed ?_
           conv => whnf
           refine Tri.seqK ?_
           refine Tri.run (G := gm_wal_Put) tyOk mixed ?_
           conv => whnf
           refine Tri.run (G := gm_wal_Put) tyOk mixed ?_
           conv => whnf
           cases q981
           exact Or.inr (⟨_, rfl, rfl, weak_fin _ rfl rfl rfl (.cons (.same rfl) (.cons (.same rfl) (LeH.rest))) (.cons (.one (.same rfl)) (.cons (.one (.same rfl)) (.cons (.one (.same rfl)) (.cons (.one (.same rfl)) (.nil))))) rfl rfl⟩)
          ·replace q981 := if_f c1090 q981
           refine Tri.run (G := gm_wal_Put) tyOk mixed ?_
           conv => whnf
           refine Tri.seqK ?_
           refine Tri.run (G := gm_wal_Put) tyOk mixed ?_
           conv => whnf
           refine Tri.cond rfl (fun c1091 => ?_) (fun c1091 => ?_)
           ·replace q981 := if_t c1091 q981
            refine Tri.run (G := gm_wal_Put) tyOk mixed ?_
            conv => whnf
            refine Tri.run (G := gm_wal_Put) tyOk mixed ?_
            conv => whnf
            cases q981
            exact Or.inl ⟨_, rfl, rfl, weak_fin _ rfl rfl rfl (.cons (.gone) (.cons (.same rfl) (.cons (.same rfl) (LeH.rest)))) (.cons (.one (.same rfl)) (.cons (.one (.same rfl)) (.cons (.one (.same rfl)) (.cons (.one (.same rfl)) (.nil))))) rfl rfl⟩
           ·replace q981 := if_f c1091 q981
            refine Tri.run (G := gm_wal_Put) tyOk mixed ?_
            conv => whnf
            refine Tri.run (G := gm_wal_Put) tyOk mixed ?_
            conv => whnf
            cases q981
            exact Or.inl ⟨_, rfl, rfl, weak_fin _ rfl rfl rfl (.cons (.gone) (.cons (.same rfl) (.cons (.same rfl) (LeH.rest)))) (.cons (.one (.same rfl)) (.cons (.one (.same rfl)) (.cons (.one (.same rfl)) (.cons (.one (.same rfl)) (.nil))))) rfl rfl⟩
        ·rintro ex S' (⟨v982, rfl, rfl, w1092⟩ | ⟨v983, rfl, rfl, w1092⟩)
         ·dsimp only at q730
          conv => whnf
          refine Tri.weak w1092 ?_
          refine Tri.seqK ?_
          refine Tri.seqK ?_
          refine Tri.run (G := gm_wal_Put) tyOk mixed ?_
          conv => whnf
          refine Tri.run (G := gm_wal_Put) tyOk mixed ?_
          conv => whnf
          cases q730
          exact Or.inr (⟨_, rfl, rfl, weak_fin _ rfl rfl rfl (.cons (.same rfl) (.cons (.same rfl) (LeH.rest))) (.cons (.one (.same rfl)) (.cons (.one (.same rfl)) (.cons (.one (.same rfl)) (.nil)))) rfl rfl⟩)
         ·dsimp only at q730
          conv => whnf
          cases q730
          exact Or.inl ⟨_, rfl, rfl, Weak.trans w1092 (weak_fin _ rfl rfl rfl (.cons (.same rfl) (.cons (.same rfl) (LeH.rest))) (.cons (.one (.same rfl)) (.cons (.one (.same rfl)) (.cons (.one (.same rfl)) (.cons (.one (.same rfl)) (.nil))))) rfl rfl)⟩
      ·replace q730 := if_f c741 q730
       refine Tri.run (G := gm_wal_Put) tyOk mixed ?_
       conv => whnf
       cases q730
       exact Or.inl ⟨_, rfl, rfl, weak_fin _ rfl rfl rfl (.cons (.same rfl) (.cons (.same rfl) (LeH.rest))) (.cons (.one (.same rfl)) (.cons (.one (.same rfl)) (.cons (.one (.same rfl)) (.cons (.one (.same rfl)) (.nil))))) rfl rfl⟩
     ·conv => whnf
      trivial
    ·conv => whnf
     trivial
   ·rintro ex S' (⟨v731, rfl, rfl, w1093⟩ | ⟨v732, rfl, rfl, w1093⟩)
    ·dsimp only at h
     conv => whnf
     refine Tri.weak w1093 ?_
     refine Tri.seqK ?_
     refine Tri.run (G := gm_wal_Put) tyOk mixed ?_
     conv => whnf
     replace h := bind_some h
     obtain ⟨y1110, q1126, h⟩ := h
     replace h := bind_some h
     obtain ⟨y1112, q1127, h⟩ := h
     replace h := bind_some h
     obtain ⟨y1114, q1128, h⟩ := h
     refine Draw.many 10 (.take 1 (.take 3 (.alt 0 (.alt 2 (.alt 4 (.alt 5 (.take 6 (.take 7 (.take 8 (.alt 9 (.fin) (.nil))))) (.nil)) (.nil)) (.nil)) (.alt 2 (.alt 0 (.alt 4 (.alt 5 (.take 6 (.take 7 (.take 8 (.alt 9 (.fin) (.nil))))) (.nil)) (.nil)) (.alt 4 (.alt 0 (.alt 5 (.take 6 (.take 7 (.take 8 (.alt 9 (.fin) (.nil))))) (.nil)) (.nil)) (.nil))) (.nil))))) [0, 2, 3, 4, 5, 6, 7] (⟨72, 0, ofRegs [(1, .v (.int .i64 v731.1)), (3, .ptr 0 0), (6, .ptr 1 0), (68, .v (.int .i64 y1114.2))], [.var 31 [.sl (List.map encFile y1114.1.Files), .v (.int .i64 y1114.1.Room), .v (.int .i64 y1114.1.Fuse), .v (.bool y1114.1.Off)], .var 31 [.v (.slice none 0 0), .v (.int .i64 0), .v (.int .i64 0), .v (.bool false)]]⟩) (by kernel_rfl) ?_ ?_
     ·conv => whnf
      refine ⟨?_, ?_⟩
      ·conv => whnf
       refine ⟨?_, ?_⟩
       ·conv => whnf
        refine PureP.mono (wal_Name_walk v731.1 y1110 q1126) ?_
        rintro _ rfl
        conv => whnf
        refine ⟨?_, ?_⟩
        ·conv => whnf
         refine PureP.mono (sum_Seal_walk rec y1112 q1127) ?_
         rintro _ rfl
         conv => whnf
         refine ⟨?_, ?_⟩
         ·conv => whnf
          refine PureP.mono (disk_Append_walk ({ Files := v731.2.1, Room := v731.2.2.1, Fuse := v731.2.2.2.1, Off := v731.2.2.2.2 } : Disk) y1110 y1112 y1114 q1128) ?_
          rintro _ rfl
          conv => whnf
          refine ⟨?_, ?_⟩
          ·conv => whnf
           exact weak_fin _ rfl rfl rfl (.cons (.same rfl) (.cons (.same rfl) (LeH.rest))) (.cons (.one (.same rfl)) (.cons (.one (.same rfl)) (.cons (.one (.same rfl)) (.cons (.one (.same rfl)) (.nil))))) rfl rfl
          ·conv => whnf
           trivial
         ·conv => whnf
          trivial
        ·conv => whnf
         trivial
       ·conv => whnf
        trivial
      ·conv => whnf
       refine ⟨?_, ?_⟩
       ·conv => whnf
        refine PureP.mono (wal_Name_walk v731.1 y1110 q1126) ?_
        rintro _ rfl
        conv => whnf
        refine ⟨?_, ?_⟩
        ·conv => whnf
         refine ⟨?_, ?_⟩
         ·conv => whnf
          refine PureP.mono (sum_Seal_walk rec y1112 q1127) ?_
          rintro _ rfl
          conv => whnf
          refine ⟨?_, ?_⟩
          ·conv => whnf
           refine PureP.mono (disk_Append_walk ({ Files := v731.2.1, Room := v731.2.2.1, Fuse := v731.2.2.2.1, Off := v731.2.2.2.2 } : Disk) y1110 y1112 y1114 q1128) ?_
           rintro _ rfl
           conv => whnf
           refine ⟨?_, ?_⟩
           ·conv => whnf
            exact weak_fin _ rfl rfl rfl (.cons (.same rfl) (.cons (.same rfl) (LeH.rest))) (.cons (.one (.same rfl)) (.cons (.one (.same rfl)) (.cons (.one (.same rfl)) (.cons (.one (.same rfl)) (.nil))))) rfl rfl
           ·conv => whnf
            trivial
          ·conv => whnf
           trivial
         ·conv => whnf
          trivial
        ·conv => whnf
         refine ⟨?_, ?_⟩
         ·conv => whnf
          refine PureP.mono (sum_Seal_walk rec y1112 q1127) ?_
          rintro _ rfl
          conv => whnf
          refine ⟨?_, ?_⟩
          ·conv => whnf
           refine ⟨?_, ?_⟩
           ·conv => whnf
            refine PureP.mono (disk_Append_walk ({ Files := v731.2.1, Room := v731.2.2.1, Fuse := v731.2.2.2.1, Off := v731.2.2.2.2 } : Disk) y1110 y1112 y1114 q1128) ?_
            rintro _ rfl
            conv => whnf
            refine ⟨?_, ?_⟩
            ·conv => whnf
             exact weak_fin _ rfl rfl rfl (.cons (.same rfl) (.cons (.same rfl) (LeH.rest))) (.cons (.one (.same rfl)) (.cons (.one (.same rfl)) (.cons (.one (.same rfl)) (.cons (.one (.same rfl)) (.nil))))) rfl rfl
            ·conv => whnf
             trivial
           ·conv => whnf
            trivial
          ·conv => whnf
           trivial
         ·conv => whnf
          trivial
       ·conv => whnf
        trivial
     ·conv => whnf
      refine Tri.seqK ?_
      refine Tri.run (G := gm_wal_Put) tyOk mixed ?_
      conv => whnf
      refine Tri.run (G := gm_wal_Put) tyOk mixed ?_
      conv => whnf
      refine fin_here ?_
      conv => whnf
      cases h
      rfl
    ·dsimp only at h
     conv => whnf
     refine fin_pre w1093 ?_
     conv => whnf
     cases h
     rfl
noncomputable def kv_fails (e : Int) : Option ((Unit) ⊕ (Int) ⊕ (Int)) :=
 if (decide (e = 0)) then
  some (.inl ())
 else
  if (decide (e = 6)) then
   some (.inr (.inl e))
  else
   some (.inr (.inr e))
def gm_kv_fails : Gm := ⟨tys, [], [], []⟩
theorem kv_fails_walk (e : Int) (r : (Unit) ⊕ (Int) ⊕ (Int)) (h : kv_fails e = some r) : PureP Tryz.prog 44 [.v (.int .i64 e)] (fun a => match r with | (.inl r) => a = .v .nilIface | (.inr (.inl r)) => a = .ifc 180 (.agg [.v (.int .i64 r), .ifc 178 (.agg [])]) | (.inr (.inr r)) => a = .ifc 180 (.agg [.v (.int .i64 r), .v .nilIface])) := by
 unfold kv_fails at h
 refine pureW (G := gm_kv_fails) tyOk Tryz.func44 rfl (by kernel_rfl) (by simp [Tryz.f44]) ?_
 refine Tri.seqK ?_
 refine Tri.run (G := gm_kv_fails) tyOk mixed ?_
 conv => whnf
 refine Tri.seqK ?_
 refine Tri.seqK ?_
 refine Tri.run (G := gm_kv_fails) tyOk mixed ?_
 conv => whnf
 refine Tri.block ?_
 refine Tri.seqK ?_
 refine Tri.run (G := gm_kv_fails) tyOk mixed ?_
 conv => whnf
 refine Tri.cond rfl (fun c7 => ?_) (fun c7 => ?_)
 ·replace h := if_t c7 h
  refine Tri.seqK ?_
  refine Tri.run (G := gm_kv_fails) tyOk mixed ?_
  conv => whnf
  refine Tri.run (G := gm_kv_fails) tyOk mixed ?_
  conv => whnf
  refine fin_here ?_
  conv => whnf
  cases h
  exact rfl
 ·replace h := if_f c7 h
  refine Tri.seqK ?_
  refine Tri.run (G := gm_kv_fails) tyOk mixed ?_
  conv => whnf
  refine Tri.cond rfl (fun c8 => ?_) (fun c8 => ?_)
  ·replace h := if_t c8 h
   refine Tri.seqK ?_
   refine Tri.run (G := gm_kv_fails) tyOk mixed ?_
   conv => whnf
   refine Tri.run (G := gm_kv_fails) tyOk mixed ?_
   conv => whnf
   refine fin_here ?_
   conv => whnf
   cases h
   exact rfl
  ·replace h := if_f c8 h
   refine Tri.run (G := gm_kv_fails) tyOk mixed ?_
   conv => whnf
   refine Tri.seqK ?_
   refine Tri.run (G := gm_kv_fails) tyOk mixed ?_
   conv => whnf
   refine Tri.run (G := gm_kv_fails) tyOk mixed ?_
   conv => whnf
   refine fin_here ?_
   conv => whnf
   cases h
   exact rfl
noncomputable def kv_told (x : Store) (x2 : Int) : Option (Store × Int) :=
 some (({ D := x.D, From := x.From, Seg := x.Seg, Run := x.Run, S := x.S, Down := true } : Store), x2)
def gm_kv_told : Gm := ⟨tys, [104], [], []⟩
theorem kv_told_walk (x : Store) (x2 : Int) (r : Store × Int) (h : kv_told x x2 = some r) : PureP Tryz.prog 45 [.agg [.sl (List.map encFile x.D.Files), .v (.int .i64 x.D.Room), .v (.int .i64 x.D.Fuse), .v (.bool x.D.Off), .v (.int .i64 x.From), .v (.int .i64 x.Seg), .v (.int .i64 x.Run), .sl (List.map encPair x.S.Data), .sl (List.map encPair x.S.Toks), .v (.bool x.Down)], .ifc 180 (.agg [.v (.int .i64 x2), .ifc 178 (.agg [])])] (fun a => a = .tup [.agg [.sl (List.map encFile r.1.D.Files), .v (.int .i64 r.1.D.Room), .v (.int .i64 r.1.D.Fuse), .v (.bool r.1.D.Off), .v (.int .i64 r.1.From), .v (.int .i64 r.1.Seg), .v (.int .i64 r.1.Run), .sl (List.map encPair r.1.S.Data), .sl (List.map encPair r.1.S.Toks), .v (.bool r.1.Down)], .v (.int .i64 r.2)]) := by
 unfold kv_told at h
 refine pureW (G := gm_kv_told) tyOk Tryz.func45 rfl (by kernel_rfl) (by simp [Tryz.f45]) ?_
 refine Tri.seqK ?_
 refine Tri.run (G := gm_kv_told) tyOk mixed ?_
 conv => whnf
 refine Tri.seqK ?_
 refine Tri.run (G := gm_kv_told) tyOk mixed ?_
 conv => whnf
 refine Tri.seqK ?_
 refine Tri.seqK ?_
 refine Tri.run (G := gm_kv_told) tyOk mixed ?_
 conv => whnf
 refine CallP.use (as_4 x2 (.v (.int .i64 0)) (.v .nilIface)) [2] rfl rfl rfl rfl rfl rfl rfl rfl rfl ?_
 conv => whnf
 refine Tri.condF rfl ?_
 refine Tri.run (G := gm_kv_told) tyOk mixed ?_
 conv => whnf
 refine Tri.seqK ?_
 refine Tri.cut (fun ex S' => ex = .normal ∧ Weak S' ⟨24, 0, ofRegs [(2, .ptr 0 0), (4, .ptr 1 0), (6, .ptr 2 0)], [.var 38 [.sl (List.map encFile x.D.Files), .v (.int .i64 x.D.Room), .v (.int .i64 x.D.Fuse), .v (.bool x.D.Off), .v (.int .i64 x.From), .v (.int .i64 x.Seg), .v (.int .i64 x.Run), .sl (List.map encPair x.S.Data), .sl (List.map encPair x.S.Toks), .v (.bool true)], .var 38 [.v (.slice none 0 0), .v (.int .i64 0), .v (.int .i64 0), .v (.bool false), .v (.int .i64 0), .v (.int .i64 0), .v (.int .i64 0), .v (.slice none 0 0), .v (.slice none 0 0), .v (.bool false)], .var 180 [.v (.int .i64 x2), .ifc 178 (.agg [])]]⟩) ?_ ?_
 ·refine Tri.run (G := gm_kv_told) tyOk mixed ?_
  conv => whnf
  refine cond_mk (fun c3 => ?_) (fun c3 => ?_)
  ·replace c3 : x.Down = true := c3
   conv => whnf
   exact ⟨rfl, weak_fin _ rfl rfl rfl (.cons (.same rfl) (.cons (.same rfl) (.cons (.same rfl) (LeH.rest)))) (.cons (.one (.same rfl)) (.cons (.one (.same rfl)) (.cons (.one (.same rfl)) (.nil)))) rfl rfl⟩
  ·replace c3 : x.Down = false := c3
   conv => whnf
   refine PureP.mono (is_5 x2) ?_
   rintro _ rfl
   conv => whnf
   exact ⟨rfl, weak_fin _ rfl rfl rfl (.cons (.same rfl) (.cons (.same rfl) (.cons (.same rfl) (LeH.rest)))) (.cons (.one (.same rfl)) (.cons (.one (.same rfl)) (.cons (.one (.same rfl)) (.nil)))) rfl rfl⟩
 ·rintro ex S' ⟨rfl, w4⟩
  conv => whnf
  refine Tri.weak w4 ?_
  refine Tri.seqK ?_
  refine Tri.run (G := gm_kv_told) tyOk mixed ?_
  conv => whnf
  refine Draw.one 4 (.take 0 (.take 1 (.take 2 (.alt 3 (.fin) (.nil))))) [1, 3, 4, 5, 6, 7, 8] (by kernel_rfl) ?_
  conv => whnf
  refine ⟨?_, ?_⟩
  ·conv => whnf
   refine Tri.run (G := gm_kv_told) tyOk mixed ?_
   conv => whnf
   refine fin_here ?_
   conv => whnf
   cases h
   rfl
  ·conv => whnf
   trivial
noncomputable def kv_told_2 (x : Store) (x2 : Int) : Option (Store × Int) :=
 some (x, x2)
def gm_kv_told_2 : Gm := ⟨tys, [104], [], []⟩
theorem kv_told_2_walk (x : Store) (x2 : Int) (r : Store × Int) (h : kv_told_2 x x2 = some r) : PureP Tryz.prog 45 [.agg [.sl (List.map encFile x.D.Files), .v (.int .i64 x.D.Room), .v (.int .i64 x.D.Fuse), .v (.bool x.D.Off), .v (.int .i64 x.From), .v (.int .i64 x.Seg), .v (.int .i64 x.Run), .sl (List.map encPair x.S.Data), .sl (List.map encPair x.S.Toks), .v (.bool x.Down)], .ifc 180 (.agg [.v (.int .i64 x2), .v .nilIface])] (fun a => a = .tup [.agg [.sl (List.map encFile r.1.D.Files), .v (.int .i64 r.1.D.Room), .v (.int .i64 r.1.D.Fuse), .v (.bool r.1.D.Off), .v (.int .i64 r.1.From), .v (.int .i64 r.1.Seg), .v (.int .i64 r.1.Run), .sl (List.map encPair r.1.S.Data), .sl (List.map encPair r.1.S.Toks), .v (.bool r.1.Down)], .v (.int .i64 r.2)]) := by
 unfold kv_told_2 at h
 refine pureW (G := gm_kv_told_2) tyOk Tryz.func45 rfl (by kernel_rfl) (by simp [Tryz.f45]) ?_
 refine Tri.seqK ?_
 refine Tri.run (G := gm_kv_told_2) tyOk mixed ?_
 conv => whnf
 refine Tri.seqK ?_
 refine Tri.run (G := gm_kv_told_2) tyOk mixed ?_
 conv => whnf
 refine Tri.seqK ?_
 refine Tri.seqK ?_
 refine Tri.run (G := gm_kv_told_2) tyOk mixed ?_
 conv => whnf
 refine CallP.use (as_6 x2 (.v (.int .i64 0)) (.v .nilIface)) [2] rfl rfl rfl rfl rfl rfl rfl rfl rfl ?_
 conv => whnf
 refine Tri.condF rfl ?_
 refine Tri.run (G := gm_kv_told_2) tyOk mixed ?_
 conv => whnf
 refine Tri.seqK ?_
 refine Tri.cut (fun ex S' => ex = .normal ∧ Weak S' ⟨24, 0, ofRegs [(2, .ptr 0 0), (4, .ptr 1 0), (6, .ptr 2 0)], [.var 38 [.sl (List.map encFile x.D.Files), .v (.int .i64 x.D.Room), .v (.int .i64 x.D.Fuse), .v (.bool x.D.Off), .v (.int .i64 x.From), .v (.int .i64 x.Seg), .v (.int .i64 x.Run), .sl (List.map encPair x.S.Data), .sl (List.map encPair x.S.Toks), .v (.bool x.Down)], .var 38 [.v (.slice none 0 0), .v (.int .i64 0), .v (.int .i64 0), .v (.bool false), .v (.int .i64 0), .v (.int .i64 0), .v (.int .i64 0), .v (.slice none 0 0), .v (.slice none 0 0), .v (.bool false)], .var 180 [.v (.int .i64 x2), .v .nilIface]]⟩) ?_ ?_
 ·refine Tri.run (G := gm_kv_told_2) tyOk mixed ?_
  conv => whnf
  refine cond_mk (fun c4 => ?_) (fun c4 => ?_)
  ·replace c4 : x.Down = true := c4
   conv => whnf
   exact ⟨rfl, weak_fin _ rfl rfl rfl (.cons (.var (.cons (.same rfl) (.cons (.same rfl) (.cons (.same rfl) (.cons (.same rfl) (.cons (.same rfl) (.cons (.same rfl) (.cons (.same rfl) (.cons (.same rfl) (.cons (.same rfl) (.cons (.same (show (.v (.bool true) : AV) = (.v (.bool x.Down) : AV) from by first | (simp [c4]; done) | (simp only [c4, Bool.or_true, Bool.true_or, Bool.false_or, Bool.or_false, Bool.and_true, Bool.true_and, Bool.and_false, Bool.false_and, Bool.not_true, Bool.not_false, if_true, if_false, Bool.false_eq_true]; done) | (exfalso; revert c4; simp +contextual; done))) (.nil)))))))))))) (.cons (.same rfl) (.cons (.same rfl) (LeH.rest)))) (.cons (.one (.same rfl)) (.cons (.one (.same rfl)) (.cons (.one (.same rfl)) (.nil)))) rfl rfl⟩
  ·replace c4 : x.Down = false := c4
   conv => whnf
   refine PureP.mono (is_7 x2) ?_
   rintro _ rfl
   conv => whnf
   exact ⟨rfl, weak_fin _ rfl rfl rfl (.cons (.var (.cons (.same rfl) (.cons (.same rfl) (.cons (.same rfl) (.cons (.same rfl) (.cons (.same rfl) (.cons (.same rfl) (.cons (.same rfl) (.cons (.same rfl) (.cons (.same rfl) (.cons (.same (show (.v (.bool false) : AV) = (.v (.bool x.Down) : AV) from by first | (simp [c4]; done) | (simp only [c4, Bool.or_true, Bool.true_or, Bool.false_or, Bool.or_false, Bool.and_true, Bool.true_and, Bool.and_false, Bool.false_and, Bool.not_true, Bool.not_false, if_true, if_false, Bool.false_eq_true]; done) | (exfalso; revert c4; simp +contextual; done))) (.nil)))))))))))) (.cons (.same rfl) (.cons (.same rfl) (LeH.rest)))) (.cons (.one (.same rfl)) (.cons (.one (.same rfl)) (.cons (.one (.same rfl)) (.nil)))) rfl rfl⟩
 ·rintro ex S' ⟨rfl, w5⟩
  conv => whnf
  refine Tri.weak w5 ?_
  refine Tri.seqK ?_
  refine Tri.run (G := gm_kv_told_2) tyOk mixed ?_
  conv => whnf
  refine Draw.one 4 (.take 0 (.take 1 (.take 2 (.alt 3 (.fin) (.nil))))) [1, 3, 4, 5, 6, 7, 8] (by kernel_rfl) ?_
  conv => whnf
  refine ⟨?_, ?_⟩
  ·conv => whnf
   refine Tri.run (G := gm_kv_told_2) tyOk mixed ?_
   conv => whnf
   refine fin_here ?_
   conv => whnf
   cases h
   rfl
  ·conv => whnf
   trivial
noncomputable def wal_Sync (d : Disk) (seg : Int) : Option (Disk × Int) :=
 (wal_Name seg).bind fun y34 =>
 (disk_Find d y34).bind fun y36 =>
 if (!y36.2) then
  some (d, 0)
 else
  (disk_Sync d y34).bind fun y49 =>
  some (y49.1, y49.2)
def gm_wal_Sync : Gm := ⟨tys, [], [], []⟩
theorem wal_Sync_walk (d : Disk) (seg : Int) (r : Disk × Int) (h : wal_Sync d seg = some r) : PureP Tryz.prog 46 [.agg [.sl (List.map encFile d.Files), .v (.int .i64 d.Room), .v (.int .i64 d.Fuse), .v (.bool d.Off)], .v (.int .i64 seg)] (fun a => a = .tup [.agg [.sl (List.map encFile r.1.Files), .v (.int .i64 r.1.Room), .v (.int .i64 r.1.Fuse), .v (.bool r.1.Off)], .v (.int .i64 r.2)]) := by
 unfold wal_Sync at h
 refine pureW (G := gm_wal_Sync) tyOk Tryz.func46 rfl (by kernel_rfl) (by simp [Tryz.f46]) ?_
 refine Tri.seqK ?_
 refine Tri.run (G := gm_wal_Sync) tyOk mixed ?_
 conv => whnf
 refine Tri.seqK ?_
 refine Tri.seqK ?_
 refine Tri.run (G := gm_wal_Sync) tyOk mixed ?_
 conv => whnf
 replace h := bind_some h
 obtain ⟨y34, q44, h⟩ := h
 replace h := bind_some h
 obtain ⟨y36, q45, h⟩ := h
 refine Draw.many 9 (.take 0 (.take 1 (.alt 2 (.alt 3 (.take 4 (.take 5 (.take 6 (.alt 7 (.alt 8 (.fin) (.nil)) (.nil))))) (.alt 7 (.alt 3 (.take 4 (.take 5 (.take 6 (.alt 8 (.fin) (.nil))))) (.nil)) (.nil))) (.alt 7 (.alt 2 (.alt 3 (.take 4 (.take 5 (.take 6 (.alt 8 (.fin) (.nil))))) (.nil)) (.nil)) (.nil))))) [2, 3, 4, 5, 6, 7] (⟨24, 0, ofRegs [(1, .v (.int .i64 seg)), (2, .ptr 0 0), (4, .ptr 1 0), (14, .v (.bool y36.2))], [.var 31 [.sl (List.map encFile d.Files), .v (.int .i64 d.Room), .v (.int .i64 d.Fuse), .v (.bool d.Off)], .var 31 [.v (.slice none 0 0), .v (.int .i64 0), .v (.int .i64 0), .v (.bool false)]]⟩) (by kernel_rfl) ?_ ?_
 ·conv => whnf
  refine ⟨?_, ?_⟩
  ·conv => whnf
   refine PureP.mono (wal_Name_walk seg y34 q44) ?_
   rintro _ rfl
   conv => whnf
   refine ⟨?_, ?_⟩
   ·conv => whnf
    refine PureP.mono (disk_Find_walk d y34 y36 q45) ?_
    rintro _ rfl
    conv => whnf
    refine ⟨?_, ?_⟩
    ·conv => whnf
     refine ⟨?_, ?_⟩
     ·conv => whnf
      exact weak_fin _ rfl rfl rfl (.cons (.same rfl) (.cons (.same rfl) (LeH.rest))) (.cons (.one (.same rfl)) (.cons (.one (.same rfl)) (.cons (.one (.same rfl)) (.cons (.one (.same rfl)) (.nil))))) rfl rfl
     ·conv => whnf
      trivial
    ·conv => whnf
     trivial
   ·conv => whnf
    refine ⟨?_, ?_⟩
    ·conv => whnf
     refine ⟨?_, ?_⟩
     ·conv => whnf
      refine PureP.mono (disk_Find_walk d y34 y36 q45) ?_
      rintro _ rfl
      conv => whnf
      refine ⟨?_, ?_⟩
      ·conv => whnf
       exact weak_fin _ rfl rfl rfl (.cons (.same rfl) (.cons (.same rfl) (LeH.rest))) (.cons (.one (.same rfl)) (.cons (.one (.same rfl)) (.cons (.one (.same rfl)) (.cons (.one (.same rfl)) (.nil))))) rfl rfl
      ·conv => whnf
       trivial
     ·conv => whnf
      trivial
    ·conv => whnf
     trivial
  ·conv => whnf
   refine ⟨?_, ?_⟩
   ·conv => whnf
    refine ⟨?_, ?_⟩
    ·conv => whnf
     refine PureP.mono (wal_Name_walk seg y34 q44) ?_
     rintro _ rfl
     conv => whnf
     refine ⟨?_, ?_⟩
     ·conv => whnf
      refine PureP.mono (disk_Find_walk d y34 y36 q45) ?_
      rintro _ rfl
      conv => whnf
      refine ⟨?_, ?_⟩
      ·conv => whnf
       exact weak_fin _ rfl rfl rfl (.cons (.same rfl) (.cons (.same rfl) (LeH.rest))) (.cons (.one (.same rfl)) (.cons (.one (.same rfl)) (.cons (.one (.same rfl)) (.cons (.one (.same rfl)) (.nil))))) rfl rfl
      ·conv => whnf
       trivial
     ·conv => whnf
      trivial
    ·conv => whnf
     trivial
   ·conv => whnf
    trivial
 ·conv => whnf
  refine Tri.seqK ?_
  refine Tri.run (G := gm_wal_Sync) tyOk mixed ?_
  conv => whnf
  refine Tri.cond rfl (fun c46 => ?_) (fun c46 => ?_)
  ·replace h := if_t c46 h
   refine Tri.seqK ?_
   refine Tri.run (G := gm_wal_Sync) tyOk mixed ?_
   conv => whnf
   refine Tri.run (G := gm_wal_Sync) tyOk mixed ?_
   conv => whnf
   refine fin_here ?_
   conv => whnf
   cases h
   rfl
  ·replace h := if_f c46 h
   refine Tri.run (G := gm_wal_Sync) tyOk mixed ?_
   conv => whnf
   refine Tri.seqK ?_
   refine Tri.run (G := gm_wal_Sync) tyOk mixed ?_
   conv => whnf
   refine Draw.one 6 (.take 0 (.take 1 (.alt 2 (.alt 3 (.take 4 (.take 5 (.fin))) (.nil)) (.nil)))) [] (by kernel_rfl) ?_
   conv => whnf
   refine ⟨?_, ?_⟩
   ·conv => whnf
    refine PureP.mono (wal_Name_walk seg y34 q44) ?_
    rintro _ rfl
    conv => whnf
    refine ⟨?_, ?_⟩
    ·conv => whnf
     replace h := bind_some h
     obtain ⟨y49, q50, h⟩ := h
     refine PureP.mono (disk_Sync_walk d y34 y49 q50) ?_
     rintro _ rfl
     conv => whnf
     refine Tri.run (G := gm_wal_Sync) tyOk mixed ?_
     conv => whnf
     refine fin_here ?_
     conv => whnf
     cases h
     rfl
    ·conv => whnf
     trivial
   ·conv => whnf
    trivial
noncomputable def kv_Commit (x : Store) (b : Batch) : Option (Store × Int) :=
 (batch_Bytes b).bind fun y1 =>
 if x.Down then
  some (x, 6)
 else
  if (!(decide (y1.2 = 0))) then
   some (x, y1.2)
  else
   (batch_Decided x.S b.Token).bind fun y10 =>
   if y10.2 then
    some (x, 8)
   else
    (wal_Put x.D x.Seg y1.1).bind fun y13 =>
    (kv_fails y13.2.2).bind fun y24 =>
    match y24 with
    | (.inl y26) =>
     (wal_Sync y13.1 y13.2.1).bind fun y29 =>
     (kv_fails y29.2).bind fun y40 =>
     match y40 with
     | (.inl y42) =>
      (batch_Do x.S b).bind fun y45 =>
      some (({ D := y29.1, From := x.From, Seg := y13.2.1, Run := x.Run, S := y45.1, Down := x.Down } : Store), 0)
     | (.inr (.inl y43)) =>
      (kv_told ({ D := y29.1, From := x.From, Seg := y13.2.1, Run := x.Run, S := x.S, Down := x.Down } : Store) y43).bind fun y47 =>
      some (y47.1, y47.2)
     | (.inr (.inr y44)) =>
      (kv_told_2 ({ D := y29.1, From := x.From, Seg := y13.2.1, Run := x.Run, S := x.S, Down := x.Down } : Store) y44).bind fun y49 =>
      some (y49.1, y49.2)
    | (.inr (.inl y27)) =>
     (kv_told ({ D := y13.1, From := x.From, Seg := y13.2.1, Run := x.Run, S := x.S, Down := x.Down } : Store) y27).bind fun y51 =>
     some (y51.1, y51.2)
    | (.inr (.inr y28)) =>
     (kv_told_2 ({ D := y13.1, From := x.From, Seg := y13.2.1, Run := x.Run, S := x.S, Down := x.Down } : Store) y28).bind fun y53 =>
     some (y53.1, y53.2)
def gm_kv_Commit : Gm := ⟨tys, [], [], []⟩
theorem kv_Commit_walk (x : Store) (b : Batch) (r : Store × Int) (h : kv_Commit x b = some r) : PureP Tryz.prog 13 [.agg [.sl (List.map encFile x.D.Files), .v (.int .i64 x.D.Room), .v (.int .i64 x.D.Fuse), .v (.bool x.D.Off), .v (.int .i64 x.From), .v (.int .i64 x.Seg), .v (.int .i64 x.Run), .sl (List.map encPair x.S.Data), .sl (List.map encPair x.S.Toks), .v (.bool x.Down)], .agg [.v (.int .i64 b.Kind), .v (.string (bs b.Token)), .sl (List.map encWrite b.Writes)]] (fun a => a = .tup [.agg [.sl (List.map encFile r.1.D.Files), .v (.int .i64 r.1.D.Room), .v (.int .i64 r.1.D.Fuse), .v (.bool r.1.D.Off), .v (.int .i64 r.1.From), .v (.int .i64 r.1.Seg), .v (.int .i64 r.1.Run), .sl (List.map encPair r.1.S.Data), .sl (List.map encPair r.1.S.Toks), .v (.bool r.1.Down)], .v (.int .i64 r.2)]) := by
 unfold kv_Commit at h
 refine pureW (G := gm_kv_Commit) tyOk Tryz.func13 rfl (by kernel_rfl) (by simp [Tryz.f13]) ?_
 refine Tri.seqK ?_
 refine Tri.run (G := gm_kv_Commit) tyOk mixed ?_
 conv => whnf
 refine Tri.seqK ?_
 refine Tri.run (G := gm_kv_Commit) tyOk mixed ?_
 conv => whnf
 replace h := bind_some h
 obtain ⟨y1, q2, h⟩ := h
 refine PureP.mono (batch_Bytes_walk b y1 q2) ?_
 rintro _ rfl
 conv => whnf
 refine Tri.seqK ?_
 refine Tri.block ?_
 refine Tri.seqK ?_
 refine Tri.run (G := gm_kv_Commit) tyOk mixed ?_
 conv => whnf
 refine Tri.cond rfl (fun c5 => ?_) (fun c5 => ?_)
 ·replace h := if_t c5 h
  refine Tri.seqK ?_
  refine Tri.run (G := gm_kv_Commit) tyOk mixed ?_
  conv => whnf
  refine Tri.run (G := gm_kv_Commit) tyOk mixed ?_
  conv => whnf
  refine fin_here ?_
  conv => whnf
  cases h
  rfl
 ·replace h := if_f c5 h
  refine Tri.seqK ?_
  refine Tri.run (G := gm_kv_Commit) tyOk mixed ?_
  conv => whnf
  refine Tri.cond rfl (fun c6 => ?_) (fun c6 => ?_)
  ·replace h := if_t c6 h
   refine Tri.seqK ?_
   refine Tri.run (G := gm_kv_Commit) tyOk mixed ?_
   conv => whnf
   refine Tri.run (G := gm_kv_Commit) tyOk mixed ?_
   conv => whnf
   refine fin_here ?_
   conv => whnf
   cases h
   rfl
  ·replace h := if_f c6 h
   refine Tri.run (G := gm_kv_Commit) tyOk mixed ?_
   conv => whnf
   refine Tri.seqK ?_
   refine Tri.seqK ?_
   refine Tri.run (G := gm_kv_Commit) tyOk mixed ?_
   conv => whnf
   replace h := bind_some h
   obtain ⟨y10, q11, h⟩ := h
   refine PureP.mono (batch_Decided_walk x.S b.Token y10 q11) ?_
   rintro _ rfl
   conv => whnf
   refine Tri.seqK ?_
   refine Tri.run (G := gm_kv_Commit) tyOk mixed ?_
   conv => whnf
   refine Tri.cond rfl (fun c12 => ?_) (fun c12 => ?_)
   ·replace h := if_t c12 h
    refine Tri.seqK ?_
    refine Tri.run (G := gm_kv_Commit) tyOk mixed ?_
    conv => whnf
    refine Tri.run (G := gm_kv_Commit) tyOk mixed ?_
    conv => whnf
    refine fin_here ?_
    conv => whnf
    cases h
    rfl
   ·replace h := if_f c12 h
    refine Tri.run (G := gm_kv_Commit) tyOk mixed ?_
    conv => whnf
    refine Tri.seqK ?_
    refine Tri.run (G := gm_kv_Commit) tyOk mixed ?_
    conv => whnf
    replace h := bind_some h
    obtain ⟨y13, q14, h⟩ := h
    refine PureP.mono (wal_Put_walk x.D x.Seg y1.1 y13 q14) ?_
    rintro _ rfl
    conv => whnf
    refine Tri.seqK ?_
    refine Tri.run (G := gm_kv_Commit) tyOk mixed ?_
    conv => whnf
    refine Tri.seqK ?_
    refine Tri.seqK ?_
    refine Tri.run (G := gm_kv_Commit) tyOk mixed ?_
    conv => whnf
    replace h := bind_some h
    obtain ⟨y24, q25, h⟩ := h
    refine PureP.mono (kv_fails_walk y13.2.2 y24 q25) ?_
    rcases y24 with y26 | y27 | y28
    ·dsimp only at h
     rintro _ rfl
     conv => whnf
     refine Tri.seqK ?_
     refine Tri.run (G := gm_kv_Commit) tyOk mixed ?_
     conv => whnf
     refine Tri.condF rfl ?_
     refine Tri.run (G := gm_kv_Commit) tyOk mixed ?_
     conv => whnf
     refine Tri.seqK ?_
     refine Tri.run (G := gm_kv_Commit) tyOk mixed ?_
     conv => whnf
     replace h := bind_some h
     obtain ⟨y29, q30, h⟩ := h
     refine PureP.mono (wal_Sync_walk y13.1 y13.2.1 y29 q30) ?_
     rintro _ rfl
     conv => whnf
     refine Tri.seqK ?_
     refine Tri.seqK ?_
     refine Tri.run (G := gm_kv_Commit) tyOk mixed ?_
     conv => whnf
     replace h := bind_some h
     obtain ⟨y40, q41, h⟩ := h
     refine PureP.mono (kv_fails_walk y29.2 y40 q41) ?_
     rcases y40 with y42 | y43 | y44
     ·dsimp only at h
      rintro _ rfl
      conv => whnf
      refine Tri.seqK ?_
      refine Tri.run (G := gm_kv_Commit) tyOk mixed ?_
      conv => whnf
      refine Tri.condF rfl ?_
      refine Tri.run (G := gm_kv_Commit) tyOk mixed ?_
      conv => whnf
      refine Tri.seqK ?_
      refine Tri.run (G := gm_kv_Commit) tyOk mixed ?_
      conv => whnf
      replace h := bind_some h
      obtain ⟨y45, q46, h⟩ := h
      refine PureP.mono (batch_Do_walk x.S b y45 q46) ?_
      rintro _ rfl
      conv => whnf
      refine Tri.seqK ?_
      refine Tri.run (G := gm_kv_Commit) tyOk mixed ?_
      conv => whnf
      refine Tri.run (G := gm_kv_Commit) tyOk mixed ?_
      conv => whnf
      refine fin_here ?_
      conv => whnf
      cases h
      rfl
     ·dsimp only at h
      rintro _ rfl
      conv => whnf
      refine Tri.seqK ?_
      refine Tri.run (G := gm_kv_Commit) tyOk mixed ?_
      conv => whnf
      refine Tri.condT rfl ?_
      refine Tri.seqK ?_
      refine Tri.run (G := gm_kv_Commit) tyOk mixed ?_
      conv => whnf
      replace h := bind_some h
      obtain ⟨y47, q48, h⟩ := h
      refine PureP.mono (kv_told_walk ({ D := y29.1, From := x.From, Seg := y13.2.1, Run := x.Run, S := x.S, Down := x.Down } : Store) y43 y47 q48) ?_
      rintro _ rfl
      conv => whnf
      refine Tri.run (G := gm_kv_Commit) tyOk mixed ?_
      conv => whnf
      refine fin_here ?_
      conv => whnf
      cases h
      rfl
     ·dsimp only at h
      rintro _ rfl
      conv => whnf
      refine Tri.seqK ?_
      refine Tri.run (G := gm_kv_Commit) tyOk mixed ?_
      conv => whnf
      refine Tri.condT rfl ?_
      refine Tri.seqK ?_
      refine Tri.run (G := gm_kv_Commit) tyOk mixed ?_
      conv => whnf
      replace h := bind_some h
      obtain ⟨y49, q50, h⟩ := h
      refine PureP.mono (kv_told_2_walk ({ D := y29.1, From := x.From, Seg := y13.2.1, Run := x.Run, S := x.S, Down := x.Down } : Store) y44 y49 q50) ?_
      rintro _ rfl
      conv => whnf
      refine Tri.run (G := gm_kv_Commit) tyOk mixed ?_
      conv => whnf
      refine fin_here ?_
      conv => whnf
      cases h
      rfl
    ·dsimp only at h
     rintro _ rfl
     conv => whnf
     refine Tri.seqK ?_
     refine Tri.run (G := gm_kv_Commit) tyOk mixed ?_
     conv => whnf
     refine Tri.condT rfl ?_
     refine Tri.seqK ?_
     refine Tri.run (G := gm_kv_Commit) tyOk mixed ?_
     conv => whnf
     replace h := bind_some h
     obtain ⟨y51, q52, h⟩ := h
     refine PureP.mono (kv_told_walk ({ D := y13.1, From := x.From, Seg := y13.2.1, Run := x.Run, S := x.S, Down := x.Down } : Store) y27 y51 q52) ?_
     rintro _ rfl
     conv => whnf
     refine Tri.run (G := gm_kv_Commit) tyOk mixed ?_
     conv => whnf
     refine fin_here ?_
     conv => whnf
     cases h
     rfl
    ·dsimp only at h
     rintro _ rfl
     conv => whnf
     refine Tri.seqK ?_
     refine Tri.run (G := gm_kv_Commit) tyOk mixed ?_
     conv => whnf
     refine Tri.condT rfl ?_
     refine Tri.seqK ?_
     refine Tri.run (G := gm_kv_Commit) tyOk mixed ?_
     conv => whnf
     replace h := bind_some h
     obtain ⟨y53, q54, h⟩ := h
     refine PureP.mono (kv_told_2_walk ({ D := y13.1, From := x.From, Seg := y13.2.1, Run := x.Run, S := x.S, Down := x.Down } : Store) y28 y53 q54) ?_
     rintro _ rfl
     conv => whnf
     refine Tri.run (G := gm_kv_Commit) tyOk mixed ?_
     conv => whnf
     refine fin_here ?_
     conv => whnf
     cases h
     rfl
noncomputable def disk_Crash_l2 (d : Disk) (keeps : (List Int)) (a267 : Int) (a268 : Int) (a269 : (List File)) : Option ((Int × Int × (List File)) ⊕ (Int × (List File))) :=
 if (decide (a267 < (d.Files.length : Int))) then
  (ix a269 a267).bind fun x301 =>
  (
   if (decide (a267 < (keeps.length : Int))) then
    (ix keeps a267).bind fun x318 =>
    some (if (x301.Wait.length : Int) < (if x318 < 0 then 0 else x318) then (x301.Wait.length : Int) else (if x318 < 0 then 0 else x318))
   else
    some 0).bind fun (y313 : Int) =>
  need ((0 : Int) ≤ (0 : Int) ∧ 0 ≤ y313 ∧ y313 ≤ (x301.Wait.length : Int)) <|
  need (x301.Safe.length + (cut x301.Wait 0 y313).length ≤ 9223372036854775807) <|
  some (.inl ((IntKind.i64.wrap (a267 + 1)), (IntKind.i64.wrap (a268 + (IntKind.i64.wrap ((x301.Wait.length : Int) - y313)))), (List.set a269 (a267).toNat ({ Name := x301.Name, Safe := (x301.Safe ++ (cut x301.Wait 0 y313)), Wait := [] } : File))))
 else
  some (.inr (a268, a269))
noncomputable def disk_Crash (d : Disk) (keeps : (List Int)) : Option (Disk) :=
 need (d.Files.length * 48 ≤ 140737488355328) <|
 (loop (fun (s272 : Int × Int × (List File)) => disk_Crash_l2 d keeps s272.1 s272.2.1 s272.2.2) ((0 : Int), d.Room, d.Files)).bind fun (y270 : Int × (List File)) =>
 some ({ Files := y270.2, Room := y270.1, Fuse := (-1), Off := false } : Disk)
def gm_disk_Crash : Gm := ⟨tys, [], [(106, 64, 3)], []⟩
theorem disk_Crash_walk (d : Disk) (keeps : (List Int)) (r : Disk) (h : disk_Crash d keeps = some r) : PureP Tryz.prog 48 [.agg [.sl (List.map encFile d.Files), .v (.int .i64 d.Room), .v (.int .i64 d.Fuse), .v (.bool d.Off)], .sl (List.map (encI .i64) keeps)] (fun a => a = .agg [.sl (List.map encFile r.Files), .v (.int .i64 r.Room), .v (.int .i64 r.Fuse), .v (.bool r.Off)]) := by
 unfold disk_Crash at h
 refine pureW (G := gm_disk_Crash) tyOk Tryz.func48 rfl (by kernel_rfl) (by simp [Tryz.f48]) ?_
 refine Tri.seqK ?_
 refine Tri.run (G := gm_disk_Crash) tyOk mixed ?_
 conv => whnf
 refine Tri.seqK ?_
 refine Tri.run (G := gm_disk_Crash) tyOk mixed ?_
 conv => whnf
 replace h := need_some h
 obtain ⟨p1, h⟩ := h
 refine FreshP.mono (clone_106 d.Files p1) ?_
 rintro _ rfl
 conv => whnf
 refine Tri.seqK ?_
 refine Tri.seqK ?_
 refine Tri.run (G := gm_disk_Crash) tyOk mixed ?_
 conv => whnf
 refine ⟨rfl, ?_⟩
 conv => whnf
 refine ⟨⟨(d.Files.length : Int), by simp, ?_⟩⟩
 conv => whnf
 refine Tri.block ?_
 replace h := bind_some h
 obtain ⟨y270, q271, h⟩ := h
 refine Tri.cut (fun ex S' => ex = (.exit 0) ∧ Weak S' ⟨60, 0, ofRegs [(2, .ptr 0 0), (4, .ptr 1 0)], [.var 31 [.row 2 ((List.map encFile y270.2).length), .v (.int .i64 y270.1), .v (.int .i64 d.Fuse), .v (.bool d.Off)], .var 31 [.v (.slice none 0 0), .v (.int .i64 0), .v (.int .i64 0), .v (.bool false)], .row 64 3 (List.map encFile y270.2)]⟩) ?_ ?_
 ·refine Tri.loopF (fun (s272 : Int × Int × (List File)) => (⟨60, 0, ofRegs [(1, .sl (List.map (encI .i64) keeps)), (2, .ptr 0 0), (4, .ptr 1 0), (13, .row 2 ((List.map encFile s272.2.2).length)), (14, .v (.int .i64 (d.Files.length : Int))), (15, .v (.int .i64 s272.1))], [.var 31 [.row 2 ((List.map encFile s272.2.2).length), .v (.int .i64 s272.2.1), .v (.int .i64 d.Fuse), .v (.bool d.Off)], .var 31 [.v (.slice none 0 0), .v (.int .i64 0), .v (.int .i64 0), .v (.bool false)], .row 64 3 (List.map encFile s272.2.2)]⟩ : St)) q271 (weak_fin _ rfl rfl rfl (.cons (.same rfl) (.cons (.same rfl) (.cons (.same rfl) (LeH.rest)))) (.cons (.one (.same rfl)) (.cons (.one (.same rfl)) (.cons (.one (.same rfl)) (.cons (.one (.same rfl)) (.cons (.one (.same rfl)) (.cons (.one (.same rfl)) (.nil))))))) rfl rfl) ?_
  rintro ⟨a267, a268, a269⟩ v273 hv r274
  have hv : disk_Crash_l2 d keeps a267 a268 a269 = some v273 := hv
  unfold disk_Crash_l2 at hv
  dsimp only
  refine Tri.seqK ?_
  refine Tri.run (G := gm_disk_Crash) tyOk mixed ?_
  conv => whnf
  refine Tri.seqK ?_
  refine Tri.cond rfl (fun c276 => ?_) (fun c276 => ?_)
  ·replace hv := if_t c276 hv
   refine Tri.run (G := gm_disk_Crash) tyOk mixed ?_
   conv => whnf
   refine Tri.seqK ?_
   refine Tri.block ?_
   refine Tri.seqK ?_
   refine Tri.run (G := gm_disk_Crash) tyOk mixed ?_
   conv => whnf
   replace hv := bind_some hv
   obtain ⟨x301, q302, hv⟩ := hv
   refine ⟨⟨rfl, (ix_lt q302).1, by have := ix_lt q302; simp only [List.length_map, List.length_set, List.length_cons, List.length_nil] at *; omega⟩, ?_⟩
   conv => whnf
   refine ⟨rfl, ?_⟩
   conv => whnf
   refine ⟨⟨_, map_get encFile (ix_some q302).2, ?_⟩⟩
   conv => whnf
   refine Tri.seqK ?_
   refine Tri.run (G := gm_disk_Crash) tyOk mixed ?_
   conv => whnf
   refine Tri.seqK ?_
   replace hv := bind_some hv
   obtain ⟨y313, q314, hv⟩ := hv
   refine Tri.cut (fun ex S' => ex = .normal ∧ Weak S' ⟨60, 0, ofRegs [(1, .sl (List.map (encI .i64) keeps)), (2, .ptr 0 0), (4, .ptr 1 0), (5, .v (.int .i64 a267)), (6, .ptr 3 0), (7, .v (.int .i64 y313)), (13, .row 2 ((List.map encFile a269).length)), (14, .v (.int .i64 (d.Files.length : Int))), (15, .v (.int .i64 a267))], [.var 31 [.row 2 ((List.map encFile a269).length), .v (.int .i64 a268), .v (.int .i64 d.Fuse), .v (.bool d.Off)], .var 31 [.v (.slice none 0 0), .v (.int .i64 0), .v (.int .i64 0), .v (.bool false)], .row 64 3 (List.map encFile a269), .var 64 [.v (.string (bs x301.Name)), .v (.string (bs x301.Safe)), .v (.string (bs x301.Wait))]]⟩) ?_ ?_
   ·refine Tri.seqK ?_
    refine Tri.run (G := gm_disk_Crash) tyOk mixed ?_
    conv => whnf
    refine ⟨⟨(keeps.length : Int), (len_map _ _).symm, ?_⟩⟩
    conv => whnf
    refine Tri.cond rfl (fun c315 => ?_) (fun c315 => ?_)
    ·replace q314 := if_t c315 q314
     refine Tri.run (G := gm_disk_Crash) tyOk mixed ?_
     conv => whnf
     refine Draw.one 10 (.take 0 (.take 1 (.take 2 (.take 3 (.take 4 (.take 5 (.take 6 (.take 7 (.take 8 (.take 9 (.fin))))))))))) [] (by kernel_rfl) ?_
     conv => whnf
     replace q314 := bind_some q314
     obtain ⟨x318, q319, q314⟩ := q314
     refine ⟨(ix_some q319).1, ?_⟩
     conv => whnf
     refine ⟨⟨_, map_get (encI .i64) (ix_some q319).2, ?_⟩⟩
     conv => whnf
     refine ⟨rfl, ?_⟩
     conv => whnf
     refine ⟨⟨(x301.Wait.length : Int), rfl, ?_⟩⟩
     conv => whnf
     cases q314
     exact ⟨rfl, weak_fin _ rfl rfl rfl (.cons (.same rfl) (.cons (.same rfl) (.cons (.same rfl) (.cons (.same rfl) (LeH.rest))))) (.cons (.one (.same rfl)) (.cons (.one (.same rfl)) (.cons (.one (.same rfl)) (.cons (.one (.same rfl)) (.cons (.one (.same rfl)) (.cons (.one (.same rfl)) (.cons (.one (.same rfl)) (.cons (.one (.same rfl)) (.cons (.one (.same rfl)) (.nil)))))))))) rfl rfl⟩
    ·replace q314 := if_f c315 q314
     refine Tri.run (G := gm_disk_Crash) tyOk mixed ?_
     conv => whnf
     cases q314
     exact ⟨rfl, weak_fin _ rfl rfl rfl (.cons (.same rfl) (.cons (.same rfl) (.cons (.same rfl) (.cons (.same rfl) (LeH.rest))))) (.cons (.one (.same rfl)) (.cons (.one (.same rfl)) (.cons (.one (.same rfl)) (.cons (.one (.same rfl)) (.cons (.one (.same rfl)) (.cons (.one (.same rfl)) (.cons (.one (.same rfl)) (.cons (.one (.same rfl)) (.cons (.one (.same rfl)) (.nil)))))))))) rfl rfl⟩
   ·rintro ex S' ⟨rfl, w320⟩
    conv => whnf
    refine Tri.weak w320 ?_
    refine Tri.seqK ?_
    refine Tri.run (G := gm_disk_Crash) tyOk mixed ?_
    conv => whnf
    refine ⟨⟨(x301.Wait.length : Int), rfl, ?_⟩⟩
    conv => whnf
    refine Tri.run (G := gm_disk_Crash) tyOk mixed ?_
    conv => whnf
    refine Draw.one 14 (.take 0 (.take 1 (.take 2 (.take 3 (.take 4 (.take 5 (.take 6 (.take 7 (.take 8 (.take 9 (.take 10 (.take 11 (.take 12 (.take 13 (.fin))))))))))))))) [] (by kernel_rfl) ?_
    conv => whnf
    replace hv := need_some hv
    obtain ⟨p323, hv⟩ := hv
    refine ⟨p323, ?_⟩
    conv => whnf
    refine ⟨⟨bs (cut x301.Wait 0 y313), bs_cut _ _ _, ?_⟩⟩
    conv => whnf
    replace hv := need_some hv
    obtain ⟨p324, hv⟩ := hv
    refine ⟨p324, ?_⟩
    conv => whnf
    refine ⟨⟨bs (x301.Safe ++ (cut x301.Wait 0 y313)), bs_append _ _, ?_⟩⟩
    conv => whnf
    refine ⟨⟨rfl, (ix_lt q302).1, by have := ix_lt q302; simp only [List.length_map, List.length_set, List.length_cons, List.length_nil] at *; omega⟩, ?_⟩
    conv => whnf
    refine ⟨rfl, ?_⟩
    conv => whnf
    refine ⟨⟨_, map_get encFile (ix_some q302).2, ?_⟩⟩
    conv => whnf
    refine ⟨Nat.le_of_ble_eq_true rfl, ?_⟩
    conv => whnf
    refine ⟨⟨List.map encFile (List.set a269 (a267).toNat ({ Name := x301.Name, Safe := (x301.Safe ++ (cut x301.Wait 0 y313)), Wait := [] } : File)), map_set encFile _ _ _ rfl, ?_⟩⟩
    conv => whnf
    refine Tri.run (G := gm_disk_Crash) tyOk mixed ?_
    conv => whnf
    cases hv
    exact ⟨_, rfl, weak_fin _ rfl rfl rfl (.cons (.var (.cons (.same (show (.row 2 ((List.map encFile a269).length) : AV) = (.row 2 ((List.map encFile (List.set a269 (a267).toNat ({ Name := x301.Name, Safe := (x301.Safe ++ (cut x301.Wait 0 y313)), Wait := [] } : File))).length) : AV) from congrArg (AV.row 2) (by simp))) (.cons (.same rfl) (.cons (.same rfl) (.cons (.same rfl) (.nil)))))) (.cons (.same rfl) (.cons (.same rfl) (LeH.rest)))) (.cons (.one (.same rfl)) (.cons (.one (.same rfl)) (.cons (.one (.same rfl)) (.cons (.one (.same (show (.row 2 ((List.map encFile a269).length) : AV) = (.row 2 ((List.map encFile (List.set a269 (a267).toNat ({ Name := x301.Name, Safe := (x301.Safe ++ (cut x301.Wait 0 y313)), Wait := [] } : File))).length) : AV) from congrArg (AV.row 2) (by simp)))) (.cons (.one (.same rfl)) (.cons (.one (.same rfl)) (.nil))))))) rfl rfl⟩
  ·replace hv := if_f c276 hv
   refine Tri.run (G := gm_disk_Crash) tyOk mixed ?_
   conv => whnf
   cases hv
   obtain rfl := r274 _ rfl
   exact ⟨rfl, weak_fin _ rfl rfl rfl (.cons (.same rfl) (.cons (.same rfl) (.cons (.same rfl) (LeH.rest)))) (.cons (.one (.same rfl)) (.cons (.one (.same rfl)) (.nil))) rfl rfl⟩
 ·rintro ex S' ⟨rfl, w325⟩
  conv => whnf
  refine Tri.weak w325 ?_
  refine Tri.seqK ?_
  refine Tri.run (G := gm_disk_Crash) tyOk mixed ?_
  conv => whnf
  refine Tri.seqK ?_
  refine Tri.run (G := gm_disk_Crash) tyOk mixed ?_
  conv => whnf
  refine Tri.run (G := gm_disk_Crash) tyOk mixed ?_
  conv => whnf
  refine fin_here ?_
  conv => whnf
  refine ⟨rfl, ?_⟩
  conv => whnf
  cases h
  rfl
noncomputable def kv_Crash (x : Store) (keeps : (List Int)) : Option (Store × Int) :=
 (disk_Crash x.D keeps).bind fun y1 =>
 (kv_Open y1).bind fun y3 =>
 some (y3.1, y3.2)
def gm_kv_Crash : Gm := ⟨tys, [], [], []⟩
theorem kv_Crash_walk (x : Store) (keeps : (List Int)) (r : Store × Int) (h : kv_Crash x keeps = some r) : PureP Tryz.prog 15 [.agg [.sl (List.map encFile x.D.Files), .v (.int .i64 x.D.Room), .v (.int .i64 x.D.Fuse), .v (.bool x.D.Off), .v (.int .i64 x.From), .v (.int .i64 x.Seg), .v (.int .i64 x.Run), .sl (List.map encPair x.S.Data), .sl (List.map encPair x.S.Toks), .v (.bool x.Down)], .sl (List.map (encI .i64) keeps)] (fun a => a = .tup [.agg [.sl (List.map encFile r.1.D.Files), .v (.int .i64 r.1.D.Room), .v (.int .i64 r.1.D.Fuse), .v (.bool r.1.D.Off), .v (.int .i64 r.1.From), .v (.int .i64 r.1.Seg), .v (.int .i64 r.1.Run), .sl (List.map encPair r.1.S.Data), .sl (List.map encPair r.1.S.Toks), .v (.bool r.1.Down)], .v (.int .i64 r.2)]) := by
 unfold kv_Crash at h
 refine pureW (G := gm_kv_Crash) tyOk Tryz.func15 rfl (by kernel_rfl) (by simp [Tryz.f15]) ?_
 refine Tri.seqK ?_
 refine Tri.run (G := gm_kv_Crash) tyOk mixed ?_
 conv => whnf
 refine Tri.seqK ?_
 refine Tri.run (G := gm_kv_Crash) tyOk mixed ?_
 conv => whnf
 replace h := bind_some h
 obtain ⟨y1, q2, h⟩ := h
 refine PureP.mono (disk_Crash_walk x.D keeps y1 q2) ?_
 rintro _ rfl
 conv => whnf
 replace h := bind_some h
 obtain ⟨y3, q4, h⟩ := h
 refine PureP.mono (kv_Open_walk y1 y3 q4) ?_
 rintro _ rfl
 conv => whnf
 refine Tri.run (G := gm_kv_Crash) tyOk mixed ?_
 conv => whnf
 refine fin_here ?_
 conv => whnf
 cases h
 rfl
noncomputable def law08_shown  : Option (Bool) :=
 (ref03_New 1000).bind fun y1 =>
 (kv_Open y1.1).bind fun y3 =>
 (kv_Commit y3.1 ({ Kind := 1, Token := [116], Writes := [({ Key := [97], Val := [49], Del := false } : Write)] } : Batch)).bind fun y5 =>
 (kv_Crash y5.1 []).bind fun y7 =>
 if (decide (y3.2 = 0)) then
  if (decide (y5.2 = 0)) then
   if (decide (y7.2 = 0)) then
    if (decide ((y7.1.S.Data.length : Int) = 1)) then
     (ix y7.1.S.Data 0).bind fun x13 =>
     if (decide (x13.Val = [49])) then
      some (decide ((y7.1.S.Toks.length : Int) = 1))
     else
      some false
    else
     some false
   else
    some false
  else
   some false
 else
  some false
def gm_law08_shown : Gm := ⟨tys, [], [], []⟩
theorem law08_shown_walk  (r : Bool) (h : law08_shown = some r) : PureP Tryz.prog 10 [] (fun a => a = .v (.bool r)) := by
 unfold law08_shown at h
 refine pureW (G := gm_law08_shown) tyOk Tryz.func10 rfl (by kernel_rfl) (by simp [Tryz.f10]) ?_
 refine Tri.seqK ?_
 refine Tri.run (G := gm_law08_shown) tyOk mixed ?_
 conv => whnf
 refine Tri.seqK ?_
 refine Tri.run (G := gm_law08_shown) tyOk mixed ?_
 conv => whnf
 replace h := bind_some h
 obtain ⟨y1, q2, h⟩ := h
 refine PureP.mono (ref03_New_walk 1000 y1 q2) ?_
 rintro _ rfl
 conv => whnf
 refine Tri.seqK ?_
 refine Tri.run (G := gm_law08_shown) tyOk mixed ?_
 conv => whnf
 replace h := bind_some h
 obtain ⟨y3, q4, h⟩ := h
 refine PureP.mono (kv_Open_walk y1.1 y3 q4) ?_
 rintro _ rfl
 conv => whnf
 refine Tri.seqK ?_
 refine Tri.run (G := gm_law08_shown) tyOk mixed ?_
 conv => whnf
 refine ⟨⟨List.map encWrite [({ Key := [97], Val := [49], Del := false } : Write)], rfl, ?_⟩⟩
 conv => whnf
 refine ⟨rfl, ?_⟩
 conv => whnf
 replace h := bind_some h
 obtain ⟨y5, q6, h⟩ := h
 refine PureP.mono (kv_Commit_walk y3.1 ({ Kind := 1, Token := [116], Writes := [({ Key := [97], Val := [49], Del := false } : Write)] } : Batch) y5 q6) ?_
 rintro _ rfl
 conv => whnf
 refine Tri.seqK ?_
 refine Tri.run (G := gm_law08_shown) tyOk mixed ?_
 conv => whnf
 replace h := bind_some h
 obtain ⟨y7, q8, h⟩ := h
 refine PureP.mono (kv_Crash_walk y5.1 [] y7 q8) ?_
 rintro _ rfl
 conv => whnf
 refine Tri.seqK ?_
 refine Tri.run (G := gm_law08_shown) tyOk mixed ?_
 conv => whnf
 refine cond_mk (fun c9 => ?_) (fun c9 => ?_)
 ·replace h := if_t c9 h
  conv => whnf
  refine cond_mk (fun c10 => ?_) (fun c10 => ?_)
  ·replace h := if_t c10 h
   conv => whnf
   refine cond_mk (fun c11 => ?_) (fun c11 => ?_)
   ·replace h := if_t c11 h
    conv => whnf
    refine ⟨⟨(y7.1.S.Data.length : Int), (len_map _ _).symm, ?_⟩⟩
    conv => whnf
    refine cond_mk (fun c12 => ?_) (fun c12 => ?_)
    ·replace h := if_t c12 h
     conv => whnf
     replace h := bind_some h
     obtain ⟨x13, q14, h⟩ := h
     refine ⟨(ix_some q14).1, ?_⟩
     conv => whnf
     refine ⟨⟨_, map_get encPair (ix_some q14).2, ?_⟩⟩
     conv => whnf
     refine ⟨rfl, ?_⟩
     conv => whnf
     refine ⟨⟨(decide (x13.Val = [49])), bs_eq _ _, ?_⟩⟩
     conv => whnf
     refine cond_mk (fun c15 => ?_) (fun c15 => ?_)
     ·replace h := if_t c15 h
      conv => whnf
      refine ⟨⟨(y7.1.S.Toks.length : Int), (len_map _ _).symm, ?_⟩⟩
      conv => whnf
      refine Tri.run (G := gm_law08_shown) tyOk mixed ?_
      conv => whnf
      refine fin_here ?_
      conv => whnf
      cases h
      rfl
     ·replace h := if_f c15 h
      conv => whnf
      refine Tri.run (G := gm_law08_shown) tyOk mixed ?_
      conv => whnf
      refine fin_here ?_
      conv => whnf
      cases h
      rfl
    ·replace h := if_f c12 h
     conv => whnf
     refine Tri.run (G := gm_law08_shown) tyOk mixed ?_
     conv => whnf
     refine fin_here ?_
     conv => whnf
     cases h
     rfl
   ·replace h := if_f c11 h
    conv => whnf
    refine Tri.run (G := gm_law08_shown) tyOk mixed ?_
    conv => whnf
    refine fin_here ?_
    conv => whnf
    cases h
    rfl
  ·replace h := if_f c10 h
   conv => whnf
   refine Tri.run (G := gm_law08_shown) tyOk mixed ?_
   conv => whnf
   refine fin_here ?_
   conv => whnf
   cases h
   rfl
 ·replace h := if_f c9 h
  conv => whnf
  refine Tri.run (G := gm_law08_shown) tyOk mixed ?_
  conv => whnf
  refine fin_here ?_
  conv => whnf
  cases h
  rfl
noncomputable def ref05_Same_l2 (a : (List Pair)) (b : (List Pair)) (a114 : Int) : Option ((Int) ⊕ ((Unit) ⊕ (Unit))) :=
 if (decide (a114 < (a.length : Int))) then
  (ix a a114).bind fun x137 =>
  (ix b a114).bind fun x139 =>
  if (!(decide (x137 = x139))) then
   some (.inr (.inl ()))
  else
   some (.inl (IntKind.i64.wrap (a114 + 1)))
 else
  some (.inr (.inr ()))
noncomputable def ref05_Same (a : (List Pair)) (b : (List Pair)) : Option (Bool) :=
 if (!(decide ((a.length : Int) = (b.length : Int)))) then
  some false
 else
  (loop (fun (s119 : Int) => ref05_Same_l2 a b s119) (0 : Int)).bind fun (y115 : (Unit) ⊕ (Unit)) =>
  match y115 with
  | (.inl v117) =>
   some false
  | (.inr v118) =>
   some true
def gm_ref05_Same : Gm := ⟨tys, [], [], []⟩
theorem ref05_Same_walk (a : (List Pair)) (b : (List Pair)) (r : Bool) (h : ref05_Same a b = some r) : PureP Tryz.prog 50 [.sl (List.map encPair a), .sl (List.map encPair b)] (fun a => a = .v (.bool r)) := by
 unfold ref05_Same at h
 refine pureW (G := gm_ref05_Same) tyOk Tryz.func50 rfl (by kernel_rfl) (by simp [Tryz.f50]) ?_
 refine Tri.seqK ?_
 refine Tri.run (G := gm_ref05_Same) tyOk mixed ?_
 conv => whnf
 refine Tri.seqK ?_
 refine Tri.seqK ?_
 refine Tri.run (G := gm_ref05_Same) tyOk mixed ?_
 conv => whnf
 refine ⟨⟨(a.length : Int), (len_map _ _).symm, ?_⟩⟩
 conv => whnf
 refine ⟨⟨(b.length : Int), (len_map _ _).symm, ?_⟩⟩
 conv => whnf
 refine Tri.cond rfl (fun c2 => ?_) (fun c2 => ?_)
 ·replace h := if_t c2 h
  refine Tri.seqK ?_
  refine Tri.run (G := gm_ref05_Same) tyOk mixed ?_
  conv => whnf
  refine Tri.run (G := gm_ref05_Same) tyOk mixed ?_
  conv => whnf
  refine fin_here ?_
  conv => whnf
  cases h
  rfl
 ·replace h := if_f c2 h
  refine Tri.run (G := gm_ref05_Same) tyOk mixed ?_
  conv => whnf
  refine Tri.seqK ?_
  refine Tri.seqK ?_
  refine Tri.run (G := gm_ref05_Same) tyOk mixed ?_
  conv => whnf
  refine Tri.block ?_
  replace h := bind_some h
  obtain ⟨y115, q116, h⟩ := h
  refine Tri.cut (fun ex S' => (∃ v117 : Unit, y115 = (.inl v117) ∧ ex = .ret ∧ Weak S' ⟨26, 0, ofRegs [(4, .v (.bool false))], []⟩) ∨ (∃ v118 : Unit, y115 = (.inr v118) ∧ ex = (.exit 0) ∧ Weak S' ⟨26, 0, ofRegs [], []⟩)) ?_ ?_
  ·refine Tri.loopF (fun (s119 : Int) => (⟨26, 0, ofRegs [(0, .sl (List.map encPair a)), (1, .sl (List.map encPair b)), (5, .v (.int .i64 s119))], []⟩ : St)) q116 (weak_fin _ rfl rfl rfl (LeH.rest) (.cons (.one (.same rfl)) (.cons (.one (.same rfl)) (.cons (.one (.same rfl)) (.nil)))) rfl rfl) ?_
   rintro a114 v120 hv r121
   have hv : ref05_Same_l2 a b a114 = some v120 := hv
   unfold ref05_Same_l2 at hv
   refine Tri.seqK ?_
   refine Tri.seqK ?_
   refine Tri.run (G := gm_ref05_Same) tyOk mixed ?_
   conv => whnf
   refine ⟨⟨(a.length : Int), (len_map _ _).symm, ?_⟩⟩
   conv => whnf
   refine Tri.cond rfl (fun c123 => ?_) (fun c123 => ?_)
   ·replace hv := if_t c123 hv
    refine Tri.run (G := gm_ref05_Same) tyOk mixed ?_
    conv => whnf
    refine Tri.seqK ?_
    refine Tri.block ?_
    refine Tri.seqK ?_
    refine Tri.run (G := gm_ref05_Same) tyOk mixed ?_
    conv => whnf
    refine Draw.one 9 (.take 0 (.take 1 (.take 2 (.take 3 (.take 4 (.take 5 (.take 6 (.take 7 (.take 8 (.fin)))))))))) [] (by kernel_rfl) ?_
    conv => whnf
    replace hv := bind_some hv
    obtain ⟨x137, q138, hv⟩ := hv
    refine ⟨(ix_some q138).1, ?_⟩
    conv => whnf
    refine ⟨⟨_, map_get encPair (ix_some q138).2, ?_⟩⟩
    conv => whnf
    refine ⟨rfl, ?_⟩
    conv => whnf
    replace hv := bind_some hv
    obtain ⟨x139, q140, hv⟩ := hv
    refine ⟨(ix_some q140).1, ?_⟩
    conv => whnf
    refine ⟨⟨_, map_get encPair (ix_some q140).2, ?_⟩⟩
    conv => whnf
    refine ⟨rfl, ?_⟩
    conv => whnf
    refine ⟨⟨(!(decide (x137 = x139))), congrArg Bool.not (eq_Pair _ _), ?_⟩⟩
    conv => whnf
    refine Tri.cond rfl (fun c141 => ?_) (fun c141 => ?_)
    ·replace hv := if_t c141 hv
     refine Tri.seqK ?_
     refine Tri.run (G := gm_ref05_Same) tyOk mixed ?_
     conv => whnf
     refine Tri.run (G := gm_ref05_Same) tyOk mixed ?_
     conv => whnf
     cases hv
     obtain rfl := r121 _ rfl
     exact Or.inl ⟨_, rfl, rfl, weak_fin _ rfl rfl rfl (LeH.rest) (.cons (.one (.same rfl)) (.nil)) rfl rfl⟩
    ·replace hv := if_f c141 hv
     refine Tri.run (G := gm_ref05_Same) tyOk mixed ?_
     conv => whnf
     refine Tri.run (G := gm_ref05_Same) tyOk mixed ?_
     conv => whnf
     cases hv
     exact ⟨_, rfl, weak_fin _ rfl rfl rfl (LeH.rest) (.cons (.one (.same rfl)) (.cons (.one (.same rfl)) (.cons (.one (.same rfl)) (.nil)))) rfl rfl⟩
   ·replace hv := if_f c123 hv
    refine Tri.run (G := gm_ref05_Same) tyOk mixed ?_
    conv => whnf
    cases hv
    obtain rfl := r121 _ rfl
    exact Or.inr (⟨_, rfl, rfl, weak_fin _ rfl rfl rfl (LeH.rest) (.nil) rfl rfl⟩)
  ·rintro ex S' (⟨v117, rfl, rfl, w142⟩ | ⟨v118, rfl, rfl, w142⟩)
   ·dsimp only at h
    conv => whnf
    refine fin_pre w142 ?_
    conv => whnf
    cases h
    rfl
   ·dsimp only at h
    conv => whnf
    refine Tri.weak w142 ?_
    refine Tri.seqK ?_
    refine Tri.run (G := gm_ref05_Same) tyOk mixed ?_
    conv => whnf
    refine Tri.run (G := gm_ref05_Same) tyOk mixed ?_
    conv => whnf
    refine fin_here ?_
    conv => whnf
    cases h
    rfl
noncomputable def ref07_Same (a : State) (b : State) : Option (Bool) :=
 (ref05_Same a.Data b.Data).bind fun y1 =>
 if y1 then
  (ref05_Same a.Toks b.Toks).bind fun y4 =>
  some y4
 else
  some false
def gm_ref07_Same : Gm := ⟨tys, [], [], []⟩
theorem ref07_Same_walk (a : State) (b : State) (r : Bool) (h : ref07_Same a b = some r) : PureP Tryz.prog 17 [.agg [.sl (List.map encPair a.Data), .sl (List.map encPair a.Toks)], .agg [.sl (List.map encPair b.Data), .sl (List.map encPair b.Toks)]] (fun a => a = .v (.bool r)) := by
 unfold ref07_Same at h
 refine pureW (G := gm_ref07_Same) tyOk Tryz.func17 rfl (by kernel_rfl) (by simp [Tryz.f17]) ?_
 refine Tri.seqK ?_
 refine Tri.run (G := gm_ref07_Same) tyOk mixed ?_
 conv => whnf
 refine Tri.seqK ?_
 refine Tri.run (G := gm_ref07_Same) tyOk mixed ?_
 conv => whnf
 replace h := bind_some h
 obtain ⟨y1, q2, h⟩ := h
 refine PureP.mono (ref05_Same_walk a.Data b.Data y1 q2) ?_
 rintro _ rfl
 conv => whnf
 refine Tri.seqK ?_
 refine Tri.run (G := gm_ref07_Same) tyOk mixed ?_
 conv => whnf
 refine cond_mk (fun c3 => ?_) (fun c3 => ?_)
 ·replace h := if_t c3 h
  conv => whnf
  replace h := bind_some h
  obtain ⟨y4, q5, h⟩ := h
  refine PureP.mono (ref05_Same_walk a.Toks b.Toks y4 q5) ?_
  rintro _ rfl
  conv => whnf
  refine Tri.run (G := gm_ref07_Same) tyOk mixed ?_
  conv => whnf
  refine fin_here ?_
  conv => whnf
  cases h
  rfl
 ·replace h := if_f c3 h
  conv => whnf
  refine Tri.run (G := gm_ref07_Same) tyOk mixed ?_
  conv => whnf
  refine fin_here ?_
  conv => whnf
  cases h
  rfl
noncomputable def ref01_Less_l2 (a : Str) (b : Str) (a162 : Int) : Option ((Int) ⊕ ((Bool) ⊕ (Unit))) :=
 if ((decide (a162 < (a.length : Int))) && (decide (a162 < (b.length : Int)))) then
  (ix a a162).bind fun x195 =>
  (ix b a162).bind fun x197 =>
  if (!(decide ((x195.toNat : Int) = (x197.toNat : Int)))) then
   some (.inr (.inl (decide ((x195.toNat : Int) < (x197.toNat : Int)))))
  else
   some (.inl (IntKind.i64.wrap (a162 + 1)))
 else
  some (.inr (.inr ()))
noncomputable def ref01_Less (a : Str) (b : Str) : Option (Bool) :=
 (loop (fun (s167 : Int) => ref01_Less_l2 a b s167) (0 : Int)).bind fun (y163 : (Bool) ⊕ (Unit)) =>
 match y163 with
 | (.inl v165) =>
  some v165
 | (.inr v166) =>
  some (decide ((a.length : Int) < (b.length : Int)))
def gm_ref01_Less : Gm := ⟨tys, [], [], []⟩
theorem ref01_Less_walk (a : Str) (b : Str) (r : Bool) (h : ref01_Less a b = some r) : PureP Tryz.prog 47 [.v (.string (bs a)), .v (.string (bs b))] (fun a => a = .v (.bool r)) := by
 unfold ref01_Less at h
 refine pureW (G := gm_ref01_Less) tyOk Tryz.func47 rfl (by kernel_rfl) (by simp [Tryz.f47]) ?_
 refine Tri.seqK ?_
 refine Tri.run (G := gm_ref01_Less) tyOk mixed ?_
 conv => whnf
 refine Tri.seqK ?_
 refine Tri.seqK ?_
 refine Tri.run (G := gm_ref01_Less) tyOk mixed ?_
 conv => whnf
 refine Tri.block ?_
 replace h := bind_some h
 obtain ⟨y163, q164, h⟩ := h
 refine Tri.cut (fun ex S' => (∃ v165 : Bool, y163 = (.inl v165) ∧ ex = .ret ∧ Weak S' ⟨37, 0, ofRegs [(4, .v (.bool v165))], []⟩) ∨ (∃ v166 : Unit, y163 = (.inr v166) ∧ ex = (.exit 0) ∧ Weak S' ⟨37, 0, ofRegs [(0, .v (.string (bs a))), (1, .v (.string (bs b)))], []⟩)) ?_ ?_
 ·refine Tri.loopF (fun (s167 : Int) => (⟨37, 0, ofRegs [(0, .v (.string (bs a))), (1, .v (.string (bs b))), (5, .v (.int .i64 s167))], []⟩ : St)) q164 (weak_fin _ rfl rfl rfl (LeH.rest) (.cons (.one (.same rfl)) (.cons (.one (.same rfl)) (.cons (.one (.same rfl)) (.nil)))) rfl rfl) ?_
  rintro a162 v168 hv r169
  have hv : ref01_Less_l2 a b a162 = some v168 := hv
  unfold ref01_Less_l2 at hv
  refine Tri.seqK ?_
  refine Tri.seqK ?_
  refine Tri.cut (fun ex S' => ex = .normal ∧ Weak S' ⟨37, 0, ofRegs [(0, .v (.string (bs a))), (1, .v (.string (bs b))), (5, .v (.int .i64 a162)), (15, .v (.bool ((decide (a162 < (a.length : Int))) && (decide (a162 < (b.length : Int))))))], []⟩) ?_ ?_
  ·refine Tri.run (G := gm_ref01_Less) tyOk mixed ?_
   conv => whnf
   refine ⟨⟨(a.length : Int), rfl, ?_⟩⟩
   conv => whnf
   refine cond_mk (fun c179 => ?_) (fun c179 => ?_)
   ·replace c179 : (decide (a162 < (a.length : Int))) = true := c179
    conv => whnf
    refine ⟨⟨(b.length : Int), rfl, ?_⟩⟩
    conv => whnf
    exact ⟨rfl, weak_fin _ rfl rfl rfl (LeH.rest) (.cons (.one (.same rfl)) (.cons (.one (.same rfl)) (.cons (.one (.same rfl)) (.cons (.one (.same (show (.v (.bool (decide (a162 < (b.length : Int)))) : AV) = (.v (.bool ((decide (a162 < (a.length : Int))) && (decide (a162 < (b.length : Int))))) : AV) from by first | (simp [c179]; done) | (simp only [c179, Bool.or_true, Bool.true_or, Bool.false_or, Bool.or_false, Bool.and_true, Bool.true_and, Bool.and_false, Bool.false_and, Bool.not_true, Bool.not_false, if_true, if_false, Bool.false_eq_true]; done) | (exfalso; revert c179; simp +contextual; done)))) (.nil))))) rfl rfl⟩
   ·replace c179 : (decide (a162 < (a.length : Int))) = false := c179
    conv => whnf
    exact ⟨rfl, weak_fin _ rfl rfl rfl (LeH.rest) (.cons (.one (.same rfl)) (.cons (.one (.same rfl)) (.cons (.one (.same rfl)) (.cons (.one (.same (show (.v (.bool false) : AV) = (.v (.bool ((decide (a162 < (a.length : Int))) && (decide (a162 < (b.length : Int))))) : AV) from by first | (simp [c179]; done) | (simp only [c179, Bool.or_true, Bool.true_or, Bool.false_or, Bool.or_false, Bool.and_true, Bool.true_and, Bool.and_false, Bool.false_and, Bool.not_true, Bool.not_false, if_true, if_false, Bool.false_eq_true]; done) | (exfalso; revert c179; simp +contextual; done)))) (.nil))))) rfl rfl⟩
  ·rintro ex S' ⟨rfl, w180⟩
   conv => whnf
   refine Tri.weak w180 ?_
   refine Tri.cond rfl (fun c181 => ?_) (fun c181 => ?_)
   ·replace hv := if_t c181 hv
    refine Tri.run (G := gm_ref01_Less) tyOk mixed ?_
    conv => whnf
    refine Tri.seqK ?_
    refine Tri.block ?_
    refine Tri.seqK ?_
    refine Tri.run (G := gm_ref01_Less) tyOk mixed ?_
    conv => whnf
    refine Draw.one 7 (.take 0 (.take 1 (.take 2 (.take 3 (.take 4 (.take 5 (.take 6 (.fin)))))))) [] (by kernel_rfl) ?_
    conv => whnf
    replace hv := bind_some hv
    obtain ⟨x195, q196, hv⟩ := hv
    refine ⟨bs_bound q196, ?_⟩
    conv => whnf
    refine ⟨⟨(x195.toNat : Int), bs_at q196, ?_⟩⟩
    conv => whnf
    replace hv := bind_some hv
    obtain ⟨x197, q198, hv⟩ := hv
    refine ⟨bs_bound q198, ?_⟩
    conv => whnf
    refine ⟨⟨(x197.toNat : Int), bs_at q198, ?_⟩⟩
    conv => whnf
    refine Tri.cond rfl (fun c199 => ?_) (fun c199 => ?_)
    ·replace hv := if_t c199 hv
     refine Tri.seqK ?_
     refine Tri.run (G := gm_ref01_Less) tyOk mixed ?_
     conv => whnf
     refine Draw.one 8 (.take 0 (.take 1 (.take 2 (.take 3 (.take 4 (.take 5 (.take 6 (.take 7 (.fin))))))))) [] (by kernel_rfl) ?_
     conv => whnf
     refine ⟨bs_bound q196, ?_⟩
     conv => whnf
     refine ⟨⟨(x195.toNat : Int), bs_at q196, ?_⟩⟩
     conv => whnf
     refine ⟨bs_bound q198, ?_⟩
     conv => whnf
     refine ⟨⟨(x197.toNat : Int), bs_at q198, ?_⟩⟩
     conv => whnf
     refine Tri.run (G := gm_ref01_Less) tyOk mixed ?_
     conv => whnf
     cases hv
     obtain rfl := r169 _ rfl
     exact Or.inl ⟨_, rfl, rfl, weak_fin _ rfl rfl rfl (LeH.rest) (.cons (.one (.same rfl)) (.nil)) rfl rfl⟩
    ·replace hv := if_f c199 hv
     refine Tri.run (G := gm_ref01_Less) tyOk mixed ?_
     conv => whnf
     refine Tri.run (G := gm_ref01_Less) tyOk mixed ?_
     conv => whnf
     cases hv
     exact ⟨_, rfl, weak_fin _ rfl rfl rfl (LeH.rest) (.cons (.one (.same rfl)) (.cons (.one (.same rfl)) (.cons (.one (.same rfl)) (.nil)))) rfl rfl⟩
   ·replace hv := if_f c181 hv
    refine Tri.run (G := gm_ref01_Less) tyOk mixed ?_
    conv => whnf
    cases hv
    obtain rfl := r169 _ rfl
    exact Or.inr (⟨_, rfl, rfl, weak_fin _ rfl rfl rfl (LeH.rest) (.cons (.one (.same rfl)) (.cons (.one (.same rfl)) (.nil))) rfl rfl⟩)
 ·rintro ex S' (⟨v165, rfl, rfl, w200⟩ | ⟨v166, rfl, rfl, w200⟩)
  ·dsimp only at h
   conv => whnf
   refine fin_pre w200 ?_
   conv => whnf
   cases h
   rfl
  ·dsimp only at h
   conv => whnf
   refine Tri.weak w200 ?_
   refine Tri.seqK ?_
   refine Tri.run (G := gm_ref01_Less) tyOk mixed ?_
   conv => whnf
   refine ⟨⟨(a.length : Int), rfl, ?_⟩⟩
   conv => whnf
   refine ⟨⟨(b.length : Int), rfl, ?_⟩⟩
   conv => whnf
   refine Tri.run (G := gm_ref01_Less) tyOk mixed ?_
   conv => whnf
   refine fin_here ?_
   conv => whnf
   cases h
   rfl
noncomputable def ref07_May_l2 (b : Batch) (a669 : Int) : Option ((Int) ⊕ ((Unit) ⊕ (Unit))) :=
 if (decide (a669 < (b.Writes.length : Int))) then
  (
   (ix b.Writes a669).bind fun x779 =>
   if ((decide ((x779.Key.length : Int) < 1)) || ((decide ((x779.Key.length : Int) > 32)) || ((decide ((x779.Val.length : Int) > 64)) || (x779.Del && (!decide (x779.Val = [])))))) then
    some (.inr ())
   else
    if (decide (a669 > 0)) then
     (ix b.Writes (IntKind.i64.wrap (a669 - 1))).bind fun x822 =>
     (ref01_Less x822.Key x779.Key).bind fun y824 =>
     if (!y824) then
      some (.inr ())
     else
      some (.inl ())
    else
     some (.inl ())).bind fun (y775 : (Unit) ⊕ (Unit)) =>
  match y775 with
  | (.inl v777) =>
   some (.inl (IntKind.i64.wrap (a669 + 1)))
  | (.inr v778) =>
   some (.inr (.inl ()))
 else
  some (.inr (.inr ()))
noncomputable def ref07_May (b : Batch) : Option (Bool) :=
 if ((decide (b.Kind < 1)) || ((decide (b.Kind > 2)) || ((decide ((b.Token.length : Int) < 1)) || ((decide ((b.Token.length : Int) > 16)) || (decide ((b.Writes.length : Int) > 24)))))) then
  some false
 else
  if ((decide (b.Kind = 2)) && (decide ((b.Writes.length : Int) > 0))) then
   some false
  else
   (loop (fun (s674 : Int) => ref07_May_l2 b s674) (0 : Int)).bind fun (y670 : (Unit) ⊕ (Unit)) =>
   match y670 with
   | (.inl v672) =>
    some false
   | (.inr v673) =>
    some true
def gm_ref07_May : Gm := ⟨tys, [], [], []⟩
theorem ref07_May_walk (b : Batch) (r : Bool) (h : ref07_May b = some r) : PureP Tryz.prog 14 [.agg [.v (.int .i64 b.Kind), .v (.string (bs b.Token)), .sl (List.map encWrite b.Writes)]] (fun a => a = .v (.bool r)) := by
 unfold ref07_May at h
 refine pureW (G := gm_ref07_May) tyOk Tryz.func14 rfl (by kernel_rfl) (by simp [Tryz.f14]) ?_
 refine Tri.seqK ?_
 refine Tri.run (G := gm_ref07_May) tyOk mixed ?_
 conv => whnf
 refine Tri.seqK ?_
 refine Tri.seqK ?_
 refine Tri.cut (fun ex S' => ex = .normal ∧ Weak S' ⟨92, 0, ofRegs [(1, .ptr 0 0), (31, .v (.bool ((decide (b.Kind < 1)) || ((decide (b.Kind > 2)) || ((decide ((b.Token.length : Int) < 1)) || ((decide ((b.Token.length : Int) > 16)) || (decide ((b.Writes.length : Int) > 24))))))))], [.var 25 [.v (.int .i64 b.Kind), .v (.string (bs b.Token)), .sl (List.map encWrite b.Writes)]]⟩) ?_ ?_
 ·refine Tri.run (G := gm_ref07_May) tyOk mixed ?_
  conv => whnf
  refine cond_mk (fun c31 => ?_) (fun c31 => ?_)
  ·replace c31 : (decide (b.Kind < 1)) = true := c31
   conv => whnf
   exact ⟨rfl, weak_fin _ rfl rfl rfl (.cons (.same rfl) (LeH.rest)) (.cons (.one (.same rfl)) (.cons (.one (.same (show (.v (.bool true) : AV) = (.v (.bool ((decide (b.Kind < 1)) || ((decide (b.Kind > 2)) || ((decide ((b.Token.length : Int) < 1)) || ((decide ((b.Token.length : Int) > 16)) || (decide ((b.Writes.length : Int) > 24))))))) : AV) from by first | (simp [c31]; done) | (simp only [c31, Bool.or_true, Bool.true_or, Bool.false_or, Bool.or_false, Bool.and_true, Bool.true_and, Bool.and_false, Bool.false_and, Bool.not_true, Bool.not_false, if_true, if_false, Bool.false_eq_true]; done) | (exfalso; revert c31; simp +contextual; done)))) (.nil))) rfl rfl⟩
  ·replace c31 : (decide (b.Kind < 1)) = false := c31
   conv => whnf
   refine cond_mk (fun c32 => ?_) (fun c32 => ?_)
   ·replace c32 : (decide (b.Kind > 2)) = true := c32
    conv => whnf
    exact ⟨rfl, weak_fin _ rfl rfl rfl (.cons (.same rfl) (LeH.rest)) (.cons (.one (.same rfl)) (.cons (.one (.same (show (.v (.bool true) : AV) = (.v (.bool ((decide (b.Kind < 1)) || ((decide (b.Kind > 2)) || ((decide ((b.Token.length : Int) < 1)) || ((decide ((b.Token.length : Int) > 16)) || (decide ((b.Writes.length : Int) > 24))))))) : AV) from by first | (simp [c31, c32]; done) | (simp only [c31, c32, Bool.or_true, Bool.true_or, Bool.false_or, Bool.or_false, Bool.and_true, Bool.true_and, Bool.and_false, Bool.false_and, Bool.not_true, Bool.not_false, if_true, if_false, Bool.false_eq_true]; done) | (exfalso; revert c31 c32; simp +contextual; done)))) (.nil))) rfl rfl⟩
   ·replace c32 : (decide (b.Kind > 2)) = false := c32
    conv => whnf
    refine ⟨⟨(b.Token.length : Int), rfl, ?_⟩⟩
    conv => whnf
    refine cond_mk (fun c33 => ?_) (fun c33 => ?_)
    ·replace c33 : (decide ((b.Token.length : Int) < 1)) = true := c33
     conv => whnf
     exact ⟨rfl, weak_fin _ rfl rfl rfl (.cons (.same rfl) (LeH.rest)) (.cons (.one (.same rfl)) (.cons (.one (.same (show (.v (.bool true) : AV) = (.v (.bool ((decide (b.Kind < 1)) || ((decide (b.Kind > 2)) || ((decide ((b.Token.length : Int) < 1)) || ((decide ((b.Token.length : Int) > 16)) || (decide ((b.Writes.length : Int) > 24))))))) : AV) from by first | (simp [c31, c32, c33]; done) | (simp only [c31, c32, c33, Bool.or_true, Bool.true_or, Bool.false_or, Bool.or_false, Bool.and_true, Bool.true_and, Bool.and_false, Bool.false_and, Bool.not_true, Bool.not_false, if_true, if_false, Bool.false_eq_true]; done) | (exfalso; revert c31 c32 c33; simp +contextual; done)))) (.nil))) rfl rfl⟩
    ·replace c33 : (decide ((b.Token.length : Int) < 1)) = false := c33
     conv => whnf
     refine ⟨⟨(b.Token.length : Int), rfl, ?_⟩⟩
     conv => whnf
     refine cond_mk (fun c34 => ?_) (fun c34 => ?_)
     ·replace c34 : (decide ((b.Token.length : Int) > 16)) = true := c34
      conv => whnf
      exact ⟨rfl, weak_fin _ rfl rfl rfl (.cons (.same rfl) (LeH.rest)) (.cons (.one (.same rfl)) (.cons (.one (.same (show (.v (.bool true) : AV) = (.v (.bool ((decide (b.Kind < 1)) || ((decide (b.Kind > 2)) || ((decide ((b.Token.length : Int) < 1)) || ((decide ((b.Token.length : Int) > 16)) || (decide ((b.Writes.length : Int) > 24))))))) : AV) from by first | (simp [c31, c32, c33, c34]; done) | (simp only [c31, c32, c33, c34, Bool.or_true, Bool.true_or, Bool.false_or, Bool.or_false, Bool.and_true, Bool.true_and, Bool.and_false, Bool.false_and, Bool.not_true, Bool.not_false, if_true, if_false, Bool.false_eq_true]; done) | (exfalso; revert c31 c32 c33 c34; simp +contextual; done)))) (.nil))) rfl rfl⟩
     ·replace c34 : (decide ((b.Token.length : Int) > 16)) = false := c34
      conv => whnf
      refine ⟨⟨(b.Writes.length : Int), (len_map _ _).symm, ?_⟩⟩
      conv => whnf
      exact ⟨rfl, weak_fin _ rfl rfl rfl (.cons (.same rfl) (LeH.rest)) (.cons (.one (.same rfl)) (.cons (.one (.same (show (.v (.bool (decide ((b.Writes.length : Int) > 24))) : AV) = (.v (.bool ((decide (b.Kind < 1)) || ((decide (b.Kind > 2)) || ((decide ((b.Token.length : Int) < 1)) || ((decide ((b.Token.length : Int) > 16)) || (decide ((b.Writes.length : Int) > 24))))))) : AV) from by first | (simp [c31, c32, c33, c34]; done) | (simp only [c31, c32, c33, c34, Bool.or_true, Bool.true_or, Bool.false_or, Bool.or_false, Bool.and_true, Bool.true_and, Bool.and_false, Bool.false_and, Bool.not_true, Bool.not_false, if_true, if_false, Bool.false_eq_true]; done) | (exfalso; revert c31 c32 c33 c34; simp +contextual; done)))) (.nil))) rfl rfl⟩
 ·rintro ex S' ⟨rfl, w35⟩
  conv => whnf
  refine Tri.weak w35 ?_
  refine Tri.cond rfl (fun c36 => ?_) (fun c36 => ?_)
  ·replace h := if_t c36 h
   refine Tri.seqK ?_
   refine Tri.run (G := gm_ref07_May) tyOk mixed ?_
   conv => whnf
   refine Tri.run (G := gm_ref07_May) tyOk mixed ?_
   conv => whnf
   refine fin_here ?_
   conv => whnf
   cases h
   rfl
  ·replace h := if_f c36 h
   refine Tri.run (G := gm_ref07_May) tyOk mixed ?_
   conv => whnf
   refine Tri.seqK ?_
   refine Tri.seqK ?_
   refine Tri.cut (fun ex S' => ex = .normal ∧ Weak S' ⟨92, 0, ofRegs [(1, .ptr 0 0), (40, .v (.bool ((decide (b.Kind = 2)) && (decide ((b.Writes.length : Int) > 0)))))], [.var 25 [.v (.int .i64 b.Kind), .v (.string (bs b.Token)), .sl (List.map encWrite b.Writes)]]⟩) ?_ ?_
   ·refine Tri.run (G := gm_ref07_May) tyOk mixed ?_
    conv => whnf
    refine cond_mk (fun c46 => ?_) (fun c46 => ?_)
    ·replace c46 : (decide (b.Kind = 2)) = true := c46
     conv => whnf
     refine ⟨⟨(b.Writes.length : Int), (len_map _ _).symm, ?_⟩⟩
     conv => whnf
     exact ⟨rfl, weak_fin _ rfl rfl rfl (.cons (.same rfl) (LeH.rest)) (.cons (.one (.same rfl)) (.cons (.one (.same (show (.v (.bool (decide ((b.Writes.length : Int) > 0))) : AV) = (.v (.bool ((decide (b.Kind = 2)) && (decide ((b.Writes.length : Int) > 0)))) : AV) from by first | (simp [c46]; done) | (simp only [c46, Bool.or_true, Bool.true_or, Bool.false_or, Bool.or_false, Bool.and_true, Bool.true_and, Bool.and_false, Bool.false_and, Bool.not_true, Bool.not_false, if_true, if_false, Bool.false_eq_true]; done) | (exfalso; revert c46; simp +contextual; done)))) (.nil))) rfl rfl⟩
    ·replace c46 : (decide (b.Kind = 2)) = false := c46
     conv => whnf
     exact ⟨rfl, weak_fin _ rfl rfl rfl (.cons (.same rfl) (LeH.rest)) (.cons (.one (.same rfl)) (.cons (.one (.same (show (.v (.bool false) : AV) = (.v (.bool ((decide (b.Kind = 2)) && (decide ((b.Writes.length : Int) > 0)))) : AV) from by first | (simp [c46]; done) | (simp only [c46, Bool.or_true, Bool.true_or, Bool.false_or, Bool.or_false, Bool.and_true, Bool.true_and, Bool.and_false, Bool.false_and, Bool.not_true, Bool.not_false, if_true, if_false, Bool.false_eq_true]; done) | (exfalso; revert c46; simp +contextual; done)))) (.nil))) rfl rfl⟩
   ·rintro ex S' ⟨rfl, w47⟩
    conv => whnf
    refine Tri.weak w47 ?_
    refine Tri.cond rfl (fun c48 => ?_) (fun c48 => ?_)
    ·replace h := if_t c48 h
     refine Tri.seqK ?_
     refine Tri.run (G := gm_ref07_May) tyOk mixed ?_
     conv => whnf
     refine Tri.run (G := gm_ref07_May) tyOk mixed ?_
     conv => whnf
     refine fin_here ?_
     conv => whnf
     cases h
     rfl
    ·replace h := if_f c48 h
     refine Tri.run (G := gm_ref07_May) tyOk mixed ?_
     conv => whnf
     refine Tri.seqK ?_
     refine Tri.seqK ?_
     refine Tri.run (G := gm_ref07_May) tyOk mixed ?_
     conv => whnf
     refine Tri.block ?_
     replace h := bind_some h
     obtain ⟨y670, q671, h⟩ := h
     refine Tri.cut (fun ex S' => (∃ v672 : Unit, y670 = (.inl v672) ∧ ex = .ret ∧ Weak S' ⟨92, 0, ofRegs [(2, .v (.bool false))], []⟩) ∨ (∃ v673 : Unit, y670 = (.inr v673) ∧ ex = (.exit 0) ∧ Weak S' ⟨92, 0, ofRegs [], []⟩)) ?_ ?_
     ·refine Tri.loopF (fun (s674 : Int) => (⟨92, 0, ofRegs [(1, .ptr 0 0), (3, .v (.int .i64 s674))], [.var 25 [.v (.int .i64 b.Kind), .v (.string (bs b.Token)), .sl (List.map encWrite b.Writes)]]⟩ : St)) q671 (weak_fin _ rfl rfl rfl (.cons (.same rfl) (LeH.rest)) (.cons (.one (.same rfl)) (.cons (.one (.same rfl)) (.nil))) rfl rfl) ?_
      rintro a669 v675 hv r676
      have hv : ref07_May_l2 b a669 = some v675 := hv
      unfold ref07_May_l2 at hv
      refine Tri.seqK ?_
      refine Tri.seqK ?_
      refine Tri.run (G := gm_ref07_May) tyOk mixed ?_
      conv => whnf
      refine ⟨⟨(b.Writes.length : Int), (len_map _ _).symm, ?_⟩⟩
      conv => whnf
      refine Tri.cond rfl (fun c678 => ?_) (fun c678 => ?_)
      ·replace hv := if_t c678 hv
       refine Tri.run (G := gm_ref07_May) tyOk mixed ?_
       conv => whnf
       refine Tri.seqK ?_
       replace hv := bind_some hv
       obtain ⟨y775, q776, hv⟩ := hv
       refine Tri.cut (fun ex S' => (∃ v777 : Unit, y775 = (.inl v777) ∧ ex = .normal ∧ Weak S' ⟨92, 0, ofRegs [(1, .ptr 0 0), (3, .v (.int .i64 a669))], [.var 25 [.v (.int .i64 b.Kind), .v (.string (bs b.Token)), .sl (List.map encWrite b.Writes)]]⟩) ∨ (∃ v778 : Unit, y775 = (.inr v778) ∧ ex = .ret ∧ Weak S' ⟨92, 0, ofRegs [(2, .v (.bool false))], []⟩)) ?_ ?_
       ·refine Tri.block ?_
        refine Tri.seqK ?_
        refine Tri.run (G := gm_ref07_May) tyOk mixed ?_
        conv => whnf
        replace q776 := bind_some q776
        obtain ⟨x779, q780, q776⟩ := q776
        refine ⟨(ix_some q780).1, ?_⟩
        conv => whnf
        refine ⟨⟨_, map_get encWrite (ix_some q780).2, ?_⟩⟩
        conv => whnf
        refine ⟨rfl, ?_⟩
        conv => whnf
        refine Tri.seqK ?_
        refine Tri.seqK ?_
        refine Tri.cut (fun ex S' => ex = .normal ∧ Weak S' ⟨92, 0, ofRegs [(1, .ptr 0 0), (3, .v (.int .i64 a669)), (4, .ptr 1 0), (77, .v (.bool ((decide ((x779.Key.length : Int) < 1)) || ((decide ((x779.Key.length : Int) > 32)) || ((decide ((x779.Val.length : Int) > 64)) || (x779.Del && (!decide (x779.Val = []))))))))], [.var 25 [.v (.int .i64 b.Kind), .v (.string (bs b.Token)), .sl (List.map encWrite b.Writes)], .var 88 [.v (.string (bs x779.Key)), .v (.string (bs x779.Val)), .v (.bool x779.Del)]]⟩) ?_ ?_
        ·refine Tri.run (G := gm_ref07_May) tyOk mixed ?_
         conv => whnf
         refine ⟨⟨(x779.Key.length : Int), rfl, ?_⟩⟩
         conv => whnf
         refine cond_mk (fun c811 => ?_) (fun c811 => ?_)
         ·replace c811 : (decide ((x779.Key.length : Int) < 1)) = true := c811
          conv => whnf
          exact ⟨rfl, weak_fin _ rfl rfl rfl (.cons (.same rfl) (.cons (.same rfl) (LeH.rest))) (.cons (.one (.same rfl)) (.cons (.one (.same rfl)) (.cons (.one (.same rfl)) (.cons (.one (.same (show (.v (.bool true) : AV) = (.v (.bool ((decide ((x779.Key.length : Int) < 1)) || ((decide ((x779.Key.length : Int) > 32)) || ((decide ((x779.Val.length : Int) > 64)) || (x779.Del && (!decide (x779.Val = []))))))) : AV) from by first | (simp [c811]; done) | (simp only [c811, Bool.or_true, Bool.true_or, Bool.false_or, Bool.or_false, Bool.and_true, Bool.true_and, Bool.and_false, Bool.false_and, Bool.not_true, Bool.not_false, if_true, if_false, Bool.false_eq_true]; done) | (exfalso; revert c811; simp +contextual; done)))) (.nil))))) rfl rfl⟩
         ·replace c811 : (decide ((x779.Key.length : Int) < 1)) = false := c811
          conv => whnf
          refine ⟨⟨(x779.Key.length : Int), rfl, ?_⟩⟩
          conv => whnf
          refine cond_mk (fun c812 => ?_) (fun c812 => ?_)
          ·replace c812 : (decide ((x779.Key.length : Int) > 32)) = true := c812
           conv => whnf
           exact ⟨rfl, weak_fin _ rfl rfl rfl (.cons (.same rfl) (.cons (.same rfl) (LeH.rest))) (.cons (.one (.same rfl)) (.cons (.one (.same rfl)) (.cons (.one (.same rfl)) (.cons (.one (.same (show (.v (.bool true) : AV) = (.v (.bool ((decide ((x779.Key.length : Int) < 1)) || ((decide ((x779.Key.length : Int) > 32)) || ((decide ((x779.Val.length : Int) > 64)) || (x779.Del && (!decide (x779.Val = []))))))) : AV) from by first | (simp [c811, c812]; done) | (simp only [c811, c812, Bool.or_true, Bool.true_or, Bool.false_or, Bool.or_false, Bool.and_true, Bool.true_and, Bool.and_false, Bool.false_and, Bool.not_true, Bool.not_false, if_true, if_false, Bool.false_eq_true]; done) | (exfalso; revert c811 c812; simp +contextual; done)))) (.nil))))) rfl rfl⟩
          ·replace c812 : (decide ((x779.Key.length : Int) > 32)) = false := c812
           conv => whnf
           refine ⟨⟨(x779.Val.length : Int), rfl, ?_⟩⟩
           conv => whnf
           refine cond_mk (fun c813 => ?_) (fun c813 => ?_)
           ·replace c813 : (decide ((x779.Val.length : Int) > 64)) = true := c813
            conv => whnf
            exact ⟨rfl, weak_fin _ rfl rfl rfl (.cons (.same rfl) (.cons (.same rfl) (LeH.rest))) (.cons (.one (.same rfl)) (.cons (.one (.same rfl)) (.cons (.one (.same rfl)) (.cons (.one (.same (show (.v (.bool true) : AV) = (.v (.bool ((decide ((x779.Key.length : Int) < 1)) || ((decide ((x779.Key.length : Int) > 32)) || ((decide ((x779.Val.length : Int) > 64)) || (x779.Del && (!decide (x779.Val = []))))))) : AV) from by first | (simp [c811, c812, c813]; done) | (simp only [c811, c812, c813, Bool.or_true, Bool.true_or, Bool.false_or, Bool.or_false, Bool.and_true, Bool.true_and, Bool.and_false, Bool.false_and, Bool.not_true, Bool.not_false, if_true, if_false, Bool.false_eq_true]; done) | (exfalso; revert c811 c812 c813; simp +contextual; done)))) (.nil))))) rfl rfl⟩
           ·replace c813 : (decide ((x779.Val.length : Int) > 64)) = false := c813
            conv => whnf
            refine cond_mk (fun c814 => ?_) (fun c814 => ?_)
            ·replace c814 : x779.Del = true := c814
             conv => whnf
             refine ⟨⟨(!decide (x779.Val = [])), bs_ne _ _, ?_⟩⟩
             conv => whnf
             exact ⟨rfl, weak_fin _ rfl rfl rfl (.cons (.same rfl) (.cons (.same rfl) (LeH.rest))) (.cons (.one (.same rfl)) (.cons (.one (.same rfl)) (.cons (.one (.same rfl)) (.cons (.one (.same (show (.v (.bool (!decide (x779.Val = []))) : AV) = (.v (.bool ((decide ((x779.Key.length : Int) < 1)) || ((decide ((x779.Key.length : Int) > 32)) || ((decide ((x779.Val.length : Int) > 64)) || (x779.Del && (!decide (x779.Val = []))))))) : AV) from by first | (simp [c811, c812, c813, c814]; done) | (simp only [c811, c812, c813, c814, Bool.or_true, Bool.true_or, Bool.false_or, Bool.or_false, Bool.and_true, Bool.true_and, Bool.and_false, Bool.false_and, Bool.not_true, Bool.not_false, if_true, if_false, Bool.false_eq_true]; done) | (exfalso; revert c811 c812 c813 c814; simp +contextual; done)))) (.nil))))) rfl rfl⟩
            ·replace c814 : x779.Del = false := c814
             conv => whnf
             exact ⟨rfl, weak_fin _ rfl rfl rfl (.cons (.same rfl) (.cons (.same rfl) (LeH.rest))) (.cons (.one (.same rfl)) (.cons (.one (.same rfl)) (.cons (.one (.same rfl)) (.cons (.one (.same (show (.v (.bool false) : AV) = (.v (.bool ((decide ((x779.Key.length : Int) < 1)) || ((decide ((x779.Key.length : Int) > 32)) || ((decide ((x779.Val.length : Int) > 64)) || (x779.Del && (!decide (x779.Val = []))))))) : AV) from by first | (simp [c811, c812, c813, c814]; done) | (simp only [c811, c812, c813, c814, Bool.or_true, Bool.true_or, Bool.false_or, Bool.or_false, Bool.and_true, Bool.true_and, Bool.and_false, Bool.false_and, Bool.not_true, Bool.not_false, if_true, if_false, Bool.false_eq_true]; done) | (exfalso; revert c811 c812 c813 c814; simp +contextual; done)))) (.nil))))) rfl rfl⟩
        ·rintro ex S' ⟨rfl, w815⟩
         conv => whnf
         refine Tri.weak w815 ?_
         refine Tri.cond rfl (fun c816 => ?_) (fun c816 => ?_)
         ·replace q776 := if_t c816 q776
          refine Tri.seqK ?_
          refine Tri.run (G := gm_ref07_May) tyOk mixed ?_
          conv => whnf
          refine Tri.run (G := gm_ref07_May) tyOk mixed ?_
          conv => whnf
          cases q776
          exact Or.inr (⟨_, rfl, rfl, weak_fin _ rfl rfl rfl (LeH.rest) (.cons (.one (.same rfl)) (.nil)) rfl rfl⟩)
         ·replace q776 := if_f c816 q776
          refine Tri.run (G := gm_ref07_May) tyOk mixed ?_
          conv => whnf
          refine Tri.seqK ?_
          refine Tri.run (G := gm_ref07_May) tyOk mixed ?_
          conv => whnf
          refine Tri.cond rfl (fun c817 => ?_) (fun c817 => ?_)
          ·replace q776 := if_t c817 q776
           refine Tri.seqK ?_
           refine Tri.run (G := gm_ref07_May) tyOk mixed ?_
           conv => whnf
           refine Draw.one 11 (.take 0 (.take 1 (.take 2 (.take 3 (.take 4 (.take 5 (.take 6 (.take 7 (.take 8 (.alt 9 (.take 10 (.fin)) (.nil))))))))))) [] (by kernel_rfl) ?_
           conv => whnf
           replace q776 := bind_some q776
           obtain ⟨x822, q823, q776⟩ := q776
           refine ⟨(ix_some q823).1, ?_⟩
           conv => whnf
           refine ⟨⟨_, map_get encWrite (ix_some q823).2, ?_⟩⟩
           conv => whnf
           refine ⟨rfl, ?_⟩
           conv => whnf
           refine ⟨?_, ?_⟩
           ·conv => whnf
            replace q776 := bind_some q776
            obtain ⟨y824, q825, q776⟩ := q776
            refine PureP.mono (ref01_Less_walk x822.Key x779.Key y824 q825) ?_
            rintro _ rfl
            conv => whnf
            refine Tri.seqK ?_
            refine Tri.run (G := gm_ref07_May) tyOk mixed ?_
            conv => whnf
            refine Tri.cond rfl (fun c826 => ?_) (fun c826 => ?_)
            ·replace q776 := if_t c826 q776
             refine Tri.seqK ?_
             refine Tri.run (G := gm_ref07_May) tyOk mixed ?_
             conv => whnf
             refine Tri.run (G := gm_ref07_May) tyOk mixed ?_
             conv => whnf
             cases q776
             exact Or.inr (⟨_, rfl, rfl, weak_fin _ rfl rfl rfl (LeH.rest) (.cons (.one (.same rfl)) (.nil)) rfl rfl⟩)
            ·replace q776 := if_f c826 q776
             refine Tri.run (G := gm_ref07_May) tyOk mixed ?_
             conv => whnf
             cases q776
             exact Or.inl ⟨_, rfl, rfl, weak_fin _ rfl rfl rfl (.cons (.same rfl) (LeH.rest)) (.cons (.one (.same rfl)) (.cons (.one (.same rfl)) (.nil))) rfl rfl⟩
           ·conv => whnf
            trivial
          ·replace q776 := if_f c817 q776
           refine Tri.run (G := gm_ref07_May) tyOk mixed ?_
           conv => whnf
           cases q776
           exact Or.inl ⟨_, rfl, rfl, weak_fin _ rfl rfl rfl (.cons (.same rfl) (LeH.rest)) (.cons (.one (.same rfl)) (.cons (.one (.same rfl)) (.nil))) rfl rfl⟩
       ·rintro ex S' (⟨v777, rfl, rfl, w827⟩ | ⟨v778, rfl, rfl, w827⟩)
        ·dsimp only at hv
         conv => whnf
         refine Tri.weak w827 ?_
         refine Tri.run (G := gm_ref07_May) tyOk mixed ?_
         conv => whnf
         cases hv
         exact ⟨_, rfl, weak_fin _ rfl rfl rfl (.cons (.same rfl) (LeH.rest)) (.cons (.one (.same rfl)) (.cons (.one (.same rfl)) (.nil))) rfl rfl⟩
        ·dsimp only at hv
         conv => whnf
         cases hv
         obtain rfl := r676 _ rfl
         exact Or.inl ⟨_, rfl, rfl, Weak.trans w827 (weak_fin _ rfl rfl rfl (LeH.rest) (.cons (.one (.same rfl)) (.nil)) rfl rfl)⟩
      ·replace hv := if_f c678 hv
       refine Tri.run (G := gm_ref07_May) tyOk mixed ?_
       conv => whnf
       cases hv
       obtain rfl := r676 _ rfl
       exact Or.inr (⟨_, rfl, rfl, weak_fin _ rfl rfl rfl (LeH.rest) (.nil) rfl rfl⟩)
     ·rintro ex S' (⟨v672, rfl, rfl, w828⟩ | ⟨v673, rfl, rfl, w828⟩)
      ·dsimp only at h
       conv => whnf
       refine fin_pre w828 ?_
       conv => whnf
       cases h
       rfl
      ·dsimp only at h
       conv => whnf
       refine Tri.weak w828 ?_
       refine Tri.seqK ?_
       refine Tri.run (G := gm_ref07_May) tyOk mixed ?_
       conv => whnf
       refine Tri.run (G := gm_ref07_May) tyOk mixed ?_
       conv => whnf
       refine fin_here ?_
       conv => whnf
       cases h
       rfl
noncomputable def ref05_Find_l2 (l : (List Pair)) (key : Str) (a52 : Int) : Option ((Int) ⊕ ((Str) ⊕ (Unit))) :=
 if (decide (a52 < (l.length : Int))) then
  (ix l a52).bind fun x65 =>
  if (decide (x65.Key = key)) then
   some (.inr (.inl x65.Val))
  else
   some (.inl (IntKind.i64.wrap (a52 + 1)))
 else
  some (.inr (.inr ()))
noncomputable def ref05_Find (l : (List Pair)) (key : Str) : Option (Str × Bool) :=
 (loop (fun (s57 : Int) => ref05_Find_l2 l key s57) (0 : Int)).bind fun (y53 : (Str) ⊕ (Unit)) =>
 match y53 with
 | (.inl v55) =>
  some (v55, true)
 | (.inr v56) =>
  some ([], false)
def gm_ref05_Find : Gm := ⟨tys, [], [], []⟩
theorem ref05_Find_walk (l : (List Pair)) (key : Str) (r : Str × Bool) (h : ref05_Find l key = some r) : PureP Tryz.prog 107 [.sl (List.map encPair l), .v (.string (bs key))] (fun a => a = .tup [.v (.string (bs r.1)), .v (.bool r.2)]) := by
 unfold ref05_Find at h
 refine pureW (G := gm_ref05_Find) tyOk Tryz.func107 rfl (by kernel_rfl) (by simp [Tryz.f107]) ?_
 refine Tri.seqK ?_
 refine Tri.run (G := gm_ref05_Find) tyOk mixed ?_
 conv => whnf
 refine Tri.seqK ?_
 refine Tri.seqK ?_
 refine Tri.run (G := gm_ref05_Find) tyOk mixed ?_
 conv => whnf
 refine Tri.block ?_
 replace h := bind_some h
 obtain ⟨y53, q54, h⟩ := h
 refine Tri.cut (fun ex S' => (∃ v55 : Str, y53 = (.inl v55) ∧ ex = .ret ∧ Weak S' ⟨25, 0, ofRegs [(4, .v (.string (bs v55))), (5, .v (.bool true))], []⟩) ∨ (∃ v56 : Unit, y53 = (.inr v56) ∧ ex = (.exit 0) ∧ Weak S' ⟨25, 0, ofRegs [], []⟩)) ?_ ?_
 ·refine Tri.loopF (fun (s57 : Int) => (⟨25, 0, ofRegs [(0, .sl (List.map encPair l)), (1, .v (.string (bs key))), (6, .v (.int .i64 s57))], []⟩ : St)) q54 (weak_fin _ rfl rfl rfl (LeH.rest) (.cons (.one (.same rfl)) (.cons (.one (.same rfl)) (.cons (.one (.same rfl)) (.nil)))) rfl rfl) ?_
  rintro a52 v58 hv r59
  have hv : ref05_Find_l2 l key a52 = some v58 := hv
  unfold ref05_Find_l2 at hv
  refine Tri.seqK ?_
  refine Tri.seqK ?_
  refine Tri.run (G := gm_ref05_Find) tyOk mixed ?_
  conv => whnf
  refine ⟨⟨(l.length : Int), (len_map _ _).symm, ?_⟩⟩
  conv => whnf
  refine Tri.cond rfl (fun c61 => ?_) (fun c61 => ?_)
  ·replace hv := if_t c61 hv
   refine Tri.run (G := gm_ref05_Find) tyOk mixed ?_
   conv => whnf
   refine Tri.seqK ?_
   refine Tri.block ?_
   refine Tri.seqK ?_
   refine Tri.run (G := gm_ref05_Find) tyOk mixed ?_
   conv => whnf
   replace hv := bind_some hv
   obtain ⟨x65, q66, hv⟩ := hv
   refine ⟨(ix_some q66).1, ?_⟩
   conv => whnf
   refine ⟨⟨_, map_get encPair (ix_some q66).2, ?_⟩⟩
   conv => whnf
   refine ⟨rfl, ?_⟩
   conv => whnf
   refine ⟨⟨(decide (x65.Key = key)), bs_eq _ _, ?_⟩⟩
   conv => whnf
   refine Tri.cond rfl (fun c67 => ?_) (fun c67 => ?_)
   ·replace hv := if_t c67 hv
    refine Tri.seqK ?_
    refine Tri.run (G := gm_ref05_Find) tyOk mixed ?_
    conv => whnf
    refine ⟨(ix_some q66).1, ?_⟩
    conv => whnf
    refine ⟨⟨_, map_get encPair (ix_some q66).2, ?_⟩⟩
    conv => whnf
    refine ⟨rfl, ?_⟩
    conv => whnf
    refine Tri.run (G := gm_ref05_Find) tyOk mixed ?_
    conv => whnf
    cases hv
    obtain rfl := r59 _ rfl
    exact Or.inl ⟨_, rfl, rfl, weak_fin _ rfl rfl rfl (LeH.rest) (.cons (.one (.same rfl)) (.cons (.one (.same rfl)) (.nil))) rfl rfl⟩
   ·replace hv := if_f c67 hv
    refine Tri.run (G := gm_ref05_Find) tyOk mixed ?_
    conv => whnf
    refine Tri.run (G := gm_ref05_Find) tyOk mixed ?_
    conv => whnf
    cases hv
    exact ⟨_, rfl, weak_fin _ rfl rfl rfl (LeH.rest) (.cons (.one (.same rfl)) (.cons (.one (.same rfl)) (.cons (.one (.same rfl)) (.nil)))) rfl rfl⟩
  ·replace hv := if_f c61 hv
   refine Tri.run (G := gm_ref05_Find) tyOk mixed ?_
   conv => whnf
   cases hv
   obtain rfl := r59 _ rfl
   exact Or.inr (⟨_, rfl, rfl, weak_fin _ rfl rfl rfl (LeH.rest) (.nil) rfl rfl⟩)
 ·rintro ex S' (⟨v55, rfl, rfl, w68⟩ | ⟨v56, rfl, rfl, w68⟩)
  ·dsimp only at h
   conv => whnf
   refine fin_pre w68 ?_
   conv => whnf
   cases h
   rfl
  ·dsimp only at h
   conv => whnf
   refine Tri.weak w68 ?_
   refine Tri.seqK ?_
   refine Tri.run (G := gm_ref05_Find) tyOk mixed ?_
   conv => whnf
   refine Tri.run (G := gm_ref05_Find) tyOk mixed ?_
   conv => whnf
   refine fin_here ?_
   conv => whnf
   cases h
   rfl
noncomputable def ref07_Decided (s : State) (token : Str) : Option (Str × Bool) :=
 (ref05_Find s.Toks token).bind fun y1 =>
 some (y1.1, y1.2)
def gm_ref07_Decided : Gm := ⟨tys, [], [], []⟩
theorem ref07_Decided_walk (s : State) (token : Str) (r : Str × Bool) (h : ref07_Decided s token = some r) : PureP Tryz.prog 51 [.agg [.sl (List.map encPair s.Data), .sl (List.map encPair s.Toks)], .v (.string (bs token))] (fun a => a = .tup [.v (.string (bs r.1)), .v (.bool r.2)]) := by
 unfold ref07_Decided at h
 refine pureW (G := gm_ref07_Decided) tyOk Tryz.func51 rfl (by kernel_rfl) (by simp [Tryz.f51]) ?_
 refine Tri.seqK ?_
 refine Tri.run (G := gm_ref07_Decided) tyOk mixed ?_
 conv => whnf
 refine Tri.seqK ?_
 refine Tri.run (G := gm_ref07_Decided) tyOk mixed ?_
 conv => whnf
 replace h := bind_some h
 obtain ⟨y1, q2, h⟩ := h
 refine PureP.mono (ref05_Find_walk s.Toks token y1 q2) ?_
 rintro _ rfl
 conv => whnf
 refine Tri.run (G := gm_ref07_Decided) tyOk mixed ?_
 conv => whnf
 refine fin_here ?_
 conv => whnf
 cases h
 rfl
noncomputable def ref05_Drop_l2 (l : (List Pair)) (key : Str) (a146 : Int) (a147 : (List Pair)) : Option ((Int × (List Pair)) ⊕ ((List Pair))) :=
 if (decide (a146 < (l.length : Int))) then
  (
   (ix l a146).bind fun x165 =>
   if (!decide (x165.Key = key)) then
    need ((a147.length + 1) * 32 ≤ 140737488355328) <|
    some (a147 ++ [x165])
   else
    some a147).bind fun (y163 : (List Pair)) =>
  some (.inl ((IntKind.i64.wrap (a146 + 1)), y163))
 else
  some (.inr a147)
noncomputable def ref05_Drop (l : (List Pair)) (key : Str) : Option ((List Pair)) :=
 (loop (fun (s150 : Int × (List Pair)) => ref05_Drop_l2 l key s150.1 s150.2) ((0 : Int), ([] : (List Pair)))).bind fun (y148 : (List Pair)) =>
 some y148
def gm_ref05_Drop : Gm := ⟨tys, [], [], []⟩
theorem ref05_Drop_walk (l : (List Pair)) (key : Str) (r : (List Pair)) (h : ref05_Drop l key = some r) : PureP Tryz.prog 108 [.sl (List.map encPair l), .v (.string (bs key))] (fun a => a = .sl (List.map encPair r)) := by
 unfold ref05_Drop at h
 refine pureW (G := gm_ref05_Drop) tyOk Tryz.func108 rfl (by kernel_rfl) (by simp [Tryz.f108]) ?_
 refine Tri.seqK ?_
 refine Tri.run (G := gm_ref05_Drop) tyOk mixed ?_
 conv => whnf
 refine Tri.seqK ?_
 refine Tri.run (G := gm_ref05_Drop) tyOk mixed ?_
 conv => whnf
 refine Tri.seqK ?_
 refine Tri.seqK ?_
 refine Tri.run (G := gm_ref05_Drop) tyOk mixed ?_
 conv => whnf
 refine Tri.block ?_
 replace h := bind_some h
 obtain ⟨y148, q149, h⟩ := h
 refine Tri.cut (fun ex S' => ex = (.exit 0) ∧ Weak S' ⟨28, 0, ofRegs [(5, .row 0 ((List.map encPair y148).length))], [.row 90 2 (List.map encPair y148)]⟩) ?_ ?_
 ·refine Tri.loopF (fun (s150 : Int × (List Pair)) => (⟨28, 0, ofRegs [(0, .sl (List.map encPair l)), (1, .v (.string (bs key))), (5, .row 0 ((List.map encPair s150.2).length)), (6, .v (.int .i64 s150.1))], [.row 90 2 (List.map encPair s150.2)]⟩ : St)) q149 (Weak.trans (weak_nil 5 90 2 rfl) (weak_fin _ rfl rfl rfl (.cons (.same rfl) (LeH.rest)) (.cons (.one (.same rfl)) (.cons (.one (.same rfl)) (.cons (.one (.same (show (.row 0 0 : AV) = (.row 0 ((List.map encPair []).length) : AV) from congrArg (AV.row 0) (by simp)))) (.cons (.one (.same rfl)) (.nil))))) rfl rfl)) ?_
  rintro ⟨a146, a147⟩ v151 hv r152
  have hv : ref05_Drop_l2 l key a146 a147 = some v151 := hv
  unfold ref05_Drop_l2 at hv
  dsimp only
  refine Tri.seqK ?_
  refine Tri.seqK ?_
  refine Tri.run (G := gm_ref05_Drop) tyOk mixed ?_
  conv => whnf
  refine ⟨⟨(l.length : Int), (len_map _ _).symm, ?_⟩⟩
  conv => whnf
  refine Tri.cond rfl (fun c154 => ?_) (fun c154 => ?_)
  ·replace hv := if_t c154 hv
   refine Tri.run (G := gm_ref05_Drop) tyOk mixed ?_
   conv => whnf
   refine Tri.seqK ?_
   replace hv := bind_some hv
   obtain ⟨y163, q164, hv⟩ := hv
   refine Tri.cut (fun ex S' => ex = .normal ∧ Weak S' ⟨28, 0, ofRegs [(0, .sl (List.map encPair l)), (1, .v (.string (bs key))), (5, .row 0 ((List.map encPair y163).length)), (6, .v (.int .i64 a146))], [.row 90 2 (List.map encPair y163)]⟩) ?_ ?_
   ·refine Tri.block ?_
    refine Tri.seqK ?_
    refine Tri.run (G := gm_ref05_Drop) tyOk mixed ?_
    conv => whnf
    replace q164 := bind_some q164
    obtain ⟨x165, q166, q164⟩ := q164
    refine ⟨(ix_some q166).1, ?_⟩
    conv => whnf
    refine ⟨⟨_, map_get encPair (ix_some q166).2, ?_⟩⟩
    conv => whnf
    refine ⟨rfl, ?_⟩
    conv => whnf
    refine ⟨⟨(!decide (x165.Key = key)), bs_ne _ _, ?_⟩⟩
    conv => whnf
    refine Tri.cond rfl (fun c167 => ?_) (fun c167 => ?_)
    ·replace q164 := if_t c167 q164
     refine Tri.run (G := gm_ref05_Drop) tyOk mixed ?_
     conv => whnf
     refine ⟨(ix_some q166).1, ?_⟩
     conv => whnf
     refine ⟨⟨_, map_get encPair (ix_some q166).2, ?_⟩⟩
     conv => whnf
     refine ⟨rfl, ?_⟩
     conv => whnf
     refine ⟨⟨List.map encPair [x165], rfl, ?_⟩⟩
     conv => whnf
     refine ⟨rfl, ?_⟩
     conv => whnf
     refine ⟨rfl, ?_⟩
     conv => whnf
     replace q164 := need_some q164
     obtain ⟨p168, q164⟩ := q164
     refine ⟨by simp only [List.length_map]; exact p168, ?_⟩
     conv => whnf
     refine ⟨⟨List.map encPair (a147 ++ [x165]), map_app encPair _ _ rfl rfl, ?_⟩⟩
     conv => whnf
     cases q164
     exact ⟨rfl, weak_fin _ rfl rfl rfl (.cons (.same rfl) (LeH.rest)) (.cons (.one (.same rfl)) (.cons (.one (.same rfl)) (.cons (.one (.same rfl)) (.cons (.one (.same rfl)) (.nil))))) rfl rfl⟩
    ·replace q164 := if_f c167 q164
     refine Tri.run (G := gm_ref05_Drop) tyOk mixed ?_
     conv => whnf
     cases q164
     exact ⟨rfl, weak_fin _ rfl rfl rfl (.cons (.same rfl) (LeH.rest)) (.cons (.one (.same rfl)) (.cons (.one (.same rfl)) (.cons (.one (.same rfl)) (.cons (.one (.same rfl)) (.nil))))) rfl rfl⟩
   ·rintro ex S' ⟨rfl, w169⟩
    conv => whnf
    refine Tri.weak w169 ?_
    refine Tri.run (G := gm_ref05_Drop) tyOk mixed ?_
    conv => whnf
    cases hv
    exact ⟨_, rfl, weak_fin _ rfl rfl rfl (.cons (.same rfl) (LeH.rest)) (.cons (.one (.same rfl)) (.cons (.one (.same rfl)) (.cons (.one (.same rfl)) (.cons (.one (.same rfl)) (.nil))))) rfl rfl⟩
  ·replace hv := if_f c154 hv
   refine Tri.run (G := gm_ref05_Drop) tyOk mixed ?_
   conv => whnf
   cases hv
   obtain rfl := r152 _ rfl
   exact ⟨rfl, weak_fin _ rfl rfl rfl (.cons (.same rfl) (LeH.rest)) (.cons (.one (.same rfl)) (.nil)) rfl rfl⟩
 ·rintro ex S' ⟨rfl, w170⟩
  conv => whnf
  refine Tri.weak w170 ?_
  refine Tri.seqK ?_
  refine Tri.run (G := gm_ref05_Drop) tyOk mixed ?_
  conv => whnf
  refine Tri.run (G := gm_ref05_Drop) tyOk mixed ?_
  conv => whnf
  refine fin_here ?_
  conv => whnf
  refine ⟨rfl, ?_⟩
  conv => whnf
  cases h
  rfl
end Go.Ab
