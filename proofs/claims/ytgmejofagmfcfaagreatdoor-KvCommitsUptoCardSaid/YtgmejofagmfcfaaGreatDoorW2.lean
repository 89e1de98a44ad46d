/- The program's functions as plain Lean functions, and that the program comes to what they come to. Printed by a program of this session. -/
import Derived.Test.YtgmejofagmfcfaaGreatDoorW1
namespace Go.Ab
open Go.Proofs
set_option linter.unusedVariables false
set_option linter.unusedSimpArgs false
set_option maxRecDepth 100000
set_option maxHeartbeats 4000000
noncomputable def disk_Append (d : Disk) (name : Str) (s : Str) : Option (Disk × Int) :=
 (disk_Find d name).bind fun y1 =>
 (
  if d.Off then
   some (.inr (.inl 6))
  else
   (disk_named name).bind fun y1210 =>
   if (!y1210) then
    some (.inr (.inl 1))
   else
    if ((!y1.2) && (decide ((d.Files.length : Int) ≥ 64))) then
     some (.inl ())
    else
     if (decide ((s.length : Int) > d.Room)) then
      some (.inl ())
     else
      (disk_size y1.1).bind fun y1227 =>
      if (decide ((IntKind.i64.wrap (y1227 + (s.length : Int))) > 65536)) then
       some (.inr (.inr (.inl ())))
      else
       some (.inr (.inr (.inr ())))).bind fun (y1124 : (Unit) ⊕ (Int) ⊕ (Unit) ⊕ (Unit)) =>
 match y1124 with
 | (.inl v1126) =>
  some (d, 5)
 | (.inr (.inl v1127)) =>
  some (d, v1127)
 | (.inr (.inr (.inl v1128))) =>
  some (d, 4)
 | (.inr (.inr (.inr v1129))) =>
  (
   if (!y1.2) then
    need (d.Files.length * 48 ≤ 140737488355328) <|
    need ((d.Files.length + 1) * 48 ≤ 140737488355328) <|
    some (d.Files ++ [({ Name := name, Safe := [], Wait := [] } : File)])
   else
    some d.Files).bind fun (y1237 : (List File)) =>
  (
   if ((decide (d.Fuse ≥ 0)) && (decide (d.Fuse < (s.length : Int)))) then
    need ((0 : Int) ≤ (0 : Int) ∧ 0 ≤ d.Fuse ∧ d.Fuse ≤ (s.length : Int)) <|
    some (cut s 0 d.Fuse)
   else
    some s).bind fun (y1257 : Str) =>
  (disk_at ({ Files := y1237, Room := d.Room, Fuse := d.Fuse, Off := d.Off } : Disk) name).bind fun y1267 =>
  (ix y1237 y1267).bind fun x1269 =>
  need (x1269.Wait.length + y1257.length ≤ 9223372036854775807) <|
  (disk_set_File y1237 y1267 ({ Name := x1269.Name, Safe := x1269.Safe, Wait := (x1269.Wait ++ y1257) } : File)).bind fun y1272 =>
  if (decide ((y1257.length : Int) < (s.length : Int))) then
   some (({ Files := y1272, Room := (IntKind.i64.wrap (d.Room - (y1257.length : Int))), Fuse := (if (decide (d.Fuse ≥ 0)) then (IntKind.i64.wrap (d.Fuse - (y1257.length : Int))) else d.Fuse), Off := true } : Disk), 6)
  else
   some (({ Files := y1272, Room := (IntKind.i64.wrap (d.Room - (y1257.length : Int))), Fuse := (if (decide (d.Fuse ≥ 0)) then (IntKind.i64.wrap (d.Fuse - (y1257.length : Int))) else d.Fuse), Off := d.Off } : Disk), 0)
def gm_disk_Append : Gm := ⟨tys, [], [(106, 64, 3)], []⟩
theorem disk_Append_walk (d : Disk) (name : Str) (s : Str) (r : Disk × Int) (h : disk_Append d name s = some r) : PureP Tryz.prog 103 [.agg [.sl (List.map encFile d.Files), .v (.int .i64 d.Room), .v (.int .i64 d.Fuse), .v (.bool d.Off)], .v (.string (bs name)), .v (.string (bs s))] (fun a => a = .tup [.agg [.sl (List.map encFile r.1.Files), .v (.int .i64 r.1.Room), .v (.int .i64 r.1.Fuse), .v (.bool r.1.Off)], .v (.int .i64 r.2)]) := by
 unfold disk_Append at h
 refine pureW (G := gm_disk_Append) tyOk Tryz.func103 rfl (by kernel_rfl) (by simp [Tryz.f103]) ?_
 refine Tri.seqK ?_
 refine Tri.run (G := gm_disk_Append) tyOk mixed ?_
 conv => whnf
 refine Tri.seqK ?_
 refine Tri.run (G := gm_disk_Append) tyOk mixed ?_
 conv => whnf
 replace h := bind_some h
 obtain ⟨y1, q2, h⟩ := h
 refine PureP.mono (disk_Find_walk d name y1 q2) ?_
 rintro _ rfl
 conv => whnf
 refine Tri.seqK ?_
 refine Tri.block ?_
 refine Tri.seqK ?_
 refine Tri.block ?_
 refine Tri.seqK ?_
 replace h := bind_some h
 obtain ⟨y1124, q1125, h⟩ := h
 refine Tri.cut (fun ex S' => (∃ v1126 : Unit, y1124 = (.inl v1126) ∧ ex = .normal ∧ Weak S' ⟨118, 0, ofRegs [(3, .ptr 0 0), (6, .ptr 1 0)], [.var 31 [.sl (List.map encFile d.Files), .v (.int .i64 d.Room), .v (.int .i64 d.Fuse), .v (.bool d.Off)], .var 31 [.v (.slice none 0 0), .v (.int .i64 0), .v (.int .i64 0), .v (.bool false)]]⟩) ∨ (∃ v1127 : Int, y1124 = (.inr (.inl v1127)) ∧ ex = .ret ∧ Weak S' ⟨118, 0, ofRegs [(6, .ptr 1 0), (7, .v (.int .i64 v1127))], [.gone, .var 31 [.sl (List.map encFile d.Files), .v (.int .i64 d.Room), .v (.int .i64 d.Fuse), .v (.bool d.Off)]]⟩) ∨ (∃ v1128 : Unit, y1124 = (.inr (.inr (.inl v1128))) ∧ ex = (.exit 5) ∧ Weak S' ⟨118, 0, ofRegs [(3, .ptr 0 0), (6, .ptr 1 0)], [.var 31 [.sl (List.map encFile d.Files), .v (.int .i64 d.Room), .v (.int .i64 d.Fuse), .v (.bool d.Off)], .var 31 [.v (.slice none 0 0), .v (.int .i64 0), .v (.int .i64 0), .v (.bool false)]]⟩) ∨ (∃ v1129 : Unit, y1124 = (.inr (.inr (.inr v1129))) ∧ ex = (.exit 0) ∧ Weak S' ⟨118, 0, ofRegs [(1, .v (.string (bs name))), (2, .v (.string (bs s))), (3, .ptr 0 0), (6, .ptr 1 0), (8, .ptr 2 0), (9, .v (.bool y1.2))], [.var 31 [.sl (List.map encFile d.Files), .v (.int .i64 d.Room), .v (.int .i64 d.Fuse), .v (.bool d.Off)], .var 31 [.v (.slice none 0 0), .v (.int .i64 0), .v (.int .i64 0), .v (.bool false)], .var 64 [.v (.string (bs y1.1.Name)), .v (.string (bs y1.1.Safe)), .v (.string (bs y1.1.Wait))]]⟩)) ?_ ?_
 ·refine Tri.block ?_
  refine Tri.block ?_
  refine Tri.seqK ?_
  refine Tri.block ?_
  refine Tri.seqK ?_
  refine Tri.block ?_
  refine Tri.seqK ?_
  refine Tri.seqK ?_
  refine Tri.seqK ?_
  refine Tri.run (G := gm_disk_Append) tyOk mixed ?_
  conv => whnf
  refine Tri.cond rfl (fun c1206 => ?_) (fun c1206 => ?_)
  ·replace q1125 := if_t c1206 q1125
   refine Tri.run (G := gm_disk_Append) tyOk mixed ?_
   conv => whnf
   refine Tri.seqK ?_
   refine Tri.seqK ?_
   refine Tri.run (G := gm_disk_Append) tyOk mixed ?_
   conv => whnf
   refine Tri.run (G := gm_disk_Append) tyOk mixed ?_
   conv => whnf
   cases q1125
   exact Or.inr (Or.inl ⟨_, rfl, rfl, weak_fin _ rfl rfl rfl (.cons (.gone) (.cons (.same rfl) (LeH.rest))) (.cons (.one (.same rfl)) (.cons (.one (.same rfl)) (.nil))) rfl rfl⟩)
  ·replace q1125 := if_f c1206 q1125
   refine Tri.run (G := gm_disk_Append) tyOk mixed ?_
   conv => whnf
   refine Tri.seqK ?_
   refine Tri.seqK ?_
   refine Tri.run (G := gm_disk_Append) tyOk mixed ?_
   conv => whnf
   replace q1125 := bind_some q1125
   obtain ⟨y1210, q1211, q1125⟩ := q1125
   refine PureP.mono (disk_named_walk name y1210 q1211) ?_
   rintro _ rfl
   conv => whnf
   refine Tri.cond rfl (fun c1212 => ?_) (fun c1212 => ?_)
   ·replace q1125 := if_t c1212 q1125
    refine Tri.run (G := gm_disk_Append) tyOk mixed ?_
    conv => whnf
    refine Tri.seqK ?_
    refine Tri.seqK ?_
    refine Tri.run (G := gm_disk_Append) tyOk mixed ?_
    conv => whnf
    refine Tri.run (G := gm_disk_Append) tyOk mixed ?_
    conv => whnf
    cases q1125
    exact Or.inr (Or.inl ⟨_, rfl, rfl, weak_fin _ rfl rfl rfl (.cons (.gone) (.cons (.same rfl) (LeH.rest))) (.cons (.one (.same rfl)) (.cons (.one (.same rfl)) (.nil))) rfl rfl⟩)
   ·replace q1125 := if_f c1212 q1125
    refine Tri.run (G := gm_disk_Append) tyOk mixed ?_
    conv => whnf
    refine Tri.seqK ?_
    refine Tri.seqK ?_
    refine Tri.cut (fun ex S' => ex = .normal ∧ Weak S' ⟨118, 0, ofRegs [(1, .v (.string (bs name))), (2, .v (.string (bs s))), (3, .ptr 0 0), (6, .ptr 1 0), (8, .ptr 2 0), (9, .v (.bool y1.2)), (25, .v (.bool ((!y1.2) && (decide ((d.Files.length : Int) ≥ 64)))))], [.var 31 [.sl (List.map encFile d.Files), .v (.int .i64 d.Room), .v (.int .i64 d.Fuse), .v (.bool d.Off)], .var 31 [.v (.slice none 0 0), .v (.int .i64 0), .v (.int .i64 0), .v (.bool false)], .var 64 [.v (.string (bs y1.1.Name)), .v (.string (bs y1.1.Safe)), .v (.string (bs y1.1.Wait))]]⟩) ?_ ?_
    ·refine Tri.run (G := gm_disk_Append) tyOk mixed ?_
     conv => whnf
     refine cond_mk (fun c1222 => ?_) (fun c1222 => ?_)
     ·replace c1222 : (!y1.2) = true := c1222
      conv => whnf
      refine ⟨⟨(d.Files.length : Int), (len_map _ _).symm, ?_⟩⟩
      conv => whnf
      exact ⟨rfl, weak_fin _ rfl rfl rfl (.cons (.same rfl) (.cons (.same rfl) (.cons (.same rfl) (LeH.rest)))) (.cons (.one (.same rfl)) (.cons (.one (.same rfl)) (.cons (.one (.same rfl)) (.cons (.one (.same rfl)) (.cons (.one (.same rfl)) (.cons (.one (.same rfl)) (.cons (.one (.same (show (.v (.bool (decide ((d.Files.length : Int) ≥ 64))) : AV) = (.v (.bool ((!y1.2) && (decide ((d.Files.length : Int) ≥ 64)))) : AV) from by first | (simp [c1222]; done) | (simp only [c1222, Bool.or_true, Bool.true_or, Bool.false_or, Bool.or_false, Bool.and_true, Bool.true_and, Bool.and_false, Bool.false_and, Bool.not_true, Bool.not_false, if_true, if_false, Bool.false_eq_true]; done) | (exfalso; revert c1222; simp +contextual; done)))) (.nil)))))))) rfl rfl⟩
     ·replace c1222 : (!y1.2) = false := c1222
      conv => whnf
      exact ⟨rfl, weak_fin _ rfl rfl rfl (.cons (.same rfl) (.cons (.same rfl) (.cons (.same rfl) (LeH.rest)))) (.cons (.one (.same rfl)) (.cons (.one (.same rfl)) (.cons (.one (.same rfl)) (.cons (.one (.same rfl)) (.cons (.one (.same rfl)) (.cons (.one (.same rfl)) (.cons (.one (.same (show (.v (.bool false) : AV) = (.v (.bool ((!y1.2) && (decide ((d.Files.length : Int) ≥ 64)))) : AV) from by first | (simp [c1222]; done) | (simp only [c1222, Bool.or_true, Bool.true_or, Bool.false_or, Bool.or_false, Bool.and_true, Bool.true_and, Bool.and_false, Bool.false_and, Bool.not_true, Bool.not_false, if_true, if_false, Bool.false_eq_true]; done) | (exfalso; revert c1222; simp +contextual; done)))) (.nil)))))))) rfl rfl⟩
    ·rintro ex S' ⟨rfl, w1223⟩
     conv => whnf
     refine Tri.weak w1223 ?_
     refine Tri.cond rfl (fun c1224 => ?_) (fun c1224 => ?_)
     ·replace q1125 := if_t c1224 q1125
      refine Tri.run (G := gm_disk_Append) tyOk mixed ?_
      conv => whnf
      cases q1125
      exact Or.inl ⟨_, rfl, rfl, weak_fin _ rfl rfl rfl (.cons (.same rfl) (.cons (.same rfl) (LeH.rest))) (.cons (.one (.same rfl)) (.cons (.one (.same rfl)) (.nil))) rfl rfl⟩
     ·replace q1125 := if_f c1224 q1125
      refine Tri.run (G := gm_disk_Append) tyOk mixed ?_
      conv => whnf
      refine Tri.seqK ?_
      refine Tri.seqK ?_
      refine Tri.run (G := gm_disk_Append) tyOk mixed ?_
      conv => whnf
      refine ⟨⟨(s.length : Int), rfl, ?_⟩⟩
      conv => whnf
      refine Tri.cond rfl (fun c1226 => ?_) (fun c1226 => ?_)
      ·replace q1125 := if_t c1226 q1125
       refine Tri.run (G := gm_disk_Append) tyOk mixed ?_
       conv => whnf
       cases q1125
       exact Or.inl ⟨_, rfl, rfl, weak_fin _ rfl rfl rfl (.cons (.same rfl) (.cons (.same rfl) (LeH.rest))) (.cons (.one (.same rfl)) (.cons (.one (.same rfl)) (.nil))) rfl rfl⟩
      ·replace q1125 := if_f c1226 q1125
       refine Tri.run (G := gm_disk_Append) tyOk mixed ?_
       conv => whnf
       refine Tri.seqK ?_
       refine Tri.run (G := gm_disk_Append) tyOk mixed ?_
       conv => whnf
       replace q1125 := bind_some q1125
       obtain ⟨y1227, q1228, q1125⟩ := q1125
       refine PureP.mono (disk_size_walk y1.1 y1227 q1228) ?_
       rintro _ rfl
       conv => whnf
       refine ⟨⟨(s.length : Int), rfl, ?_⟩⟩
       conv => whnf
       refine Tri.cond rfl (fun c1229 => ?_) (fun c1229 => ?_)
       ·replace q1125 := if_t c1229 q1125
        refine Tri.run (G := gm_disk_Append) tyOk mixed ?_
        conv => whnf
        cases q1125
        exact Or.inr (Or.inr (Or.inl ⟨_, rfl, rfl, weak_fin _ rfl rfl rfl (.cons (.same rfl) (.cons (.same rfl) (LeH.rest))) (.cons (.one (.same rfl)) (.cons (.one (.same rfl)) (.nil))) rfl rfl⟩))
       ·replace q1125 := if_f c1229 q1125
        refine Tri.run (G := gm_disk_Append) tyOk mixed ?_
        conv => whnf
        refine Tri.run (G := gm_disk_Append) tyOk mixed ?_
        conv => whnf
        cases q1125
        exact Or.inr (Or.inr (Or.inr (⟨_, rfl, rfl, weak_fin _ rfl rfl rfl (.cons (.same rfl) (.cons (.same rfl) (.cons (.same rfl) (LeH.rest)))) (.cons (.one (.same rfl)) (.cons (.one (.same rfl)) (.cons (.one (.same rfl)) (.cons (.one (.same rfl)) (.cons (.one (.same rfl)) (.cons (.one (.same rfl)) (.nil))))))) rfl rfl⟩)))
 ·rintro ex S' (⟨v1126, rfl, rfl, w1230⟩ | ⟨v1127, rfl, rfl, w1230⟩ | ⟨v1128, rfl, rfl, w1230⟩ | ⟨v1129, rfl, rfl, w1230⟩)
  ·dsimp only at h
   conv => whnf
   refine Tri.weak w1230 ?_
   refine Tri.seqK ?_
   refine Tri.seqK ?_
   refine Tri.run (G := gm_disk_Append) tyOk mixed ?_
   conv => whnf
   refine Tri.run (G := gm_disk_Append) tyOk mixed ?_
   conv => whnf
   refine fin_here ?_
   conv => whnf
   cases h
   rfl
  ·dsimp only at h
   conv => whnf
   refine fin_pre w1230 ?_
   conv => whnf
   cases h
   rfl
  ·dsimp only at h
   conv => whnf
   refine Tri.weak w1230 ?_
   refine Tri.seqK ?_
   refine Tri.seqK ?_
   refine Tri.run (G := gm_disk_Append) tyOk mixed ?_
   conv => whnf
   refine Tri.run (G := gm_disk_Append) tyOk mixed ?_
   conv => whnf
   refine fin_here ?_
   conv => whnf
   cases h
   rfl
  ·dsimp only at h
   conv => whnf
   refine Tri.weak w1230 ?_
   refine Tri.seqK ?_
   replace h := bind_some h
   obtain ⟨y1237, q1238, h⟩ := h
   refine Tri.cut (fun ex S' => ex = .normal ∧ Weak S' ⟨118, 0, ofRegs [(1, .v (.string (bs name))), (2, .v (.string (bs s))), (3, .ptr 0 0), (6, .ptr 1 0), (8, .ptr 2 0)], [.var 31 [.sl (List.map encFile y1237), .v (.int .i64 d.Room), .v (.int .i64 d.Fuse), .v (.bool d.Off)], .var 31 [.v (.slice none 0 0), .v (.int .i64 0), .v (.int .i64 0), .v (.bool false)], .var 64 [.v (.string (bs y1.1.Name)), .v (.string (bs y1.1.Safe)), .v (.string (bs y1.1.Wait))]]⟩) ?_ ?_
   ·refine Tri.seqK ?_
    refine Tri.run (G := gm_disk_Append) tyOk mixed ?_
    conv => whnf
    refine Tri.cond rfl (fun c1239 => ?_) (fun c1239 => ?_)
    ·replace q1238 := if_t c1239 q1238
     refine Tri.run (G := gm_disk_Append) tyOk mixed ?_
     conv => whnf
     replace q1238 := need_some q1238
     obtain ⟨p1240, q1238⟩ := q1238
     refine FreshP.mono (clone_106 d.Files p1240) ?_
     rintro _ rfl
     conv => whnf
     refine ⟨⟨List.map encFile [({ Name := name, Safe := [], Wait := [] } : File)], rfl, ?_⟩⟩
     conv => whnf
     refine ⟨rfl, ?_⟩
     conv => whnf
     refine ⟨rfl, ?_⟩
     conv => whnf
     replace q1238 := need_some q1238
     obtain ⟨p1241, q1238⟩ := q1238
     refine ⟨by simp only [List.length_map]; exact p1241, ?_⟩
     conv => whnf
     refine ⟨⟨List.map encFile (d.Files ++ [({ Name := name, Safe := [], Wait := [] } : File)]), map_app encFile _ _ rfl rfl, ?_⟩⟩
     conv => whnf
     cases q1238
     exact ⟨rfl, Weak.trans (weak_freeze 3 rfl) (weak_fin _ rfl rfl rfl (.cons (.var (.cons (.frz rfl (rfl)) (.cons (.same rfl) (.cons (.same rfl) (.cons (.same rfl) (.nil)))))) (.cons (.same rfl) (.cons (.same rfl) (LeH.rest)))) (.cons (.one (.same rfl)) (.cons (.one (.same rfl)) (.cons (.one (.same rfl)) (.cons (.one (.same rfl)) (.cons (.one (.same rfl)) (.nil)))))) rfl rfl)⟩
    ·replace q1238 := if_f c1239 q1238
     refine Tri.run (G := gm_disk_Append) tyOk mixed ?_
     conv => whnf
     cases q1238
     exact ⟨rfl, weak_fin _ rfl rfl rfl (.cons (.same rfl) (.cons (.same rfl) (.cons (.same rfl) (LeH.rest)))) (.cons (.one (.same rfl)) (.cons (.one (.same rfl)) (.cons (.one (.same rfl)) (.cons (.one (.same rfl)) (.cons (.one (.same rfl)) (.nil)))))) rfl rfl⟩
   ·rintro ex S' ⟨rfl, w1242⟩
    conv => whnf
    refine Tri.weak w1242 ?_
    refine Tri.seqK ?_
    refine Tri.run (G := gm_disk_Append) tyOk mixed ?_
    conv => whnf
    refine Tri.seqK ?_
    replace h := bind_some h
    obtain ⟨y1257, q1258, h⟩ := h
    refine Tri.cut (fun ex S' => ex = .normal ∧ Weak S' ⟨118, 0, ofRegs [(1, .v (.string (bs name))), (2, .v (.string (bs s))), (3, .ptr 0 0), (6, .ptr 1 0), (8, .ptr 2 0), (10, .v (.string (bs y1257)))], [.var 31 [.sl (List.map encFile y1237), .v (.int .i64 d.Room), .v (.int .i64 d.Fuse), .v (.bool d.Off)], .var 31 [.v (.slice none 0 0), .v (.int .i64 0), .v (.int .i64 0), .v (.bool false)], .var 64 [.v (.string (bs y1.1.Name)), .v (.string (bs y1.1.Safe)), .v (.string (bs y1.1.Wait))]]⟩) ?_ ?_
    ·refine Tri.seqK ?_
     refine Tri.cut (fun ex S' => ex = .normal ∧ Weak S' ⟨118, 0, ofRegs [(1, .v (.string (bs name))), (2, .v (.string (bs s))), (3, .ptr 0 0), (6, .ptr 1 0), (8, .ptr 2 0), (10, .v (.string (bs s))), (71, .v (.bool ((decide (d.Fuse ≥ 0)) && (decide (d.Fuse < (s.length : Int))))))], [.var 31 [.sl (List.map encFile y1237), .v (.int .i64 d.Room), .v (.int .i64 d.Fuse), .v (.bool d.Off)], .var 31 [.v (.slice none 0 0), .v (.int .i64 0), .v (.int .i64 0), .v (.bool false)], .var 64 [.v (.string (bs y1.1.Name)), .v (.string (bs y1.1.Safe)), .v (.string (bs y1.1.Wait))]]⟩) ?_ ?_
     ·refine Tri.run (G := gm_disk_Append) tyOk mixed ?_
      conv => whnf
      refine cond_mk (fun c1262 => ?_) (fun c1262 => ?_)
      ·replace c1262 : (decide (d.Fuse ≥ 0)) = true := c1262
       conv => whnf
       refine ⟨⟨(s.length : Int), rfl, ?_⟩⟩
       conv => whnf
       exact ⟨rfl, weak_fin _ rfl rfl rfl (.cons (.same rfl) (.cons (.same rfl) (.cons (.same rfl) (LeH.rest)))) (.cons (.one (.same rfl)) (.cons (.one (.same rfl)) (.cons (.one (.same rfl)) (.cons (.one (.same rfl)) (.cons (.one (.same rfl)) (.cons (.one (.same rfl)) (.cons (.one (.same (show (.v (.bool (decide (d.Fuse < (s.length : Int)))) : AV) = (.v (.bool ((decide (d.Fuse ≥ 0)) && (decide (d.Fuse < (s.length : Int))))) : AV) from by first | (simp [c1262]; done) | (simp only [c1262, Bool.or_true, Bool.true_or, Bool.false_or, Bool.or_false, Bool.and_true, Bool.true_and, Bool.and_false, Bool.false_and, Bool.not_true, Bool.not_false, if_true, if_false, Bool.false_eq_true]; done) | (exfalso; revert c1262; simp +contextual; done)))) (.nil)))))))) rfl rfl⟩
      ·replace c1262 : (decide (d.Fuse ≥ 0)) = false := c1262
       conv => whnf
       exact ⟨rfl, weak_fin _ rfl rfl rfl (.cons (.same rfl) (.cons (.same rfl) (.cons (.same rfl) (LeH.rest)))) (.cons (.one (.same rfl)) (.cons (.one (.same rfl)) (.cons (.one (.same rfl)) (.cons (.one (.same rfl)) (.cons (.one (.same rfl)) (.cons (.one (.same rfl)) (.cons (.one (.same (show (.v (.bool false) : AV) = (.v (.bool ((decide (d.Fuse ≥ 0)) && (decide (d.Fuse < (s.length : Int))))) : AV) from by first | (simp [c1262]; done) | (simp only [c1262, Bool.or_true, Bool.true_or, Bool.false_or, Bool.or_false, Bool.and_true, Bool.true_and, Bool.and_false, Bool.false_and, Bool.not_true, Bool.not_false, if_true, if_false, Bool.false_eq_true]; done) | (exfalso; revert c1262; simp +contextual; done)))) (.nil)))))))) rfl rfl⟩
     ·rintro ex S' ⟨rfl, w1263⟩
      conv => whnf
      refine Tri.weak w1263 ?_
      refine Tri.cond rfl (fun c1264 => ?_) (fun c1264 => ?_)
      ·replace q1258 := if_t c1264 q1258
       refine Tri.run (G := gm_disk_Append) tyOk mixed ?_
       conv => whnf
       replace q1258 := need_some q1258
       obtain ⟨p1265, q1258⟩ := q1258
       refine ⟨p1265, ?_⟩
       conv => whnf
       refine ⟨⟨bs (cut s 0 d.Fuse), bs_cut _ _ _, ?_⟩⟩
       conv => whnf
       cases q1258
       exact ⟨rfl, weak_fin _ rfl rfl rfl (.cons (.same rfl) (.cons (.same rfl) (.cons (.same rfl) (LeH.rest)))) (.cons (.one (.same rfl)) (.cons (.one (.same rfl)) (.cons (.one (.same rfl)) (.cons (.one (.same rfl)) (.cons (.one (.same rfl)) (.cons (.one (.same rfl)) (.nil))))))) rfl rfl⟩
      ·replace q1258 := if_f c1264 q1258
       refine Tri.run (G := gm_disk_Append) tyOk mixed ?_
       conv => whnf
       cases q1258
       exact ⟨rfl, weak_fin _ rfl rfl rfl (.cons (.same rfl) (.cons (.same rfl) (.cons (.same rfl) (LeH.rest)))) (.cons (.one (.same rfl)) (.cons (.one (.same rfl)) (.cons (.one (.same rfl)) (.cons (.one (.same rfl)) (.cons (.one (.same rfl)) (.cons (.one (.same rfl)) (.nil))))))) rfl rfl⟩
    ·rintro ex S' ⟨rfl, w1266⟩
     conv => whnf
     refine Tri.weak w1266 ?_
     refine Tri.seqK ?_
     refine Tri.run (G := gm_disk_Append) tyOk mixed ?_
     conv => whnf
     replace h := bind_some h
     obtain ⟨y1267, q1268, h⟩ := h
     refine PureP.mono (disk_at_walk ({ Files := y1237, Room := d.Room, Fuse := d.Fuse, Off := d.Off } : Disk) name y1267 q1268) ?_
     rintro _ rfl
     conv => whnf
     refine Tri.seqK ?_
     refine Tri.run (G := gm_disk_Append) tyOk mixed ?_
     conv => whnf
     replace h := bind_some h
     obtain ⟨x1269, q1270, h⟩ := h
     refine ⟨(ix_some q1270).1, ?_⟩
     conv => whnf
     refine ⟨⟨_, map_get encFile (ix_some q1270).2, ?_⟩⟩
     conv => whnf
     refine ⟨rfl, ?_⟩
     conv => whnf
     refine Tri.seqK ?_
     refine Tri.run (G := gm_disk_Append) tyOk mixed ?_
     conv => whnf
     replace h := need_some h
     obtain ⟨p1271, h⟩ := h
     refine ⟨p1271, ?_⟩
     conv => whnf
     refine ⟨⟨bs (x1269.Wait ++ y1257), bs_append _ _, ?_⟩⟩
     conv => whnf
     refine Tri.seqK ?_
     refine Tri.run (G := gm_disk_Append) tyOk mixed ?_
     conv => whnf
     replace h := bind_some h
     obtain ⟨y1272, q1273, h⟩ := h
     refine PureP.mono (disk_set_File_walk y1237 y1267 ({ Name := x1269.Name, Safe := x1269.Safe, Wait := (x1269.Wait ++ y1257) } : File) y1272 q1273) ?_
     rintro _ rfl
     conv => whnf
     refine Tri.seqK ?_
     refine Tri.run (G := gm_disk_Append) tyOk mixed ?_
     conv => whnf
     refine ⟨⟨(y1257.length : Int), rfl, ?_⟩⟩
     conv => whnf
     refine Tri.seqK ?_
     refine Tri.cut (fun ex S' => ex = .normal ∧ Weak S' ⟨118, 0, ofRegs [(2, .v (.string (bs s))), (3, .ptr 0 0), (6, .ptr 1 0), (10, .v (.string (bs y1257)))], [.var 31 [.sl (List.map encFile y1272), .v (.int .i64 (IntKind.i64.wrap (d.Room - (y1257.length : Int)))), .v (.int .i64 (if (decide (d.Fuse ≥ 0)) then (IntKind.i64.wrap (d.Fuse - (y1257.length : Int))) else d.Fuse)), .v (.bool d.Off)], .var 31 [.v (.slice none 0 0), .v (.int .i64 0), .v (.int .i64 0), .v (.bool false)]]⟩) ?_ ?_
     ·refine Tri.seqK ?_
      refine Tri.run (G := gm_disk_Append) tyOk mixed ?_
      conv => whnf
      refine Tri.cond rfl (fun c1277 => ?_) (fun c1277 => ?_)
      ·replace c1277 : (decide (d.Fuse ≥ 0)) = true := c1277
       refine Tri.run (G := gm_disk_Append) tyOk mixed ?_
       conv => whnf
       refine ⟨⟨(y1257.length : Int), rfl, ?_⟩⟩
       conv => whnf
       exact ⟨rfl, weak_fin _ rfl rfl rfl (.cons (.var (.cons (.same rfl) (.cons (.same rfl) (.cons (.same (show (.v (.int .i64 (IntKind.i64.wrap (d.Fuse - (y1257.length : Int)))) : AV) = (.v (.int .i64 (if (decide (d.Fuse ≥ 0)) then (IntKind.i64.wrap (d.Fuse - (y1257.length : Int))) else d.Fuse)) : AV) from by first | (simp [c1277]; done) | (simp only [c1277, Bool.or_true, Bool.true_or, Bool.false_or, Bool.or_false, Bool.and_true, Bool.true_and, Bool.and_false, Bool.false_and, Bool.not_true, Bool.not_false, if_true, if_false, Bool.false_eq_true]; done) | (exfalso; revert c1277; simp +contextual; done))) (.cons (.same rfl) (.nil)))))) (.cons (.same rfl) (LeH.rest))) (.cons (.one (.same rfl)) (.cons (.one (.same rfl)) (.cons (.one (.same rfl)) (.cons (.one (.same rfl)) (.nil))))) rfl rfl⟩
      ·replace c1277 : (decide (d.Fuse ≥ 0)) = false := c1277
       refine Tri.run (G := gm_disk_Append) tyOk mixed ?_
       conv => whnf
       exact ⟨rfl, weak_fin _ rfl rfl rfl (.cons (.var (.cons (.same rfl) (.cons (.same rfl) (.cons (.same (show (.v (.int .i64 d.Fuse) : AV) = (.v (.int .i64 (if (decide (d.Fuse ≥ 0)) then (IntKind.i64.wrap (d.Fuse - (y1257.length : Int))) else d.Fuse)) : AV) from by first | (simp [c1277]; done) | (simp only [c1277, Bool.or_true, Bool.true_or, Bool.false_or, Bool.or_false, Bool.and_true, Bool.true_and, Bool.and_false, Bool.false_and, Bool.not_true, Bool.not_false, if_true, if_false, Bool.false_eq_true]; done) | (exfalso; revert c1277; simp +contextual; done))) (.cons (.same rfl) (.nil)))))) (.cons (.same rfl) (LeH.rest))) (.cons (.one (.same rfl)) (.cons (.one (.same rfl)) (.cons (.one (.same rfl)) (.cons (.one (.same rfl)) (.nil))))) rfl rfl⟩
     ·rintro ex S' ⟨rfl, w1278⟩
      conv => whnf
      refine Tri.weak w1278 ?_
      refine Tri.seqK ?_
      refine Tri.seqK ?_
      refine Tri.run (G := gm_disk_Append) tyOk mixed ?_
      conv => whnf
      refine ⟨⟨(y1257.length : Int), rfl, ?_⟩⟩
      conv => whnf
      refine ⟨⟨(s.length : Int), rfl, ?_⟩⟩
      conv => whnf
      refine Tri.cond rfl (fun c1280 => ?_) (fun c1280 => ?_)
      ·replace h := if_t c1280 h
       refine Tri.seqK ?_
       refine Tri.run (G := gm_disk_Append) tyOk mixed ?_
       conv => whnf
       refine Tri.seqK ?_
       refine Tri.run (G := gm_disk_Append) tyOk mixed ?_
       conv => whnf
       refine Tri.run (G := gm_disk_Append) tyOk mixed ?_
       conv => whnf
       refine fin_here ?_
       conv => whnf
       cases h
       rfl
      ·replace h := if_f c1280 h
       refine Tri.run (G := gm_disk_Append) tyOk mixed ?_
       conv => whnf
       refine Tri.seqK ?_
       refine Tri.run (G := gm_disk_Append) tyOk mixed ?_
       conv => whnf
       refine Tri.run (G := gm_disk_Append) tyOk mixed ?_
       conv => whnf
       refine fin_here ?_
       conv => whnf
       cases h
       rfl
noncomputable def disk_Sync (d : Disk) (name : Str) : Option (Disk × Int) :=
 (disk_at d name).bind fun y1 =>
 if d.Off then
  some (d, 6)
 else
  if (decide (y1 < 0)) then
   some (d, 7)
  else
   (ix d.Files y1).bind fun x7 =>
   need (x7.Safe.length + x7.Wait.length ≤ 9223372036854775807) <|
   (disk_set_File d.Files y1 ({ Name := x7.Name, Safe := (x7.Safe ++ x7.Wait), Wait := [] } : File)).bind fun y10 =>
   some (({ Files := y10, Room := d.Room, Fuse := d.Fuse, Off := d.Off } : Disk), 0)
def gm_disk_Sync : Gm := ⟨tys, [], [], []⟩
theorem disk_Sync_walk (d : Disk) (name : Str) (r : Disk × Int) (h : disk_Sync d name = some r) : PureP Tryz.prog 102 [.agg [.sl (List.map encFile d.Files), .v (.int .i64 d.Room), .v (.int .i64 d.Fuse), .v (.bool d.Off)], .v (.string (bs name))] (fun a => a = .tup [.agg [.sl (List.map encFile r.1.Files), .v (.int .i64 r.1.Room), .v (.int .i64 r.1.Fuse), .v (.bool r.1.Off)], .v (.int .i64 r.2)]) := by
 unfold disk_Sync at h
 refine pureW (G := gm_disk_Sync) tyOk Tryz.func102 rfl (by kernel_rfl) (by simp [Tryz.f102]) ?_
 refine Tri.seqK ?_
 refine Tri.run (G := gm_disk_Sync) tyOk mixed ?_
 conv => whnf
 refine Tri.seqK ?_
 refine Tri.run (G := gm_disk_Sync) tyOk mixed ?_
 conv => whnf
 replace h := bind_some h
 obtain ⟨y1, q2, h⟩ := h
 refine PureP.mono (disk_at_walk d name y1 q2) ?_
 rintro _ rfl
 conv => whnf
 refine Tri.seqK ?_
 refine Tri.block ?_
 refine Tri.seqK ?_
 refine Tri.run (G := gm_disk_Sync) tyOk mixed ?_
 conv => whnf
 refine Tri.cond rfl (fun c5 => ?_) (fun c5 => ?_)
 ·replace h := if_t c5 h
  refine Tri.seqK ?_
  refine Tri.run (G := gm_disk_Sync) tyOk mixed ?_
  conv => whnf
  refine Tri.run (G := gm_disk_Sync) tyOk mixed ?_
  conv => whnf
  refine fin_here ?_
  conv => whnf
  cases h
  rfl
 ·replace h := if_f c5 h
  refine Tri.seqK ?_
  refine Tri.run (G := gm_disk_Sync) tyOk mixed ?_
  conv => whnf
  refine Tri.cond rfl (fun c6 => ?_) (fun c6 => ?_)
  ·replace h := if_t c6 h
   refine Tri.seqK ?_
   refine Tri.run (G := gm_disk_Sync) tyOk mixed ?_
   conv => whnf
   refine Tri.run (G := gm_disk_Sync) tyOk mixed ?_
   conv => whnf
   refine fin_here ?_
   conv => whnf
   cases h
   rfl
  ·replace h := if_f c6 h
   refine Tri.run (G := gm_disk_Sync) tyOk mixed ?_
   conv => whnf
   refine Tri.seqK ?_
   refine Tri.run (G := gm_disk_Sync) tyOk mixed ?_
   conv => whnf
   replace h := bind_some h
   obtain ⟨x7, q8, h⟩ := h
   refine ⟨(ix_some q8).1, ?_⟩
   conv => whnf
   refine ⟨⟨_, map_get encFile (ix_some q8).2, ?_⟩⟩
   conv => whnf
   refine ⟨rfl, ?_⟩
   conv => whnf
   refine Tri.seqK ?_
   refine Tri.run (G := gm_disk_Sync) tyOk mixed ?_
   conv => whnf
   replace h := need_some h
   obtain ⟨p9, h⟩ := h
   refine ⟨p9, ?_⟩
   conv => whnf
   refine ⟨⟨bs (x7.Safe ++ x7.Wait), bs_append _ _, ?_⟩⟩
   conv => whnf
   refine Tri.seqK ?_
   refine Tri.run (G := gm_disk_Sync) tyOk mixed ?_
   conv => whnf
   replace h := bind_some h
   obtain ⟨y10, q11, h⟩ := h
   refine PureP.mono (disk_set_File_walk d.Files y1 ({ Name := x7.Name, Safe := (x7.Safe ++ x7.Wait), Wait := [] } : File) y10 q11) ?_
   rintro _ rfl
   conv => whnf
   refine Tri.seqK ?_
   refine Tri.run (G := gm_disk_Sync) tyOk mixed ?_
   conv => whnf
   refine Tri.run (G := gm_disk_Sync) tyOk mixed ?_
   conv => whnf
   refine fin_here ?_
   conv => whnf
   cases h
   rfl
noncomputable def disk_Rename (d : Disk) (from_ : Str) (to : Str) : Option (Disk × Int) :=
 if d.Off then
  some (d, 6)
 else
  (disk_named to).bind fun y10 =>
  if (!y10) then
   some (d, 1)
  else
   (disk_at d from_).bind fun y13 =>
   if (decide (y13 < 0)) then
    some (d, 7)
   else
    if (decide (from_ = to)) then
     some (d, 0)
    else
     (disk_change d).bind fun y17 =>
     if (!y17.2) then
      some (y17.1, 6)
     else
      (
       (disk_at y17.1 to).bind fun y33 =>
       if (decide (y33 ≥ 0)) then
        (disk_without y17.1 y33).bind fun y36 =>
        some (y36.Files, y36.Room, y36.Fuse, y36.Off)
       else
        some (y17.1.Files, y17.1.Room, y17.1.Fuse, y17.1.Off)).bind fun (y31 : (List File) × Int × Int × Bool) =>
      (disk_at ({ Files := y31.1, Room := y31.2.1, Fuse := y31.2.2.1, Off := y31.2.2.2 } : Disk) from_).bind fun y39 =>
      (ix y31.1 y39).bind fun x41 =>
      (disk_set_File y31.1 y39 ({ Name := to, Safe := x41.Safe, Wait := x41.Wait } : File)).bind fun y43 =>
      some (({ Files := y43, Room := y31.2.1, Fuse := y31.2.2.1, Off := y31.2.2.2 } : Disk), 0)
def gm_disk_Rename : Gm := ⟨tys, [], [], []⟩
theorem disk_Rename_walk (d : Disk) (from_ : Str) (to : Str) (r : Disk × Int) (h : disk_Rename d from_ to = some r) : PureP Tryz.prog 122 [.agg [.sl (List.map encFile d.Files), .v (.int .i64 d.Room), .v (.int .i64 d.Fuse), .v (.bool d.Off)], .v (.string (bs from_)), .v (.string (bs to))] (fun a => a = .tup [.agg [.sl (List.map encFile r.1.Files), .v (.int .i64 r.1.Room), .v (.int .i64 r.1.Fuse), .v (.bool r.1.Off)], .v (.int .i64 r.2)]) := by
 unfold disk_Rename at h
 refine pureW (G := gm_disk_Rename) tyOk Tryz.func122 rfl (by kernel_rfl) (by simp [Tryz.f122]) ?_
 refine Tri.seqK ?_
 refine Tri.run (G := gm_disk_Rename) tyOk mixed ?_
 conv => whnf
 refine Tri.seqK ?_
 refine Tri.block ?_
 refine Tri.seqK ?_
 refine Tri.run (G := gm_disk_Rename) tyOk mixed ?_
 conv => whnf
 refine Tri.cond rfl (fun c9 => ?_) (fun c9 => ?_)
 ·replace h := if_t c9 h
  refine Tri.seqK ?_
  refine Tri.run (G := gm_disk_Rename) tyOk mixed ?_
  conv => whnf
  refine Tri.run (G := gm_disk_Rename) tyOk mixed ?_
  conv => whnf
  refine fin_here ?_
  conv => whnf
  cases h
  rfl
 ·replace h := if_f c9 h
  refine Tri.seqK ?_
  refine Tri.run (G := gm_disk_Rename) tyOk mixed ?_
  conv => whnf
  replace h := bind_some h
  obtain ⟨y10, q11, h⟩ := h
  refine PureP.mono (disk_named_walk to y10 q11) ?_
  rintro _ rfl
  conv => whnf
  refine Tri.cond rfl (fun c12 => ?_) (fun c12 => ?_)
  ·replace h := if_t c12 h
   refine Tri.seqK ?_
   refine Tri.run (G := gm_disk_Rename) tyOk mixed ?_
   conv => whnf
   refine Tri.run (G := gm_disk_Rename) tyOk mixed ?_
   conv => whnf
   refine fin_here ?_
   conv => whnf
   cases h
   rfl
  ·replace h := if_f c12 h
   refine Tri.seqK ?_
   refine Tri.run (G := gm_disk_Rename) tyOk mixed ?_
   conv => whnf
   replace h := bind_some h
   obtain ⟨y13, q14, h⟩ := h
   refine PureP.mono (disk_at_walk d from_ y13 q14) ?_
   rintro _ rfl
   conv => whnf
   refine Tri.cond rfl (fun c15 => ?_) (fun c15 => ?_)
   ·replace h := if_t c15 h
    refine Tri.seqK ?_
    refine Tri.run (G := gm_disk_Rename) tyOk mixed ?_
    conv => whnf
    refine Tri.run (G := gm_disk_Rename) tyOk mixed ?_
    conv => whnf
    refine fin_here ?_
    conv => whnf
    cases h
    rfl
   ·replace h := if_f c15 h
    refine Tri.seqK ?_
    refine Tri.run (G := gm_disk_Rename) tyOk mixed ?_
    conv => whnf
    refine ⟨⟨(decide (from_ = to)), bs_eq _ _, ?_⟩⟩
    conv => whnf
    refine Tri.cond rfl (fun c16 => ?_) (fun c16 => ?_)
    ·replace h := if_t c16 h
     refine Tri.seqK ?_
     refine Tri.run (G := gm_disk_Rename) tyOk mixed ?_
     conv => whnf
     refine Tri.run (G := gm_disk_Rename) tyOk mixed ?_
     conv => whnf
     refine fin_here ?_
     conv => whnf
     cases h
     rfl
    ·replace h := if_f c16 h
     refine Tri.run (G := gm_disk_Rename) tyOk mixed ?_
     conv => whnf
     refine Tri.seqK ?_
     refine Tri.run (G := gm_disk_Rename) tyOk mixed ?_
     conv => whnf
     replace h := bind_some h
     obtain ⟨y17, q18, h⟩ := h
     refine PureP.mono (disk_change_walk d y17 q18) ?_
     rintro _ rfl
     conv => whnf
     refine Tri.seqK ?_
     refine Tri.seqK ?_
     refine Tri.run (G := gm_disk_Rename) tyOk mixed ?_
     conv => whnf
     refine Tri.cond rfl (fun c20 => ?_) (fun c20 => ?_)
     ·replace h := if_t c20 h
      refine Tri.seqK ?_
      refine Tri.run (G := gm_disk_Rename) tyOk mixed ?_
      conv => whnf
      refine Tri.run (G := gm_disk_Rename) tyOk mixed ?_
      conv => whnf
      refine fin_here ?_
      conv => whnf
      cases h
      rfl
     ·replace h := if_f c20 h
      refine Tri.run (G := gm_disk_Rename) tyOk mixed ?_
      conv => whnf
      refine Tri.seqK ?_
      replace h := bind_some h
      obtain ⟨y31, q32, h⟩ := h
      refine Tri.cut (fun ex S' => ex = .normal ∧ Weak S' ⟨65, 0, ofRegs [(1, .v (.string (bs from_))), (2, .v (.string (bs to))), (3, .ptr 0 0), (6, .ptr 1 0)], [.var 31 [.sl (List.map encFile y31.1), .v (.int .i64 y31.2.1), .v (.int .i64 y31.2.2.1), .v (.bool y31.2.2.2)], .var 31 [.v (.slice none 0 0), .v (.int .i64 0), .v (.int .i64 0), .v (.bool false)]]⟩) ?_ ?_
      ·refine Tri.seqK ?_
       refine Tri.run (G := gm_disk_Rename) tyOk mixed ?_
       conv => whnf
       replace q32 := bind_some q32
       obtain ⟨y33, q34, q32⟩ := q32
       refine PureP.mono (disk_at_walk y17.1 to y33 q34) ?_
       rintro _ rfl
       conv => whnf
       refine Tri.seqK ?_
       refine Tri.run (G := gm_disk_Rename) tyOk mixed ?_
       conv => whnf
       refine Tri.cond rfl (fun c35 => ?_) (fun c35 => ?_)
       ·replace q32 := if_t c35 q32
        refine Tri.run (G := gm_disk_Rename) tyOk mixed ?_
        conv => whnf
        replace q32 := bind_some q32
        obtain ⟨y36, q37, q32⟩ := q32
        refine PureP.mono (disk_without_walk y17.1 y33 y36 q37) ?_
        rintro _ rfl
        conv => whnf
        cases q32
        exact ⟨rfl, weak_fin _ rfl rfl rfl (.cons (.same rfl) (.cons (.same rfl) (LeH.rest))) (.cons (.one (.same rfl)) (.cons (.one (.same rfl)) (.cons (.one (.same rfl)) (.cons (.one (.same rfl)) (.nil))))) rfl rfl⟩
       ·replace q32 := if_f c35 q32
        refine Tri.run (G := gm_disk_Rename) tyOk mixed ?_
        conv => whnf
        cases q32
        exact ⟨rfl, weak_fin _ rfl rfl rfl (.cons (.same rfl) (.cons (.same rfl) (LeH.rest))) (.cons (.one (.same rfl)) (.cons (.one (.same rfl)) (.cons (.one (.same rfl)) (.cons (.one (.same rfl)) (.nil))))) rfl rfl⟩
      ·rintro ex S' ⟨rfl, w38⟩
       conv => whnf
       refine Tri.weak w38 ?_
       refine Tri.seqK ?_
       refine Tri.run (G := gm_disk_Rename) tyOk mixed ?_
       conv => whnf
       replace h := bind_some h
       obtain ⟨y39, q40, h⟩ := h
       refine PureP.mono (disk_at_walk ({ Files := y31.1, Room := y31.2.1, Fuse := y31.2.2.1, Off := y31.2.2.2 } : Disk) from_ y39 q40) ?_
       rintro _ rfl
       conv => whnf
       refine Tri.seqK ?_
       refine Tri.run (G := gm_disk_Rename) tyOk mixed ?_
       conv => whnf
       replace h := bind_some h
       obtain ⟨x41, q42, h⟩ := h
       refine ⟨(ix_some q42).1, ?_⟩
       conv => whnf
       refine ⟨⟨_, map_get encFile (ix_some q42).2, ?_⟩⟩
       conv => whnf
       refine ⟨rfl, ?_⟩
       conv => whnf
       refine Tri.seqK ?_
       refine Tri.run (G := gm_disk_Rename) tyOk mixed ?_
       conv => whnf
       refine Tri.seqK ?_
       refine Tri.run (G := gm_disk_Rename) tyOk mixed ?_
       conv => whnf
       replace h := bind_some h
       obtain ⟨y43, q44, h⟩ := h
       refine PureP.mono (disk_set_File_walk y31.1 y39 ({ Name := to, Safe := x41.Safe, Wait := x41.Wait } : File) y43 q44) ?_
       rintro _ rfl
       conv => whnf
       refine Tri.seqK ?_
       refine Tri.run (G := gm_disk_Rename) tyOk mixed ?_
       conv => whnf
       refine Tri.run (G := gm_disk_Rename) tyOk mixed ?_
       conv => whnf
       refine fin_here ?_
       conv => whnf
       cases h
       rfl
noncomputable def wal_cut_l2 (a757 : Int) (a758 : Int) (a759 : (List File)) (a760 : Int) (a761 : Int) (a762 : Bool) : Option ((Int × Int × (List File) × Int × Int × Bool) ⊕ (Int × (List File) × Int × Int × Bool)) :=
 (
  if (decide (a757 = 0)) then
   (wal_may a758).bind fun y790 =>
   some y790
  else
   some false).bind fun (y787 : Bool) =>
 if y787 then
  (wal_Name a758).bind fun y882 =>
  (disk_Find ({ Files := a759, Room := a760, Fuse := a761, Off := a762 } : Disk) y882).bind fun y884 =>
  if (!y884.2) then
   some (.inr (a757, a759, a760, a761, a762))
  else
   (disk_Delete ({ Files := a759, Room := a760, Fuse := a761, Off := a762 } : Disk) y882).bind fun y899 =>
   some (.inl (y899.2, (IntKind.i64.wrap (a758 + 1)), y899.1.Files, y899.1.Room, y899.1.Fuse, y899.1.Off))
 else
  some (.inr (a757, a759, a760, a761, a762))
noncomputable def wal_cut (d : Disk) (seg : Int) (s : Str) : Option (Disk × Int) :=
 (
  (disk_Find d [119, 46, 110, 101, 119]).bind fun y19 =>
  if y19.2 then
   (disk_Delete d [119, 46, 110, 101, 119]).bind fun y22 =>
   if (!(decide (y22.2 = 0))) then
    some (.inr (y22.2, y22.1.Files, y22.1.Room, y22.1.Fuse, y22.1.Off))
   else
    some (.inl (y22.1.Files, y22.1.Room, y22.1.Fuse, y22.1.Off))
  else
   some (.inl (d.Files, d.Room, d.Fuse, d.Off))).bind fun (y15 : ((List File) × Int × Int × Bool) ⊕ (Int × (List File) × Int × Int × Bool)) =>
 match y15 with
 | (.inl v17) =>
  (disk_Append ({ Files := v17.1, Room := v17.2.1, Fuse := v17.2.2.1, Off := v17.2.2.2 } : Disk) [119, 46, 110, 101, 119] s).bind fun y27 =>
  if (!(decide (y27.2 = 0))) then
   some (y27.1, y27.2)
  else
   (disk_Sync y27.1 [119, 46, 110, 101, 119]).bind fun y31 =>
   if (!(decide (y31.2 = 0))) then
    some (y31.1, y31.2)
   else
    (wal_Name seg).bind fun y43 =>
    (disk_Rename y31.1 [119, 46, 110, 101, 119] y43).bind fun y45 =>
    (loop (fun (s765 : Int × Int × (List File) × Int × Int × Bool) => wal_cut_l2 s765.1 s765.2.1 s765.2.2.1 s765.2.2.2.1 s765.2.2.2.2.1 s765.2.2.2.2.2) (y45.2, (IntKind.i64.wrap (seg + 1)), y45.1.Files, y45.1.Room, y45.1.Fuse, y45.1.Off)).bind fun (y763 : Int × (List File) × Int × Int × Bool) =>
    some (({ Files := y763.2.1, Room := y763.2.2.1, Fuse := y763.2.2.2.1, Off := y763.2.2.2.2 } : Disk), y763.1)
 | (.inr v18) =>
  some (({ Files := v18.2.1, Room := v18.2.2.1, Fuse := v18.2.2.2.1, Off := v18.2.2.2.2 } : Disk), v18.1)
def gm_wal_cut : Gm := ⟨tys, [], [], []⟩
theorem wal_cut_walk (d : Disk) (seg : Int) (s : Str) (r : Disk × Int) (h : wal_cut d seg s = some r) : PureP Tryz.prog 92 [.agg [.sl (List.map encFile d.Files), .v (.int .i64 d.Room), .v (.int .i64 d.Fuse), .v (.bool d.Off)], .v (.int .i64 seg), .v (.string (bs s))] (fun a => a = .tup [.agg [.sl (List.map encFile r.1.Files), .v (.int .i64 r.1.Room), .v (.int .i64 r.1.Fuse), .v (.bool r.1.Off)], .v (.int .i64 r.2)]) := by
 unfold wal_cut at h
 refine pureW (G := gm_wal_cut) tyOk Tryz.func92 rfl (by kernel_rfl) (by simp [Tryz.f92]) ?_
 refine Tri.seqK ?_
 refine Tri.run (G := gm_wal_cut) tyOk mixed ?_
 conv => whnf
 refine Tri.seqK ?_
 replace h := bind_some h
 obtain ⟨y15, q16, h⟩ := h
 refine Tri.cut (fun ex S' => (∃ v17 : (List File) × Int × Int × Bool, y15 = (.inl v17) ∧ ex = .normal ∧ Weak S' ⟨86, 0, ofRegs [(1, .v (.int .i64 seg)), (2, .v (.string (bs s))), (3, .ptr 0 0), (6, .ptr 1 0)], [.var 31 [.sl (List.map encFile v17.1), .v (.int .i64 v17.2.1), .v (.int .i64 v17.2.2.1), .v (.bool v17.2.2.2)], .var 31 [.v (.slice none 0 0), .v (.int .i64 0), .v (.int .i64 0), .v (.bool false)]]⟩) ∨ (∃ v18 : Int × (List File) × Int × Int × Bool, y15 = (.inr v18) ∧ ex = .ret ∧ Weak S' ⟨86, 0, ofRegs [(6, .ptr 1 0), (7, .v (.int .i64 v18.1))], [.gone, .var 31 [.sl (List.map encFile v18.2.1), .v (.int .i64 v18.2.2.1), .v (.int .i64 v18.2.2.2.1), .v (.bool v18.2.2.2.2)]]⟩)) ?_ ?_
 ·refine Tri.seqK ?_
  refine Tri.run (G := gm_wal_cut) tyOk mixed ?_
  conv => whnf
  replace q16 := bind_some q16
  obtain ⟨y19, q20, q16⟩ := q16
  refine PureP.mono (disk_Find_walk d [119, 46, 110, 101, 119] y19 q20) ?_
  rintro _ rfl
  conv => whnf
  refine Tri.seqK ?_
  refine Tri.run (G := gm_wal_cut) tyOk mixed ?_
  conv => whnf
  refine Tri.cond rfl (fun c21 => ?_) (fun c21 => ?_)
  ·replace q16 := if_t c21 q16
   refine Tri.seqK ?_
   refine Tri.run (G := gm_wal_cut) tyOk mixed ?_
   conv => whnf
   replace q16 := bind_some q16
   obtain ⟨y22, q23, q16⟩ := q16
   refine PureP.mono (disk_Delete_walk d [119, 46, 110, 101, 119] y22 q23) ?_
   rintro _ rfl
   conv => whnf
   refine Tri.seqK ?_
   refine Tri.seqK ?_
   refine Tri.run (G := gm_wal_cut) tyOk mixed ?_
   conv => whnf
   refine Tri.cond rfl (fun c25 => ?_) (fun c25 => ?_)
   ·replace q16 := if_t c25 q16
    refine Tri.seqK ?_
    refine Tri.run (G := gm_wal_cut) tyOk mixed ?_
    conv => whnf
    refine Tri.run (G := gm_wal_cut) tyOk mixed ?_
    conv => whnf
    cases q16
    exact Or.inr (⟨_, rfl, rfl, weak_fin _ rfl rfl rfl (.cons (.gone) (.cons (.same rfl) (LeH.rest))) (.cons (.one (.same rfl)) (.cons (.one (.same rfl)) (.nil))) rfl rfl⟩)
   ·replace q16 := if_f c25 q16
    refine Tri.run (G := gm_wal_cut) tyOk mixed ?_
    conv => whnf
    refine Tri.run (G := gm_wal_cut) tyOk mixed ?_
    conv => whnf
    cases q16
    exact Or.inl ⟨_, rfl, rfl, weak_fin _ rfl rfl rfl (.cons (.same rfl) (.cons (.same rfl) (LeH.rest))) (.cons (.one (.same rfl)) (.cons (.one (.same rfl)) (.cons (.one (.same rfl)) (.cons (.one (.same rfl)) (.nil))))) rfl rfl⟩
  ·replace q16 := if_f c21 q16
   refine Tri.run (G := gm_wal_cut) tyOk mixed ?_
   conv => whnf
   cases q16
   exact Or.inl ⟨_, rfl, rfl, weak_fin _ rfl rfl rfl (.cons (.same rfl) (.cons (.same rfl) (LeH.rest))) (.cons (.one (.same rfl)) (.cons (.one (.same rfl)) (.cons (.one (.same rfl)) (.cons (.one (.same rfl)) (.nil))))) rfl rfl⟩
 ·rintro ex S' (⟨v17, rfl, rfl, w26⟩ | ⟨v18, rfl, rfl, w26⟩)
  ·dsimp only at h
   conv => whnf
   refine Tri.weak w26 ?_
   refine Tri.seqK ?_
   refine Tri.run (G := gm_wal_cut) tyOk mixed ?_
   conv => whnf
   replace h := bind_some h
   obtain ⟨y27, q28, h⟩ := h
   refine PureP.mono (disk_Append_walk ({ Files := v17.1, Room := v17.2.1, Fuse := v17.2.2.1, Off := v17.2.2.2 } : Disk) [119, 46, 110, 101, 119] s y27 q28) ?_
   rintro _ rfl
   conv => whnf
   refine Tri.seqK ?_
   refine Tri.seqK ?_
   refine Tri.run (G := gm_wal_cut) tyOk mixed ?_
   conv => whnf
   refine Tri.cond rfl (fun c30 => ?_) (fun c30 => ?_)
   ·replace h := if_t c30 h
    refine Tri.seqK ?_
    refine Tri.run (G := gm_wal_cut) tyOk mixed ?_
    conv => whnf
    refine Tri.run (G := gm_wal_cut) tyOk mixed ?_
    conv => whnf
    refine fin_here ?_
    conv => whnf
    cases h
    rfl
   ·replace h := if_f c30 h
    refine Tri.run (G := gm_wal_cut) tyOk mixed ?_
    conv => whnf
    refine Tri.seqK ?_
    refine Tri.run (G := gm_wal_cut) tyOk mixed ?_
    conv => whnf
    replace h := bind_some h
    obtain ⟨y31, q32, h⟩ := h
    refine PureP.mono (disk_Sync_walk y27.1 [119, 46, 110, 101, 119] y31 q32) ?_
    rintro _ rfl
    conv => whnf
    refine Tri.seqK ?_
    refine Tri.seqK ?_
    refine Tri.run (G := gm_wal_cut) tyOk mixed ?_
    conv => whnf
    refine Tri.cond rfl (fun c34 => ?_) (fun c34 => ?_)
    ·replace h := if_t c34 h
     refine Tri.seqK ?_
     refine Tri.run (G := gm_wal_cut) tyOk mixed ?_
     conv => whnf
     refine Tri.run (G := gm_wal_cut) tyOk mixed ?_
     conv => whnf
     refine fin_here ?_
     conv => whnf
     cases h
     rfl
    ·replace h := if_f c34 h
     refine Tri.run (G := gm_wal_cut) tyOk mixed ?_
     conv => whnf
     refine Tri.seqK ?_
     refine Tri.run (G := gm_wal_cut) tyOk mixed ?_
     conv => whnf
     replace h := bind_some h
     obtain ⟨y43, q51, h⟩ := h
     replace h := bind_some h
     obtain ⟨y45, q52, h⟩ := h
     refine Draw.many 8 (.take 1 (.alt 0 (.alt 2 (.alt 3 (.take 4 (.take 5 (.take 6 (.alt 7 (.fin) (.nil))))) (.nil)) (.nil)) (.alt 2 (.alt 0 (.alt 3 (.take 4 (.take 5 (.take 6 (.alt 7 (.fin) (.nil))))) (.nil)) (.nil)) (.nil)))) [0, 2, 3, 4, 5, 6, 7] (⟨86, 0, ofRegs [(1, .v (.int .i64 seg)), (3, .ptr 0 0), (6, .ptr 1 0), (57, .v (.int .i64 y45.2))], [.var 31 [.sl (List.map encFile y45.1.Files), .v (.int .i64 y45.1.Room), .v (.int .i64 y45.1.Fuse), .v (.bool y45.1.Off)], .var 31 [.v (.slice none 0 0), .v (.int .i64 0), .v (.int .i64 0), .v (.bool false)]]⟩) (by kernel_rfl) ?_ ?_
     ·conv => whnf
      refine ⟨?_, ?_⟩
      ·conv => whnf
       refine ⟨?_, ?_⟩
       ·conv => whnf
        refine PureP.mono (wal_Name_walk seg y43 q51) ?_
        rintro _ rfl
        conv => whnf
        refine ⟨?_, ?_⟩
        ·conv => whnf
         refine PureP.mono (disk_Rename_walk y31.1 [119, 46, 110, 101, 119] y43 y45 q52) ?_
         rintro _ rfl
         conv => whnf
         refine ⟨?_, ?_⟩
         ·conv => whnf
          exact weak_fin _ rfl rfl rfl (.cons (.same rfl) (.cons (.same rfl) (LeH.rest))) (.cons (.one (.same rfl)) (.cons (.one (.same rfl)) (.cons (.one (.same rfl)) (.cons (.one (.same rfl)) (.nil))))) rfl rfl
         ·conv => whnf
          trivial
        ·conv => whnf
         trivial
       ·conv => whnf
        trivial
      ·conv => whnf
       refine ⟨?_, ?_⟩
       ·conv => whnf
        refine PureP.mono (wal_Name_walk seg y43 q51) ?_
        rintro _ rfl
        conv => whnf
        refine ⟨?_, ?_⟩
        ·conv => whnf
         refine ⟨?_, ?_⟩
         ·conv => whnf
          refine PureP.mono (disk_Rename_walk y31.1 [119, 46, 110, 101, 119] y43 y45 q52) ?_
          rintro _ rfl
          conv => whnf
          refine ⟨?_, ?_⟩
          ·conv => whnf
           exact weak_fin _ rfl rfl rfl (.cons (.same rfl) (.cons (.same rfl) (LeH.rest))) (.cons (.one (.same rfl)) (.cons (.one (.same rfl)) (.cons (.one (.same rfl)) (.cons (.one (.same rfl)) (.nil))))) rfl rfl
          ·conv => whnf
           trivial
         ·conv => whnf
          trivial
        ·conv => whnf
         trivial
       ·conv => whnf
        trivial
     ·conv => whnf
      refine Tri.seqK ?_
      refine Tri.seqK ?_
      refine Tri.run (G := gm_wal_cut) tyOk mixed ?_
      conv => whnf
      refine Tri.block ?_
      replace h := bind_some h
      obtain ⟨y763, q764, h⟩ := h
      refine Tri.cut (fun ex S' => ex = (.exit 0) ∧ Weak S' ⟨86, 0, ofRegs [(3, .ptr 0 0), (6, .ptr 1 0), (12, .v (.int .i64 y763.1))], [.var 31 [.sl (List.map encFile y763.2.1), .v (.int .i64 y763.2.2.1), .v (.int .i64 y763.2.2.2.1), .v (.bool y763.2.2.2.2)], .var 31 [.v (.slice none 0 0), .v (.int .i64 0), .v (.int .i64 0), .v (.bool false)]]⟩) ?_ ?_
      ·refine Tri.loopF (fun (s765 : Int × Int × (List File) × Int × Int × Bool) => (⟨86, 0, ofRegs [(3, .ptr 0 0), (6, .ptr 1 0), (12, .v (.int .i64 s765.1)), (13, .v (.int .i64 s765.2.1))], [.var 31 [.sl (List.map encFile s765.2.2.1), .v (.int .i64 s765.2.2.2.1), .v (.int .i64 s765.2.2.2.2.1), .v (.bool s765.2.2.2.2.2)], .var 31 [.v (.slice none 0 0), .v (.int .i64 0), .v (.int .i64 0), .v (.bool false)]]⟩ : St)) q764 (weak_fin _ rfl rfl rfl (.cons (.same rfl) (.cons (.same rfl) (LeH.rest))) (.cons (.one (.same rfl)) (.cons (.one (.same rfl)) (.cons (.one (.same rfl)) (.cons (.one (.same rfl)) (.nil))))) rfl rfl) ?_
       rintro ⟨a757, a758, a759, a760, a761, a762⟩ v766 hv r767
       have hv : wal_cut_l2 a757 a758 a759 a760 a761 a762 = some v766 := hv
       unfold wal_cut_l2 at hv
       dsimp only
       refine Tri.seqK ?_
       refine Tri.seqK ?_
       replace hv := bind_some hv
       obtain ⟨y787, q788, hv⟩ := hv
       refine Tri.cut (fun ex S' => ex = .normal ∧ Weak S' ⟨86, 0, ofRegs [(3, .ptr 0 0), (6, .ptr 1 0), (12, .v (.int .i64 a757)), (13, .v (.int .i64 a758)), (65, .v (.bool y787))], [.var 31 [.sl (List.map encFile a759), .v (.int .i64 a760), .v (.int .i64 a761), .v (.bool a762)], .var 31 [.v (.slice none 0 0), .v (.int .i64 0), .v (.int .i64 0), .v (.bool false)]]⟩) ?_ ?_
       ·refine Tri.run (G := gm_wal_cut) tyOk mixed ?_
        conv => whnf
        refine cond_mk (fun c789 => ?_) (fun c789 => ?_)
        ·replace q788 := if_t c789 q788
         conv => whnf
         replace q788 := bind_some q788
         obtain ⟨y790, q791, q788⟩ := q788
         refine PureP.mono (wal_may_walk a758 y790 q791) ?_
         rintro _ rfl
         conv => whnf
         cases q788
         exact ⟨rfl, weak_fin _ rfl rfl rfl (.cons (.same rfl) (.cons (.same rfl) (LeH.rest))) (.cons (.one (.same rfl)) (.cons (.one (.same rfl)) (.cons (.one (.same rfl)) (.cons (.one (.same rfl)) (.cons (.one (.same rfl)) (.nil)))))) rfl rfl⟩
        ·replace q788 := if_f c789 q788
         conv => whnf
         cases q788
         exact ⟨rfl, weak_fin _ rfl rfl rfl (.cons (.same rfl) (.cons (.same rfl) (LeH.rest))) (.cons (.one (.same rfl)) (.cons (.one (.same rfl)) (.cons (.one (.same rfl)) (.cons (.one (.same rfl)) (.cons (.one (.same rfl)) (.nil)))))) rfl rfl⟩
       ·rintro ex S' ⟨rfl, w792⟩
        conv => whnf
        refine Tri.weak w792 ?_
        refine Tri.cond rfl (fun c793 => ?_) (fun c793 => ?_)
        ·replace hv := if_t c793 hv
         refine Tri.run (G := gm_wal_cut) tyOk mixed ?_
         conv => whnf
         refine Tri.seqK ?_
         refine Tri.block ?_
         refine Tri.seqK ?_
         refine Tri.seqK ?_
         refine Tri.run (G := gm_wal_cut) tyOk mixed ?_
         conv => whnf
         replace hv := bind_some hv
         obtain ⟨y882, q892, hv⟩ := hv
         replace hv := bind_some hv
         obtain ⟨y884, q893, hv⟩ := hv
         refine Draw.many 9 (.take 0 (.take 1 (.alt 2 (.alt 3 (.take 4 (.take 5 (.take 6 (.alt 7 (.alt 8 (.fin) (.nil)) (.nil))))) (.alt 7 (.alt 3 (.take 4 (.take 5 (.take 6 (.alt 8 (.fin) (.nil))))) (.nil)) (.nil))) (.alt 7 (.alt 2 (.alt 3 (.take 4 (.take 5 (.take 6 (.alt 8 (.fin) (.nil))))) (.nil)) (.nil)) (.nil))))) [2, 3, 4, 5, 6, 7] (⟨86, 0, ofRegs [(3, .ptr 0 0), (6, .ptr 1 0), (12, .v (.int .i64 a757)), (13, .v (.int .i64 a758)), (74, .v (.bool y884.2))], [.var 31 [.sl (List.map encFile a759), .v (.int .i64 a760), .v (.int .i64 a761), .v (.bool a762)], .var 31 [.v (.slice none 0 0), .v (.int .i64 0), .v (.int .i64 0), .v (.bool false)]]⟩) (by kernel_rfl) ?_ ?_
         ·conv => whnf
          refine ⟨?_, ?_⟩
          ·conv => whnf
           refine PureP.mono (wal_Name_walk a758 y882 q892) ?_
           rintro _ rfl
           conv => whnf
           refine ⟨?_, ?_⟩
           ·conv => whnf
            refine PureP.mono (disk_Find_walk ({ Files := a759, Room := a760, Fuse := a761, Off := a762 } : Disk) y882 y884 q893) ?_
            rintro _ rfl
            conv => whnf
            refine ⟨?_, ?_⟩
            ·conv => whnf
             refine ⟨?_, ?_⟩
             ·conv => whnf
              exact weak_fin _ rfl rfl rfl (.cons (.same rfl) (.cons (.same rfl) (LeH.rest))) (.cons (.one (.same rfl)) (.cons (.one (.same rfl)) (.cons (.one (.same rfl)) (.cons (.one (.same rfl)) (.cons (.one (.same rfl)) (.nil)))))) rfl rfl
             ·conv => whnf
              trivial
            ·conv => whnf
             trivial
           ·conv => whnf
            refine ⟨?_, ?_⟩
            ·conv => whnf
             refine ⟨?_, ?_⟩
             ·conv => whnf
              refine PureP.mono (disk_Find_walk ({ Files := a759, Room := a760, Fuse := a761, Off := a762 } : Disk) y882 y884 q893) ?_
              rintro _ rfl
              conv => whnf
              refine ⟨?_, ?_⟩
              ·conv => whnf
               exact weak_fin _ rfl rfl rfl (.cons (.same rfl) (.cons (.same rfl) (LeH.rest))) (.cons (.one (.same rfl)) (.cons (.one (.same rfl)) (.cons (.one (.same rfl)) (.cons (.one (.same rfl)) (.cons (.one (.same rfl)) (.nil)))))) rfl rfl
              ·conv => whnf
               trivial
             ·conv => whnf
              trivial
            ·conv => whnf
             trivial
          ·conv => whnf
           refine ⟨?_, ?_⟩
           ·conv => whnf
            refine ⟨?_, ?_⟩
            ·conv => whnf
             refine PureP.mono (wal_Name_walk a758 y882 q892) ?_
             rintro _ rfl
             conv => whnf
             refine ⟨?_, ?_⟩
             ·conv => whnf
              refine PureP.mono (disk_Find_walk ({ Files := a759, Room := a760, Fuse := a761, Off := a762 } : Disk) y882 y884 q893) ?_
              rintro _ rfl
              conv => whnf
              refine ⟨?_, ?_⟩
              ·conv => whnf
               exact weak_fin _ rfl rfl rfl (.cons (.same rfl) (.cons (.same rfl) (LeH.rest))) (.cons (.one (.same rfl)) (.cons (.one (.same rfl)) (.cons (.one (.same rfl)) (.cons (.one (.same rfl)) (.cons (.one (.same rfl)) (.nil)))))) rfl rfl
              ·conv => whnf
               trivial
             ·conv => whnf
              trivial
            ·conv => whnf
             trivial
           ·conv => whnf
            trivial
         ·conv => whnf
          refine Tri.seqK ?_
          refine Tri.run (G := gm_wal_cut) tyOk mixed ?_
          conv => whnf
          refine Tri.cond rfl (fun c894 => ?_) (fun c894 => ?_)
          ·replace hv := if_t c894 hv
           refine Tri.run (G := gm_wal_cut) tyOk mixed ?_
           conv => whnf
           cases hv
           obtain rfl := r767 _ rfl
           exact ⟨rfl, weak_fin _ rfl rfl rfl (.cons (.same rfl) (.cons (.same rfl) (LeH.rest))) (.cons (.one (.same rfl)) (.cons (.one (.same rfl)) (.cons (.one (.same rfl)) (.nil)))) rfl rfl⟩
          ·replace hv := if_f c894 hv
           refine Tri.run (G := gm_wal_cut) tyOk mixed ?_
           conv => whnf
           refine Tri.run (G := gm_wal_cut) tyOk mixed ?_
           conv => whnf
           replace hv := bind_some hv
           obtain ⟨y899, q903, hv⟩ := hv
           refine Draw.many 8 (.take 1 (.alt 0 (.alt 2 (.alt 3 (.take 4 (.take 5 (.take 6 (.alt 7 (.fin) (.nil))))) (.nil)) (.nil)) (.alt 2 (.alt 0 (.alt 3 (.take 4 (.take 5 (.take 6 (.alt 7 (.fin) (.nil))))) (.nil)) (.nil)) (.nil)))) [0, 2, 3, 4, 5, 6, 7] (⟨86, 0, ofRegs [(3, .ptr 0 0), (6, .ptr 1 0), (13, .v (.int .i64 a758)), (83, .v (.int .i64 y899.2))], [.var 31 [.sl (List.map encFile y899.1.Files), .v (.int .i64 y899.1.Room), .v (.int .i64 y899.1.Fuse), .v (.bool y899.1.Off)], .var 31 [.v (.slice none 0 0), .v (.int .i64 0), .v (.int .i64 0), .v (.bool false)]]⟩) (by kernel_rfl) ?_ ?_
           ·conv => whnf
            refine ⟨?_, ?_⟩
            ·conv => whnf
             refine ⟨?_, ?_⟩
             ·conv => whnf
              refine PureP.mono (wal_Name_walk a758 y882 q892) ?_
              rintro _ rfl
              conv => whnf
              refine ⟨?_, ?_⟩
              ·conv => whnf
               refine PureP.mono (disk_Delete_walk ({ Files := a759, Room := a760, Fuse := a761, Off := a762 } : Disk) y882 y899 q903) ?_
               rintro _ rfl
               conv => whnf
               refine ⟨?_, ?_⟩
               ·conv => whnf
                exact weak_fin _ rfl rfl rfl (.cons (.same rfl) (.cons (.same rfl) (LeH.rest))) (.cons (.one (.same rfl)) (.cons (.one (.same rfl)) (.cons (.one (.same rfl)) (.cons (.one (.same rfl)) (.nil))))) rfl rfl
               ·conv => whnf
                trivial
              ·conv => whnf
               trivial
             ·conv => whnf
              trivial
            ·conv => whnf
             refine ⟨?_, ?_⟩
             ·conv => whnf
              refine PureP.mono (wal_Name_walk a758 y882 q892) ?_
              rintro _ rfl
              conv => whnf
              refine ⟨?_, ?_⟩
              ·conv => whnf
               refine ⟨?_, ?_⟩
               ·conv => whnf
                refine PureP.mono (disk_Delete_walk ({ Files := a759, Room := a760, Fuse := a761, Off := a762 } : Disk) y882 y899 q903) ?_
                rintro _ rfl
                conv => whnf
                refine ⟨?_, ?_⟩
                ·conv => whnf
                 exact weak_fin _ rfl rfl rfl (.cons (.same rfl) (.cons (.same rfl) (LeH.rest))) (.cons (.one (.same rfl)) (.cons (.one (.same rfl)) (.cons (.one (.same rfl)) (.cons (.one (.same rfl)) (.nil))))) rfl rfl
                ·conv => whnf
                 trivial
               ·conv => whnf
                trivial
              ·conv => whnf
               trivial
             ·conv => whnf
              trivial
           ·conv => whnf
            refine Tri.run (G := gm_wal_cut) tyOk mixed ?_
            conv => whnf
            cases hv
            exact ⟨_, rfl, weak_fin _ rfl rfl rfl (.cons (.same rfl) (.cons (.same rfl) (LeH.rest))) (.cons (.one (.same rfl)) (.cons (.one (.same rfl)) (.cons (.one (.same rfl)) (.cons (.one (.same rfl)) (.nil))))) rfl rfl⟩
        ·replace hv := if_f c793 hv
         refine Tri.run (G := gm_wal_cut) tyOk mixed ?_
         conv => whnf
         cases hv
         obtain rfl := r767 _ rfl
         exact ⟨rfl, weak_fin _ rfl rfl rfl (.cons (.same rfl) (.cons (.same rfl) (LeH.rest))) (.cons (.one (.same rfl)) (.cons (.one (.same rfl)) (.cons (.one (.same rfl)) (.nil)))) rfl rfl⟩
      ·rintro ex S' ⟨rfl, w904⟩
       conv => whnf
       refine Tri.weak w904 ?_
       refine Tri.seqK ?_
       refine Tri.run (G := gm_wal_cut) tyOk mixed ?_
       conv => whnf
       refine Tri.run (G := gm_wal_cut) tyOk mixed ?_
       conv => whnf
       refine fin_here ?_
       conv => whnf
       cases h
       rfl
  ·dsimp only at h
   conv => whnf
   refine fin_pre w26 ?_
   conv => whnf
   cases h
   rfl
noncomputable def wal_Recover_l2 (d : Disk) (a586 : Int) (a587 : Int) (a588 : (List Str)) : Option ((Int × Int × (List Str)) ⊕ ((Int × (List File) × Int × Int × Bool × (List Str)) ⊕ (Int × (List File) × Int × Int × Bool))) :=
 (wal_may a587).bind fun y599 =>
 if y599 then
  (wal_Name a587).bind fun y634 =>
  (disk_Read d y634).bind fun y636 =>
  if (!(decide (y636.2 = 0))) then
   some (.inr (.inl (a586, d.Files, d.Room, d.Fuse, d.Off, a588)))
  else
   (wal_Scan y636.1).bind fun y640 =>
   need ((a588.length + y640.1.length) * 16 ≤ 140737488355328) <|
   if (decide (y640.2 < (y636.1.length : Int))) then
    need ((0 : Int) ≤ (0 : Int) ∧ 0 ≤ y640.2 ∧ y640.2 ≤ (y636.1.length : Int)) <|
    (wal_cut d a587 (cut y636.1 0 y640.2)).bind fun y650 =>
    if (!(decide (y650.2 = 0))) then
     some (.inr (.inr (y650.2, y650.1.Files, y650.1.Room, y650.1.Fuse, y650.1.Off)))
    else
     some (.inr (.inl (a587, y650.1.Files, y650.1.Room, y650.1.Fuse, y650.1.Off, (a588 ++ y640.1))))
   else
    some (.inl (a587, (IntKind.i64.wrap (a587 + 1)), (a588 ++ y640.1)))
 else
  some (.inr (.inl (a586, d.Files, d.Room, d.Fuse, d.Off, a588)))
noncomputable def wal_Recover (d : Disk) (from_ : Int) : Option (Disk × (List Str) × Int × Int) :=
 (wal_may from_).bind fun y4 =>
 if (!y4) then
  some (d, [], from_, 1)
 else
  (loop (fun (s593 : Int × Int × (List Str)) => wal_Recover_l2 d s593.1 s593.2.1 s593.2.2) (from_, from_, ([] : (List Str)))).bind fun (y589 : (Int × (List File) × Int × Int × Bool × (List Str)) ⊕ (Int × (List File) × Int × Int × Bool)) =>
  match y589 with
  | (.inl v591) =>
   some (({ Files := v591.2.1, Room := v591.2.2.1, Fuse := v591.2.2.2.1, Off := v591.2.2.2.2.1 } : Disk), v591.2.2.2.2.2, v591.1, 0)
  | (.inr v592) =>
   some (({ Files := v592.2.1, Room := v592.2.2.1, Fuse := v592.2.2.2.1, Off := v592.2.2.2.2 } : Disk), [], from_, v592.1)
def gm_wal_Recover : Gm := ⟨tys, [], [], []⟩
theorem wal_Recover_walk (d : Disk) (from_ : Int) (r : Disk × (List Str) × Int × Int) (h : wal_Recover d from_ = some r) : PureP Tryz.prog 38 [.agg [.sl (List.map encFile d.Files), .v (.int .i64 d.Room), .v (.int .i64 d.Fuse), .v (.bool d.Off)], .v (.int .i64 from_)] (fun a => a = .tup [.agg [.sl (List.map encFile r.1.Files), .v (.int .i64 r.1.Room), .v (.int .i64 r.1.Fuse), .v (.bool r.1.Off)], .sl (List.map encS r.2.1), .v (.int .i64 r.2.2.1), .v (.int .i64 r.2.2.2)]) := by
 unfold wal_Recover at h
 refine pureW (G := gm_wal_Recover) tyOk Tryz.func38 rfl (by kernel_rfl) (by simp [Tryz.f38]) ?_
 refine Tri.seqK ?_
 refine Tri.run (G := gm_wal_Recover) tyOk mixed ?_
 conv => whnf
 refine Tri.scope ?_
 refine Tri.seqK ?_
 refine Tri.seqK ?_
 refine Tri.run (G := gm_wal_Recover) tyOk mixed ?_
 conv => whnf
 replace h := bind_some h
 obtain ⟨y4, q5, h⟩ := h
 refine PureP.mono (wal_may_walk from_ y4 q5) ?_
 rintro _ rfl
 conv => whnf
 refine Tri.cond rfl (fun c6 => ?_) (fun c6 => ?_)
 ·replace h := if_t c6 h
  refine Tri.seqK ?_
  refine Tri.run (G := gm_wal_Recover) tyOk mixed ?_
  conv => whnf
  refine Tri.run (G := gm_wal_Recover) tyOk mixed ?_
  conv => whnf
  refine fin_here ?_
  conv => whnf
  cases h
  rfl
 ·replace h := if_f c6 h
  refine Tri.run (G := gm_wal_Recover) tyOk mixed ?_
  conv => whnf
  refine Tri.seqK ?_
  refine Tri.run (G := gm_wal_Recover) tyOk mixed ?_
  conv => whnf
  refine Tri.seqK ?_
  refine Tri.run (G := gm_wal_Recover) tyOk mixed ?_
  conv => whnf
  refine Tri.seqK ?_
  refine Tri.run (G := gm_wal_Recover) tyOk mixed ?_
  conv => whnf
  refine Tri.seqK ?_
  refine Tri.seqK ?_
  refine Tri.run (G := gm_wal_Recover) tyOk mixed ?_
  conv => whnf
  refine Tri.block ?_
  replace h := bind_some h
  obtain ⟨y589, q590, h⟩ := h
  refine Tri.cut (fun ex S' => (∃ v591 : Int × (List File) × Int × Int × Bool × (List Str), y589 = (.inl v591) ∧ ex = (.exit 0) ∧ Weak S' ⟨68, 0, ofRegs [(2, .ptr 0 0), (4, .ptr 1 0), (8, .row 2 ((List.map encS v591.2.2.2.2.2).length)), (9, .v (.int .i64 v591.1))], [.var 31 [.sl (List.map encFile v591.2.1), .v (.int .i64 v591.2.2.1), .v (.int .i64 v591.2.2.2.1), .v (.bool v591.2.2.2.2.1)], .var 31 [.v (.slice none 0 0), .v (.int .i64 0), .v (.int .i64 0), .v (.bool false)], .row 9 1 (List.map encS v591.2.2.2.2.2)]⟩) ∨ (∃ v592 : Int × (List File) × Int × Int × Bool, y589 = (.inr v592) ∧ ex = .ret ∧ Weak S' ⟨68, 0, ofRegs [(4, .ptr 1 0), (5, .v (.slice none 0 0)), (6, .v (.int .i64 from_)), (7, .v (.int .i64 v592.1))], [.gone, .var 31 [.sl (List.map encFile v592.2.1), .v (.int .i64 v592.2.2.1), .v (.int .i64 v592.2.2.2.1), .v (.bool v592.2.2.2.2)]]⟩)) ?_ ?_
  ·refine Tri.loopF (fun (s593 : Int × Int × (List Str)) => (⟨68, 0, ofRegs [(1, .v (.int .i64 from_)), (2, .ptr 0 0), (4, .ptr 1 0), (8, .row 2 ((List.map encS s593.2.2).length)), (9, .v (.int .i64 s593.1)), (10, .v (.int .i64 s593.2.1))], [.var 31 [.sl (List.map encFile d.Files), .v (.int .i64 d.Room), .v (.int .i64 d.Fuse), .v (.bool d.Off)], .var 31 [.v (.slice none 0 0), .v (.int .i64 0), .v (.int .i64 0), .v (.bool false)], .row 9 1 (List.map encS s593.2.2)]⟩ : St)) q590 (Weak.trans (weak_nil 8 9 1 rfl) (weak_fin _ rfl rfl rfl (.cons (.same rfl) (.cons (.same rfl) (.cons (.same rfl) (LeH.rest)))) (.cons (.one (.same rfl)) (.cons (.one (.same rfl)) (.cons (.one (.same rfl)) (.cons (.one (.same (show (.row 2 0 : AV) = (.row 2 ((List.map encS []).length) : AV) from congrArg (AV.row 2) (by simp)))) (.cons (.one (.same rfl)) (.cons (.one (.same rfl)) (.nil))))))) rfl rfl)) ?_
   rintro ⟨a586, a587, a588⟩ v594 hv r595
   have hv : wal_Recover_l2 d a586 a587 a588 = some v594 := hv
   unfold wal_Recover_l2 at hv
   dsimp only
   refine Tri.seqK ?_
   refine Tri.seqK ?_
   refine Tri.run (G := gm_wal_Recover) tyOk mixed ?_
   conv => whnf
   replace hv := bind_some hv
   obtain ⟨y599, q600, hv⟩ := hv
   refine PureP.mono (wal_may_walk a587 y599 q600) ?_
   rintro _ rfl
   conv => whnf
   refine Tri.cond rfl (fun c601 => ?_) (fun c601 => ?_)
   ·replace hv := if_t c601 hv
    refine Tri.run (G := gm_wal_Recover) tyOk mixed ?_
    conv => whnf
    refine Tri.seqK ?_
    refine Tri.block ?_
    refine Tri.seqK ?_
    refine Tri.run (G := gm_wal_Recover) tyOk mixed ?_
    conv => whnf
    refine Draw.one 9 (.take 0 (.take 1 (.alt 2 (.alt 3 (.take 4 (.take 5 (.take 6 (.take 7 (.take 8 (.fin)))))) (.nil)) (.nil)))) [] (by kernel_rfl) ?_
    conv => whnf
    refine ⟨?_, ?_⟩
    ·conv => whnf
     replace hv := bind_some hv
     obtain ⟨y634, q635, hv⟩ := hv
     refine PureP.mono (wal_Name_walk a587 y634 q635) ?_
     rintro _ rfl
     conv => whnf
     refine ⟨?_, ?_⟩
     ·conv => whnf
      replace hv := bind_some hv
      obtain ⟨y636, q637, hv⟩ := hv
      refine PureP.mono (disk_Read_walk d y634 y636 q637) ?_
      rintro _ rfl
      conv => whnf
      refine Tri.seqK ?_
      refine Tri.seqK ?_
      refine Tri.run (G := gm_wal_Recover) tyOk mixed ?_
      conv => whnf
      refine Tri.cond rfl (fun c639 => ?_) (fun c639 => ?_)
      ·replace hv := if_t c639 hv
       refine Tri.run (G := gm_wal_Recover) tyOk mixed ?_
       conv => whnf
       cases hv
       obtain rfl := r595 _ rfl
       exact Or.inl ⟨_, rfl, rfl, weak_fin _ rfl rfl rfl (.cons (.same rfl) (.cons (.same rfl) (.cons (.same rfl) (LeH.rest)))) (.cons (.one (.same rfl)) (.cons (.one (.same rfl)) (.cons (.one (.same rfl)) (.cons (.one (.same rfl)) (.nil))))) rfl rfl⟩
      ·replace hv := if_f c639 hv
       refine Tri.run (G := gm_wal_Recover) tyOk mixed ?_
       conv => whnf
       refine Tri.seqK ?_
       refine Tri.run (G := gm_wal_Recover) tyOk mixed ?_
       conv => whnf
       replace hv := bind_some hv
       obtain ⟨y640, q641, hv⟩ := hv
       refine PureP.mono (wal_Scan_walk y636.1 y640 q641) ?_
       rintro _ rfl
       conv => whnf
       refine Tri.seqK ?_
       refine Tri.run (G := gm_wal_Recover) tyOk mixed ?_
       conv => whnf
       refine ⟨rfl, ?_⟩
       conv => whnf
       refine ⟨map_len (f := encS) (n := 1) (fun _ => rfl) _, ?_⟩
       conv => whnf
       replace hv := need_some hv
       obtain ⟨p642, hv⟩ := hv
       refine ⟨by simp only [List.length_map]; exact p642, ?_⟩
       conv => whnf
       refine ⟨⟨List.map encS (a588 ++ y640.1), map_app encS _ _ rfl rfl, ?_⟩⟩
       conv => whnf
       refine Tri.seqK ?_
       refine Tri.run (G := gm_wal_Recover) tyOk mixed ?_
       conv => whnf
       refine ⟨⟨(y636.1.length : Int), rfl, ?_⟩⟩
       conv => whnf
       refine Tri.cond rfl (fun c643 => ?_) (fun c643 => ?_)
       ·replace hv := if_t c643 hv
        refine Tri.seqK ?_
        refine Tri.weak (show Weak _ ⟨68, 0, ofRegs [(1, .v (.int .i64 from_)), (2, .ptr 0 0), (4, .ptr 1 0), (8, .row 2 ((List.map encS (a588 ++ y640.1)).length)), (9, .v (.int .i64 a587)), (10, .v (.int .i64 a587)), (11, .v (.string (bs y636.1))), (12, .v (.int .i64 y636.2)), (13, .sl (List.map encS y640.1)), (14, .v (.int .i64 y640.2)), (24, .v (.int .i64 a587)), (25, .v (.bool true)), (28, .tup [.v (.string (bs y636.1)), .v (.int .i64 y636.2)]), (29, .agg [.sl (List.map encFile d.Files), .v (.int .i64 d.Room), .v (.int .i64 d.Fuse), .v (.bool d.Off)]), (30, .v (.int .i64 a587)), (31, .v (.string (bs y634))), (32, .tup [.v (.string (bs y636.1)), .v (.int .i64 y636.2)]), (33, .v (.string (bs y636.1))), (34, .v (.int .i64 y636.2)), (35, .v (.int .i64 y636.2)), (36, .v (.bool false)), (37, .tup [.sl (List.map encS y640.1), .v (.int .i64 y640.2)]), (38, .v (.string (bs y636.1))), (39, .tup [.sl (List.map encS y640.1), .v (.int .i64 y640.2)]), (40, .sl (List.map encS y640.1)), (41, .v (.int .i64 y640.2)), (43, .sl (List.map encS y640.1)), (44, .row 2 ((List.map encS (a588 ++ y640.1)).length)), (45, .v (.int .i64 a587)), (46, .v (.int .i64 y640.2)), (47, .v (.string (bs y636.1))), (48, .v (.int .i64 (y636.1.length : Int))), (49, .v (.bool true))], [.var 31 [.sl (List.map encFile d.Files), .v (.int .i64 d.Room), .v (.int .i64 d.Fuse), .v (.bool d.Off)], .var 31 [.v (.slice none 0 0), .v (.int .i64 0), .v (.int .i64 0), .v (.bool false)], .row 9 1 (List.map encS (a588 ++ y640.1))]⟩ from weak_fin _ rfl rfl rfl (.cons (.same rfl) (.cons (.same rfl) (.cons (.same rfl) (LeH.rest)))) (.cons (.one (.same rfl)) (.cons (.one (.same rfl)) (.cons (.one (.same rfl)) (.cons (.one (.same rfl)) (.cons (.one (.same rfl)) (.cons (.one (.same rfl)) (.cons (.one (.same rfl)) (.cons (.one (.same rfl)) (.cons (.one (.same rfl)) (.cons (.one (.same rfl)) (.cons (.one (.same rfl)) (.cons (.one (.same rfl)) (.cons (.one (.same rfl)) (.cons (.one (.same rfl)) (.cons (.one (.same rfl)) (.cons (.one (.same rfl)) (.cons (.one (.same rfl)) (.cons (.one (.same rfl)) (.cons (.one (.same rfl)) (.cons (.one (.same rfl)) (.cons (.one (.same rfl)) (.cons (.one (.same rfl)) (.cons (.one (.same rfl)) (.cons (.one (.same rfl)) (.cons (.one (.same rfl)) (.cons (.one (.same rfl)) (.cons (.one (.same rfl)) (.cons (.one (.same rfl)) (.cons (.one (.same rfl)) (.cons (.one (.same rfl)) (.cons (.one (.same rfl)) (.cons (.one (.same rfl)) (.cons (.one (.same rfl)) (.nil)))))))))))))))))))))))))))))))))) rfl rfl) ?_
        refine Tri.run (G := gm_wal_Recover) tyOk mixed ?_
        conv => whnf
        replace hv := need_some hv
        obtain ⟨p654, hv⟩ := hv
        replace hv := bind_some hv
        obtain ⟨y650, q655, hv⟩ := hv
        refine Draw.many 11 (.take 0 (.take 1 (.take 2 (.take 3 (.take 4 (.alt 5 (.take 6 (.take 7 (.take 8 (.alt 9 (.alt 10 (.fin) (.nil)) (.nil))))) (.alt 9 (.alt 5 (.take 6 (.take 7 (.take 8 (.alt 10 (.fin) (.nil))))) (.nil)) (.nil)))))))) [3, 4, 5, 6, 7, 8] (⟨68, 0, ofRegs [(1, .v (.int .i64 from_)), (2, .ptr 0 0), (4, .ptr 1 0), (8, .row 2 ((List.map encS (a588 ++ y640.1)).length)), (9, .v (.int .i64 a587)), (15, .ptr 3 0), (58, .v (.int .i64 y650.2))], [.var 31 [.sl (List.map encFile d.Files), .v (.int .i64 d.Room), .v (.int .i64 d.Fuse), .v (.bool d.Off)], .var 31 [.v (.slice none 0 0), .v (.int .i64 0), .v (.int .i64 0), .v (.bool false)], .row 9 1 (List.map encS (a588 ++ y640.1)), .var 31 [.sl (List.map encFile y650.1.Files), .v (.int .i64 y650.1.Room), .v (.int .i64 y650.1.Fuse), .v (.bool y650.1.Off)]]⟩) (by kernel_rfl) ?_ ?_
        ·conv => whnf
         refine ⟨p654, ?_⟩
         conv => whnf
         refine ⟨⟨bs (cut y636.1 0 y640.2), bs_cut _ _ _, ?_⟩⟩
         conv => whnf
         refine ⟨?_, ?_⟩
         ·conv => whnf
          refine PureP.mono (wal_cut_walk d a587 (cut y636.1 0 y640.2) y650 q655) ?_
          rintro _ rfl
          conv => whnf
          refine ⟨?_, ?_⟩
          ·conv => whnf
           refine ⟨?_, ?_⟩
           ·conv => whnf
            exact weak_fin _ rfl rfl rfl (.cons (.same rfl) (.cons (.same rfl) (.cons (.same rfl) (.cons (.same rfl) (LeH.rest))))) (.cons (.one (.same rfl)) (.cons (.one (.same rfl)) (.cons (.one (.same rfl)) (.cons (.one (.same rfl)) (.cons (.one (.same rfl)) (.cons (.one (.same rfl)) (.cons (.one (.same rfl)) (.nil)))))))) rfl rfl
           ·conv => whnf
            trivial
          ·conv => whnf
           trivial
         ·conv => whnf
          refine ⟨?_, ?_⟩
          ·conv => whnf
           refine ⟨?_, ?_⟩
           ·conv => whnf
            refine PureP.mono (wal_cut_walk d a587 (cut y636.1 0 y640.2) y650 q655) ?_
            rintro _ rfl
            conv => whnf
            refine ⟨?_, ?_⟩
            ·conv => whnf
             exact weak_fin _ rfl rfl rfl (.cons (.same rfl) (.cons (.same rfl) (.cons (.same rfl) (.cons (.same rfl) (LeH.rest))))) (.cons (.one (.same rfl)) (.cons (.one (.same rfl)) (.cons (.one (.same rfl)) (.cons (.one (.same rfl)) (.cons (.one (.same rfl)) (.cons (.one (.same rfl)) (.cons (.one (.same rfl)) (.nil)))))))) rfl rfl
            ·conv => whnf
             trivial
           ·conv => whnf
            trivial
          ·conv => whnf
           trivial
        ·conv => whnf
         refine Tri.seqK ?_
         refine Tri.seqK ?_
         refine Tri.run (G := gm_wal_Recover) tyOk mixed ?_
         conv => whnf
         refine Tri.cond rfl (fun c657 => ?_) (fun c657 => ?_)
         ·replace hv := if_t c657 hv
          refine Tri.seqK ?_
          refine Tri.run (G := gm_wal_Recover) tyOk mixed ?_
          conv => whnf
          refine Tri.run (G := gm_wal_Recover) tyOk mixed ?_
          conv => whnf
          cases hv
          obtain rfl := r595 _ rfl
          exact Or.inr (⟨_, rfl, rfl, weak_fin _ rfl rfl rfl (.cons (.gone) (.cons (.same rfl) (LeH.rest))) (.cons (.one (.same rfl)) (.cons (.one (.same rfl)) (.cons (.one (.same rfl)) (.cons (.one (.same rfl)) (.nil))))) rfl rfl⟩)
         ·replace hv := if_f c657 hv
          refine Tri.run (G := gm_wal_Recover) tyOk mixed ?_
          conv => whnf
          refine Tri.seqK ?_
          refine Tri.run (G := gm_wal_Recover) tyOk mixed ?_
          conv => whnf
          refine Tri.run (G := gm_wal_Recover) tyOk mixed ?_
          conv => whnf
          cases hv
          obtain rfl := r595 _ rfl
          exact Or.inl ⟨_, rfl, rfl, weak_fin _ rfl rfl rfl (.cons (.same rfl) (.cons (.same rfl) (.cons (.same rfl) (LeH.rest)))) (.cons (.one (.same rfl)) (.cons (.one (.same rfl)) (.cons (.one (.same rfl)) (.cons (.one (.same rfl)) (.nil))))) rfl rfl⟩
       ·replace hv := if_f c643 hv
        refine Tri.run (G := gm_wal_Recover) tyOk mixed ?_
        conv => whnf
        refine Tri.run (G := gm_wal_Recover) tyOk mixed ?_
        conv => whnf
        cases hv
        exact ⟨_, rfl, weak_fin _ rfl rfl rfl (.cons (.same rfl) (.cons (.same rfl) (.cons (.same rfl) (LeH.rest)))) (.cons (.one (.same rfl)) (.cons (.one (.same rfl)) (.cons (.one (.same rfl)) (.cons (.one (.same rfl)) (.cons (.one (.same rfl)) (.cons (.one (.same rfl)) (.nil))))))) rfl rfl⟩
     ·conv => whnf
      trivial
    ·conv => whnf
     trivial
   ·replace hv := if_f c601 hv
    refine Tri.run (G := gm_wal_Recover) tyOk mixed ?_
    conv => whnf
    cases hv
    obtain rfl := r595 _ rfl
    exact Or.inl ⟨_, rfl, rfl, weak_fin _ rfl rfl rfl (.cons (.same rfl) (.cons (.same rfl) (.cons (.same rfl) (LeH.rest)))) (.cons (.one (.same rfl)) (.cons (.one (.same rfl)) (.cons (.one (.same rfl)) (.cons (.one (.same rfl)) (.nil))))) rfl rfl⟩
  ·rintro ex S' (⟨v591, rfl, rfl, w658⟩ | ⟨v592, rfl, rfl, w658⟩)
   ·dsimp only at h
    conv => whnf
    refine Tri.weak w658 ?_
    refine Tri.seqK ?_
    refine Tri.run (G := gm_wal_Recover) tyOk mixed ?_
    conv => whnf
    refine Tri.run (G := gm_wal_Recover) tyOk mixed ?_
    conv => whnf
    refine fin_here ?_
    conv => whnf
    refine ⟨rfl, ?_⟩
    conv => whnf
    cases h
    rfl
   ·dsimp only at h
    conv => whnf
    refine fin_pre w658 ?_
    conv => whnf
    cases h
    rfl
noncomputable def batch_num (x : Str) (x2 : Bool) (most : Int) : Option (Int × (Str × Bool)) :=
 (dec_TakeNum x).bind fun y14 =>
 if (!(x2 && ((decide (y14.2.2 = 0)) && (decide (y14.1 ≤ most))))) then
  some (0, (y14.2.1, (x2 && ((decide (y14.2.2 = 0)) && (decide (y14.1 ≤ most))))))
 else
  some (y14.1, (y14.2.1, (x2 && ((decide (y14.2.2 = 0)) && (decide (y14.1 ≤ most))))))
def gm_batch_num : Gm := ⟨tys, [], [], []⟩
theorem batch_num_walk (x : Str) (x2 : Bool) (most : Int) (r : Int × (Str × Bool)) (h : batch_num x x2 most = some r) : CallP Tryz.prog 93 [.var 167 [.v (.string (bs x)), .v (.bool x2), .fn (.func 93) [] [], .fn (.func 94) [] []]] [.ptr 0 0, .v (.int .u64 most)] (fun a H' => a = .v (.int .u64 r.1) ∧ H'.take ([.var 167 [.v (.string (bs r.2.1)), .v (.bool r.2.2), .fn (.func 93) [] [], .fn (.func 94) [] []]] : List Ob).length = [.var 167 [.v (.string (bs r.2.1)), .v (.bool r.2.2), .fn (.func 93) [] [], .fn (.func 94) [] []]]) := by
 unfold batch_num at h
 refine callW (G := gm_batch_num) tyOk Tryz.func93 rfl (by kernel_rfl) (by simp [Tryz.f93]) ?_
 refine Tri.seqK ?_
 refine Tri.run (G := gm_batch_num) tyOk mixed ?_
 conv => whnf
 refine Tri.seqK ?_
 refine Tri.run (G := gm_batch_num) tyOk mixed ?_
 conv => whnf
 replace h := bind_some h
 obtain ⟨y14, q15, h⟩ := h
 refine PureP.mono (dec_TakeNum_walk x y14 q15) ?_
 rintro _ rfl
 conv => whnf
 refine Tri.seqK ?_
 refine Tri.cut (fun ex S' => ex = .normal ∧ Weak S' ⟨43, 1, ofRegs [(0, .ptr 0 0), (5, .v (.int .u64 y14.1))], [.var 167 [.v (.string (bs y14.2.1)), .v (.bool (x2 && ((decide (y14.2.2 = 0)) && (decide (y14.1 ≤ most))))), .fn (.func 93) [] [], .fn (.func 94) [] []]]⟩) ?_ ?_
 ·refine Tri.run (G := gm_batch_num) tyOk mixed ?_
  conv => whnf
  refine cond_mk (fun c22 => ?_) (fun c22 => ?_)
  ·replace c22 : x2 = true := c22
   conv => whnf
   refine cond_mk (fun c23 => ?_) (fun c23 => ?_)
   ·replace c23 : (decide (y14.2.2 = 0)) = true := c23
    conv => whnf
    exact ⟨rfl, weak_fin _ rfl rfl rfl (.cons (.var (.cons (.same rfl) (.cons (.same (show (.v (.bool (decide (y14.1 ≤ most))) : AV) = (.v (.bool (x2 && ((decide (y14.2.2 = 0)) && (decide (y14.1 ≤ most))))) : AV) from by first | (simp [c22, c23]; done) | (simp only [c22, c23, Bool.or_true, Bool.true_or, Bool.false_or, Bool.or_false, Bool.and_true, Bool.true_and, Bool.and_false, Bool.false_and, Bool.not_true, Bool.not_false, if_true, if_false, Bool.false_eq_true]; done) | (exfalso; revert c22 c23; simp +contextual; done))) (.cons (.same rfl) (.cons (.same rfl) (.nil)))))) (LeH.rest)) (.cons (.one (.same rfl)) (.cons (.one (.same rfl)) (.nil))) rfl rfl⟩
   ·replace c23 : (decide (y14.2.2 = 0)) = false := c23
    conv => whnf
    exact ⟨rfl, weak_fin _ rfl rfl rfl (.cons (.var (.cons (.same rfl) (.cons (.same (show (.v (.bool false) : AV) = (.v (.bool (x2 && ((decide (y14.2.2 = 0)) && (decide (y14.1 ≤ most))))) : AV) from by first | (simp [c22, c23]; done) | (simp only [c22, c23, Bool.or_true, Bool.true_or, Bool.false_or, Bool.or_false, Bool.and_true, Bool.true_and, Bool.and_false, Bool.false_and, Bool.not_true, Bool.not_false, if_true, if_false, Bool.false_eq_true]; done) | (exfalso; revert c22 c23; simp +contextual; done))) (.cons (.same rfl) (.cons (.same rfl) (.nil)))))) (LeH.rest)) (.cons (.one (.same rfl)) (.cons (.one (.same rfl)) (.nil))) rfl rfl⟩
  ·replace c22 : x2 = false := c22
   conv => whnf
   exact ⟨rfl, weak_fin _ rfl rfl rfl (.cons (.var (.cons (.same rfl) (.cons (.same (show (.v (.bool false) : AV) = (.v (.bool (x2 && ((decide (y14.2.2 = 0)) && (decide (y14.1 ≤ most))))) : AV) from by first | (simp [c22]; done) | (simp only [c22, Bool.or_true, Bool.true_or, Bool.false_or, Bool.or_false, Bool.and_true, Bool.true_and, Bool.and_false, Bool.false_and, Bool.not_true, Bool.not_false, if_true, if_false, Bool.false_eq_true]; done) | (exfalso; revert c22; simp +contextual; done))) (.cons (.same rfl) (.cons (.same rfl) (.nil)))))) (LeH.rest)) (.cons (.one (.same rfl)) (.cons (.one (.same rfl)) (.nil))) rfl rfl⟩
 ·rintro ex S' ⟨rfl, w24⟩
  conv => whnf
  refine Tri.weak w24 ?_
  refine Tri.seqK ?_
  refine Tri.seqK ?_
  refine Tri.run (G := gm_batch_num) tyOk mixed ?_
  conv => whnf
  refine Tri.cond rfl (fun c26 => ?_) (fun c26 => ?_)
  ·replace h := if_t c26 h
   refine Tri.seqK ?_
   refine Tri.run (G := gm_batch_num) tyOk mixed ?_
   conv => whnf
   refine Tri.run (G := gm_batch_num) tyOk mixed ?_
   conv => whnf
   refine fin_pre (S' := ⟨43, 1, ofRegs [(4, .v (.int .u64 0))], [.var 167 [.v (.string (bs y14.2.1)), .v (.bool (x2 && ((decide (y14.2.2 = 0)) && (decide (y14.1 ≤ most))))), .fn (.func 93) [] [], .fn (.func 94) [] []]]⟩) (weak_fin _ rfl rfl rfl (.cons (.same rfl) (LeH.rest)) (.cons (.one (.same rfl)) (.nil)) rfl rfl) ?_
   conv => whnf
   cases h
   exact ⟨rfl, rfl⟩
  ·replace h := if_f c26 h
   refine Tri.run (G := gm_batch_num) tyOk mixed ?_
   conv => whnf
   refine Tri.seqK ?_
   refine Tri.run (G := gm_batch_num) tyOk mixed ?_
   conv => whnf
   refine Tri.run (G := gm_batch_num) tyOk mixed ?_
   conv => whnf
   refine fin_pre (S' := ⟨43, 1, ofRegs [(4, .v (.int .u64 y14.1))], [.var 167 [.v (.string (bs y14.2.1)), .v (.bool (x2 && ((decide (y14.2.2 = 0)) && (decide (y14.1 ≤ most))))), .fn (.func 93) [] [], .fn (.func 94) [] []]]⟩) (weak_fin _ rfl rfl rfl (.cons (.same rfl) (LeH.rest)) (.cons (.one (.same rfl)) (.nil)) rfl rfl) ?_
   conv => whnf
   cases h
   exact ⟨rfl, rfl⟩
noncomputable def batch_text (x : Str) (x2 : Bool) (most : Int) : Option (Str × (Str × Bool)) :=
 (dec_TakeText x most).bind fun y8 =>
 some (y8.1, (y8.2.1, (x2 && (decide (y8.2.2 = 0)))))
def gm_batch_text : Gm := ⟨tys, [], [], []⟩
theorem batch_text_walk (x : Str) (x2 : Bool) (most : Int) (r : Str × (Str × Bool)) (h : batch_text x x2 most = some r) : CallP Tryz.prog 94 [.var 167 [.v (.string (bs x)), .v (.bool x2), .fn (.func 93) [] [], .fn (.func 94) [] []]] [.ptr 0 0, .v (.int .i64 most)] (fun a H' => a = .v (.string (bs r.1)) ∧ H'.take ([.var 167 [.v (.string (bs r.2.1)), .v (.bool r.2.2), .fn (.func 93) [] [], .fn (.func 94) [] []]] : List Ob).length = [.var 167 [.v (.string (bs r.2.1)), .v (.bool r.2.2), .fn (.func 93) [] [], .fn (.func 94) [] []]]) := by
 unfold batch_text at h
 refine callW (G := gm_batch_text) tyOk Tryz.func94 rfl (by kernel_rfl) (by simp [Tryz.f94]) ?_
 refine Tri.seqK ?_
 refine Tri.run (G := gm_batch_text) tyOk mixed ?_
 conv => whnf
 refine Tri.seqK ?_
 refine Tri.run (G := gm_batch_text) tyOk mixed ?_
 conv => whnf
 replace h := bind_some h
 obtain ⟨y8, q9, h⟩ := h
 refine PureP.mono (dec_TakeText_walk x most y8 q9) ?_
 rintro _ rfl
 conv => whnf
 refine Tri.seqK ?_
 refine Tri.cut (fun ex S' => ex = .normal ∧ Weak S' ⟨34, 1, ofRegs [(5, .v (.string (bs y8.1)))], [.var 167 [.v (.string (bs y8.2.1)), .v (.bool (x2 && (decide (y8.2.2 = 0)))), .fn (.func 93) [] [], .fn (.func 94) [] []]]⟩) ?_ ?_
 ·refine Tri.run (G := gm_batch_text) tyOk mixed ?_
  conv => whnf
  refine cond_mk (fun c13 => ?_) (fun c13 => ?_)
  ·replace c13 : x2 = true := c13
   conv => whnf
   exact ⟨rfl, weak_fin _ rfl rfl rfl (.cons (.var (.cons (.same rfl) (.cons (.same (show (.v (.bool (decide (y8.2.2 = 0))) : AV) = (.v (.bool (x2 && (decide (y8.2.2 = 0)))) : AV) from by first | (simp [c13]; done) | (simp only [c13, Bool.or_true, Bool.true_or, Bool.false_or, Bool.or_false, Bool.and_true, Bool.true_and, Bool.and_false, Bool.false_and, Bool.not_true, Bool.not_false, if_true, if_false, Bool.false_eq_true]; done) | (exfalso; revert c13; simp +contextual; done))) (.cons (.same rfl) (.cons (.same rfl) (.nil)))))) (LeH.rest)) (.cons (.one (.same rfl)) (.nil)) rfl rfl⟩
  ·replace c13 : x2 = false := c13
   conv => whnf
   exact ⟨rfl, weak_fin _ rfl rfl rfl (.cons (.var (.cons (.same rfl) (.cons (.same (show (.v (.bool false) : AV) = (.v (.bool (x2 && (decide (y8.2.2 = 0)))) : AV) from by first | (simp [c13]; done) | (simp only [c13, Bool.or_true, Bool.true_or, Bool.false_or, Bool.or_false, Bool.and_true, Bool.true_and, Bool.and_false, Bool.false_and, Bool.not_true, Bool.not_false, if_true, if_false, Bool.false_eq_true]; done) | (exfalso; revert c13; simp +contextual; done))) (.cons (.same rfl) (.cons (.same rfl) (.nil)))))) (LeH.rest)) (.cons (.one (.same rfl)) (.nil)) rfl rfl⟩
 ·rintro ex S' ⟨rfl, w14⟩
  conv => whnf
  refine Tri.weak w14 ?_
  refine Tri.seqK ?_
  refine Tri.run (G := gm_batch_text) tyOk mixed ?_
  conv => whnf
  refine Tri.run (G := gm_batch_text) tyOk mixed ?_
  conv => whnf
  refine fin_pre (S' := ⟨34, 1, ofRegs [(4, .v (.string (bs y8.1)))], [.var 167 [.v (.string (bs y8.2.1)), .v (.bool (x2 && (decide (y8.2.2 = 0)))), .fn (.func 93) [] [], .fn (.func 94) [] []]]⟩) (weak_fin _ rfl rfl rfl (.cons (.same rfl) (LeH.rest)) (.cons (.one (.same rfl)) (.nil)) rfl rfl) ?_
  conv => whnf
  cases h
  exact ⟨rfl, rfl⟩
noncomputable def batch_May_1 (w : Write) : Option (Bool) :=
 if (decide ((w.Key.length : Int) < 1)) then
  some true
 else
  if (decide ((w.Key.length : Int) > 32)) then
   some true
  else
   if (decide ((w.Val.length : Int) > 64)) then
    some true
   else
    if w.Del then
     some (!decide (w.Val = []))
    else
     some false
def gm_batch_May_1 : Gm := ⟨tys, [], [], []⟩
theorem batch_May_1_walk (w : Write) (r : Bool) (h : batch_May_1 w = some r) : PureP Tryz.prog 136 [.agg [.v (.string (bs w.Key)), .v (.string (bs w.Val)), .v (.bool w.Del)]] (fun a => a = .v (.bool r)) := by
 unfold batch_May_1 at h
 refine pureW (G := gm_batch_May_1) tyOk Tryz.func136 rfl (by kernel_rfl) (by simp [Tryz.f136]) ?_
 refine Tri.seqK ?_
 refine Tri.run (G := gm_batch_May_1) tyOk mixed ?_
 conv => whnf
 refine Tri.seqK ?_
 refine Tri.run (G := gm_batch_May_1) tyOk mixed ?_
 conv => whnf
 refine ⟨⟨(w.Key.length : Int), rfl, ?_⟩⟩
 conv => whnf
 refine cond_mk (fun c1 => ?_) (fun c1 => ?_)
 ·replace h := if_t c1 h
  conv => whnf
  refine Tri.run (G := gm_batch_May_1) tyOk mixed ?_
  conv => whnf
  refine fin_here ?_
  conv => whnf
  cases h
  rfl
 ·replace h := if_f c1 h
  conv => whnf
  refine ⟨⟨(w.Key.length : Int), rfl, ?_⟩⟩
  conv => whnf
  refine cond_mk (fun c2 => ?_) (fun c2 => ?_)
  ·replace h := if_t c2 h
   conv => whnf
   refine Tri.run (G := gm_batch_May_1) tyOk mixed ?_
   conv => whnf
   refine fin_here ?_
   conv => whnf
   cases h
   rfl
  ·replace h := if_f c2 h
   conv => whnf
   refine ⟨⟨(w.Val.length : Int), rfl, ?_⟩⟩
   conv => whnf
   refine cond_mk (fun c3 => ?_) (fun c3 => ?_)
   ·replace h := if_t c3 h
    conv => whnf
    refine Tri.run (G := gm_batch_May_1) tyOk mixed ?_
    conv => whnf
    refine fin_here ?_
    conv => whnf
    cases h
    rfl
   ·replace h := if_f c3 h
    conv => whnf
    refine cond_mk (fun c4 => ?_) (fun c4 => ?_)
    ·replace h := if_t c4 h
     conv => whnf
     refine ⟨⟨(!decide (w.Val = [])), bs_ne _ _, ?_⟩⟩
     conv => whnf
     refine Tri.run (G := gm_batch_May_1) tyOk mixed ?_
     conv => whnf
     refine fin_here ?_
     conv => whnf
     cases h
     rfl
    ·replace h := if_f c4 h
     conv => whnf
     refine Tri.run (G := gm_batch_May_1) tyOk mixed ?_
     conv => whnf
     refine fin_here ?_
     conv => whnf
     cases h
     rfl
noncomputable def slices_IndexFunc_Write__batch_May_1_l4 (s : (List Write)) (a164 : Int) : Option ((Int) ⊕ ((Int) ⊕ (Unit))) :=
 if (decide (a164 < (s.length : Int))) then
  (ix s a164).bind fun x179 =>
  (batch_May_1 x179).bind fun y181 =>
  if y181 then
   some (.inr (.inl a164))
  else
   some (.inl (IntKind.i64.wrap (a164 + 1)))
 else
  some (.inr (.inr ()))
noncomputable def slices_IndexFunc_Write__batch_May_1 (s : (List Write)) : Option (Int) :=
 (loop (fun (s169 : Int) => slices_IndexFunc_Write__batch_May_1_l4 s s169) (0 : Int)).bind fun (y165 : (Int) ⊕ (Unit)) =>
 match y165 with
 | (.inl v167) =>
  some v167
 | (.inr v168) =>
  some (-1)
def gm_slices_IndexFunc_Write__batch_May_1 : Gm := ⟨tys, [], [], []⟩
theorem slices_IndexFunc_Write__batch_May_1_walk (s : (List Write)) (r : Int) (h : slices_IndexFunc_Write__batch_May_1 s = some r) : CallP Tryz.prog 168 [] [.sl (List.map encWrite s), .fn (.func 136) [] []] (fun a H' => a = .v (.int .i64 r) ∧ H'.take ([] : List Ob).length = []) := by
 unfold slices_IndexFunc_Write__batch_May_1 at h
 refine callW (G := gm_slices_IndexFunc_Write__batch_May_1) tyOk Tryz.func168 rfl (by kernel_rfl) (by simp [Tryz.f168]) ?_
 refine Tri.seqK ?_
 refine Tri.run (G := gm_slices_IndexFunc_Write__batch_May_1) tyOk mixed ?_
 conv => whnf
 refine Tri.seqK ?_
 refine Tri.seqK ?_
 refine Tri.run (G := gm_slices_IndexFunc_Write__batch_May_1) tyOk mixed ?_
 conv => whnf
 refine ⟨⟨(s.length : Int), (len_map _ _).symm, ?_⟩⟩
 conv => whnf
 refine Tri.block ?_
 replace h := bind_some h
 obtain ⟨y165, q166, h⟩ := h
 refine Tri.cut (fun ex S' => (∃ v167 : Int, y165 = (.inl v167) ∧ ex = .ret ∧ Weak S' ⟨19, 0, ofRegs [(4, .v (.int .i64 v167))], []⟩) ∨ (∃ v168 : Unit, y165 = (.inr v168) ∧ ex = (.exit 0) ∧ Weak S' ⟨19, 0, ofRegs [], []⟩)) ?_ ?_
 ·refine Tri.loopF (fun (s169 : Int) => (⟨19, 0, ofRegs [(0, .sl (List.map encWrite s)), (1, .fn (.func 136) [] []), (7, .v (.int .i64 (s.length : Int))), (8, .v (.int .i64 s169))], []⟩ : St)) q166 (weak_fin _ rfl rfl rfl (LeH.rest) (.cons (.one (.same rfl)) (.cons (.one (.same rfl)) (.cons (.one (.same rfl)) (.cons (.one (.same rfl)) (.nil))))) rfl rfl) ?_
  rintro a164 v170 hv r171
  have hv : slices_IndexFunc_Write__batch_May_1_l4 s a164 = some v170 := hv
  unfold slices_IndexFunc_Write__batch_May_1_l4 at hv
  refine Tri.seqK ?_
  refine Tri.run (G := gm_slices_IndexFunc_Write__batch_May_1) tyOk mixed ?_
  conv => whnf
  refine Tri.seqK ?_
  refine Tri.cond rfl (fun c173 => ?_) (fun c173 => ?_)
  ·replace hv := if_t c173 hv
   refine Tri.run (G := gm_slices_IndexFunc_Write__batch_May_1) tyOk mixed ?_
   conv => whnf
   refine Tri.seqK ?_
   refine Tri.block ?_
   refine Tri.seqK ?_
   refine Tri.run (G := gm_slices_IndexFunc_Write__batch_May_1) tyOk mixed ?_
   conv => whnf
   refine Tri.seqK ?_
   refine Tri.run (G := gm_slices_IndexFunc_Write__batch_May_1) tyOk mixed ?_
   conv => whnf
   replace hv := bind_some hv
   obtain ⟨x179, q180, hv⟩ := hv
   refine ⟨(ix_some q180).1, ?_⟩
   conv => whnf
   refine ⟨⟨_, map_get encWrite (ix_some q180).2, ?_⟩⟩
   conv => whnf
   refine ⟨rfl, ?_⟩
   conv => whnf
   replace hv := bind_some hv
   obtain ⟨y181, q182, hv⟩ := hv
   refine PureP.mono (batch_May_1_walk x179 y181 q182) ?_
   rintro _ rfl
   conv => whnf
   refine Tri.cond rfl (fun c183 => ?_) (fun c183 => ?_)
   ·replace hv := if_t c183 hv
    refine Tri.seqK ?_
    refine Tri.run (G := gm_slices_IndexFunc_Write__batch_May_1) tyOk mixed ?_
    conv => whnf
    refine Tri.run (G := gm_slices_IndexFunc_Write__batch_May_1) tyOk mixed ?_
    conv => whnf
    cases hv
    obtain rfl := r171 _ rfl
    exact Or.inl ⟨_, rfl, rfl, weak_fin _ rfl rfl rfl (LeH.rest) (.cons (.one (.same rfl)) (.nil)) rfl rfl⟩
   ·replace hv := if_f c183 hv
    refine Tri.run (G := gm_slices_IndexFunc_Write__batch_May_1) tyOk mixed ?_
    conv => whnf
    refine Tri.run (G := gm_slices_IndexFunc_Write__batch_May_1) tyOk mixed ?_
    conv => whnf
    cases hv
    exact ⟨_, rfl, weak_fin _ rfl rfl rfl (LeH.rest) (.cons (.one (.same rfl)) (.cons (.one (.same rfl)) (.cons (.one (.same rfl)) (.cons (.one (.same rfl)) (.nil))))) rfl rfl⟩
  ·replace hv := if_f c173 hv
   refine Tri.run (G := gm_slices_IndexFunc_Write__batch_May_1) tyOk mixed ?_
   conv => whnf
   cases hv
   obtain rfl := r171 _ rfl
   exact Or.inr (⟨_, rfl, rfl, weak_fin _ rfl rfl rfl (LeH.rest) (.nil) rfl rfl⟩)
 ·rintro ex S' (⟨v167, rfl, rfl, w184⟩ | ⟨v168, rfl, rfl, w184⟩)
  ·dsimp only at h
   conv => whnf
   refine fin_pre (S' := ⟨19, 0, ofRegs [(4, .v (.int .i64 v167))], []⟩) (Weak.trans w184 (weak_fin _ rfl rfl rfl (LeH.rest) (.cons (.one (.same rfl)) (.nil)) rfl rfl)) ?_
   conv => whnf
   cases h
   exact ⟨rfl, rfl⟩
  ·dsimp only at h
   conv => whnf
   refine Tri.weak w184 ?_
   refine Tri.seqK ?_
   refine Tri.run (G := gm_slices_IndexFunc_Write__batch_May_1) tyOk mixed ?_
   conv => whnf
   refine Tri.run (G := gm_slices_IndexFunc_Write__batch_May_1) tyOk mixed ?_
   conv => whnf
   refine fin_pre (S' := ⟨19, 0, ofRegs [(4, .v (.int .i64 (-1)))], []⟩) (weak_fin _ rfl rfl rfl (LeH.rest) (.cons (.one (.same rfl)) (.nil)) rfl rfl) ?_
   conv => whnf
   cases h
   exact ⟨rfl, rfl⟩
noncomputable def slices_ContainsFunc_Write__batch_May_1 (s : (List Write)) : Option (Bool) :=
 (slices_IndexFunc_Write__batch_May_1 s).bind fun y3 =>
 some (decide (y3 ≥ 0))
def gm_slices_ContainsFunc_Write__batch_May_1 : Gm := ⟨tys, [168], [], []⟩
theorem slices_ContainsFunc_Write__batch_May_1_walk (s : (List Write)) (r : Bool) (h : slices_ContainsFunc_Write__batch_May_1 s = some r) : CallP Tryz.prog 137 [] [.sl (List.map encWrite s), .fn (.func 136) [] []] (fun a H' => a = .v (.bool r) ∧ H'.take ([] : List Ob).length = []) := by
 unfold slices_ContainsFunc_Write__batch_May_1 at h
 refine callW (G := gm_slices_ContainsFunc_Write__batch_May_1) tyOk Tryz.func137 rfl (by kernel_rfl) (by simp [Tryz.f137]) ?_
 refine Tri.seqK ?_
 refine Tri.run (G := gm_slices_ContainsFunc_Write__batch_May_1) tyOk mixed ?_
 conv => whnf
 refine Tri.seqK ?_
 refine Tri.run (G := gm_slices_ContainsFunc_Write__batch_May_1) tyOk mixed ?_
 conv => whnf
 replace h := bind_some h
 obtain ⟨y3, q4, h⟩ := h
 refine CallP.use (slices_IndexFunc_Write__batch_May_1_walk s y3 q4) [] rfl rfl rfl rfl rfl rfl rfl rfl rfl ?_
 conv => whnf
 refine Tri.run (G := gm_slices_ContainsFunc_Write__batch_May_1) tyOk mixed ?_
 conv => whnf
 refine fin_pre (S' := ⟨9, 0, ofRegs [(4, .v (.bool (decide (y3 ≥ 0))))], []⟩) (weak_fin _ rfl rfl rfl (LeH.rest) (.cons (.one (.same rfl)) (.nil)) rfl rfl) ?_
 conv => whnf
 cases h
 exact ⟨rfl, rfl⟩
noncomputable def batch_May_l2 (b : Batch) (a196 : Int) : Option ((Int) ⊕ ((Unit) ⊕ (Unit))) :=
 if (decide (a196 < (b.Writes.length : Int))) then
  (ix b.Writes (IntKind.i64.wrap (a196 - 1))).bind fun x219 =>
  (ix b.Writes a196).bind fun x221 =>
  if (!ltS x219.Key x221.Key) then
   some (.inr (.inl ()))
  else
   some (.inl (IntKind.i64.wrap (a196 + 1)))
 else
  some (.inr (.inr ()))
noncomputable def batch_May (b : Batch) : Option (Bool) :=
 if (if (!(decide (b.Kind = 1))) then ((!(decide (b.Kind = 2))) || ((decide ((b.Token.length : Int) < 1)) || ((decide ((b.Token.length : Int) > 16)) || ((decide ((b.Writes.length : Int) > 24)) || ((decide (b.Kind = 2)) && (decide ((b.Writes.length : Int) > 0))))))) else ((decide ((b.Token.length : Int) < 1)) || ((decide ((b.Token.length : Int) > 16)) || ((decide ((b.Writes.length : Int) > 24)) || ((decide (b.Kind = 2)) && (decide ((b.Writes.length : Int) > 0))))))) then
  some false
 else
  (loop (fun (s201 : Int) => batch_May_l2 b s201) (1 : Int)).bind fun (y197 : (Unit) ⊕ (Unit)) =>
  match y197 with
  | (.inl v199) =>
   some false
  | (.inr v200) =>
   (slices_ContainsFunc_Write__batch_May_1 b.Writes).bind fun y225 =>
   some (!y225)
def gm_batch_May : Gm := ⟨tys, [137], [], []⟩
theorem batch_May_walk (b : Batch) (r : Bool) (h : batch_May b = some r) : PureP Tryz.prog 95 [.agg [.v (.int .i64 b.Kind), .v (.string (bs b.Token)), .sl (List.map encWrite b.Writes)]] (fun a => a = .v (.bool r)) := by
 unfold batch_May at h
 refine pureW (G := gm_batch_May) tyOk Tryz.func95 rfl (by kernel_rfl) (by simp [Tryz.f95]) ?_
 refine Tri.seqK ?_
 refine Tri.run (G := gm_batch_May) tyOk mixed ?_
 conv => whnf
 refine Tri.seqK ?_
 refine Tri.seqK ?_
 refine Tri.cut (fun ex S' => ex = .normal ∧ Weak S' ⟨68, 0, ofRegs [(1, .ptr 0 0), (41, .v (.bool (if (!(decide (b.Kind = 1))) then ((!(decide (b.Kind = 2))) || ((decide ((b.Token.length : Int) < 1)) || ((decide ((b.Token.length : Int) > 16)) || ((decide ((b.Writes.length : Int) > 24)) || ((decide (b.Kind = 2)) && (decide ((b.Writes.length : Int) > 0))))))) else ((decide ((b.Token.length : Int) < 1)) || ((decide ((b.Token.length : Int) > 16)) || ((decide ((b.Writes.length : Int) > 24)) || ((decide (b.Kind = 2)) && (decide ((b.Writes.length : Int) > 0)))))))))], [.var 25 [.v (.int .i64 b.Kind), .v (.string (bs b.Token)), .sl (List.map encWrite b.Writes)]]⟩) ?_ ?_
 ·refine Tri.run (G := gm_batch_May) tyOk mixed ?_
  conv => whnf
  refine cond_mk (fun c73 => ?_) (fun c73 => ?_)
  ·replace c73 : (!(decide (b.Kind = 1))) = true := c73
   conv => whnf
   refine cond_mk (fun c74 => ?_) (fun c74 => ?_)
   ·replace c74 : (!(decide (b.Kind = 2))) = true := c74
    conv => whnf
    exact ⟨rfl, weak_fin _ rfl rfl rfl (.cons (.same rfl) (LeH.rest)) (.cons (.one (.same rfl)) (.cons (.one (.same (show (.v (.bool true) : AV) = (.v (.bool (if (!(decide (b.Kind = 1))) then ((!(decide (b.Kind = 2))) || ((decide ((b.Token.length : Int) < 1)) || ((decide ((b.Token.length : Int) > 16)) || ((decide ((b.Writes.length : Int) > 24)) || ((decide (b.Kind = 2)) && (decide ((b.Writes.length : Int) > 0))))))) else ((decide ((b.Token.length : Int) < 1)) || ((decide ((b.Token.length : Int) > 16)) || ((decide ((b.Writes.length : Int) > 24)) || ((decide (b.Kind = 2)) && (decide ((b.Writes.length : Int) > 0)))))))) : AV) from by first | (simp [c73, c74]; done) | (simp only [c73, c74, Bool.or_true, Bool.true_or, Bool.false_or, Bool.or_false, Bool.and_true, Bool.true_and, Bool.and_false, Bool.false_and, Bool.not_true, Bool.not_false, if_true, if_false, Bool.false_eq_true]; done) | (exfalso; revert c73 c74; simp +contextual; done)))) (.nil))) rfl rfl⟩
   ·replace c74 : (!(decide (b.Kind = 2))) = false := c74
    conv => whnf
    refine ⟨⟨(b.Token.length : Int), rfl, ?_⟩⟩
    conv => whnf
    refine cond_mk (fun c75 => ?_) (fun c75 => ?_)
    ·replace c75 : (decide ((b.Token.length : Int) < 1)) = true := c75
     conv => whnf
     exact ⟨rfl, weak_fin _ rfl rfl rfl (.cons (.same rfl) (LeH.rest)) (.cons (.one (.same rfl)) (.cons (.one (.same (show (.v (.bool true) : AV) = (.v (.bool (if (!(decide (b.Kind = 1))) then ((!(decide (b.Kind = 2))) || ((decide ((b.Token.length : Int) < 1)) || ((decide ((b.Token.length : Int) > 16)) || ((decide ((b.Writes.length : Int) > 24)) || ((decide (b.Kind = 2)) && (decide ((b.Writes.length : Int) > 0))))))) else ((decide ((b.Token.length : Int) < 1)) || ((decide ((b.Token.length : Int) > 16)) || ((decide ((b.Writes.length : Int) > 24)) || ((decide (b.Kind = 2)) && (decide ((b.Writes.length : Int) > 0)))))))) : AV) from by first | (simp [c73, c74, c75]; done) | (simp only [c73, c74, c75, Bool.or_true, Bool.true_or, Bool.false_or, Bool.or_false, Bool.and_true, Bool.true_and, Bool.and_false, Bool.false_and, Bool.not_true, Bool.not_false, if_true, if_false, Bool.false_eq_true]; done) | (exfalso; revert c73 c74 c75; simp +contextual; done)))) (.nil))) rfl rfl⟩
    ·replace c75 : (decide ((b.Token.length : Int) < 1)) = false := c75
     conv => whnf
     refine ⟨⟨(b.Token.length : Int), rfl, ?_⟩⟩
     conv => whnf
     refine cond_mk (fun c76 => ?_) (fun c76 => ?_)
     ·replace c76 : (decide ((b.Token.length : Int) > 16)) = true := c76
      conv => whnf
      exact ⟨rfl, weak_fin _ rfl rfl rfl (.cons (.same rfl) (LeH.rest)) (.cons (.one (.same rfl)) (.cons (.one (.same (show (.v (.bool true) : AV) = (.v (.bool (if (!(decide (b.Kind = 1))) then ((!(decide (b.Kind = 2))) || ((decide ((b.Token.length : Int) < 1)) || ((decide ((b.Token.length : Int) > 16)) || ((decide ((b.Writes.length : Int) > 24)) || ((decide (b.Kind = 2)) && (decide ((b.Writes.length : Int) > 0))))))) else ((decide ((b.Token.length : Int) < 1)) || ((decide ((b.Token.length : Int) > 16)) || ((decide ((b.Writes.length : Int) > 24)) || ((decide (b.Kind = 2)) && (decide ((b.Writes.length : Int) > 0)))))))) : AV) from by first | (simp [c73, c74, c75, c76]; done) | (simp only [c73, c74, c75, c76, Bool.or_true, Bool.true_or, Bool.false_or, Bool.or_false, Bool.and_true, Bool.true_and, Bool.and_false, Bool.false_and, Bool.not_true, Bool.not_false, if_true, if_false, Bool.false_eq_true]; done) | (exfalso; revert c73 c74 c75 c76; simp +contextual; done)))) (.nil))) rfl rfl⟩
     ·replace c76 : (decide ((b.Token.length : Int) > 16)) = false := c76
      conv => whnf
      refine ⟨⟨(b.Writes.length : Int), (len_map _ _).symm, ?_⟩⟩
      conv => whnf
      refine cond_mk (fun c77 => ?_) (fun c77 => ?_)
      ·replace c77 : (decide ((b.Writes.length : Int) > 24)) = true := c77
       conv => whnf
       exact ⟨rfl, weak_fin _ rfl rfl rfl (.cons (.same rfl) (LeH.rest)) (.cons (.one (.same rfl)) (.cons (.one (.same (show (.v (.bool true) : AV) = (.v (.bool (if (!(decide (b.Kind = 1))) then ((!(decide (b.Kind = 2))) || ((decide ((b.Token.length : Int) < 1)) || ((decide ((b.Token.length : Int) > 16)) || ((decide ((b.Writes.length : Int) > 24)) || ((decide (b.Kind = 2)) && (decide ((b.Writes.length : Int) > 0))))))) else ((decide ((b.Token.length : Int) < 1)) || ((decide ((b.Token.length : Int) > 16)) || ((decide ((b.Writes.length : Int) > 24)) || ((decide (b.Kind = 2)) && (decide ((b.Writes.length : Int) > 0)))))))) : AV) from by first | (simp [c73, c74, c75, c76, c77]; done) | (simp only [c73, c74, c75, c76, c77, Bool.or_true, Bool.true_or, Bool.false_or, Bool.or_false, Bool.and_true, Bool.true_and, Bool.and_false, Bool.false_and, Bool.not_true, Bool.not_false, if_true, if_false, Bool.false_eq_true]; done) | (exfalso; revert c73 c74 c75 c76 c77; simp +contextual; done)))) (.nil))) rfl rfl⟩
      ·replace c77 : (decide ((b.Writes.length : Int) > 24)) = false := c77
       conv => whnf
       refine cond_mk (fun c78 => ?_) (fun c78 => ?_)
       ·replace c78 : (decide (b.Kind = 2)) = true := c78
        conv => whnf
        refine ⟨⟨(b.Writes.length : Int), (len_map _ _).symm, ?_⟩⟩
        conv => whnf
        exact ⟨rfl, weak_fin _ rfl rfl rfl (.cons (.same rfl) (LeH.rest)) (.cons (.one (.same rfl)) (.cons (.one (.same (show (.v (.bool (decide ((b.Writes.length : Int) > 0))) : AV) = (.v (.bool (if (!(decide (b.Kind = 1))) then ((!(decide (b.Kind = 2))) || ((decide ((b.Token.length : Int) < 1)) || ((decide ((b.Token.length : Int) > 16)) || ((decide ((b.Writes.length : Int) > 24)) || ((decide (b.Kind = 2)) && (decide ((b.Writes.length : Int) > 0))))))) else ((decide ((b.Token.length : Int) < 1)) || ((decide ((b.Token.length : Int) > 16)) || ((decide ((b.Writes.length : Int) > 24)) || ((decide (b.Kind = 2)) && (decide ((b.Writes.length : Int) > 0)))))))) : AV) from by first | (simp [c73, c74, c75, c76, c77, c78]; done) | (simp only [c73, c74, c75, c76, c77, c78, Bool.or_true, Bool.true_or, Bool.false_or, Bool.or_false, Bool.and_true, Bool.true_and, Bool.and_false, Bool.false_and, Bool.not_true, Bool.not_false, if_true, if_false, Bool.false_eq_true]; done) | (exfalso; revert c73 c74 c75 c76 c77 c78; simp +contextual; done)))) (.nil))) rfl rfl⟩
       ·replace c78 : (decide (b.Kind = 2)) = false := c78
        conv => whnf
        exact ⟨rfl, weak_fin _ rfl rfl rfl (.cons (.same rfl) (LeH.rest)) (.cons (.one (.same rfl)) (.cons (.one (.same (show (.v (.bool false) : AV) = (.v (.bool (if (!(decide (b.Kind = 1))) then ((!(decide (b.Kind = 2))) || ((decide ((b.Token.length : Int) < 1)) || ((decide ((b.Token.length : Int) > 16)) || ((decide ((b.Writes.length : Int) > 24)) || ((decide (b.Kind = 2)) && (decide ((b.Writes.length : Int) > 0))))))) else ((decide ((b.Token.length : Int) < 1)) || ((decide ((b.Token.length : Int) > 16)) || ((decide ((b.Writes.length : Int) > 24)) || ((decide (b.Kind = 2)) && (decide ((b.Writes.length : Int) > 0)))))))) : AV) from by first | (simp [c73, c74, c75, c76, c77, c78]; done) | (simp only [c73, c74, c75, c76, c77, c78, Bool.or_true, Bool.true_or, Bool.false_or, Bool.or_false, Bool.and_true, Bool.true_and, Bool.and_false, Bool.false_and, Bool.not_true, Bool.not_false, if_true, if_false, Bool.false_eq_true]; done) | (exfalso; revert c73 c74 c75 c76 c77 c78; simp +contextual; done)))) (.nil))) rfl rfl⟩
  ·replace c73 : (!(decide (b.Kind = 1))) = false := c73
   conv => whnf
   refine ⟨⟨(b.Token.length : Int), rfl, ?_⟩⟩
   conv => whnf
   refine cond_mk (fun c79 => ?_) (fun c79 => ?_)
   ·replace c79 : (decide ((b.Token.length : Int) < 1)) = true := c79
    conv => whnf
    exact ⟨rfl, weak_fin _ rfl rfl rfl (.cons (.same rfl) (LeH.rest)) (.cons (.one (.same rfl)) (.cons (.one (.same (show (.v (.bool true) : AV) = (.v (.bool (if (!(decide (b.Kind = 1))) then ((!(decide (b.Kind = 2))) || ((decide ((b.Token.length : Int) < 1)) || ((decide ((b.Token.length : Int) > 16)) || ((decide ((b.Writes.length : Int) > 24)) || ((decide (b.Kind = 2)) && (decide ((b.Writes.length : Int) > 0))))))) else ((decide ((b.Token.length : Int) < 1)) || ((decide ((b.Token.length : Int) > 16)) || ((decide ((b.Writes.length : Int) > 24)) || ((decide (b.Kind = 2)) && (decide ((b.Writes.length : Int) > 0)))))))) : AV) from by first | (simp [c73, c79]; done) | (simp only [c73, c79, Bool.or_true, Bool.true_or, Bool.false_or, Bool.or_false, Bool.and_true, Bool.true_and, Bool.and_false, Bool.false_and, Bool.not_true, Bool.not_false, if_true, if_false, Bool.false_eq_true]; done) | (exfalso; revert c73 c79; simp +contextual; done)))) (.nil))) rfl rfl⟩
   ·replace c79 : (decide ((b.Token.length : Int) < 1)) = false := c79
    conv => whnf
    refine ⟨⟨(b.Token.length : Int), rfl, ?_⟩⟩
    conv => whnf
    refine cond_mk (fun c80 => ?_) (fun c80 => ?_)
    ·replace c80 : (decide ((b.Token.length : Int) > 16)) = true := c80
     conv => whnf
     exact ⟨rfl, weak_fin _ rfl rfl rfl (.cons (.same rfl) (LeH.rest)) (.cons (.one (.same rfl)) (.cons (.one (.same (show (.v (.bool true) : AV) = (.v (.bool (if (!(decide (b.Kind = 1))) then ((!(decide (b.Kind = 2))) || ((decide ((b.Token.length : Int) < 1)) || ((decide ((b.Token.length : Int) > 16)) || ((decide ((b.Writes.length : Int) > 24)) || ((decide (b.Kind = 2)) && (decide ((b.Writes.length : Int) > 0))))))) else ((decide ((b.Token.length : Int) < 1)) || ((decide ((b.Token.length : Int) > 16)) || ((decide ((b.Writes.length : Int) > 24)) || ((decide (b.Kind = 2)) && (decide ((b.Writes.length : Int) > 0)))))))) : AV) from by first | (simp [c73, c79, c80]; done) | (simp only [c73, c79, c80, Bool.or_true, Bool.true_or, Bool.false_or, Bool.or_false, Bool.and_true, Bool.true_and, Bool.and_false, Bool.false_and, Bool.not_true, Bool.not_false, if_true, if_false, Bool.false_eq_true]; done) | (exfalso; revert c73 c79 c80; simp +contextual; done)))) (.nil))) rfl rfl⟩
    ·replace c80 : (decide ((b.Token.length : Int) > 16)) = false := c80
     conv => whnf
     refine ⟨⟨(b.Writes.length : Int), (len_map _ _).symm, ?_⟩⟩
     conv => whnf
     refine cond_mk (fun c81 => ?_) (fun c81 => ?_)
     ·replace c81 : (decide ((b.Writes.length : Int) > 24)) = true := c81
      conv => whnf
      exact ⟨rfl, weak_fin _ rfl rfl rfl (.cons (.same rfl) (LeH.rest)) (.cons (.one (.same rfl)) (.cons (.one (.same (show (.v (.bool true) : AV) = (.v (.bool (if (!(decide (b.Kind = 1))) then ((!(decide (b.Kind = 2))) || ((decide ((b.Token.length : Int) < 1)) || ((decide ((b.Token.length : Int) > 16)) || ((decide ((b.Writes.length : Int) > 24)) || ((decide (b.Kind = 2)) && (decide ((b.Writes.length : Int) > 0))))))) else ((decide ((b.Token.length : Int) < 1)) || ((decide ((b.Token.length : Int) > 16)) || ((decide ((b.Writes.length : Int) > 24)) || ((decide (b.Kind = 2)) && (decide ((b.Writes.length : Int) > 0)))))))) : AV) from by first | (simp [c73, c79, c80, c81]; done) | (simp only [c73, c79, c80, c81, Bool.or_true, Bool.true_or, Bool.false_or, Bool.or_false, Bool.and_true, Bool.true_and, Bool.and_false, Bool.false_and, Bool.not_true, Bool.not_false, if_true, if_false, Bool.false_eq_true]; done) | (exfalso; revert c73 c79 c80 c81; simp +contextual; done)))) (.nil))) rfl rfl⟩
     ·replace c81 : (decide ((b.Writes.length : Int) > 24)) = false := c81
      conv => whnf
      refine cond_mk (fun c82 => ?_) (fun c82 => ?_)
      ·replace c82 : (decide (b.Kind = 2)) = true := c82
       conv => whnf
       refine ⟨⟨(b.Writes.length : Int), (len_map _ _).symm, ?_⟩⟩
       conv => whnf
       exact ⟨rfl, weak_fin _ rfl rfl rfl (.cons (.same rfl) (LeH.rest)) (.cons (.one (.same rfl)) (.cons (.one (.same (show (.v (.bool (decide ((b.Writes.length : Int) > 0))) : AV) = (.v (.bool (if (!(decide (b.Kind = 1))) then ((!(decide (b.Kind = 2))) || ((decide ((b.Token.length : Int) < 1)) || ((decide ((b.Token.length : Int) > 16)) || ((decide ((b.Writes.length : Int) > 24)) || ((decide (b.Kind = 2)) && (decide ((b.Writes.length : Int) > 0))))))) else ((decide ((b.Token.length : Int) < 1)) || ((decide ((b.Token.length : Int) > 16)) || ((decide ((b.Writes.length : Int) > 24)) || ((decide (b.Kind = 2)) && (decide ((b.Writes.length : Int) > 0)))))))) : AV) from by first | (simp [c73, c79, c80, c81, c82]; done) | (simp only [c73, c79, c80, c81, c82, Bool.or_true, Bool.true_or, Bool.false_or, Bool.or_false, Bool.and_true, Bool.true_and, Bool.and_false, Bool.false_and, Bool.not_true, Bool.not_false, if_true, if_false, Bool.false_eq_true]; done) | (exfalso; revert c73 c79 c80 c81 c82; simp +contextual; done)))) (.nil))) rfl rfl⟩
      ·replace c82 : (decide (b.Kind = 2)) = false := c82
       conv => whnf
       exact ⟨rfl, weak_fin _ rfl rfl rfl (.cons (.same rfl) (LeH.rest)) (.cons (.one (.same rfl)) (.cons (.one (.same (show (.v (.bool false) : AV) = (.v (.bool (if (!(decide (b.Kind = 1))) then ((!(decide (b.Kind = 2))) || ((decide ((b.Token.length : Int) < 1)) || ((decide ((b.Token.length : Int) > 16)) || ((decide ((b.Writes.length : Int) > 24)) || ((decide (b.Kind = 2)) && (decide ((b.Writes.length : Int) > 0))))))) else ((decide ((b.Token.length : Int) < 1)) || ((decide ((b.Token.length : Int) > 16)) || ((decide ((b.Writes.length : Int) > 24)) || ((decide (b.Kind = 2)) && (decide ((b.Writes.length : Int) > 0)))))))) : AV) from by first | (simp [c73, c79, c80, c81, c82]; done) | (simp only [c73, c79, c80, c81, c82, Bool.or_true, Bool.true_or, Bool.false_or, Bool.or_false, Bool.and_true, Bool.true_and, Bool.and_false, Bool.false_and, Bool.not_true, Bool.not_false, if_true, if_false, Bool.false_eq_true]; done) | (exfalso; revert c73 c79 c80 c81 c82; simp +contextual; done)))) (.nil))) rfl rfl⟩
 ·rintro ex S' ⟨rfl, w83⟩
  conv => whnf
  refine Tri.weak w83 ?_
  refine Tri.cond rfl (fun c84 => ?_) (fun c84 => ?_)
  ·replace h := if_t c84 h
   refine Tri.seqK ?_
   refine Tri.run (G := gm_batch_May) tyOk mixed ?_
   conv => whnf
   refine Tri.run (G := gm_batch_May) tyOk mixed ?_
   conv => whnf
   refine fin_here ?_
   conv => whnf
   cases h
   rfl
  ·replace h := if_f c84 h
   refine Tri.run (G := gm_batch_May) tyOk mixed ?_
   conv => whnf
   refine Tri.seqK ?_
   refine Tri.run (G := gm_batch_May) tyOk mixed ?_
   conv => whnf
   refine Tri.seqK ?_
   refine Tri.seqK ?_
   refine Tri.run (G := gm_batch_May) tyOk mixed ?_
   conv => whnf
   refine Tri.block ?_
   replace h := bind_some h
   obtain ⟨y197, q198, h⟩ := h
   refine Tri.cut (fun ex S' => (∃ v199 : Unit, y197 = (.inl v199) ∧ ex = .ret ∧ Weak S' ⟨68, 0, ofRegs [(2, .v (.bool false))], []⟩) ∨ (∃ v200 : Unit, y197 = (.inr v200) ∧ ex = (.exit 0) ∧ Weak S' ⟨68, 0, ofRegs [(1, .ptr 0 0), (3, .fn (.func 136) [] [])], [.var 25 [.v (.int .i64 b.Kind), .v (.string (bs b.Token)), .sl (List.map encWrite b.Writes)]]⟩)) ?_ ?_
   ·refine Tri.loopF (fun (s201 : Int) => (⟨68, 0, ofRegs [(1, .ptr 0 0), (3, .fn (.func 136) [] []), (4, .v (.int .i64 s201))], [.var 25 [.v (.int .i64 b.Kind), .v (.string (bs b.Token)), .sl (List.map encWrite b.Writes)]]⟩ : St)) q198 (weak_fin _ rfl rfl rfl (.cons (.same rfl) (LeH.rest)) (.cons (.one (.same rfl)) (.cons (.one (.same rfl)) (.cons (.one (.same rfl)) (.nil)))) rfl rfl) ?_
    rintro a196 v202 hv r203
    have hv : batch_May_l2 b a196 = some v202 := hv
    unfold batch_May_l2 at hv
    refine Tri.seqK ?_
    refine Tri.seqK ?_
    refine Tri.run (G := gm_batch_May) tyOk mixed ?_
    conv => whnf
    refine ⟨⟨(b.Writes.length : Int), (len_map _ _).symm, ?_⟩⟩
    conv => whnf
    refine Tri.cond rfl (fun c205 => ?_) (fun c205 => ?_)
    ·replace hv := if_t c205 hv
     refine Tri.run (G := gm_batch_May) tyOk mixed ?_
     conv => whnf
     refine Tri.seqK ?_
     refine Tri.block ?_
     refine Tri.seqK ?_
     refine Tri.run (G := gm_batch_May) tyOk mixed ?_
     conv => whnf
     refine Draw.one 14 (.take 0 (.take 1 (.take 2 (.take 3 (.take 4 (.take 5 (.take 6 (.take 7 (.take 8 (.take 9 (.take 10 (.take 11 (.take 12 (.take 13 (.fin))))))))))))))) [] (by kernel_rfl) ?_
     conv => whnf
     replace hv := bind_some hv
     obtain ⟨x219, q220, hv⟩ := hv
     refine ⟨(ix_some q220).1, ?_⟩
     conv => whnf
     refine ⟨⟨_, map_get encWrite (ix_some q220).2, ?_⟩⟩
     conv => whnf
     refine ⟨rfl, ?_⟩
     conv => whnf
     replace hv := bind_some hv
     obtain ⟨x221, q222, hv⟩ := hv
     refine ⟨(ix_some q222).1, ?_⟩
     conv => whnf
     refine ⟨⟨_, map_get encWrite (ix_some q222).2, ?_⟩⟩
     conv => whnf
     refine ⟨rfl, ?_⟩
     conv => whnf
     refine ⟨⟨(!ltS x219.Key x221.Key), bs_ge _ _, ?_⟩⟩
     conv => whnf
     refine Tri.cond rfl (fun c223 => ?_) (fun c223 => ?_)
     ·replace hv := if_t c223 hv
      refine Tri.seqK ?_
      refine Tri.run (G := gm_batch_May) tyOk mixed ?_
      conv => whnf
      refine Tri.run (G := gm_batch_May) tyOk mixed ?_
      conv => whnf
      cases hv
      obtain rfl := r203 _ rfl
      exact Or.inl ⟨_, rfl, rfl, weak_fin _ rfl rfl rfl (LeH.rest) (.cons (.one (.same rfl)) (.nil)) rfl rfl⟩
     ·replace hv := if_f c223 hv
      refine Tri.run (G := gm_batch_May) tyOk mixed ?_
      conv => whnf
      refine Tri.run (G := gm_batch_May) tyOk mixed ?_
      conv => whnf
      cases hv
      exact ⟨_, rfl, weak_fin _ rfl rfl rfl (.cons (.same rfl) (LeH.rest)) (.cons (.one (.same rfl)) (.cons (.one (.same rfl)) (.cons (.one (.same rfl)) (.nil)))) rfl rfl⟩
    ·replace hv := if_f c205 hv
     refine Tri.run (G := gm_batch_May) tyOk mixed ?_
     conv => whnf
     cases hv
     obtain rfl := r203 _ rfl
     exact Or.inr (⟨_, rfl, rfl, weak_fin _ rfl rfl rfl (.cons (.same rfl) (LeH.rest)) (.cons (.one (.same rfl)) (.cons (.one (.same rfl)) (.nil))) rfl rfl⟩)
   ·rintro ex S' (⟨v199, rfl, rfl, w224⟩ | ⟨v200, rfl, rfl, w224⟩)
    ·dsimp only at h
     conv => whnf
     refine fin_pre w224 ?_
     conv => whnf
     cases h
     rfl
    ·dsimp only at h
     conv => whnf
     refine Tri.weak w224 ?_
     refine Tri.seqK ?_
     refine Tri.run (G := gm_batch_May) tyOk mixed ?_
     conv => whnf
     replace h := bind_some h
     obtain ⟨y225, q226, h⟩ := h
     refine CallP.use (slices_ContainsFunc_Write__batch_May_1_walk b.Writes y225 q226) [] rfl rfl rfl rfl rfl rfl rfl rfl rfl ?_
     conv => whnf
     refine Tri.run (G := gm_batch_May) tyOk mixed ?_
     conv => whnf
     refine fin_here ?_
     conv => whnf
     cases h
     rfl
noncomputable def batch_Take_l2 (y57 : Int × (Str × Bool)) (a90 : Int) (a91 : Str) (a92 : Bool) (a93 : (List Write)) : Option ((Int × Str × Bool × (List Write)) ⊕ (Str × Bool × (List Write))) :=
 if (decide (a90 < y57.1)) then
  (batch_num a91 a92 1).bind fun y101 =>
  (batch_text y101.2.1 y101.2.2 32).bind fun y103 =>
  (batch_text y103.2.1 y103.2.2 64).bind fun y105 =>
  need ((a93.length + 1) * 40 ≤ 140737488355328) <|
  some (.inl ((IntKind.u64.wrap (a90 + 1)), y105.2.1, y105.2.2, (a93 ++ [({ Key := y103.1, Val := y105.1, Del := (decide (y101.1 = 1)) } : Write)])))
 else
  some (.inr (a91, a92, a93))
noncomputable def batch_Take (s : Str) : Option (Batch × Int) :=
 (batch_num s true 2).bind fun y1 =>
 (batch_text y1.2.1 y1.2.2 16).bind fun y3 =>
 (batch_num y3.2.1 y3.2.2 24).bind fun y57 =>
 (loop (fun (s96 : Int × Str × Bool × (List Write)) => batch_Take_l2 y57 s96.1 s96.2.1 s96.2.2.1 s96.2.2.2) ((0 : Int), y57.2.1, y57.2.2, ([] : (List Write)))).bind fun (y94 : Str × Bool × (List Write)) =>
 (
  if (!y94.2.1) then
   some true
  else
   if (!decide (y94.1 = [])) then
    some true
   else
    (batch_May ({ Kind := (IntKind.i64.wrap y1.1), Token := y3.1, Writes := y94.2.2 } : Batch)).bind fun y137 =>
    some (!y137)).bind fun (y133 : Bool) =>
 if y133 then
  some (({ Kind := 0, Token := [], Writes := [] } : Batch), 3)
 else
  some (({ Kind := (IntKind.i64.wrap y1.1), Token := y3.1, Writes := y94.2.2 } : Batch), 0)
def gm_batch_Take : Gm := ⟨tys, [93, 94], [], []⟩
theorem batch_Take_walk (s : Str) (r : Batch × Int) (h : batch_Take s = some r) : PureP Tryz.prog 39 [.v (.string (bs s))] (fun a => a = .tup [.agg [.v (.int .i64 r.1.Kind), .v (.string (bs r.1.Token)), .sl (List.map encWrite r.1.Writes)], .v (.int .i64 r.2)]) := by
 unfold batch_Take at h
 refine pureW (G := gm_batch_Take) tyOk Tryz.func39 rfl (by kernel_rfl) (by simp [Tryz.f39]) ?_
 refine Tri.seqK ?_
 refine Tri.run (G := gm_batch_Take) tyOk mixed ?_
 conv => whnf
 refine Tri.seqK ?_
 refine Tri.run (G := gm_batch_Take) tyOk mixed ?_
 conv => whnf
 refine Tri.seqK ?_
 refine Tri.run (G := gm_batch_Take) tyOk mixed ?_
 conv => whnf
 replace h := bind_some h
 obtain ⟨y1, q2, h⟩ := h
 refine CallP.use (batch_num_walk s true 2 y1 q2) [1] rfl rfl rfl rfl rfl rfl rfl rfl rfl ?_
 conv => whnf
 refine ⟨⟨(IntKind.i64.wrap y1.1), rfl, ?_⟩⟩
 conv => whnf
 refine Tri.seqK ?_
 refine Tri.run (G := gm_batch_Take) tyOk mixed ?_
 conv => whnf
 replace h := bind_some h
 obtain ⟨y3, q4, h⟩ := h
 refine CallP.use (batch_text_walk y1.2.1 y1.2.2 16 y3 q4) [1] rfl rfl rfl rfl rfl rfl rfl rfl rfl ?_
 conv => whnf
 refine Tri.seqK ?_
 refine Tri.seqK ?_
 refine Tri.run (G := gm_batch_Take) tyOk mixed ?_
 conv => whnf
 replace h := bind_some h
 obtain ⟨y57, q58, h⟩ := h
 refine CallP.use (batch_num_walk y3.2.1 y3.2.2 24 y57 q58) [1] rfl rfl rfl rfl rfl rfl rfl rfl rfl ?_
 conv => whnf
 refine Tri.block ?_
 replace h := bind_some h
 obtain ⟨y94, q95, h⟩ := h
 refine Tri.cut (fun ex S' => ex = (.exit 0) ∧ Weak S' ⟨81, 0, ofRegs [(2, .ptr 0 0), (4, .ptr 1 0), (5, .ptr 2 0)], [.var 25 [.v (.int .i64 0), .v (.string (bs [])), .v (.slice none 0 0)], .var 167 [.v (.string (bs y94.1)), .v (.bool y94.2.1), .fn (.func 93) [] [], .fn (.func 94) [] []], .var 25 [.v (.int .i64 (IntKind.i64.wrap y1.1)), .v (.string (bs y3.1)), .row 3 ((List.map encWrite y94.2.2).length)], .row 88 3 (List.map encWrite y94.2.2)]⟩) ?_ ?_
 ·refine Tri.loopF (fun (s96 : Int × Str × Bool × (List Write)) => (⟨81, 0, ofRegs [(2, .ptr 0 0), (4, .ptr 1 0), (5, .ptr 2 0), (30, .v (.int .u64 y57.1)), (31, .v (.int .u64 s96.1))], [.var 25 [.v (.int .i64 0), .v (.string (bs [])), .v (.slice none 0 0)], .var 167 [.v (.string (bs s96.2.1)), .v (.bool s96.2.2.1), .fn (.func 93) [] [], .fn (.func 94) [] []], .var 25 [.v (.int .i64 (IntKind.i64.wrap y1.1)), .v (.string (bs y3.1)), .row 3 ((List.map encWrite s96.2.2.2).length)], .row 88 3 (List.map encWrite s96.2.2.2)]⟩ : St)) q95 (Weak.trans (weak_nilcell 2 2 88 3 rfl rfl) (weak_fin _ rfl rfl rfl (.cons (.same rfl) (.cons (.same rfl) (.cons (.var (.cons (.same rfl) (.cons (.same rfl) (.cons (.same (show (.row 3 0 : AV) = (.row 3 ((List.map encWrite []).length) : AV) from congrArg (AV.row 3) (by simp))) (.nil))))) (.cons (.same rfl) (LeH.rest))))) (.cons (.one (.same rfl)) (.cons (.one (.same rfl)) (.cons (.one (.same rfl)) (.cons (.one (.same rfl)) (.cons (.one (.same rfl)) (.nil)))))) rfl rfl)) ?_
  rintro ⟨a90, a91, a92, a93⟩ v97 hv r98
  have hv : batch_Take_l2 y57 a90 a91 a92 a93 = some v97 := hv
  unfold batch_Take_l2 at hv
  dsimp only
  refine Tri.seqK ?_
  refine Tri.run (G := gm_batch_Take) tyOk mixed ?_
  conv => whnf
  refine Tri.seqK ?_
  refine Tri.cond rfl (fun c100 => ?_) (fun c100 => ?_)
  ·replace hv := if_t c100 hv
   refine Tri.run (G := gm_batch_Take) tyOk mixed ?_
   conv => whnf
   refine Tri.seqK ?_
   refine Tri.block ?_
   refine Tri.seqK ?_
   refine Tri.run (G := gm_batch_Take) tyOk mixed ?_
   conv => whnf
   replace hv := bind_some hv
   obtain ⟨y101, q102, hv⟩ := hv
   refine CallP.use (batch_num_walk a91 a92 1 y101 q102) [1] rfl rfl rfl rfl rfl rfl rfl rfl rfl ?_
   conv => whnf
   refine Tri.seqK ?_
   refine Tri.run (G := gm_batch_Take) tyOk mixed ?_
   conv => whnf
   replace hv := bind_some hv
   obtain ⟨y103, q104, hv⟩ := hv
   refine CallP.use (batch_text_walk y101.2.1 y101.2.2 32 y103 q104) [1] rfl rfl rfl rfl rfl rfl rfl rfl rfl ?_
   conv => whnf
   refine Tri.seqK ?_
   refine Tri.run (G := gm_batch_Take) tyOk mixed ?_
   conv => whnf
   replace hv := bind_some hv
   obtain ⟨y105, q106, hv⟩ := hv
   refine CallP.use (batch_text_walk y103.2.1 y103.2.2 64 y105 q106) [1] rfl rfl rfl rfl rfl rfl rfl rfl rfl ?_
   conv => whnf
   refine Tri.run (G := gm_batch_Take) tyOk mixed ?_
   conv => whnf
   refine ⟨⟨List.map encWrite [({ Key := y103.1, Val := y105.1, Del := (decide (y101.1 = 1)) } : Write)], rfl, ?_⟩⟩
   conv => whnf
   refine ⟨rfl, ?_⟩
   conv => whnf
   refine ⟨rfl, ?_⟩
   conv => whnf
   replace hv := need_some hv
   obtain ⟨p107, hv⟩ := hv
   refine ⟨by simp only [List.length_map]; exact p107, ?_⟩
   conv => whnf
   refine ⟨⟨List.map encWrite (a93 ++ [({ Key := y103.1, Val := y105.1, Del := (decide (y101.1 = 1)) } : Write)]), map_app encWrite _ _ rfl rfl, ?_⟩⟩
   conv => whnf
   refine Tri.run (G := gm_batch_Take) tyOk mixed ?_
   conv => whnf
   cases hv
   exact ⟨_, rfl, weak_fin _ rfl rfl rfl (.cons (.same rfl) (.cons (.same rfl) (.cons (.same rfl) (.cons (.same rfl) (LeH.rest))))) (.cons (.one (.same rfl)) (.cons (.one (.same rfl)) (.cons (.one (.same rfl)) (.cons (.one (.same rfl)) (.cons (.one (.same rfl)) (.nil)))))) rfl rfl⟩
  ·replace hv := if_f c100 hv
   refine Tri.run (G := gm_batch_Take) tyOk mixed ?_
   conv => whnf
   cases hv
   obtain rfl := r98 _ rfl
   exact ⟨rfl, weak_fin _ rfl rfl rfl (.cons (.same rfl) (.cons (.same rfl) (.cons (.same rfl) (.cons (.same rfl) (LeH.rest))))) (.cons (.one (.same rfl)) (.cons (.one (.same rfl)) (.cons (.one (.same rfl)) (.nil)))) rfl rfl⟩
 ·rintro ex S' ⟨rfl, w108⟩
  conv => whnf
  refine Tri.weak w108 ?_
  refine Tri.seqK ?_
  refine Tri.seqK ?_
  replace h := bind_some h
  obtain ⟨y133, q134, h⟩ := h
  refine Tri.cut (fun ex S' => ex = .normal ∧ Weak S' ⟨81, 0, ofRegs [(2, .ptr 0 0), (5, .ptr 2 0), (78, .v (.bool y133))], [.var 25 [.v (.int .i64 0), .v (.string (bs [])), .v (.slice none 0 0)], .gone, .var 25 [.v (.int .i64 (IntKind.i64.wrap y1.1)), .v (.string (bs y3.1)), .row 3 ((List.map encWrite y94.2.2).length)], .row 88 3 (List.map encWrite y94.2.2)]⟩) ?_ ?_
  ·refine Tri.run (G := gm_batch_Take) tyOk mixed ?_
   conv => whnf
   refine cond_mk (fun c135 => ?_) (fun c135 => ?_)
   ·replace q134 := if_t c135 q134
    conv => whnf
    cases q134
    exact ⟨rfl, weak_fin _ rfl rfl rfl (.cons (.same rfl) (.cons (.gone) (.cons (.same rfl) (.cons (.same rfl) (LeH.rest))))) (.cons (.one (.same rfl)) (.cons (.one (.same rfl)) (.cons (.one (.same rfl)) (.nil)))) rfl rfl⟩
   ·replace q134 := if_f c135 q134
    conv => whnf
    refine ⟨⟨(!decide (y94.1 = [])), bs_ne _ _, ?_⟩⟩
    conv => whnf
    refine cond_mk (fun c136 => ?_) (fun c136 => ?_)
    ·replace q134 := if_t c136 q134
     conv => whnf
     cases q134
     exact ⟨rfl, weak_fin _ rfl rfl rfl (.cons (.same rfl) (.cons (.gone) (.cons (.same rfl) (.cons (.same rfl) (LeH.rest))))) (.cons (.one (.same rfl)) (.cons (.one (.same rfl)) (.cons (.one (.same rfl)) (.nil)))) rfl rfl⟩
    ·replace q134 := if_f c136 q134
     conv => whnf
     refine ⟨rfl, ?_⟩
     conv => whnf
     replace q134 := bind_some q134
     obtain ⟨y137, q138, q134⟩ := q134
     refine PureP.mono (batch_May_walk ({ Kind := (IntKind.i64.wrap y1.1), Token := y3.1, Writes := y94.2.2 } : Batch) y137 q138) ?_
     rintro _ rfl
     conv => whnf
     cases q134
     exact ⟨rfl, weak_fin _ rfl rfl rfl (.cons (.same rfl) (.cons (.gone) (.cons (.same rfl) (.cons (.same rfl) (LeH.rest))))) (.cons (.one (.same rfl)) (.cons (.one (.same rfl)) (.cons (.one (.same rfl)) (.nil)))) rfl rfl⟩
  ·rintro ex S' ⟨rfl, w139⟩
   conv => whnf
   refine Tri.weak w139 ?_
   refine Tri.cond rfl (fun c140 => ?_) (fun c140 => ?_)
   ·replace h := if_t c140 h
    refine Tri.seqK ?_
    refine Tri.run (G := gm_batch_Take) tyOk mixed ?_
    conv => whnf
    refine Tri.run (G := gm_batch_Take) tyOk mixed ?_
    conv => whnf
    refine fin_here ?_
    conv => whnf
    cases h
    rfl
   ·replace h := if_f c140 h
    refine Tri.run (G := gm_batch_Take) tyOk mixed ?_
    conv => whnf
    refine Tri.seqK ?_
    refine Tri.run (G := gm_batch_Take) tyOk mixed ?_
    conv => whnf
    refine Tri.run (G := gm_batch_Take) tyOk mixed ?_
    conv => whnf
    refine fin_here ?_
    conv => whnf
    refine ⟨rfl, ?_⟩
    conv => whnf
    cases h
    rfl
noncomputable def table_at_1 (p : Pair) (v : Str) : Option (Bool) :=
 some (decide (p.Key = v))
def gm_table_at_1 : Gm := ⟨tys, [], [], []⟩
theorem table_at_1_walk (p : Pair) (v : Str) (r : Bool) (h : table_at_1 p v = some r) : CallP Tryz.prog 170 [.var 9 [.v (.string (bs v))]] [.agg [.v (.string (bs p.Key)), .v (.string (bs p.Val))], .ptr 0 0] (fun a H' => a = .v (.bool r) ∧ H'.take ([.var 9 [.v (.string (bs v))]] : List Ob).length = [.var 9 [.v (.string (bs v))]]) := by
 unfold table_at_1 at h
 refine callW (G := gm_table_at_1) tyOk Tryz.func170 rfl (by kernel_rfl) (by simp [Tryz.f170]) ?_
 refine Tri.seqK ?_
 refine Tri.run (G := gm_table_at_1) tyOk mixed ?_
 conv => whnf
 refine Tri.seqK ?_
 refine Tri.run (G := gm_table_at_1) tyOk mixed ?_
 conv => whnf
 refine ⟨⟨(decide (p.Key = v)), bs_eq _ _, ?_⟩⟩
 conv => whnf
 refine Tri.run (G := gm_table_at_1) tyOk mixed ?_
 conv => whnf
 refine fin_pre (S' := ⟨8, 1, ofRegs [(3, .v (.bool (decide (p.Key = v))))], [.var 9 [.v (.string (bs v))]]⟩) (weak_fin _ rfl rfl rfl (.cons (.same rfl) (LeH.rest)) (.cons (.one (.same rfl)) (.nil)) rfl rfl) ?_
 conv => whnf
 cases h
 exact ⟨rfl, rfl⟩
noncomputable def slices_IndexFunc_Pair__table_at_1_l4 (s : (List Pair)) (v : Str) (a164 : Int) : Option ((Int) ⊕ ((Int) ⊕ (Unit))) :=
 if (decide (a164 < (s.length : Int))) then
  (ix s a164).bind fun x179 =>
  (table_at_1 x179 v).bind fun y181 =>
  if y181 then
   some (.inr (.inl a164))
  else
   some (.inl (IntKind.i64.wrap (a164 + 1)))
 else
  some (.inr (.inr ()))
noncomputable def slices_IndexFunc_Pair__table_at_1 (s : (List Pair)) (v : Str) : Option (Int) :=
 (loop (fun (s169 : Int) => slices_IndexFunc_Pair__table_at_1_l4 s v s169) (0 : Int)).bind fun (y165 : (Int) ⊕ (Unit)) =>
 match y165 with
 | (.inl v167) =>
  some v167
 | (.inr v168) =>
  some (-1)
def gm_slices_IndexFunc_Pair__table_at_1 : Gm := ⟨tys, [170], [], []⟩
theorem slices_IndexFunc_Pair__table_at_1_walk (s : (List Pair)) (v : Str) (r : Int) (h : slices_IndexFunc_Pair__table_at_1 s v = some r) : CallP Tryz.prog 142 [.var 9 [.v (.string (bs v))]] [.sl (List.map encPair s), .fn (.func 170) [] [.ptr 0 0]] (fun a H' => a = .v (.int .i64 r) ∧ H'.take ([.var 9 [.v (.string (bs v))]] : List Ob).length = [.var 9 [.v (.string (bs v))]]) := by
 unfold slices_IndexFunc_Pair__table_at_1 at h
 refine callW (G := gm_slices_IndexFunc_Pair__table_at_1) tyOk Tryz.func142 rfl (by kernel_rfl) (by simp [Tryz.f142]) ?_
 refine Tri.seqK ?_
 refine Tri.run (G := gm_slices_IndexFunc_Pair__table_at_1) tyOk mixed ?_
 conv => whnf
 refine Tri.seqK ?_
 refine Tri.seqK ?_
 refine Tri.run (G := gm_slices_IndexFunc_Pair__table_at_1) tyOk mixed ?_
 conv => whnf
 refine ⟨⟨(s.length : Int), (len_map _ _).symm, ?_⟩⟩
 conv => whnf
 refine Tri.block ?_
 replace h := bind_some h
 obtain ⟨y165, q166, h⟩ := h
 refine Tri.cut (fun ex S' => (∃ v167 : Int, y165 = (.inl v167) ∧ ex = .ret ∧ Weak S' ⟨19, 1, ofRegs [(4, .v (.int .i64 v167))], [.var 9 [.v (.string (bs v))]]⟩) ∨ (∃ v168 : Unit, y165 = (.inr v168) ∧ ex = (.exit 0) ∧ Weak S' ⟨19, 1, ofRegs [], [.var 9 [.v (.string (bs v))]]⟩)) ?_ ?_
 ·refine Tri.loopF (fun (s169 : Int) => (⟨19, 1, ofRegs [(0, .sl (List.map encPair s)), (1, .fn (.func 170) [] [.ptr 0 0]), (7, .v (.int .i64 (s.length : Int))), (8, .v (.int .i64 s169))], [.var 9 [.v (.string (bs v))]]⟩ : St)) q166 (weak_fin _ rfl rfl rfl (.cons (.same rfl) (LeH.rest)) (.cons (.one (.same rfl)) (.cons (.one (.same rfl)) (.cons (.one (.same rfl)) (.cons (.one (.same rfl)) (.nil))))) rfl rfl) ?_
  rintro a164 v170 hv r171
  have hv : slices_IndexFunc_Pair__table_at_1_l4 s v a164 = some v170 := hv
  unfold slices_IndexFunc_Pair__table_at_1_l4 at hv
  refine Tri.seqK ?_
  refine Tri.run (G := gm_slices_IndexFunc_Pair__table_at_1) tyOk mixed ?_
  conv => whnf
  refine Tri.seqK ?_
  refine Tri.cond rfl (fun c173 => ?_) (fun c173 => ?_)
  ·replace hv := if_t c173 hv
   refine Tri.run (G := gm_slices_IndexFunc_Pair__table_at_1) tyOk mixed ?_
   conv => whnf
   refine Tri.seqK ?_
   refine Tri.block ?_
   refine Tri.seqK ?_
   refine Tri.run (G := gm_slices_IndexFunc_Pair__table_at_1) tyOk mixed ?_
   conv => whnf
   refine Tri.seqK ?_
   refine Tri.run (G := gm_slices_IndexFunc_Pair__table_at_1) tyOk mixed ?_
   conv => whnf
   replace hv := bind_some hv
   obtain ⟨x179, q180, hv⟩ := hv
   refine ⟨(ix_some q180).1, ?_⟩
   conv => whnf
   refine ⟨⟨_, map_get encPair (ix_some q180).2, ?_⟩⟩
   conv => whnf
   refine ⟨rfl, ?_⟩
   conv => whnf
   replace hv := bind_some hv
   obtain ⟨y181, q182, hv⟩ := hv
   refine CallP.use (table_at_1_walk x179 v y181 q182) [0] rfl rfl rfl rfl rfl rfl rfl rfl rfl ?_
   conv => whnf
   refine Tri.cond rfl (fun c183 => ?_) (fun c183 => ?_)
   ·replace hv := if_t c183 hv
    refine Tri.seqK ?_
    refine Tri.run (G := gm_slices_IndexFunc_Pair__table_at_1) tyOk mixed ?_
    conv => whnf
    refine Tri.run (G := gm_slices_IndexFunc_Pair__table_at_1) tyOk mixed ?_
    conv => whnf
    cases hv
    obtain rfl := r171 _ rfl
    exact Or.inl ⟨_, rfl, rfl, weak_fin _ rfl rfl rfl (.cons (.same rfl) (LeH.rest)) (.cons (.one (.same rfl)) (.nil)) rfl rfl⟩
   ·replace hv := if_f c183 hv
    refine Tri.run (G := gm_slices_IndexFunc_Pair__table_at_1) tyOk mixed ?_
    conv => whnf
    refine Tri.run (G := gm_slices_IndexFunc_Pair__table_at_1) tyOk mixed ?_
    conv => whnf
    cases hv
    exact ⟨_, rfl, weak_fin _ rfl rfl rfl (.cons (.same rfl) (LeH.rest)) (.cons (.one (.same rfl)) (.cons (.one (.same rfl)) (.cons (.one (.same rfl)) (.cons (.one (.same rfl)) (.nil))))) rfl rfl⟩
  ·replace hv := if_f c173 hv
   refine Tri.run (G := gm_slices_IndexFunc_Pair__table_at_1) tyOk mixed ?_
   conv => whnf
   cases hv
   obtain rfl := r171 _ rfl
   exact Or.inr (⟨_, rfl, rfl, weak_fin _ rfl rfl rfl (.cons (.same rfl) (LeH.rest)) (.nil) rfl rfl⟩)
 ·rintro ex S' (⟨v167, rfl, rfl, w184⟩ | ⟨v168, rfl, rfl, w184⟩)
  ·dsimp only at h
   conv => whnf
   refine fin_pre (S' := ⟨19, 1, ofRegs [(4, .v (.int .i64 v167))], [.var 9 [.v (.string (bs v))]]⟩) (Weak.trans w184 (weak_fin _ rfl rfl rfl (.cons (.same rfl) (LeH.rest)) (.cons (.one (.same rfl)) (.nil)) rfl rfl)) ?_
   conv => whnf
   cases h
   exact ⟨rfl, rfl⟩
  ·dsimp only at h
   conv => whnf
   refine Tri.weak w184 ?_
   refine Tri.seqK ?_
   refine Tri.run (G := gm_slices_IndexFunc_Pair__table_at_1) tyOk mixed ?_
   conv => whnf
   refine Tri.run (G := gm_slices_IndexFunc_Pair__table_at_1) tyOk mixed ?_
   conv => whnf
   refine fin_pre (S' := ⟨19, 1, ofRegs [(4, .v (.int .i64 (-1)))], [.var 9 [.v (.string (bs v))]]⟩) (weak_fin _ rfl rfl rfl (.cons (.same rfl) (LeH.rest)) (.cons (.one (.same rfl)) (.nil)) rfl rfl) ?_
   conv => whnf
   cases h
   exact ⟨rfl, rfl⟩
noncomputable def table_at (l : (List Pair)) (key : Str) : Option (Int) :=
 (slices_IndexFunc_Pair__table_at_1 l key).bind fun y1 =>
 some y1
def gm_table_at : Gm := ⟨tys, [142], [], []⟩
theorem table_at_walk (l : (List Pair)) (key : Str) (r : Int) (h : table_at l key = some r) : PureP Tryz.prog 141 [.sl (List.map encPair l), .v (.string (bs key))] (fun a => a = .v (.int .i64 r)) := by
 unfold table_at at h
 refine pureW (G := gm_table_at) tyOk Tryz.func141 rfl (by kernel_rfl) (by simp [Tryz.f141]) ?_
 refine Tri.seqK ?_
 refine Tri.run (G := gm_table_at) tyOk mixed ?_
 conv => whnf
 refine Tri.seqK ?_
 refine Tri.run (G := gm_table_at) tyOk mixed ?_
 conv => whnf
 replace h := bind_some h
 obtain ⟨y1, q2, h⟩ := h
 refine CallP.use (slices_IndexFunc_Pair__table_at_1_walk l key y1 q2) [0] rfl rfl rfl rfl rfl rfl rfl rfl rfl ?_
 conv => whnf
 refine Tri.run (G := gm_table_at) tyOk mixed ?_
 conv => whnf
 refine fin_here ?_
 conv => whnf
 cases h
 rfl
noncomputable def table_Find (l : (List Pair)) (key : Str) : Option (Str × Bool) :=
 (table_at l key).bind fun y1 =>
 if (decide (y1 < 0)) then
  some ([], false)
 else
  (ix l y1).bind fun x5 =>
  some (x5.Val, true)
def gm_table_Find : Gm := ⟨tys, [], [], []⟩
theorem table_Find_walk (l : (List Pair)) (key : Str) (r : Str × Bool) (h : table_Find l key = some r) : PureP Tryz.prog 101 [.sl (List.map encPair l), .v (.string (bs key))] (fun a => a = .tup [.v (.string (bs r.1)), .v (.bool r.2)]) := by
 unfold table_Find at h
 refine pureW (G := gm_table_Find) tyOk Tryz.func101 rfl (by kernel_rfl) (by simp [Tryz.f101]) ?_
 refine Tri.seqK ?_
 refine Tri.run (G := gm_table_Find) tyOk mixed ?_
 conv => whnf
 refine Tri.seqK ?_
 refine Tri.run (G := gm_table_Find) tyOk mixed ?_
 conv => whnf
 replace h := bind_some h
 obtain ⟨y1, q2, h⟩ := h
 refine PureP.mono (table_at_walk l key y1 q2) ?_
 rintro _ rfl
 conv => whnf
 refine Tri.seqK ?_
 refine Tri.seqK ?_
 refine Tri.run (G := gm_table_Find) tyOk mixed ?_
 conv => whnf
 refine Tri.cond rfl (fun c4 => ?_) (fun c4 => ?_)
 ·replace h := if_t c4 h
  refine Tri.seqK ?_
  refine Tri.run (G := gm_table_Find) tyOk mixed ?_
  conv => whnf
  refine Tri.run (G := gm_table_Find) tyOk mixed ?_
  conv => whnf
  refine fin_here ?_
  conv => whnf
  cases h
  rfl
 ·replace h := if_f c4 h
  refine Tri.run (G := gm_table_Find) tyOk mixed ?_
  conv => whnf
  refine Tri.seqK ?_
  refine Tri.run (G := gm_table_Find) tyOk mixed ?_
  conv => whnf
  replace h := bind_some h
  obtain ⟨x5, q6, h⟩ := h
  refine ⟨(ix_some q6).1, ?_⟩
  conv => whnf
  refine ⟨⟨_, map_get encPair (ix_some q6).2, ?_⟩⟩
  conv => whnf
  refine ⟨rfl, ?_⟩
  conv => whnf
  refine Tri.run (G := gm_table_Find) tyOk mixed ?_
  conv => whnf
  refine fin_here ?_
  conv => whnf
  cases h
  rfl
noncomputable def batch_Decided (s : State) (token : Str) : Option (Str × Bool) :=
 (table_Find s.Toks token).bind fun y1 =>
 some (y1.1, y1.2)
def gm_batch_Decided : Gm := ⟨tys, [], [], []⟩
theorem batch_Decided_walk (s : State) (token : Str) (r : Str × Bool) (h : batch_Decided s token = some r) : PureP Tryz.prog 42 [.agg [.sl (List.map encPair s.Data), .sl (List.map encPair s.Toks)], .v (.string (bs token))] (fun a => a = .tup [.v (.string (bs r.1)), .v (.bool r.2)]) := by
 unfold batch_Decided at h
 refine pureW (G := gm_batch_Decided) tyOk Tryz.func42 rfl (by kernel_rfl) (by simp [Tryz.f42]) ?_
 refine Tri.seqK ?_
 refine Tri.run (G := gm_batch_Decided) tyOk mixed ?_
 conv => whnf
 refine Tri.seqK ?_
 refine Tri.run (G := gm_batch_Decided) tyOk mixed ?_
 conv => whnf
 replace h := bind_some h
 obtain ⟨y1, q2, h⟩ := h
 refine PureP.mono (table_Find_walk s.Toks token y1 q2) ?_
 rintro _ rfl
 conv => whnf
 refine Tri.run (G := gm_batch_Decided) tyOk mixed ?_
 conv => whnf
 refine fin_here ?_
 conv => whnf
 cases h
 rfl
noncomputable def table_Drop_1 (p : Pair) (v : Str) : Option (Bool) :=
 some (decide (p.Key = v))
def gm_table_Drop_1 : Gm := ⟨tys, [], [], []⟩
theorem table_Drop_1_walk (p : Pair) (v : Str) (r : Bool) (h : table_Drop_1 p v = some r) : CallP Tryz.prog 180 [.var 9 [.v (.string (bs v))]] [.agg [.v (.string (bs p.Key)), .v (.string (bs p.Val))], .ptr 0 0] (fun a H' => a = .v (.bool r) ∧ H'.take ([.var 9 [.v (.string (bs v))]] : List Ob).length = [.var 9 [.v (.string (bs v))]]) := by
 unfold table_Drop_1 at h
 refine callW (G := gm_table_Drop_1) tyOk Tryz.func180 rfl (by kernel_rfl) (by simp [Tryz.f180]) ?_
 refine Tri.seqK ?_
 refine Tri.run (G := gm_table_Drop_1) tyOk mixed ?_
 conv => whnf
 refine Tri.seqK ?_
 refine Tri.run (G := gm_table_Drop_1) tyOk mixed ?_
 conv => whnf
 refine ⟨⟨(decide (p.Key = v)), bs_eq _ _, ?_⟩⟩
 conv => whnf
 refine Tri.run (G := gm_table_Drop_1) tyOk mixed ?_
 conv => whnf
 refine fin_pre (S' := ⟨8, 1, ofRegs [(3, .v (.bool (decide (p.Key = v))))], [.var 9 [.v (.string (bs v))]]⟩) (weak_fin _ rfl rfl rfl (.cons (.same rfl) (LeH.rest)) (.cons (.one (.same rfl)) (.nil)) rfl rfl) ?_
 conv => whnf
 cases h
 exact ⟨rfl, rfl⟩
noncomputable def slices_IndexFunc_Pair__table_Drop_1_l4 (l : (List Pair)) (v : Str) (a164 : Int) : Option ((Int) ⊕ ((Int) ⊕ (Unit))) :=
 if (decide (a164 < (l.length : Int))) then
  (ix l a164).bind fun x179 =>
  (table_Drop_1 x179 v).bind fun y181 =>
  if y181 then
   some (.inr (.inl a164))
  else
   some (.inl (IntKind.i64.wrap (a164 + 1)))
 else
  some (.inr (.inr ()))
noncomputable def slices_IndexFunc_Pair__table_Drop_1 (l : (List Pair)) (v : Str) : Option (Int) :=
 (loop (fun (s169 : Int) => slices_IndexFunc_Pair__table_Drop_1_l4 l v s169) (0 : Int)).bind fun (y165 : (Int) ⊕ (Unit)) =>
 match y165 with
 | (.inl v167) =>
  some v167
 | (.inr v168) =>
  some (-1)
def gm_slices_IndexFunc_Pair__table_Drop_1 : Gm := ⟨tys, [180], [], []⟩
theorem slices_IndexFunc_Pair__table_Drop_1_walk (l : (List Pair)) (v : Str) (r : Int) (h : slices_IndexFunc_Pair__table_Drop_1 l v = some r) : CallP Tryz.prog 142 [.row 90 2 (List.map encPair l), .var 9 [.v (.string (bs v))]] [.row 0 ((List.map encPair l).length), .fn (.func 180) [] [.ptr 1 0]] (fun a H' => a = .v (.int .i64 r) ∧ H'.take ([.row 90 2 (List.map encPair l), .var 9 [.v (.string (bs v))]] : List Ob).length = [.row 90 2 (List.map encPair l), .var 9 [.v (.string (bs v))]]) := by
 unfold slices_IndexFunc_Pair__table_Drop_1 at h
 refine callW (G := gm_slices_IndexFunc_Pair__table_Drop_1) tyOk Tryz.func142 rfl (by kernel_rfl) (by simp [Tryz.f142]) ?_
 refine Tri.seqK ?_
 refine Tri.run (G := gm_slices_IndexFunc_Pair__table_Drop_1) tyOk mixed ?_
 conv => whnf
 refine Tri.seqK ?_
 refine Tri.seqK ?_
 refine Tri.run (G := gm_slices_IndexFunc_Pair__table_Drop_1) tyOk mixed ?_
 conv => whnf
 refine ⟨rfl, ?_⟩
 conv => whnf
 refine ⟨⟨(l.length : Int), by simp, ?_⟩⟩
 conv => whnf
 refine Tri.block ?_
 replace h := bind_some h
 obtain ⟨y165, q166, h⟩ := h
 refine Tri.cut (fun ex S' => (∃ v167 : Int, y165 = (.inl v167) ∧ ex = .ret ∧ Weak S' ⟨19, 2, ofRegs [(4, .v (.int .i64 v167))], [.row 90 2 (List.map encPair l), .var 9 [.v (.string (bs v))]]⟩) ∨ (∃ v168 : Unit, y165 = (.inr v168) ∧ ex = (.exit 0) ∧ Weak S' ⟨19, 2, ofRegs [], [.row 90 2 (List.map encPair l), .var 9 [.v (.string (bs v))]]⟩)) ?_ ?_
 ·refine Tri.loopF (fun (s169 : Int) => (⟨19, 2, ofRegs [(0, .row 0 ((List.map encPair l).length)), (1, .fn (.func 180) [] [.ptr 1 0]), (7, .v (.int .i64 (l.length : Int))), (8, .v (.int .i64 s169))], [.row 90 2 (List.map encPair l), .var 9 [.v (.string (bs v))]]⟩ : St)) q166 (weak_fin _ rfl rfl rfl (.cons (.same rfl) (.cons (.same rfl) (LeH.rest))) (.cons (.one (.same rfl)) (.cons (.one (.same rfl)) (.cons (.one (.same rfl)) (.cons (.one (.same rfl)) (.nil))))) rfl rfl) ?_
  rintro a164 v170 hv r171
  have hv : slices_IndexFunc_Pair__table_Drop_1_l4 l v a164 = some v170 := hv
  unfold slices_IndexFunc_Pair__table_Drop_1_l4 at hv
  refine Tri.seqK ?_
  refine Tri.run (G := gm_slices_IndexFunc_Pair__table_Drop_1) tyOk mixed ?_
  conv => whnf
  refine Tri.seqK ?_
  refine Tri.cond rfl (fun c173 => ?_) (fun c173 => ?_)
  ·replace hv := if_t c173 hv
   refine Tri.run (G := gm_slices_IndexFunc_Pair__table_Drop_1) tyOk mixed ?_
   conv => whnf
   refine Tri.seqK ?_
   refine Tri.block ?_
   refine Tri.seqK ?_
   refine Tri.run (G := gm_slices_IndexFunc_Pair__table_Drop_1) tyOk mixed ?_
   conv => whnf
   refine Tri.seqK ?_
   refine Tri.run (G := gm_slices_IndexFunc_Pair__table_Drop_1) tyOk mixed ?_
   conv => whnf
   replace hv := bind_some hv
   obtain ⟨x179, q180, hv⟩ := hv
   refine ⟨⟨rfl, (ix_lt q180).1, by have := ix_lt q180; simp only [List.length_map, List.length_set, List.length_cons, List.length_nil] at *; omega⟩, ?_⟩
   conv => whnf
   refine ⟨rfl, ?_⟩
   conv => whnf
   refine ⟨⟨_, map_get encPair (ix_some q180).2, ?_⟩⟩
   conv => whnf
   replace hv := bind_some hv
   obtain ⟨y181, q182, hv⟩ := hv
   refine CallP.use (table_Drop_1_walk x179 v y181 q182) [1] rfl rfl rfl rfl rfl rfl rfl rfl rfl ?_
   conv => whnf
   refine Tri.cond rfl (fun c183 => ?_) (fun c183 => ?_)
   ·replace hv := if_t c183 hv
    refine Tri.seqK ?_
    refine Tri.run (G := gm_slices_IndexFunc_Pair__table_Drop_1) tyOk mixed ?_
    conv => whnf
    refine Tri.run (G := gm_slices_IndexFunc_Pair__table_Drop_1) tyOk mixed ?_
    conv => whnf
    cases hv
    obtain rfl := r171 _ rfl
    exact Or.inl ⟨_, rfl, rfl, weak_fin _ rfl rfl rfl (.cons (.same rfl) (.cons (.same rfl) (LeH.rest))) (.cons (.one (.same rfl)) (.nil)) rfl rfl⟩
   ·replace hv := if_f c183 hv
    refine Tri.run (G := gm_slices_IndexFunc_Pair__table_Drop_1) tyOk mixed ?_
    conv => whnf
    refine Tri.run (G := gm_slices_IndexFunc_Pair__table_Drop_1) tyOk mixed ?_
    conv => whnf
    cases hv
    exact ⟨_, rfl, weak_fin _ rfl rfl rfl (.cons (.same rfl) (.cons (.same rfl) (LeH.rest))) (.cons (.one (.same rfl)) (.cons (.one (.same rfl)) (.cons (.one (.same rfl)) (.cons (.one (.same rfl)) (.nil))))) rfl rfl⟩
  ·replace hv := if_f c173 hv
   refine Tri.run (G := gm_slices_IndexFunc_Pair__table_Drop_1) tyOk mixed ?_
   conv => whnf
   cases hv
   obtain rfl := r171 _ rfl
   exact Or.inr (⟨_, rfl, rfl, weak_fin _ rfl rfl rfl (.cons (.same rfl) (.cons (.same rfl) (LeH.rest))) (.nil) rfl rfl⟩)
 ·rintro ex S' (⟨v167, rfl, rfl, w184⟩ | ⟨v168, rfl, rfl, w184⟩)
  ·dsimp only at h
   conv => whnf
   refine fin_pre (S' := ⟨19, 2, ofRegs [(4, .v (.int .i64 v167))], [.row 90 2 (List.map encPair l), .var 9 [.v (.string (bs v))]]⟩) (Weak.trans w184 (weak_fin _ rfl rfl rfl (.cons (.same rfl) (.cons (.same rfl) (LeH.rest))) (.cons (.one (.same rfl)) (.nil)) rfl rfl)) ?_
   conv => whnf
   cases h
   exact ⟨rfl, rfl⟩
  ·dsimp only at h
   conv => whnf
   refine Tri.weak w184 ?_
   refine Tri.seqK ?_
   refine Tri.run (G := gm_slices_IndexFunc_Pair__table_Drop_1) tyOk mixed ?_
   conv => whnf
   refine Tri.run (G := gm_slices_IndexFunc_Pair__table_Drop_1) tyOk mixed ?_
   conv => whnf
   refine fin_pre (S' := ⟨19, 2, ofRegs [(4, .v (.int .i64 (-1)))], [.row 90 2 (List.map encPair l), .var 9 [.v (.string (bs v))]]⟩) (weak_fin _ rfl rfl rfl (.cons (.same rfl) (.cons (.same rfl) (LeH.rest))) (.cons (.one (.same rfl)) (.nil)) rfl rfl) ?_
   conv => whnf
   cases h
   exact ⟨rfl, rfl⟩
noncomputable def slices_DeleteFunc_Pair__table_Drop_1_l4 (v : Str) (a338 : Int) (a339 : Int) (a340 : (List Pair)) : Option ((Int × Int × (List Pair)) ⊕ (Int × (List Pair))) :=
 if (decide (a339 < (a340.length : Int))) then
  (
   (ix a340 a339).bind fun x364 =>
   (table_Drop_1 x364 v).bind fun y366 =>
   if (!y366) then
    (ix a340 a338).bind fun x369 =>
    some ((IntKind.i64.wrap (a338 + 1)), (List.set a340 (a338).toNat x364))
   else
    some (a338, a340)).bind fun (y362 : Int × (List Pair)) =>
  some (.inl (y362.1, (IntKind.i64.wrap (a339 + 1)), y362.2))
 else
  some (.inr (a338, a340))
noncomputable def slices_DeleteFunc_Pair__table_Drop_1 (l : (List Pair)) (v : Str) : Option ((List Pair)) :=
 (slices_IndexFunc_Pair__table_Drop_1 l v).bind fun y189 =>
 if (decide (y189 = (-1))) then
  some l
 else
  (loop (fun (s343 : Int × Int × (List Pair)) => slices_DeleteFunc_Pair__table_Drop_1_l4 v s343.1 s343.2.1 s343.2.2) (y189, (IntKind.i64.wrap (y189 + 1)), l)).bind fun (y341 : Int × (List Pair)) =>
  need (0 < y341.2.length) <|
  need ((0 : Int) ≤ y341.1 ∧ y341.1 ≤ (y341.2.length : Int) ∧ (y341.2.length : Int) ≤ (y341.2.length : Int)) <|
  need (0 < (List.take ((y341.1).toNat) y341.2 ++ List.replicate (((((List.map encPair y341.2).length : Nat) : Int).toNat) - ((y341.1).toNat)) (({ Key := [], Val := [] } : Pair) : Pair) ++ List.drop ((((List.map encPair y341.2).length : Nat) : Int).toNat) y341.2).length) <|
  need ((0 : Int) ≤ (0 : Int) ∧ 0 ≤ y341.1 ∧ y341.1 ≤ ((List.take ((y341.1).toNat) y341.2 ++ List.replicate (((((List.map encPair y341.2).length : Nat) : Int).toNat) - ((y341.1).toNat)) (({ Key := [], Val := [] } : Pair) : Pair) ++ List.drop ((((List.map encPair y341.2).length : Nat) : Int).toNat) y341.2).length : Int)) <|
  some (List.drop ((0 : Int).toNat) (List.take ((y341.1).toNat) (List.take ((y341.1).toNat) y341.2 ++ List.replicate (((((List.map encPair y341.2).length : Nat) : Int).toNat) - ((y341.1).toNat)) (({ Key := [], Val := [] } : Pair) : Pair) ++ List.drop ((((List.map encPair y341.2).length : Nat) : Int).toNat) y341.2)))
def gm_slices_DeleteFunc_Pair__table_Drop_1 : Gm := ⟨tys, [142, 180], [], []⟩
theorem slices_DeleteFunc_Pair__table_Drop_1_walk (l : (List Pair)) (v : Str) (r : (List Pair)) (h : slices_DeleteFunc_Pair__table_Drop_1 l v = some r) : CallP Tryz.prog 179 [.row 90 2 (List.map encPair l), .var 9 [.v (.string (bs v))]] [.row 0 ((List.map encPair l).length), .fn (.func 180) [] [.ptr 1 0]] (fun a H' => a = .sl (List.map encPair r) ∧ H'.take ([.gone, .var 9 [.v (.string (bs v))]] : List Ob).length = [.gone, .var 9 [.v (.string (bs v))]]) := by
 unfold slices_DeleteFunc_Pair__table_Drop_1 at h
 refine callW (G := gm_slices_DeleteFunc_Pair__table_Drop_1) tyOk Tryz.func179 rfl (by kernel_rfl) (by simp [Tryz.f179]) ?_
 refine Tri.seqK ?_
 refine Tri.run (G := gm_slices_DeleteFunc_Pair__table_Drop_1) tyOk mixed ?_
 conv => whnf
 refine Tri.seqK ?_
 refine Tri.run (G := gm_slices_DeleteFunc_Pair__table_Drop_1) tyOk mixed ?_
 conv => whnf
 replace h := bind_some h
 obtain ⟨y189, q190, h⟩ := h
 refine CallP.use (slices_IndexFunc_Pair__table_Drop_1_walk l v y189 q190) [0, 1] rfl rfl rfl rfl rfl rfl rfl rfl rfl ?_
 conv => whnf
 refine Tri.seqK ?_
 refine Tri.seqK ?_
 refine Tri.run (G := gm_slices_DeleteFunc_Pair__table_Drop_1) tyOk mixed ?_
 conv => whnf
 refine Tri.cond rfl (fun c192 => ?_) (fun c192 => ?_)
 ·replace h := if_t c192 h
  refine Tri.seqK ?_
  refine Tri.run (G := gm_slices_DeleteFunc_Pair__table_Drop_1) tyOk mixed ?_
  conv => whnf
  refine Tri.run (G := gm_slices_DeleteFunc_Pair__table_Drop_1) tyOk mixed ?_
  conv => whnf
  refine fin_pre (S' := ⟨42, 2, ofRegs [(4, .sl (List.map encPair l))], [.gone, .var 9 [.v (.string (bs v))]]⟩) (Weak.trans (weak_freeze 0 rfl) (weak_fin _ rfl rfl rfl (.cons (.gone) (.cons (.same rfl) (LeH.rest))) (.cons (.one (.frz rfl (rfl))) (.nil)) rfl rfl)) ?_
  conv => whnf
  cases h
  exact ⟨rfl, rfl⟩
 ·replace h := if_f c192 h
  refine Tri.run (G := gm_slices_DeleteFunc_Pair__table_Drop_1) tyOk mixed ?_
  conv => whnf
  refine Tri.seqK ?_
  refine Tri.seqK ?_
  refine Tri.run (G := gm_slices_DeleteFunc_Pair__table_Drop_1) tyOk mixed ?_
  conv => whnf
  refine Tri.block ?_
  replace h := bind_some h
  obtain ⟨y341, q342, h⟩ := h
  refine Tri.cut (fun ex S' => ex = (.exit 0) ∧ Weak S' ⟨42, 2, ofRegs [(0, .row 0 ((List.map encPair y341.2).length)), (5, .v (.int .i64 y341.1))], [.row 90 2 (List.map encPair y341.2), .var 9 [.v (.string (bs v))]]⟩) ?_ ?_
  ·refine Tri.loopF (fun (s343 : Int × Int × (List Pair)) => (⟨42, 2, ofRegs [(0, .row 0 ((List.map encPair s343.2.2).length)), (1, .fn (.func 180) [] [.ptr 1 0]), (5, .v (.int .i64 s343.1)), (6, .v (.int .i64 s343.2.1))], [.row 90 2 (List.map encPair s343.2.2), .var 9 [.v (.string (bs v))]]⟩ : St)) q342 (weak_fin _ rfl rfl rfl (.cons (.same rfl) (.cons (.same rfl) (LeH.rest))) (.cons (.one (.same rfl)) (.cons (.one (.same rfl)) (.cons (.one (.same rfl)) (.cons (.one (.same rfl)) (.nil))))) rfl rfl) ?_
   rintro ⟨a338, a339, a340⟩ v344 hv r345
   have hv : slices_DeleteFunc_Pair__table_Drop_1_l4 v a338 a339 a340 = some v344 := hv
   unfold slices_DeleteFunc_Pair__table_Drop_1_l4 at hv
   dsimp only
   refine Tri.seqK ?_
   refine Tri.seqK ?_
   refine Tri.run (G := gm_slices_DeleteFunc_Pair__table_Drop_1) tyOk mixed ?_
   conv => whnf
   refine ⟨rfl, ?_⟩
   conv => whnf
   refine ⟨⟨(a340.length : Int), by simp, ?_⟩⟩
   conv => whnf
   refine Tri.cond rfl (fun c347 => ?_) (fun c347 => ?_)
   ·replace hv := if_t c347 hv
    refine Tri.run (G := gm_slices_DeleteFunc_Pair__table_Drop_1) tyOk mixed ?_
    conv => whnf
    refine Tri.seqK ?_
    replace hv := bind_some hv
    obtain ⟨y362, q363, hv⟩ := hv
    refine Tri.cut (fun ex S' => ex = .normal ∧ Weak S' ⟨42, 2, ofRegs [(0, .row 0 ((List.map encPair y362.2).length)), (1, .fn (.func 180) [] [.ptr 1 0]), (5, .v (.int .i64 y362.1)), (6, .v (.int .i64 a339))], [.row 90 2 (List.map encPair y362.2), .var 9 [.v (.string (bs v))]]⟩) ?_ ?_
    ·refine Tri.block ?_
     refine Tri.seqK ?_
     refine Tri.run (G := gm_slices_DeleteFunc_Pair__table_Drop_1) tyOk mixed ?_
     conv => whnf
     replace q363 := bind_some q363
     obtain ⟨x364, q365, q363⟩ := q363
     refine ⟨⟨rfl, (ix_lt q365).1, by have := ix_lt q365; simp only [List.length_map, List.length_set, List.length_cons, List.length_nil] at *; omega⟩, ?_⟩
     conv => whnf
     refine ⟨rfl, ?_⟩
     conv => whnf
     refine ⟨⟨_, map_get encPair (ix_some q365).2, ?_⟩⟩
     conv => whnf
     refine Tri.seqK ?_
     refine Tri.run (G := gm_slices_DeleteFunc_Pair__table_Drop_1) tyOk mixed ?_
     conv => whnf
     replace q363 := bind_some q363
     obtain ⟨y366, q367, q363⟩ := q363
     refine CallP.use (table_Drop_1_walk x364 v y366 q367) [1] rfl rfl rfl rfl rfl rfl rfl rfl rfl ?_
     conv => whnf
     refine Tri.cond rfl (fun c368 => ?_) (fun c368 => ?_)
     ·replace q363 := if_t c368 q363
      refine Tri.seqK ?_
      refine Tri.run (G := gm_slices_DeleteFunc_Pair__table_Drop_1) tyOk mixed ?_
      conv => whnf
      replace q363 := bind_some q363
      obtain ⟨x369, q370, q363⟩ := q363
      refine ⟨⟨rfl, (ix_lt q370).1, by have := ix_lt q370; simp only [List.length_map, List.length_set, List.length_cons, List.length_nil] at *; omega⟩, ?_⟩
      conv => whnf
      refine ⟨rfl, ?_⟩
      conv => whnf
      refine ⟨⟨_, map_get encPair (ix_some q370).2, ?_⟩⟩
      conv => whnf
      refine ⟨Nat.le_of_ble_eq_true rfl, ?_⟩
      conv => whnf
      refine ⟨⟨List.map encPair (List.set a340 (a338).toNat x364), map_set encPair _ _ _ rfl, ?_⟩⟩
      conv => whnf
      refine Tri.run (G := gm_slices_DeleteFunc_Pair__table_Drop_1) tyOk mixed ?_
      conv => whnf
      cases q363
      exact ⟨rfl, weak_fin _ rfl rfl rfl (.cons (.same rfl) (.cons (.same rfl) (LeH.rest))) (.cons (.one (.same (show (.row 0 ((List.map encPair a340).length) : AV) = (.row 0 ((List.map encPair (List.set a340 (a338).toNat x364)).length) : AV) from congrArg (AV.row 0) (by simp)))) (.cons (.one (.same rfl)) (.cons (.one (.same rfl)) (.cons (.one (.same rfl)) (.nil))))) rfl rfl⟩
     ·replace q363 := if_f c368 q363
      refine Tri.run (G := gm_slices_DeleteFunc_Pair__table_Drop_1) tyOk mixed ?_
      conv => whnf
      cases q363
      exact ⟨rfl, weak_fin _ rfl rfl rfl (.cons (.same rfl) (.cons (.same rfl) (LeH.rest))) (.cons (.one (.same rfl)) (.cons (.one (.same rfl)) (.cons (.one (.same rfl)) (.cons (.one (.same rfl)) (.nil))))) rfl rfl⟩
    ·rintro ex S' ⟨rfl, w371⟩
     conv => whnf
     refine Tri.weak w371 ?_
     refine Tri.run (G := gm_slices_DeleteFunc_Pair__table_Drop_1) tyOk mixed ?_
     conv => whnf
     cases hv
     exact ⟨_, rfl, weak_fin _ rfl rfl rfl (.cons (.same rfl) (.cons (.same rfl) (LeH.rest))) (.cons (.one (.same rfl)) (.cons (.one (.same rfl)) (.cons (.one (.same rfl)) (.cons (.one (.same rfl)) (.nil))))) rfl rfl⟩
   ·replace hv := if_f c347 hv
    refine Tri.run (G := gm_slices_DeleteFunc_Pair__table_Drop_1) tyOk mixed ?_
    conv => whnf
    cases hv
    obtain rfl := r345 _ rfl
    exact ⟨rfl, weak_fin _ rfl rfl rfl (.cons (.same rfl) (.cons (.same rfl) (LeH.rest))) (.cons (.one (.same rfl)) (.cons (.one (.same rfl)) (.nil))) rfl rfl⟩
  ·rintro ex S' ⟨rfl, w372⟩
   conv => whnf
   refine Tri.weak w372 ?_
   refine Tri.seqK ?_
   refine Tri.run (G := gm_slices_DeleteFunc_Pair__table_Drop_1) tyOk mixed ?_
   conv => whnf
   replace h := need_some h
   obtain ⟨p373, h⟩ := h
   refine ⟨⟨rfl, by have := p373; simp only [List.length_map, List.length_append, List.length_take, List.length_drop, List.length_replicate, List.length_set] at *; omega⟩, ?_⟩
   conv => whnf
   replace h := need_some h
   obtain ⟨p374, h⟩ := h
   refine ⟨by have := p374; simp only [List.length_map, List.length_append, List.length_take, List.length_drop, List.length_replicate, List.length_set] at *; omega, ?_⟩
   conv => whnf
   refine ⟨rfl, ?_⟩
   conv => whnf
   refine ⟨⟨List.map encPair (List.take ((y341.1).toNat) y341.2 ++ List.replicate (((((List.map encPair y341.2).length : Nat) : Int).toNat) - ((y341.1).toNat)) (({ Key := [], Val := [] } : Pair) : Pair) ++ List.drop ((((List.map encPair y341.2).length : Nat) : Int).toNat) y341.2), by rw [List.map_append, List.map_append, List.map_take, List.map_drop, List.map_replicate]; rfl, ?_⟩⟩
   conv => whnf
   refine Tri.seqK ?_
   refine Tri.run (G := gm_slices_DeleteFunc_Pair__table_Drop_1) tyOk mixed ?_
   conv => whnf
   replace h := need_some h
   obtain ⟨p375, h⟩ := h
   refine ⟨⟨by first | (simp; done) | (simp only [List.length_map, List.length_append, List.length_take, List.length_drop, List.length_replicate, List.length_set, List.length_mergeSort]; omega), by have := p375; simp only [List.length_map, List.length_append, List.length_take, List.length_drop, List.length_replicate, List.length_set] at *; omega⟩, ?_⟩
   conv => whnf
   replace h := need_some h
   obtain ⟨p376, h⟩ := h
   refine ⟨by have := p376; simp only [List.length_map, List.length_append, List.length_take, List.length_drop, List.length_replicate, List.length_set] at *; omega, ?_⟩
   conv => whnf
   refine Tri.run (G := gm_slices_DeleteFunc_Pair__table_Drop_1) tyOk mixed ?_
   conv => whnf
   refine fin_pre (S' := ⟨42, 2, ofRegs [(4, .sl (List.map encPair (List.drop ((0 : Int).toNat) (List.take ((y341.1).toNat) (List.take ((y341.1).toNat) y341.2 ++ List.replicate (((((List.map encPair y341.2).length : Nat) : Int).toNat) - ((y341.1).toNat)) (({ Key := [], Val := [] } : Pair) : Pair) ++ List.drop ((((List.map encPair y341.2).length : Nat) : Int).toNat) y341.2)))))], [.gone, .var 9 [.v (.string (bs v))]]⟩) (Weak.trans (weak_freeze 0 rfl) (weak_fin _ rfl rfl rfl (.cons (.gone) (.cons (.same rfl) (LeH.rest))) (.cons (.one (.frzvw rfl (by first | (simp; done) | (simp only [List.length_map, List.length_append, List.length_take, List.length_drop, List.length_replicate, List.length_set, List.length_mergeSort]; omega)) (by rw [List.map_drop, List.map_take]))) (.nil)) rfl rfl)) ?_
   conv => whnf
   cases h
   exact ⟨rfl, rfl⟩
noncomputable def table_Drop (l : (List Pair)) (key : Str) : Option ((List Pair)) :=
 need (l.length * 32 ≤ 140737488355328) <|
 (slices_DeleteFunc_Pair__table_Drop_1 l key).bind fun y2 =>
 some y2
def gm_table_Drop : Gm := ⟨tys, [179], [(138, 90, 2)], []⟩
theorem table_Drop_walk (l : (List Pair)) (key : Str) (r : (List Pair)) (h : table_Drop l key = some r) : PureP Tryz.prog 169 [.sl (List.map encPair l), .v (.string (bs key))] (fun a => a = .sl (List.map encPair r)) := by
 unfold table_Drop at h
 refine pureW (G := gm_table_Drop) tyOk Tryz.func169 rfl (by kernel_rfl) (by simp [Tryz.f169]) ?_
 refine Tri.seqK ?_
 refine Tri.run (G := gm_table_Drop) tyOk mixed ?_
 conv => whnf
 refine Tri.seqK ?_
 refine Tri.run (G := gm_table_Drop) tyOk mixed ?_
 conv => whnf
 replace h := need_some h
 obtain ⟨p1, h⟩ := h
 refine FreshP.mono (clone_138 l p1) ?_
 rintro _ rfl
 conv => whnf
 replace h := bind_some h
 obtain ⟨y2, q3, h⟩ := h
 refine CallP.use (slices_DeleteFunc_Pair__table_Drop_1_walk l key y2 q3) [1, 0] rfl rfl rfl rfl rfl rfl rfl rfl rfl ?_
 conv => whnf
 refine Tri.run (G := gm_table_Drop) tyOk mixed ?_
 conv => whnf
 refine fin_here ?_
 conv => whnf
 cases h
 rfl
noncomputable def table_write_drop (w : table_write) (l : (List Pair)) : Option ((List Pair)) :=
 (table_Drop l w.Write.Key).bind fun y1 =>
 some y1
def gm_table_write_drop : Gm := ⟨tys, [], [], []⟩
theorem table_write_drop_walk (w : table_write) (l : (List Pair)) (r : (List Pair)) (h : table_write_drop w l = some r) : PureP Tryz.prog 140 [.agg [.v (.string (bs w.Write.Key)), .v (.string (bs w.Write.Val)), .v (.bool w.Write.Del)], .sl (List.map encPair l)] (fun a => a = .sl (List.map encPair r)) := by
 unfold table_write_drop at h
 refine pureW (G := gm_table_write_drop) tyOk Tryz.func140 rfl (by kernel_rfl) (by simp [Tryz.f140]) ?_
 refine Tri.seqK ?_
 refine Tri.run (G := gm_table_write_drop) tyOk mixed ?_
 conv => whnf
 refine Tri.seqK ?_
 refine Tri.run (G := gm_table_write_drop) tyOk mixed ?_
 conv => whnf
 replace h := bind_some h
 obtain ⟨y1, q2, h⟩ := h
 refine PureP.mono (table_Drop_walk l w.Write.Key y1 q2) ?_
 rintro _ rfl
 conv => whnf
 refine Tri.run (G := gm_table_write_drop) tyOk mixed ?_
 conv => whnf
 refine fin_here ?_
 conv => whnf
 cases h
 rfl
noncomputable def table_Put_1 (p : Pair) (v : Str) : Option (Bool) :=
 some (!(ltS p.Key v || decide (p.Key = v)))
def gm_table_Put_1 : Gm := ⟨tys, [], [], []⟩
theorem table_Put_1_walk (p : Pair) (v : Str) (r : Bool) (h : table_Put_1 p v = some r) : CallP Tryz.prog 143 [.var 9 [.v (.string (bs v))]] [.agg [.v (.string (bs p.Key)), .v (.string (bs p.Val))], .ptr 0 0] (fun a H' => a = .v (.bool r) ∧ H'.take ([.var 9 [.v (.string (bs v))]] : List Ob).length = [.var 9 [.v (.string (bs v))]]) := by
 unfold table_Put_1 at h
 refine callW (G := gm_table_Put_1) tyOk Tryz.func143 rfl (by kernel_rfl) (by simp [Tryz.f143]) ?_
 refine Tri.seqK ?_
 refine Tri.run (G := gm_table_Put_1) tyOk mixed ?_
 conv => whnf
 refine Tri.seqK ?_
 refine Tri.run (G := gm_table_Put_1) tyOk mixed ?_
 conv => whnf
 refine ⟨⟨(!(ltS p.Key v || decide (p.Key = v))), bs_gt _ _, ?_⟩⟩
 conv => whnf
 refine Tri.run (G := gm_table_Put_1) tyOk mixed ?_
 conv => whnf
 refine fin_pre (S' := ⟨8, 1, ofRegs [(3, .v (.bool (!(ltS p.Key v || decide (p.Key = v)))))], [.var 9 [.v (.string (bs v))]]⟩) (weak_fin _ rfl rfl rfl (.cons (.same rfl) (LeH.rest)) (.cons (.one (.same rfl)) (.nil)) rfl rfl) ?_
 conv => whnf
 cases h
 exact ⟨rfl, rfl⟩
noncomputable def slices_IndexFunc_Pair__table_Put_1_l4 (l : (List Pair)) (v : Str) (a164 : Int) : Option ((Int) ⊕ ((Int) ⊕ (Unit))) :=
 if (decide (a164 < (l.length : Int))) then
  (ix l a164).bind fun x179 =>
  (table_Put_1 x179 v).bind fun y181 =>
  if y181 then
   some (.inr (.inl a164))
  else
   some (.inl (IntKind.i64.wrap (a164 + 1)))
 else
  some (.inr (.inr ()))
noncomputable def slices_IndexFunc_Pair__table_Put_1 (l : (List Pair)) (v : Str) : Option (Int) :=
 (loop (fun (s169 : Int) => slices_IndexFunc_Pair__table_Put_1_l4 l v s169) (0 : Int)).bind fun (y165 : (Int) ⊕ (Unit)) =>
 match y165 with
 | (.inl v167) =>
  some v167
 | (.inr v168) =>
  some (-1)
def gm_slices_IndexFunc_Pair__table_Put_1 : Gm := ⟨tys, [143], [], []⟩
theorem slices_IndexFunc_Pair__table_Put_1_walk (l : (List Pair)) (v : Str) (r : Int) (h : slices_IndexFunc_Pair__table_Put_1 l v = some r) : CallP Tryz.prog 142 [.row 90 2 (List.map encPair l), .var 9 [.v (.string (bs v))]] [.row 0 ((List.map encPair l).length), .fn (.func 143) [] [.ptr 1 0]] (fun a H' => a = .v (.int .i64 r) ∧ H'.take ([.row 90 2 (List.map encPair l), .var 9 [.v (.string (bs v))]] : List Ob).length = [.row 90 2 (List.map encPair l), .var 9 [.v (.string (bs v))]]) := by
 unfold slices_IndexFunc_Pair__table_Put_1 at h
 refine callW (G := gm_slices_IndexFunc_Pair__table_Put_1) tyOk Tryz.func142 rfl (by kernel_rfl) (by simp [Tryz.f142]) ?_
 refine Tri.seqK ?_
 refine Tri.run (G := gm_slices_IndexFunc_Pair__table_Put_1) tyOk mixed ?_
 conv => whnf
 refine Tri.seqK ?_
 refine Tri.seqK ?_
 refine Tri.run (G := gm_slices_IndexFunc_Pair__table_Put_1) tyOk mixed ?_
 conv => whnf
 refine ⟨rfl, ?_⟩
 conv => whnf
 refine ⟨⟨(l.length : Int), by simp, ?_⟩⟩
 conv => whnf
 refine Tri.block ?_
 replace h := bind_some h
 obtain ⟨y165, q166, h⟩ := h
 refine Tri.cut (fun ex S' => (∃ v167 : Int, y165 = (.inl v167) ∧ ex = .ret ∧ Weak S' ⟨19, 2, ofRegs [(4, .v (.int .i64 v167))], [.row 90 2 (List.map encPair l), .var 9 [.v (.string (bs v))]]⟩) ∨ (∃ v168 : Unit, y165 = (.inr v168) ∧ ex = (.exit 0) ∧ Weak S' ⟨19, 2, ofRegs [], [.row 90 2 (List.map encPair l), .var 9 [.v (.string (bs v))]]⟩)) ?_ ?_
 ·refine Tri.loopF (fun (s169 : Int) => (⟨19, 2, ofRegs [(0, .row 0 ((List.map encPair l).length)), (1, .fn (.func 143) [] [.ptr 1 0]), (7, .v (.int .i64 (l.length : Int))), (8, .v (.int .i64 s169))], [.row 90 2 (List.map encPair l), .var 9 [.v (.string (bs v))]]⟩ : St)) q166 (weak_fin _ rfl rfl rfl (.cons (.same rfl) (.cons (.same rfl) (LeH.rest))) (.cons (.one (.same rfl)) (.cons (.one (.same rfl)) (.cons (.one (.same rfl)) (.cons (.one (.same rfl)) (.nil))))) rfl rfl) ?_
  rintro a164 v170 hv r171
  have hv : slices_IndexFunc_Pair__table_Put_1_l4 l v a164 = some v170 := hv
  unfold slices_IndexFunc_Pair__table_Put_1_l4 at hv
  refine Tri.seqK ?_
  refine Tri.run (G := gm_slices_IndexFunc_Pair__table_Put_1) tyOk mixed ?_
  conv => whnf
  refine Tri.seqK ?_
  refine Tri.cond rfl (fun c173 => ?_) (fun c173 => ?_)
  ·replace hv := if_t c173 hv
   refine Tri.run (G := gm_slices_IndexFunc_Pair__table_Put_1) tyOk mixed ?_
   conv => whnf
   refine Tri.seqK ?_
   refine Tri.block ?_
   refine Tri.seqK ?_
   refine Tri.run (G := gm_slices_IndexFunc_Pair__table_Put_1) tyOk mixed ?_
   conv => whnf
   refine Tri.seqK ?_
   refine Tri.run (G := gm_slices_IndexFunc_Pair__table_Put_1) tyOk mixed ?_
   conv => whnf
   replace hv := bind_some hv
   obtain ⟨x179, q180, hv⟩ := hv
   refine ⟨⟨rfl, (ix_lt q180).1, by have := ix_lt q180; simp only [List.length_map, List.length_set, List.length_cons, List.length_nil] at *; omega⟩, ?_⟩
   conv => whnf
   refine ⟨rfl, ?_⟩
   conv => whnf
   refine ⟨⟨_, map_get encPair (ix_some q180).2, ?_⟩⟩
   conv => whnf
   replace hv := bind_some hv
   obtain ⟨y181, q182, hv⟩ := hv
   refine CallP.use (table_Put_1_walk x179 v y181 q182) [1] rfl rfl rfl rfl rfl rfl rfl rfl rfl ?_
   conv => whnf
   refine Tri.cond rfl (fun c183 => ?_) (fun c183 => ?_)
   ·replace hv := if_t c183 hv
    refine Tri.seqK ?_
    refine Tri.run (G := gm_slices_IndexFunc_Pair__table_Put_1) tyOk mixed ?_
    conv => whnf
    refine Tri.run (G := gm_slices_IndexFunc_Pair__table_Put_1) tyOk mixed ?_
    conv => whnf
    cases hv
    obtain rfl := r171 _ rfl
    exact Or.inl ⟨_, rfl, rfl, weak_fin _ rfl rfl rfl (.cons (.same rfl) (.cons (.same rfl) (LeH.rest))) (.cons (.one (.same rfl)) (.nil)) rfl rfl⟩
   ·replace hv := if_f c183 hv
    refine Tri.run (G := gm_slices_IndexFunc_Pair__table_Put_1) tyOk mixed ?_
    conv => whnf
    refine Tri.run (G := gm_slices_IndexFunc_Pair__table_Put_1) tyOk mixed ?_
    conv => whnf
    cases hv
    exact ⟨_, rfl, weak_fin _ rfl rfl rfl (.cons (.same rfl) (.cons (.same rfl) (LeH.rest))) (.cons (.one (.same rfl)) (.cons (.one (.same rfl)) (.cons (.one (.same rfl)) (.cons (.one (.same rfl)) (.nil))))) rfl rfl⟩
  ·replace hv := if_f c173 hv
   refine Tri.run (G := gm_slices_IndexFunc_Pair__table_Put_1) tyOk mixed ?_
   conv => whnf
   cases hv
   obtain rfl := r171 _ rfl
   exact Or.inr (⟨_, rfl, rfl, weak_fin _ rfl rfl rfl (.cons (.same rfl) (.cons (.same rfl) (LeH.rest))) (.nil) rfl rfl⟩)
 ·rintro ex S' (⟨v167, rfl, rfl, w184⟩ | ⟨v168, rfl, rfl, w184⟩)
  ·dsimp only at h
   conv => whnf
   refine fin_pre (S' := ⟨19, 2, ofRegs [(4, .v (.int .i64 v167))], [.row 90 2 (List.map encPair l), .var 9 [.v (.string (bs v))]]⟩) (Weak.trans w184 (weak_fin _ rfl rfl rfl (.cons (.same rfl) (.cons (.same rfl) (LeH.rest))) (.cons (.one (.same rfl)) (.nil)) rfl rfl)) ?_
   conv => whnf
   cases h
   exact ⟨rfl, rfl⟩
  ·dsimp only at h
   conv => whnf
   refine Tri.weak w184 ?_
   refine Tri.seqK ?_
   refine Tri.run (G := gm_slices_IndexFunc_Pair__table_Put_1) tyOk mixed ?_
   conv => whnf
   refine Tri.run (G := gm_slices_IndexFunc_Pair__table_Put_1) tyOk mixed ?_
   conv => whnf
   refine fin_pre (S' := ⟨19, 2, ofRegs [(4, .v (.int .i64 (-1)))], [.row 90 2 (List.map encPair l), .var 9 [.v (.string (bs v))]]⟩) (weak_fin _ rfl rfl rfl (.cons (.same rfl) (.cons (.same rfl) (LeH.rest))) (.cons (.one (.same rfl)) (.nil)) rfl rfl) ?_
   conv => whnf
   cases h
   exact ⟨rfl, rfl⟩
end Go.Ab
