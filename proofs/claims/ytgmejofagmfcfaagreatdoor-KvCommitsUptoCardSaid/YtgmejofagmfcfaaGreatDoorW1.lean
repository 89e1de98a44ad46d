/- The program's functions as plain Lean functions, and that the program comes to what they come to. Printed by a program of this session. -/
import Derived.Test.YtgmejofagmfcfaaGreatDoorTy
import Derived.RangeFuncLeaves
import Derived.Shelf.Abstract
import Derived.WalkKit
import Derived.OwnWalkIn
import Derived.TacticsInMore
import Derived.LoopNIn
import Derived.LoopIn
import Derived.Maps.AppendAt
import Derived.RegionIn
namespace Go.Ab
open Go.Proofs
set_option linter.unusedVariables false
set_option linter.unusedSimpArgs false
set_option maxRecDepth 100000
set_option maxHeartbeats 4000000
noncomputable def ref03_New (room : Int) : Option (Disk × Int) :=
 if (decide (room < 0)) then
  some (({ Files := [], Room := 0, Fuse := 0, Off := false } : Disk), 1)
 else
  some (({ Files := [], Room := room, Fuse := (-1), Off := false } : Disk), 0)
def gm_ref03_New : Gm := ⟨tys, [], [], []⟩
theorem ref03_New_walk (room : Int) (r : Disk × Int) (h : ref03_New room = some r) : PureP Tryz.prog 11 [.v (.int .i64 room)] (fun a => a = .tup [.agg [.sl (List.map encFile r.1.Files), .v (.int .i64 r.1.Room), .v (.int .i64 r.1.Fuse), .v (.bool r.1.Off)], .v (.int .i64 r.2)]) := by
 unfold ref03_New at h
 refine pureW (G := gm_ref03_New) tyOk Tryz.func11 rfl (by kernel_rfl) (by simp [Tryz.f11]) ?_
 refine Tri.seqK ?_
 refine Tri.run (G := gm_ref03_New) tyOk mixed ?_
 conv => whnf
 refine Tri.seqK ?_
 refine Tri.seqK ?_
 refine Tri.run (G := gm_ref03_New) tyOk mixed ?_
 conv => whnf
 refine Tri.cond rfl (fun c2 => ?_) (fun c2 => ?_)
 ·replace h := if_t c2 h
  refine Tri.seqK ?_
  refine Tri.run (G := gm_ref03_New) tyOk mixed ?_
  conv => whnf
  refine Tri.run (G := gm_ref03_New) tyOk mixed ?_
  conv => whnf
  refine fin_here ?_
  conv => whnf
  cases h
  rfl
 ·replace h := if_f c2 h
  refine Tri.run (G := gm_ref03_New) tyOk mixed ?_
  conv => whnf
  refine Tri.seqK ?_
  refine Tri.run (G := gm_ref03_New) tyOk mixed ?_
  conv => whnf
  refine Tri.run (G := gm_ref03_New) tyOk mixed ?_
  conv => whnf
  refine fin_here ?_
  conv => whnf
  cases h
  rfl
noncomputable def disk_at_1 (f : File) (v : Str) : Option (Bool) :=
 some (decide (f.Name = v))
def gm_disk_at_1 : Gm := ⟨tys, [], [], []⟩
theorem disk_at_1_walk (f : File) (v : Str) (r : Bool) (h : disk_at_1 f v = some r) : CallP Tryz.prog 165 [.var 9 [.v (.string (bs v))]] [.agg [.v (.string (bs f.Name)), .v (.string (bs f.Safe)), .v (.string (bs f.Wait))], .ptr 0 0] (fun a H' => a = .v (.bool r) ∧ H'.take ([.var 9 [.v (.string (bs v))]] : List Ob).length = [.var 9 [.v (.string (bs v))]]) := by
 unfold disk_at_1 at h
 refine callW (G := gm_disk_at_1) tyOk Tryz.func165 rfl (by kernel_rfl) (by simp [Tryz.f165]) ?_
 refine Tri.seqK ?_
 refine Tri.run (G := gm_disk_at_1) tyOk mixed ?_
 conv => whnf
 refine Tri.seqK ?_
 refine Tri.run (G := gm_disk_at_1) tyOk mixed ?_
 conv => whnf
 refine ⟨⟨(decide (f.Name = v)), bs_eq _ _, ?_⟩⟩
 conv => whnf
 refine Tri.run (G := gm_disk_at_1) tyOk mixed ?_
 conv => whnf
 refine fin_pre (S' := ⟨8, 1, ofRegs [(3, .v (.bool (decide (f.Name = v))))], [.var 9 [.v (.string (bs v))]]⟩) (weak_fin _ rfl rfl rfl (.cons (.same rfl) (LeH.rest)) (.cons (.one (.same rfl)) (.nil)) rfl rfl) ?_
 conv => whnf
 cases h
 exact ⟨rfl, rfl⟩
noncomputable def slices_IndexFunc_File__disk_at_1_l4 (s : (List File)) (v : Str) (a164 : Int) : Option ((Int) ⊕ ((Int) ⊕ (Unit))) :=
 if (decide (a164 < (s.length : Int))) then
  (ix s a164).bind fun x179 =>
  (disk_at_1 x179 v).bind fun y181 =>
  if y181 then
   some (.inr (.inl a164))
  else
   some (.inl (IntKind.i64.wrap (a164 + 1)))
 else
  some (.inr (.inr ()))
noncomputable def slices_IndexFunc_File__disk_at_1 (s : (List File)) (v : Str) : Option (Int) :=
 (loop (fun (s169 : Int) => slices_IndexFunc_File__disk_at_1_l4 s v s169) (0 : Int)).bind fun (y165 : (Int) ⊕ (Unit)) =>
 match y165 with
 | (.inl v167) =>
  some v167
 | (.inr v168) =>
  some (-1)
def gm_slices_IndexFunc_File__disk_at_1 : Gm := ⟨tys, [165], [], []⟩
theorem slices_IndexFunc_File__disk_at_1_walk (s : (List File)) (v : Str) (r : Int) (h : slices_IndexFunc_File__disk_at_1 s v = some r) : CallP Tryz.prog 164 [.var 9 [.v (.string (bs v))]] [.sl (List.map encFile s), .fn (.func 165) [] [.ptr 0 0]] (fun a H' => a = .v (.int .i64 r) ∧ H'.take ([.var 9 [.v (.string (bs v))]] : List Ob).length = [.var 9 [.v (.string (bs v))]]) := by
 unfold slices_IndexFunc_File__disk_at_1 at h
 refine callW (G := gm_slices_IndexFunc_File__disk_at_1) tyOk Tryz.func164 rfl (by kernel_rfl) (by simp [Tryz.f164]) ?_
 refine Tri.seqK ?_
 refine Tri.run (G := gm_slices_IndexFunc_File__disk_at_1) tyOk mixed ?_
 conv => whnf
 refine Tri.seqK ?_
 refine Tri.seqK ?_
 refine Tri.run (G := gm_slices_IndexFunc_File__disk_at_1) tyOk mixed ?_
 conv => whnf
 refine ⟨⟨(s.length : Int), (len_map _ _).symm, ?_⟩⟩
 conv => whnf
 refine Tri.block ?_
 replace h := bind_some h
 obtain ⟨y165, q166, h⟩ := h
 refine Tri.cut (fun ex S' => (∃ v167 : Int, y165 = (.inl v167) ∧ ex = .ret ∧ Weak S' ⟨19, 1, ofRegs [(4, .v (.int .i64 v167))], [.var 9 [.v (.string (bs v))]]⟩) ∨ (∃ v168 : Unit, y165 = (.inr v168) ∧ ex = (.exit 0) ∧ Weak S' ⟨19, 1, ofRegs [], [.var 9 [.v (.string (bs v))]]⟩)) ?_ ?_
 ·refine Tri.loopF (fun (s169 : Int) => (⟨19, 1, ofRegs [(0, .sl (List.map encFile s)), (1, .fn (.func 165) [] [.ptr 0 0]), (7, .v (.int .i64 (s.length : Int))), (8, .v (.int .i64 s169))], [.var 9 [.v (.string (bs v))]]⟩ : St)) q166 (weak_fin _ rfl rfl rfl (.cons (.same rfl) (LeH.rest)) (.cons (.one (.same rfl)) (.cons (.one (.same rfl)) (.cons (.one (.same rfl)) (.cons (.one (.same rfl)) (.nil))))) rfl rfl) ?_
  rintro a164 v170 hv r171
  have hv : slices_IndexFunc_File__disk_at_1_l4 s v a164 = some v170 := hv
  unfold slices_IndexFunc_File__disk_at_1_l4 at hv
  refine Tri.seqK ?_
  refine Tri.run (G := gm_slices_IndexFunc_File__disk_at_1) tyOk mixed ?_
  conv => whnf
  refine Tri.seqK ?_
  refine Tri.cond rfl (fun c173 => ?_) (fun c173 => ?_)
  ·replace hv := if_t c173 hv
   refine Tri.run (G := gm_slices_IndexFunc_File__disk_at_1) tyOk mixed ?_
   conv => whnf
   refine Tri.seqK ?_
   refine Tri.block ?_
   refine Tri.seqK ?_
   refine Tri.run (G := gm_slices_IndexFunc_File__disk_at_1) tyOk mixed ?_
   conv => whnf
   refine Tri.seqK ?_
   refine Tri.run (G := gm_slices_IndexFunc_File__disk_at_1) tyOk mixed ?_
   conv => whnf
   replace hv := bind_some hv
   obtain ⟨x179, q180, hv⟩ := hv
   refine ⟨(ix_some q180).1, ?_⟩
   conv => whnf
   refine ⟨⟨_, map_get encFile (ix_some q180).2, ?_⟩⟩
   conv => whnf
   refine ⟨rfl, ?_⟩
   conv => whnf
   replace hv := bind_some hv
   obtain ⟨y181, q182, hv⟩ := hv
   refine CallP.use (disk_at_1_walk x179 v y181 q182) [0] rfl rfl rfl rfl rfl rfl rfl rfl rfl ?_
   conv => whnf
   refine Tri.cond rfl (fun c183 => ?_) (fun c183 => ?_)
   ·replace hv := if_t c183 hv
    refine Tri.seqK ?_
    refine Tri.run (G := gm_slices_IndexFunc_File__disk_at_1) tyOk mixed ?_
    conv => whnf
    refine Tri.run (G := gm_slices_IndexFunc_File__disk_at_1) tyOk mixed ?_
    conv => whnf
    cases hv
    obtain rfl := r171 _ rfl
    exact Or.inl ⟨_, rfl, rfl, weak_fin _ rfl rfl rfl (.cons (.same rfl) (LeH.rest)) (.cons (.one (.same rfl)) (.nil)) rfl rfl⟩
   ·replace hv := if_f c183 hv
    refine Tri.run (G := gm_slices_IndexFunc_File__disk_at_1) tyOk mixed ?_
    conv => whnf
    refine Tri.run (G := gm_slices_IndexFunc_File__disk_at_1) tyOk mixed ?_
    conv => whnf
    cases hv
    exact ⟨_, rfl, weak_fin _ rfl rfl rfl (.cons (.same rfl) (LeH.rest)) (.cons (.one (.same rfl)) (.cons (.one (.same rfl)) (.cons (.one (.same rfl)) (.cons (.one (.same rfl)) (.nil))))) rfl rfl⟩
  ·replace hv := if_f c173 hv
   refine Tri.run (G := gm_slices_IndexFunc_File__disk_at_1) tyOk mixed ?_
   conv => whnf
   cases hv
   obtain rfl := r171 _ rfl
   exact Or.inr (⟨_, rfl, rfl, weak_fin _ rfl rfl rfl (.cons (.same rfl) (LeH.rest)) (.nil) rfl rfl⟩)
 ·rintro ex S' (⟨v167, rfl, rfl, w184⟩ | ⟨v168, rfl, rfl, w184⟩)
  ·dsimp only at h
   conv => whnf
   refine fin_pre (S' := ⟨19, 1, ofRegs [(4, .v (.int .i64 v167))], [.var 9 [.v (.string (bs v))]]⟩) (Weak.trans w184 (weak_fin _ rfl rfl rfl (.cons (.same rfl) (LeH.rest)) (.cons (.one (.same rfl)) (.nil)) rfl rfl)) ?_
   conv => whnf
   cases h
   exact ⟨rfl, rfl⟩
  ·dsimp only at h
   conv => whnf
   refine Tri.weak w184 ?_
   refine Tri.seqK ?_
   refine Tri.run (G := gm_slices_IndexFunc_File__disk_at_1) tyOk mixed ?_
   conv => whnf
   refine Tri.run (G := gm_slices_IndexFunc_File__disk_at_1) tyOk mixed ?_
   conv => whnf
   refine fin_pre (S' := ⟨19, 1, ofRegs [(4, .v (.int .i64 (-1)))], [.var 9 [.v (.string (bs v))]]⟩) (weak_fin _ rfl rfl rfl (.cons (.same rfl) (LeH.rest)) (.cons (.one (.same rfl)) (.nil)) rfl rfl) ?_
   conv => whnf
   cases h
   exact ⟨rfl, rfl⟩
noncomputable def disk_at (d : Disk) (name : Str) : Option (Int) :=
 (slices_IndexFunc_File__disk_at_1 d.Files name).bind fun y1 =>
 some y1
def gm_disk_at : Gm := ⟨tys, [164], [], []⟩
theorem disk_at_walk (d : Disk) (name : Str) (r : Int) (h : disk_at d name = some r) : PureP Tryz.prog 132 [.agg [.sl (List.map encFile d.Files), .v (.int .i64 d.Room), .v (.int .i64 d.Fuse), .v (.bool d.Off)], .v (.string (bs name))] (fun a => a = .v (.int .i64 r)) := by
 unfold disk_at at h
 refine pureW (G := gm_disk_at) tyOk Tryz.func132 rfl (by kernel_rfl) (by simp [Tryz.f132]) ?_
 refine Tri.seqK ?_
 refine Tri.run (G := gm_disk_at) tyOk mixed ?_
 conv => whnf
 refine Tri.seqK ?_
 refine Tri.run (G := gm_disk_at) tyOk mixed ?_
 conv => whnf
 replace h := bind_some h
 obtain ⟨y1, q2, h⟩ := h
 refine CallP.use (slices_IndexFunc_File__disk_at_1_walk d.Files name y1 q2) [1] rfl rfl rfl rfl rfl rfl rfl rfl rfl ?_
 conv => whnf
 refine Tri.run (G := gm_disk_at) tyOk mixed ?_
 conv => whnf
 refine fin_here ?_
 conv => whnf
 cases h
 rfl
noncomputable def disk_Find (d : Disk) (name : Str) : Option (File × Bool) :=
 (disk_at d name).bind fun y1 =>
 if (decide (y1 < 0)) then
  some (({ Name := [], Safe := [], Wait := [] } : File), false)
 else
  (ix d.Files y1).bind fun x5 =>
  some (x5, true)
def gm_disk_Find : Gm := ⟨tys, [], [], []⟩
theorem disk_Find_walk (d : Disk) (name : Str) (r : File × Bool) (h : disk_Find d name = some r) : PureP Tryz.prog 86 [.agg [.sl (List.map encFile d.Files), .v (.int .i64 d.Room), .v (.int .i64 d.Fuse), .v (.bool d.Off)], .v (.string (bs name))] (fun a => a = .tup [.agg [.v (.string (bs r.1.Name)), .v (.string (bs r.1.Safe)), .v (.string (bs r.1.Wait))], .v (.bool r.2)]) := by
 unfold disk_Find at h
 refine pureW (G := gm_disk_Find) tyOk Tryz.func86 rfl (by kernel_rfl) (by simp [Tryz.f86]) ?_
 refine Tri.seqK ?_
 refine Tri.run (G := gm_disk_Find) tyOk mixed ?_
 conv => whnf
 refine Tri.seqK ?_
 refine Tri.run (G := gm_disk_Find) tyOk mixed ?_
 conv => whnf
 replace h := bind_some h
 obtain ⟨y1, q2, h⟩ := h
 refine PureP.mono (disk_at_walk d name y1 q2) ?_
 rintro _ rfl
 conv => whnf
 refine Tri.seqK ?_
 refine Tri.seqK ?_
 refine Tri.run (G := gm_disk_Find) tyOk mixed ?_
 conv => whnf
 refine Tri.cond rfl (fun c4 => ?_) (fun c4 => ?_)
 ·replace h := if_t c4 h
  refine Tri.seqK ?_
  refine Tri.run (G := gm_disk_Find) tyOk mixed ?_
  conv => whnf
  refine Tri.run (G := gm_disk_Find) tyOk mixed ?_
  conv => whnf
  refine fin_here ?_
  conv => whnf
  cases h
  rfl
 ·replace h := if_f c4 h
  refine Tri.run (G := gm_disk_Find) tyOk mixed ?_
  conv => whnf
  refine Tri.seqK ?_
  refine Tri.run (G := gm_disk_Find) tyOk mixed ?_
  conv => whnf
  replace h := bind_some h
  obtain ⟨x5, q6, h⟩ := h
  refine ⟨(ix_some q6).1, ?_⟩
  conv => whnf
  refine ⟨⟨_, map_get encFile (ix_some q6).2, ?_⟩⟩
  conv => whnf
  refine ⟨rfl, ?_⟩
  conv => whnf
  refine Tri.run (G := gm_disk_Find) tyOk mixed ?_
  conv => whnf
  refine fin_here ?_
  conv => whnf
  cases h
  rfl
noncomputable def disk_Read (d : Disk) (name : Str) : Option (Str × Int) :=
 (disk_Find d name).bind fun y1 =>
 if (!y1.2) then
  some ([], 7)
 else
  need (y1.1.Safe.length + y1.1.Wait.length ≤ 9223372036854775807) <|
  some ((y1.1.Safe ++ y1.1.Wait), 0)
def gm_disk_Read : Gm := ⟨tys, [], [], []⟩
theorem disk_Read_walk (d : Disk) (name : Str) (r : Str × Int) (h : disk_Read d name = some r) : PureP Tryz.prog 36 [.agg [.sl (List.map encFile d.Files), .v (.int .i64 d.Room), .v (.int .i64 d.Fuse), .v (.bool d.Off)], .v (.string (bs name))] (fun a => a = .tup [.v (.string (bs r.1)), .v (.int .i64 r.2)]) := by
 unfold disk_Read at h
 refine pureW (G := gm_disk_Read) tyOk Tryz.func36 rfl (by kernel_rfl) (by simp [Tryz.f36]) ?_
 refine Tri.seqK ?_
 refine Tri.run (G := gm_disk_Read) tyOk mixed ?_
 conv => whnf
 refine Tri.seqK ?_
 refine Tri.run (G := gm_disk_Read) tyOk mixed ?_
 conv => whnf
 replace h := bind_some h
 obtain ⟨y1, q2, h⟩ := h
 refine PureP.mono (disk_Find_walk d name y1 q2) ?_
 rintro _ rfl
 conv => whnf
 refine Tri.seqK ?_
 refine Tri.seqK ?_
 refine Tri.run (G := gm_disk_Read) tyOk mixed ?_
 conv => whnf
 refine Tri.cond rfl (fun c4 => ?_) (fun c4 => ?_)
 ·replace h := if_t c4 h
  refine Tri.seqK ?_
  refine Tri.run (G := gm_disk_Read) tyOk mixed ?_
  conv => whnf
  refine Tri.run (G := gm_disk_Read) tyOk mixed ?_
  conv => whnf
  refine fin_here ?_
  conv => whnf
  cases h
  rfl
 ·replace h := if_f c4 h
  refine Tri.run (G := gm_disk_Read) tyOk mixed ?_
  conv => whnf
  refine Tri.seqK ?_
  refine Tri.run (G := gm_disk_Read) tyOk mixed ?_
  conv => whnf
  replace h := need_some h
  obtain ⟨p5, h⟩ := h
  refine ⟨p5, ?_⟩
  conv => whnf
  refine ⟨⟨bs (y1.1.Safe ++ y1.1.Wait), bs_append _ _, ?_⟩⟩
  conv => whnf
  refine Tri.run (G := gm_disk_Read) tyOk mixed ?_
  conv => whnf
  refine fin_here ?_
  conv => whnf
  cases h
  rfl
noncomputable def dec_told_l2 (s : Str) (a65 : Int) (a66 : Int) : Option ((Int × Int) ⊕ ((Unit) ⊕ (Int))) :=
 if (decide (a66 < (s.length : Int))) then
  (ix s a66).bind fun x80 =>
  if (decide (a65 > (IntKind.u64.wrap (Int.tdiv (IntKind.u64.wrap (18446744073709551615 - (IntKind.u64.wrap (IntKind.u8.wrap ((x80.toNat : Int) - 48))))) 10)))) then
   some (.inr (.inl ()))
  else
   some (.inl ((IntKind.u64.wrap ((IntKind.u64.wrap (10 * a65)) + (IntKind.u64.wrap (IntKind.u8.wrap ((x80.toNat : Int) - 48))))), (IntKind.i64.wrap (a66 + 1))))
 else
  some (.inr (.inr a65))
noncomputable def dec_told (s : Str) : Option (Int × Bool) :=
 (loop (fun (s71 : Int × Int) => dec_told_l2 s s71.1 s71.2) ((0 : Int), (0 : Int))).bind fun (y67 : (Unit) ⊕ (Int)) =>
 match y67 with
 | (.inl v69) =>
  some (0, false)
 | (.inr v70) =>
  some (v70, true)
def gm_dec_told : Gm := ⟨tys, [], [], []⟩
theorem dec_told_walk (s : Str) (r : Int × Bool) (h : dec_told s = some r) : PureP Tryz.prog 116 [.v (.string (bs s))] (fun a => a = .tup [.v (.int .u64 r.1), .v (.bool r.2)]) := by
 unfold dec_told at h
 refine pureW (G := gm_dec_told) tyOk Tryz.func116 rfl (by kernel_rfl) (by simp [Tryz.f116]) ?_
 refine Tri.seqK ?_
 refine Tri.run (G := gm_dec_told) tyOk mixed ?_
 conv => whnf
 refine Tri.seqK ?_
 refine Tri.run (G := gm_dec_told) tyOk mixed ?_
 conv => whnf
 refine Tri.seqK ?_
 refine Tri.seqK ?_
 refine Tri.run (G := gm_dec_told) tyOk mixed ?_
 conv => whnf
 refine ⟨⟨(s.length : Int), rfl, ?_⟩⟩
 conv => whnf
 refine Tri.block ?_
 replace h := bind_some h
 obtain ⟨y67, q68, h⟩ := h
 refine Tri.cut (fun ex S' => (∃ v69 : Unit, y67 = (.inl v69) ∧ ex = .ret ∧ Weak S' ⟨28, 0, ofRegs [(2, .v (.int .u64 0)), (3, .v (.bool false))], []⟩) ∨ (∃ v70 : Int, y67 = (.inr v70) ∧ ex = (.exit 0) ∧ Weak S' ⟨28, 0, ofRegs [(4, .v (.int .u64 v70))], []⟩)) ?_ ?_
 ·refine Tri.loopF (fun (s71 : Int × Int) => (⟨28, 0, ofRegs [(0, .v (.string (bs s))), (4, .v (.int .u64 s71.1)), (8, .v (.int .i64 (s.length : Int))), (9, .v (.int .i64 s71.2))], []⟩ : St)) q68 (weak_fin _ rfl rfl rfl (LeH.rest) (.cons (.one (.same rfl)) (.cons (.one (.same rfl)) (.cons (.one (.same rfl)) (.cons (.one (.same rfl)) (.nil))))) rfl rfl) ?_
  rintro ⟨a65, a66⟩ v72 hv r73
  have hv : dec_told_l2 s a65 a66 = some v72 := hv
  unfold dec_told_l2 at hv
  dsimp only
  refine Tri.seqK ?_
  refine Tri.run (G := gm_dec_told) tyOk mixed ?_
  conv => whnf
  refine Tri.seqK ?_
  refine Tri.cond rfl (fun c75 => ?_) (fun c75 => ?_)
  ·replace hv := if_t c75 hv
   refine Tri.run (G := gm_dec_told) tyOk mixed ?_
   conv => whnf
   refine Tri.seqK ?_
   refine Tri.block ?_
   refine Tri.seqK ?_
   refine Tri.run (G := gm_dec_told) tyOk mixed ?_
   conv => whnf
   refine Tri.seqK ?_
   refine Tri.run (G := gm_dec_told) tyOk mixed ?_
   conv => whnf
   replace hv := bind_some hv
   obtain ⟨x80, q81, hv⟩ := hv
   refine ⟨bs_bound q81, ?_⟩
   conv => whnf
   refine ⟨⟨(x80.toNat : Int), bs_at q81, ?_⟩⟩
   conv => whnf
   refine ⟨⟨(IntKind.u64.wrap (IntKind.u8.wrap ((x80.toNat : Int) - 48))), rfl, ?_⟩⟩
   conv => whnf
   refine Tri.seqK ?_
   refine Tri.seqK ?_
   refine Tri.run (G := gm_dec_told) tyOk mixed ?_
   conv => whnf
   refine ⟨by decide, ?_⟩
   conv => whnf
   refine Tri.cond rfl (fun c83 => ?_) (fun c83 => ?_)
   ·replace hv := if_t c83 hv
    refine Tri.seqK ?_
    refine Tri.run (G := gm_dec_told) tyOk mixed ?_
    conv => whnf
    refine Tri.run (G := gm_dec_told) tyOk mixed ?_
    conv => whnf
    cases hv
    obtain rfl := r73 _ rfl
    exact Or.inl ⟨_, rfl, rfl, weak_fin _ rfl rfl rfl (LeH.rest) (.cons (.one (.same rfl)) (.cons (.one (.same rfl)) (.nil))) rfl rfl⟩
   ·replace hv := if_f c83 hv
    refine Tri.run (G := gm_dec_told) tyOk mixed ?_
    conv => whnf
    refine Tri.run (G := gm_dec_told) tyOk mixed ?_
    conv => whnf
    refine Tri.run (G := gm_dec_told) tyOk mixed ?_
    conv => whnf
    cases hv
    exact ⟨_, rfl, weak_fin _ rfl rfl rfl (LeH.rest) (.cons (.one (.same rfl)) (.cons (.one (.same rfl)) (.cons (.one (.same rfl)) (.cons (.one (.same rfl)) (.nil))))) rfl rfl⟩
  ·replace hv := if_f c75 hv
   refine Tri.run (G := gm_dec_told) tyOk mixed ?_
   conv => whnf
   cases hv
   obtain rfl := r73 _ rfl
   exact Or.inr (⟨_, rfl, rfl, weak_fin _ rfl rfl rfl (LeH.rest) (.cons (.one (.same rfl)) (.nil)) rfl rfl⟩)
 ·rintro ex S' (⟨v69, rfl, rfl, w84⟩ | ⟨v70, rfl, rfl, w84⟩)
  ·dsimp only at h
   conv => whnf
   refine fin_pre w84 ?_
   conv => whnf
   cases h
   rfl
  ·dsimp only at h
   conv => whnf
   refine Tri.weak w84 ?_
   refine Tri.seqK ?_
   refine Tri.run (G := gm_dec_told) tyOk mixed ?_
   conv => whnf
   refine Tri.run (G := gm_dec_told) tyOk mixed ?_
   conv => whnf
   refine fin_here ?_
   conv => whnf
   cases h
   rfl
noncomputable def dec_TakeNum_l2 (s : Str) (a150 : Int) : Option ((Int) ⊕ (Int)) :=
 if (decide (a150 < (s.length : Int))) then
  (
   (ix s a150).bind fun x179 =>
   if (decide ((x179.toNat : Int) < 48)) then
    some true
   else
    some (decide ((x179.toNat : Int) > 57))).bind fun (y177 : Bool) =>
  if y177 then
   some (.inr a150)
  else
   some (.inl (IntKind.i64.wrap (a150 + 1)))
 else
  some (.inr a150)
noncomputable def dec_TakeNum (s : Str) : Option (Int × Str × Int) :=
 (loop (fun (s153 : Int) => dec_TakeNum_l2 s s153) (0 : Int)).bind fun (y151 : Int) =>
 if (decide (y151 > 20)) then
  some (0, [], 3)
 else
  need ((0 : Int) ≤ (0 : Int) ∧ 0 ≤ y151 ∧ y151 ≤ (s.length : Int)) <|
  (dec_told (cut s 0 y151)).bind fun y188 =>
  (
   (
    if (decide (y151 > 1)) then
     (ix s 0).bind fun x906 =>
     some (decide ((x906.toNat : Int) = 48))
    else
     some false).bind fun (y903 : Bool) =>
   if y903 then
    some (.inl ())
   else
    if (!y188.2) then
     some (.inl ())
    else
     (
      if (decide (y151 < (s.length : Int))) then
       if (decide (y151 = 0)) then
        some true
       else
        (ix s y151).bind fun x940 =>
        some (!(decide ((x940.toNat : Int) = 59)))
      else
       some false).bind fun (y936 : Bool) =>
     if y936 then
      some (.inl ())
     else
      if (decide (y151 = (s.length : Int))) then
       some (.inr (.inl ()))
      else
       some (.inr (.inr ()))).bind fun (y879 : (Unit) ⊕ (Unit) ⊕ (Unit)) =>
  match y879 with
  | (.inl v881) =>
   some (0, [], 3)
  | (.inr (.inl v882)) =>
   some (0, [], 2)
  | (.inr (.inr v883)) =>
   need ((0 : Int) ≤ (IntKind.i64.wrap (y151 + 1)) ∧ (IntKind.i64.wrap (y151 + 1)) ≤ (s.length : Int) ∧ (s.length : Int) ≤ (s.length : Int)) <|
   some (y188.1, (cut s (IntKind.i64.wrap (y151 + 1)) (s.length : Int)), 0)
def gm_dec_TakeNum : Gm := ⟨tys, [], [], []⟩
theorem dec_TakeNum_walk (s : Str) (r : Int × Str × Int) (h : dec_TakeNum s = some r) : PureP Tryz.prog 60 [.v (.string (bs s))] (fun a => a = .tup [.v (.int .u64 r.1), .v (.string (bs r.2.1)), .v (.int .i64 r.2.2)]) := by
 unfold dec_TakeNum at h
 refine pureW (G := gm_dec_TakeNum) tyOk Tryz.func60 rfl (by kernel_rfl) (by simp [Tryz.f60]) ?_
 refine Tri.seqK ?_
 refine Tri.run (G := gm_dec_TakeNum) tyOk mixed ?_
 conv => whnf
 refine Tri.scope ?_
 refine Tri.seqK ?_
 refine Tri.run (G := gm_dec_TakeNum) tyOk mixed ?_
 conv => whnf
 refine Tri.seqK ?_
 refine Tri.run (G := gm_dec_TakeNum) tyOk mixed ?_
 conv => whnf
 refine Tri.seqK ?_
 refine Tri.block ?_
 replace h := bind_some h
 obtain ⟨y151, q152, h⟩ := h
 refine Tri.cut (fun ex S' => ex = (.exit 0) ∧ Weak S' ⟨68, 0, ofRegs [(0, .v (.string (bs s))), (5, .v (.int .i64 y151))], []⟩) ?_ ?_
 ·refine Tri.loopF (fun (s153 : Int) => (⟨68, 0, ofRegs [(0, .v (.string (bs s))), (5, .v (.int .i64 s153))], []⟩ : St)) q152 (weak_fin _ rfl rfl rfl (LeH.rest) (.cons (.one (.same rfl)) (.cons (.one (.same rfl)) (.nil))) rfl rfl) ?_
  rintro a150 v154 hv r155
  have hv : dec_TakeNum_l2 s a150 = some v154 := hv
  unfold dec_TakeNum_l2 at hv
  refine Tri.seqK ?_
  refine Tri.seqK ?_
  refine Tri.run (G := gm_dec_TakeNum) tyOk mixed ?_
  conv => whnf
  refine ⟨⟨(s.length : Int), rfl, ?_⟩⟩
  conv => whnf
  refine Tri.cond rfl (fun c157 => ?_) (fun c157 => ?_)
  ·replace hv := if_t c157 hv
   refine Tri.run (G := gm_dec_TakeNum) tyOk mixed ?_
   conv => whnf
   refine Tri.seqK ?_
   refine Tri.block ?_
   refine Tri.block ?_
   refine Tri.seqK ?_
   replace hv := bind_some hv
   obtain ⟨y177, q178, hv⟩ := hv
   refine Tri.cut (fun ex S' => ex = .normal ∧ Weak S' ⟨68, 0, ofRegs [(0, .v (.string (bs s))), (5, .v (.int .i64 a150)), (14, .v (.bool y177))], []⟩) ?_ ?_
   ·refine Tri.seqK ?_
    refine Tri.run (G := gm_dec_TakeNum) tyOk mixed ?_
    conv => whnf
    replace q178 := bind_some q178
    obtain ⟨x179, q180, q178⟩ := q178
    refine ⟨bs_bound q180, ?_⟩
    conv => whnf
    refine ⟨⟨(x179.toNat : Int), bs_at q180, ?_⟩⟩
    conv => whnf
    refine Tri.cond rfl (fun c181 => ?_) (fun c181 => ?_)
    ·replace q178 := if_t c181 q178
     refine Tri.run (G := gm_dec_TakeNum) tyOk mixed ?_
     conv => whnf
     cases q178
     exact ⟨rfl, weak_fin _ rfl rfl rfl (LeH.rest) (.cons (.one (.same rfl)) (.cons (.one (.same rfl)) (.cons (.one (.same rfl)) (.nil)))) rfl rfl⟩
    ·replace q178 := if_f c181 q178
     refine Tri.run (G := gm_dec_TakeNum) tyOk mixed ?_
     conv => whnf
     refine ⟨bs_bound q180, ?_⟩
     conv => whnf
     refine ⟨⟨(x179.toNat : Int), bs_at q180, ?_⟩⟩
     conv => whnf
     cases q178
     exact ⟨rfl, weak_fin _ rfl rfl rfl (LeH.rest) (.cons (.one (.same rfl)) (.cons (.one (.same rfl)) (.cons (.one (.same rfl)) (.nil)))) rfl rfl⟩
   ·rintro ex S' ⟨rfl, w182⟩
    conv => whnf
    refine Tri.weak w182 ?_
    refine Tri.cond rfl (fun c183 => ?_) (fun c183 => ?_)
    ·replace hv := if_t c183 hv
     refine Tri.run (G := gm_dec_TakeNum) tyOk mixed ?_
     conv => whnf
     cases hv
     obtain rfl := r155 _ rfl
     exact ⟨rfl, weak_fin _ rfl rfl rfl (LeH.rest) (.cons (.one (.same rfl)) (.cons (.one (.same rfl)) (.nil))) rfl rfl⟩
    ·replace hv := if_f c183 hv
     refine Tri.run (G := gm_dec_TakeNum) tyOk mixed ?_
     conv => whnf
     refine Tri.run (G := gm_dec_TakeNum) tyOk mixed ?_
     conv => whnf
     cases hv
     exact ⟨_, rfl, weak_fin _ rfl rfl rfl (LeH.rest) (.cons (.one (.same rfl)) (.cons (.one (.same rfl)) (.nil))) rfl rfl⟩
  ·replace hv := if_f c157 hv
   refine Tri.run (G := gm_dec_TakeNum) tyOk mixed ?_
   conv => whnf
   cases hv
   obtain rfl := r155 _ rfl
   exact ⟨rfl, weak_fin _ rfl rfl rfl (LeH.rest) (.cons (.one (.same rfl)) (.cons (.one (.same rfl)) (.nil))) rfl rfl⟩
 ·rintro ex S' ⟨rfl, w184⟩
  conv => whnf
  refine Tri.weak w184 ?_
  refine Tri.seqK ?_
  refine Tri.seqK ?_
  refine Tri.run (G := gm_dec_TakeNum) tyOk mixed ?_
  conv => whnf
  refine Tri.cond rfl (fun c186 => ?_) (fun c186 => ?_)
  ·replace h := if_t c186 h
   refine Tri.seqK ?_
   refine Tri.run (G := gm_dec_TakeNum) tyOk mixed ?_
   conv => whnf
   refine Tri.run (G := gm_dec_TakeNum) tyOk mixed ?_
   conv => whnf
   refine fin_here ?_
   conv => whnf
   cases h
   rfl
  ·replace h := if_f c186 h
   refine Tri.run (G := gm_dec_TakeNum) tyOk mixed ?_
   conv => whnf
   refine Tri.seqK ?_
   refine Tri.run (G := gm_dec_TakeNum) tyOk mixed ?_
   conv => whnf
   replace h := need_some h
   obtain ⟨p187, h⟩ := h
   refine ⟨p187, ?_⟩
   conv => whnf
   refine ⟨⟨bs (cut s 0 y151), bs_cut _ _ _, ?_⟩⟩
   conv => whnf
   replace h := bind_some h
   obtain ⟨y188, q189, h⟩ := h
   refine PureP.mono (dec_told_walk (cut s 0 y151) y188 q189) ?_
   rintro _ rfl
   conv => whnf
   refine Tri.seqK ?_
   refine Tri.block ?_
   refine Tri.seqK ?_
   refine Tri.block ?_
   refine Tri.seqK ?_
   replace h := bind_some h
   obtain ⟨y879, q880, h⟩ := h
   refine Tri.cut (fun ex S' => (∃ v881 : Unit, y879 = (.inl v881) ∧ ex = .normal ∧ Weak S' ⟨68, 0, ofRegs [], []⟩) ∨ (∃ v882 : Unit, y879 = (.inr (.inl v882)) ∧ ex = (.exit 7) ∧ Weak S' ⟨68, 0, ofRegs [], []⟩) ∨ (∃ v883 : Unit, y879 = (.inr (.inr v883)) ∧ ex = (.exit 3) ∧ Weak S' ⟨68, 0, ofRegs [(0, .v (.string (bs s))), (5, .v (.int .i64 y151)), (6, .v (.int .u64 y188.1))], []⟩)) ?_ ?_
   ·refine Tri.block ?_
    refine Tri.block ?_
    refine Tri.block ?_
    refine Tri.seqK ?_
    refine Tri.seqK ?_
    refine Tri.seqK ?_
    replace q880 := bind_some q880
    obtain ⟨y903, q904, q880⟩ := q880
    refine Tri.cut (fun ex S' => ex = .normal ∧ Weak S' ⟨68, 0, ofRegs [(0, .v (.string (bs s))), (5, .v (.int .i64 y151)), (6, .v (.int .u64 y188.1)), (7, .v (.bool y188.2)), (32, .v (.bool y903))], []⟩) ?_ ?_
    ·refine Tri.run (G := gm_dec_TakeNum) tyOk mixed ?_
     conv => whnf
     refine cond_mk (fun c905 => ?_) (fun c905 => ?_)
     ·replace q904 := if_t c905 q904
      conv => whnf
      replace q904 := bind_some q904
      obtain ⟨x906, q907, q904⟩ := q904
      refine ⟨bs_bound q907, ?_⟩
      conv => whnf
      refine ⟨⟨(x906.toNat : Int), bs_at q907, ?_⟩⟩
      conv => whnf
      cases q904
      exact ⟨rfl, weak_fin _ rfl rfl rfl (LeH.rest) (.cons (.one (.same rfl)) (.cons (.one (.same rfl)) (.cons (.one (.same rfl)) (.cons (.one (.same rfl)) (.cons (.one (.same rfl)) (.nil)))))) rfl rfl⟩
     ·replace q904 := if_f c905 q904
      conv => whnf
      cases q904
      exact ⟨rfl, weak_fin _ rfl rfl rfl (LeH.rest) (.cons (.one (.same rfl)) (.cons (.one (.same rfl)) (.cons (.one (.same rfl)) (.cons (.one (.same rfl)) (.cons (.one (.same rfl)) (.nil)))))) rfl rfl⟩
    ·rintro ex S' ⟨rfl, w908⟩
     conv => whnf
     refine Tri.weak w908 ?_
     refine Tri.cond rfl (fun c909 => ?_) (fun c909 => ?_)
     ·replace q880 := if_t c909 q880
      refine Tri.run (G := gm_dec_TakeNum) tyOk mixed ?_
      conv => whnf
      cases q880
      exact Or.inl ⟨_, rfl, rfl, weak_fin _ rfl rfl rfl (LeH.rest) (.nil) rfl rfl⟩
     ·replace q880 := if_f c909 q880
      refine Tri.run (G := gm_dec_TakeNum) tyOk mixed ?_
      conv => whnf
      refine Tri.seqK ?_
      refine Tri.seqK ?_
      refine Tri.run (G := gm_dec_TakeNum) tyOk mixed ?_
      conv => whnf
      refine Tri.cond rfl (fun c911 => ?_) (fun c911 => ?_)
      ·replace q880 := if_t c911 q880
       refine Tri.run (G := gm_dec_TakeNum) tyOk mixed ?_
       conv => whnf
       cases q880
       exact Or.inl ⟨_, rfl, rfl, weak_fin _ rfl rfl rfl (LeH.rest) (.nil) rfl rfl⟩
      ·replace q880 := if_f c911 q880
       refine Tri.run (G := gm_dec_TakeNum) tyOk mixed ?_
       conv => whnf
       refine Tri.seqK ?_
       refine Tri.seqK ?_
       replace q880 := bind_some q880
       obtain ⟨y936, q937, q880⟩ := q880
       refine Tri.cut (fun ex S' => ex = .normal ∧ Weak S' ⟨68, 0, ofRegs [(0, .v (.string (bs s))), (5, .v (.int .i64 y151)), (6, .v (.int .u64 y188.1)), (43, .v (.bool y936))], []⟩) ?_ ?_
       ·refine Tri.run (G := gm_dec_TakeNum) tyOk mixed ?_
        conv => whnf
        refine ⟨⟨(s.length : Int), rfl, ?_⟩⟩
        conv => whnf
        refine cond_mk (fun c938 => ?_) (fun c938 => ?_)
        ·replace q937 := if_t c938 q937
         conv => whnf
         refine cond_mk (fun c939 => ?_) (fun c939 => ?_)
         ·replace q937 := if_t c939 q937
          conv => whnf
          cases q937
          exact ⟨rfl, weak_fin _ rfl rfl rfl (LeH.rest) (.cons (.one (.same rfl)) (.cons (.one (.same rfl)) (.cons (.one (.same rfl)) (.cons (.one (.same rfl)) (.nil))))) rfl rfl⟩
         ·replace q937 := if_f c939 q937
          conv => whnf
          replace q937 := bind_some q937
          obtain ⟨x940, q941, q937⟩ := q937
          refine ⟨bs_bound q941, ?_⟩
          conv => whnf
          refine ⟨⟨(x940.toNat : Int), bs_at q941, ?_⟩⟩
          conv => whnf
          cases q937
          exact ⟨rfl, weak_fin _ rfl rfl rfl (LeH.rest) (.cons (.one (.same rfl)) (.cons (.one (.same rfl)) (.cons (.one (.same rfl)) (.cons (.one (.same rfl)) (.nil))))) rfl rfl⟩
        ·replace q937 := if_f c938 q937
         conv => whnf
         cases q937
         exact ⟨rfl, weak_fin _ rfl rfl rfl (LeH.rest) (.cons (.one (.same rfl)) (.cons (.one (.same rfl)) (.cons (.one (.same rfl)) (.cons (.one (.same rfl)) (.nil))))) rfl rfl⟩
       ·rintro ex S' ⟨rfl, w942⟩
        conv => whnf
        refine Tri.weak w942 ?_
        refine Tri.cond rfl (fun c943 => ?_) (fun c943 => ?_)
        ·replace q880 := if_t c943 q880
         refine Tri.run (G := gm_dec_TakeNum) tyOk mixed ?_
         conv => whnf
         cases q880
         exact Or.inl ⟨_, rfl, rfl, weak_fin _ rfl rfl rfl (LeH.rest) (.nil) rfl rfl⟩
        ·replace q880 := if_f c943 q880
         refine Tri.run (G := gm_dec_TakeNum) tyOk mixed ?_
         conv => whnf
         refine Tri.seqK ?_
         refine Tri.run (G := gm_dec_TakeNum) tyOk mixed ?_
         conv => whnf
         refine ⟨⟨(s.length : Int), rfl, ?_⟩⟩
         conv => whnf
         refine Tri.cond rfl (fun c944 => ?_) (fun c944 => ?_)
         ·replace q880 := if_t c944 q880
          refine Tri.run (G := gm_dec_TakeNum) tyOk mixed ?_
          conv => whnf
          cases q880
          exact Or.inr (Or.inl ⟨_, rfl, rfl, weak_fin _ rfl rfl rfl (LeH.rest) (.nil) rfl rfl⟩)
         ·replace q880 := if_f c944 q880
          refine Tri.run (G := gm_dec_TakeNum) tyOk mixed ?_
          conv => whnf
          refine Tri.run (G := gm_dec_TakeNum) tyOk mixed ?_
          conv => whnf
          cases q880
          exact Or.inr (Or.inr (⟨_, rfl, rfl, weak_fin _ rfl rfl rfl (LeH.rest) (.cons (.one (.same rfl)) (.cons (.one (.same rfl)) (.cons (.one (.same rfl)) (.nil)))) rfl rfl⟩))
   ·rintro ex S' (⟨v881, rfl, rfl, w945⟩ | ⟨v882, rfl, rfl, w945⟩ | ⟨v883, rfl, rfl, w945⟩)
    ·dsimp only at h
     conv => whnf
     refine Tri.weak w945 ?_
     refine Tri.seqK ?_
     refine Tri.seqK ?_
     refine Tri.run (G := gm_dec_TakeNum) tyOk mixed ?_
     conv => whnf
     refine Tri.run (G := gm_dec_TakeNum) tyOk mixed ?_
     conv => whnf
     refine fin_here ?_
     conv => whnf
     cases h
     rfl
    ·dsimp only at h
     conv => whnf
     refine Tri.weak w945 ?_
     refine Tri.seqK ?_
     refine Tri.seqK ?_
     refine Tri.run (G := gm_dec_TakeNum) tyOk mixed ?_
     conv => whnf
     refine Tri.run (G := gm_dec_TakeNum) tyOk mixed ?_
     conv => whnf
     refine fin_here ?_
     conv => whnf
     cases h
     rfl
    ·dsimp only at h
     conv => whnf
     refine Tri.weak w945 ?_
     refine Tri.seqK ?_
     refine Tri.run (G := gm_dec_TakeNum) tyOk mixed ?_
     conv => whnf
     refine Draw.one 8 (.take 0 (.take 1 (.take 2 (.take 3 (.take 4 (.take 5 (.take 6 (.take 7 (.fin))))))))) [] (by kernel_rfl) ?_
     conv => whnf
     replace h := need_some h
     obtain ⟨p947, h⟩ := h
     refine ⟨p947, ?_⟩
     conv => whnf
     refine ⟨⟨bs (cut s (IntKind.i64.wrap (y151 + 1)) (s.length : Int)), bs_cut _ _ _, ?_⟩⟩
     conv => whnf
     refine Tri.run (G := gm_dec_TakeNum) tyOk mixed ?_
     conv => whnf
     refine fin_here ?_
     conv => whnf
     cases h
     rfl
noncomputable def dec_TakeText (s : Str) (most : Int) : Option (Str × Str × Int) :=
 (dec_TakeNum s).bind fun y1 =>
 if (!(decide (y1.2.2 = 0))) then
  some ([], [], y1.2.2)
 else
  if ((decide (most < 0)) || (decide (y1.1 > (IntKind.u64.wrap most)))) then
   some ([], [], 4)
  else
   if (decide (y1.1 > (IntKind.u64.wrap (y1.2.1.length : Int)))) then
    some ([], [], 2)
   else
    need ((0 : Int) ≤ (0 : Int) ∧ 0 ≤ y1.1 ∧ y1.1 ≤ (y1.2.1.length : Int)) <|
    need ((0 : Int) ≤ y1.1 ∧ y1.1 ≤ (y1.2.1.length : Int) ∧ (y1.2.1.length : Int) ≤ (y1.2.1.length : Int)) <|
    some ((cut y1.2.1 0 y1.1), (cut y1.2.1 y1.1 (y1.2.1.length : Int)), 0)
def gm_dec_TakeText : Gm := ⟨tys, [], [], []⟩
theorem dec_TakeText_walk (s : Str) (most : Int) (r : Str × Str × Int) (h : dec_TakeText s most = some r) : PureP Tryz.prog 114 [.v (.string (bs s)), .v (.int .i64 most)] (fun a => a = .tup [.v (.string (bs r.1)), .v (.string (bs r.2.1)), .v (.int .i64 r.2.2)]) := by
 unfold dec_TakeText at h
 refine pureW (G := gm_dec_TakeText) tyOk Tryz.func114 rfl (by kernel_rfl) (by simp [Tryz.f114]) ?_
 refine Tri.seqK ?_
 refine Tri.run (G := gm_dec_TakeText) tyOk mixed ?_
 conv => whnf
 refine Tri.seqK ?_
 refine Tri.run (G := gm_dec_TakeText) tyOk mixed ?_
 conv => whnf
 replace h := bind_some h
 obtain ⟨y1, q2, h⟩ := h
 refine PureP.mono (dec_TakeNum_walk s y1 q2) ?_
 rintro _ rfl
 conv => whnf
 refine Tri.seqK ?_
 refine Tri.block ?_
 refine Tri.seqK ?_
 refine Tri.run (G := gm_dec_TakeText) tyOk mixed ?_
 conv => whnf
 refine Tri.cond rfl (fun c11 => ?_) (fun c11 => ?_)
 ·replace h := if_t c11 h
  refine Tri.seqK ?_
  refine Tri.run (G := gm_dec_TakeText) tyOk mixed ?_
  conv => whnf
  refine Tri.run (G := gm_dec_TakeText) tyOk mixed ?_
  conv => whnf
  refine fin_here ?_
  conv => whnf
  cases h
  rfl
 ·replace h := if_f c11 h
  refine Tri.seqK ?_
  refine Tri.cut (fun ex S' => ex = .normal ∧ Weak S' ⟨41, 0, ofRegs [(7, .v (.int .u64 y1.1)), (8, .v (.string (bs y1.2.1))), (20, .v (.bool ((decide (most < 0)) || (decide (y1.1 > (IntKind.u64.wrap most))))))], []⟩) ?_ ?_
  ·refine Tri.run (G := gm_dec_TakeText) tyOk mixed ?_
   conv => whnf
   refine cond_mk (fun c15 => ?_) (fun c15 => ?_)
   ·replace c15 : (decide (most < 0)) = true := c15
    conv => whnf
    exact ⟨rfl, weak_fin _ rfl rfl rfl (LeH.rest) (.cons (.one (.same rfl)) (.cons (.one (.same rfl)) (.cons (.one (.same (show (.v (.bool true) : AV) = (.v (.bool ((decide (most < 0)) || (decide (y1.1 > (IntKind.u64.wrap most))))) : AV) from by first | (simp [c15]; done) | (simp only [c15, Bool.or_true, Bool.true_or, Bool.false_or, Bool.or_false, Bool.and_true, Bool.true_and, Bool.and_false, Bool.false_and, Bool.not_true, Bool.not_false, if_true, if_false, Bool.false_eq_true]; done) | (exfalso; revert c15; simp +contextual; done)))) (.nil)))) rfl rfl⟩
   ·replace c15 : (decide (most < 0)) = false := c15
    conv => whnf
    refine ⟨⟨(IntKind.u64.wrap most), rfl, ?_⟩⟩
    conv => whnf
    exact ⟨rfl, weak_fin _ rfl rfl rfl (LeH.rest) (.cons (.one (.same rfl)) (.cons (.one (.same rfl)) (.cons (.one (.same (show (.v (.bool (decide (y1.1 > (IntKind.u64.wrap most)))) : AV) = (.v (.bool ((decide (most < 0)) || (decide (y1.1 > (IntKind.u64.wrap most))))) : AV) from by first | (simp [c15]; done) | (simp only [c15, Bool.or_true, Bool.true_or, Bool.false_or, Bool.or_false, Bool.and_true, Bool.true_and, Bool.and_false, Bool.false_and, Bool.not_true, Bool.not_false, if_true, if_false, Bool.false_eq_true]; done) | (exfalso; revert c15; simp +contextual; done)))) (.nil)))) rfl rfl⟩
  ·rintro ex S' ⟨rfl, w16⟩
   conv => whnf
   refine Tri.weak w16 ?_
   refine Tri.cond rfl (fun c17 => ?_) (fun c17 => ?_)
   ·replace h := if_t c17 h
    refine Tri.seqK ?_
    refine Tri.run (G := gm_dec_TakeText) tyOk mixed ?_
    conv => whnf
    refine Tri.run (G := gm_dec_TakeText) tyOk mixed ?_
    conv => whnf
    refine fin_here ?_
    conv => whnf
    cases h
    rfl
   ·replace h := if_f c17 h
    refine Tri.seqK ?_
    refine Tri.run (G := gm_dec_TakeText) tyOk mixed ?_
    conv => whnf
    refine ⟨⟨(y1.2.1.length : Int), rfl, ?_⟩⟩
    conv => whnf
    refine ⟨⟨(IntKind.u64.wrap (y1.2.1.length : Int)), rfl, ?_⟩⟩
    conv => whnf
    refine Tri.cond rfl (fun c18 => ?_) (fun c18 => ?_)
    ·replace h := if_t c18 h
     refine Tri.seqK ?_
     refine Tri.run (G := gm_dec_TakeText) tyOk mixed ?_
     conv => whnf
     refine Tri.run (G := gm_dec_TakeText) tyOk mixed ?_
     conv => whnf
     refine fin_here ?_
     conv => whnf
     cases h
     rfl
    ·replace h := if_f c18 h
     refine Tri.run (G := gm_dec_TakeText) tyOk mixed ?_
     conv => whnf
     refine Tri.seqK ?_
     refine Tri.run (G := gm_dec_TakeText) tyOk mixed ?_
     conv => whnf
     refine Draw.one 9 (.take 0 (.take 1 (.take 2 (.take 3 (.take 4 (.take 5 (.take 6 (.take 7 (.take 8 (.fin)))))))))) [] (by kernel_rfl) ?_
     conv => whnf
     replace h := need_some h
     obtain ⟨p21, h⟩ := h
     refine ⟨p21, ?_⟩
     conv => whnf
     refine ⟨⟨bs (cut y1.2.1 0 y1.1), bs_cut _ _ _, ?_⟩⟩
     conv => whnf
     replace h := need_some h
     obtain ⟨p22, h⟩ := h
     refine ⟨p22, ?_⟩
     conv => whnf
     refine ⟨⟨bs (cut y1.2.1 y1.1 (y1.2.1.length : Int)), bs_cut _ _ _, ?_⟩⟩
     conv => whnf
     refine Tri.run (G := gm_dec_TakeText) tyOk mixed ?_
     conv => whnf
     refine fin_here ?_
     conv => whnf
     cases h
     rfl
noncomputable def sum_Of_1 (b : Int) (v : (Int × Int)) : Option ((Int × Int)) :=
 some ((Int.tmod (IntKind.u32.wrap (v.1 + (IntKind.u32.wrap b))) 65521), (Int.tmod (IntKind.u32.wrap (v.2 + (Int.tmod (IntKind.u32.wrap (v.1 + (IntKind.u32.wrap b))) 65521))) 65521))
def gm_sum_Of_1 : Gm := ⟨tys, [], [], []⟩
theorem sum_Of_1_walk (b : Int) (v : (Int × Int)) (r : (Int × Int)) (h : sum_Of_1 b v = some r) : CallP Tryz.prog 155 [.var 231 [.v (.int .u32 v.1), .v (.int .u32 v.2)]] [.v (.int .u8 b), .ptr 0 0] (fun a H' => a = .tup [] ∧ H'.take ([.var 231 [.v (.int .u32 r.1), .v (.int .u32 r.2)]] : List Ob).length = [.var 231 [.v (.int .u32 r.1), .v (.int .u32 r.2)]]) := by
 unfold sum_Of_1 at h
 refine callW (G := gm_sum_Of_1) tyOk Tryz.func155 rfl (by kernel_rfl) (by simp [Tryz.f155]) ?_
 refine Tri.seqK ?_
 refine Tri.run (G := gm_sum_Of_1) tyOk mixed ?_
 conv => whnf
 refine ⟨by decide, ?_⟩
 conv => whnf
 refine ⟨⟨(IntKind.u32.wrap b), rfl, ?_⟩⟩
 conv => whnf
 refine ⟨by decide, ?_⟩
 conv => whnf
 refine ⟨by decide, ?_⟩
 conv => whnf
 refine Tri.run (G := gm_sum_Of_1) tyOk mixed ?_
 conv => whnf
 refine ⟨by decide, ?_⟩
 conv => whnf
 refine ⟨by decide, ?_⟩
 conv => whnf
 refine ⟨by decide, ?_⟩
 conv => whnf
 refine ⟨by decide, ?_⟩
 conv => whnf
 refine fin_pre (S' := ⟨17, 1, ofRegs [], [.var 231 [.v (.int .u32 (Int.tmod (IntKind.u32.wrap (v.1 + (IntKind.u32.wrap b))) 65521)), .v (.int .u32 (Int.tmod (IntKind.u32.wrap (v.2 + (Int.tmod (IntKind.u32.wrap (v.1 + (IntKind.u32.wrap b))) 65521))) 65521))]]⟩) (weak_fin _ rfl rfl rfl (.cons (.same rfl) (LeH.rest)) (.nil) rfl rfl) ?_
 conv => whnf
 cases h
 exact ⟨rfl, rfl⟩
noncomputable def sum_Of_l2 (s : Str) (a46 : Int) (a47 : Int) (a48 : Int) : Option ((Int × Int × Int) ⊕ (Int × Int)) :=
 if (decide (a46 < (s.length : Int))) then
  (ix s a46).bind fun x56 =>
  (sum_Of_1 (x56.toNat : Int) (a47, a48)).bind fun y58 =>
  some (.inl ((IntKind.i64.wrap (a46 + 1)), y58.1, y58.2))
 else
  some (.inr (a47, a48))
noncomputable def sum_Of (s : Str) : Option (Int) :=
 (loop (fun (s51 : Int × Int × Int) => sum_Of_l2 s s51.1 s51.2.1 s51.2.2) ((0 : Int), (1 : Int), (0 : Int))).bind fun (y49 : Int × Int) =>
 some (IntKind.u32.wrap ((BitVec.ofInt IntKind.u32.bits (IntKind.u32.wrap (y49.2 * 2 ^ (min (16 : Int).toNat IntKind.u32.bits))) ||| BitVec.ofInt IntKind.u32.bits y49.1).toNat : Int))
def gm_sum_Of : Gm := ⟨tys, [155], [], []⟩
theorem sum_Of_walk (s : Str) (r : Int) (h : sum_Of s = some r) : PureP Tryz.prog 115 [.v (.string (bs s))] (fun a => a = .v (.int .u32 r)) := by
 unfold sum_Of at h
 refine pureW (G := gm_sum_Of) tyOk Tryz.func115 rfl (by kernel_rfl) (by simp [Tryz.f115]) ?_
 refine Tri.seqK ?_
 refine Tri.run (G := gm_sum_Of) tyOk mixed ?_
 conv => whnf
 refine Tri.seqK ?_
 refine Tri.run (G := gm_sum_Of) tyOk mixed ?_
 conv => whnf
 refine Tri.seqK ?_
 refine Tri.run (G := gm_sum_Of) tyOk mixed ?_
 conv => whnf
 refine Tri.seqK ?_
 refine Tri.seqK ?_
 refine Tri.run (G := gm_sum_Of) tyOk mixed ?_
 conv => whnf
 refine ⟨⟨(s.length : Int), rfl, ?_⟩⟩
 conv => whnf
 refine Tri.block ?_
 replace h := bind_some h
 obtain ⟨y49, q50, h⟩ := h
 refine Tri.cut (fun ex S' => ex = (.exit 0) ∧ Weak S' ⟨25, 0, ofRegs [(3, .ptr 0 0)], [.var 231 [.v (.int .u32 y49.1), .v (.int .u32 y49.2)]]⟩) ?_ ?_
 ·refine Tri.loopF (fun (s51 : Int × Int × Int) => (⟨25, 0, ofRegs [(0, .v (.string (bs s))), (3, .ptr 0 0), (4, .fn (.func 155) [] [.ptr 0 0]), (9, .v (.int .i64 (s.length : Int))), (10, .v (.int .i64 s51.1))], [.var 231 [.v (.int .u32 s51.2.1), .v (.int .u32 s51.2.2)]]⟩ : St)) q50 (weak_fin _ rfl rfl rfl (.cons (.same rfl) (LeH.rest)) (.cons (.one (.same rfl)) (.cons (.one (.same rfl)) (.cons (.one (.same rfl)) (.cons (.one (.same rfl)) (.cons (.one (.same rfl)) (.nil)))))) rfl rfl) ?_
  rintro ⟨a46, a47, a48⟩ v52 hv r53
  have hv : sum_Of_l2 s a46 a47 a48 = some v52 := hv
  unfold sum_Of_l2 at hv
  dsimp only
  refine Tri.seqK ?_
  refine Tri.run (G := gm_sum_Of) tyOk mixed ?_
  conv => whnf
  refine Tri.seqK ?_
  refine Tri.cond rfl (fun c55 => ?_) (fun c55 => ?_)
  ·replace hv := if_t c55 hv
   refine Tri.run (G := gm_sum_Of) tyOk mixed ?_
   conv => whnf
   refine Tri.seqK ?_
   refine Tri.block ?_
   refine Tri.seqK ?_
   refine Tri.run (G := gm_sum_Of) tyOk mixed ?_
   conv => whnf
   refine Tri.run (G := gm_sum_Of) tyOk mixed ?_
   conv => whnf
   replace hv := bind_some hv
   obtain ⟨x56, q57, hv⟩ := hv
   refine ⟨bs_bound q57, ?_⟩
   conv => whnf
   refine ⟨⟨(x56.toNat : Int), bs_at q57, ?_⟩⟩
   conv => whnf
   replace hv := bind_some hv
   obtain ⟨y58, q59, hv⟩ := hv
   refine CallP.use (sum_Of_1_walk (x56.toNat : Int) (a47, a48) y58 q59) [0] rfl rfl rfl rfl rfl rfl rfl rfl rfl ?_
   conv => whnf
   refine Tri.run (G := gm_sum_Of) tyOk mixed ?_
   conv => whnf
   cases hv
   exact ⟨_, rfl, weak_fin _ rfl rfl rfl (.cons (.same rfl) (LeH.rest)) (.cons (.one (.same rfl)) (.cons (.one (.same rfl)) (.cons (.one (.same rfl)) (.cons (.one (.same rfl)) (.cons (.one (.same rfl)) (.nil)))))) rfl rfl⟩
  ·replace hv := if_f c55 hv
   refine Tri.run (G := gm_sum_Of) tyOk mixed ?_
   conv => whnf
   cases hv
   obtain rfl := r53 _ rfl
   exact ⟨rfl, weak_fin _ rfl rfl rfl (.cons (.same rfl) (LeH.rest)) (.cons (.one (.same rfl)) (.nil)) rfl rfl⟩
 ·rintro ex S' ⟨rfl, w60⟩
  conv => whnf
  refine Tri.weak w60 ?_
  refine Tri.seqK ?_
  refine Tri.run (G := gm_sum_Of) tyOk mixed ?_
  conv => whnf
  refine ⟨by decide, ?_⟩
  conv => whnf
  refine ⟨by decide, ?_⟩
  conv => whnf
  refine ⟨by decide, ?_⟩
  conv => whnf
  refine Tri.run (G := gm_sum_Of) tyOk mixed ?_
  conv => whnf
  refine fin_here ?_
  conv => whnf
  cases h
  rfl
noncomputable def sum_Open (f : Str) (most : Int) : Option (Str × Str × Int) :=
 (dec_TakeText f most).bind fun y1 =>
 if (!(decide (y1.2.2 = 0))) then
  some ([], [], y1.2.2)
 else
  (dec_TakeNum y1.2.1).bind fun y5 =>
  if (!(decide (y5.2.2 = 0))) then
   some ([], [], y5.2.2)
  else
   (sum_Of y1.1).bind fun y12 =>
   if (!(decide (y5.1 = (IntKind.u64.wrap y12)))) then
    some ([], [], 10)
   else
    some (y1.1, y5.2.1, 0)
def gm_sum_Open : Gm := ⟨tys, [], [], []⟩
theorem sum_Open_walk (f : Str) (most : Int) (r : Str × Str × Int) (h : sum_Open f most = some r) : PureP Tryz.prog 59 [.v (.string (bs f)), .v (.int .i64 most)] (fun a => a = .tup [.v (.string (bs r.1)), .v (.string (bs r.2.1)), .v (.int .i64 r.2.2)]) := by
 unfold sum_Open at h
 refine pureW (G := gm_sum_Open) tyOk Tryz.func59 rfl (by kernel_rfl) (by simp [Tryz.f59]) ?_
 refine Tri.seqK ?_
 refine Tri.run (G := gm_sum_Open) tyOk mixed ?_
 conv => whnf
 refine Tri.seqK ?_
 refine Tri.run (G := gm_sum_Open) tyOk mixed ?_
 conv => whnf
 replace h := bind_some h
 obtain ⟨y1, q2, h⟩ := h
 refine PureP.mono (dec_TakeText_walk f most y1 q2) ?_
 rintro _ rfl
 conv => whnf
 refine Tri.seqK ?_
 refine Tri.seqK ?_
 refine Tri.run (G := gm_sum_Open) tyOk mixed ?_
 conv => whnf
 refine Tri.cond rfl (fun c4 => ?_) (fun c4 => ?_)
 ·replace h := if_t c4 h
  refine Tri.seqK ?_
  refine Tri.run (G := gm_sum_Open) tyOk mixed ?_
  conv => whnf
  refine Tri.run (G := gm_sum_Open) tyOk mixed ?_
  conv => whnf
  refine fin_here ?_
  conv => whnf
  cases h
  rfl
 ·replace h := if_f c4 h
  refine Tri.run (G := gm_sum_Open) tyOk mixed ?_
  conv => whnf
  refine Tri.seqK ?_
  refine Tri.run (G := gm_sum_Open) tyOk mixed ?_
  conv => whnf
  replace h := bind_some h
  obtain ⟨y5, q6, h⟩ := h
  refine PureP.mono (dec_TakeNum_walk y1.2.1 y5 q6) ?_
  rintro _ rfl
  conv => whnf
  refine Tri.seqK ?_
  refine Tri.block ?_
  refine Tri.seqK ?_
  refine Tri.run (G := gm_sum_Open) tyOk mixed ?_
  conv => whnf
  refine Tri.cond rfl (fun c11 => ?_) (fun c11 => ?_)
  ·replace h := if_t c11 h
   refine Tri.seqK ?_
   refine Tri.run (G := gm_sum_Open) tyOk mixed ?_
   conv => whnf
   refine Tri.run (G := gm_sum_Open) tyOk mixed ?_
   conv => whnf
   refine fin_here ?_
   conv => whnf
   cases h
   rfl
  ·replace h := if_f c11 h
   refine Tri.seqK ?_
   refine Tri.run (G := gm_sum_Open) tyOk mixed ?_
   conv => whnf
   replace h := bind_some h
   obtain ⟨y12, q13, h⟩ := h
   refine PureP.mono (sum_Of_walk y1.1 y12 q13) ?_
   rintro _ rfl
   conv => whnf
   refine ⟨⟨(IntKind.u64.wrap y12), rfl, ?_⟩⟩
   conv => whnf
   refine Tri.cond rfl (fun c14 => ?_) (fun c14 => ?_)
   ·replace h := if_t c14 h
    refine Tri.seqK ?_
    refine Tri.run (G := gm_sum_Open) tyOk mixed ?_
    conv => whnf
    refine Tri.run (G := gm_sum_Open) tyOk mixed ?_
    conv => whnf
    refine fin_here ?_
    conv => whnf
    cases h
    rfl
   ·replace h := if_f c14 h
    refine Tri.run (G := gm_sum_Open) tyOk mixed ?_
    conv => whnf
    refine Tri.seqK ?_
    refine Tri.run (G := gm_sum_Open) tyOk mixed ?_
    conv => whnf
    refine Tri.run (G := gm_sum_Open) tyOk mixed ?_
    conv => whnf
    refine fin_here ?_
    conv => whnf
    cases h
    rfl
noncomputable def kv_TakeManifest (s : Str) : Option (Int × Int × Int) :=
 (sum_Open s 65536).bind fun y1 =>
 (dec_TakeNum y1.1).bind fun y3 =>
 (dec_TakeNum y3.2.1).bind fun y5 =>
 if ((!(decide (y1.2.2 = 0))) || ((!(decide (y3.2.2 = 0))) || ((!(decide (y5.2.2 = 0))) || ((!decide (y1.2.1 = [])) || ((!decide (y5.2.1 = [])) || ((decide (y3.1 < 1)) || ((decide (y3.1 > 1000000)) || (decide (y5.1 > 1000000))))))))) then
  some (0, 0, 3)
 else
  some ((IntKind.i64.wrap y3.1), (IntKind.i64.wrap y5.1), 0)
def gm_kv_TakeManifest : Gm := ⟨tys, [], [], []⟩
theorem kv_TakeManifest_walk (s : Str) (r : Int × Int × Int) (h : kv_TakeManifest s = some r) : PureP Tryz.prog 20 [.v (.string (bs s))] (fun a => a = .tup [.v (.int .i64 r.1), .v (.int .i64 r.2.1), .v (.int .i64 r.2.2)]) := by
 unfold kv_TakeManifest at h
 refine pureW (G := gm_kv_TakeManifest) tyOk Tryz.func20 rfl (by kernel_rfl) (by simp [Tryz.f20]) ?_
 refine Tri.seqK ?_
 refine Tri.run (G := gm_kv_TakeManifest) tyOk mixed ?_
 conv => whnf
 refine Tri.seqK ?_
 refine Tri.run (G := gm_kv_TakeManifest) tyOk mixed ?_
 conv => whnf
 replace h := bind_some h
 obtain ⟨y1, q2, h⟩ := h
 refine PureP.mono (sum_Open_walk s 65536 y1 q2) ?_
 rintro _ rfl
 conv => whnf
 refine Tri.seqK ?_
 refine Tri.run (G := gm_kv_TakeManifest) tyOk mixed ?_
 conv => whnf
 replace h := bind_some h
 obtain ⟨y3, q4, h⟩ := h
 refine PureP.mono (dec_TakeNum_walk y1.1 y3 q4) ?_
 rintro _ rfl
 conv => whnf
 refine Tri.seqK ?_
 refine Tri.run (G := gm_kv_TakeManifest) tyOk mixed ?_
 conv => whnf
 replace h := bind_some h
 obtain ⟨y5, q6, h⟩ := h
 refine PureP.mono (dec_TakeNum_walk y3.2.1 y5 q6) ?_
 rintro _ rfl
 conv => whnf
 refine Tri.seqK ?_
 refine Tri.seqK ?_
 refine Tri.cut (fun ex S' => ex = .normal ∧ Weak S' ⟨64, 0, ofRegs [(8, .v (.int .u64 y3.1)), (10, .v (.int .u64 y5.1)), (59, .v (.bool ((!(decide (y1.2.2 = 0))) || ((!(decide (y3.2.2 = 0))) || ((!(decide (y5.2.2 = 0))) || ((!decide (y1.2.1 = [])) || ((!decide (y5.2.1 = [])) || ((decide (y3.1 < 1)) || ((decide (y3.1 > 1000000)) || (decide (y5.1 > 1000000)))))))))))], []⟩) ?_ ?_
 ·refine Tri.run (G := gm_kv_TakeManifest) tyOk mixed ?_
  conv => whnf
  refine cond_mk (fun c58 => ?_) (fun c58 => ?_)
  ·replace c58 : (!(decide (y1.2.2 = 0))) = true := c58
   conv => whnf
   exact ⟨rfl, weak_fin _ rfl rfl rfl (LeH.rest) (.cons (.one (.same rfl)) (.cons (.one (.same rfl)) (.cons (.one (.same (show (.v (.bool true) : AV) = (.v (.bool ((!(decide (y1.2.2 = 0))) || ((!(decide (y3.2.2 = 0))) || ((!(decide (y5.2.2 = 0))) || ((!decide (y1.2.1 = [])) || ((!decide (y5.2.1 = [])) || ((decide (y3.1 < 1)) || ((decide (y3.1 > 1000000)) || (decide (y5.1 > 1000000)))))))))) : AV) from by first | (simp [c58]; done) | (simp only [c58, Bool.or_true, Bool.true_or, Bool.false_or, Bool.or_false, Bool.and_true, Bool.true_and, Bool.and_false, Bool.false_and, Bool.not_true, Bool.not_false, if_true, if_false, Bool.false_eq_true]; done) | (exfalso; revert c58; simp +contextual; done)))) (.nil)))) rfl rfl⟩
  ·replace c58 : (!(decide (y1.2.2 = 0))) = false := c58
   conv => whnf
   refine cond_mk (fun c59 => ?_) (fun c59 => ?_)
   ·replace c59 : (!(decide (y3.2.2 = 0))) = true := c59
    conv => whnf
    exact ⟨rfl, weak_fin _ rfl rfl rfl (LeH.rest) (.cons (.one (.same rfl)) (.cons (.one (.same rfl)) (.cons (.one (.same (show (.v (.bool true) : AV) = (.v (.bool ((!(decide (y1.2.2 = 0))) || ((!(decide (y3.2.2 = 0))) || ((!(decide (y5.2.2 = 0))) || ((!decide (y1.2.1 = [])) || ((!decide (y5.2.1 = [])) || ((decide (y3.1 < 1)) || ((decide (y3.1 > 1000000)) || (decide (y5.1 > 1000000)))))))))) : AV) from by first | (simp [c58, c59]; done) | (simp only [c58, c59, Bool.or_true, Bool.true_or, Bool.false_or, Bool.or_false, Bool.and_true, Bool.true_and, Bool.and_false, Bool.false_and, Bool.not_true, Bool.not_false, if_true, if_false, Bool.false_eq_true]; done) | (exfalso; revert c58 c59; simp +contextual; done)))) (.nil)))) rfl rfl⟩
   ·replace c59 : (!(decide (y3.2.2 = 0))) = false := c59
    conv => whnf
    refine cond_mk (fun c60 => ?_) (fun c60 => ?_)
    ·replace c60 : (!(decide (y5.2.2 = 0))) = true := c60
     conv => whnf
     exact ⟨rfl, weak_fin _ rfl rfl rfl (LeH.rest) (.cons (.one (.same rfl)) (.cons (.one (.same rfl)) (.cons (.one (.same (show (.v (.bool true) : AV) = (.v (.bool ((!(decide (y1.2.2 = 0))) || ((!(decide (y3.2.2 = 0))) || ((!(decide (y5.2.2 = 0))) || ((!decide (y1.2.1 = [])) || ((!decide (y5.2.1 = [])) || ((decide (y3.1 < 1)) || ((decide (y3.1 > 1000000)) || (decide (y5.1 > 1000000)))))))))) : AV) from by first | (simp [c58, c59, c60]; done) | (simp only [c58, c59, c60, Bool.or_true, Bool.true_or, Bool.false_or, Bool.or_false, Bool.and_true, Bool.true_and, Bool.and_false, Bool.false_and, Bool.not_true, Bool.not_false, if_true, if_false, Bool.false_eq_true]; done) | (exfalso; revert c58 c59 c60; simp +contextual; done)))) (.nil)))) rfl rfl⟩
    ·replace c60 : (!(decide (y5.2.2 = 0))) = false := c60
     conv => whnf
     refine ⟨⟨(!decide (y1.2.1 = [])), bs_ne _ _, ?_⟩⟩
     conv => whnf
     refine cond_mk (fun c61 => ?_) (fun c61 => ?_)
     ·replace c61 : (!decide (y1.2.1 = [])) = true := c61
      conv => whnf
      exact ⟨rfl, weak_fin _ rfl rfl rfl (LeH.rest) (.cons (.one (.same rfl)) (.cons (.one (.same rfl)) (.cons (.one (.same (show (.v (.bool true) : AV) = (.v (.bool ((!(decide (y1.2.2 = 0))) || ((!(decide (y3.2.2 = 0))) || ((!(decide (y5.2.2 = 0))) || ((!decide (y1.2.1 = [])) || ((!decide (y5.2.1 = [])) || ((decide (y3.1 < 1)) || ((decide (y3.1 > 1000000)) || (decide (y5.1 > 1000000)))))))))) : AV) from by first | (simp [c58, c59, c60, c61]; done) | (simp only [c58, c59, c60, c61, Bool.or_true, Bool.true_or, Bool.false_or, Bool.or_false, Bool.and_true, Bool.true_and, Bool.and_false, Bool.false_and, Bool.not_true, Bool.not_false, if_true, if_false, Bool.false_eq_true]; done) | (exfalso; revert c58 c59 c60 c61; simp +contextual; done)))) (.nil)))) rfl rfl⟩
     ·replace c61 : (!decide (y1.2.1 = [])) = false := c61
      conv => whnf
      refine ⟨⟨(!decide (y5.2.1 = [])), bs_ne _ _, ?_⟩⟩
      conv => whnf
      refine cond_mk (fun c62 => ?_) (fun c62 => ?_)
      ·replace c62 : (!decide (y5.2.1 = [])) = true := c62
       conv => whnf
       exact ⟨rfl, weak_fin _ rfl rfl rfl (LeH.rest) (.cons (.one (.same rfl)) (.cons (.one (.same rfl)) (.cons (.one (.same (show (.v (.bool true) : AV) = (.v (.bool ((!(decide (y1.2.2 = 0))) || ((!(decide (y3.2.2 = 0))) || ((!(decide (y5.2.2 = 0))) || ((!decide (y1.2.1 = [])) || ((!decide (y5.2.1 = [])) || ((decide (y3.1 < 1)) || ((decide (y3.1 > 1000000)) || (decide (y5.1 > 1000000)))))))))) : AV) from by first | (simp [c58, c59, c60, c61, c62]; done) | (simp only [c58, c59, c60, c61, c62, Bool.or_true, Bool.true_or, Bool.false_or, Bool.or_false, Bool.and_true, Bool.true_and, Bool.and_false, Bool.false_and, Bool.not_true, Bool.not_false, if_true, if_false, Bool.false_eq_true]; done) | (exfalso; revert c58 c59 c60 c61 c62; simp +contextual; done)))) (.nil)))) rfl rfl⟩
      ·replace c62 : (!decide (y5.2.1 = [])) = false := c62
       conv => whnf
       refine cond_mk (fun c63 => ?_) (fun c63 => ?_)
       ·replace c63 : (decide (y3.1 < 1)) = true := c63
        conv => whnf
        exact ⟨rfl, weak_fin _ rfl rfl rfl (LeH.rest) (.cons (.one (.same rfl)) (.cons (.one (.same rfl)) (.cons (.one (.same (show (.v (.bool true) : AV) = (.v (.bool ((!(decide (y1.2.2 = 0))) || ((!(decide (y3.2.2 = 0))) || ((!(decide (y5.2.2 = 0))) || ((!decide (y1.2.1 = [])) || ((!decide (y5.2.1 = [])) || ((decide (y3.1 < 1)) || ((decide (y3.1 > 1000000)) || (decide (y5.1 > 1000000)))))))))) : AV) from by first | (simp [c58, c59, c60, c61, c62, c63]; done) | (simp only [c58, c59, c60, c61, c62, c63, Bool.or_true, Bool.true_or, Bool.false_or, Bool.or_false, Bool.and_true, Bool.true_and, Bool.and_false, Bool.false_and, Bool.not_true, Bool.not_false, if_true, if_false, Bool.false_eq_true]; done) | (exfalso; revert c58 c59 c60 c61 c62 c63; simp +contextual; done)))) (.nil)))) rfl rfl⟩
       ·replace c63 : (decide (y3.1 < 1)) = false := c63
        conv => whnf
        refine cond_mk (fun c64 => ?_) (fun c64 => ?_)
        ·replace c64 : (decide (y3.1 > 1000000)) = true := c64
         conv => whnf
         exact ⟨rfl, weak_fin _ rfl rfl rfl (LeH.rest) (.cons (.one (.same rfl)) (.cons (.one (.same rfl)) (.cons (.one (.same (show (.v (.bool true) : AV) = (.v (.bool ((!(decide (y1.2.2 = 0))) || ((!(decide (y3.2.2 = 0))) || ((!(decide (y5.2.2 = 0))) || ((!decide (y1.2.1 = [])) || ((!decide (y5.2.1 = [])) || ((decide (y3.1 < 1)) || ((decide (y3.1 > 1000000)) || (decide (y5.1 > 1000000)))))))))) : AV) from by first | (simp [c58, c59, c60, c61, c62, c63, c64]; done) | (simp only [c58, c59, c60, c61, c62, c63, c64, Bool.or_true, Bool.true_or, Bool.false_or, Bool.or_false, Bool.and_true, Bool.true_and, Bool.and_false, Bool.false_and, Bool.not_true, Bool.not_false, if_true, if_false, Bool.false_eq_true]; done) | (exfalso; revert c58 c59 c60 c61 c62 c63 c64; simp +contextual; done)))) (.nil)))) rfl rfl⟩
        ·replace c64 : (decide (y3.1 > 1000000)) = false := c64
         conv => whnf
         exact ⟨rfl, weak_fin _ rfl rfl rfl (LeH.rest) (.cons (.one (.same rfl)) (.cons (.one (.same rfl)) (.cons (.one (.same (show (.v (.bool (decide (y5.1 > 1000000))) : AV) = (.v (.bool ((!(decide (y1.2.2 = 0))) || ((!(decide (y3.2.2 = 0))) || ((!(decide (y5.2.2 = 0))) || ((!decide (y1.2.1 = [])) || ((!decide (y5.2.1 = [])) || ((decide (y3.1 < 1)) || ((decide (y3.1 > 1000000)) || (decide (y5.1 > 1000000)))))))))) : AV) from by first | (simp [c58, c59, c60, c61, c62, c63, c64]; done) | (simp only [c58, c59, c60, c61, c62, c63, c64, Bool.or_true, Bool.true_or, Bool.false_or, Bool.or_false, Bool.and_true, Bool.true_and, Bool.and_false, Bool.false_and, Bool.not_true, Bool.not_false, if_true, if_false, Bool.false_eq_true]; done) | (exfalso; revert c58 c59 c60 c61 c62 c63 c64; simp +contextual; done)))) (.nil)))) rfl rfl⟩
 ·rintro ex S' ⟨rfl, w65⟩
  conv => whnf
  refine Tri.weak w65 ?_
  refine Tri.cond rfl (fun c66 => ?_) (fun c66 => ?_)
  ·replace h := if_t c66 h
   refine Tri.seqK ?_
   refine Tri.run (G := gm_kv_TakeManifest) tyOk mixed ?_
   conv => whnf
   refine Tri.run (G := gm_kv_TakeManifest) tyOk mixed ?_
   conv => whnf
   refine fin_here ?_
   conv => whnf
   cases h
   rfl
  ·replace h := if_f c66 h
   refine Tri.run (G := gm_kv_TakeManifest) tyOk mixed ?_
   conv => whnf
   refine Tri.seqK ?_
   refine Tri.run (G := gm_kv_TakeManifest) tyOk mixed ?_
   conv => whnf
   refine ⟨⟨(IntKind.i64.wrap y3.1), rfl, ?_⟩⟩
   conv => whnf
   refine ⟨⟨(IntKind.i64.wrap y5.1), rfl, ?_⟩⟩
   conv => whnf
   refine Tri.run (G := gm_kv_TakeManifest) tyOk mixed ?_
   conv => whnf
   refine fin_here ?_
   conv => whnf
   cases h
   rfl
noncomputable def dec_Num_l1 (a19 : Int) (a20 : Int) (a21 : (List Int)) : Option ((Int × Int × (List Int)) ⊕ (Str)) :=
 need (a21.length = 21) <|
 (ix a21 (IntKind.i64.wrap (a20 - 1))).bind fun x28 =>
 if (decide ((IntKind.u64.wrap (Int.tdiv a19 10)) = 0)) then
  need ((List.set a21 ((IntKind.i64.wrap (a20 - 1))).toNat (IntKind.u8.wrap (48 + (IntKind.u8.wrap (Int.tmod a19 10))))).length = 21) <|
  need ((0 : Int) ≤ (IntKind.i64.wrap (a20 - 1)) ∧ (IntKind.i64.wrap (a20 - 1)) ≤ (21 : Int) ∧ (21 : Int) ≤ (21 : Int)) <|
  some (.inr (List.map u8 (cut (List.set a21 ((IntKind.i64.wrap (a20 - 1))).toNat (IntKind.u8.wrap (48 + (IntKind.u8.wrap (Int.tmod a19 10))))) (IntKind.i64.wrap (a20 - 1)) (21 : Int))))
 else
  some (.inl ((IntKind.u64.wrap (Int.tdiv a19 10)), (IntKind.i64.wrap (a20 - 1)), (List.set a21 ((IntKind.i64.wrap (a20 - 1))).toNat (IntKind.u8.wrap (48 + (IntKind.u8.wrap (Int.tmod a19 10)))))))
noncomputable def dec_Num (v : Int) : Option (Str) :=
 need ((List.replicate 21 (0 : Int)).length = 21) <|
 (ix (List.replicate 21 (0 : Int)) 20).bind fun x2 =>
 (loop (fun (s24 : Int × Int × (List Int)) => dec_Num_l1 s24.1 s24.2.1 s24.2.2) (v, (20 : Int), (List.set (List.replicate 21 (0 : Int)) (20 : Int).toNat 59))).bind fun (y22 : Str) =>
 some y22
def gm_dec_Num : Gm := ⟨tys, [], [], []⟩
theorem dec_Num_walk (v : Int) (r : Str) (h : dec_Num v = some r) : PureP Tryz.prog 66 [.v (.int .u64 v)] (fun a => a = .v (.string (bs r))) := by
 unfold dec_Num at h
 refine pureW (G := gm_dec_Num) tyOk Tryz.func66 rfl (by kernel_rfl) (by simp [Tryz.f66]) ?_
 refine Tri.seqK ?_
 refine Tri.run (G := gm_dec_Num) tyOk mixed ?_
 conv => whnf
 refine Tri.seqK ?_
 refine Tri.run (G := gm_dec_Num) tyOk mixed ?_
 conv => whnf
 refine Tri.seqK ?_
 refine Tri.run (G := gm_dec_Num) tyOk mixed ?_
 conv => whnf
 refine Tri.seqK ?_
 refine Tri.weak (show Weak _ ⟨22, 0, ofRegs [(0, .v (.int .u64 v)), (2, .v (.string (bs []))), (3, .rptr 1 ((List.map (encI .u8) (List.replicate 21 (0 : Int))).length) 1 (0) 0), (4, .v (.int .i64 20))], [.gone, .row 193 1 (List.map (encI .u8) (List.replicate 21 (0 : Int)))]⟩ from Weak.trans (weak_arr 3 0 193 21 _ rfl rfl rfl rfl rfl rfl) (weak_fin _ rfl rfl rfl (.cons (.same rfl) (.cons (.same rfl) (LeH.rest))) (.cons (.one (.same rfl)) (.cons (.one (.same rfl)) (.cons (.one (.same rfl)) (.cons (.one (.same rfl)) (.nil))))) rfl rfl)) ?_
 refine Tri.run (G := gm_dec_Num) tyOk mixed ?_
 conv => whnf
 replace h := need_some h
 obtain ⟨p1, h⟩ := h
 replace h := bind_some h
 obtain ⟨x2, q3, h⟩ := h
 refine ⟨⟨by simp, by first | (simp; done) | simpa using p1, (ix_lt q3).1, by have := ix_lt q3; simp only [List.length_map, List.length_set, List.length_replicate, List.length_cons, List.length_nil] at *; omega⟩, ?_⟩
 conv => whnf
 refine ⟨rfl, ?_⟩
 conv => whnf
 refine ⟨⟨_, map_get (encI .u8) (ix_some q3).2, ?_⟩⟩
 conv => whnf
 refine ⟨Nat.le_of_ble_eq_true rfl, ?_⟩
 conv => whnf
 refine ⟨⟨List.map (encI .u8) (List.set (List.replicate 21 (0 : Int)) (20 : Int).toNat 59), map_set (encI .u8) _ _ _ rfl, ?_⟩⟩
 conv => whnf
 refine Tri.block ?_
 replace h := bind_some h
 obtain ⟨y22, q23, h⟩ := h
 refine Tri.cut (fun ex S' => ex = .ret ∧ Weak S' ⟨22, 0, ofRegs [(2, .v (.string (bs y22)))], []⟩) ?_ ?_
 ·refine Tri.loopF (fun (s24 : Int × Int × (List Int)) => (⟨22, 0, ofRegs [(0, .v (.int .u64 s24.1)), (3, .rptr 1 ((List.map (encI .u8) s24.2.2).length) 1 (0) 0), (4, .v (.int .i64 s24.2.1))], [.gone, .row 193 1 (List.map (encI .u8) s24.2.2)]⟩ : St)) q23 (weak_fin _ rfl rfl rfl (.cons (.same rfl) (.cons (.same rfl) (LeH.rest))) (.cons (.one (.same rfl)) (.cons (.one (.same (show (.rptr 1 ((List.map (encI .u8) (List.replicate 21 (0 : Int))).length) 1 (0) 0 : AV) = (.rptr 1 ((List.map (encI .u8) (List.set (List.replicate 21 (0 : Int)) (20 : Int).toNat 59)).length) 1 (0) 0 : AV) from congrArg (fun n => AV.rptr 1 n 1 (0) 0) (by simp)))) (.cons (.one (.same rfl)) (.nil)))) rfl rfl) ?_
  rintro ⟨a19, a20, a21⟩ v25 hv r26
  have hv : dec_Num_l1 a19 a20 a21 = some v25 := hv
  unfold dec_Num_l1 at hv
  dsimp only
  refine Tri.block ?_
  refine Tri.seqK ?_
  refine Tri.run (G := gm_dec_Num) tyOk mixed ?_
  conv => whnf
  refine Tri.seqK ?_
  refine Tri.run (G := gm_dec_Num) tyOk mixed ?_
  conv => whnf
  refine ⟨by decide, ?_⟩
  conv => whnf
  refine ⟨⟨(IntKind.u8.wrap (Int.tmod a19 10)), rfl, ?_⟩⟩
  conv => whnf
  replace hv := need_some hv
  obtain ⟨p27, hv⟩ := hv
  replace hv := bind_some hv
  obtain ⟨x28, q29, hv⟩ := hv
  refine ⟨⟨by simp, by first | (simp; done) | simpa using p27, (ix_lt q29).1, by have := ix_lt q29; simp only [List.length_map, List.length_set, List.length_replicate, List.length_cons, List.length_nil] at *; omega⟩, ?_⟩
  conv => whnf
  refine ⟨rfl, ?_⟩
  conv => whnf
  refine ⟨⟨_, map_get (encI .u8) (ix_some q29).2, ?_⟩⟩
  conv => whnf
  refine ⟨Nat.le_of_ble_eq_true rfl, ?_⟩
  conv => whnf
  refine ⟨⟨List.map (encI .u8) (List.set a21 ((IntKind.i64.wrap (a20 - 1))).toNat (IntKind.u8.wrap (48 + (IntKind.u8.wrap (Int.tmod a19 10))))), map_set (encI .u8) _ _ _ rfl, ?_⟩⟩
  conv => whnf
  refine Tri.seqK ?_
  refine Tri.run (G := gm_dec_Num) tyOk mixed ?_
  conv => whnf
  refine ⟨by decide, ?_⟩
  conv => whnf
  refine Tri.seqK ?_
  refine Tri.run (G := gm_dec_Num) tyOk mixed ?_
  conv => whnf
  refine Tri.cond rfl (fun c30 => ?_) (fun c30 => ?_)
  ·replace hv := if_t c30 hv
   refine Tri.seqK ?_
   refine Tri.weak (show Weak _ ⟨22, 0, ofRegs [(0, .v (.int .u64 (IntKind.u64.wrap (Int.tdiv a19 10)))), (3, .rptr 1 ((List.map (encI .u8) a21).length) 1 (0) 0), (4, .v (.int .i64 (IntKind.i64.wrap (a20 - 1)))), (7, .v (.int .i64 a20)), (8, .v (.int .i64 (IntKind.i64.wrap (a20 - 1)))), (9, .v (.int .i64 (IntKind.i64.wrap (a20 - 1)))), (10, .v (.int .u64 a19)), (11, .v (.int .u64 (Int.tmod a19 10))), (12, .v (.int .u8 (IntKind.u8.wrap (Int.tmod a19 10)))), (13, .v (.int .u8 (IntKind.u8.wrap (48 + (IntKind.u8.wrap (Int.tmod a19 10)))))), (14, .rptr 1 ((List.map (encI .u8) a21).length) 1 (((IntKind.i64.wrap (a20 - 1))).toNat) 0), (15, .v (.int .u64 a19)), (16, .v (.int .u64 (IntKind.u64.wrap (Int.tdiv a19 10)))), (17, .v (.int .u64 (IntKind.u64.wrap (Int.tdiv a19 10)))), (18, .v (.bool true))], [.gone, .frz 1 (List.map (encI .u8) (List.set a21 ((IntKind.i64.wrap (a20 - 1))).toNat (IntKind.u8.wrap (48 + (IntKind.u8.wrap (Int.tmod a19 10))))))]⟩ from Weak.trans (weak_freeze 1 rfl) (weak_fin _ rfl rfl rfl (.cons (.same rfl) (.cons (.same rfl) (LeH.rest))) (.cons (.one (.same rfl)) (.cons (.one (.same rfl)) (.cons (.one (.same rfl)) (.cons (.one (.same rfl)) (.cons (.one (.same rfl)) (.cons (.one (.same rfl)) (.cons (.one (.same rfl)) (.cons (.one (.same rfl)) (.cons (.one (.same rfl)) (.cons (.one (.same rfl)) (.cons (.one (.same rfl)) (.cons (.one (.same rfl)) (.cons (.one (.same rfl)) (.cons (.one (.same rfl)) (.cons (.one (.same rfl)) (.nil)))))))))))))))) rfl rfl)) ?_
   refine Tri.run (G := gm_dec_Num) tyOk mixed ?_
   conv => whnf
   replace hv := need_some hv
   obtain ⟨p31, hv⟩ := hv
   refine ⟨⟨by simp, by first | (simp; done) | simpa using p31, by have := p31; simp only [List.length_map, List.length_set] at *; omega⟩, ?_⟩
   conv => whnf
   replace hv := need_some hv
   obtain ⟨p32, hv⟩ := hv
   refine ⟨⟨p32.1, p32.2.1, p32.2.2⟩, ?_⟩
   conv => whnf
   refine ⟨⟨List.map (encI .u8) (cut (List.set a21 ((IntKind.i64.wrap (a20 - 1))).toNat (IntKind.u8.wrap (48 + (IntKind.u8.wrap (Int.tmod a19 10))))) (IntKind.i64.wrap (a20 - 1)) (21 : Int)), map_cut _ _ _ _, ?_⟩⟩
   conv => whnf
   refine ⟨⟨(cut (List.set a21 ((IntKind.i64.wrap (a20 - 1))).toNat (IntKind.u8.wrap (48 + (IntKind.u8.wrap (Int.tmod a19 10))))) (IntKind.i64.wrap (a20 - 1)) (21 : Int)), rfl, ?_⟩⟩
   conv => whnf
   refine ⟨⟨bs (List.map u8 (cut (List.set a21 ((IntKind.i64.wrap (a20 - 1))).toNat (IntKind.u8.wrap (48 + (IntKind.u8.wrap (Int.tmod a19 10))))) (IntKind.i64.wrap (a20 - 1)) (21 : Int))), ofInts_eq _, ?_⟩⟩
   conv => whnf
   refine Tri.run (G := gm_dec_Num) tyOk mixed ?_
   conv => whnf
   cases hv
   obtain rfl := r26 _ rfl
   exact ⟨rfl, weak_fin _ rfl rfl rfl (LeH.rest) (.cons (.one (.same rfl)) (.nil)) rfl rfl⟩
  ·replace hv := if_f c30 hv
   refine Tri.run (G := gm_dec_Num) tyOk mixed ?_
   conv => whnf
   cases hv
   exact ⟨_, rfl, weak_fin _ rfl rfl rfl (.cons (.same rfl) (.cons (.same rfl) (LeH.rest))) (.cons (.one (.same rfl)) (.cons (.one (.same (show (.rptr 1 ((List.map (encI .u8) a21).length) 1 (0) 0 : AV) = (.rptr 1 ((List.map (encI .u8) (List.set a21 ((IntKind.i64.wrap (a20 - 1))).toNat (IntKind.u8.wrap (48 + (IntKind.u8.wrap (Int.tmod a19 10)))))).length) 1 (0) 0 : AV) from congrArg (fun n => AV.rptr 1 n 1 (0) 0) (by simp)))) (.cons (.one (.same rfl)) (.nil)))) rfl rfl⟩
 ·rintro ex S' ⟨rfl, w33⟩
  conv => whnf
  refine fin_pre w33 ?_
  conv => whnf
  cases h
  rfl
noncomputable def internal_stringslite_HasSuffix (s : Str) (suffix : Str) : Option (Bool) :=
 if (decide ((s.length : Int) ≥ (suffix.length : Int))) then
  need ((0 : Int) ≤ (IntKind.i64.wrap ((s.length : Int) - (suffix.length : Int))) ∧ (IntKind.i64.wrap ((s.length : Int) - (suffix.length : Int))) ≤ (s.length : Int) ∧ (s.length : Int) ≤ (s.length : Int)) <|
  some (decide ((cut s (IntKind.i64.wrap ((s.length : Int) - (suffix.length : Int))) (s.length : Int)) = suffix))
 else
  some false
def gm_internal_stringslite_HasSuffix : Gm := ⟨tys, [], [], []⟩
theorem internal_stringslite_HasSuffix_walk (s : Str) (suffix : Str) (r : Bool) (h : internal_stringslite_HasSuffix s suffix = some r) : PureP Tryz.prog 176 [.v (.string (bs s)), .v (.string (bs suffix))] (fun a => a = .v (.bool r)) := by
 unfold internal_stringslite_HasSuffix at h
 refine pureW (G := gm_internal_stringslite_HasSuffix) tyOk Tryz.func176 rfl (by kernel_rfl) (by simp [Tryz.f176]) ?_
 refine Tri.seqK ?_
 refine Tri.run (G := gm_internal_stringslite_HasSuffix) tyOk mixed ?_
 conv => whnf
 refine Tri.seqK ?_
 refine Tri.run (G := gm_internal_stringslite_HasSuffix) tyOk mixed ?_
 conv => whnf
 refine ⟨⟨(s.length : Int), rfl, ?_⟩⟩
 conv => whnf
 refine ⟨⟨(suffix.length : Int), rfl, ?_⟩⟩
 conv => whnf
 refine cond_mk (fun c1 => ?_) (fun c1 => ?_)
 ·replace h := if_t c1 h
  conv => whnf
  refine ⟨⟨(s.length : Int), rfl, ?_⟩⟩
  conv => whnf
  refine ⟨⟨(suffix.length : Int), rfl, ?_⟩⟩
  conv => whnf
  replace h := need_some h
  obtain ⟨p2, h⟩ := h
  refine ⟨p2, ?_⟩
  conv => whnf
  refine ⟨⟨bs (cut s (IntKind.i64.wrap ((s.length : Int) - (suffix.length : Int))) (s.length : Int)), bs_cut _ _ _, ?_⟩⟩
  conv => whnf
  refine ⟨⟨(decide ((cut s (IntKind.i64.wrap ((s.length : Int) - (suffix.length : Int))) (s.length : Int)) = suffix)), bs_eq _ _, ?_⟩⟩
  conv => whnf
  refine Tri.run (G := gm_internal_stringslite_HasSuffix) tyOk mixed ?_
  conv => whnf
  refine fin_here ?_
  conv => whnf
  cases h
  rfl
 ·replace h := if_f c1 h
  conv => whnf
  refine Tri.run (G := gm_internal_stringslite_HasSuffix) tyOk mixed ?_
  conv => whnf
  refine fin_here ?_
  conv => whnf
  cases h
  rfl
noncomputable def internal_stringslite_TrimSuffix (s : Str) (suffix : Str) : Option (Str) :=
 (internal_stringslite_HasSuffix s suffix).bind fun y5 =>
 if y5 then
  need ((0 : Int) ≤ (0 : Int) ∧ 0 ≤ (IntKind.i64.wrap ((s.length : Int) - (suffix.length : Int))) ∧ (IntKind.i64.wrap ((s.length : Int) - (suffix.length : Int))) ≤ (s.length : Int)) <|
  some (cut s 0 (IntKind.i64.wrap ((s.length : Int) - (suffix.length : Int))))
 else
  some s
def gm_internal_stringslite_TrimSuffix : Gm := ⟨tys, [], [], []⟩
theorem internal_stringslite_TrimSuffix_walk (s : Str) (suffix : Str) (r : Str) (h : internal_stringslite_TrimSuffix s suffix = some r) : PureP Tryz.prog 156 [.v (.string (bs s)), .v (.string (bs suffix))] (fun a => a = .v (.string (bs r))) := by
 unfold internal_stringslite_TrimSuffix at h
 refine pureW (G := gm_internal_stringslite_TrimSuffix) tyOk Tryz.func156 rfl (by kernel_rfl) (by simp [Tryz.f156]) ?_
 refine Tri.seqK ?_
 refine Tri.run (G := gm_internal_stringslite_TrimSuffix) tyOk mixed ?_
 conv => whnf
 refine Tri.seqK ?_
 refine Tri.seqK ?_
 refine Tri.run (G := gm_internal_stringslite_TrimSuffix) tyOk mixed ?_
 conv => whnf
 replace h := bind_some h
 obtain ⟨y5, q6, h⟩ := h
 refine PureP.mono (internal_stringslite_HasSuffix_walk s suffix y5 q6) ?_
 rintro _ rfl
 conv => whnf
 refine Tri.cond rfl (fun c7 => ?_) (fun c7 => ?_)
 ·replace h := if_t c7 h
  refine Tri.seqK ?_
  refine Tri.run (G := gm_internal_stringslite_TrimSuffix) tyOk mixed ?_
  conv => whnf
  refine ⟨⟨(s.length : Int), rfl, ?_⟩⟩
  conv => whnf
  refine ⟨⟨(suffix.length : Int), rfl, ?_⟩⟩
  conv => whnf
  replace h := need_some h
  obtain ⟨p8, h⟩ := h
  refine ⟨p8, ?_⟩
  conv => whnf
  refine ⟨⟨bs (cut s 0 (IntKind.i64.wrap ((s.length : Int) - (suffix.length : Int)))), bs_cut _ _ _, ?_⟩⟩
  conv => whnf
  refine Tri.run (G := gm_internal_stringslite_TrimSuffix) tyOk mixed ?_
  conv => whnf
  refine fin_here ?_
  conv => whnf
  cases h
  rfl
 ·replace h := if_f c7 h
  refine Tri.run (G := gm_internal_stringslite_TrimSuffix) tyOk mixed ?_
  conv => whnf
  refine Tri.seqK ?_
  refine Tri.run (G := gm_internal_stringslite_TrimSuffix) tyOk mixed ?_
  conv => whnf
  refine Tri.run (G := gm_internal_stringslite_TrimSuffix) tyOk mixed ?_
  conv => whnf
  refine fin_here ?_
  conv => whnf
  cases h
  rfl
noncomputable def strings_TrimSuffix (s : Str) (suffix : Str) : Option (Str) :=
 (internal_stringslite_TrimSuffix s suffix).bind fun y1 =>
 some y1
def gm_strings_TrimSuffix : Gm := ⟨tys, [], [], []⟩
theorem strings_TrimSuffix_walk (s : Str) (suffix : Str) (r : Str) (h : strings_TrimSuffix s suffix = some r) : PureP Tryz.prog 118 [.v (.string (bs s)), .v (.string (bs suffix))] (fun a => a = .v (.string (bs r))) := by
 unfold strings_TrimSuffix at h
 refine pureW (G := gm_strings_TrimSuffix) tyOk Tryz.func118 rfl (by kernel_rfl) (by simp [Tryz.f118]) ?_
 refine Tri.seqK ?_
 refine Tri.run (G := gm_strings_TrimSuffix) tyOk mixed ?_
 conv => whnf
 refine Tri.seqK ?_
 refine Tri.run (G := gm_strings_TrimSuffix) tyOk mixed ?_
 conv => whnf
 replace h := bind_some h
 obtain ⟨y1, q2, h⟩ := h
 refine PureP.mono (internal_stringslite_TrimSuffix_walk s suffix y1 q2) ?_
 rintro _ rfl
 conv => whnf
 refine Tri.run (G := gm_strings_TrimSuffix) tyOk mixed ?_
 conv => whnf
 refine fin_here ?_
 conv => whnf
 cases h
 rfl
noncomputable def kv_number (letter : Str) (n : Int) : Option (Str) :=
 (dec_Num (IntKind.u64.wrap n)).bind fun y1 =>
 (strings_TrimSuffix y1 [59]).bind fun y3 =>
 need (letter.length + y3.length ≤ 9223372036854775807) <|
 some (letter ++ y3)
def gm_kv_number : Gm := ⟨tys, [], [], []⟩
theorem kv_number_walk (letter : Str) (n : Int) (r : Str) (h : kv_number letter n = some r) : PureP Tryz.prog 63 [.v (.string (bs letter)), .v (.int .i64 n)] (fun a => a = .v (.string (bs r))) := by
 unfold kv_number at h
 refine pureW (G := gm_kv_number) tyOk Tryz.func63 rfl (by kernel_rfl) (by simp [Tryz.f63]) ?_
 refine Tri.seqK ?_
 refine Tri.run (G := gm_kv_number) tyOk mixed ?_
 conv => whnf
 refine Tri.seqK ?_
 refine Tri.run (G := gm_kv_number) tyOk mixed ?_
 conv => whnf
 refine ⟨⟨(IntKind.u64.wrap n), rfl, ?_⟩⟩
 conv => whnf
 replace h := bind_some h
 obtain ⟨y1, q2, h⟩ := h
 refine PureP.mono (dec_Num_walk (IntKind.u64.wrap n) y1 q2) ?_
 rintro _ rfl
 conv => whnf
 replace h := bind_some h
 obtain ⟨y3, q4, h⟩ := h
 refine PureP.mono (strings_TrimSuffix_walk y1 [59] y3 q4) ?_
 rintro _ rfl
 conv => whnf
 replace h := need_some h
 obtain ⟨p5, h⟩ := h
 refine ⟨p5, ?_⟩
 conv => whnf
 refine ⟨⟨bs (letter ++ y3), bs_append _ _, ?_⟩⟩
 conv => whnf
 refine Tri.run (G := gm_kv_number) tyOk mixed ?_
 conv => whnf
 refine fin_here ?_
 conv => whnf
 cases h
 rfl
noncomputable def kv_RunName (n : Int) : Option (Str) :=
 if ((decide (n < 1)) || (decide (n > 1000000))) then
  some ([] : Str)
 else
  (kv_number [114] n).bind fun y13 =>
  some y13
def gm_kv_RunName : Gm := ⟨tys, [], [], []⟩
theorem kv_RunName_walk (n : Int) (r : Str) (h : kv_RunName n = some r) : PureP Tryz.prog 22 [.v (.int .i64 n)] (fun a => a = .v (.string (bs r))) := by
 unfold kv_RunName at h
 refine pureW (G := gm_kv_RunName) tyOk Tryz.func22 rfl (by kernel_rfl) (by simp [Tryz.f22]) ?_
 refine Tri.seqK ?_
 refine Tri.run (G := gm_kv_RunName) tyOk mixed ?_
 conv => whnf
 refine Tri.seqK ?_
 refine Tri.seqK ?_
 refine Tri.cut (fun ex S' => ex = .normal ∧ Weak S' ⟨11, 0, ofRegs [(0, .v (.int .i64 n)), (8, .v (.bool ((decide (n < 1)) || (decide (n > 1000000)))))], []⟩) ?_ ?_
 ·refine Tri.run (G := gm_kv_RunName) tyOk mixed ?_
  conv => whnf
  refine cond_mk (fun c10 => ?_) (fun c10 => ?_)
  ·replace c10 : (decide (n < 1)) = true := c10
   conv => whnf
   exact ⟨rfl, weak_fin _ rfl rfl rfl (LeH.rest) (.cons (.one (.same rfl)) (.cons (.one (.same (show (.v (.bool true) : AV) = (.v (.bool ((decide (n < 1)) || (decide (n > 1000000)))) : AV) from by first | (simp [c10]; done) | (simp only [c10, Bool.or_true, Bool.true_or, Bool.false_or, Bool.or_false, Bool.and_true, Bool.true_and, Bool.and_false, Bool.false_and, Bool.not_true, Bool.not_false, if_true, if_false, Bool.false_eq_true]; done) | (exfalso; revert c10; simp +contextual; done)))) (.nil))) rfl rfl⟩
  ·replace c10 : (decide (n < 1)) = false := c10
   conv => whnf
   exact ⟨rfl, weak_fin _ rfl rfl rfl (LeH.rest) (.cons (.one (.same rfl)) (.cons (.one (.same (show (.v (.bool (decide (n > 1000000))) : AV) = (.v (.bool ((decide (n < 1)) || (decide (n > 1000000)))) : AV) from by first | (simp [c10]; done) | (simp only [c10, Bool.or_true, Bool.true_or, Bool.false_or, Bool.or_false, Bool.and_true, Bool.true_and, Bool.and_false, Bool.false_and, Bool.not_true, Bool.not_false, if_true, if_false, Bool.false_eq_true]; done) | (exfalso; revert c10; simp +contextual; done)))) (.nil))) rfl rfl⟩
 ·rintro ex S' ⟨rfl, w11⟩
  conv => whnf
  refine Tri.weak w11 ?_
  refine Tri.cond rfl (fun c12 => ?_) (fun c12 => ?_)
  ·replace h := if_t c12 h
   refine Tri.seqK ?_
   refine Tri.run (G := gm_kv_RunName) tyOk mixed ?_
   conv => whnf
   refine Tri.run (G := gm_kv_RunName) tyOk mixed ?_
   conv => whnf
   refine fin_here ?_
   conv => whnf
   cases h
   rfl
  ·replace h := if_f c12 h
   refine Tri.run (G := gm_kv_RunName) tyOk mixed ?_
   conv => whnf
   refine Tri.seqK ?_
   refine Tri.run (G := gm_kv_RunName) tyOk mixed ?_
   conv => whnf
   replace h := bind_some h
   obtain ⟨y13, q14, h⟩ := h
   refine PureP.mono (kv_number_walk [114] n y13 q14) ?_
   rintro _ rfl
   conv => whnf
   refine Tri.run (G := gm_kv_RunName) tyOk mixed ?_
   conv => whnf
   refine fin_here ?_
   conv => whnf
   cases h
   rfl
noncomputable def table_Right_l2 (l : (List Pair)) (a112 : Int) : Option ((Int) ⊕ ((Unit) ⊕ (Unit))) :=
 if (decide (a112 < (l.length : Int))) then
  (ix l (IntKind.i64.wrap (a112 - 1))).bind fun x135 =>
  (ix l a112).bind fun x137 =>
  if (!ltS x135.Key x137.Key) then
   some (.inr (.inl ()))
  else
   some (.inl (IntKind.i64.wrap (a112 + 1)))
 else
  some (.inr (.inr ()))
noncomputable def table_Right (l : (List Pair)) : Option (Bool) :=
 (loop (fun (s117 : Int) => table_Right_l2 l s117) (1 : Int)).bind fun (y113 : (Unit) ⊕ (Unit)) =>
 match y113 with
 | (.inl v115) =>
  some false
 | (.inr v116) =>
  some true
def gm_table_Right : Gm := ⟨tys, [], [], []⟩
theorem table_Right_walk (l : (List Pair)) (r : Bool) (h : table_Right l = some r) : PureP Tryz.prog 158 [.sl (List.map encPair l)] (fun a => a = .v (.bool r)) := by
 unfold table_Right at h
 refine pureW (G := gm_table_Right) tyOk Tryz.func158 rfl (by kernel_rfl) (by simp [Tryz.f158]) ?_
 refine Tri.seqK ?_
 refine Tri.run (G := gm_table_Right) tyOk mixed ?_
 conv => whnf
 refine Tri.seqK ?_
 refine Tri.seqK ?_
 refine Tri.run (G := gm_table_Right) tyOk mixed ?_
 conv => whnf
 refine Tri.block ?_
 replace h := bind_some h
 obtain ⟨y113, q114, h⟩ := h
 refine Tri.cut (fun ex S' => (∃ v115 : Unit, y113 = (.inl v115) ∧ ex = .ret ∧ Weak S' ⟨22, 0, ofRegs [(2, .v (.bool false))], []⟩) ∨ (∃ v116 : Unit, y113 = (.inr v116) ∧ ex = (.exit 0) ∧ Weak S' ⟨22, 0, ofRegs [], []⟩)) ?_ ?_
 ·refine Tri.loopF (fun (s117 : Int) => (⟨22, 0, ofRegs [(0, .sl (List.map encPair l)), (3, .v (.int .i64 s117))], []⟩ : St)) q114 (weak_fin _ rfl rfl rfl (LeH.rest) (.cons (.one (.same rfl)) (.cons (.one (.same rfl)) (.nil))) rfl rfl) ?_
  rintro a112 v118 hv r119
  have hv : table_Right_l2 l a112 = some v118 := hv
  unfold table_Right_l2 at hv
  refine Tri.seqK ?_
  refine Tri.seqK ?_
  refine Tri.run (G := gm_table_Right) tyOk mixed ?_
  conv => whnf
  refine ⟨⟨(l.length : Int), (len_map _ _).symm, ?_⟩⟩
  conv => whnf
  refine Tri.cond rfl (fun c121 => ?_) (fun c121 => ?_)
  ·replace hv := if_t c121 hv
   refine Tri.run (G := gm_table_Right) tyOk mixed ?_
   conv => whnf
   refine Tri.seqK ?_
   refine Tri.block ?_
   refine Tri.seqK ?_
   refine Tri.run (G := gm_table_Right) tyOk mixed ?_
   conv => whnf
   refine Draw.one 12 (.take 0 (.take 1 (.take 2 (.take 3 (.take 4 (.take 5 (.take 6 (.take 7 (.take 8 (.take 9 (.take 10 (.take 11 (.fin))))))))))))) [] (by kernel_rfl) ?_
   conv => whnf
   replace hv := bind_some hv
   obtain ⟨x135, q136, hv⟩ := hv
   refine ⟨(ix_some q136).1, ?_⟩
   conv => whnf
   refine ⟨⟨_, map_get encPair (ix_some q136).2, ?_⟩⟩
   conv => whnf
   refine ⟨rfl, ?_⟩
   conv => whnf
   replace hv := bind_some hv
   obtain ⟨x137, q138, hv⟩ := hv
   refine ⟨(ix_some q138).1, ?_⟩
   conv => whnf
   refine ⟨⟨_, map_get encPair (ix_some q138).2, ?_⟩⟩
   conv => whnf
   refine ⟨rfl, ?_⟩
   conv => whnf
   refine ⟨⟨(!ltS x135.Key x137.Key), bs_ge _ _, ?_⟩⟩
   conv => whnf
   refine Tri.cond rfl (fun c139 => ?_) (fun c139 => ?_)
   ·replace hv := if_t c139 hv
    refine Tri.seqK ?_
    refine Tri.run (G := gm_table_Right) tyOk mixed ?_
    conv => whnf
    refine Tri.run (G := gm_table_Right) tyOk mixed ?_
    conv => whnf
    cases hv
    obtain rfl := r119 _ rfl
    exact Or.inl ⟨_, rfl, rfl, weak_fin _ rfl rfl rfl (LeH.rest) (.cons (.one (.same rfl)) (.nil)) rfl rfl⟩
   ·replace hv := if_f c139 hv
    refine Tri.run (G := gm_table_Right) tyOk mixed ?_
    conv => whnf
    refine Tri.run (G := gm_table_Right) tyOk mixed ?_
    conv => whnf
    cases hv
    exact ⟨_, rfl, weak_fin _ rfl rfl rfl (LeH.rest) (.cons (.one (.same rfl)) (.cons (.one (.same rfl)) (.nil))) rfl rfl⟩
  ·replace hv := if_f c121 hv
   refine Tri.run (G := gm_table_Right) tyOk mixed ?_
   conv => whnf
   cases hv
   obtain rfl := r119 _ rfl
   exact Or.inr (⟨_, rfl, rfl, weak_fin _ rfl rfl rfl (LeH.rest) (.nil) rfl rfl⟩)
 ·rintro ex S' (⟨v115, rfl, rfl, w140⟩ | ⟨v116, rfl, rfl, w140⟩)
  ·dsimp only at h
   conv => whnf
   refine fin_pre w140 ?_
   conv => whnf
   cases h
   rfl
  ·dsimp only at h
   conv => whnf
   refine Tri.weak w140 ?_
   refine Tri.seqK ?_
   refine Tri.run (G := gm_table_Right) tyOk mixed ?_
   conv => whnf
   refine Tri.run (G := gm_table_Right) tyOk mixed ?_
   conv => whnf
   refine fin_here ?_
   conv => whnf
   cases h
   rfl
noncomputable def run_may_1 (p : Pair) : Option (Bool) :=
 if (decide ((p.Key.length : Int) > 65536)) then
  some true
 else
  some (decide ((p.Val.length : Int) > 65536))
def gm_run_may_1 : Gm := ⟨tys, [], [], []⟩
theorem run_may_1_walk (p : Pair) (r : Bool) (h : run_may_1 p = some r) : PureP Tryz.prog 157 [.agg [.v (.string (bs p.Key)), .v (.string (bs p.Val))]] (fun a => a = .v (.bool r)) := by
 unfold run_may_1 at h
 refine pureW (G := gm_run_may_1) tyOk Tryz.func157 rfl (by kernel_rfl) (by simp [Tryz.f157]) ?_
 refine Tri.seqK ?_
 refine Tri.run (G := gm_run_may_1) tyOk mixed ?_
 conv => whnf
 refine Tri.seqK ?_
 refine Tri.run (G := gm_run_may_1) tyOk mixed ?_
 conv => whnf
 refine ⟨⟨(p.Key.length : Int), rfl, ?_⟩⟩
 conv => whnf
 refine cond_mk (fun c1 => ?_) (fun c1 => ?_)
 ·replace h := if_t c1 h
  conv => whnf
  refine Tri.run (G := gm_run_may_1) tyOk mixed ?_
  conv => whnf
  refine fin_here ?_
  conv => whnf
  cases h
  rfl
 ·replace h := if_f c1 h
  conv => whnf
  refine ⟨⟨(p.Val.length : Int), rfl, ?_⟩⟩
  conv => whnf
  refine Tri.run (G := gm_run_may_1) tyOk mixed ?_
  conv => whnf
  refine fin_here ?_
  conv => whnf
  cases h
  rfl
noncomputable def slices_IndexFunc_Pair__run_may_1_l4 (s : (List Pair)) (a164 : Int) : Option ((Int) ⊕ ((Int) ⊕ (Unit))) :=
 if (decide (a164 < (s.length : Int))) then
  (ix s a164).bind fun x179 =>
  (run_may_1 x179).bind fun y181 =>
  if y181 then
   some (.inr (.inl a164))
  else
   some (.inl (IntKind.i64.wrap (a164 + 1)))
 else
  some (.inr (.inr ()))
noncomputable def slices_IndexFunc_Pair__run_may_1 (s : (List Pair)) : Option (Int) :=
 (loop (fun (s169 : Int) => slices_IndexFunc_Pair__run_may_1_l4 s s169) (0 : Int)).bind fun (y165 : (Int) ⊕ (Unit)) =>
 match y165 with
 | (.inl v167) =>
  some v167
 | (.inr v168) =>
  some (-1)
def gm_slices_IndexFunc_Pair__run_may_1 : Gm := ⟨tys, [], [], []⟩
theorem slices_IndexFunc_Pair__run_may_1_walk (s : (List Pair)) (r : Int) (h : slices_IndexFunc_Pair__run_may_1 s = some r) : CallP Tryz.prog 142 [] [.sl (List.map encPair s), .fn (.func 157) [] []] (fun a H' => a = .v (.int .i64 r) ∧ H'.take ([] : List Ob).length = []) := by
 unfold slices_IndexFunc_Pair__run_may_1 at h
 refine callW (G := gm_slices_IndexFunc_Pair__run_may_1) tyOk Tryz.func142 rfl (by kernel_rfl) (by simp [Tryz.f142]) ?_
 refine Tri.seqK ?_
 refine Tri.run (G := gm_slices_IndexFunc_Pair__run_may_1) tyOk mixed ?_
 conv => whnf
 refine Tri.seqK ?_
 refine Tri.seqK ?_
 refine Tri.run (G := gm_slices_IndexFunc_Pair__run_may_1) tyOk mixed ?_
 conv => whnf
 refine ⟨⟨(s.length : Int), (len_map _ _).symm, ?_⟩⟩
 conv => whnf
 refine Tri.block ?_
 replace h := bind_some h
 obtain ⟨y165, q166, h⟩ := h
 refine Tri.cut (fun ex S' => (∃ v167 : Int, y165 = (.inl v167) ∧ ex = .ret ∧ Weak S' ⟨19, 0, ofRegs [(4, .v (.int .i64 v167))], []⟩) ∨ (∃ v168 : Unit, y165 = (.inr v168) ∧ ex = (.exit 0) ∧ Weak S' ⟨19, 0, ofRegs [], []⟩)) ?_ ?_
 ·refine Tri.loopF (fun (s169 : Int) => (⟨19, 0, ofRegs [(0, .sl (List.map encPair s)), (1, .fn (.func 157) [] []), (7, .v (.int .i64 (s.length : Int))), (8, .v (.int .i64 s169))], []⟩ : St)) q166 (weak_fin _ rfl rfl rfl (LeH.rest) (.cons (.one (.same rfl)) (.cons (.one (.same rfl)) (.cons (.one (.same rfl)) (.cons (.one (.same rfl)) (.nil))))) rfl rfl) ?_
  rintro a164 v170 hv r171
  have hv : slices_IndexFunc_Pair__run_may_1_l4 s a164 = some v170 := hv
  unfold slices_IndexFunc_Pair__run_may_1_l4 at hv
  refine Tri.seqK ?_
  refine Tri.run (G := gm_slices_IndexFunc_Pair__run_may_1) tyOk mixed ?_
  conv => whnf
  refine Tri.seqK ?_
  refine Tri.cond rfl (fun c173 => ?_) (fun c173 => ?_)
  ·replace hv := if_t c173 hv
   refine Tri.run (G := gm_slices_IndexFunc_Pair__run_may_1) tyOk mixed ?_
   conv => whnf
   refine Tri.seqK ?_
   refine Tri.block ?_
   refine Tri.seqK ?_
   refine Tri.run (G := gm_slices_IndexFunc_Pair__run_may_1) tyOk mixed ?_
   conv => whnf
   refine Tri.seqK ?_
   refine Tri.run (G := gm_slices_IndexFunc_Pair__run_may_1) tyOk mixed ?_
   conv => whnf
   replace hv := bind_some hv
   obtain ⟨x179, q180, hv⟩ := hv
   refine ⟨(ix_some q180).1, ?_⟩
   conv => whnf
   refine ⟨⟨_, map_get encPair (ix_some q180).2, ?_⟩⟩
   conv => whnf
   refine ⟨rfl, ?_⟩
   conv => whnf
   replace hv := bind_some hv
   obtain ⟨y181, q182, hv⟩ := hv
   refine PureP.mono (run_may_1_walk x179 y181 q182) ?_
   rintro _ rfl
   conv => whnf
   refine Tri.cond rfl (fun c183 => ?_) (fun c183 => ?_)
   ·replace hv := if_t c183 hv
    refine Tri.seqK ?_
    refine Tri.run (G := gm_slices_IndexFunc_Pair__run_may_1) tyOk mixed ?_
    conv => whnf
    refine Tri.run (G := gm_slices_IndexFunc_Pair__run_may_1) tyOk mixed ?_
    conv => whnf
    cases hv
    obtain rfl := r171 _ rfl
    exact Or.inl ⟨_, rfl, rfl, weak_fin _ rfl rfl rfl (LeH.rest) (.cons (.one (.same rfl)) (.nil)) rfl rfl⟩
   ·replace hv := if_f c183 hv
    refine Tri.run (G := gm_slices_IndexFunc_Pair__run_may_1) tyOk mixed ?_
    conv => whnf
    refine Tri.run (G := gm_slices_IndexFunc_Pair__run_may_1) tyOk mixed ?_
    conv => whnf
    cases hv
    exact ⟨_, rfl, weak_fin _ rfl rfl rfl (LeH.rest) (.cons (.one (.same rfl)) (.cons (.one (.same rfl)) (.cons (.one (.same rfl)) (.cons (.one (.same rfl)) (.nil))))) rfl rfl⟩
  ·replace hv := if_f c173 hv
   refine Tri.run (G := gm_slices_IndexFunc_Pair__run_may_1) tyOk mixed ?_
   conv => whnf
   cases hv
   obtain rfl := r171 _ rfl
   exact Or.inr (⟨_, rfl, rfl, weak_fin _ rfl rfl rfl (LeH.rest) (.nil) rfl rfl⟩)
 ·rintro ex S' (⟨v167, rfl, rfl, w184⟩ | ⟨v168, rfl, rfl, w184⟩)
  ·dsimp only at h
   conv => whnf
   refine fin_pre (S' := ⟨19, 0, ofRegs [(4, .v (.int .i64 v167))], []⟩) (Weak.trans w184 (weak_fin _ rfl rfl rfl (LeH.rest) (.cons (.one (.same rfl)) (.nil)) rfl rfl)) ?_
   conv => whnf
   cases h
   exact ⟨rfl, rfl⟩
  ·dsimp only at h
   conv => whnf
   refine Tri.weak w184 ?_
   refine Tri.seqK ?_
   refine Tri.run (G := gm_slices_IndexFunc_Pair__run_may_1) tyOk mixed ?_
   conv => whnf
   refine Tri.run (G := gm_slices_IndexFunc_Pair__run_may_1) tyOk mixed ?_
   conv => whnf
   refine fin_pre (S' := ⟨19, 0, ofRegs [(4, .v (.int .i64 (-1)))], []⟩) (weak_fin _ rfl rfl rfl (LeH.rest) (.cons (.one (.same rfl)) (.nil)) rfl rfl) ?_
   conv => whnf
   cases h
   exact ⟨rfl, rfl⟩
noncomputable def slices_ContainsFunc_Pair__run_may_1 (s : (List Pair)) : Option (Bool) :=
 (slices_IndexFunc_Pair__run_may_1 s).bind fun y3 =>
 some (decide (y3 ≥ 0))
def gm_slices_ContainsFunc_Pair__run_may_1 : Gm := ⟨tys, [142], [], []⟩
theorem slices_ContainsFunc_Pair__run_may_1_walk (s : (List Pair)) (r : Bool) (h : slices_ContainsFunc_Pair__run_may_1 s = some r) : CallP Tryz.prog 159 [] [.sl (List.map encPair s), .fn (.func 157) [] []] (fun a H' => a = .v (.bool r) ∧ H'.take ([] : List Ob).length = []) := by
 unfold slices_ContainsFunc_Pair__run_may_1 at h
 refine callW (G := gm_slices_ContainsFunc_Pair__run_may_1) tyOk Tryz.func159 rfl (by kernel_rfl) (by simp [Tryz.f159]) ?_
 refine Tri.seqK ?_
 refine Tri.run (G := gm_slices_ContainsFunc_Pair__run_may_1) tyOk mixed ?_
 conv => whnf
 refine Tri.seqK ?_
 refine Tri.run (G := gm_slices_ContainsFunc_Pair__run_may_1) tyOk mixed ?_
 conv => whnf
 replace h := bind_some h
 obtain ⟨y3, q4, h⟩ := h
 refine CallP.use (slices_IndexFunc_Pair__run_may_1_walk s y3 q4) [] rfl rfl rfl rfl rfl rfl rfl rfl rfl ?_
 conv => whnf
 refine Tri.run (G := gm_slices_ContainsFunc_Pair__run_may_1) tyOk mixed ?_
 conv => whnf
 refine fin_pre (S' := ⟨9, 0, ofRegs [(4, .v (.bool (decide (y3 ≥ 0))))], []⟩) (weak_fin _ rfl rfl rfl (LeH.rest) (.cons (.one (.same rfl)) (.nil)) rfl rfl) ?_
 conv => whnf
 cases h
 exact ⟨rfl, rfl⟩
noncomputable def run_may (l : (List Pair)) : Option (Bool) :=
 (table_Right l).bind fun y1 =>
 if y1 then
  (slices_ContainsFunc_Pair__run_may_1 l).bind fun y4 =>
  some (!y4)
 else
  some false
def gm_run_may : Gm := ⟨tys, [159], [], []⟩
theorem run_may_walk (l : (List Pair)) (r : Bool) (h : run_may l = some r) : PureP Tryz.prog 120 [.sl (List.map encPair l)] (fun a => a = .v (.bool r)) := by
 unfold run_may at h
 refine pureW (G := gm_run_may) tyOk Tryz.func120 rfl (by kernel_rfl) (by simp [Tryz.f120]) ?_
 refine Tri.seqK ?_
 refine Tri.run (G := gm_run_may) tyOk mixed ?_
 conv => whnf
 refine Tri.seqK ?_
 refine Tri.run (G := gm_run_may) tyOk mixed ?_
 conv => whnf
 refine Tri.seqK ?_
 refine Tri.run (G := gm_run_may) tyOk mixed ?_
 conv => whnf
 replace h := bind_some h
 obtain ⟨y1, q2, h⟩ := h
 refine PureP.mono (table_Right_walk l y1 q2) ?_
 rintro _ rfl
 conv => whnf
 refine cond_mk (fun c3 => ?_) (fun c3 => ?_)
 ·replace h := if_t c3 h
  conv => whnf
  replace h := bind_some h
  obtain ⟨y4, q5, h⟩ := h
  refine CallP.use (slices_ContainsFunc_Pair__run_may_1_walk l y4 q5) [] rfl rfl rfl rfl rfl rfl rfl rfl rfl ?_
  conv => whnf
  refine Tri.run (G := gm_run_may) tyOk mixed ?_
  conv => whnf
  refine fin_here ?_
  conv => whnf
  cases h
  rfl
 ·replace h := if_f c3 h
  conv => whnf
  refine Tri.run (G := gm_run_may) tyOk mixed ?_
  conv => whnf
  refine fin_here ?_
  conv => whnf
  cases h
  rfl
noncomputable def run_Take_l2 (y3 : Int × Str × Int) (a180 : Str) (a181 : Int) (a182 : (List Pair)) : Option ((Str × Int × (List Pair)) ⊕ (Str × (List Pair))) :=
 if (decide (a181 < y3.1)) then
  (dec_TakeText a180 65536).bind fun y199 =>
  if (!(decide (y199.2.2 = 0))) then
   some (.inr (a180, a182))
  else
   (dec_TakeText y199.2.1 65536).bind fun y203 =>
   if (!(decide (y203.2.2 = 0))) then
    some (.inr (a180, a182))
   else
    need ((a182.length + 1) * 32 ≤ 140737488355328) <|
    some (.inl (y203.2.1, (IntKind.u64.wrap (a181 + 1)), (a182 ++ [({ Key := y199.1, Val := y203.1 } : Pair)])))
 else
  some (.inr (a180, a182))
noncomputable def run_Take (s : Str) : Option ((List Pair) × Int) :=
 (sum_Open s 1073741824).bind fun y1 =>
 (dec_TakeNum y1.1).bind fun y3 =>
 if ((!(decide (y1.2.2 = 0))) || ((!(decide (y3.2.2 = 0))) || (!decide (y1.2.1 = [])))) then
  some ([], 3)
 else
  (loop (fun (s185 : Str × Int × (List Pair)) => run_Take_l2 y3 s185.1 s185.2.1 s185.2.2) (y3.2.1, (0 : Int), ([] : (List Pair)))).bind fun (y183 : Str × (List Pair)) =>
  (
   if (!(decide ((IntKind.u64.wrap (y183.2.length : Int)) = y3.1))) then
    some true
   else
    if (!decide (y183.1 = [])) then
     some true
    else
     (run_may y183.2).bind fun y237 =>
     some (!y237)).bind fun (y233 : Bool) =>
  if y233 then
   some ([], 3)
  else
   some (y183.2, 0)
def gm_run_Take : Gm := ⟨tys, [], [], []⟩
theorem run_Take_walk (s : Str) (r : (List Pair) × Int) (h : run_Take s = some r) : PureP Tryz.prog 133 [.v (.string (bs s))] (fun a => a = .tup [.sl (List.map encPair r.1), .v (.int .i64 r.2)]) := by
 unfold run_Take at h
 refine pureW (G := gm_run_Take) tyOk Tryz.func133 rfl (by kernel_rfl) (by simp [Tryz.f133]) ?_
 refine Tri.seqK ?_
 refine Tri.run (G := gm_run_Take) tyOk mixed ?_
 conv => whnf
 refine Tri.scope ?_
 refine Tri.seqK ?_
 refine Tri.run (G := gm_run_Take) tyOk mixed ?_
 conv => whnf
 replace h := bind_some h
 obtain ⟨y1, q2, h⟩ := h
 refine PureP.mono (sum_Open_walk s 1073741824 y1 q2) ?_
 rintro _ rfl
 conv => whnf
 refine Tri.seqK ?_
 refine Tri.run (G := gm_run_Take) tyOk mixed ?_
 conv => whnf
 replace h := bind_some h
 obtain ⟨y3, q4, h⟩ := h
 refine PureP.mono (dec_TakeNum_walk y1.1 y3 q4) ?_
 rintro _ rfl
 conv => whnf
 refine Tri.seqK ?_
 refine Tri.seqK ?_
 refine Tri.cut (fun ex S' => ex = .normal ∧ Weak S' ⟨78, 0, ofRegs [(4, .v (.string (bs y3.2.1))), (7, .v (.int .u64 y3.1)), (35, .v (.bool ((!(decide (y1.2.2 = 0))) || ((!(decide (y3.2.2 = 0))) || (!decide (y1.2.1 = []))))))], []⟩) ?_ ?_
 ·refine Tri.run (G := gm_run_Take) tyOk mixed ?_
  conv => whnf
  refine cond_mk (fun c21 => ?_) (fun c21 => ?_)
  ·replace c21 : (!(decide (y1.2.2 = 0))) = true := c21
   conv => whnf
   exact ⟨rfl, weak_fin _ rfl rfl rfl (LeH.rest) (.cons (.one (.same rfl)) (.cons (.one (.same rfl)) (.cons (.one (.same (show (.v (.bool true) : AV) = (.v (.bool ((!(decide (y1.2.2 = 0))) || ((!(decide (y3.2.2 = 0))) || (!decide (y1.2.1 = []))))) : AV) from by first | (simp [c21]; done) | (simp only [c21, Bool.or_true, Bool.true_or, Bool.false_or, Bool.or_false, Bool.and_true, Bool.true_and, Bool.and_false, Bool.false_and, Bool.not_true, Bool.not_false, if_true, if_false, Bool.false_eq_true]; done) | (exfalso; revert c21; simp +contextual; done)))) (.nil)))) rfl rfl⟩
  ·replace c21 : (!(decide (y1.2.2 = 0))) = false := c21
   conv => whnf
   refine cond_mk (fun c22 => ?_) (fun c22 => ?_)
   ·replace c22 : (!(decide (y3.2.2 = 0))) = true := c22
    conv => whnf
    exact ⟨rfl, weak_fin _ rfl rfl rfl (LeH.rest) (.cons (.one (.same rfl)) (.cons (.one (.same rfl)) (.cons (.one (.same (show (.v (.bool true) : AV) = (.v (.bool ((!(decide (y1.2.2 = 0))) || ((!(decide (y3.2.2 = 0))) || (!decide (y1.2.1 = []))))) : AV) from by first | (simp [c21, c22]; done) | (simp only [c21, c22, Bool.or_true, Bool.true_or, Bool.false_or, Bool.or_false, Bool.and_true, Bool.true_and, Bool.and_false, Bool.false_and, Bool.not_true, Bool.not_false, if_true, if_false, Bool.false_eq_true]; done) | (exfalso; revert c21 c22; simp +contextual; done)))) (.nil)))) rfl rfl⟩
   ·replace c22 : (!(decide (y3.2.2 = 0))) = false := c22
    conv => whnf
    refine ⟨⟨(!decide (y1.2.1 = [])), bs_ne _ _, ?_⟩⟩
    conv => whnf
    exact ⟨rfl, weak_fin _ rfl rfl rfl (LeH.rest) (.cons (.one (.same rfl)) (.cons (.one (.same rfl)) (.cons (.one (.same (show (.v (.bool (!decide (y1.2.1 = []))) : AV) = (.v (.bool ((!(decide (y1.2.2 = 0))) || ((!(decide (y3.2.2 = 0))) || (!decide (y1.2.1 = []))))) : AV) from by first | (simp [c21, c22]; done) | (simp only [c21, c22, Bool.or_true, Bool.true_or, Bool.false_or, Bool.or_false, Bool.and_true, Bool.true_and, Bool.and_false, Bool.false_and, Bool.not_true, Bool.not_false, if_true, if_false, Bool.false_eq_true]; done) | (exfalso; revert c21 c22; simp +contextual; done)))) (.nil)))) rfl rfl⟩
 ·rintro ex S' ⟨rfl, w23⟩
  conv => whnf
  refine Tri.weak w23 ?_
  refine Tri.cond rfl (fun c24 => ?_) (fun c24 => ?_)
  ·replace h := if_t c24 h
   refine Tri.seqK ?_
   refine Tri.run (G := gm_run_Take) tyOk mixed ?_
   conv => whnf
   refine Tri.run (G := gm_run_Take) tyOk mixed ?_
   conv => whnf
   refine fin_here ?_
   conv => whnf
   cases h
   rfl
  ·replace h := if_f c24 h
   refine Tri.run (G := gm_run_Take) tyOk mixed ?_
   conv => whnf
   refine Tri.seqK ?_
   refine Tri.run (G := gm_run_Take) tyOk mixed ?_
   conv => whnf
   refine Tri.seqK ?_
   refine Tri.run (G := gm_run_Take) tyOk mixed ?_
   conv => whnf
   refine Tri.seqK ?_
   refine Tri.seqK ?_
   refine Tri.run (G := gm_run_Take) tyOk mixed ?_
   conv => whnf
   refine Tri.block ?_
   replace h := bind_some h
   obtain ⟨y183, q184, h⟩ := h
   refine Tri.cut (fun ex S' => ex = (.exit 0) ∧ Weak S' ⟨78, 0, ofRegs [(4, .v (.string (bs y183.1))), (7, .v (.int .u64 y3.1)), (9, .row 0 ((List.map encPair y183.2).length))], [.row 90 2 (List.map encPair y183.2)]⟩) ?_ ?_
   ·refine Tri.loopF (fun (s185 : Str × Int × (List Pair)) => (⟨78, 0, ofRegs [(4, .v (.string (bs s185.1))), (7, .v (.int .u64 y3.1)), (9, .row 0 ((List.map encPair s185.2.2).length)), (36, .v (.int .u64 y3.1)), (37, .v (.int .u64 s185.2.1))], [.row 90 2 (List.map encPair s185.2.2)]⟩ : St)) q184 (Weak.trans (weak_nil 9 90 2 rfl) (weak_fin _ rfl rfl rfl (.cons (.same rfl) (LeH.rest)) (.cons (.one (.same rfl)) (.cons (.one (.same rfl)) (.cons (.one (.same (show (.row 0 0 : AV) = (.row 0 ((List.map encPair []).length) : AV) from congrArg (AV.row 0) (by simp)))) (.cons (.one (.same rfl)) (.cons (.one (.same rfl)) (.nil)))))) rfl rfl)) ?_
    rintro ⟨a180, a181, a182⟩ v186 hv r187
    have hv : run_Take_l2 y3 a180 a181 a182 = some v186 := hv
    unfold run_Take_l2 at hv
    dsimp only
    refine Tri.seqK ?_
    refine Tri.run (G := gm_run_Take) tyOk mixed ?_
    conv => whnf
    refine Tri.seqK ?_
    refine Tri.cond rfl (fun c189 => ?_) (fun c189 => ?_)
    ·replace hv := if_t c189 hv
     refine Tri.run (G := gm_run_Take) tyOk mixed ?_
     conv => whnf
     refine Tri.seqK ?_
     refine Tri.block ?_
     refine Tri.seqK ?_
     refine Tri.run (G := gm_run_Take) tyOk mixed ?_
     conv => whnf
     replace hv := bind_some hv
     obtain ⟨y199, q200, hv⟩ := hv
     refine PureP.mono (dec_TakeText_walk a180 65536 y199 q200) ?_
     rintro _ rfl
     conv => whnf
     refine Tri.seqK ?_
     refine Tri.seqK ?_
     refine Tri.run (G := gm_run_Take) tyOk mixed ?_
     conv => whnf
     refine Tri.cond rfl (fun c202 => ?_) (fun c202 => ?_)
     ·replace hv := if_t c202 hv
      refine Tri.run (G := gm_run_Take) tyOk mixed ?_
      conv => whnf
      cases hv
      obtain rfl := r187 _ rfl
      exact ⟨rfl, weak_fin _ rfl rfl rfl (.cons (.same rfl) (LeH.rest)) (.cons (.one (.same rfl)) (.cons (.one (.same rfl)) (.cons (.one (.same rfl)) (.nil)))) rfl rfl⟩
     ·replace hv := if_f c202 hv
      refine Tri.run (G := gm_run_Take) tyOk mixed ?_
      conv => whnf
      refine Tri.seqK ?_
      refine Tri.run (G := gm_run_Take) tyOk mixed ?_
      conv => whnf
      replace hv := bind_some hv
      obtain ⟨y203, q204, hv⟩ := hv
      refine PureP.mono (dec_TakeText_walk y199.2.1 65536 y203 q204) ?_
      rintro _ rfl
      conv => whnf
      refine Tri.seqK ?_
      refine Tri.seqK ?_
      refine Tri.run (G := gm_run_Take) tyOk mixed ?_
      conv => whnf
      refine Tri.cond rfl (fun c206 => ?_) (fun c206 => ?_)
      ·replace hv := if_t c206 hv
       refine Tri.run (G := gm_run_Take) tyOk mixed ?_
       conv => whnf
       cases hv
       obtain rfl := r187 _ rfl
       exact ⟨rfl, weak_fin _ rfl rfl rfl (.cons (.same rfl) (LeH.rest)) (.cons (.one (.same rfl)) (.cons (.one (.same rfl)) (.cons (.one (.same rfl)) (.nil)))) rfl rfl⟩
      ·replace hv := if_f c206 hv
       refine Tri.run (G := gm_run_Take) tyOk mixed ?_
       conv => whnf
       refine Tri.run (G := gm_run_Take) tyOk mixed ?_
       conv => whnf
       refine ⟨⟨List.map encPair [({ Key := y199.1, Val := y203.1 } : Pair)], rfl, ?_⟩⟩
       conv => whnf
       refine ⟨rfl, ?_⟩
       conv => whnf
       refine ⟨rfl, ?_⟩
       conv => whnf
       replace hv := need_some hv
       obtain ⟨p207, hv⟩ := hv
       refine ⟨by simp only [List.length_map]; exact p207, ?_⟩
       conv => whnf
       refine ⟨⟨List.map encPair (a182 ++ [({ Key := y199.1, Val := y203.1 } : Pair)]), map_app encPair _ _ rfl rfl, ?_⟩⟩
       conv => whnf
       refine Tri.run (G := gm_run_Take) tyOk mixed ?_
       conv => whnf
       cases hv
       exact ⟨_, rfl, weak_fin _ rfl rfl rfl (.cons (.same rfl) (LeH.rest)) (.cons (.one (.same rfl)) (.cons (.one (.same rfl)) (.cons (.one (.same rfl)) (.cons (.one (.same rfl)) (.cons (.one (.same rfl)) (.nil)))))) rfl rfl⟩
    ·replace hv := if_f c189 hv
     refine Tri.run (G := gm_run_Take) tyOk mixed ?_
     conv => whnf
     cases hv
     obtain rfl := r187 _ rfl
     exact ⟨rfl, weak_fin _ rfl rfl rfl (.cons (.same rfl) (LeH.rest)) (.cons (.one (.same rfl)) (.cons (.one (.same rfl)) (.cons (.one (.same rfl)) (.nil)))) rfl rfl⟩
   ·rintro ex S' ⟨rfl, w208⟩
    conv => whnf
    refine Tri.weak w208 ?_
    refine Tri.seqK ?_
    refine Tri.seqK ?_
    replace h := bind_some h
    obtain ⟨y233, q234, h⟩ := h
    refine Tri.cut (fun ex S' => ex = .normal ∧ Weak S' ⟨78, 0, ofRegs [(9, .row 0 ((List.map encPair y183.2).length)), (76, .v (.bool y233))], [.row 90 2 (List.map encPair y183.2)]⟩) ?_ ?_
    ·refine Tri.run (G := gm_run_Take) tyOk mixed ?_
     conv => whnf
     refine ⟨rfl, ?_⟩
     conv => whnf
     refine ⟨⟨(y183.2.length : Int), by simp, ?_⟩⟩
     conv => whnf
     refine ⟨⟨(IntKind.u64.wrap (y183.2.length : Int)), rfl, ?_⟩⟩
     conv => whnf
     refine cond_mk (fun c235 => ?_) (fun c235 => ?_)
     ·replace q234 := if_t c235 q234
      conv => whnf
      cases q234
      exact ⟨rfl, weak_fin _ rfl rfl rfl (.cons (.same rfl) (LeH.rest)) (.cons (.one (.same rfl)) (.cons (.one (.same rfl)) (.nil))) rfl rfl⟩
     ·replace q234 := if_f c235 q234
      conv => whnf
      refine ⟨⟨(!decide (y183.1 = [])), bs_ne _ _, ?_⟩⟩
      conv => whnf
      refine cond_mk (fun c236 => ?_) (fun c236 => ?_)
      ·replace q234 := if_t c236 q234
       conv => whnf
       cases q234
       exact ⟨rfl, weak_fin _ rfl rfl rfl (.cons (.same rfl) (LeH.rest)) (.cons (.one (.same rfl)) (.cons (.one (.same rfl)) (.nil))) rfl rfl⟩
      ·replace q234 := if_f c236 q234
       conv => whnf
       refine ⟨rfl, ?_⟩
       conv => whnf
       replace q234 := bind_some q234
       obtain ⟨y237, q238, q234⟩ := q234
       refine PureP.mono (run_may_walk y183.2 y237 q238) ?_
       rintro _ rfl
       conv => whnf
       cases q234
       exact ⟨rfl, weak_fin _ rfl rfl rfl (.cons (.same rfl) (LeH.rest)) (.cons (.one (.same rfl)) (.cons (.one (.same rfl)) (.nil))) rfl rfl⟩
    ·rintro ex S' ⟨rfl, w239⟩
     conv => whnf
     refine Tri.weak w239 ?_
     refine Tri.cond rfl (fun c240 => ?_) (fun c240 => ?_)
     ·replace h := if_t c240 h
      refine Tri.seqK ?_
      refine Tri.run (G := gm_run_Take) tyOk mixed ?_
      conv => whnf
      refine Tri.run (G := gm_run_Take) tyOk mixed ?_
      conv => whnf
      refine fin_here ?_
      conv => whnf
      cases h
      rfl
     ·replace h := if_f c240 h
      refine Tri.run (G := gm_run_Take) tyOk mixed ?_
      conv => whnf
      refine Tri.seqK ?_
      refine Tri.run (G := gm_run_Take) tyOk mixed ?_
      conv => whnf
      refine Tri.run (G := gm_run_Take) tyOk mixed ?_
      conv => whnf
      refine fin_here ?_
      conv => whnf
      refine ⟨rfl, ?_⟩
      conv => whnf
      cases h
      rfl
noncomputable def run_Load (d : Disk) (name : Str) : Option ((List Pair) × Int) :=
 (disk_Read d name).bind fun y1 =>
 if (!(decide (y1.2 = 0))) then
  some ([], y1.2)
 else
  (run_Take y1.1).bind fun y5 =>
  some (y5.1, y5.2)
def gm_run_Load : Gm := ⟨tys, [], [], []⟩
theorem run_Load_walk (d : Disk) (name : Str) (r : (List Pair) × Int) (h : run_Load d name = some r) : PureP Tryz.prog 87 [.agg [.sl (List.map encFile d.Files), .v (.int .i64 d.Room), .v (.int .i64 d.Fuse), .v (.bool d.Off)], .v (.string (bs name))] (fun a => a = .tup [.sl (List.map encPair r.1), .v (.int .i64 r.2)]) := by
 unfold run_Load at h
 refine pureW (G := gm_run_Load) tyOk Tryz.func87 rfl (by kernel_rfl) (by simp [Tryz.f87]) ?_
 refine Tri.seqK ?_
 refine Tri.run (G := gm_run_Load) tyOk mixed ?_
 conv => whnf
 refine Tri.seqK ?_
 refine Tri.run (G := gm_run_Load) tyOk mixed ?_
 conv => whnf
 replace h := bind_some h
 obtain ⟨y1, q2, h⟩ := h
 refine PureP.mono (disk_Read_walk d name y1 q2) ?_
 rintro _ rfl
 conv => whnf
 refine Tri.seqK ?_
 refine Tri.seqK ?_
 refine Tri.run (G := gm_run_Load) tyOk mixed ?_
 conv => whnf
 refine Tri.cond rfl (fun c4 => ?_) (fun c4 => ?_)
 ·replace h := if_t c4 h
  refine Tri.seqK ?_
  refine Tri.run (G := gm_run_Load) tyOk mixed ?_
  conv => whnf
  refine Tri.run (G := gm_run_Load) tyOk mixed ?_
  conv => whnf
  refine fin_here ?_
  conv => whnf
  cases h
  rfl
 ·replace h := if_f c4 h
  refine Tri.run (G := gm_run_Load) tyOk mixed ?_
  conv => whnf
  refine Tri.seqK ?_
  refine Tri.run (G := gm_run_Load) tyOk mixed ?_
  conv => whnf
  replace h := bind_some h
  obtain ⟨y5, q6, h⟩ := h
  refine PureP.mono (run_Take_walk y1.1 y5 q6) ?_
  rintro _ rfl
  conv => whnf
  refine Tri.run (G := gm_run_Load) tyOk mixed ?_
  conv => whnf
  refine fin_here ?_
  conv => whnf
  cases h
  rfl
noncomputable def internal_stringslite_HasPrefix (s : Str) (prefix_ : Str) : Option (Bool) :=
 if (decide ((s.length : Int) ≥ (prefix_.length : Int))) then
  need ((0 : Int) ≤ (0 : Int) ∧ 0 ≤ (prefix_.length : Int) ∧ (prefix_.length : Int) ≤ (s.length : Int)) <|
  some (decide ((cut s 0 (prefix_.length : Int)) = prefix_))
 else
  some false
def gm_internal_stringslite_HasPrefix : Gm := ⟨tys, [], [], []⟩
theorem internal_stringslite_HasPrefix_walk (s : Str) (prefix_ : Str) (r : Bool) (h : internal_stringslite_HasPrefix s prefix_ = some r) : PureP Tryz.prog 178 [.v (.string (bs s)), .v (.string (bs prefix_))] (fun a => a = .v (.bool r)) := by
 unfold internal_stringslite_HasPrefix at h
 refine pureW (G := gm_internal_stringslite_HasPrefix) tyOk Tryz.func178 rfl (by kernel_rfl) (by simp [Tryz.f178]) ?_
 refine Tri.seqK ?_
 refine Tri.run (G := gm_internal_stringslite_HasPrefix) tyOk mixed ?_
 conv => whnf
 refine Tri.seqK ?_
 refine Tri.run (G := gm_internal_stringslite_HasPrefix) tyOk mixed ?_
 conv => whnf
 refine ⟨⟨(s.length : Int), rfl, ?_⟩⟩
 conv => whnf
 refine ⟨⟨(prefix_.length : Int), rfl, ?_⟩⟩
 conv => whnf
 refine cond_mk (fun c1 => ?_) (fun c1 => ?_)
 ·replace h := if_t c1 h
  conv => whnf
  refine ⟨⟨(prefix_.length : Int), rfl, ?_⟩⟩
  conv => whnf
  replace h := need_some h
  obtain ⟨p2, h⟩ := h
  refine ⟨p2, ?_⟩
  conv => whnf
  refine ⟨⟨bs (cut s 0 (prefix_.length : Int)), bs_cut _ _ _, ?_⟩⟩
  conv => whnf
  refine ⟨⟨(decide ((cut s 0 (prefix_.length : Int)) = prefix_)), bs_eq _ _, ?_⟩⟩
  conv => whnf
  refine Tri.run (G := gm_internal_stringslite_HasPrefix) tyOk mixed ?_
  conv => whnf
  refine fin_here ?_
  conv => whnf
  cases h
  rfl
 ·replace h := if_f c1 h
  conv => whnf
  refine Tri.run (G := gm_internal_stringslite_HasPrefix) tyOk mixed ?_
  conv => whnf
  refine fin_here ?_
  conv => whnf
  cases h
  rfl
noncomputable def internal_stringslite_CutPrefix (s : Str) (prefix_ : Str) : Option (Str × Bool) :=
 (internal_stringslite_HasPrefix s prefix_).bind fun y4 =>
 if (!y4) then
  some (s, false)
 else
  need ((0 : Int) ≤ (prefix_.length : Int) ∧ (prefix_.length : Int) ≤ (s.length : Int) ∧ (s.length : Int) ≤ (s.length : Int)) <|
  some ((cut s (prefix_.length : Int) (s.length : Int)), true)
def gm_internal_stringslite_CutPrefix : Gm := ⟨tys, [], [], []⟩
theorem internal_stringslite_CutPrefix_walk (s : Str) (prefix_ : Str) (r : Str × Bool) (h : internal_stringslite_CutPrefix s prefix_ = some r) : PureP Tryz.prog 166 [.v (.string (bs s)), .v (.string (bs prefix_))] (fun a => a = .tup [.v (.string (bs r.1)), .v (.bool r.2)]) := by
 unfold internal_stringslite_CutPrefix at h
 refine pureW (G := gm_internal_stringslite_CutPrefix) tyOk Tryz.func166 rfl (by kernel_rfl) (by simp [Tryz.f166]) ?_
 refine Tri.seqK ?_
 refine Tri.run (G := gm_internal_stringslite_CutPrefix) tyOk mixed ?_
 conv => whnf
 refine Tri.seqK ?_
 refine Tri.seqK ?_
 refine Tri.run (G := gm_internal_stringslite_CutPrefix) tyOk mixed ?_
 conv => whnf
 replace h := bind_some h
 obtain ⟨y4, q5, h⟩ := h
 refine PureP.mono (internal_stringslite_HasPrefix_walk s prefix_ y4 q5) ?_
 rintro _ rfl
 conv => whnf
 refine Tri.cond rfl (fun c6 => ?_) (fun c6 => ?_)
 ·replace h := if_t c6 h
  refine Tri.seqK ?_
  refine Tri.run (G := gm_internal_stringslite_CutPrefix) tyOk mixed ?_
  conv => whnf
  refine Tri.run (G := gm_internal_stringslite_CutPrefix) tyOk mixed ?_
  conv => whnf
  refine fin_here ?_
  conv => whnf
  cases h
  rfl
 ·replace h := if_f c6 h
  refine Tri.run (G := gm_internal_stringslite_CutPrefix) tyOk mixed ?_
  conv => whnf
  refine Tri.seqK ?_
  refine Tri.run (G := gm_internal_stringslite_CutPrefix) tyOk mixed ?_
  conv => whnf
  refine ⟨⟨(prefix_.length : Int), rfl, ?_⟩⟩
  conv => whnf
  replace h := need_some h
  obtain ⟨p7, h⟩ := h
  refine ⟨p7, ?_⟩
  conv => whnf
  refine ⟨⟨bs (cut s (prefix_.length : Int) (s.length : Int)), bs_cut _ _ _, ?_⟩⟩
  conv => whnf
  refine Tri.run (G := gm_internal_stringslite_CutPrefix) tyOk mixed ?_
  conv => whnf
  refine fin_here ?_
  conv => whnf
  cases h
  rfl
noncomputable def strings_CutPrefix (s : Str) (prefix_ : Str) : Option (Str × Bool) :=
 (internal_stringslite_CutPrefix s prefix_).bind fun y1 =>
 some (y1.1, y1.2)
def gm_strings_CutPrefix : Gm := ⟨tys, [], [], []⟩
theorem strings_CutPrefix_walk (s : Str) (prefix_ : Str) (r : Str × Bool) (h : strings_CutPrefix s prefix_ = some r) : PureP Tryz.prog 134 [.v (.string (bs s)), .v (.string (bs prefix_))] (fun a => a = .tup [.v (.string (bs r.1)), .v (.bool r.2)]) := by
 unfold strings_CutPrefix at h
 refine pureW (G := gm_strings_CutPrefix) tyOk Tryz.func134 rfl (by kernel_rfl) (by simp [Tryz.f134]) ?_
 refine Tri.seqK ?_
 refine Tri.run (G := gm_strings_CutPrefix) tyOk mixed ?_
 conv => whnf
 refine Tri.seqK ?_
 refine Tri.run (G := gm_strings_CutPrefix) tyOk mixed ?_
 conv => whnf
 replace h := bind_some h
 obtain ⟨y1, q2, h⟩ := h
 refine PureP.mono (internal_stringslite_CutPrefix_walk s prefix_ y1 q2) ?_
 rintro _ rfl
 conv => whnf
 refine Tri.run (G := gm_strings_CutPrefix) tyOk mixed ?_
 conv => whnf
 refine fin_here ?_
 conv => whnf
 cases h
 rfl
noncomputable def batch_Back_l2 (l : (List Pair)) (a1000 : Int) (a1001 : (List Pair)) (a1002 : (List Pair)) : Option ((Int × (List Pair) × (List Pair)) ⊕ ((Unit) ⊕ ((List Pair) × (List Pair)))) :=
 if (decide (a1000 < (l.length : Int))) then
  (
   (ix l a1000).bind fun x1102 =>
   (strings_CutPrefix x1102.Key [100]).bind fun y1113 =>
   if (y1113.2 && (decide ((a1002.length : Int) = 0))) then
    need ((a1001.length + 1) * 32 ≤ 140737488355328) <|
    some (.inl ((a1001 ++ [({ Key := y1113.1, Val := x1102.Val } : Pair)]), a1002))
   else
    (strings_CutPrefix x1102.Key [116]).bind fun y1122 =>
    if ((!y1122.2) || ((!decide (x1102.Val = [99])) && (!decide (x1102.Val = [103])))) then
     some (.inr ())
    else
     need ((a1002.length + 1) * 32 ≤ 140737488355328) <|
     some (.inl (a1001, (a1002 ++ [({ Key := y1122.1, Val := x1102.Val } : Pair)])))).bind fun (y1098 : ((List Pair) × (List Pair)) ⊕ (Unit)) =>
  match y1098 with
  | (.inl v1100) =>
   some (.inl ((IntKind.i64.wrap (a1000 + 1)), v1100.1, v1100.2))
  | (.inr v1101) =>
   some (.inr (.inl ()))
 else
  some (.inr (.inr (a1001, a1002)))
noncomputable def batch_Back (l : (List Pair)) : Option (State × Int) :=
 (loop (fun (s1007 : Int × (List Pair) × (List Pair)) => batch_Back_l2 l s1007.1 s1007.2.1 s1007.2.2) ((0 : Int), ([] : (List Pair)), ([] : (List Pair)))).bind fun (y1003 : (Unit) ⊕ ((List Pair) × (List Pair))) =>
 match y1003 with
 | (.inl v1005) =>
  some (({ Data := [], Toks := [] } : State), 3)
 | (.inr v1006) =>
  some (({ Data := v1006.1, Toks := v1006.2 } : State), 0)
def gm_batch_Back : Gm := ⟨tys, [], [], []⟩
theorem batch_Back_walk (l : (List Pair)) (r : State × Int) (h : batch_Back l = some r) : PureP Tryz.prog 88 [.sl (List.map encPair l)] (fun a => a = .tup [.agg [.sl (List.map encPair r.1.Data), .sl (List.map encPair r.1.Toks)], .v (.int .i64 r.2)]) := by
 unfold batch_Back at h
 refine pureW (G := gm_batch_Back) tyOk Tryz.func88 rfl (by kernel_rfl) (by simp [Tryz.f88]) ?_
 refine Tri.seqK ?_
 refine Tri.run (G := gm_batch_Back) tyOk mixed ?_
 conv => whnf
 refine Tri.seqK ?_
 refine Tri.run (G := gm_batch_Back) tyOk mixed ?_
 conv => whnf
 refine Tri.seqK ?_
 refine Tri.seqK ?_
 refine Tri.run (G := gm_batch_Back) tyOk mixed ?_
 conv => whnf
 refine ⟨⟨(l.length : Int), (len_map _ _).symm, ?_⟩⟩
 conv => whnf
 refine Tri.block ?_
 replace h := bind_some h
 obtain ⟨y1003, q1004, h⟩ := h
 refine Tri.cut (fun ex S' => (∃ v1005 : Unit, y1003 = (.inl v1005) ∧ ex = .ret ∧ Weak S' ⟨69, 0, ofRegs [(2, .ptr 0 0), (3, .v (.int .i64 3))], [.var 36 [.v (.slice none 0 0), .v (.slice none 0 0)]]⟩) ∨ (∃ v1006 : (List Pair) × (List Pair), y1003 = (.inr v1006) ∧ ex = (.exit 0) ∧ Weak S' ⟨69, 0, ofRegs [(2, .ptr 0 0), (4, .ptr 1 0)], [.var 36 [.row 2 ((List.map encPair []).length), .row 3 ((List.map encPair []).length)], .var 36 [.row 4 ((List.map encPair v1006.1).length), .row 5 ((List.map encPair v1006.2).length)], .row 90 2 (List.map encPair []), .row 90 2 (List.map encPair []), .row 90 2 (List.map encPair v1006.1), .row 90 2 (List.map encPair v1006.2)]⟩)) ?_ ?_
 ·refine Tri.loopF (fun (s1007 : Int × (List Pair) × (List Pair)) => (⟨69, 0, ofRegs [(2, .ptr 0 0), (4, .ptr 1 0), (11, .sl (List.map encPair l)), (12, .v (.int .i64 (l.length : Int))), (13, .v (.int .i64 s1007.1))], [.var 36 [.row 2 ((List.map encPair []).length), .row 3 ((List.map encPair []).length)], .var 36 [.row 4 ((List.map encPair s1007.2.1).length), .row 5 ((List.map encPair s1007.2.2).length)], .row 90 2 (List.map encPair []), .row 90 2 (List.map encPair []), .row 90 2 (List.map encPair s1007.2.1), .row 90 2 (List.map encPair s1007.2.2)]⟩ : St)) q1004 (Weak.trans (weak_nilcell 0 0 90 2 rfl rfl) (Weak.trans (weak_nilcell 0 1 90 2 rfl rfl) (Weak.trans (weak_nilcell 1 0 90 2 rfl rfl) (Weak.trans (weak_nilcell 1 1 90 2 rfl rfl) (weak_fin _ rfl rfl rfl (.cons (.var (.cons (.same (show (.row 2 0 : AV) = (.row 2 ((List.map encPair []).length) : AV) from congrArg (AV.row 2) (by simp))) (.cons (.same (show (.row 3 0 : AV) = (.row 3 ((List.map encPair []).length) : AV) from congrArg (AV.row 3) (by simp))) (.nil)))) (.cons (.var (.cons (.same (show (.row 4 0 : AV) = (.row 4 ((List.map encPair []).length) : AV) from congrArg (AV.row 4) (by simp))) (.cons (.same (show (.row 5 0 : AV) = (.row 5 ((List.map encPair []).length) : AV) from congrArg (AV.row 5) (by simp))) (.nil)))) (.cons (.same rfl) (.cons (.same rfl) (.cons (.same rfl) (.cons (.same rfl) (LeH.rest))))))) (.cons (.one (.same rfl)) (.cons (.one (.same rfl)) (.cons (.one (.same rfl)) (.cons (.one (.same rfl)) (.cons (.one (.same rfl)) (.nil)))))) rfl rfl))))) ?_
  rintro ⟨a1000, a1001, a1002⟩ v1008 hv r1009
  have hv : batch_Back_l2 l a1000 a1001 a1002 = some v1008 := hv
  unfold batch_Back_l2 at hv
  dsimp only
  refine Tri.seqK ?_
  refine Tri.run (G := gm_batch_Back) tyOk mixed ?_
  conv => whnf
  refine Tri.seqK ?_
  refine Tri.cond rfl (fun c1011 => ?_) (fun c1011 => ?_)
  ·replace hv := if_t c1011 hv
   refine Tri.run (G := gm_batch_Back) tyOk mixed ?_
   conv => whnf
   refine Tri.seqK ?_
   replace hv := bind_some hv
   obtain ⟨y1098, q1099, hv⟩ := hv
   refine Tri.cut (fun ex S' => (∃ v1100 : (List Pair) × (List Pair), y1098 = (.inl v1100) ∧ ex = .normal ∧ Weak S' ⟨69, 0, ofRegs [(2, .ptr 0 0), (4, .ptr 1 0), (11, .sl (List.map encPair l)), (12, .v (.int .i64 (l.length : Int))), (13, .v (.int .i64 a1000))], [.var 36 [.row 2 ((List.map encPair []).length), .row 3 ((List.map encPair []).length)], .var 36 [.row 4 ((List.map encPair v1100.1).length), .row 5 ((List.map encPair v1100.2).length)], .row 90 2 (List.map encPair []), .row 90 2 (List.map encPair []), .row 90 2 (List.map encPair v1100.1), .row 90 2 (List.map encPair v1100.2)]⟩) ∨ (∃ v1101 : Unit, y1098 = (.inr v1101) ∧ ex = .ret ∧ Weak S' ⟨69, 0, ofRegs [(2, .ptr 0 0), (3, .v (.int .i64 3))], [.var 36 [.v (.slice none 0 0), .v (.slice none 0 0)]]⟩)) ?_ ?_
   ·refine Tri.block ?_
    refine Tri.seqK ?_
    refine Tri.run (G := gm_batch_Back) tyOk mixed ?_
    conv => whnf
    replace q1099 := bind_some q1099
    obtain ⟨x1102, q1103, q1099⟩ := q1099
    refine ⟨(ix_some q1103).1, ?_⟩
    conv => whnf
    refine ⟨⟨_, map_get encPair (ix_some q1103).2, ?_⟩⟩
    conv => whnf
    refine ⟨rfl, ?_⟩
    conv => whnf
    refine Tri.seqK ?_
    refine Tri.seqK ?_
    refine Tri.run (G := gm_batch_Back) tyOk mixed ?_
    conv => whnf
    replace q1099 := bind_some q1099
    obtain ⟨y1113, q1114, q1099⟩ := q1099
    refine PureP.mono (strings_CutPrefix_walk x1102.Key [100] y1113 q1114) ?_
    rintro _ rfl
    conv => whnf
    refine Tri.seqK ?_
    refine Tri.cut (fun ex S' => ex = .normal ∧ Weak S' ⟨69, 0, ofRegs [(2, .ptr 0 0), (4, .ptr 1 0), (6, .ptr 6 0), (7, .v (.string (bs y1113.1))), (11, .sl (List.map encPair l)), (12, .v (.int .i64 (l.length : Int))), (13, .v (.int .i64 a1000)), (29, .v (.bool (y1113.2 && (decide ((a1002.length : Int) = 0)))))], [.var 36 [.row 2 ((List.map encPair []).length), .row 3 ((List.map encPair []).length)], .var 36 [.row 4 ((List.map encPair a1001).length), .row 5 ((List.map encPair a1002).length)], .row 90 2 (List.map encPair []), .row 90 2 (List.map encPair []), .row 90 2 (List.map encPair a1001), .row 90 2 (List.map encPair a1002), .var 90 [.v (.string (bs x1102.Key)), .v (.string (bs x1102.Val))]]⟩) ?_ ?_
    ·refine Tri.run (G := gm_batch_Back) tyOk mixed ?_
     conv => whnf
     refine cond_mk (fun c1118 => ?_) (fun c1118 => ?_)
     ·replace c1118 : y1113.2 = true := c1118
      conv => whnf
      refine ⟨rfl, ?_⟩
      conv => whnf
      refine ⟨⟨(a1002.length : Int), by simp, ?_⟩⟩
      conv => whnf
      exact ⟨rfl, weak_fin _ rfl rfl rfl (.cons (.same rfl) (.cons (.same rfl) (.cons (.same rfl) (.cons (.same rfl) (.cons (.same rfl) (.cons (.same rfl) (.cons (.same rfl) (LeH.rest)))))))) (.cons (.one (.same rfl)) (.cons (.one (.same rfl)) (.cons (.one (.same rfl)) (.cons (.one (.same rfl)) (.cons (.one (.same rfl)) (.cons (.one (.same rfl)) (.cons (.one (.same rfl)) (.cons (.one (.same (show (.v (.bool (decide ((a1002.length : Int) = 0))) : AV) = (.v (.bool (y1113.2 && (decide ((a1002.length : Int) = 0)))) : AV) from by first | (simp [c1118]; done) | (simp only [c1118, Bool.or_true, Bool.true_or, Bool.false_or, Bool.or_false, Bool.and_true, Bool.true_and, Bool.and_false, Bool.false_and, Bool.not_true, Bool.not_false, if_true, if_false, Bool.false_eq_true]; done) | (exfalso; revert c1118; simp +contextual; done)))) (.nil))))))))) rfl rfl⟩
     ·replace c1118 : y1113.2 = false := c1118
      conv => whnf
      exact ⟨rfl, weak_fin _ rfl rfl rfl (.cons (.same rfl) (.cons (.same rfl) (.cons (.same rfl) (.cons (.same rfl) (.cons (.same rfl) (.cons (.same rfl) (.cons (.same rfl) (LeH.rest)))))))) (.cons (.one (.same rfl)) (.cons (.one (.same rfl)) (.cons (.one (.same rfl)) (.cons (.one (.same rfl)) (.cons (.one (.same rfl)) (.cons (.one (.same rfl)) (.cons (.one (.same rfl)) (.cons (.one (.same (show (.v (.bool false) : AV) = (.v (.bool (y1113.2 && (decide ((a1002.length : Int) = 0)))) : AV) from by first | (simp [c1118]; done) | (simp only [c1118, Bool.or_true, Bool.true_or, Bool.false_or, Bool.or_false, Bool.and_true, Bool.true_and, Bool.and_false, Bool.false_and, Bool.not_true, Bool.not_false, if_true, if_false, Bool.false_eq_true]; done) | (exfalso; revert c1118; simp +contextual; done)))) (.nil))))))))) rfl rfl⟩
    ·rintro ex S' ⟨rfl, w1119⟩
     conv => whnf
     refine Tri.weak w1119 ?_
     refine Tri.cond rfl (fun c1120 => ?_) (fun c1120 => ?_)
     ·replace q1099 := if_t c1120 q1099
      refine Tri.seqK ?_
      refine Tri.run (G := gm_batch_Back) tyOk mixed ?_
      conv => whnf
      refine ⟨⟨List.map encPair [({ Key := y1113.1, Val := x1102.Val } : Pair)], rfl, ?_⟩⟩
      conv => whnf
      refine ⟨rfl, ?_⟩
      conv => whnf
      refine ⟨rfl, ?_⟩
      conv => whnf
      replace q1099 := need_some q1099
      obtain ⟨p1121, q1099⟩ := q1099
      refine ⟨by simp only [List.length_map]; exact p1121, ?_⟩
      conv => whnf
      refine ⟨⟨List.map encPair (a1001 ++ [({ Key := y1113.1, Val := x1102.Val } : Pair)]), map_app encPair _ _ rfl rfl, ?_⟩⟩
      conv => whnf
      refine Tri.run (G := gm_batch_Back) tyOk mixed ?_
      conv => whnf
      cases q1099
      exact Or.inl ⟨_, rfl, rfl, weak_fin _ rfl rfl rfl (.cons (.same rfl) (.cons (.same rfl) (.cons (.same rfl) (.cons (.same rfl) (.cons (.same rfl) (.cons (.same rfl) (LeH.rest))))))) (.cons (.one (.same rfl)) (.cons (.one (.same rfl)) (.cons (.one (.same rfl)) (.cons (.one (.same rfl)) (.cons (.one (.same rfl)) (.nil)))))) rfl rfl⟩
     ·replace q1099 := if_f c1120 q1099
      refine Tri.run (G := gm_batch_Back) tyOk mixed ?_
      conv => whnf
      refine Tri.seqK ?_
      refine Tri.run (G := gm_batch_Back) tyOk mixed ?_
      conv => whnf
      replace q1099 := bind_some q1099
      obtain ⟨y1122, q1123, q1099⟩ := q1099
      refine PureP.mono (strings_CutPrefix_walk x1102.Key [116] y1122 q1123) ?_
      rintro _ rfl
      conv => whnf
      refine Tri.seqK ?_
      refine Tri.seqK ?_
      refine Tri.cut (fun ex S' => ex = .normal ∧ Weak S' ⟨69, 0, ofRegs [(2, .ptr 0 0), (4, .ptr 1 0), (6, .ptr 6 0), (9, .v (.string (bs y1122.1))), (11, .sl (List.map encPair l)), (12, .v (.int .i64 (l.length : Int))), (13, .v (.int .i64 a1000)), (56, .v (.bool ((!y1122.2) || ((!decide (x1102.Val = [99])) && (!decide (x1102.Val = [103]))))))], [.var 36 [.row 2 ((List.map encPair []).length), .row 3 ((List.map encPair []).length)], .var 36 [.row 4 ((List.map encPair a1001).length), .row 5 ((List.map encPair a1002).length)], .row 90 2 (List.map encPair []), .row 90 2 (List.map encPair []), .row 90 2 (List.map encPair a1001), .row 90 2 (List.map encPair a1002), .var 90 [.v (.string (bs x1102.Key)), .v (.string (bs x1102.Val))]]⟩) ?_ ?_
      ·refine Tri.run (G := gm_batch_Back) tyOk mixed ?_
       conv => whnf
       refine cond_mk (fun c1140 => ?_) (fun c1140 => ?_)
       ·replace c1140 : (!y1122.2) = true := c1140
        conv => whnf
        exact ⟨rfl, weak_fin _ rfl rfl rfl (.cons (.same rfl) (.cons (.same rfl) (.cons (.same rfl) (.cons (.same rfl) (.cons (.same rfl) (.cons (.same rfl) (.cons (.same rfl) (LeH.rest)))))))) (.cons (.one (.same rfl)) (.cons (.one (.same rfl)) (.cons (.one (.same rfl)) (.cons (.one (.same rfl)) (.cons (.one (.same rfl)) (.cons (.one (.same rfl)) (.cons (.one (.same rfl)) (.cons (.one (.same (show (.v (.bool true) : AV) = (.v (.bool ((!y1122.2) || ((!decide (x1102.Val = [99])) && (!decide (x1102.Val = [103]))))) : AV) from by first | (simp [c1140]; done) | (simp only [c1140, Bool.or_true, Bool.true_or, Bool.false_or, Bool.or_false, Bool.and_true, Bool.true_and, Bool.and_false, Bool.false_and, Bool.not_true, Bool.not_false, if_true, if_false, Bool.false_eq_true]; done) | (exfalso; revert c1140; simp +contextual; done)))) (.nil))))))))) rfl rfl⟩
       ·replace c1140 : (!y1122.2) = false := c1140
        conv => whnf
        refine ⟨⟨(!decide (x1102.Val = [99])), bs_ne _ _, ?_⟩⟩
        conv => whnf
        refine cond_mk (fun c1141 => ?_) (fun c1141 => ?_)
        ·replace c1141 : (!decide (x1102.Val = [99])) = true := c1141
         conv => whnf
         refine ⟨⟨(!decide (x1102.Val = [103])), bs_ne _ _, ?_⟩⟩
         conv => whnf
         exact ⟨rfl, weak_fin _ rfl rfl rfl (.cons (.same rfl) (.cons (.same rfl) (.cons (.same rfl) (.cons (.same rfl) (.cons (.same rfl) (.cons (.same rfl) (.cons (.same rfl) (LeH.rest)))))))) (.cons (.one (.same rfl)) (.cons (.one (.same rfl)) (.cons (.one (.same rfl)) (.cons (.one (.same rfl)) (.cons (.one (.same rfl)) (.cons (.one (.same rfl)) (.cons (.one (.same rfl)) (.cons (.one (.same (show (.v (.bool (!decide (x1102.Val = [103]))) : AV) = (.v (.bool ((!y1122.2) || ((!decide (x1102.Val = [99])) && (!decide (x1102.Val = [103]))))) : AV) from by first | (simp [c1140, c1141]; done) | (simp only [c1140, c1141, Bool.or_true, Bool.true_or, Bool.false_or, Bool.or_false, Bool.and_true, Bool.true_and, Bool.and_false, Bool.false_and, Bool.not_true, Bool.not_false, if_true, if_false, Bool.false_eq_true]; done) | (exfalso; revert c1140 c1141; simp +contextual; done)))) (.nil))))))))) rfl rfl⟩
        ·replace c1141 : (!decide (x1102.Val = [99])) = false := c1141
         conv => whnf
         exact ⟨rfl, weak_fin _ rfl rfl rfl (.cons (.same rfl) (.cons (.same rfl) (.cons (.same rfl) (.cons (.same rfl) (.cons (.same rfl) (.cons (.same rfl) (.cons (.same rfl) (LeH.rest)))))))) (.cons (.one (.same rfl)) (.cons (.one (.same rfl)) (.cons (.one (.same rfl)) (.cons (.one (.same rfl)) (.cons (.one (.same rfl)) (.cons (.one (.same rfl)) (.cons (.one (.same rfl)) (.cons (.one (.same (show (.v (.bool false) : AV) = (.v (.bool ((!y1122.2) || ((!decide (x1102.Val = [99])) && (!decide (x1102.Val = [103]))))) : AV) from by first | (simp [c1140, c1141]; done) | (simp only [c1140, c1141, Bool.or_true, Bool.true_or, Bool.false_or, Bool.or_false, Bool.and_true, Bool.true_and, Bool.and_false, Bool.false_and, Bool.not_true, Bool.not_false, if_true, if_false, Bool.false_eq_true]; done) | (exfalso; revert c1140 c1141; simp +contextual; done)))) (.nil))))))))) rfl rfl⟩
      ·rintro ex S' ⟨rfl, w1142⟩
       conv => whnf
       refine Tri.weak w1142 ?_
       refine Tri.cond rfl (fun c1143 => ?_) (fun c1143 => ?_)
       ·replace q1099 := if_t c1143 q1099
        refine Tri.seqK ?_
        refine Tri.run (G := gm_batch_Back) tyOk mixed ?_
        conv => whnf
        refine Tri.run (G := gm_batch_Back) tyOk mixed ?_
        conv => whnf
        cases q1099
        exact Or.inr (⟨_, rfl, rfl, weak_fin _ rfl rfl rfl (.cons (.same rfl) (LeH.rest)) (.cons (.one (.same rfl)) (.cons (.one (.same rfl)) (.nil))) rfl rfl⟩)
       ·replace q1099 := if_f c1143 q1099
        refine Tri.run (G := gm_batch_Back) tyOk mixed ?_
        conv => whnf
        refine Tri.run (G := gm_batch_Back) tyOk mixed ?_
        conv => whnf
        refine ⟨⟨List.map encPair [({ Key := y1122.1, Val := x1102.Val } : Pair)], rfl, ?_⟩⟩
        conv => whnf
        refine ⟨rfl, ?_⟩
        conv => whnf
        refine ⟨rfl, ?_⟩
        conv => whnf
        replace q1099 := need_some q1099
        obtain ⟨p1144, q1099⟩ := q1099
        refine ⟨by simp only [List.length_map]; exact p1144, ?_⟩
        conv => whnf
        refine ⟨⟨List.map encPair (a1002 ++ [({ Key := y1122.1, Val := x1102.Val } : Pair)]), map_app encPair _ _ rfl rfl, ?_⟩⟩
        conv => whnf
        cases q1099
        exact Or.inl ⟨_, rfl, rfl, weak_fin _ rfl rfl rfl (.cons (.same rfl) (.cons (.same rfl) (.cons (.same rfl) (.cons (.same rfl) (.cons (.same rfl) (.cons (.same rfl) (LeH.rest))))))) (.cons (.one (.same rfl)) (.cons (.one (.same rfl)) (.cons (.one (.same rfl)) (.cons (.one (.same rfl)) (.cons (.one (.same rfl)) (.nil)))))) rfl rfl⟩
   ·rintro ex S' (⟨v1100, rfl, rfl, w1145⟩ | ⟨v1101, rfl, rfl, w1145⟩)
    ·dsimp only at hv
     conv => whnf
     refine Tri.weak w1145 ?_
     refine Tri.run (G := gm_batch_Back) tyOk mixed ?_
     conv => whnf
     cases hv
     exact ⟨_, rfl, weak_fin _ rfl rfl rfl (.cons (.same rfl) (.cons (.same rfl) (.cons (.same rfl) (.cons (.same rfl) (.cons (.same rfl) (.cons (.same rfl) (LeH.rest))))))) (.cons (.one (.same rfl)) (.cons (.one (.same rfl)) (.cons (.one (.same rfl)) (.cons (.one (.same rfl)) (.cons (.one (.same rfl)) (.nil)))))) rfl rfl⟩
    ·dsimp only at hv
     conv => whnf
     cases hv
     obtain rfl := r1009 _ rfl
     exact Or.inl ⟨_, rfl, rfl, Weak.trans w1145 (weak_fin _ rfl rfl rfl (.cons (.same rfl) (LeH.rest)) (.cons (.one (.same rfl)) (.cons (.one (.same rfl)) (.nil))) rfl rfl)⟩
  ·replace hv := if_f c1011 hv
   refine Tri.run (G := gm_batch_Back) tyOk mixed ?_
   conv => whnf
   cases hv
   obtain rfl := r1009 _ rfl
   exact Or.inr (⟨_, rfl, rfl, weak_fin _ rfl rfl rfl (.cons (.same rfl) (.cons (.same rfl) (.cons (.same rfl) (.cons (.same rfl) (.cons (.same rfl) (.cons (.same rfl) (LeH.rest))))))) (.cons (.one (.same rfl)) (.cons (.one (.same rfl)) (.nil))) rfl rfl⟩)
 ·rintro ex S' (⟨v1005, rfl, rfl, w1146⟩ | ⟨v1006, rfl, rfl, w1146⟩)
  ·dsimp only at h
   conv => whnf
   refine fin_pre w1146 ?_
   conv => whnf
   cases h
   rfl
  ·dsimp only at h
   conv => whnf
   refine Tri.weak w1146 ?_
   refine Tri.seqK ?_
   refine Tri.run (G := gm_batch_Back) tyOk mixed ?_
   conv => whnf
   refine Tri.run (G := gm_batch_Back) tyOk mixed ?_
   conv => whnf
   refine fin_here ?_
   conv => whnf
   refine ⟨rfl, ?_⟩
   conv => whnf
   refine ⟨rfl, ?_⟩
   conv => whnf
   cases h
   rfl
noncomputable def kv_based (d : Disk) (n : Int) : Option (State × Int) :=
 if (decide (n = 0)) then
  some (({ Data := [], Toks := [] } : State), 0)
 else
  (kv_RunName n).bind fun y7 =>
  (run_Load d y7).bind fun y9 =>
  if (!(decide (y9.2 = 0))) then
   some (({ Data := [], Toks := [] } : State), 3)
  else
   (batch_Back y9.1).bind fun y13 =>
   some (y13.1, y13.2)
def gm_kv_based : Gm := ⟨tys, [], [], []⟩
theorem kv_based_walk (d : Disk) (n : Int) (r : State × Int) (h : kv_based d n = some r) : PureP Tryz.prog 37 [.agg [.sl (List.map encFile d.Files), .v (.int .i64 d.Room), .v (.int .i64 d.Fuse), .v (.bool d.Off)], .v (.int .i64 n)] (fun a => a = .tup [.agg [.sl (List.map encPair r.1.Data), .sl (List.map encPair r.1.Toks)], .v (.int .i64 r.2)]) := by
 unfold kv_based at h
 refine pureW (G := gm_kv_based) tyOk Tryz.func37 rfl (by kernel_rfl) (by simp [Tryz.f37]) ?_
 refine Tri.seqK ?_
 refine Tri.run (G := gm_kv_based) tyOk mixed ?_
 conv => whnf
 refine Tri.seqK ?_
 refine Tri.seqK ?_
 refine Tri.run (G := gm_kv_based) tyOk mixed ?_
 conv => whnf
 refine Tri.cond rfl (fun c2 => ?_) (fun c2 => ?_)
 ·replace h := if_t c2 h
  refine Tri.seqK ?_
  refine Tri.run (G := gm_kv_based) tyOk mixed ?_
  conv => whnf
  refine Tri.run (G := gm_kv_based) tyOk mixed ?_
  conv => whnf
  refine fin_here ?_
  conv => whnf
  cases h
  rfl
 ·replace h := if_f c2 h
  refine Tri.run (G := gm_kv_based) tyOk mixed ?_
  conv => whnf
  refine Tri.seqK ?_
  refine Tri.run (G := gm_kv_based) tyOk mixed ?_
  conv => whnf
  refine Draw.one 9 (.take 0 (.take 1 (.alt 2 (.alt 3 (.take 4 (.take 5 (.take 6 (.take 7 (.take 8 (.fin)))))) (.nil)) (.nil)))) [] (by kernel_rfl) ?_
  conv => whnf
  refine ⟨?_, ?_⟩
  ·conv => whnf
   replace h := bind_some h
   obtain ⟨y7, q8, h⟩ := h
   refine PureP.mono (kv_RunName_walk n y7 q8) ?_
   rintro _ rfl
   conv => whnf
   refine ⟨?_, ?_⟩
   ·conv => whnf
    replace h := bind_some h
    obtain ⟨y9, q10, h⟩ := h
    refine PureP.mono (run_Load_walk d y7 y9 q10) ?_
    rintro _ rfl
    conv => whnf
    refine Tri.seqK ?_
    refine Tri.seqK ?_
    refine Tri.run (G := gm_kv_based) tyOk mixed ?_
    conv => whnf
    refine Tri.cond rfl (fun c12 => ?_) (fun c12 => ?_)
    ·replace h := if_t c12 h
     refine Tri.seqK ?_
     refine Tri.run (G := gm_kv_based) tyOk mixed ?_
     conv => whnf
     refine Tri.run (G := gm_kv_based) tyOk mixed ?_
     conv => whnf
     refine fin_here ?_
     conv => whnf
     cases h
     rfl
    ·replace h := if_f c12 h
     refine Tri.run (G := gm_kv_based) tyOk mixed ?_
     conv => whnf
     refine Tri.seqK ?_
     refine Tri.run (G := gm_kv_based) tyOk mixed ?_
     conv => whnf
     replace h := bind_some h
     obtain ⟨y13, q14, h⟩ := h
     refine PureP.mono (batch_Back_walk y9.1 y13 q14) ?_
     rintro _ rfl
     conv => whnf
     refine Tri.run (G := gm_kv_based) tyOk mixed ?_
     conv => whnf
     refine fin_here ?_
     conv => whnf
     cases h
     rfl
   ·conv => whnf
    trivial
  ·conv => whnf
   trivial
noncomputable def wal_may (seg : Int) : Option (Bool) :=
 if (decide (seg ≥ 1)) then
  some (decide (seg ≤ 1000000))
 else
  some false
def gm_wal_may : Gm := ⟨tys, [], [], []⟩
theorem wal_may_walk (seg : Int) (r : Bool) (h : wal_may seg = some r) : PureP Tryz.prog 89 [.v (.int .i64 seg)] (fun a => a = .v (.bool r)) := by
 unfold wal_may at h
 refine pureW (G := gm_wal_may) tyOk Tryz.func89 rfl (by kernel_rfl) (by simp [Tryz.f89]) ?_
 refine Tri.seqK ?_
 refine Tri.run (G := gm_wal_may) tyOk mixed ?_
 conv => whnf
 refine Tri.seqK ?_
 refine Tri.run (G := gm_wal_may) tyOk mixed ?_
 conv => whnf
 refine cond_mk (fun c1 => ?_) (fun c1 => ?_)
 ·replace h := if_t c1 h
  conv => whnf
  refine Tri.run (G := gm_wal_may) tyOk mixed ?_
  conv => whnf
  refine fin_here ?_
  conv => whnf
  cases h
  rfl
 ·replace h := if_f c1 h
  conv => whnf
  refine Tri.run (G := gm_wal_may) tyOk mixed ?_
  conv => whnf
  refine fin_here ?_
  conv => whnf
  cases h
  rfl
noncomputable def wal_Name (seg : Int) : Option (Str) :=
 (wal_may seg).bind fun y4 =>
 if (!y4) then
  some ([] : Str)
 else
  (dec_Num (IntKind.u64.wrap seg)).bind fun y7 =>
  (strings_TrimSuffix y7 [59]).bind fun y9 =>
  need (([119] : Str).length + y9.length ≤ 9223372036854775807) <|
  some ([119] ++ y9)
def gm_wal_Name : Gm := ⟨tys, [], [], []⟩
theorem wal_Name_walk (seg : Int) (r : Str) (h : wal_Name seg = some r) : PureP Tryz.prog 90 [.v (.int .i64 seg)] (fun a => a = .v (.string (bs r))) := by
 unfold wal_Name at h
 refine pureW (G := gm_wal_Name) tyOk Tryz.func90 rfl (by kernel_rfl) (by simp [Tryz.f90]) ?_
 refine Tri.seqK ?_
 refine Tri.run (G := gm_wal_Name) tyOk mixed ?_
 conv => whnf
 refine Tri.seqK ?_
 refine Tri.seqK ?_
 refine Tri.run (G := gm_wal_Name) tyOk mixed ?_
 conv => whnf
 replace h := bind_some h
 obtain ⟨y4, q5, h⟩ := h
 refine PureP.mono (wal_may_walk seg y4 q5) ?_
 rintro _ rfl
 conv => whnf
 refine Tri.cond rfl (fun c6 => ?_) (fun c6 => ?_)
 ·replace h := if_t c6 h
  refine Tri.seqK ?_
  refine Tri.run (G := gm_wal_Name) tyOk mixed ?_
  conv => whnf
  refine Tri.run (G := gm_wal_Name) tyOk mixed ?_
  conv => whnf
  refine fin_here ?_
  conv => whnf
  cases h
  rfl
 ·replace h := if_f c6 h
  refine Tri.run (G := gm_wal_Name) tyOk mixed ?_
  conv => whnf
  refine Tri.seqK ?_
  refine Tri.run (G := gm_wal_Name) tyOk mixed ?_
  conv => whnf
  refine ⟨⟨(IntKind.u64.wrap seg), rfl, ?_⟩⟩
  conv => whnf
  replace h := bind_some h
  obtain ⟨y7, q8, h⟩ := h
  refine PureP.mono (dec_Num_walk (IntKind.u64.wrap seg) y7 q8) ?_
  rintro _ rfl
  conv => whnf
  replace h := bind_some h
  obtain ⟨y9, q10, h⟩ := h
  refine PureP.mono (strings_TrimSuffix_walk y7 [59] y9 q10) ?_
  rintro _ rfl
  conv => whnf
  replace h := need_some h
  obtain ⟨p11, h⟩ := h
  refine ⟨p11, ?_⟩
  conv => whnf
  refine ⟨⟨bs ([119] ++ y9), bs_append _ _, ?_⟩⟩
  conv => whnf
  refine Tri.run (G := gm_wal_Name) tyOk mixed ?_
  conv => whnf
  refine fin_here ?_
  conv => whnf
  cases h
  rfl
section
open Go.RowKit Go.Shelf
attribute [local go_sem] Oper.semAt_some
/-! ### wal.Scan: a range over a function -/
noncomputable def wal_Scan_l1 (s : Str) (a1 : List Str) (a2 : Int) (a3 : Str) : Option ((List Str × Int × Str) ⊕ (List Str × Int)) :=
 (sum_Open a3 2048).bind fun y =>
 if (!(decide (y.2.2 = 0))) then some (.inr (a1, a2)) else
 need ((a1.length + 1) * 16 ≤ 140737488355328) <|
 some (.inl ((a1 ++ [y.1]), IntKind.i64.wrap ((s.length : Int) - (y.2.1.length : Int)), y.2.1))
noncomputable def wal_Scan (s : Str) : Option (List Str × Int) :=
 (loop (fun (s1 : List Str × Int × Str) => wal_Scan_l1 s s1.1 s1.2.1 s1.2.2) (([] : List Str), (0 : Int), s))
inductive ScanR (s : Str) : Str → List (Int × Str) → Prop
 | stop {rest y} (h : sum_Open rest 2048 = some y) (hy : y.2.2 ≠ 0) : ScanR s rest []
 | next {rest y xs} (h : sum_Open rest 2048 = some y) (hy : y.2.2 = 0) (r : ScanR s y.2.1 xs) : ScanR s rest ((IntKind.i64.wrap ((s.length : Int) - (y.2.1.length : Int)), y.1) :: xs)
theorem ScanR.unique {s : Str} : ∀ {rest : Str} {xs ys : List (Int × Str)}, ScanR s rest xs → ScanR s rest ys → xs = ys
 | _, _, _, .stop h hy, .stop h2 hy2 => rfl
 | _, _, _, .stop h hy, .next h2 hy2 _ => by rw [h] at h2; cases h2; exact absurd hy2 hy
 | _, _, _, .next h hy _, .stop h2 hy2 => by rw [h] at h2; cases h2; exact absurd hy hy2
 | _, _, _, .next h hy r, .next h2 hy2 r2 => by rw [h] at h2; cases h2; rw [ScanR.unique r r2]
def lastAt (g : Int) (xs : List (Int × Str)) : Int := xs.foldl (fun _ p => p.1) g
theorem lastAt_snoc (g : Int) (xs : List (Int × Str)) (x : Int × Str) : lastAt g (xs ++ [x]) = x.1 := by simp [lastAt]
theorem scan_runs (s : Str) : ∀ (n : Nat) (l : List Str) (g : Int) (rest : Str) (r : List Str × Int), loopN (fun (s1 : List Str × Int × Str) => wal_Scan_l1 s s1.1 s1.2.1 s1.2.2) n (l, g, rest) = some r →
  ∃ xs, ScanR s rest xs ∧ r = (l ++ xs.map (·.2), lastAt g xs) ∧ (xs ≠ [] → (l.length + xs.length) * 16 ≤ 140737488355328) := by
 intro n
 induction n with
 | zero => intro l g rest r h; simp [loopN] at h
 | succ n ih =>
  intro l g rest r h
  unfold loopN at h
  simp only at h
  cases hz : wal_Scan_l1 s l g rest with
  | none => rw [hz] at h; cases h
  | some z =>
  rw [hz] at h
  unfold wal_Scan_l1 at hz
  obtain ⟨y, hy, hz⟩ := bind_some hz
  by_cases he : y.2.2 = 0
  ·rw [if_neg (by simp [he])] at hz
   obtain ⟨hb, hz⟩ := need_some hz
   obtain rfl := Option.some.inj hz
   obtain ⟨xs, h1, h2, h3⟩ := ih _ _ _ _ h
   refine ⟨_, .next hy he h1, ?_, fun _ => ?_⟩
   ·rw [h2]; simp [lastAt]
   ·by_cases hx : xs = []
    ·subst hx; simpa using hb
    ·have := h3 hx; simp at this ⊢; omega
  ·rw [if_pos (by simp [he])] at hz
   obtain rfl := Option.some.inj hz
   obtain rfl := Option.some.inj h
   exact ⟨[], .stop hy he, by simp [lastAt], fun h => absurd rfl h⟩
open Classical in
noncomputable def scanLeft (s : Str) (v : Value) : Nat :=
 if h : ∃ r : Str × List (Int × Str), v = .string (bs r.1) ∧ ScanR s r.1 r.2 then (Classical.choose h).2.length else 0
theorem scanLeft_eq {s rest : Str} {xs : List (Int × Str)} (h : ScanR s rest xs) : scanLeft s (.string (bs rest)) = xs.length := by
 have hex : ∃ r : Str × List (Int × Str), Value.string (bs rest) = .string (bs r.1) ∧ ScanR s r.1 r.2 := ⟨(rest, xs), rfl, h⟩
 unfold scanLeft
 rw [dif_pos hex]
 obtain ⟨e, hl⟩ := Classical.choose_spec hex
 injection e with e
 rw [← bs_inj e] at hl
 rw [ScanR.unique hl h]
theorem open_calls {f : Str} {y : Str × Str × Int} (h : sum_Open f 2048 = some y) (w : World) (hG : GW w) : Calls Tryz.prog 59 #[.string (bs f), .int .i64 2048] w fun en w' => en = .returned (.tuple #[.string (bs y.1), .string (bs y.2.1), .int .i64 y.2.2]) ∧ w.grownBy w' none :=
 (sum_Open_walk f 2048 y h).calls rfl rfl w hG
def KeepG (B : Nat) (t : TypeId) (X Y : World) : Prop := KeepBox B t X Y ∧ (GW X → GW Y)
theorem keepG_t {B : Nat} {t : TypeId} {X Y Z : World} (h : KeepG B t X Y) (k : KeepG B t Y Z) : KeepG B t X Z := ⟨keepBox_t h.1 k.1, fun g => k.2 (h.2 g)⟩
theorem keepG_b {B n : Nat} {t : TypeId} {w0 : World} (hG : GW w0) (h0 : w0.heap.size ≤ n) (W : World) (l : Nat) (o o' : Obj) (hn : n ≤ l) (hl : W.heap[l]? = some o) (hc : o.isCells = false) (hw : o.isWalk = false) : KeepG B t W (W.putObj l o') :=
 ⟨keepBox_b W l o o' hn hl hc hw, fun g => gw_same g fun b hb hb2 => (grownBy_putObj' W l o').block b hb (fun e => by
  injection e with e
  exact hb2 (gn_new hG (by omega)))⟩
theorem gw_grown {X Y : World} (h : GW X) (g : X.grownBy Y none) : GW Y := gw_same h fun b hb _ => g.block b hb (by simp)
set_option maxRecDepth 100000 in
set_option maxHeartbeats 2000000 in
theorem each1_in (l B B0 : Nat) (s : Str) (xs : List (Int × Str)) (J Jx : List (Int × Str) → World → Prop) (hJ : AbidesFrom B0 J)
  (hY : ∀ pre x W, J pre W → pre.length < xs.length → YieldAt Fence.wide 4 Tryz.prog l #[.int .i64 x.1, .string (bs x.2)] W fun e W' =>
   (e = .returned (.bool true) ∧ J (pre ++ [x]) W' ∧ KeepG B 9 W W') ∨ (e = .returned (.bool false) ∧ Jx (pre ++ [x]) W'))
  (W : World) (hBn : Boxed W B 9 (.string (bs s))) (hx : ScanR s s xs) (h0 : J [] W) (hG : GW W) :
  CallsIn Fence.wide 5 Tryz.prog 167 #[.func (.yield l) #[] #[], .pointer (some ⟨B, 0, none⟩)] W fun e W' => (∃ v, e = .returned v) ∧
   ((∃ ys, ys = xs ∧ J ys W') ∨ (∃ pre, pre <+: xs ∧ Jx pre W')) := by
 refine callsIn_of_wp Tryz.func167 rfl trivial ?_ rfl
 simp only [Tryz.ntmps167, List.size_toArray, List.length_cons, List.length_nil, Nat.reduceAdd, Nat.reduceSub, Array.replicate_succ, Array.replicate_zero, List.push_toArray, List.append_toArray, List.nil_append, List.cons_append]
 have hBc := hBn.cell
 gi_wp2
 gi_loopw [3] (fun p wr => ∃ (pre rest : List (Int × Str)) (q : Str), p = .string (bs q) ∧ xs = pre ++ rest ∧ ScanR s q rest ∧ J pre wr ∧ Boxed wr B 9 (.string (bs s)) ∧ GW wr)
  (fun p wr => scanLeft s p)
 case atStart =>
  exact ⟨[], xs, s, rfl, rfl, hx, h0, hBn, hG⟩
 case round =>
  obtain ⟨pre, rest, q, rfl, hx, hl, hJs, hb, hGr⟩ := hrel
  have hc := hb.cell
  cases hl with
  | stop h hy =>
   have ho := open_calls h
   gi_wp2_with (refine ⟨trivial, ?_⟩; gi_at_call 59; refine (callsIn_wide.2 (ho _ hGr)).mono ?_; rintro e w' ⟨rfl, hg⟩)
   refine bodyPost_ret (results_none rfl _ _ _) rfl ?_
   exact ⟨⟨_, rfl⟩, .inl ⟨pre, by simp [hx], hJ pre wr w' none hJs hg (fun _ h => by cases h)⟩⟩
  | @next _ y xs' h hy hr =>
   have ho := open_calls h
   gi_wp2
   refine ⟨trivial, ?_⟩
   gi_at_call 59
   refine (callsIn_wide.2 (ho _ hGr)).mono ?_
   rintro e w' ⟨rfl, hg⟩
   have hb' := hb.kept hg (by simp)
   have hc' := hb'.cell
   obtain ⟨fn, tmps, assign, body, hyy, hR⟩ := hY pre (IntKind.i64.wrap ((s.length : Int) - (y.2.1.length : Int)), y.1) w' (hJ pre wr w' none hJs hg (fun _ h => by cases h)) (by rw [hx]; simp)
   replace hyy : (Instr.yield l #[.int .i64 (wrap64 (((bs s).size : Int) - ((bs y.2.1).size : Int))), .string (bs y.1)]).run Tryz.prog w' = .ok (.round l fn tmps assign body) w' := by rw [← Go.IntWalk.i64_left]; exact hyy
   gi_wp2
   refine hR.mono ?_
   rintro e W3 (⟨rfl, hJ3, hk3⟩ | ⟨rfl, hJx3⟩)
   ·gi_wp2
    go_roundw
    case rel => exact ⟨pre ++ [(IntKind.i64.wrap ((s.length : Int) - (y.2.1.length : Int)), y.1)], xs', y.2.1, rfl, by simp [hx], hr, hJ3, hk3.1 _ hb', hk3.2 (gw_grown hGr hg)⟩
    case measure => rw [scanLeft_eq hr, scanLeft_eq (.next h hy hr)]; simp
   ·gi_wp2
    refine bodyPost_ret (results_none rfl _ _ _) rfl ?_
    exact ⟨⟨_, rfl⟩, .inr ⟨pre ++ [(IntKind.i64.wrap ((s.length : Int) - (y.2.1.length : Int)), y.1)], ⟨xs', by simp [hx]⟩, hJx3⟩⟩
set_option maxRecDepth 100000 in
set_option maxHeartbeats 1000000 in
theorem each_in (s : Str) (w : World) :
  CallsIn Fence.wide 5 Tryz.prog 135 #[.string (bs s)] w fun e w' => e = .returned (.func (.func 167) #[] #[.pointer (some ⟨w.heap.size, 0, none⟩)]) ∧ w' = w.alloc (.cells #[.string (bs s)] 9) := by
 refine callsIn_of_wp Tryz.func135 rfl trivial ?_ rfl
 simp only [Tryz.ntmps135, List.size_toArray, List.length_cons, List.length_nil, Nat.reduceAdd, Nat.reduceSub, Array.replicate_succ, Array.replicate_zero, List.push_toArray, List.append_toArray, List.nil_append, List.cons_append]
 gi_wp2
 go_ret
 exact ⟨rfl, rfl⟩
theorem each_stops (B : Nat) (s : Str) (xs : List (Int × Str)) (w : World) (hc : Boxed w B 9 (.string (bs s))) (hx : ScanR s s xs) (hG : GW w) :
  SeqStopsK Fence.wide 5 Tryz.prog 167 #[.pointer (some ⟨B, 0, none⟩)] (fun x : Int × Str => #[Value.int .i64 x.1, .string (bs x.2)]) (KeepG B 9) (fun ys => ys = xs) (fun pre => pre <+: xs) xs.length w := fun l J Jx W hW hJ _ hY h0 =>
 each1_in l B W.heap.size s xs J Jx hJ hY W ((hW.block B hc.lt).trans hc) hx h0 (gw_same hG fun b hb _ => hW.block b hb)
theorem scan_info : (Tryz.prog.info? 9).map (fun i => (i.zero, i.size, i.bytes)) = some (some (.string ByteArray.empty), 1, 16) := by kernel_rfl
set_option maxRecDepth 100000 in
set_option maxHeartbeats 4000000 in
theorem scanIn (s : Str) (xs : List (Int × Str)) (hx : ScanR s s xs) (hbytes : xs.length * 16 ≤ 140737488355328) (w : World) (hG : GW w) :
  CallsIn Fence.wide 6 Tryz.prog 91 #[.string (bs s)] w fun e W' => ∃ v, e = .returned (.tuple #[v, .int .i64 (lastAt 0 xs)]) ∧ W'.ownsRow w.heap.size 9 1 v xs.length (xs.map fun x => Value.string (bs x.2)) ∧ Below w.heap.size w W' := by
 have h1 : 1 ≤ 6 := by omega
 obtain ⟨i0, hi, hz0, hz1, hz2⟩ := info_parts scan_info
 refine callsIn_of_wp_marks Tryz.func91 rfl trivial ?_ rfl
 simp only [Tryz.ntmps91, List.size_toArray, List.length_cons, List.length_nil, Nat.reduceAdd, Nat.reduceSub, Array.replicate_succ, Array.replicate_zero, List.push_toArray, List.append_toArray, List.nil_append, List.cons_append]
 gi_wp2_with (refine ⟨trivial, ?_⟩; gi_at_call 135; refine (each_in s _).mono ?_; rintro e w' ⟨rfl, rfl⟩)
 have bO := Boxed.new w 95 (.slice none 0 0)
 have bG := Boxed.new (w.alloc (.cells #[.slice none 0 0] 95)) 3 (.int .i64 0)
 rw [World.size_alloc] at bG
 have bN := Boxed.new ((w.alloc (.cells #[.slice none 0 0] 95)).alloc (.cells #[.int .i64 0] 3)) 9 (.string (bs s))
 rw [World.size_alloc, World.size_alloc] at bN
 have hB0 : Below w.heap.size w (((w.alloc (.cells #[.slice none 0 0] 95)).alloc (.cells #[.int .i64 0] 3)).alloc (.cells #[.string (bs s)] 9)) := (((Below.refl _ w).alloc (Nat.le_refl _) _).alloc (by simp) _).alloc (by simp; omega) _
 refine wpIn_rangeFunc_ownG rfl h1 (gf := 167) (lb := #[.pointer (some ⟨w.heap.size + 1 + 1, 0, none⟩)]) rfl trivial (enters_of Tryz.func167 (by kernel_rfl) rfl)
  (each_stops (w.heap.size + 1 + 1) s xs _ bN hx (gw_same hG fun b hb _ => hB0.block b hb)) keepG_t (keepG_b hG hB0.size) (Below.refl _ _) (fun _ => rfl)
  (fun (pre : List (Int × Str)) W => (∃ v, Boxed W w.heap.size 95 v ∧ W.ownsRow (w.heap.size + 1 + 1 + 1) 9 1 v pre.length (pre.map fun x => Value.string (bs x.2)) ∧ True) ∧ Boxed W (w.heap.size + 1) 3 (.int .i64 (lastAt 0 pre)) ∧ Boxed W (w.heap.size + 1 + 1) 9 (.string (bs s)) ∧ Below w.heap.size w W)
  (fun _ _ _ => False)
  (OwnFrom.and (Own.from (holdsRow_own (w.heap.size + 1 + 1 + 1) w.heap.size 95 9 1 (fun (pre : List (Int × Str)) => pre.length) (fun (pre : List (Int × Str)) => pre.map fun x => Value.string (bs x.2)) (fun _ _ => True)) _)
   (OwnFrom.and (Own.from (fun s X Y row h hg hr => h.kept hg (fun e' => by obtain ⟨o, ho, hc⟩ := hr _ e'.symm; rw [show X.heap[_]? = _ from h] at ho; cases ho; cases hc)) _)
    (OwnFrom.and (Own.from (fun s X Y row h hg hr => h.kept hg (fun e' => by obtain ⟨o, ho, hc⟩ := hr _ e'.symm; rw [show X.heap[_]? = _ from h] at ho; cases ho; cases hc)) _)
     (ownFrom_below (Nat.le_refl _) (by simp; omega)))))
  (fun _ _ _ _ _ hs _ _ => hs)
  ⟨⟨_, (bO.alloc _).alloc _, World.ownsRow_nil _ _ _ _, trivial⟩, bG.alloc _, bN, hB0⟩
  (fun x => { tmps := #[.string (bs s), undef, .slice none 0 0, .int .i64 0, .pointer (some ⟨w.heap.size, 0, none⟩), .pointer (some ⟨w.heap.size + 1, 0, none⟩), .int .i64 x.1, .string (bs x.2), .string (bs s), .func (.func 167) #[] #[.pointer (some ⟨w.heap.size + 1 + 1, 0, none⟩)], .int .i64 x.1, .string (bs x.2), undef, undef, undef, undef, undef, undef, undef], defers := [] }) ?assign ?body ?done ?stop
 case assign =>
  intro l x W K hK
  gi_wp2
  exact hK
 case body =>
  rintro l pre x W ⟨⟨v, hv, hrow, _⟩, hg, hn, hB⟩ hlt
  have hc := hv.cell
  have hcg := hg.cell
  have hm1 : pre.length + 1 ≤ maxLen := by unfold maxLen; omega
  have hm2 : (pre.length + 1) * 16 ≤ 140737488355328 := by omega
  have hlo := hn.lt
  gi_wp2_with (gi_at_builtin; refine wpListIn_append_own _ rfl _ _ 95 rfl (w.heap.size + 1 + 1 + 1) 9 i0 (.string ByteArray.empty) 1 16 Tryz.underlying95 hi hz0 hz1 hz2 rfl (by decide) _ _ _ rfl (hrow.alloc _) ⟨W.heap.size, 0, none⟩ 1 1 [.string (bs x.2)] rfl rfl (cell_one_new _ _ _) (by simp [Value.oneCell']) hm1 hm2 (by simp; omega) ?_; intro v' w1 hown' hgrow _; obtain ⟨g', cap', rfl⟩ := ownsRow_succ hown'; obtain ⟨hv1, hv2, hr2, hk2, hb2⟩ := hv.appended (by decide) (row_base hrow (by omega : w.heap.size ≤ _)) hB.size (Nat.le_refl _) (row_base hown' (by omega)) hgrow; have hc1 := hv1.cell; have hf1 := hv1.frozen; have hg1 : Boxed w1 (w.heap.size + 1) 3 (.int .i64 (lastAt 0 pre)) := (hg.alloc _).kept hgrow (hg.not_row (by decide) hrow); have hg2 := hg1.kept (grownBy_setCell' w1 w.heap.size (.slice (some ⟨g', 0, none⟩) (pre.length + 1) cap')) (by simp); have hcg2 := hg2.cell; have hfg2 := hg2.frozen)
  have hn2 : KeepBox (w.heap.size + 1 + 1) 9 W ((w1.setCell ⟨w.heap.size, 0, none⟩ (.slice (some ⟨g', 0, none⟩) (pre.length + 1) cap')).setCell ⟨w.heap.size + 1, 0, none⟩ (.int .i64 x.1)) := fun u hu =>
   ((((hu.alloc _).kept hgrow (row_far hrow (by omega))).kept (grownBy_setCell' w1 w.heap.size _) (by simp; omega)).kept (grownBy_setCell' _ (w.heap.size + 1) _) (by simp))
  have hr3 : ((w1.setCell ⟨w.heap.size, 0, none⟩ (.slice (some ⟨g', 0, none⟩) (pre.length + 1) cap')).setCell ⟨w.heap.size + 1, 0, none⟩ (.int .i64 x.1)).ownsRow (w.heap.size + 1 + 1 + 1) 9 1 (.slice (some ⟨g', 0, none⟩) (pre.length + 1) cap') (pre.length + 1) (pre.map (fun x => Value.string (bs x.2)) ++ [.string (bs x.2)]) :=
   (hown'.kept (grownBy_setCell' w1 w.heap.size _) (.inr (row_far hown' (by omega)).symm)).kept (grownBy_setCell' _ (w.heap.size + 1) _) (.inr (row_far hown' (by omega)).symm)
  refine ⟨(hk2.trans (KeepsOthers.setCell _ _ _)).from _, ⟨hn2, fun _ => gw_same hG fun b hb _ => ((hB.trans hb2).setCell (p := ⟨w.heap.size + 1, 0, none⟩) (by simp) _).block b hb⟩, ⟨_, hv2.kept (grownBy_setCell' _ (w.heap.size + 1) _) (by simp), by simpa using hr3, trivial⟩, ?_, hn2 _ hn, (hB.trans hb2).setCell (p := ⟨w.heap.size + 1, 0, none⟩) (by simp) _⟩
  rw [lastAt_snoc]
  exact hg2.set _
 case done =>
  rintro D ys W hD rfl ⟨⟨v, hv, hrow, _⟩, hg, hn, hB⟩ hK
  have hc := hv.cell
  have hcg := hg.cell
  gi_wp2
  gi_region
  all_goals gi_wp2
  have hK' : W.drew.heap[D]? = some (.deferred (some [])) := hK
  have hrow' : W.drew.ownsRow (w.heap.size + 1 + 1 + 1) 9 1 v ys.length (ys.map fun x => Value.string (bs x.2)) := hrow
  refine ⟨by simp, .inl ⟨_, _, rfl, run_takeDeferred hK', ?_⟩⟩
  refine ⟨_, ?_, v, rfl, row_base (ownsRow_putObj hrow' _ hK' rfl) (by omega), hB.drew.trans (belowK_b (w := w) (Nat.le_refl _) W.drew D _ _ (by simp at hD; omega) hK' rfl rfl)⟩
  exact results_tmp2 (fn := Tryz.f91) (t := 2) (u := 3) rfl _ _ _
 case stop =>
  rintro D c pre W _ _ h _
  exact h.elim
theorem wal_Scan_walk (s : Str) (r : List Str × Int) (h : wal_Scan s = some r) : PureP Tryz.prog 91 [.v (.string (bs s))] (fun a => a = .tup [.sl (List.map encS r.1), .v (.int .i64 r.2)]) := by
 refine ⟨⟨_, Tryz.func91, by simp [Tryz.f91], by simp [Tryz.f91]⟩, fun w F vs hG hb hv => ?_⟩
 obtain ⟨n, hn⟩ := loop_iff.1 h
 obtain ⟨xs, h1, h2, h3⟩ := scan_runs s n [] 0 s r hn
 have hvs : vs = #[.string (bs s)] := list_of_cells [.v (.string (bs s))] vs [.string (bs s)] hv.1 rfl (fun j hj => by
  have hj0 : j = 0 := by simpa using hj
  subst hj0
  exact (hv.2 0 _ rfl).v_inv)
 rw [hvs]
 have hbytes : xs.length * 16 ≤ 140737488355328 := by
  by_cases hx : xs = []
  ·subst hx; simp
  ·simpa using h3 hx
 refine (callsIn_wide.1 (scanIn s xs h1 hbytes w hG)).mono ?_
 rintro en w' ⟨v, rfl, hrow, hB⟩
 have hr1 : r.1 = xs.map (·.2) := by rw [h2]; simp
 have hr2 : r.2 = lastAt 0 xs := by rw [h2]
 have hown : ∀ b, v.ownBlock = some b → w.heap.size ≤ b ∧ b < w'.heap.size := by
  intro b hb
  rcases hrow.2 with ⟨rfl, _⟩ | ⟨g, cap, cur, rfl, hg, hblk, _⟩
  ·cases hb
  ·injection hb with hb
   subst hb
   exact ⟨hg, (Array.getElem?_eq_some_iff.1 hblk).1⟩
 refine ⟨_, _, fun b => F b ∨ v.ownBlock = some b, rfl, rfl, ?_, fun b h => .inl h, fun b h => ?_, fun b h => ?_, ⟨hB.os, hB.tape, hB.output, hB.size, fun k hk _ => hB.block k hk⟩⟩
 ·refine .tup rfl (fun j a hj => ?_)
  match j, hj with
  | 0, hj =>
   injection hj with hj
   subst hj
   have := rep_of_row (F := fun b => F b ∨ v.ownBlock = some b) (e := Env.nil) hrow (xs := (xs.map (·.2)).map fun s => AV.v (.string (bs s))) (by rw [concs_strs]; simp) (by simp [ones, AV.one, Value.oneCell']) (fun b h => .inr h)
   rw [hr1]
   simpa [encS, Function.comp_def] using this
  | 1, hj =>
   injection hj with hj
   subst hj
   rw [hr2]
   exact .v
 ·rcases h with h | h
  ·exact .inl h
  ·exact .inr (hown b h).1
 ·rcases h with h | h
  ·exact Nat.lt_of_lt_of_le (hb b h) hB.size
  ·exact (hown b h).2
end
noncomputable def disk_change (d : Disk) : Option (Disk × Bool) :=
 (
  if (decide (d.Fuse = 0)) then
   some (.inr ())
  else
   if (decide (d.Fuse > 0)) then
    some (.inl (IntKind.i64.wrap (d.Fuse - 1)))
   else
    some (.inl d.Fuse)).bind fun (y5 : (Int) ⊕ (Unit)) =>
 match y5 with
 | (.inl v7) =>
  some (({ Files := d.Files, Room := d.Room, Fuse := v7, Off := d.Off } : Disk), true)
 | (.inr v8) =>
  some (({ Files := d.Files, Room := d.Room, Fuse := d.Fuse, Off := true } : Disk), false)
def gm_disk_change : Gm := ⟨tys, [], [], []⟩
theorem disk_change_walk (d : Disk) (r : Disk × Bool) (h : disk_change d = some r) : PureP Tryz.prog 160 [.agg [.sl (List.map encFile d.Files), .v (.int .i64 d.Room), .v (.int .i64 d.Fuse), .v (.bool d.Off)]] (fun a => a = .tup [.agg [.sl (List.map encFile r.1.Files), .v (.int .i64 r.1.Room), .v (.int .i64 r.1.Fuse), .v (.bool r.1.Off)], .v (.bool r.2)]) := by
 unfold disk_change at h
 refine pureW (G := gm_disk_change) tyOk Tryz.func160 rfl (by kernel_rfl) (by simp [Tryz.f160]) ?_
 refine Tri.seqK ?_
 refine Tri.run (G := gm_disk_change) tyOk mixed ?_
 conv => whnf
 refine Tri.seqK ?_
 replace h := bind_some h
 obtain ⟨y5, q6, h⟩ := h
 refine Tri.cut (fun ex S' => (∃ v7 : Int, y5 = (.inl v7) ∧ ex = .normal ∧ Weak S' ⟨19, 0, ofRegs [(1, .ptr 0 0), (2, .ptr 1 0)], [.var 31 [.sl (List.map encFile d.Files), .v (.int .i64 d.Room), .v (.int .i64 v7), .v (.bool d.Off)], .var 31 [.v (.slice none 0 0), .v (.int .i64 0), .v (.int .i64 0), .v (.bool false)]]⟩) ∨ (∃ v8 : Unit, y5 = (.inr v8) ∧ ex = .ret ∧ Weak S' ⟨19, 0, ofRegs [(2, .ptr 1 0), (3, .v (.bool false))], [.gone, .var 31 [.sl (List.map encFile d.Files), .v (.int .i64 d.Room), .v (.int .i64 d.Fuse), .v (.bool true)]]⟩)) ?_ ?_
 ·refine Tri.block ?_
  refine Tri.seqK ?_
  refine Tri.run (G := gm_disk_change) tyOk mixed ?_
  conv => whnf
  refine Tri.cond rfl (fun c9 => ?_) (fun c9 => ?_)
  ·replace q6 := if_t c9 q6
   refine Tri.seqK ?_
   refine Tri.run (G := gm_disk_change) tyOk mixed ?_
   conv => whnf
   refine Tri.seqK ?_
   refine Tri.run (G := gm_disk_change) tyOk mixed ?_
   conv => whnf
   refine Tri.run (G := gm_disk_change) tyOk mixed ?_
   conv => whnf
   cases q6
   exact Or.inr (⟨_, rfl, rfl, weak_fin _ rfl rfl rfl (.cons (.gone) (.cons (.same rfl) (LeH.rest))) (.cons (.one (.same rfl)) (.cons (.one (.same rfl)) (.nil))) rfl rfl⟩)
  ·replace q6 := if_f c9 q6
   refine Tri.seqK ?_
   refine Tri.run (G := gm_disk_change) tyOk mixed ?_
   conv => whnf
   refine Tri.cond rfl (fun c10 => ?_) (fun c10 => ?_)
   ·replace q6 := if_t c10 q6
    refine Tri.run (G := gm_disk_change) tyOk mixed ?_
    conv => whnf
    cases q6
    exact Or.inl ⟨_, rfl, rfl, weak_fin _ rfl rfl rfl (.cons (.same rfl) (.cons (.same rfl) (LeH.rest))) (.cons (.one (.same rfl)) (.cons (.one (.same rfl)) (.nil))) rfl rfl⟩
   ·replace q6 := if_f c10 q6
    refine Tri.run (G := gm_disk_change) tyOk mixed ?_
    conv => whnf
    cases q6
    exact Or.inl ⟨_, rfl, rfl, weak_fin _ rfl rfl rfl (.cons (.same rfl) (.cons (.same rfl) (LeH.rest))) (.cons (.one (.same rfl)) (.cons (.one (.same rfl)) (.nil))) rfl rfl⟩
 ·rintro ex S' (⟨v7, rfl, rfl, w11⟩ | ⟨v8, rfl, rfl, w11⟩)
  ·dsimp only at h
   conv => whnf
   refine Tri.weak w11 ?_
   refine Tri.seqK ?_
   refine Tri.run (G := gm_disk_change) tyOk mixed ?_
   conv => whnf
   refine Tri.run (G := gm_disk_change) tyOk mixed ?_
   conv => whnf
   refine fin_here ?_
   conv => whnf
   cases h
   rfl
  ·dsimp only at h
   conv => whnf
   refine fin_pre w11 ?_
   conv => whnf
   cases h
   rfl
noncomputable def disk_size (f : File) : Option (Int) :=
 some (IntKind.i64.wrap ((f.Safe.length : Int) + (f.Wait.length : Int)))
def gm_disk_size : Gm := ⟨tys, [], [], []⟩
theorem disk_size_walk (f : File) (r : Int) (h : disk_size f = some r) : PureP Tryz.prog 148 [.agg [.v (.string (bs f.Name)), .v (.string (bs f.Safe)), .v (.string (bs f.Wait))]] (fun a => a = .v (.int .i64 r)) := by
 unfold disk_size at h
 refine pureW (G := gm_disk_size) tyOk Tryz.func148 rfl (by kernel_rfl) (by simp [Tryz.f148]) ?_
 refine Tri.seqK ?_
 refine Tri.run (G := gm_disk_size) tyOk mixed ?_
 conv => whnf
 refine Tri.seqK ?_
 refine Tri.run (G := gm_disk_size) tyOk mixed ?_
 conv => whnf
 refine ⟨⟨(f.Safe.length : Int), rfl, ?_⟩⟩
 conv => whnf
 refine ⟨⟨(f.Wait.length : Int), rfl, ?_⟩⟩
 conv => whnf
 refine Tri.run (G := gm_disk_size) tyOk mixed ?_
 conv => whnf
 refine fin_here ?_
 conv => whnf
 cases h
 rfl
noncomputable def disk_without (d : Disk) (i : Int) : Option (Disk) :=
 (ix d.Files i).bind fun x5 =>
 (disk_size x5).bind fun y7 =>
 need (d.Files.length * 48 ≤ 140737488355328) <|
 need (0 ≤ i ∧ i ≤ (IntKind.i64.wrap (i + 1)) ∧ (IntKind.i64.wrap (i + 1)) ≤ (d.Files.length : Int) ∧ (d.Files.length : Int) < 4611686018427387904 ∧ 0 < d.Files.length) <|
 some ({ Files := (List.take i.toNat d.Files ++ List.drop (IntKind.i64.wrap (i + 1)).toNat d.Files), Room := (IntKind.i64.wrap (d.Room + y7)), Fuse := d.Fuse, Off := d.Off } : Disk)
def gm_disk_without : Gm := ⟨tys, [177], [(106, 64, 3)], [177]⟩
theorem disk_without_walk (d : Disk) (i : Int) (r : Disk) (h : disk_without d i = some r) : PureP Tryz.prog 161 [.agg [.sl (List.map encFile d.Files), .v (.int .i64 d.Room), .v (.int .i64 d.Fuse), .v (.bool d.Off)], .v (.int .i64 i)] (fun a => a = .agg [.sl (List.map encFile r.Files), .v (.int .i64 r.Room), .v (.int .i64 r.Fuse), .v (.bool r.Off)]) := by
 unfold disk_without at h
 refine pureW (G := gm_disk_without) tyOk Tryz.func161 rfl (by kernel_rfl) (by simp [Tryz.f161]) ?_
 refine Tri.seqK ?_
 refine Tri.run (G := gm_disk_without) tyOk mixed ?_
 conv => whnf
 refine Tri.seqK ?_
 refine Tri.run (G := gm_disk_without) tyOk mixed ?_
 conv => whnf
 refine Draw.one 10 (.take 0 (.take 1 (.take 2 (.take 3 (.take 4 (.take 5 (.take 6 (.alt 7 (.take 8 (.take 9 (.fin))) (.nil))))))))) [] (by kernel_rfl) ?_
 conv => whnf
 replace h := bind_some h
 obtain ⟨x5, q6, h⟩ := h
 refine ⟨(ix_some q6).1, ?_⟩
 conv => whnf
 refine ⟨⟨_, map_get encFile (ix_some q6).2, ?_⟩⟩
 conv => whnf
 refine ⟨rfl, ?_⟩
 conv => whnf
 refine ⟨?_, ?_⟩
 ·conv => whnf
  replace h := bind_some h
  obtain ⟨y7, q8, h⟩ := h
  refine PureP.mono (disk_size_walk x5 y7 q8) ?_
  rintro _ rfl
  conv => whnf
  refine Tri.seqK ?_
  refine Tri.run (G := gm_disk_without) tyOk mixed ?_
  conv => whnf
  replace h := need_some h
  obtain ⟨p9, h⟩ := h
  refine FreshP.mono (clone_106 d.Files p9) ?_
  rintro _ rfl
  conv => whnf
  refine ⟨rfl, ?_⟩
  conv => whnf
  replace h := need_some h
  obtain ⟨p10, h⟩ := h
  refine EatP.mono (delete_177 d.Files i (IntKind.i64.wrap (i + 1)) p10) ?_
  rintro _ rfl
  conv => whnf
  refine Tri.seqK ?_
  refine Tri.run (G := gm_disk_without) tyOk mixed ?_
  conv => whnf
  refine Tri.run (G := gm_disk_without) tyOk mixed ?_
  conv => whnf
  refine fin_here ?_
  conv => whnf
  refine ⟨rfl, ?_⟩
  conv => whnf
  cases h
  rfl
 ·conv => whnf
  trivial
noncomputable def disk_Delete (d : Disk) (name : Str) : Option (Disk × Int) :=
 if d.Off then
  some (d, 6)
 else
  (disk_at d name).bind fun y6 =>
  if (decide (y6 < 0)) then
   some (d, 7)
  else
   (disk_change d).bind fun y9 =>
   if (!y9.2) then
    some (y9.1, 6)
   else
    (disk_at y9.1 name).bind fun y17 =>
    (disk_without y9.1 y17).bind fun y19 =>
    some (y19, 0)
def gm_disk_Delete : Gm := ⟨tys, [], [], []⟩
theorem disk_Delete_walk (d : Disk) (name : Str) (r : Disk × Int) (h : disk_Delete d name = some r) : PureP Tryz.prog 121 [.agg [.sl (List.map encFile d.Files), .v (.int .i64 d.Room), .v (.int .i64 d.Fuse), .v (.bool d.Off)], .v (.string (bs name))] (fun a => a = .tup [.agg [.sl (List.map encFile r.1.Files), .v (.int .i64 r.1.Room), .v (.int .i64 r.1.Fuse), .v (.bool r.1.Off)], .v (.int .i64 r.2)]) := by
 unfold disk_Delete at h
 refine pureW (G := gm_disk_Delete) tyOk Tryz.func121 rfl (by kernel_rfl) (by simp [Tryz.f121]) ?_
 refine Tri.seqK ?_
 refine Tri.run (G := gm_disk_Delete) tyOk mixed ?_
 conv => whnf
 refine Tri.seqK ?_
 refine Tri.block ?_
 refine Tri.seqK ?_
 refine Tri.run (G := gm_disk_Delete) tyOk mixed ?_
 conv => whnf
 refine Tri.cond rfl (fun c5 => ?_) (fun c5 => ?_)
 ·replace h := if_t c5 h
  refine Tri.seqK ?_
  refine Tri.run (G := gm_disk_Delete) tyOk mixed ?_
  conv => whnf
  refine Tri.run (G := gm_disk_Delete) tyOk mixed ?_
  conv => whnf
  refine fin_here ?_
  conv => whnf
  cases h
  rfl
 ·replace h := if_f c5 h
  refine Tri.seqK ?_
  refine Tri.run (G := gm_disk_Delete) tyOk mixed ?_
  conv => whnf
  replace h := bind_some h
  obtain ⟨y6, q7, h⟩ := h
  refine PureP.mono (disk_at_walk d name y6 q7) ?_
  rintro _ rfl
  conv => whnf
  refine Tri.cond rfl (fun c8 => ?_) (fun c8 => ?_)
  ·replace h := if_t c8 h
   refine Tri.seqK ?_
   refine Tri.run (G := gm_disk_Delete) tyOk mixed ?_
   conv => whnf
   refine Tri.run (G := gm_disk_Delete) tyOk mixed ?_
   conv => whnf
   refine fin_here ?_
   conv => whnf
   cases h
   rfl
  ·replace h := if_f c8 h
   refine Tri.run (G := gm_disk_Delete) tyOk mixed ?_
   conv => whnf
   refine Tri.seqK ?_
   refine Tri.run (G := gm_disk_Delete) tyOk mixed ?_
   conv => whnf
   replace h := bind_some h
   obtain ⟨y9, q10, h⟩ := h
   refine PureP.mono (disk_change_walk d y9 q10) ?_
   rintro _ rfl
   conv => whnf
   refine Tri.seqK ?_
   refine Tri.seqK ?_
   refine Tri.run (G := gm_disk_Delete) tyOk mixed ?_
   conv => whnf
   refine Tri.cond rfl (fun c12 => ?_) (fun c12 => ?_)
   ·replace h := if_t c12 h
    refine Tri.seqK ?_
    refine Tri.run (G := gm_disk_Delete) tyOk mixed ?_
    conv => whnf
    refine Tri.run (G := gm_disk_Delete) tyOk mixed ?_
    conv => whnf
    refine fin_here ?_
    conv => whnf
    cases h
    rfl
   ·replace h := if_f c12 h
    refine Tri.run (G := gm_disk_Delete) tyOk mixed ?_
    conv => whnf
    refine Tri.seqK ?_
    refine Tri.run (G := gm_disk_Delete) tyOk mixed ?_
    conv => whnf
    refine Draw.one 5 (.take 0 (.take 1 (.take 2 (.alt 3 (.alt 4 (.fin) (.nil)) (.nil))))) [] (by kernel_rfl) ?_
    conv => whnf
    refine ⟨?_, ?_⟩
    ·conv => whnf
     replace h := bind_some h
     obtain ⟨y17, q18, h⟩ := h
     refine PureP.mono (disk_at_walk y9.1 name y17 q18) ?_
     rintro _ rfl
     conv => whnf
     refine ⟨?_, ?_⟩
     ·conv => whnf
      replace h := bind_some h
      obtain ⟨y19, q20, h⟩ := h
      refine PureP.mono (disk_without_walk y9.1 y17 y19 q20) ?_
      rintro _ rfl
      conv => whnf
      refine Tri.run (G := gm_disk_Delete) tyOk mixed ?_
      conv => whnf
      refine fin_here ?_
      conv => whnf
      cases h
      rfl
     ·conv => whnf
      trivial
    ·conv => whnf
     trivial
noncomputable def disk_named (name : Str) : Option (Bool) :=
 if (decide ((name.length : Int) ≥ 1)) then
  some (decide ((name.length : Int) ≤ 16))
 else
  some false
def gm_disk_named : Gm := ⟨tys, [], [], []⟩
theorem disk_named_walk (name : Str) (r : Bool) (h : disk_named name = some r) : PureP Tryz.prog 147 [.v (.string (bs name))] (fun a => a = .v (.bool r)) := by
 unfold disk_named at h
 refine pureW (G := gm_disk_named) tyOk Tryz.func147 rfl (by kernel_rfl) (by simp [Tryz.f147]) ?_
 refine Tri.seqK ?_
 refine Tri.run (G := gm_disk_named) tyOk mixed ?_
 conv => whnf
 refine Tri.seqK ?_
 refine Tri.run (G := gm_disk_named) tyOk mixed ?_
 conv => whnf
 refine ⟨⟨(name.length : Int), rfl, ?_⟩⟩
 conv => whnf
 refine cond_mk (fun c1 => ?_) (fun c1 => ?_)
 ·replace h := if_t c1 h
  conv => whnf
  refine ⟨⟨(name.length : Int), rfl, ?_⟩⟩
  conv => whnf
  refine Tri.run (G := gm_disk_named) tyOk mixed ?_
  conv => whnf
  refine fin_here ?_
  conv => whnf
  cases h
  rfl
 ·replace h := if_f c1 h
  conv => whnf
  refine Tri.run (G := gm_disk_named) tyOk mixed ?_
  conv => whnf
  refine fin_here ?_
  conv => whnf
  cases h
  rfl
noncomputable def disk_set_File (l : (List File)) (i : Int) (x : File) : Option ((List File)) :=
 need (l.length * 48 ≤ 140737488355328) <|
 (ix l i).bind fun x2 =>
 some (List.set l (i).toNat x)
def gm_disk_set_File : Gm := ⟨tys, [], [(106, 64, 3)], []⟩
theorem disk_set_File_walk (l : (List File)) (i : Int) (x : File) (r : (List File)) (h : disk_set_File l i x = some r) : PureP Tryz.prog 146 [.sl (List.map encFile l), .v (.int .i64 i), .agg [.v (.string (bs x.Name)), .v (.string (bs x.Safe)), .v (.string (bs x.Wait))]] (fun a => a = .sl (List.map encFile r)) := by
 unfold disk_set_File at h
 refine pureW (G := gm_disk_set_File) tyOk Tryz.func146 rfl (by kernel_rfl) (by simp [Tryz.f146]) ?_
 refine Tri.seqK ?_
 refine Tri.run (G := gm_disk_set_File) tyOk mixed ?_
 conv => whnf
 refine Tri.seqK ?_
 refine Tri.run (G := gm_disk_set_File) tyOk mixed ?_
 conv => whnf
 replace h := need_some h
 obtain ⟨p1, h⟩ := h
 refine FreshP.mono (clone_106 l p1) ?_
 rintro _ rfl
 conv => whnf
 refine Tri.seqK ?_
 refine Tri.run (G := gm_disk_set_File) tyOk mixed ?_
 conv => whnf
 replace h := bind_some h
 obtain ⟨x2, q3, h⟩ := h
 refine ⟨⟨rfl, (ix_lt q3).1, by have := ix_lt q3; simp only [List.length_map, List.length_set, List.length_cons, List.length_nil] at *; omega⟩, ?_⟩
 conv => whnf
 refine ⟨rfl, ?_⟩
 conv => whnf
 refine ⟨⟨_, map_get encFile (ix_some q3).2, ?_⟩⟩
 conv => whnf
 refine ⟨Nat.le_of_ble_eq_true rfl, ?_⟩
 conv => whnf
 refine ⟨⟨List.map encFile (List.set l (i).toNat x), map_set encFile _ _ _ rfl, ?_⟩⟩
 conv => whnf
 refine Tri.seqK ?_
 refine Tri.run (G := gm_disk_set_File) tyOk mixed ?_
 conv => whnf
 refine Tri.run (G := gm_disk_set_File) tyOk mixed ?_
 conv => whnf
 refine fin_here ?_
 conv => whnf
 refine ⟨by first | (simp; done) | (simp only [List.length_map, List.length_append, List.length_take, List.length_drop, List.length_replicate, List.length_set, List.length_mergeSort]; omega), ?_⟩
 conv => whnf
 cases h
 rfl
end Go.Ab
