/- The program's functions as plain Lean functions, and that the program comes to what they come to. Printed by a program of this session. -/
import Derived.Test.YthhddlhgkejhbaaTy
namespace Go.Ab
open Go.Proofs
set_option linter.unusedVariables false
set_option linter.unusedSimpArgs false
set_option maxRecDepth 100000
noncomputable def ref03_New (room : Int) : Option (Disk × Int) :=
  if (decide (room < 0)) then
    some (({ Files := [], Room := 0, Fuse := 0, Off := false } : Disk), 1)
  else
    some (({ Files := [], Room := room, Fuse := (-1), Off := false } : Disk), 0)
def gm_ref03_New : Gm := ⟨tys, [], [], []⟩
theorem ref03_New_walk (room : Int) (r : Disk × Int) (h : ref03_New room = some r) : PureP Try.prog 19 [.v (.int .i64 room)] (fun a => a = .tup [.agg [.sl (List.map encFile r.1.Files), .v (.int .i64 r.1.Room), .v (.int .i64 r.1.Fuse), .v (.bool r.1.Off)], .v (.int .i64 r.2)]) := by
  unfold ref03_New at h
  refine pureW (G := gm_ref03_New) tyOk Try.func19 rfl (by kernel_rfl) (by simp [Try.f19]) ?_
  refine Tri.seqK ?_
  refine Tri.run (G := gm_ref03_New) tyOk mixed ?_
  conv => whnf
  refine Tri.seqK ?_
  refine Tri.seqK ?_
  refine Tri.run (G := gm_ref03_New) tyOk mixed ?_
  conv => whnf
  refine Tri.cond rfl (fun c2 => ?_) (fun c2 => ?_)
  · replace h := if_t c2 h
    refine Tri.seqK ?_
    refine Tri.run (G := gm_ref03_New) tyOk mixed ?_
    conv => whnf
    refine Tri.run (G := gm_ref03_New) tyOk mixed ?_
    conv => whnf
    refine fin_here ?_
    conv => whnf
    obtain rfl := Option.some.inj h
    rfl
  · replace h := if_f c2 h
    refine Tri.run (G := gm_ref03_New) tyOk mixed ?_
    conv => whnf
    refine Tri.seqK ?_
    refine Tri.run (G := gm_ref03_New) tyOk mixed ?_
    conv => whnf
    refine Tri.run (G := gm_ref03_New) tyOk mixed ?_
    conv => whnf
    refine fin_here ?_
    conv => whnf
    obtain rfl := Option.some.inj h
    rfl
noncomputable def disk_at_1 (f : File) (v : Str) : Option (Bool) :=
  some (decide (f.Name = v))
def gm_disk_at_1 : Gm := ⟨tys, [], [], []⟩
theorem disk_at_1_walk (f : File) (v : Str) (r : Bool) (h : disk_at_1 f v = some r) : CallP Try.prog 69 [.var 9 [.v (.string (bs v))]] [.agg [.v (.string (bs f.Name)), .v (.string (bs f.Safe)), .v (.string (bs f.Wait))], .ptr 0 0] (fun a H' => a = .v (.bool r) ∧ H'.take ([.var 9 [.v (.string (bs v))]] : List Ob).length = [.var 9 [.v (.string (bs v))]]) := by
  unfold disk_at_1 at h
  refine callW (G := gm_disk_at_1) tyOk Try.func69 rfl (by kernel_rfl) (by simp [Try.f69]) ?_
  refine Tri.seqK ?_
  refine Tri.run (G := gm_disk_at_1) tyOk mixed ?_
  conv => whnf
  refine Tri.seqK ?_
  refine Tri.run (G := gm_disk_at_1) tyOk mixed ?_
  conv => whnf
  refine ⟨⟨(decide (f.Name = v)), bs_eq _ _, ?_⟩⟩
  conv => whnf
  refine Tri.run (G := gm_disk_at_1) tyOk mixed ?_
  conv => whnf
  refine fin_pre (S' := ⟨8, 1, ofRegs [(3, .v (.bool (decide (f.Name = v))))], [.var 9 [.v (.string (bs v))]]⟩) (weak_fin _ rfl rfl rfl (.cons (.same rfl) (LeH.rest)) (.cons (.one (.same rfl)) (.nil)) rfl rfl) ?_
  conv => whnf
  obtain rfl := Option.some.inj h
  exact ⟨rfl, rfl⟩
noncomputable def slices_IndexFunc_File__disk_at_1_l4 (s : (List File)) (v : Str) (a164 : Int) : Option ((Int) ⊕ ((Int) ⊕ (Unit))) :=
  if (decide (a164 < (s.length : Int))) then
    (ix s a164).bind fun x179 =>
    (disk_at_1 x179 v).bind fun y181 =>
    if y181 then
      some (.inr (.inl a164))
    else
      some (.inl (IntKind.i64.wrap (a164 + 1)))
  else
    some (.inr (.inr ()))
noncomputable def slices_IndexFunc_File__disk_at_1 (s : (List File)) (v : Str) : Option (Int) :=
  (loop (fun (s169 : Int) => slices_IndexFunc_File__disk_at_1_l4 s v s169) (0 : Int)).bind fun (y165 : (Int) ⊕ (Unit)) =>
  match y165 with
  | (.inl v167) =>
    some v167
  | (.inr v168) =>
    some (-1)
def gm_slices_IndexFunc_File__disk_at_1 : Gm := ⟨tys, [69], [], []⟩
theorem slices_IndexFunc_File__disk_at_1_walk (s : (List File)) (v : Str) (r : Int) (h : slices_IndexFunc_File__disk_at_1 s v = some r) : CallP Try.prog 68 [.var 9 [.v (.string (bs v))]] [.sl (List.map encFile s), .fn (.func 69) [] [.ptr 0 0]] (fun a H' => a = .v (.int .i64 r) ∧ H'.take ([.var 9 [.v (.string (bs v))]] : List Ob).length = [.var 9 [.v (.string (bs v))]]) := by
  unfold slices_IndexFunc_File__disk_at_1 at h
  refine callW (G := gm_slices_IndexFunc_File__disk_at_1) tyOk Try.func68 rfl (by kernel_rfl) (by simp [Try.f68]) ?_
  refine Tri.seqK ?_
  refine Tri.run (G := gm_slices_IndexFunc_File__disk_at_1) tyOk mixed ?_
  conv => whnf
  refine Tri.seqK ?_
  refine Tri.seqK ?_
  refine Tri.run (G := gm_slices_IndexFunc_File__disk_at_1) tyOk mixed ?_
  conv => whnf
  refine ⟨⟨(s.length : Int), (len_map _ _).symm, ?_⟩⟩
  conv => whnf
  refine Tri.block ?_
  replace h := bind_some h
  obtain ⟨y165, q166, h⟩ := h
  refine Tri.cut (fun ex S' => (∃ v167 : Int, y165 = (.inl v167) ∧ ex = .ret ∧ Weak S' ⟨19, 1, ofRegs [(4, .v (.int .i64 v167))], [.var 9 [.v (.string (bs v))]]⟩) ∨ (∃ v168 : Unit, y165 = (.inr v168) ∧ ex = (.exit 0) ∧ Weak S' ⟨19, 1, ofRegs [], [.var 9 [.v (.string (bs v))]]⟩)) ?_ ?_
  · refine Tri.loopF (fun (s169 : Int) => (⟨19, 1, ofRegs [(0, .sl (List.map encFile s)), (1, .fn (.func 69) [] [.ptr 0 0]), (7, .v (.int .i64 (s.length : Int))), (8, .v (.int .i64 s169))], [.var 9 [.v (.string (bs v))]]⟩ : St)) q166 (weak_fin _ rfl rfl rfl (.cons (.same rfl) (LeH.rest)) (.cons (.one (.same rfl)) (.cons (.one (.same rfl)) (.cons (.one (.same rfl)) (.cons (.one (.same rfl)) (.nil))))) rfl rfl) ?_
    rintro a164 v170 hv r171
    have hv : slices_IndexFunc_File__disk_at_1_l4 s v a164 = some v170 := hv
    unfold slices_IndexFunc_File__disk_at_1_l4 at hv
    refine Tri.seqK ?_
    refine Tri.run (G := gm_slices_IndexFunc_File__disk_at_1) tyOk mixed ?_
    conv => whnf
    refine Tri.seqK ?_
    refine Tri.cond rfl (fun c173 => ?_) (fun c173 => ?_)
    · replace hv := if_t c173 hv
      refine Tri.run (G := gm_slices_IndexFunc_File__disk_at_1) tyOk mixed ?_
      conv => whnf
      refine Tri.seqK ?_
      refine Tri.block ?_
      refine Tri.seqK ?_
      refine Tri.run (G := gm_slices_IndexFunc_File__disk_at_1) tyOk mixed ?_
      conv => whnf
      refine Tri.seqK ?_
      refine Tri.run (G := gm_slices_IndexFunc_File__disk_at_1) tyOk mixed ?_
      conv => whnf
      replace hv := bind_some hv
      obtain ⟨x179, q180, hv⟩ := hv
      refine ⟨(ix_some q180).1, ?_⟩
      conv => whnf
      refine ⟨⟨_, map_get encFile (ix_some q180).2, ?_⟩⟩
      conv => whnf
      refine ⟨rfl, ?_⟩
      conv => whnf
      replace hv := bind_some hv
      obtain ⟨y181, q182, hv⟩ := hv
      refine CallP.use (disk_at_1_walk x179 v y181 q182) [0] rfl rfl rfl rfl rfl rfl rfl rfl rfl ?_
      conv => whnf
      refine Tri.cond rfl (fun c183 => ?_) (fun c183 => ?_)
      · replace hv := if_t c183 hv
        refine Tri.seqK ?_
        refine Tri.run (G := gm_slices_IndexFunc_File__disk_at_1) tyOk mixed ?_
        conv => whnf
        refine Tri.run (G := gm_slices_IndexFunc_File__disk_at_1) tyOk mixed ?_
        conv => whnf
        obtain rfl := Option.some.inj hv
        obtain rfl := r171 _ rfl
        exact Or.inl ⟨_, rfl, rfl, weak_fin _ rfl rfl rfl (.cons (.same rfl) (LeH.rest)) (.cons (.one (.same rfl)) (.nil)) rfl rfl⟩
      · replace hv := if_f c183 hv
        refine Tri.run (G := gm_slices_IndexFunc_File__disk_at_1) tyOk mixed ?_
        conv => whnf
        refine Tri.run (G := gm_slices_IndexFunc_File__disk_at_1) tyOk mixed ?_
        conv => whnf
        obtain rfl := Option.some.inj hv
        exact ⟨_, rfl, weak_fin _ rfl rfl rfl (.cons (.same rfl) (LeH.rest)) (.cons (.one (.same rfl)) (.cons (.one (.same rfl)) (.cons (.one (.same rfl)) (.cons (.one (.same rfl)) (.nil))))) rfl rfl⟩
    · replace hv := if_f c173 hv
      refine Tri.run (G := gm_slices_IndexFunc_File__disk_at_1) tyOk mixed ?_
      conv => whnf
      obtain rfl := Option.some.inj hv
      obtain rfl := r171 _ rfl
      exact Or.inr (⟨_, rfl, rfl, weak_fin _ rfl rfl rfl (.cons (.same rfl) (LeH.rest)) (.nil) rfl rfl⟩)
  · rintro ex S' (⟨v167, rfl, rfl, w184⟩ | ⟨v168, rfl, rfl, w184⟩)
    · dsimp only at h
      conv => whnf
      refine fin_pre (S' := ⟨19, 1, ofRegs [(4, .v (.int .i64 v167))], [.var 9 [.v (.string (bs v))]]⟩) (Weak.trans w184 (weak_fin _ rfl rfl rfl (.cons (.same rfl) (LeH.rest)) (.cons (.one (.same rfl)) (.nil)) rfl rfl)) ?_
      conv => whnf
      obtain rfl := Option.some.inj h
      exact ⟨rfl, rfl⟩
    · dsimp only at h
      conv => whnf
      refine Tri.weak w184 ?_
      refine Tri.seqK ?_
      refine Tri.run (G := gm_slices_IndexFunc_File__disk_at_1) tyOk mixed ?_
      conv => whnf
      refine Tri.run (G := gm_slices_IndexFunc_File__disk_at_1) tyOk mixed ?_
      conv => whnf
      refine fin_pre (S' := ⟨19, 1, ofRegs [(4, .v (.int .i64 (-1)))], [.var 9 [.v (.string (bs v))]]⟩) (weak_fin _ rfl rfl rfl (.cons (.same rfl) (LeH.rest)) (.cons (.one (.same rfl)) (.nil)) rfl rfl) ?_
      conv => whnf
      obtain rfl := Option.some.inj h
      exact ⟨rfl, rfl⟩
noncomputable def disk_at (d : Disk) (name : Str) : Option (Int) :=
  (slices_IndexFunc_File__disk_at_1 d.Files name).bind fun y1 =>
  some y1
def gm_disk_at : Gm := ⟨tys, [68], [], []⟩
theorem disk_at_walk (d : Disk) (name : Str) (r : Int) (h : disk_at d name = some r) : PureP Try.prog 58 [.agg [.sl (List.map encFile d.Files), .v (.int .i64 d.Room), .v (.int .i64 d.Fuse), .v (.bool d.Off)], .v (.string (bs name))] (fun a => a = .v (.int .i64 r)) := by
  unfold disk_at at h
  refine pureW (G := gm_disk_at) tyOk Try.func58 rfl (by kernel_rfl) (by simp [Try.f58]) ?_
  refine Tri.seqK ?_
  refine Tri.run (G := gm_disk_at) tyOk mixed ?_
  conv => whnf
  refine Tri.seqK ?_
  refine Tri.run (G := gm_disk_at) tyOk mixed ?_
  conv => whnf
  replace h := bind_some h
  obtain ⟨y1, q2, h⟩ := h
  refine CallP.use (slices_IndexFunc_File__disk_at_1_walk d.Files name y1 q2) [1] rfl rfl rfl rfl rfl rfl rfl rfl rfl ?_
  conv => whnf
  refine Tri.run (G := gm_disk_at) tyOk mixed ?_
  conv => whnf
  refine fin_here ?_
  conv => whnf
  obtain rfl := Option.some.inj h
  rfl
noncomputable def disk_Find (d : Disk) (name : Str) : Option (File × Bool) :=
  (disk_at d name).bind fun y1 =>
  if (decide (y1 < 0)) then
    some (({ Name := [], Safe := [], Wait := [] } : File), false)
  else
    (ix d.Files y1).bind fun x5 =>
    some (x5, true)
def gm_disk_Find : Gm := ⟨tys, [], [], []⟩
theorem disk_Find_walk (d : Disk) (name : Str) (r : File × Bool) (h : disk_Find d name = some r) : PureP Try.prog 46 [.agg [.sl (List.map encFile d.Files), .v (.int .i64 d.Room), .v (.int .i64 d.Fuse), .v (.bool d.Off)], .v (.string (bs name))] (fun a => a = .tup [.agg [.v (.string (bs r.1.Name)), .v (.string (bs r.1.Safe)), .v (.string (bs r.1.Wait))], .v (.bool r.2)]) := by
  unfold disk_Find at h
  refine pureW (G := gm_disk_Find) tyOk Try.func46 rfl (by kernel_rfl) (by simp [Try.f46]) ?_
  refine Tri.seqK ?_
  refine Tri.run (G := gm_disk_Find) tyOk mixed ?_
  conv => whnf
  refine Tri.seqK ?_
  refine Tri.run (G := gm_disk_Find) tyOk mixed ?_
  conv => whnf
  replace h := bind_some h
  obtain ⟨y1, q2, h⟩ := h
  refine PureP.mono (disk_at_walk d name y1 q2) ?_
  rintro _ rfl
  conv => whnf
  refine Tri.seqK ?_
  refine Tri.seqK ?_
  refine Tri.run (G := gm_disk_Find) tyOk mixed ?_
  conv => whnf
  refine Tri.cond rfl (fun c4 => ?_) (fun c4 => ?_)
  · replace h := if_t c4 h
    refine Tri.seqK ?_
    refine Tri.run (G := gm_disk_Find) tyOk mixed ?_
    conv => whnf
    refine Tri.run (G := gm_disk_Find) tyOk mixed ?_
    conv => whnf
    refine fin_here ?_
    conv => whnf
    obtain rfl := Option.some.inj h
    rfl
  · replace h := if_f c4 h
    refine Tri.run (G := gm_disk_Find) tyOk mixed ?_
    conv => whnf
    refine Tri.seqK ?_
    refine Tri.run (G := gm_disk_Find) tyOk mixed ?_
    conv => whnf
    replace h := bind_some h
    obtain ⟨x5, q6, h⟩ := h
    refine ⟨(ix_some q6).1, ?_⟩
    conv => whnf
    refine ⟨⟨_, map_get encFile (ix_some q6).2, ?_⟩⟩
    conv => whnf
    refine ⟨rfl, ?_⟩
    conv => whnf
    refine Tri.run (G := gm_disk_Find) tyOk mixed ?_
    conv => whnf
    refine fin_here ?_
    conv => whnf
    obtain rfl := Option.some.inj h
    rfl
noncomputable def disk_Read (d : Disk) (name : Str) : Option (Str × Int) :=
  (disk_Find d name).bind fun y1 =>
  if (!y1.2) then
    some ([], 7)
  else
    need (y1.1.Safe.length + y1.1.Wait.length ≤ 9223372036854775807) <|
    some ((y1.1.Safe ++ y1.1.Wait), 0)
def gm_disk_Read : Gm := ⟨tys, [], [], []⟩
theorem disk_Read_walk (d : Disk) (name : Str) (r : Str × Int) (h : disk_Read d name = some r) : PureP Try.prog 31 [.agg [.sl (List.map encFile d.Files), .v (.int .i64 d.Room), .v (.int .i64 d.Fuse), .v (.bool d.Off)], .v (.string (bs name))] (fun a => a = .tup [.v (.string (bs r.1)), .v (.int .i64 r.2)]) := by
  unfold disk_Read at h
  refine pureW (G := gm_disk_Read) tyOk Try.func31 rfl (by kernel_rfl) (by simp [Try.f31]) ?_
  refine Tri.seqK ?_
  refine Tri.run (G := gm_disk_Read) tyOk mixed ?_
  conv => whnf
  refine Tri.seqK ?_
  refine Tri.run (G := gm_disk_Read) tyOk mixed ?_
  conv => whnf
  replace h := bind_some h
  obtain ⟨y1, q2, h⟩ := h
  refine PureP.mono (disk_Find_walk d name y1 q2) ?_
  rintro _ rfl
  conv => whnf
  refine Tri.seqK ?_
  refine Tri.seqK ?_
  refine Tri.run (G := gm_disk_Read) tyOk mixed ?_
  conv => whnf
  refine Tri.cond rfl (fun c4 => ?_) (fun c4 => ?_)
  · replace h := if_t c4 h
    refine Tri.seqK ?_
    refine Tri.run (G := gm_disk_Read) tyOk mixed ?_
    conv => whnf
    refine Tri.run (G := gm_disk_Read) tyOk mixed ?_
    conv => whnf
    refine fin_here ?_
    conv => whnf
    obtain rfl := Option.some.inj h
    rfl
  · replace h := if_f c4 h
    refine Tri.run (G := gm_disk_Read) tyOk mixed ?_
    conv => whnf
    refine Tri.seqK ?_
    refine Tri.run (G := gm_disk_Read) tyOk mixed ?_
    conv => whnf
    replace h := need_some h
    obtain ⟨p5, h⟩ := h
    refine ⟨p5, ?_⟩
    conv => whnf
    refine ⟨⟨bs (y1.1.Safe ++ y1.1.Wait), bs_append _ _, ?_⟩⟩
    conv => whnf
    refine Tri.run (G := gm_disk_Read) tyOk mixed ?_
    conv => whnf
    refine fin_here ?_
    conv => whnf
    obtain rfl := Option.some.inj h
    rfl
noncomputable def dec_told_l2 (s : Str) (a65 : Int) (a66 : Int) : Option ((Int × Int) ⊕ ((Unit) ⊕ (Int))) :=
  if (decide (a66 < (s.length : Int))) then
    (ix s a66).bind fun x80 =>
    if (decide (a65 > (IntKind.u64.wrap (Int.tdiv (IntKind.u64.wrap (18446744073709551615 - (IntKind.u64.wrap (IntKind.u8.wrap ((x80.toNat : Int) - 48))))) 10)))) then
      some (.inr (.inl ()))
    else
      some (.inl ((IntKind.u64.wrap ((IntKind.u64.wrap (10 * a65)) + (IntKind.u64.wrap (IntKind.u8.wrap ((x80.toNat : Int) - 48))))), (IntKind.i64.wrap (a66 + 1))))
  else
    some (.inr (.inr a65))
noncomputable def dec_told (s : Str) : Option (Int × Bool) :=
  (loop (fun (s71 : Int × Int) => dec_told_l2 s s71.1 s71.2) ((0 : Int), (0 : Int))).bind fun (y67 : (Unit) ⊕ (Int)) =>
  match y67 with
  | (.inl v69) =>
    some (0, false)
  | (.inr v70) =>
    some (v70, true)
def gm_dec_told : Gm := ⟨tys, [], [], []⟩
theorem dec_told_walk (s : Str) (r : Int × Bool) (h : dec_told s = some r) : PureP Try.prog 57 [.v (.string (bs s))] (fun a => a = .tup [.v (.int .u64 r.1), .v (.bool r.2)]) := by
  unfold dec_told at h
  refine pureW (G := gm_dec_told) tyOk Try.func57 rfl (by kernel_rfl) (by simp [Try.f57]) ?_
  refine Tri.seqK ?_
  refine Tri.run (G := gm_dec_told) tyOk mixed ?_
  conv => whnf
  refine Tri.seqK ?_
  refine Tri.run (G := gm_dec_told) tyOk mixed ?_
  conv => whnf
  refine Tri.seqK ?_
  refine Tri.seqK ?_
  refine Tri.run (G := gm_dec_told) tyOk mixed ?_
  conv => whnf
  refine ⟨⟨(s.length : Int), rfl, ?_⟩⟩
  conv => whnf
  refine Tri.block ?_
  replace h := bind_some h
  obtain ⟨y67, q68, h⟩ := h
  refine Tri.cut (fun ex S' => (∃ v69 : Unit, y67 = (.inl v69) ∧ ex = .ret ∧ Weak S' ⟨28, 0, ofRegs [(2, .v (.int .u64 0)), (3, .v (.bool false))], []⟩) ∨ (∃ v70 : Int, y67 = (.inr v70) ∧ ex = (.exit 0) ∧ Weak S' ⟨28, 0, ofRegs [(4, .v (.int .u64 v70))], []⟩)) ?_ ?_
  · refine Tri.loopF (fun (s71 : Int × Int) => (⟨28, 0, ofRegs [(0, .v (.string (bs s))), (4, .v (.int .u64 s71.1)), (8, .v (.int .i64 (s.length : Int))), (9, .v (.int .i64 s71.2))], []⟩ : St)) q68 (weak_fin _ rfl rfl rfl (LeH.rest) (.cons (.one (.same rfl)) (.cons (.one (.same rfl)) (.cons (.one (.same rfl)) (.cons (.one (.same rfl)) (.nil))))) rfl rfl) ?_
    rintro ⟨a65, a66⟩ v72 hv r73
    have hv : dec_told_l2 s a65 a66 = some v72 := hv
    unfold dec_told_l2 at hv
    dsimp only
    refine Tri.seqK ?_
    refine Tri.run (G := gm_dec_told) tyOk mixed ?_
    conv => whnf
    refine Tri.seqK ?_
    refine Tri.cond rfl (fun c75 => ?_) (fun c75 => ?_)
    · replace hv := if_t c75 hv
      refine Tri.run (G := gm_dec_told) tyOk mixed ?_
      conv => whnf
      refine Tri.seqK ?_
      refine Tri.block ?_
      refine Tri.seqK ?_
      refine Tri.run (G := gm_dec_told) tyOk mixed ?_
      conv => whnf
      refine Tri.seqK ?_
      refine Tri.run (G := gm_dec_told) tyOk mixed ?_
      conv => whnf
      replace hv := bind_some hv
      obtain ⟨x80, q81, hv⟩ := hv
      refine ⟨bs_bound q81, ?_⟩
      conv => whnf
      refine ⟨⟨(x80.toNat : Int), bs_at q81, ?_⟩⟩
      conv => whnf
      refine ⟨⟨(IntKind.u64.wrap (IntKind.u8.wrap ((x80.toNat : Int) - 48))), rfl, ?_⟩⟩
      conv => whnf
      refine Tri.seqK ?_
      refine Tri.seqK ?_
      refine Tri.run (G := gm_dec_told) tyOk mixed ?_
      conv => whnf
      refine ⟨by decide, ?_⟩
      conv => whnf
      refine Tri.cond rfl (fun c83 => ?_) (fun c83 => ?_)
      · replace hv := if_t c83 hv
        refine Tri.seqK ?_
        refine Tri.run (G := gm_dec_told) tyOk mixed ?_
        conv => whnf
        refine Tri.run (G := gm_dec_told) tyOk mixed ?_
        conv => whnf
        obtain rfl := Option.some.inj hv
        obtain rfl := r73 _ rfl
        exact Or.inl ⟨_, rfl, rfl, weak_fin _ rfl rfl rfl (LeH.rest) (.cons (.one (.same rfl)) (.cons (.one (.same rfl)) (.nil))) rfl rfl⟩
      · replace hv := if_f c83 hv
        refine Tri.run (G := gm_dec_told) tyOk mixed ?_
        conv => whnf
        refine Tri.run (G := gm_dec_told) tyOk mixed ?_
        conv => whnf
        refine Tri.run (G := gm_dec_told) tyOk mixed ?_
        conv => whnf
        obtain rfl := Option.some.inj hv
        exact ⟨_, rfl, weak_fin _ rfl rfl rfl (LeH.rest) (.cons (.one (.same rfl)) (.cons (.one (.same rfl)) (.cons (.one (.same rfl)) (.cons (.one (.same rfl)) (.nil))))) rfl rfl⟩
    · replace hv := if_f c75 hv
      refine Tri.run (G := gm_dec_told) tyOk mixed ?_
      conv => whnf
      obtain rfl := Option.some.inj hv
      obtain rfl := r73 _ rfl
      exact Or.inr (⟨_, rfl, rfl, weak_fin _ rfl rfl rfl (LeH.rest) (.cons (.one (.same rfl)) (.nil)) rfl rfl⟩)
  · rintro ex S' (⟨v69, rfl, rfl, w84⟩ | ⟨v70, rfl, rfl, w84⟩)
    · dsimp only at h
      conv => whnf
      refine fin_pre w84 ?_
      conv => whnf
      obtain rfl := Option.some.inj h
      rfl
    · dsimp only at h
      conv => whnf
      refine Tri.weak w84 ?_
      refine Tri.seqK ?_
      refine Tri.run (G := gm_dec_told) tyOk mixed ?_
      conv => whnf
      refine Tri.run (G := gm_dec_told) tyOk mixed ?_
      conv => whnf
      refine fin_here ?_
      conv => whnf
      obtain rfl := Option.some.inj h
      rfl
noncomputable def dec_TakeNum_l2 (s : Str) (a150 : Int) : Option ((Int) ⊕ (Int)) :=
  if (decide (a150 < (s.length : Int))) then
    (
      (ix s a150).bind fun x179 =>
      if (decide ((x179.toNat : Int) < 48)) then
        some true
      else
        some (decide ((x179.toNat : Int) > 57))).bind fun (y177 : Bool) =>
    if y177 then
      some (.inr a150)
    else
      some (.inl (IntKind.i64.wrap (a150 + 1)))
  else
    some (.inr a150)
noncomputable def dec_TakeNum (s : Str) : Option (Int × Str × Int) :=
  (loop (fun (s153 : Int) => dec_TakeNum_l2 s s153) (0 : Int)).bind fun (y151 : Int) =>
  if (decide (y151 > 20)) then
    some (0, [], 3)
  else
    need (0 ≤ (0 : Int) ∧ 0 ≤ y151 ∧ y151 ≤ (s.length : Int)) <|
    (dec_told (cut s 0 y151)).bind fun y188 =>
    (
      (
        if (decide (y151 > 1)) then
          (ix s 0).bind fun x906 =>
          some (decide ((x906.toNat : Int) = 48))
        else
          some false).bind fun (y903 : Bool) =>
      if y903 then
        some (.inl ())
      else
        if (!y188.2) then
          some (.inl ())
        else
          (
            if (decide (y151 < (s.length : Int))) then
              if (decide (y151 = 0)) then
                some true
              else
                (ix s y151).bind fun x940 =>
                some (!(decide ((x940.toNat : Int) = 59)))
            else
              some false).bind fun (y936 : Bool) =>
          if y936 then
            some (.inl ())
          else
            if (decide (y151 = (s.length : Int))) then
              some (.inr (.inl ()))
            else
              some (.inr (.inr ()))).bind fun (y879 : (Unit) ⊕ (Unit) ⊕ (Unit)) =>
    match y879 with
    | (.inl v881) =>
      some (0, [], 3)
    | (.inr (.inl v882)) =>
      some (0, [], 2)
    | (.inr (.inr v883)) =>
      need (0 ≤ (IntKind.i64.wrap (y151 + 1)) ∧ (IntKind.i64.wrap (y151 + 1)) ≤ (s.length : Int) ∧ (s.length : Int) ≤ (s.length : Int)) <|
      some (y188.1, (cut s (IntKind.i64.wrap (y151 + 1)) (s.length : Int)), 0)
def gm_dec_TakeNum : Gm := ⟨tys, [], [], []⟩
theorem dec_TakeNum_walk (s : Str) (r : Int × Str × Int) (h : dec_TakeNum s = some r) : PureP Try.prog 42 [.v (.string (bs s))] (fun a => a = .tup [.v (.int .u64 r.1), .v (.string (bs r.2.1)), .v (.int .i64 r.2.2)]) := by
  unfold dec_TakeNum at h
  refine pureW (G := gm_dec_TakeNum) tyOk Try.func42 rfl (by kernel_rfl) (by simp [Try.f42]) ?_
  refine Tri.seqK ?_
  refine Tri.run (G := gm_dec_TakeNum) tyOk mixed ?_
  conv => whnf
  refine Tri.scope ?_
  refine Tri.seqK ?_
  refine Tri.run (G := gm_dec_TakeNum) tyOk mixed ?_
  conv => whnf
  refine Tri.seqK ?_
  refine Tri.run (G := gm_dec_TakeNum) tyOk mixed ?_
  conv => whnf
  refine Tri.seqK ?_
  refine Tri.block ?_
  replace h := bind_some h
  obtain ⟨y151, q152, h⟩ := h
  refine Tri.cut (fun ex S' => ex = (.exit 0) ∧ Weak S' ⟨68, 0, ofRegs [(0, .v (.string (bs s))), (5, .v (.int .i64 y151))], []⟩) ?_ ?_
  · refine Tri.loopF (fun (s153 : Int) => (⟨68, 0, ofRegs [(0, .v (.string (bs s))), (5, .v (.int .i64 s153))], []⟩ : St)) q152 (weak_fin _ rfl rfl rfl (LeH.rest) (.cons (.one (.same rfl)) (.cons (.one (.same rfl)) (.nil))) rfl rfl) ?_
    rintro a150 v154 hv r155
    have hv : dec_TakeNum_l2 s a150 = some v154 := hv
    unfold dec_TakeNum_l2 at hv
    refine Tri.seqK ?_
    refine Tri.seqK ?_
    refine Tri.run (G := gm_dec_TakeNum) tyOk mixed ?_
    conv => whnf
    refine ⟨⟨(s.length : Int), rfl, ?_⟩⟩
    conv => whnf
    refine Tri.cond rfl (fun c157 => ?_) (fun c157 => ?_)
    · replace hv := if_t c157 hv
      refine Tri.run (G := gm_dec_TakeNum) tyOk mixed ?_
      conv => whnf
      refine Tri.seqK ?_
      refine Tri.block ?_
      refine Tri.block ?_
      refine Tri.seqK ?_
      replace hv := bind_some hv
      obtain ⟨y177, q178, hv⟩ := hv
      refine Tri.cut (fun ex S' => ex = .normal ∧ Weak S' ⟨68, 0, ofRegs [(0, .v (.string (bs s))), (5, .v (.int .i64 a150)), (14, .v (.bool y177))], []⟩) ?_ ?_
      · refine Tri.seqK ?_
        refine Tri.run (G := gm_dec_TakeNum) tyOk mixed ?_
        conv => whnf
        replace q178 := bind_some q178
        obtain ⟨x179, q180, q178⟩ := q178
        refine ⟨bs_bound q180, ?_⟩
        conv => whnf
        refine ⟨⟨(x179.toNat : Int), bs_at q180, ?_⟩⟩
        conv => whnf
        refine Tri.cond rfl (fun c181 => ?_) (fun c181 => ?_)
        · replace q178 := if_t c181 q178
          refine Tri.run (G := gm_dec_TakeNum) tyOk mixed ?_
          conv => whnf
          obtain rfl := Option.some.inj q178
          exact ⟨rfl, weak_fin _ rfl rfl rfl (LeH.rest) (.cons (.one (.same rfl)) (.cons (.one (.same rfl)) (.cons (.one (.same rfl)) (.nil)))) rfl rfl⟩
        · replace q178 := if_f c181 q178
          refine Tri.run (G := gm_dec_TakeNum) tyOk mixed ?_
          conv => whnf
          refine ⟨bs_bound q180, ?_⟩
          conv => whnf
          refine ⟨⟨(x179.toNat : Int), bs_at q180, ?_⟩⟩
          conv => whnf
          obtain rfl := Option.some.inj q178
          exact ⟨rfl, weak_fin _ rfl rfl rfl (LeH.rest) (.cons (.one (.same rfl)) (.cons (.one (.same rfl)) (.cons (.one (.same rfl)) (.nil)))) rfl rfl⟩
      · rintro ex S' ⟨rfl, w182⟩
        conv => whnf
        refine Tri.weak w182 ?_
        refine Tri.cond rfl (fun c183 => ?_) (fun c183 => ?_)
        · replace hv := if_t c183 hv
          refine Tri.run (G := gm_dec_TakeNum) tyOk mixed ?_
          conv => whnf
          obtain rfl := Option.some.inj hv
          obtain rfl := r155 _ rfl
          exact ⟨rfl, weak_fin _ rfl rfl rfl (LeH.rest) (.cons (.one (.same rfl)) (.cons (.one (.same rfl)) (.nil))) rfl rfl⟩
        · replace hv := if_f c183 hv
          refine Tri.run (G := gm_dec_TakeNum) tyOk mixed ?_
          conv => whnf
          refine Tri.run (G := gm_dec_TakeNum) tyOk mixed ?_
          conv => whnf
          obtain rfl := Option.some.inj hv
          exact ⟨_, rfl, weak_fin _ rfl rfl rfl (LeH.rest) (.cons (.one (.same rfl)) (.cons (.one (.same rfl)) (.nil))) rfl rfl⟩
    · replace hv := if_f c157 hv
      refine Tri.run (G := gm_dec_TakeNum) tyOk mixed ?_
      conv => whnf
      obtain rfl := Option.some.inj hv
      obtain rfl := r155 _ rfl
      exact ⟨rfl, weak_fin _ rfl rfl rfl (LeH.rest) (.cons (.one (.same rfl)) (.cons (.one (.same rfl)) (.nil))) rfl rfl⟩
  · rintro ex S' ⟨rfl, w184⟩
    conv => whnf
    refine Tri.weak w184 ?_
    refine Tri.seqK ?_
    refine Tri.seqK ?_
    refine Tri.run (G := gm_dec_TakeNum) tyOk mixed ?_
    conv => whnf
    refine Tri.cond rfl (fun c186 => ?_) (fun c186 => ?_)
    · replace h := if_t c186 h
      refine Tri.seqK ?_
      refine Tri.run (G := gm_dec_TakeNum) tyOk mixed ?_
      conv => whnf
      refine Tri.run (G := gm_dec_TakeNum) tyOk mixed ?_
      conv => whnf
      refine fin_here ?_
      conv => whnf
      obtain rfl := Option.some.inj h
      rfl
    · replace h := if_f c186 h
      refine Tri.run (G := gm_dec_TakeNum) tyOk mixed ?_
      conv => whnf
      refine Tri.seqK ?_
      refine Tri.run (G := gm_dec_TakeNum) tyOk mixed ?_
      conv => whnf
      replace h := need_some h
      obtain ⟨p187, h⟩ := h
      refine ⟨p187, ?_⟩
      conv => whnf
      refine ⟨⟨bs (cut s 0 y151), bs_cut _ _ _, ?_⟩⟩
      conv => whnf
      replace h := bind_some h
      obtain ⟨y188, q189, h⟩ := h
      refine PureP.mono (dec_told_walk (cut s 0 y151) y188 q189) ?_
      rintro _ rfl
      conv => whnf
      refine Tri.seqK ?_
      refine Tri.block ?_
      refine Tri.seqK ?_
      refine Tri.block ?_
      refine Tri.seqK ?_
      replace h := bind_some h
      obtain ⟨y879, q880, h⟩ := h
      refine Tri.cut (fun ex S' => (∃ v881 : Unit, y879 = (.inl v881) ∧ ex = .normal ∧ Weak S' ⟨68, 0, ofRegs [], []⟩) ∨ (∃ v882 : Unit, y879 = (.inr (.inl v882)) ∧ ex = (.exit 7) ∧ Weak S' ⟨68, 0, ofRegs [], []⟩) ∨ (∃ v883 : Unit, y879 = (.inr (.inr v883)) ∧ ex = (.exit 3) ∧ Weak S' ⟨68, 0, ofRegs [(0, .v (.string (bs s))), (5, .v (.int .i64 y151)), (6, .v (.int .u64 y188.1))], []⟩)) ?_ ?_
      · refine Tri.block ?_
        refine Tri.block ?_
        refine Tri.block ?_
        refine Tri.seqK ?_
        refine Tri.seqK ?_
        refine Tri.seqK ?_
        replace q880 := bind_some q880
        obtain ⟨y903, q904, q880⟩ := q880
        refine Tri.cut (fun ex S' => ex = .normal ∧ Weak S' ⟨68, 0, ofRegs [(0, .v (.string (bs s))), (5, .v (.int .i64 y151)), (6, .v (.int .u64 y188.1)), (7, .v (.bool y188.2)), (32, .v (.bool y903))], []⟩) ?_ ?_
        · refine Tri.run (G := gm_dec_TakeNum) tyOk mixed ?_
          conv => whnf
          refine cond_mk (fun c905 => ?_) (fun c905 => ?_)
          · replace q904 := if_t c905 q904
            conv => whnf
            replace q904 := bind_some q904
            obtain ⟨x906, q907, q904⟩ := q904
            refine ⟨bs_bound q907, ?_⟩
            conv => whnf
            refine ⟨⟨(x906.toNat : Int), bs_at q907, ?_⟩⟩
            conv => whnf
            obtain rfl := Option.some.inj q904
            exact ⟨rfl, weak_fin _ rfl rfl rfl (LeH.rest) (.cons (.one (.same rfl)) (.cons (.one (.same rfl)) (.cons (.one (.same rfl)) (.cons (.one (.same rfl)) (.cons (.one (.same rfl)) (.nil)))))) rfl rfl⟩
          · replace q904 := if_f c905 q904
            conv => whnf
            obtain rfl := Option.some.inj q904
            exact ⟨rfl, weak_fin _ rfl rfl rfl (LeH.rest) (.cons (.one (.same rfl)) (.cons (.one (.same rfl)) (.cons (.one (.same rfl)) (.cons (.one (.same rfl)) (.cons (.one (.same rfl)) (.nil)))))) rfl rfl⟩
        · rintro ex S' ⟨rfl, w908⟩
          conv => whnf
          refine Tri.weak w908 ?_
          refine Tri.cond rfl (fun c909 => ?_) (fun c909 => ?_)
          · replace q880 := if_t c909 q880
            refine Tri.run (G := gm_dec_TakeNum) tyOk mixed ?_
            conv => whnf
            obtain rfl := Option.some.inj q880
            exact Or.inl ⟨_, rfl, rfl, weak_fin _ rfl rfl rfl (LeH.rest) (.nil) rfl rfl⟩
          · replace q880 := if_f c909 q880
            refine Tri.run (G := gm_dec_TakeNum) tyOk mixed ?_
            conv => whnf
            refine Tri.seqK ?_
            refine Tri.seqK ?_
            refine Tri.run (G := gm_dec_TakeNum) tyOk mixed ?_
            conv => whnf
            refine Tri.cond rfl (fun c911 => ?_) (fun c911 => ?_)
            · replace q880 := if_t c911 q880
              refine Tri.run (G := gm_dec_TakeNum) tyOk mixed ?_
              conv => whnf
              obtain rfl := Option.some.inj q880
              exact Or.inl ⟨_, rfl, rfl, weak_fin _ rfl rfl rfl (LeH.rest) (.nil) rfl rfl⟩
            · replace q880 := if_f c911 q880
              refine Tri.run (G := gm_dec_TakeNum) tyOk mixed ?_
              conv => whnf
              refine Tri.seqK ?_
              refine Tri.seqK ?_
              replace q880 := bind_some q880
              obtain ⟨y936, q937, q880⟩ := q880
              refine Tri.cut (fun ex S' => ex = .normal ∧ Weak S' ⟨68, 0, ofRegs [(0, .v (.string (bs s))), (5, .v (.int .i64 y151)), (6, .v (.int .u64 y188.1)), (43, .v (.bool y936))], []⟩) ?_ ?_
              · refine Tri.run (G := gm_dec_TakeNum) tyOk mixed ?_
                conv => whnf
                refine ⟨⟨(s.length : Int), rfl, ?_⟩⟩
                conv => whnf
                refine cond_mk (fun c938 => ?_) (fun c938 => ?_)
                · replace q937 := if_t c938 q937
                  conv => whnf
                  refine cond_mk (fun c939 => ?_) (fun c939 => ?_)
                  · replace q937 := if_t c939 q937
                    conv => whnf
                    obtain rfl := Option.some.inj q937
                    exact ⟨rfl, weak_fin _ rfl rfl rfl (LeH.rest) (.cons (.one (.same rfl)) (.cons (.one (.same rfl)) (.cons (.one (.same rfl)) (.cons (.one (.same rfl)) (.nil))))) rfl rfl⟩
                  · replace q937 := if_f c939 q937
                    conv => whnf
                    replace q937 := bind_some q937
                    obtain ⟨x940, q941, q937⟩ := q937
                    refine ⟨bs_bound q941, ?_⟩
                    conv => whnf
                    refine ⟨⟨(x940.toNat : Int), bs_at q941, ?_⟩⟩
                    conv => whnf
                    obtain rfl := Option.some.inj q937
                    exact ⟨rfl, weak_fin _ rfl rfl rfl (LeH.rest) (.cons (.one (.same rfl)) (.cons (.one (.same rfl)) (.cons (.one (.same rfl)) (.cons (.one (.same rfl)) (.nil))))) rfl rfl⟩
                · replace q937 := if_f c938 q937
                  conv => whnf
                  obtain rfl := Option.some.inj q937
                  exact ⟨rfl, weak_fin _ rfl rfl rfl (LeH.rest) (.cons (.one (.same rfl)) (.cons (.one (.same rfl)) (.cons (.one (.same rfl)) (.cons (.one (.same rfl)) (.nil))))) rfl rfl⟩
              · rintro ex S' ⟨rfl, w942⟩
                conv => whnf
                refine Tri.weak w942 ?_
                refine Tri.cond rfl (fun c943 => ?_) (fun c943 => ?_)
                · replace q880 := if_t c943 q880
                  refine Tri.run (G := gm_dec_TakeNum) tyOk mixed ?_
                  conv => whnf
                  obtain rfl := Option.some.inj q880
                  exact Or.inl ⟨_, rfl, rfl, weak_fin _ rfl rfl rfl (LeH.rest) (.nil) rfl rfl⟩
                · replace q880 := if_f c943 q880
                  refine Tri.run (G := gm_dec_TakeNum) tyOk mixed ?_
                  conv => whnf
                  refine Tri.seqK ?_
                  refine Tri.run (G := gm_dec_TakeNum) tyOk mixed ?_
                  conv => whnf
                  refine ⟨⟨(s.length : Int), rfl, ?_⟩⟩
                  conv => whnf
                  refine Tri.cond rfl (fun c944 => ?_) (fun c944 => ?_)
                  · replace q880 := if_t c944 q880
                    refine Tri.run (G := gm_dec_TakeNum) tyOk mixed ?_
                    conv => whnf
                    obtain rfl := Option.some.inj q880
                    exact Or.inr (Or.inl ⟨_, rfl, rfl, weak_fin _ rfl rfl rfl (LeH.rest) (.nil) rfl rfl⟩)
                  · replace q880 := if_f c944 q880
                    refine Tri.run (G := gm_dec_TakeNum) tyOk mixed ?_
                    conv => whnf
                    refine Tri.run (G := gm_dec_TakeNum) tyOk mixed ?_
                    conv => whnf
                    obtain rfl := Option.some.inj q880
                    exact Or.inr (Or.inr (⟨_, rfl, rfl, weak_fin _ rfl rfl rfl (LeH.rest) (.cons (.one (.same rfl)) (.cons (.one (.same rfl)) (.cons (.one (.same rfl)) (.nil)))) rfl rfl⟩))
      · rintro ex S' (⟨v881, rfl, rfl, w945⟩ | ⟨v882, rfl, rfl, w945⟩ | ⟨v883, rfl, rfl, w945⟩)
        · dsimp only at h
          conv => whnf
          refine Tri.weak w945 ?_
          refine Tri.seqK ?_
          refine Tri.seqK ?_
          refine Tri.run (G := gm_dec_TakeNum) tyOk mixed ?_
          conv => whnf
          refine Tri.run (G := gm_dec_TakeNum) tyOk mixed ?_
          conv => whnf
          refine fin_here ?_
          conv => whnf
          obtain rfl := Option.some.inj h
          rfl
        · dsimp only at h
          conv => whnf
          refine Tri.weak w945 ?_
          refine Tri.seqK ?_
          refine Tri.seqK ?_
          refine Tri.run (G := gm_dec_TakeNum) tyOk mixed ?_
          conv => whnf
          refine Tri.run (G := gm_dec_TakeNum) tyOk mixed ?_
          conv => whnf
          refine fin_here ?_
          conv => whnf
          obtain rfl := Option.some.inj h
          rfl
        · dsimp only at h
          conv => whnf
          refine Tri.weak w945 ?_
          refine Tri.seqK ?_
          refine Tri.run (G := gm_dec_TakeNum) tyOk mixed ?_
          conv => whnf
          refine Draw.one 8 (.take 0 (.take 1 (.take 2 (.take 3 (.take 4 (.take 5 (.take 6 (.take 7 (.fin))))))))) [] (by kernel_rfl) ?_
          conv => whnf
          replace h := need_some h
          obtain ⟨p947, h⟩ := h
          refine ⟨p947, ?_⟩
          conv => whnf
          refine ⟨⟨bs (cut s (IntKind.i64.wrap (y151 + 1)) (s.length : Int)), bs_cut _ _ _, ?_⟩⟩
          conv => whnf
          refine Tri.run (G := gm_dec_TakeNum) tyOk mixed ?_
          conv => whnf
          refine fin_here ?_
          conv => whnf
          obtain rfl := Option.some.inj h
          rfl
noncomputable def dec_TakeText (s : Str) (most : Int) : Option (Str × Str × Int) :=
  (dec_TakeNum s).bind fun y1 =>
  if (!(decide (y1.2.2 = 0))) then
    some ([], [], y1.2.2)
  else
    if ((decide (most < 0)) || (decide (y1.1 > (IntKind.u64.wrap most)))) then
      some ([], [], 4)
    else
      if (decide (y1.1 > (IntKind.u64.wrap (y1.2.1.length : Int)))) then
        some ([], [], 2)
      else
        need (0 ≤ (0 : Int) ∧ 0 ≤ y1.1 ∧ y1.1 ≤ (y1.2.1.length : Int)) <|
        need (0 ≤ y1.1 ∧ y1.1 ≤ (y1.2.1.length : Int) ∧ (y1.2.1.length : Int) ≤ (y1.2.1.length : Int)) <|
        some ((cut y1.2.1 0 y1.1), (cut y1.2.1 y1.1 (y1.2.1.length : Int)), 0)
def gm_dec_TakeText : Gm := ⟨tys, [], [], []⟩
theorem dec_TakeText_walk (s : Str) (most : Int) (r : Str × Str × Int) (h : dec_TakeText s most = some r) : PureP Try.prog 56 [.v (.string (bs s)), .v (.int .i64 most)] (fun a => a = .tup [.v (.string (bs r.1)), .v (.string (bs r.2.1)), .v (.int .i64 r.2.2)]) := by
  unfold dec_TakeText at h
  refine pureW (G := gm_dec_TakeText) tyOk Try.func56 rfl (by kernel_rfl) (by simp [Try.f56]) ?_
  refine Tri.seqK ?_
  refine Tri.run (G := gm_dec_TakeText) tyOk mixed ?_
  conv => whnf
  refine Tri.seqK ?_
  refine Tri.run (G := gm_dec_TakeText) tyOk mixed ?_
  conv => whnf
  replace h := bind_some h
  obtain ⟨y1, q2, h⟩ := h
  refine PureP.mono (dec_TakeNum_walk s y1 q2) ?_
  rintro _ rfl
  conv => whnf
  refine Tri.seqK ?_
  refine Tri.block ?_
  refine Tri.seqK ?_
  refine Tri.run (G := gm_dec_TakeText) tyOk mixed ?_
  conv => whnf
  refine Tri.cond rfl (fun c11 => ?_) (fun c11 => ?_)
  · replace h := if_t c11 h
    refine Tri.seqK ?_
    refine Tri.run (G := gm_dec_TakeText) tyOk mixed ?_
    conv => whnf
    refine Tri.run (G := gm_dec_TakeText) tyOk mixed ?_
    conv => whnf
    refine fin_here ?_
    conv => whnf
    obtain rfl := Option.some.inj h
    rfl
  · replace h := if_f c11 h
    refine Tri.seqK ?_
    refine Tri.cut (fun ex S' => ex = .normal ∧ Weak S' ⟨41, 0, ofRegs [(7, .v (.int .u64 y1.1)), (8, .v (.string (bs y1.2.1))), (20, .v (.bool ((decide (most < 0)) || (decide (y1.1 > (IntKind.u64.wrap most))))))], []⟩) ?_ ?_
    · refine Tri.run (G := gm_dec_TakeText) tyOk mixed ?_
      conv => whnf
      refine cond_mk (fun c15 => ?_) (fun c15 => ?_)
      · replace c15 : (decide (most < 0)) = true := c15
        conv => whnf
        exact ⟨rfl, weak_fin _ rfl rfl rfl (LeH.rest) (.cons (.one (.same rfl)) (.cons (.one (.same rfl)) (.cons (.one (.same (show (.v (.bool true) : AV) = (.v (.bool ((decide (most < 0)) || (decide (y1.1 > (IntKind.u64.wrap most))))) : AV) from by first | (simp [c15]; done) | simp only [c15, Bool.or_true, Bool.true_or, Bool.false_or, Bool.or_false, Bool.and_true, Bool.true_and, Bool.and_false, Bool.false_and, Bool.not_true, Bool.not_false, if_true, if_false, Bool.false_eq_true]))) (.nil)))) rfl rfl⟩
      · replace c15 : (decide (most < 0)) = false := c15
        conv => whnf
        refine ⟨⟨(IntKind.u64.wrap most), rfl, ?_⟩⟩
        conv => whnf
        exact ⟨rfl, weak_fin _ rfl rfl rfl (LeH.rest) (.cons (.one (.same rfl)) (.cons (.one (.same rfl)) (.cons (.one (.same (show (.v (.bool (decide (y1.1 > (IntKind.u64.wrap most)))) : AV) = (.v (.bool ((decide (most < 0)) || (decide (y1.1 > (IntKind.u64.wrap most))))) : AV) from by first | (simp [c15]; done) | simp only [c15, Bool.or_true, Bool.true_or, Bool.false_or, Bool.or_false, Bool.and_true, Bool.true_and, Bool.and_false, Bool.false_and, Bool.not_true, Bool.not_false, if_true, if_false, Bool.false_eq_true]))) (.nil)))) rfl rfl⟩
    · rintro ex S' ⟨rfl, w16⟩
      conv => whnf
      refine Tri.weak w16 ?_
      refine Tri.cond rfl (fun c17 => ?_) (fun c17 => ?_)
      · replace h := if_t c17 h
        refine Tri.seqK ?_
        refine Tri.run (G := gm_dec_TakeText) tyOk mixed ?_
        conv => whnf
        refine Tri.run (G := gm_dec_TakeText) tyOk mixed ?_
        conv => whnf
        refine fin_here ?_
        conv => whnf
        obtain rfl := Option.some.inj h
        rfl
      · replace h := if_f c17 h
        refine Tri.seqK ?_
        refine Tri.run (G := gm_dec_TakeText) tyOk mixed ?_
        conv => whnf
        refine ⟨⟨(y1.2.1.length : Int), rfl, ?_⟩⟩
        conv => whnf
        refine ⟨⟨(IntKind.u64.wrap (y1.2.1.length : Int)), rfl, ?_⟩⟩
        conv => whnf
        refine Tri.cond rfl (fun c18 => ?_) (fun c18 => ?_)
        · replace h := if_t c18 h
          refine Tri.seqK ?_
          refine Tri.run (G := gm_dec_TakeText) tyOk mixed ?_
          conv => whnf
          refine Tri.run (G := gm_dec_TakeText) tyOk mixed ?_
          conv => whnf
          refine fin_here ?_
          conv => whnf
          obtain rfl := Option.some.inj h
          rfl
        · replace h := if_f c18 h
          refine Tri.run (G := gm_dec_TakeText) tyOk mixed ?_
          conv => whnf
          refine Tri.seqK ?_
          refine Tri.run (G := gm_dec_TakeText) tyOk mixed ?_
          conv => whnf
          refine Draw.one 9 (.take 0 (.take 1 (.take 2 (.take 3 (.take 4 (.take 5 (.take 6 (.take 7 (.take 8 (.fin)))))))))) [] (by kernel_rfl) ?_
          conv => whnf
          replace h := need_some h
          obtain ⟨p21, h⟩ := h
          refine ⟨p21, ?_⟩
          conv => whnf
          refine ⟨⟨bs (cut y1.2.1 0 y1.1), bs_cut _ _ _, ?_⟩⟩
          conv => whnf
          replace h := need_some h
          obtain ⟨p22, h⟩ := h
          refine ⟨p22, ?_⟩
          conv => whnf
          refine ⟨⟨bs (cut y1.2.1 y1.1 (y1.2.1.length : Int)), bs_cut _ _ _, ?_⟩⟩
          conv => whnf
          refine Tri.run (G := gm_dec_TakeText) tyOk mixed ?_
          conv => whnf
          refine fin_here ?_
          conv => whnf
          obtain rfl := Option.some.inj h
          rfl
noncomputable def sum_Of_1 (b : Int) (v : (Int × Int)) : Option ((Int × Int)) :=
  some ((Int.tmod (IntKind.u32.wrap (v.1 + (IntKind.u32.wrap b))) 65521), (Int.tmod (IntKind.u32.wrap (v.2 + (Int.tmod (IntKind.u32.wrap (v.1 + (IntKind.u32.wrap b))) 65521))) 65521))
def gm_sum_Of_1 : Gm := ⟨tys, [], [], []⟩
theorem sum_Of_1_walk (b : Int) (v : (Int × Int)) (r : (Int × Int)) (h : sum_Of_1 b v = some r) : CallP Try.prog 55 [.var 96 [.v (.int .u32 v.1), .v (.int .u32 v.2)]] [.v (.int .u8 b), .ptr 0 0] (fun a H' => a = .tup [] ∧ H'.take ([.var 96 [.v (.int .u32 r.1), .v (.int .u32 r.2)]] : List Ob).length = [.var 96 [.v (.int .u32 r.1), .v (.int .u32 r.2)]]) := by
  unfold sum_Of_1 at h
  refine callW (G := gm_sum_Of_1) tyOk Try.func55 rfl (by kernel_rfl) (by simp [Try.f55]) ?_
  refine Tri.seqK ?_
  refine Tri.run (G := gm_sum_Of_1) tyOk mixed ?_
  conv => whnf
  refine ⟨by decide, ?_⟩
  conv => whnf
  refine ⟨⟨(IntKind.u32.wrap b), rfl, ?_⟩⟩
  conv => whnf
  refine ⟨by decide, ?_⟩
  conv => whnf
  refine ⟨by decide, ?_⟩
  conv => whnf
  refine Tri.run (G := gm_sum_Of_1) tyOk mixed ?_
  conv => whnf
  refine ⟨by decide, ?_⟩
  conv => whnf
  refine ⟨by decide, ?_⟩
  conv => whnf
  refine ⟨by decide, ?_⟩
  conv => whnf
  refine ⟨by decide, ?_⟩
  conv => whnf
  refine fin_pre (S' := ⟨17, 1, ofRegs [], [.var 96 [.v (.int .u32 (Int.tmod (IntKind.u32.wrap (v.1 + (IntKind.u32.wrap b))) 65521)), .v (.int .u32 (Int.tmod (IntKind.u32.wrap (v.2 + (Int.tmod (IntKind.u32.wrap (v.1 + (IntKind.u32.wrap b))) 65521))) 65521))]]⟩) (weak_fin _ rfl rfl rfl (.cons (.same rfl) (LeH.rest)) (.nil) rfl rfl) ?_
  conv => whnf
  obtain rfl := Option.some.inj h
  exact ⟨rfl, rfl⟩
noncomputable def sum_Of_l2 (s : Str) (a46 : Int) (a47 : Int) (a48 : Int) : Option ((Int × Int × Int) ⊕ (Int × Int)) :=
  if (decide (a46 < (s.length : Int))) then
    (ix s a46).bind fun x56 =>
    (sum_Of_1 (x56.toNat : Int) (a47, a48)).bind fun y58 =>
    some (.inl ((IntKind.i64.wrap (a46 + 1)), y58.1, y58.2))
  else
    some (.inr (a47, a48))
noncomputable def sum_Of (s : Str) : Option (Int) :=
  (loop (fun (s51 : Int × Int × Int) => sum_Of_l2 s s51.1 s51.2.1 s51.2.2) ((0 : Int), (1 : Int), (0 : Int))).bind fun (y49 : Int × Int) =>
  some (IntKind.u32.wrap ((BitVec.ofInt IntKind.u32.bits (IntKind.u32.wrap (y49.2 * 2 ^ (min (16 : Int).toNat IntKind.u32.bits))) ||| BitVec.ofInt IntKind.u32.bits y49.1).toNat : Int))
def gm_sum_Of : Gm := ⟨tys, [55], [], []⟩
theorem sum_Of_walk (s : Str) (r : Int) (h : sum_Of s = some r) : PureP Try.prog 38 [.v (.string (bs s))] (fun a => a = .v (.int .u32 r)) := by
  unfold sum_Of at h
  refine pureW (G := gm_sum_Of) tyOk Try.func38 rfl (by kernel_rfl) (by simp [Try.f38]) ?_
  refine Tri.seqK ?_
  refine Tri.run (G := gm_sum_Of) tyOk mixed ?_
  conv => whnf
  refine Tri.seqK ?_
  refine Tri.run (G := gm_sum_Of) tyOk mixed ?_
  conv => whnf
  refine Tri.seqK ?_
  refine Tri.run (G := gm_sum_Of) tyOk mixed ?_
  conv => whnf
  refine Tri.seqK ?_
  refine Tri.seqK ?_
  refine Tri.run (G := gm_sum_Of) tyOk mixed ?_
  conv => whnf
  refine ⟨⟨(s.length : Int), rfl, ?_⟩⟩
  conv => whnf
  refine Tri.block ?_
  replace h := bind_some h
  obtain ⟨y49, q50, h⟩ := h
  refine Tri.cut (fun ex S' => ex = (.exit 0) ∧ Weak S' ⟨25, 0, ofRegs [(3, .ptr 0 0)], [.var 96 [.v (.int .u32 y49.1), .v (.int .u32 y49.2)]]⟩) ?_ ?_
  · refine Tri.loopF (fun (s51 : Int × Int × Int) => (⟨25, 0, ofRegs [(0, .v (.string (bs s))), (3, .ptr 0 0), (4, .fn (.func 55) [] [.ptr 0 0]), (9, .v (.int .i64 (s.length : Int))), (10, .v (.int .i64 s51.1))], [.var 96 [.v (.int .u32 s51.2.1), .v (.int .u32 s51.2.2)]]⟩ : St)) q50 (weak_fin _ rfl rfl rfl (.cons (.same rfl) (LeH.rest)) (.cons (.one (.same rfl)) (.cons (.one (.same rfl)) (.cons (.one (.same rfl)) (.cons (.one (.same rfl)) (.cons (.one (.same rfl)) (.nil)))))) rfl rfl) ?_
    rintro ⟨a46, a47, a48⟩ v52 hv r53
    have hv : sum_Of_l2 s a46 a47 a48 = some v52 := hv
    unfold sum_Of_l2 at hv
    dsimp only
    refine Tri.seqK ?_
    refine Tri.run (G := gm_sum_Of) tyOk mixed ?_
    conv => whnf
    refine Tri.seqK ?_
    refine Tri.cond rfl (fun c55 => ?_) (fun c55 => ?_)
    · replace hv := if_t c55 hv
      refine Tri.run (G := gm_sum_Of) tyOk mixed ?_
      conv => whnf
      refine Tri.seqK ?_
      refine Tri.block ?_
      refine Tri.seqK ?_
      refine Tri.run (G := gm_sum_Of) tyOk mixed ?_
      conv => whnf
      refine Tri.run (G := gm_sum_Of) tyOk mixed ?_
      conv => whnf
      replace hv := bind_some hv
      obtain ⟨x56, q57, hv⟩ := hv
      refine ⟨bs_bound q57, ?_⟩
      conv => whnf
      refine ⟨⟨(x56.toNat : Int), bs_at q57, ?_⟩⟩
      conv => whnf
      replace hv := bind_some hv
      obtain ⟨y58, q59, hv⟩ := hv
      refine CallP.use (sum_Of_1_walk (x56.toNat : Int) (a47, a48) y58 q59) [0] rfl rfl rfl rfl rfl rfl rfl rfl rfl ?_
      conv => whnf
      refine Tri.run (G := gm_sum_Of) tyOk mixed ?_
      conv => whnf
      obtain rfl := Option.some.inj hv
      exact ⟨_, rfl, weak_fin _ rfl rfl rfl (.cons (.same rfl) (LeH.rest)) (.cons (.one (.same rfl)) (.cons (.one (.same rfl)) (.cons (.one (.same rfl)) (.cons (.one (.same rfl)) (.cons (.one (.same rfl)) (.nil)))))) rfl rfl⟩
    · replace hv := if_f c55 hv
      refine Tri.run (G := gm_sum_Of) tyOk mixed ?_
      conv => whnf
      obtain rfl := Option.some.inj hv
      obtain rfl := r53 _ rfl
      exact ⟨rfl, weak_fin _ rfl rfl rfl (.cons (.same rfl) (LeH.rest)) (.cons (.one (.same rfl)) (.nil)) rfl rfl⟩
  · rintro ex S' ⟨rfl, w60⟩
    conv => whnf
    refine Tri.weak w60 ?_
    refine Tri.seqK ?_
    refine Tri.run (G := gm_sum_Of) tyOk mixed ?_
    conv => whnf
    refine ⟨by decide, ?_⟩
    conv => whnf
    refine ⟨by decide, ?_⟩
    conv => whnf
    refine ⟨by decide, ?_⟩
    conv => whnf
    refine Tri.run (G := gm_sum_Of) tyOk mixed ?_
    conv => whnf
    refine fin_here ?_
    conv => whnf
    obtain rfl := Option.some.inj h
    rfl
noncomputable def sum_Open (f : Str) (most : Int) : Option (Str × Str × Int) :=
  (dec_TakeText f most).bind fun y1 =>
  if (!(decide (y1.2.2 = 0))) then
    some ([], [], y1.2.2)
  else
    (dec_TakeNum y1.2.1).bind fun y5 =>
    if (!(decide (y5.2.2 = 0))) then
      some ([], [], y5.2.2)
    else
      (sum_Of y1.1).bind fun y12 =>
      if (!(decide (y5.1 = (IntKind.u64.wrap y12)))) then
        some ([], [], 10)
      else
        some (y1.1, y5.2.1, 0)
def gm_sum_Open : Gm := ⟨tys, [], [], []⟩
theorem sum_Open_walk (f : Str) (most : Int) (r : Str × Str × Int) (h : sum_Open f most = some r) : PureP Try.prog 41 [.v (.string (bs f)), .v (.int .i64 most)] (fun a => a = .tup [.v (.string (bs r.1)), .v (.string (bs r.2.1)), .v (.int .i64 r.2.2)]) := by
  unfold sum_Open at h
  refine pureW (G := gm_sum_Open) tyOk Try.func41 rfl (by kernel_rfl) (by simp [Try.f41]) ?_
  refine Tri.seqK ?_
  refine Tri.run (G := gm_sum_Open) tyOk mixed ?_
  conv => whnf
  refine Tri.seqK ?_
  refine Tri.run (G := gm_sum_Open) tyOk mixed ?_
  conv => whnf
  replace h := bind_some h
  obtain ⟨y1, q2, h⟩ := h
  refine PureP.mono (dec_TakeText_walk f most y1 q2) ?_
  rintro _ rfl
  conv => whnf
  refine Tri.seqK ?_
  refine Tri.seqK ?_
  refine Tri.run (G := gm_sum_Open) tyOk mixed ?_
  conv => whnf
  refine Tri.cond rfl (fun c4 => ?_) (fun c4 => ?_)
  · replace h := if_t c4 h
    refine Tri.seqK ?_
    refine Tri.run (G := gm_sum_Open) tyOk mixed ?_
    conv => whnf
    refine Tri.run (G := gm_sum_Open) tyOk mixed ?_
    conv => whnf
    refine fin_here ?_
    conv => whnf
    obtain rfl := Option.some.inj h
    rfl
  · replace h := if_f c4 h
    refine Tri.run (G := gm_sum_Open) tyOk mixed ?_
    conv => whnf
    refine Tri.seqK ?_
    refine Tri.run (G := gm_sum_Open) tyOk mixed ?_
    conv => whnf
    replace h := bind_some h
    obtain ⟨y5, q6, h⟩ := h
    refine PureP.mono (dec_TakeNum_walk y1.2.1 y5 q6) ?_
    rintro _ rfl
    conv => whnf
    refine Tri.seqK ?_
    refine Tri.block ?_
    refine Tri.seqK ?_
    refine Tri.run (G := gm_sum_Open) tyOk mixed ?_
    conv => whnf
    refine Tri.cond rfl (fun c11 => ?_) (fun c11 => ?_)
    · replace h := if_t c11 h
      refine Tri.seqK ?_
      refine Tri.run (G := gm_sum_Open) tyOk mixed ?_
      conv => whnf
      refine Tri.run (G := gm_sum_Open) tyOk mixed ?_
      conv => whnf
      refine fin_here ?_
      conv => whnf
      obtain rfl := Option.some.inj h
      rfl
    · replace h := if_f c11 h
      refine Tri.seqK ?_
      refine Tri.run (G := gm_sum_Open) tyOk mixed ?_
      conv => whnf
      replace h := bind_some h
      obtain ⟨y12, q13, h⟩ := h
      refine PureP.mono (sum_Of_walk y1.1 y12 q13) ?_
      rintro _ rfl
      conv => whnf
      refine ⟨⟨(IntKind.u64.wrap y12), rfl, ?_⟩⟩
      conv => whnf
      refine Tri.cond rfl (fun c14 => ?_) (fun c14 => ?_)
      · replace h := if_t c14 h
        refine Tri.seqK ?_
        refine Tri.run (G := gm_sum_Open) tyOk mixed ?_
        conv => whnf
        refine Tri.run (G := gm_sum_Open) tyOk mixed ?_
        conv => whnf
        refine fin_here ?_
        conv => whnf
        obtain rfl := Option.some.inj h
        rfl
      · replace h := if_f c14 h
        refine Tri.run (G := gm_sum_Open) tyOk mixed ?_
        conv => whnf
        refine Tri.seqK ?_
        refine Tri.run (G := gm_sum_Open) tyOk mixed ?_
        conv => whnf
        refine Tri.run (G := gm_sum_Open) tyOk mixed ?_
        conv => whnf
        refine fin_here ?_
        conv => whnf
        obtain rfl := Option.some.inj h
        rfl
noncomputable def epoch_take (s : Str) : Option ((Int) ⊕ (Int)) :=
  (sum_Open s 65536).bind fun y41 =>
  (dec_TakeNum y41.1).bind fun y43 =>
  if ((!(decide (y41.2.2 = 0))) || ((!(decide (y43.2.2 = 0))) || ((!decide (y41.2.1 = [])) || ((!decide (y43.2.1 = [])) || (decide (y43.1 > 1073741824)))))) then
    some (.inl (0 : Int))
  else
    some (.inr (IntKind.i64.wrap y43.1))
def gm_epoch_take : Gm := ⟨tys, [], [], []⟩
theorem epoch_take_walk (s : Str) (r : (Int) ⊕ (Int)) (h : epoch_take s = some r) : PureP Try.prog 27 [.v (.string (bs s))] (fun a => match r with | (.inl r) => a = .tup [.v (.int .i64 r), .ifc 89 (.agg [.ifc 68 (.agg [])])] | (.inr r) => a = .tup [.v (.int .i64 r), .v .nilIface]) := by
  unfold epoch_take at h
  refine pureW (G := gm_epoch_take) tyOk Try.func27 rfl (by kernel_rfl) (by simp [Try.f27]) ?_
  refine Tri.seqK ?_
  refine Tri.run (G := gm_epoch_take) tyOk mixed ?_
  conv => whnf
  refine Tri.seqK ?_
  refine Tri.run (G := gm_epoch_take) tyOk mixed ?_
  conv => whnf
  replace h := bind_some h
  obtain ⟨y41, q42, h⟩ := h
  refine PureP.mono (sum_Open_walk s 65536 y41 q42) ?_
  rintro _ rfl
  conv => whnf
  refine Tri.seqK ?_
  refine Tri.run (G := gm_epoch_take) tyOk mixed ?_
  conv => whnf
  replace h := bind_some h
  obtain ⟨y43, q44, h⟩ := h
  refine PureP.mono (dec_TakeNum_walk y41.1 y43 q44) ?_
  rintro _ rfl
  conv => whnf
  refine Tri.seqK ?_
  refine Tri.seqK ?_
  refine Tri.cut (fun ex S' => ex = .normal ∧ Weak S' ⟨46, 0, ofRegs [(7, .v (.int .u64 y43.1)), (39, .v (.bool ((!(decide (y41.2.2 = 0))) || ((!(decide (y43.2.2 = 0))) || ((!decide (y41.2.1 = [])) || ((!decide (y43.2.1 = [])) || (decide (y43.1 > 1073741824))))))))], []⟩) ?_ ?_
  · refine Tri.run (G := gm_epoch_take) tyOk mixed ?_
    conv => whnf
    refine cond_mk (fun c75 => ?_) (fun c75 => ?_)
    · replace c75 : (!(decide (y41.2.2 = 0))) = true := c75
      conv => whnf
      exact ⟨rfl, weak_fin _ rfl rfl rfl (LeH.rest) (.cons (.one (.same rfl)) (.cons (.one (.same (show (.v (.bool true) : AV) = (.v (.bool ((!(decide (y41.2.2 = 0))) || ((!(decide (y43.2.2 = 0))) || ((!decide (y41.2.1 = [])) || ((!decide (y43.2.1 = [])) || (decide (y43.1 > 1073741824))))))) : AV) from by first | (simp [c75]; done) | simp only [c75, Bool.or_true, Bool.true_or, Bool.false_or, Bool.or_false, Bool.and_true, Bool.true_and, Bool.and_false, Bool.false_and, Bool.not_true, Bool.not_false, if_true, if_false, Bool.false_eq_true]))) (.nil))) rfl rfl⟩
    · replace c75 : (!(decide (y41.2.2 = 0))) = false := c75
      conv => whnf
      refine cond_mk (fun c76 => ?_) (fun c76 => ?_)
      · replace c76 : (!(decide (y43.2.2 = 0))) = true := c76
        conv => whnf
        exact ⟨rfl, weak_fin _ rfl rfl rfl (LeH.rest) (.cons (.one (.same rfl)) (.cons (.one (.same (show (.v (.bool true) : AV) = (.v (.bool ((!(decide (y41.2.2 = 0))) || ((!(decide (y43.2.2 = 0))) || ((!decide (y41.2.1 = [])) || ((!decide (y43.2.1 = [])) || (decide (y43.1 > 1073741824))))))) : AV) from by first | (simp [c75, c76]; done) | simp only [c75, c76, Bool.or_true, Bool.true_or, Bool.false_or, Bool.or_false, Bool.and_true, Bool.true_and, Bool.and_false, Bool.false_and, Bool.not_true, Bool.not_false, if_true, if_false, Bool.false_eq_true]))) (.nil))) rfl rfl⟩
      · replace c76 : (!(decide (y43.2.2 = 0))) = false := c76
        conv => whnf
        refine ⟨⟨(!decide (y41.2.1 = [])), bs_ne _ _, ?_⟩⟩
        conv => whnf
        refine cond_mk (fun c77 => ?_) (fun c77 => ?_)
        · replace c77 : (!decide (y41.2.1 = [])) = true := c77
          conv => whnf
          exact ⟨rfl, weak_fin _ rfl rfl rfl (LeH.rest) (.cons (.one (.same rfl)) (.cons (.one (.same (show (.v (.bool true) : AV) = (.v (.bool ((!(decide (y41.2.2 = 0))) || ((!(decide (y43.2.2 = 0))) || ((!decide (y41.2.1 = [])) || ((!decide (y43.2.1 = [])) || (decide (y43.1 > 1073741824))))))) : AV) from by first | (simp [c75, c76, c77]; done) | simp only [c75, c76, c77, Bool.or_true, Bool.true_or, Bool.false_or, Bool.or_false, Bool.and_true, Bool.true_and, Bool.and_false, Bool.false_and, Bool.not_true, Bool.not_false, if_true, if_false, Bool.false_eq_true]))) (.nil))) rfl rfl⟩
        · replace c77 : (!decide (y41.2.1 = [])) = false := c77
          conv => whnf
          refine ⟨⟨(!decide (y43.2.1 = [])), bs_ne _ _, ?_⟩⟩
          conv => whnf
          refine cond_mk (fun c78 => ?_) (fun c78 => ?_)
          · replace c78 : (!decide (y43.2.1 = [])) = true := c78
            conv => whnf
            exact ⟨rfl, weak_fin _ rfl rfl rfl (LeH.rest) (.cons (.one (.same rfl)) (.cons (.one (.same (show (.v (.bool true) : AV) = (.v (.bool ((!(decide (y41.2.2 = 0))) || ((!(decide (y43.2.2 = 0))) || ((!decide (y41.2.1 = [])) || ((!decide (y43.2.1 = [])) || (decide (y43.1 > 1073741824))))))) : AV) from by first | (simp [c75, c76, c77, c78]; done) | simp only [c75, c76, c77, c78, Bool.or_true, Bool.true_or, Bool.false_or, Bool.or_false, Bool.and_true, Bool.true_and, Bool.and_false, Bool.false_and, Bool.not_true, Bool.not_false, if_true, if_false, Bool.false_eq_true]))) (.nil))) rfl rfl⟩
          · replace c78 : (!decide (y43.2.1 = [])) = false := c78
            conv => whnf
            exact ⟨rfl, weak_fin _ rfl rfl rfl (LeH.rest) (.cons (.one (.same rfl)) (.cons (.one (.same (show (.v (.bool (decide (y43.1 > 1073741824))) : AV) = (.v (.bool ((!(decide (y41.2.2 = 0))) || ((!(decide (y43.2.2 = 0))) || ((!decide (y41.2.1 = [])) || ((!decide (y43.2.1 = [])) || (decide (y43.1 > 1073741824))))))) : AV) from by first | (simp [c75, c76, c77, c78]; done) | simp only [c75, c76, c77, c78, Bool.or_true, Bool.true_or, Bool.false_or, Bool.or_false, Bool.and_true, Bool.true_and, Bool.and_false, Bool.false_and, Bool.not_true, Bool.not_false, if_true, if_false, Bool.false_eq_true]))) (.nil))) rfl rfl⟩
  · rintro ex S' ⟨rfl, w79⟩
    conv => whnf
    refine Tri.weak w79 ?_
    refine Tri.cond rfl (fun c80 => ?_) (fun c80 => ?_)
    · replace h := if_t c80 h
      refine Tri.seqK ?_
      refine Tri.run (G := gm_epoch_take) tyOk mixed ?_
      conv => whnf
      refine Tri.run (G := gm_epoch_take) tyOk mixed ?_
      conv => whnf
      refine fin_here ?_
      conv => whnf
      obtain rfl := Option.some.inj h
      exact rfl
    · replace h := if_f c80 h
      refine Tri.run (G := gm_epoch_take) tyOk mixed ?_
      conv => whnf
      refine Tri.seqK ?_
      refine Tri.run (G := gm_epoch_take) tyOk mixed ?_
      conv => whnf
      refine ⟨⟨(IntKind.i64.wrap y43.1), rfl, ?_⟩⟩
      conv => whnf
      refine Tri.run (G := gm_epoch_take) tyOk mixed ?_
      conv => whnf
      refine fin_here ?_
      conv => whnf
      obtain rfl := Option.some.inj h
      exact rfl
noncomputable def epoch_Take (s : Str) : Option (Int × Int) :=
  (epoch_take s).bind fun y1 =>
  match y1 with
  | (.inl y3) =>
    some (0, 3)
  | (.inr y4) =>
    some (y4, 0)
def gm_epoch_Take : Gm := ⟨tys, [], [], []⟩
theorem epoch_Take_walk (s : Str) (r : Int × Int) (h : epoch_Take s = some r) : PureP Try.prog 12 [.v (.string (bs s))] (fun a => a = .tup [.v (.int .i64 r.1), .v (.int .i64 r.2)]) := by
  unfold epoch_Take at h
  refine pureW (G := gm_epoch_Take) tyOk Try.func12 rfl (by kernel_rfl) (by simp [Try.f12]) ?_
  refine Tri.seqK ?_
  refine Tri.run (G := gm_epoch_Take) tyOk mixed ?_
  conv => whnf
  refine Tri.seqK ?_
  refine Tri.run (G := gm_epoch_Take) tyOk mixed ?_
  conv => whnf
  replace h := bind_some h
  obtain ⟨y1, q2, h⟩ := h
  refine PureP.mono (epoch_take_walk s y1 q2) ?_
  rcases y1 with y3 | y4
  · dsimp only at h
    rintro _ rfl
    conv => whnf
    refine Tri.seqK ?_
    refine Tri.seqK ?_
    refine Tri.run (G := gm_epoch_Take) tyOk mixed ?_
    conv => whnf
    refine PureP.mono (is_1) ?_
    rintro _ rfl
    conv => whnf
    refine Tri.condT rfl ?_
    refine Tri.seqK ?_
    refine Tri.run (G := gm_epoch_Take) tyOk mixed ?_
    conv => whnf
    refine Tri.run (G := gm_epoch_Take) tyOk mixed ?_
    conv => whnf
    refine fin_here ?_
    conv => whnf
    obtain rfl := Option.some.inj h
    rfl
  · dsimp only at h
    rintro _ rfl
    conv => whnf
    refine Tri.seqK ?_
    refine Tri.seqK ?_
    refine Tri.run (G := gm_epoch_Take) tyOk mixed ?_
    conv => whnf
    refine PureP.mono (is_2) ?_
    rintro _ rfl
    conv => whnf
    refine Tri.condF rfl ?_
    refine Tri.run (G := gm_epoch_Take) tyOk mixed ?_
    conv => whnf
    refine Tri.seqK ?_
    refine Tri.run (G := gm_epoch_Take) tyOk mixed ?_
    conv => whnf
    refine Tri.run (G := gm_epoch_Take) tyOk mixed ?_
    conv => whnf
    refine fin_here ?_
    conv => whnf
    obtain rfl := Option.some.inj h
    rfl
noncomputable def epoch_Read (d : Disk) : Option (Int × Int) :=
  (disk_Read d [101]).bind fun y1 =>
  if (!(decide (y1.2 = 0))) then
    some (0, 0)
  else
    (epoch_Take y1.1).bind fun y5 =>
    some (y5.1, y5.2)
def gm_epoch_Read : Gm := ⟨tys, [], [], []⟩
theorem epoch_Read_walk (d : Disk) (r : Int × Int) (h : epoch_Read d = some r) : PureP Try.prog 14 [.agg [.sl (List.map encFile d.Files), .v (.int .i64 d.Room), .v (.int .i64 d.Fuse), .v (.bool d.Off)]] (fun a => a = .tup [.v (.int .i64 r.1), .v (.int .i64 r.2)]) := by
  unfold epoch_Read at h
  refine pureW (G := gm_epoch_Read) tyOk Try.func14 rfl (by kernel_rfl) (by simp [Try.f14]) ?_
  refine Tri.seqK ?_
  refine Tri.run (G := gm_epoch_Read) tyOk mixed ?_
  conv => whnf
  refine Tri.seqK ?_
  refine Tri.run (G := gm_epoch_Read) tyOk mixed ?_
  conv => whnf
  replace h := bind_some h
  obtain ⟨y1, q2, h⟩ := h
  refine PureP.mono (disk_Read_walk d [101] y1 q2) ?_
  rintro _ rfl
  conv => whnf
  refine Tri.seqK ?_
  refine Tri.seqK ?_
  refine Tri.run (G := gm_epoch_Read) tyOk mixed ?_
  conv => whnf
  refine Tri.cond rfl (fun c4 => ?_) (fun c4 => ?_)
  · replace h := if_t c4 h
    refine Tri.seqK ?_
    refine Tri.run (G := gm_epoch_Read) tyOk mixed ?_
    conv => whnf
    refine Tri.run (G := gm_epoch_Read) tyOk mixed ?_
    conv => whnf
    refine fin_here ?_
    conv => whnf
    obtain rfl := Option.some.inj h
    rfl
  · replace h := if_f c4 h
    refine Tri.run (G := gm_epoch_Read) tyOk mixed ?_
    conv => whnf
    refine Tri.seqK ?_
    refine Tri.run (G := gm_epoch_Read) tyOk mixed ?_
    conv => whnf
    replace h := bind_some h
    obtain ⟨y5, q6, h⟩ := h
    refine PureP.mono (epoch_Take_walk y1.1 y5 q6) ?_
    rintro _ rfl
    conv => whnf
    refine Tri.run (G := gm_epoch_Read) tyOk mixed ?_
    conv => whnf
    refine fin_here ?_
    conv => whnf
    obtain rfl := Option.some.inj h
    rfl
noncomputable def epoch_Next_1 (e : Int) (v : Disk) : Option (Disk × Int × Int) :=
  some (v, 0, e)
def gm_epoch_Next_1 : Gm := ⟨tys, [], [], []⟩
theorem epoch_Next_1_walk (e : Int) (v : Disk) (r : Disk × Int × Int) (h : epoch_Next_1 e v = some r) : CallP Try.prog 33 [.var 24 [.sl (List.map encFile v.Files), .v (.int .i64 v.Room), .v (.int .i64 v.Fuse), .v (.bool v.Off)]] [.v (.int .i64 e), .ptr 0 0] (fun a H' => a = .tup [.agg [.sl (List.map encFile r.1.Files), .v (.int .i64 r.1.Room), .v (.int .i64 r.1.Fuse), .v (.bool r.1.Off)], .v (.int .i64 r.2.1), .v (.int .i64 r.2.2)] ∧ H'.take ([.var 24 [.sl (List.map encFile v.Files), .v (.int .i64 v.Room), .v (.int .i64 v.Fuse), .v (.bool v.Off)]] : List Ob).length = [.var 24 [.sl (List.map encFile v.Files), .v (.int .i64 v.Room), .v (.int .i64 v.Fuse), .v (.bool v.Off)]]) := by
  unfold epoch_Next_1 at h
  refine callW (G := gm_epoch_Next_1) tyOk Try.func33 rfl (by kernel_rfl) (by simp [Try.f33]) ?_
  refine Tri.seqK ?_
  refine Tri.run (G := gm_epoch_Next_1) tyOk mixed ?_
  conv => whnf
  refine Tri.seqK ?_
  refine Tri.run (G := gm_epoch_Next_1) tyOk mixed ?_
  conv => whnf
  refine Tri.run (G := gm_epoch_Next_1) tyOk mixed ?_
  conv => whnf
  refine fin_pre (S' := ⟨8, 1, ofRegs [(3, .ptr 1 0), (4, .v (.int .i64 0)), (5, .v (.int .i64 e))], [.var 24 [.sl (List.map encFile v.Files), .v (.int .i64 v.Room), .v (.int .i64 v.Fuse), .v (.bool v.Off)], .var 24 [.sl (List.map encFile v.Files), .v (.int .i64 v.Room), .v (.int .i64 v.Fuse), .v (.bool v.Off)]]⟩) (weak_fin _ rfl rfl rfl (.cons (.same rfl) (.cons (.same rfl) (LeH.rest))) (.cons (.one (.same rfl)) (.cons (.one (.same rfl)) (.cons (.one (.same rfl)) (.nil)))) rfl rfl) ?_
  conv => whnf
  obtain rfl := Option.some.inj h
  exact ⟨rfl, rfl⟩
noncomputable def dec_Num_l1 (a19 : Int) (a20 : Int) (a21 : (List Int)) : Option ((Int × Int × (List Int)) ⊕ (Str)) :=
  need (a21.length = 21) <|
  (ix a21 (IntKind.i64.wrap (a20 - 1))).bind fun x28 =>
  if (decide ((IntKind.u64.wrap (Int.tdiv a19 10)) = 0)) then
    need ((List.set a21 ((IntKind.i64.wrap (a20 - 1))).toNat (IntKind.u8.wrap (48 + (IntKind.u8.wrap (Int.tmod a19 10))))).length = 21) <|
    need (0 ≤ (IntKind.i64.wrap (a20 - 1)) ∧ (IntKind.i64.wrap (a20 - 1)) ≤ (21 : Int) ∧ (21 : Int) ≤ (21 : Int)) <|
    some (.inr (List.map u8 (cut (List.set a21 ((IntKind.i64.wrap (a20 - 1))).toNat (IntKind.u8.wrap (48 + (IntKind.u8.wrap (Int.tmod a19 10))))) (IntKind.i64.wrap (a20 - 1)) (21 : Int))))
  else
    some (.inl ((IntKind.u64.wrap (Int.tdiv a19 10)), (IntKind.i64.wrap (a20 - 1)), (List.set a21 ((IntKind.i64.wrap (a20 - 1))).toNat (IntKind.u8.wrap (48 + (IntKind.u8.wrap (Int.tmod a19 10)))))))
noncomputable def dec_Num (v : Int) : Option (Str) :=
  need ((List.replicate 21 (0 : Int)).length = 21) <|
  (ix (List.replicate 21 (0 : Int)) 20).bind fun x2 =>
  (loop (fun (s24 : Int × Int × (List Int)) => dec_Num_l1 s24.1 s24.2.1 s24.2.2) (v, (20 : Int), (List.set (List.replicate 21 (0 : Int)) (20 : Int).toNat 59))).bind fun (y22 : Str) =>
  some y22
def gm_dec_Num : Gm := ⟨tys, [], [], []⟩
theorem dec_Num_walk (v : Int) (r : Str) (h : dec_Num v = some r) : PureP Try.prog 24 [.v (.int .u64 v)] (fun a => a = .v (.string (bs r))) := by
  unfold dec_Num at h
  refine pureW (G := gm_dec_Num) tyOk Try.func24 rfl (by kernel_rfl) (by simp [Try.f24]) ?_
  refine Tri.seqK ?_
  refine Tri.run (G := gm_dec_Num) tyOk mixed ?_
  conv => whnf
  refine Tri.seqK ?_
  refine Tri.run (G := gm_dec_Num) tyOk mixed ?_
  conv => whnf
  refine Tri.seqK ?_
  refine Tri.run (G := gm_dec_Num) tyOk mixed ?_
  conv => whnf
  refine Tri.seqK ?_
  refine Tri.weak (show Weak _ ⟨22, 0, ofRegs [(0, .v (.int .u64 v)), (2, .v (.string (bs []))), (3, .rptr 1 ((List.map (encI .u8) (List.replicate 21 (0 : Int))).length) 1 (0) 0), (4, .v (.int .i64 20))], [.gone, .row 82 1 (List.map (encI .u8) (List.replicate 21 (0 : Int)))]⟩ from Weak.trans (weak_arr 3 0 82 21 _ rfl rfl rfl rfl rfl rfl) (weak_fin _ rfl rfl rfl (.cons (.same rfl) (.cons (.same rfl) (LeH.rest))) (.cons (.one (.same rfl)) (.cons (.one (.same rfl)) (.cons (.one (.same rfl)) (.cons (.one (.same rfl)) (.nil))))) rfl rfl)) ?_
  refine Tri.run (G := gm_dec_Num) tyOk mixed ?_
  conv => whnf
  replace h := need_some h
  obtain ⟨p1, h⟩ := h
  replace h := bind_some h
  obtain ⟨x2, q3, h⟩ := h
  refine ⟨⟨by simp, by first | (simp; done) | simpa using p1, (ix_lt q3).1, by have := ix_lt q3; simp only [List.length_map, List.length_set, List.length_replicate, List.length_cons, List.length_nil] at *; omega⟩, ?_⟩
  conv => whnf
  refine ⟨rfl, ?_⟩
  conv => whnf
  refine ⟨⟨_, map_get (encI .u8) (ix_some q3).2, ?_⟩⟩
  conv => whnf
  refine ⟨Nat.le_of_ble_eq_true rfl, ?_⟩
  conv => whnf
  refine ⟨⟨List.map (encI .u8) (List.set (List.replicate 21 (0 : Int)) (20 : Int).toNat 59), map_set (encI .u8) _ _ _ rfl, ?_⟩⟩
  conv => whnf
  refine Tri.block ?_
  replace h := bind_some h
  obtain ⟨y22, q23, h⟩ := h
  refine Tri.cut (fun ex S' => ex = .ret ∧ Weak S' ⟨22, 0, ofRegs [(2, .v (.string (bs y22)))], []⟩) ?_ ?_
  · refine Tri.loopF (fun (s24 : Int × Int × (List Int)) => (⟨22, 0, ofRegs [(0, .v (.int .u64 s24.1)), (3, .rptr 1 ((List.map (encI .u8) s24.2.2).length) 1 (0) 0), (4, .v (.int .i64 s24.2.1))], [.gone, .row 82 1 (List.map (encI .u8) s24.2.2)]⟩ : St)) q23 (weak_fin _ rfl rfl rfl (.cons (.same rfl) (.cons (.same rfl) (LeH.rest))) (.cons (.one (.same rfl)) (.cons (.one (.same (show (.rptr 1 ((List.map (encI .u8) (List.replicate 21 (0 : Int))).length) 1 (0) 0 : AV) = (.rptr 1 ((List.map (encI .u8) (List.set (List.replicate 21 (0 : Int)) (20 : Int).toNat 59)).length) 1 (0) 0 : AV) from congrArg (fun n => AV.rptr 1 n 1 (0) 0) (by simp)))) (.cons (.one (.same rfl)) (.nil)))) rfl rfl) ?_
    rintro ⟨a19, a20, a21⟩ v25 hv r26
    have hv : dec_Num_l1 a19 a20 a21 = some v25 := hv
    unfold dec_Num_l1 at hv
    dsimp only
    refine Tri.block ?_
    refine Tri.seqK ?_
    refine Tri.run (G := gm_dec_Num) tyOk mixed ?_
    conv => whnf
    refine Tri.seqK ?_
    refine Tri.run (G := gm_dec_Num) tyOk mixed ?_
    conv => whnf
    refine ⟨by decide, ?_⟩
    conv => whnf
    refine ⟨⟨(IntKind.u8.wrap (Int.tmod a19 10)), rfl, ?_⟩⟩
    conv => whnf
    replace hv := need_some hv
    obtain ⟨p27, hv⟩ := hv
    replace hv := bind_some hv
    obtain ⟨x28, q29, hv⟩ := hv
    refine ⟨⟨by simp, by first | (simp; done) | simpa using p27, (ix_lt q29).1, by have := ix_lt q29; simp only [List.length_map, List.length_set, List.length_replicate, List.length_cons, List.length_nil] at *; omega⟩, ?_⟩
    conv => whnf
    refine ⟨rfl, ?_⟩
    conv => whnf
    refine ⟨⟨_, map_get (encI .u8) (ix_some q29).2, ?_⟩⟩
    conv => whnf
    refine ⟨Nat.le_of_ble_eq_true rfl, ?_⟩
    conv => whnf
    refine ⟨⟨List.map (encI .u8) (List.set a21 ((IntKind.i64.wrap (a20 - 1))).toNat (IntKind.u8.wrap (48 + (IntKind.u8.wrap (Int.tmod a19 10))))), map_set (encI .u8) _ _ _ rfl, ?_⟩⟩
    conv => whnf
    refine Tri.seqK ?_
    refine Tri.run (G := gm_dec_Num) tyOk mixed ?_
    conv => whnf
    refine ⟨by decide, ?_⟩
    conv => whnf
    refine Tri.seqK ?_
    refine Tri.run (G := gm_dec_Num) tyOk mixed ?_
    conv => whnf
    refine Tri.cond rfl (fun c30 => ?_) (fun c30 => ?_)
    · replace hv := if_t c30 hv
      refine Tri.seqK ?_
      refine Tri.weak (show Weak _ ⟨22, 0, ofRegs [(0, .v (.int .u64 (IntKind.u64.wrap (Int.tdiv a19 10)))), (3, .rptr 1 ((List.map (encI .u8) a21).length) 1 (0) 0), (4, .v (.int .i64 (IntKind.i64.wrap (a20 - 1)))), (7, .v (.int .i64 a20)), (8, .v (.int .i64 (IntKind.i64.wrap (a20 - 1)))), (9, .v (.int .i64 (IntKind.i64.wrap (a20 - 1)))), (10, .v (.int .u64 a19)), (11, .v (.int .u64 (Int.tmod a19 10))), (12, .v (.int .u8 (IntKind.u8.wrap (Int.tmod a19 10)))), (13, .v (.int .u8 (IntKind.u8.wrap (48 + (IntKind.u8.wrap (Int.tmod a19 10)))))), (14, .rptr 1 ((List.map (encI .u8) a21).length) 1 (((IntKind.i64.wrap (a20 - 1))).toNat) 0), (15, .v (.int .u64 a19)), (16, .v (.int .u64 (IntKind.u64.wrap (Int.tdiv a19 10)))), (17, .v (.int .u64 (IntKind.u64.wrap (Int.tdiv a19 10)))), (18, .v (.bool true))], [.gone, .frz 1 (List.map (encI .u8) (List.set a21 ((IntKind.i64.wrap (a20 - 1))).toNat (IntKind.u8.wrap (48 + (IntKind.u8.wrap (Int.tmod a19 10))))))]⟩ from Weak.trans (weak_freeze 1 rfl) (weak_fin _ rfl rfl rfl (.cons (.same rfl) (.cons (.same rfl) (LeH.rest))) (.cons (.one (.same rfl)) (.cons (.one (.same rfl)) (.cons (.one (.same rfl)) (.cons (.one (.same rfl)) (.cons (.one (.same rfl)) (.cons (.one (.same rfl)) (.cons (.one (.same rfl)) (.cons (.one (.same rfl)) (.cons (.one (.same rfl)) (.cons (.one (.same rfl)) (.cons (.one (.same rfl)) (.cons (.one (.same rfl)) (.cons (.one (.same rfl)) (.cons (.one (.same rfl)) (.cons (.one (.same rfl)) (.nil)))))))))))))))) rfl rfl)) ?_
      refine Tri.run (G := gm_dec_Num) tyOk mixed ?_
      conv => whnf
      replace hv := need_some hv
      obtain ⟨p31, hv⟩ := hv
      refine ⟨⟨by simp, by first | (simp; done) | simpa using p31, by have := p31; simp only [List.length_map, List.length_set] at *; omega⟩, ?_⟩
      conv => whnf
      replace hv := need_some hv
      obtain ⟨p32, hv⟩ := hv
      refine ⟨⟨p32.1, p32.2.1, p32.2.2⟩, ?_⟩
      conv => whnf
      refine ⟨⟨List.map (encI .u8) (cut (List.set a21 ((IntKind.i64.wrap (a20 - 1))).toNat (IntKind.u8.wrap (48 + (IntKind.u8.wrap (Int.tmod a19 10))))) (IntKind.i64.wrap (a20 - 1)) (21 : Int)), map_cut _ _ _ _, ?_⟩⟩
      conv => whnf
      refine ⟨⟨(cut (List.set a21 ((IntKind.i64.wrap (a20 - 1))).toNat (IntKind.u8.wrap (48 + (IntKind.u8.wrap (Int.tmod a19 10))))) (IntKind.i64.wrap (a20 - 1)) (21 : Int)), rfl, ?_⟩⟩
      conv => whnf
      refine ⟨⟨bs (List.map u8 (cut (List.set a21 ((IntKind.i64.wrap (a20 - 1))).toNat (IntKind.u8.wrap (48 + (IntKind.u8.wrap (Int.tmod a19 10))))) (IntKind.i64.wrap (a20 - 1)) (21 : Int))), ofInts_eq _, ?_⟩⟩
      conv => whnf
      refine Tri.run (G := gm_dec_Num) tyOk mixed ?_
      conv => whnf
      obtain rfl := Option.some.inj hv
      obtain rfl := r26 _ rfl
      exact ⟨rfl, weak_fin _ rfl rfl rfl (LeH.rest) (.cons (.one (.same rfl)) (.nil)) rfl rfl⟩
    · replace hv := if_f c30 hv
      refine Tri.run (G := gm_dec_Num) tyOk mixed ?_
      conv => whnf
      obtain rfl := Option.some.inj hv
      exact ⟨_, rfl, weak_fin _ rfl rfl rfl (.cons (.same rfl) (.cons (.same rfl) (LeH.rest))) (.cons (.one (.same rfl)) (.cons (.one (.same (show (.rptr 1 ((List.map (encI .u8) a21).length) 1 (0) 0 : AV) = (.rptr 1 ((List.map (encI .u8) (List.set a21 ((IntKind.i64.wrap (a20 - 1))).toNat (IntKind.u8.wrap (48 + (IntKind.u8.wrap (Int.tmod a19 10)))))).length) 1 (0) 0 : AV) from congrArg (fun n => AV.rptr 1 n 1 (0) 0) (by simp)))) (.cons (.one (.same rfl)) (.nil)))) rfl rfl⟩
  · rintro ex S' ⟨rfl, w33⟩
    conv => whnf
    refine fin_pre w33 ?_
    conv => whnf
    obtain rfl := Option.some.inj h
    rfl
noncomputable def dec_Text (t : Str) : Option (Str) :=
  (dec_Num (IntKind.u64.wrap (t.length : Int))).bind fun y1 =>
  need (y1.length + t.length ≤ 9223372036854775807) <|
  some (y1 ++ t)
def gm_dec_Text : Gm := ⟨tys, [], [], []⟩
theorem dec_Text_walk (t : Str) (r : Str) (h : dec_Text t = some r) : PureP Try.prog 37 [.v (.string (bs t))] (fun a => a = .v (.string (bs r))) := by
  unfold dec_Text at h
  refine pureW (G := gm_dec_Text) tyOk Try.func37 rfl (by kernel_rfl) (by simp [Try.f37]) ?_
  refine Tri.seqK ?_
  refine Tri.run (G := gm_dec_Text) tyOk mixed ?_
  conv => whnf
  refine Tri.seqK ?_
  refine Tri.run (G := gm_dec_Text) tyOk mixed ?_
  conv => whnf
  refine ⟨⟨(t.length : Int), rfl, ?_⟩⟩
  conv => whnf
  refine ⟨⟨(IntKind.u64.wrap (t.length : Int)), rfl, ?_⟩⟩
  conv => whnf
  replace h := bind_some h
  obtain ⟨y1, q2, h⟩ := h
  refine PureP.mono (dec_Num_walk (IntKind.u64.wrap (t.length : Int)) y1 q2) ?_
  rintro _ rfl
  conv => whnf
  replace h := need_some h
  obtain ⟨p3, h⟩ := h
  refine ⟨p3, ?_⟩
  conv => whnf
  refine ⟨⟨bs (y1 ++ t), bs_append _ _, ?_⟩⟩
  conv => whnf
  refine Tri.run (G := gm_dec_Text) tyOk mixed ?_
  conv => whnf
  refine fin_here ?_
  conv => whnf
  obtain rfl := Option.some.inj h
  rfl
noncomputable def sum_Seal (s : Str) : Option (Str) :=
  (dec_Text s).bind fun y1 =>
  (sum_Of s).bind fun y3 =>
  (dec_Num (IntKind.u64.wrap y3)).bind fun y5 =>
  need (y1.length + y5.length ≤ 9223372036854775807) <|
  some (y1 ++ y5)
def gm_sum_Seal : Gm := ⟨tys, [], [], []⟩
theorem sum_Seal_walk (s : Str) (r : Str) (h : sum_Seal s = some r) : PureP Try.prog 23 [.v (.string (bs s))] (fun a => a = .v (.string (bs r))) := by
  unfold sum_Seal at h
  refine pureW (G := gm_sum_Seal) tyOk Try.func23 rfl (by kernel_rfl) (by simp [Try.f23]) ?_
  refine Tri.seqK ?_
  refine Tri.run (G := gm_sum_Seal) tyOk mixed ?_
  conv => whnf
  refine Tri.seqK ?_
  refine Tri.run (G := gm_sum_Seal) tyOk mixed ?_
  conv => whnf
  replace h := bind_some h
  obtain ⟨y1, q2, h⟩ := h
  refine PureP.mono (dec_Text_walk s y1 q2) ?_
  rintro _ rfl
  conv => whnf
  replace h := bind_some h
  obtain ⟨y3, q4, h⟩ := h
  refine PureP.mono (sum_Of_walk s y3 q4) ?_
  rintro _ rfl
  conv => whnf
  refine ⟨⟨(IntKind.u64.wrap y3), rfl, ?_⟩⟩
  conv => whnf
  replace h := bind_some h
  obtain ⟨y5, q6, h⟩ := h
  refine PureP.mono (dec_Num_walk (IntKind.u64.wrap y3) y5 q6) ?_
  rintro _ rfl
  conv => whnf
  replace h := need_some h
  obtain ⟨p7, h⟩ := h
  refine ⟨p7, ?_⟩
  conv => whnf
  refine ⟨⟨bs (y1 ++ y5), bs_append _ _, ?_⟩⟩
  conv => whnf
  refine Tri.run (G := gm_sum_Seal) tyOk mixed ?_
  conv => whnf
  refine fin_here ?_
  conv => whnf
  obtain rfl := Option.some.inj h
  rfl
noncomputable def epoch_Bytes (n : Int) : Option (Str × Int) :=
  if ((decide (n < 0)) || (decide (n > 1073741824))) then
    some ([], 1)
  else
    (dec_Num (IntKind.u64.wrap n)).bind fun y13 =>
    (sum_Seal y13).bind fun y15 =>
    some (y15, 0)
def gm_epoch_Bytes : Gm := ⟨tys, [], [], []⟩
theorem epoch_Bytes_walk (n : Int) (r : Str × Int) (h : epoch_Bytes n = some r) : PureP Try.prog 10 [.v (.int .i64 n)] (fun a => a = .tup [.v (.string (bs r.1)), .v (.int .i64 r.2)]) := by
  unfold epoch_Bytes at h
  refine pureW (G := gm_epoch_Bytes) tyOk Try.func10 rfl (by kernel_rfl) (by simp [Try.f10]) ?_
  refine Tri.seqK ?_
  refine Tri.run (G := gm_epoch_Bytes) tyOk mixed ?_
  conv => whnf
  refine Tri.seqK ?_
  refine Tri.seqK ?_
  refine Tri.cut (fun ex S' => ex = .normal ∧ Weak S' ⟨14, 0, ofRegs [(0, .v (.int .i64 n)), (9, .v (.bool ((decide (n < 0)) || (decide (n > 1073741824)))))], []⟩) ?_ ?_
  · refine Tri.run (G := gm_epoch_Bytes) tyOk mixed ?_
    conv => whnf
    refine cond_mk (fun c10 => ?_) (fun c10 => ?_)
    · replace c10 : (decide (n < 0)) = true := c10
      conv => whnf
      exact ⟨rfl, weak_fin _ rfl rfl rfl (LeH.rest) (.cons (.one (.same rfl)) (.cons (.one (.same (show (.v (.bool true) : AV) = (.v (.bool ((decide (n < 0)) || (decide (n > 1073741824)))) : AV) from by first | (simp [c10]; done) | simp only [c10, Bool.or_true, Bool.true_or, Bool.false_or, Bool.or_false, Bool.and_true, Bool.true_and, Bool.and_false, Bool.false_and, Bool.not_true, Bool.not_false, if_true, if_false, Bool.false_eq_true]))) (.nil))) rfl rfl⟩
    · replace c10 : (decide (n < 0)) = false := c10
      conv => whnf
      exact ⟨rfl, weak_fin _ rfl rfl rfl (LeH.rest) (.cons (.one (.same rfl)) (.cons (.one (.same (show (.v (.bool (decide (n > 1073741824))) : AV) = (.v (.bool ((decide (n < 0)) || (decide (n > 1073741824)))) : AV) from by first | (simp [c10]; done) | simp only [c10, Bool.or_true, Bool.true_or, Bool.false_or, Bool.or_false, Bool.and_true, Bool.true_and, Bool.and_false, Bool.false_and, Bool.not_true, Bool.not_false, if_true, if_false, Bool.false_eq_true]))) (.nil))) rfl rfl⟩
  · rintro ex S' ⟨rfl, w11⟩
    conv => whnf
    refine Tri.weak w11 ?_
    refine Tri.cond rfl (fun c12 => ?_) (fun c12 => ?_)
    · replace h := if_t c12 h
      refine Tri.seqK ?_
      refine Tri.run (G := gm_epoch_Bytes) tyOk mixed ?_
      conv => whnf
      refine Tri.run (G := gm_epoch_Bytes) tyOk mixed ?_
      conv => whnf
      refine fin_here ?_
      conv => whnf
      obtain rfl := Option.some.inj h
      rfl
    · replace h := if_f c12 h
      refine Tri.run (G := gm_epoch_Bytes) tyOk mixed ?_
      conv => whnf
      refine Tri.seqK ?_
      refine Tri.run (G := gm_epoch_Bytes) tyOk mixed ?_
      conv => whnf
      refine ⟨⟨(IntKind.u64.wrap n), rfl, ?_⟩⟩
      conv => whnf
      replace h := bind_some h
      obtain ⟨y13, q14, h⟩ := h
      refine PureP.mono (dec_Num_walk (IntKind.u64.wrap n) y13 q14) ?_
      rintro _ rfl
      conv => whnf
      replace h := bind_some h
      obtain ⟨y15, q16, h⟩ := h
      refine PureP.mono (sum_Seal_walk y13 y15 q16) ?_
      rintro _ rfl
      conv => whnf
      refine Tri.run (G := gm_epoch_Bytes) tyOk mixed ?_
      conv => whnf
      refine fin_here ?_
      conv => whnf
      obtain rfl := Option.some.inj h
      rfl
noncomputable def disk_change (d : Disk) : Option (Disk × Bool) :=
  (
    if (decide (d.Fuse = 0)) then
      some (.inr ())
    else
      if (decide (d.Fuse > 0)) then
        some (.inl (IntKind.i64.wrap (d.Fuse - 1)))
      else
        some (.inl d.Fuse)).bind fun (y5 : (Int) ⊕ (Unit)) =>
  match y5 with
  | (.inl v7) =>
    some (({ Files := d.Files, Room := d.Room, Fuse := v7, Off := d.Off } : Disk), true)
  | (.inr v8) =>
    some (({ Files := d.Files, Room := d.Room, Fuse := d.Fuse, Off := true } : Disk), false)
def gm_disk_change : Gm := ⟨tys, [], [], []⟩
theorem disk_change_walk (d : Disk) (r : Disk × Bool) (h : disk_change d = some r) : PureP Try.prog 59 [.agg [.sl (List.map encFile d.Files), .v (.int .i64 d.Room), .v (.int .i64 d.Fuse), .v (.bool d.Off)]] (fun a => a = .tup [.agg [.sl (List.map encFile r.1.Files), .v (.int .i64 r.1.Room), .v (.int .i64 r.1.Fuse), .v (.bool r.1.Off)], .v (.bool r.2)]) := by
  unfold disk_change at h
  refine pureW (G := gm_disk_change) tyOk Try.func59 rfl (by kernel_rfl) (by simp [Try.f59]) ?_
  refine Tri.seqK ?_
  refine Tri.run (G := gm_disk_change) tyOk mixed ?_
  conv => whnf
  refine Tri.seqK ?_
  replace h := bind_some h
  obtain ⟨y5, q6, h⟩ := h
  refine Tri.cut (fun ex S' => (∃ v7 : Int, y5 = (.inl v7) ∧ ex = .normal ∧ Weak S' ⟨19, 0, ofRegs [(1, .ptr 0 0), (2, .ptr 1 0)], [.var 24 [.sl (List.map encFile d.Files), .v (.int .i64 d.Room), .v (.int .i64 v7), .v (.bool d.Off)], .var 24 [.v (.slice none 0 0), .v (.int .i64 0), .v (.int .i64 0), .v (.bool false)]]⟩) ∨ (∃ v8 : Unit, y5 = (.inr v8) ∧ ex = .ret ∧ Weak S' ⟨19, 0, ofRegs [(2, .ptr 1 0), (3, .v (.bool false))], [.gone, .var 24 [.sl (List.map encFile d.Files), .v (.int .i64 d.Room), .v (.int .i64 d.Fuse), .v (.bool true)]]⟩)) ?_ ?_
  · refine Tri.block ?_
    refine Tri.seqK ?_
    refine Tri.run (G := gm_disk_change) tyOk mixed ?_
    conv => whnf
    refine Tri.cond rfl (fun c9 => ?_) (fun c9 => ?_)
    · replace q6 := if_t c9 q6
      refine Tri.seqK ?_
      refine Tri.run (G := gm_disk_change) tyOk mixed ?_
      conv => whnf
      refine Tri.seqK ?_
      refine Tri.run (G := gm_disk_change) tyOk mixed ?_
      conv => whnf
      refine Tri.run (G := gm_disk_change) tyOk mixed ?_
      conv => whnf
      obtain rfl := Option.some.inj q6
      exact Or.inr (⟨_, rfl, rfl, weak_fin _ rfl rfl rfl (.cons (.gone) (.cons (.same rfl) (LeH.rest))) (.cons (.one (.same rfl)) (.cons (.one (.same rfl)) (.nil))) rfl rfl⟩)
    · replace q6 := if_f c9 q6
      refine Tri.seqK ?_
      refine Tri.run (G := gm_disk_change) tyOk mixed ?_
      conv => whnf
      refine Tri.cond rfl (fun c10 => ?_) (fun c10 => ?_)
      · replace q6 := if_t c10 q6
        refine Tri.run (G := gm_disk_change) tyOk mixed ?_
        conv => whnf
        obtain rfl := Option.some.inj q6
        exact Or.inl ⟨_, rfl, rfl, weak_fin _ rfl rfl rfl (.cons (.same rfl) (.cons (.same rfl) (LeH.rest))) (.cons (.one (.same rfl)) (.cons (.one (.same rfl)) (.nil))) rfl rfl⟩
      · replace q6 := if_f c10 q6
        refine Tri.run (G := gm_disk_change) tyOk mixed ?_
        conv => whnf
        obtain rfl := Option.some.inj q6
        exact Or.inl ⟨_, rfl, rfl, weak_fin _ rfl rfl rfl (.cons (.same rfl) (.cons (.same rfl) (LeH.rest))) (.cons (.one (.same rfl)) (.cons (.one (.same rfl)) (.nil))) rfl rfl⟩
  · rintro ex S' (⟨v7, rfl, rfl, w11⟩ | ⟨v8, rfl, rfl, w11⟩)
    · dsimp only at h
      conv => whnf
      refine Tri.weak w11 ?_
      refine Tri.seqK ?_
      refine Tri.run (G := gm_disk_change) tyOk mixed ?_
      conv => whnf
      refine Tri.run (G := gm_disk_change) tyOk mixed ?_
      conv => whnf
      refine fin_here ?_
      conv => whnf
      obtain rfl := Option.some.inj h
      rfl
    · dsimp only at h
      conv => whnf
      refine fin_pre w11 ?_
      conv => whnf
      obtain rfl := Option.some.inj h
      rfl
noncomputable def disk_size (f : File) : Option (Int) :=
  some (IntKind.i64.wrap ((f.Safe.length : Int) + (f.Wait.length : Int)))
def gm_disk_size : Gm := ⟨tys, [], [], []⟩
theorem disk_size_walk (f : File) (r : Int) (h : disk_size f = some r) : PureP Try.prog 62 [.agg [.v (.string (bs f.Name)), .v (.string (bs f.Safe)), .v (.string (bs f.Wait))]] (fun a => a = .v (.int .i64 r)) := by
  unfold disk_size at h
  refine pureW (G := gm_disk_size) tyOk Try.func62 rfl (by kernel_rfl) (by simp [Try.f62]) ?_
  refine Tri.seqK ?_
  refine Tri.run (G := gm_disk_size) tyOk mixed ?_
  conv => whnf
  refine Tri.seqK ?_
  refine Tri.run (G := gm_disk_size) tyOk mixed ?_
  conv => whnf
  refine ⟨⟨(f.Safe.length : Int), rfl, ?_⟩⟩
  conv => whnf
  refine ⟨⟨(f.Wait.length : Int), rfl, ?_⟩⟩
  conv => whnf
  refine Tri.run (G := gm_disk_size) tyOk mixed ?_
  conv => whnf
  refine fin_here ?_
  conv => whnf
  obtain rfl := Option.some.inj h
  rfl
noncomputable def disk_without (d : Disk) (i : Int) : Option (Disk) :=
  (ix d.Files i).bind fun x5 =>
  (disk_size x5).bind fun y7 =>
  need (d.Files.length * 48 ≤ 140737488355328) <|
  need (0 ≤ i ∧ i ≤ (IntKind.i64.wrap (i + 1)) ∧ (IntKind.i64.wrap (i + 1)) ≤ (d.Files.length : Int) ∧ (d.Files.length : Int) < 4611686018427387904 ∧ 0 < d.Files.length) <|
  some ({ Files := (List.take i.toNat d.Files ++ List.drop (IntKind.i64.wrap (i + 1)).toNat d.Files), Room := (IntKind.i64.wrap (d.Room + y7)), Fuse := d.Fuse, Off := d.Off } : Disk)
def gm_disk_without : Gm := ⟨tys, [70], [(63, 55, 3)], [70]⟩
theorem disk_without_walk (d : Disk) (i : Int) (r : Disk) (h : disk_without d i = some r) : PureP Try.prog 60 [.agg [.sl (List.map encFile d.Files), .v (.int .i64 d.Room), .v (.int .i64 d.Fuse), .v (.bool d.Off)], .v (.int .i64 i)] (fun a => a = .agg [.sl (List.map encFile r.Files), .v (.int .i64 r.Room), .v (.int .i64 r.Fuse), .v (.bool r.Off)]) := by
  unfold disk_without at h
  refine pureW (G := gm_disk_without) tyOk Try.func60 rfl (by kernel_rfl) (by simp [Try.f60]) ?_
  refine Tri.seqK ?_
  refine Tri.run (G := gm_disk_without) tyOk mixed ?_
  conv => whnf
  refine Tri.seqK ?_
  refine Tri.run (G := gm_disk_without) tyOk mixed ?_
  conv => whnf
  refine Draw.one 10 (.take 0 (.take 1 (.take 2 (.take 3 (.take 4 (.take 5 (.take 6 (.alt 7 (.take 8 (.take 9 (.fin))) (.nil))))))))) [] (by kernel_rfl) ?_
  conv => whnf
  replace h := bind_some h
  obtain ⟨x5, q6, h⟩ := h
  refine ⟨(ix_some q6).1, ?_⟩
  conv => whnf
  refine ⟨⟨_, map_get encFile (ix_some q6).2, ?_⟩⟩
  conv => whnf
  refine ⟨rfl, ?_⟩
  conv => whnf
  refine ⟨?_, ?_⟩
  · conv => whnf
    replace h := bind_some h
    obtain ⟨y7, q8, h⟩ := h
    refine PureP.mono (disk_size_walk x5 y7 q8) ?_
    rintro _ rfl
    conv => whnf
    refine Tri.seqK ?_
    refine Tri.run (G := gm_disk_without) tyOk mixed ?_
    conv => whnf
    replace h := need_some h
    obtain ⟨p9, h⟩ := h
    refine FreshP.mono (clone_63 d.Files p9) ?_
    rintro _ rfl
    conv => whnf
    refine ⟨rfl, ?_⟩
    conv => whnf
    replace h := need_some h
    obtain ⟨p10, h⟩ := h
    refine EatP.mono (delete_70 d.Files i (IntKind.i64.wrap (i + 1)) p10) ?_
    rintro _ rfl
    conv => whnf
    refine Tri.seqK ?_
    refine Tri.run (G := gm_disk_without) tyOk mixed ?_
    conv => whnf
    refine Tri.run (G := gm_disk_without) tyOk mixed ?_
    conv => whnf
    refine fin_here ?_
    conv => whnf
    refine ⟨rfl, ?_⟩
    conv => whnf
    obtain rfl := Option.some.inj h
    rfl
  · conv => whnf
    trivial
noncomputable def disk_Delete (d : Disk) (name : Str) : Option (Disk × Int) :=
  if d.Off then
    some (d, 6)
  else
    (disk_at d name).bind fun y6 =>
    if (decide (y6 < 0)) then
      some (d, 7)
    else
      (disk_change d).bind fun y9 =>
      if (!y9.2) then
        some (y9.1, 6)
      else
        (disk_at y9.1 name).bind fun y17 =>
        (disk_without y9.1 y17).bind fun y19 =>
        some (y19, 0)
def gm_disk_Delete : Gm := ⟨tys, [], [], []⟩
theorem disk_Delete_walk (d : Disk) (name : Str) (r : Disk × Int) (h : disk_Delete d name = some r) : PureP Try.prog 47 [.agg [.sl (List.map encFile d.Files), .v (.int .i64 d.Room), .v (.int .i64 d.Fuse), .v (.bool d.Off)], .v (.string (bs name))] (fun a => a = .tup [.agg [.sl (List.map encFile r.1.Files), .v (.int .i64 r.1.Room), .v (.int .i64 r.1.Fuse), .v (.bool r.1.Off)], .v (.int .i64 r.2)]) := by
  unfold disk_Delete at h
  refine pureW (G := gm_disk_Delete) tyOk Try.func47 rfl (by kernel_rfl) (by simp [Try.f47]) ?_
  refine Tri.seqK ?_
  refine Tri.run (G := gm_disk_Delete) tyOk mixed ?_
  conv => whnf
  refine Tri.seqK ?_
  refine Tri.block ?_
  refine Tri.seqK ?_
  refine Tri.run (G := gm_disk_Delete) tyOk mixed ?_
  conv => whnf
  refine Tri.cond rfl (fun c5 => ?_) (fun c5 => ?_)
  · replace h := if_t c5 h
    refine Tri.seqK ?_
    refine Tri.run (G := gm_disk_Delete) tyOk mixed ?_
    conv => whnf
    refine Tri.run (G := gm_disk_Delete) tyOk mixed ?_
    conv => whnf
    refine fin_here ?_
    conv => whnf
    obtain rfl := Option.some.inj h
    rfl
  · replace h := if_f c5 h
    refine Tri.seqK ?_
    refine Tri.run (G := gm_disk_Delete) tyOk mixed ?_
    conv => whnf
    replace h := bind_some h
    obtain ⟨y6, q7, h⟩ := h
    refine PureP.mono (disk_at_walk d name y6 q7) ?_
    rintro _ rfl
    conv => whnf
    refine Tri.cond rfl (fun c8 => ?_) (fun c8 => ?_)
    · replace h := if_t c8 h
      refine Tri.seqK ?_
      refine Tri.run (G := gm_disk_Delete) tyOk mixed ?_
      conv => whnf
      refine Tri.run (G := gm_disk_Delete) tyOk mixed ?_
      conv => whnf
      refine fin_here ?_
      conv => whnf
      obtain rfl := Option.some.inj h
      rfl
    · replace h := if_f c8 h
      refine Tri.run (G := gm_disk_Delete) tyOk mixed ?_
      conv => whnf
      refine Tri.seqK ?_
      refine Tri.run (G := gm_disk_Delete) tyOk mixed ?_
      conv => whnf
      replace h := bind_some h
      obtain ⟨y9, q10, h⟩ := h
      refine PureP.mono (disk_change_walk d y9 q10) ?_
      rintro _ rfl
      conv => whnf
      refine Tri.seqK ?_
      refine Tri.seqK ?_
      refine Tri.run (G := gm_disk_Delete) tyOk mixed ?_
      conv => whnf
      refine Tri.cond rfl (fun c12 => ?_) (fun c12 => ?_)
      · replace h := if_t c12 h
        refine Tri.seqK ?_
        refine Tri.run (G := gm_disk_Delete) tyOk mixed ?_
        conv => whnf
        refine Tri.run (G := gm_disk_Delete) tyOk mixed ?_
        conv => whnf
        refine fin_here ?_
        conv => whnf
        obtain rfl := Option.some.inj h
        rfl
      · replace h := if_f c12 h
        refine Tri.run (G := gm_disk_Delete) tyOk mixed ?_
        conv => whnf
        refine Tri.seqK ?_
        refine Tri.run (G := gm_disk_Delete) tyOk mixed ?_
        conv => whnf
        refine Draw.one 5 (.take 0 (.take 1 (.take 2 (.alt 3 (.alt 4 (.fin) (.nil)) (.nil))))) [] (by kernel_rfl) ?_
        conv => whnf
        refine ⟨?_, ?_⟩
        · conv => whnf
          replace h := bind_some h
          obtain ⟨y17, q18, h⟩ := h
          refine PureP.mono (disk_at_walk y9.1 name y17 q18) ?_
          rintro _ rfl
          conv => whnf
          refine ⟨?_, ?_⟩
          · conv => whnf
            replace h := bind_some h
            obtain ⟨y19, q20, h⟩ := h
            refine PureP.mono (disk_without_walk y9.1 y17 y19 q20) ?_
            rintro _ rfl
            conv => whnf
            refine Tri.run (G := gm_disk_Delete) tyOk mixed ?_
            conv => whnf
            refine fin_here ?_
            conv => whnf
            obtain rfl := Option.some.inj h
            rfl
          · conv => whnf
            trivial
        · conv => whnf
          trivial
noncomputable def disk_named (name : Str) : Option (Bool) :=
  if (decide ((name.length : Int) ≥ 1)) then
    some (decide ((name.length : Int) ≤ 16))
  else
    some false
def gm_disk_named : Gm := ⟨tys, [], [], []⟩
theorem disk_named_walk (name : Str) (r : Bool) (h : disk_named name = some r) : PureP Try.prog 61 [.v (.string (bs name))] (fun a => a = .v (.bool r)) := by
  unfold disk_named at h
  refine pureW (G := gm_disk_named) tyOk Try.func61 rfl (by kernel_rfl) (by simp [Try.f61]) ?_
  refine Tri.seqK ?_
  refine Tri.run (G := gm_disk_named) tyOk mixed ?_
  conv => whnf
  refine Tri.seqK ?_
  refine Tri.run (G := gm_disk_named) tyOk mixed ?_
  conv => whnf
  refine ⟨⟨(name.length : Int), rfl, ?_⟩⟩
  conv => whnf
  refine cond_mk (fun c1 => ?_) (fun c1 => ?_)
  · replace h := if_t c1 h
    conv => whnf
    refine ⟨⟨(name.length : Int), rfl, ?_⟩⟩
    conv => whnf
    refine Tri.run (G := gm_disk_named) tyOk mixed ?_
    conv => whnf
    refine fin_here ?_
    conv => whnf
    obtain rfl := Option.some.inj h
    rfl
  · replace h := if_f c1 h
    conv => whnf
    refine Tri.run (G := gm_disk_named) tyOk mixed ?_
    conv => whnf
    refine fin_here ?_
    conv => whnf
    obtain rfl := Option.some.inj h
    rfl
noncomputable def disk_set_File (l : (List File)) (i : Int) (x : File) : Option ((List File)) :=
  need (l.length * 48 ≤ 140737488355328) <|
  (ix l i).bind fun x2 =>
  some (List.set l (i).toNat x)
def gm_disk_set_File : Gm := ⟨tys, [], [(63, 55, 3)], []⟩
theorem disk_set_File_walk (l : (List File)) (i : Int) (x : File) (r : (List File)) (h : disk_set_File l i x = some r) : PureP Try.prog 64 [.sl (List.map encFile l), .v (.int .i64 i), .agg [.v (.string (bs x.Name)), .v (.string (bs x.Safe)), .v (.string (bs x.Wait))]] (fun a => a = .sl (List.map encFile r)) := by
  unfold disk_set_File at h
  refine pureW (G := gm_disk_set_File) tyOk Try.func64 rfl (by kernel_rfl) (by simp [Try.f64]) ?_
  refine Tri.seqK ?_
  refine Tri.run (G := gm_disk_set_File) tyOk mixed ?_
  conv => whnf
  refine Tri.seqK ?_
  refine Tri.run (G := gm_disk_set_File) tyOk mixed ?_
  conv => whnf
  replace h := need_some h
  obtain ⟨p1, h⟩ := h
  refine FreshP.mono (clone_63 l p1) ?_
  rintro _ rfl
  conv => whnf
  refine Tri.seqK ?_
  refine Tri.run (G := gm_disk_set_File) tyOk mixed ?_
  conv => whnf
  replace h := bind_some h
  obtain ⟨x2, q3, h⟩ := h
  refine ⟨⟨rfl, (ix_lt q3).1, by have := ix_lt q3; simp only [List.length_map, List.length_set, List.length_cons, List.length_nil] at *; omega⟩, ?_⟩
  conv => whnf
  refine ⟨rfl, ?_⟩
  conv => whnf
  refine ⟨⟨_, map_get encFile (ix_some q3).2, ?_⟩⟩
  conv => whnf
  refine ⟨Nat.le_of_ble_eq_true rfl, ?_⟩
  conv => whnf
  refine ⟨⟨List.map encFile (List.set l (i).toNat x), map_set encFile _ _ _ rfl, ?_⟩⟩
  conv => whnf
  refine Tri.seqK ?_
  refine Tri.run (G := gm_disk_set_File) tyOk mixed ?_
  conv => whnf
  refine Tri.run (G := gm_disk_set_File) tyOk mixed ?_
  conv => whnf
  refine fin_here ?_
  conv => whnf
  refine ⟨by simp, ?_⟩
  conv => whnf
  obtain rfl := Option.some.inj h
  rfl
noncomputable def disk_Append (d : Disk) (name : Str) (s : Str) : Option (Disk × Int) :=
  (disk_Find d name).bind fun y1 =>
  (
    if d.Off then
      some (.inr (.inl 6))
    else
      (disk_named name).bind fun y1210 =>
      if (!y1210) then
        some (.inr (.inl 1))
      else
        if ((!y1.2) && (decide ((d.Files.length : Int) ≥ 64))) then
          some (.inl ())
        else
          if (decide ((s.length : Int) > d.Room)) then
            some (.inl ())
          else
            (disk_size y1.1).bind fun y1227 =>
            if (decide ((IntKind.i64.wrap (y1227 + (s.length : Int))) > 65536)) then
              some (.inr (.inr (.inl ())))
            else
              some (.inr (.inr (.inr ())))).bind fun (y1124 : (Unit) ⊕ (Int) ⊕ (Unit) ⊕ (Unit)) =>
  match y1124 with
  | (.inl v1126) =>
    some (d, 5)
  | (.inr (.inl v1127)) =>
    some (d, v1127)
  | (.inr (.inr (.inl v1128))) =>
    some (d, 4)
  | (.inr (.inr (.inr v1129))) =>
    (
      if (!y1.2) then
        need (d.Files.length * 48 ≤ 140737488355328) <|
        need ((d.Files.length + 1) * 48 ≤ 140737488355328) <|
        some (d.Files ++ [({ Name := name, Safe := [], Wait := [] } : File)])
      else
        some d.Files).bind fun (y1237 : (List File)) =>
    (
      if ((decide (d.Fuse ≥ 0)) && (decide (d.Fuse < (s.length : Int)))) then
        need (0 ≤ (0 : Int) ∧ 0 ≤ d.Fuse ∧ d.Fuse ≤ (s.length : Int)) <|
        some (cut s 0 d.Fuse)
      else
        some s).bind fun (y1257 : Str) =>
    (disk_at ({ Files := y1237, Room := d.Room, Fuse := d.Fuse, Off := d.Off } : Disk) name).bind fun y1267 =>
    (ix y1237 y1267).bind fun x1269 =>
    need (x1269.Wait.length + y1257.length ≤ 9223372036854775807) <|
    (disk_set_File y1237 y1267 ({ Name := x1269.Name, Safe := x1269.Safe, Wait := (x1269.Wait ++ y1257) } : File)).bind fun y1272 =>
    if (decide ((y1257.length : Int) < (s.length : Int))) then
      some (({ Files := y1272, Room := (IntKind.i64.wrap (d.Room - (y1257.length : Int))), Fuse := (if (decide (d.Fuse ≥ 0)) then (IntKind.i64.wrap (d.Fuse - (y1257.length : Int))) else d.Fuse), Off := true } : Disk), 6)
    else
      some (({ Files := y1272, Room := (IntKind.i64.wrap (d.Room - (y1257.length : Int))), Fuse := (if (decide (d.Fuse ≥ 0)) then (IntKind.i64.wrap (d.Fuse - (y1257.length : Int))) else d.Fuse), Off := d.Off } : Disk), 0)
def gm_disk_Append : Gm := ⟨tys, [], [(63, 55, 3)], []⟩
theorem disk_Append_walk (d : Disk) (name : Str) (s : Str) (r : Disk × Int) (h : disk_Append d name s = some r) : PureP Try.prog 48 [.agg [.sl (List.map encFile d.Files), .v (.int .i64 d.Room), .v (.int .i64 d.Fuse), .v (.bool d.Off)], .v (.string (bs name)), .v (.string (bs s))] (fun a => a = .tup [.agg [.sl (List.map encFile r.1.Files), .v (.int .i64 r.1.Room), .v (.int .i64 r.1.Fuse), .v (.bool r.1.Off)], .v (.int .i64 r.2)]) := by
  unfold disk_Append at h
  refine pureW (G := gm_disk_Append) tyOk Try.func48 rfl (by kernel_rfl) (by simp [Try.f48]) ?_
  refine Tri.seqK ?_
  refine Tri.run (G := gm_disk_Append) tyOk mixed ?_
  conv => whnf
  refine Tri.seqK ?_
  refine Tri.run (G := gm_disk_Append) tyOk mixed ?_
  conv => whnf
  replace h := bind_some h
  obtain ⟨y1, q2, h⟩ := h
  refine PureP.mono (disk_Find_walk d name y1 q2) ?_
  rintro _ rfl
  conv => whnf
  refine Tri.seqK ?_
  refine Tri.block ?_
  refine Tri.seqK ?_
  refine Tri.block ?_
  refine Tri.seqK ?_
  replace h := bind_some h
  obtain ⟨y1124, q1125, h⟩ := h
  refine Tri.cut (fun ex S' => (∃ v1126 : Unit, y1124 = (.inl v1126) ∧ ex = .normal ∧ Weak S' ⟨118, 0, ofRegs [(3, .ptr 0 0), (6, .ptr 1 0)], [.var 24 [.sl (List.map encFile d.Files), .v (.int .i64 d.Room), .v (.int .i64 d.Fuse), .v (.bool d.Off)], .var 24 [.v (.slice none 0 0), .v (.int .i64 0), .v (.int .i64 0), .v (.bool false)]]⟩) ∨ (∃ v1127 : Int, y1124 = (.inr (.inl v1127)) ∧ ex = .ret ∧ Weak S' ⟨118, 0, ofRegs [(6, .ptr 1 0), (7, .v (.int .i64 v1127))], [.gone, .var 24 [.sl (List.map encFile d.Files), .v (.int .i64 d.Room), .v (.int .i64 d.Fuse), .v (.bool d.Off)]]⟩) ∨ (∃ v1128 : Unit, y1124 = (.inr (.inr (.inl v1128))) ∧ ex = (.exit 5) ∧ Weak S' ⟨118, 0, ofRegs [(3, .ptr 0 0), (6, .ptr 1 0)], [.var 24 [.sl (List.map encFile d.Files), .v (.int .i64 d.Room), .v (.int .i64 d.Fuse), .v (.bool d.Off)], .var 24 [.v (.slice none 0 0), .v (.int .i64 0), .v (.int .i64 0), .v (.bool false)]]⟩) ∨ (∃ v1129 : Unit, y1124 = (.inr (.inr (.inr v1129))) ∧ ex = (.exit 0) ∧ Weak S' ⟨118, 0, ofRegs [(1, .v (.string (bs name))), (2, .v (.string (bs s))), (3, .ptr 0 0), (6, .ptr 1 0), (8, .ptr 2 0), (9, .v (.bool y1.2))], [.var 24 [.sl (List.map encFile d.Files), .v (.int .i64 d.Room), .v (.int .i64 d.Fuse), .v (.bool d.Off)], .var 24 [.v (.slice none 0 0), .v (.int .i64 0), .v (.int .i64 0), .v (.bool false)], .var 55 [.v (.string (bs y1.1.Name)), .v (.string (bs y1.1.Safe)), .v (.string (bs y1.1.Wait))]]⟩)) ?_ ?_
  · refine Tri.block ?_
    refine Tri.block ?_
    refine Tri.seqK ?_
    refine Tri.block ?_
    refine Tri.seqK ?_
    refine Tri.block ?_
    refine Tri.seqK ?_
    refine Tri.seqK ?_
    refine Tri.seqK ?_
    refine Tri.run (G := gm_disk_Append) tyOk mixed ?_
    conv => whnf
    refine Tri.cond rfl (fun c1206 => ?_) (fun c1206 => ?_)
    · replace q1125 := if_t c1206 q1125
      refine Tri.run (G := gm_disk_Append) tyOk mixed ?_
      conv => whnf
      refine Tri.seqK ?_
      refine Tri.seqK ?_
      refine Tri.run (G := gm_disk_Append) tyOk mixed ?_
      conv => whnf
      refine Tri.run (G := gm_disk_Append) tyOk mixed ?_
      conv => whnf
      obtain rfl := Option.some.inj q1125
      exact Or.inr (Or.inl ⟨_, rfl, rfl, weak_fin _ rfl rfl rfl (.cons (.gone) (.cons (.same rfl) (LeH.rest))) (.cons (.one (.same rfl)) (.cons (.one (.same rfl)) (.nil))) rfl rfl⟩)
    · replace q1125 := if_f c1206 q1125
      refine Tri.run (G := gm_disk_Append) tyOk mixed ?_
      conv => whnf
      refine Tri.seqK ?_
      refine Tri.seqK ?_
      refine Tri.run (G := gm_disk_Append) tyOk mixed ?_
      conv => whnf
      replace q1125 := bind_some q1125
      obtain ⟨y1210, q1211, q1125⟩ := q1125
      refine PureP.mono (disk_named_walk name y1210 q1211) ?_
      rintro _ rfl
      conv => whnf
      refine Tri.cond rfl (fun c1212 => ?_) (fun c1212 => ?_)
      · replace q1125 := if_t c1212 q1125
        refine Tri.run (G := gm_disk_Append) tyOk mixed ?_
        conv => whnf
        refine Tri.seqK ?_
        refine Tri.seqK ?_
        refine Tri.run (G := gm_disk_Append) tyOk mixed ?_
        conv => whnf
        refine Tri.run (G := gm_disk_Append) tyOk mixed ?_
        conv => whnf
        obtain rfl := Option.some.inj q1125
        exact Or.inr (Or.inl ⟨_, rfl, rfl, weak_fin _ rfl rfl rfl (.cons (.gone) (.cons (.same rfl) (LeH.rest))) (.cons (.one (.same rfl)) (.cons (.one (.same rfl)) (.nil))) rfl rfl⟩)
      · replace q1125 := if_f c1212 q1125
        refine Tri.run (G := gm_disk_Append) tyOk mixed ?_
        conv => whnf
        refine Tri.seqK ?_
        refine Tri.seqK ?_
        refine Tri.cut (fun ex S' => ex = .normal ∧ Weak S' ⟨118, 0, ofRegs [(1, .v (.string (bs name))), (2, .v (.string (bs s))), (3, .ptr 0 0), (6, .ptr 1 0), (8, .ptr 2 0), (9, .v (.bool y1.2)), (25, .v (.bool ((!y1.2) && (decide ((d.Files.length : Int) ≥ 64)))))], [.var 24 [.sl (List.map encFile d.Files), .v (.int .i64 d.Room), .v (.int .i64 d.Fuse), .v (.bool d.Off)], .var 24 [.v (.slice none 0 0), .v (.int .i64 0), .v (.int .i64 0), .v (.bool false)], .var 55 [.v (.string (bs y1.1.Name)), .v (.string (bs y1.1.Safe)), .v (.string (bs y1.1.Wait))]]⟩) ?_ ?_
        · refine Tri.run (G := gm_disk_Append) tyOk mixed ?_
          conv => whnf
          refine cond_mk (fun c1222 => ?_) (fun c1222 => ?_)
          · replace c1222 : (!y1.2) = true := c1222
            conv => whnf
            refine ⟨⟨(d.Files.length : Int), (len_map _ _).symm, ?_⟩⟩
            conv => whnf
            exact ⟨rfl, weak_fin _ rfl rfl rfl (.cons (.same rfl) (.cons (.same rfl) (.cons (.same rfl) (LeH.rest)))) (.cons (.one (.same rfl)) (.cons (.one (.same rfl)) (.cons (.one (.same rfl)) (.cons (.one (.same rfl)) (.cons (.one (.same rfl)) (.cons (.one (.same rfl)) (.cons (.one (.same (show (.v (.bool (decide ((d.Files.length : Int) ≥ 64))) : AV) = (.v (.bool ((!y1.2) && (decide ((d.Files.length : Int) ≥ 64)))) : AV) from by first | (simp [c1222]; done) | simp only [c1222, Bool.or_true, Bool.true_or, Bool.false_or, Bool.or_false, Bool.and_true, Bool.true_and, Bool.and_false, Bool.false_and, Bool.not_true, Bool.not_false, if_true, if_false, Bool.false_eq_true]))) (.nil)))))))) rfl rfl⟩
          · replace c1222 : (!y1.2) = false := c1222
            conv => whnf
            exact ⟨rfl, weak_fin _ rfl rfl rfl (.cons (.same rfl) (.cons (.same rfl) (.cons (.same rfl) (LeH.rest)))) (.cons (.one (.same rfl)) (.cons (.one (.same rfl)) (.cons (.one (.same rfl)) (.cons (.one (.same rfl)) (.cons (.one (.same rfl)) (.cons (.one (.same rfl)) (.cons (.one (.same (show (.v (.bool false) : AV) = (.v (.bool ((!y1.2) && (decide ((d.Files.length : Int) ≥ 64)))) : AV) from by first | (simp [c1222]; done) | simp only [c1222, Bool.or_true, Bool.true_or, Bool.false_or, Bool.or_false, Bool.and_true, Bool.true_and, Bool.and_false, Bool.false_and, Bool.not_true, Bool.not_false, if_true, if_false, Bool.false_eq_true]))) (.nil)))))))) rfl rfl⟩
        · rintro ex S' ⟨rfl, w1223⟩
          conv => whnf
          refine Tri.weak w1223 ?_
          refine Tri.cond rfl (fun c1224 => ?_) (fun c1224 => ?_)
          · replace q1125 := if_t c1224 q1125
            refine Tri.run (G := gm_disk_Append) tyOk mixed ?_
            conv => whnf
            obtain rfl := Option.some.inj q1125
            exact Or.inl ⟨_, rfl, rfl, weak_fin _ rfl rfl rfl (.cons (.same rfl) (.cons (.same rfl) (LeH.rest))) (.cons (.one (.same rfl)) (.cons (.one (.same rfl)) (.nil))) rfl rfl⟩
          · replace q1125 := if_f c1224 q1125
            refine Tri.run (G := gm_disk_Append) tyOk mixed ?_
            conv => whnf
            refine Tri.seqK ?_
            refine Tri.seqK ?_
            refine Tri.run (G := gm_disk_Append) tyOk mixed ?_
            conv => whnf
            refine ⟨⟨(s.length : Int), rfl, ?_⟩⟩
            conv => whnf
            refine Tri.cond rfl (fun c1226 => ?_) (fun c1226 => ?_)
            · replace q1125 := if_t c1226 q1125
              refine Tri.run (G := gm_disk_Append) tyOk mixed ?_
              conv => whnf
              obtain rfl := Option.some.inj q1125
              exact Or.inl ⟨_, rfl, rfl, weak_fin _ rfl rfl rfl (.cons (.same rfl) (.cons (.same rfl) (LeH.rest))) (.cons (.one (.same rfl)) (.cons (.one (.same rfl)) (.nil))) rfl rfl⟩
            · replace q1125 := if_f c1226 q1125
              refine Tri.run (G := gm_disk_Append) tyOk mixed ?_
              conv => whnf
              refine Tri.seqK ?_
              refine Tri.run (G := gm_disk_Append) tyOk mixed ?_
              conv => whnf
              replace q1125 := bind_some q1125
              obtain ⟨y1227, q1228, q1125⟩ := q1125
              refine PureP.mono (disk_size_walk y1.1 y1227 q1228) ?_
              rintro _ rfl
              conv => whnf
              refine ⟨⟨(s.length : Int), rfl, ?_⟩⟩
              conv => whnf
              refine Tri.cond rfl (fun c1229 => ?_) (fun c1229 => ?_)
              · replace q1125 := if_t c1229 q1125
                refine Tri.run (G := gm_disk_Append) tyOk mixed ?_
                conv => whnf
                obtain rfl := Option.some.inj q1125
                exact Or.inr (Or.inr (Or.inl ⟨_, rfl, rfl, weak_fin _ rfl rfl rfl (.cons (.same rfl) (.cons (.same rfl) (LeH.rest))) (.cons (.one (.same rfl)) (.cons (.one (.same rfl)) (.nil))) rfl rfl⟩))
              · replace q1125 := if_f c1229 q1125
                refine Tri.run (G := gm_disk_Append) tyOk mixed ?_
                conv => whnf
                refine Tri.run (G := gm_disk_Append) tyOk mixed ?_
                conv => whnf
                obtain rfl := Option.some.inj q1125
                exact Or.inr (Or.inr (Or.inr (⟨_, rfl, rfl, weak_fin _ rfl rfl rfl (.cons (.same rfl) (.cons (.same rfl) (.cons (.same rfl) (LeH.rest)))) (.cons (.one (.same rfl)) (.cons (.one (.same rfl)) (.cons (.one (.same rfl)) (.cons (.one (.same rfl)) (.cons (.one (.same rfl)) (.cons (.one (.same rfl)) (.nil))))))) rfl rfl⟩)))
  · rintro ex S' (⟨v1126, rfl, rfl, w1230⟩ | ⟨v1127, rfl, rfl, w1230⟩ | ⟨v1128, rfl, rfl, w1230⟩ | ⟨v1129, rfl, rfl, w1230⟩)
    · dsimp only at h
      conv => whnf
      refine Tri.weak w1230 ?_
      refine Tri.seqK ?_
      refine Tri.seqK ?_
      refine Tri.run (G := gm_disk_Append) tyOk mixed ?_
      conv => whnf
      refine Tri.run (G := gm_disk_Append) tyOk mixed ?_
      conv => whnf
      refine fin_here ?_
      conv => whnf
      obtain rfl := Option.some.inj h
      rfl
    · dsimp only at h
      conv => whnf
      refine fin_pre w1230 ?_
      conv => whnf
      obtain rfl := Option.some.inj h
      rfl
    · dsimp only at h
      conv => whnf
      refine Tri.weak w1230 ?_
      refine Tri.seqK ?_
      refine Tri.seqK ?_
      refine Tri.run (G := gm_disk_Append) tyOk mixed ?_
      conv => whnf
      refine Tri.run (G := gm_disk_Append) tyOk mixed ?_
      conv => whnf
      refine fin_here ?_
      conv => whnf
      obtain rfl := Option.some.inj h
      rfl
    · dsimp only at h
      conv => whnf
      refine Tri.weak w1230 ?_
      refine Tri.seqK ?_
      replace h := bind_some h
      obtain ⟨y1237, q1238, h⟩ := h
      refine Tri.cut (fun ex S' => ex = .normal ∧ Weak S' ⟨118, 0, ofRegs [(1, .v (.string (bs name))), (2, .v (.string (bs s))), (3, .ptr 0 0), (6, .ptr 1 0), (8, .ptr 2 0)], [.var 24 [.sl (List.map encFile y1237), .v (.int .i64 d.Room), .v (.int .i64 d.Fuse), .v (.bool d.Off)], .var 24 [.v (.slice none 0 0), .v (.int .i64 0), .v (.int .i64 0), .v (.bool false)], .var 55 [.v (.string (bs y1.1.Name)), .v (.string (bs y1.1.Safe)), .v (.string (bs y1.1.Wait))]]⟩) ?_ ?_
      · refine Tri.seqK ?_
        refine Tri.run (G := gm_disk_Append) tyOk mixed ?_
        conv => whnf
        refine Tri.cond rfl (fun c1239 => ?_) (fun c1239 => ?_)
        · replace q1238 := if_t c1239 q1238
          refine Tri.run (G := gm_disk_Append) tyOk mixed ?_
          conv => whnf
          replace q1238 := need_some q1238
          obtain ⟨p1240, q1238⟩ := q1238
          refine FreshP.mono (clone_63 d.Files p1240) ?_
          rintro _ rfl
          conv => whnf
          refine ⟨⟨List.map encFile [({ Name := name, Safe := [], Wait := [] } : File)], rfl, ?_⟩⟩
          conv => whnf
          refine ⟨rfl, ?_⟩
          conv => whnf
          refine ⟨rfl, ?_⟩
          conv => whnf
          replace q1238 := need_some q1238
          obtain ⟨p1241, q1238⟩ := q1238
          refine ⟨by simp only [List.length_map]; exact p1241, ?_⟩
          conv => whnf
          refine ⟨⟨List.map encFile (d.Files ++ [({ Name := name, Safe := [], Wait := [] } : File)]), map_app encFile _ _ rfl rfl, ?_⟩⟩
          conv => whnf
          obtain rfl := Option.some.inj q1238
          exact ⟨rfl, Weak.trans (weak_freeze 3 rfl) (weak_fin _ rfl rfl rfl (.cons (.var (.cons (.frz rfl rfl) (.cons (.same rfl) (.cons (.same rfl) (.cons (.same rfl) (.nil)))))) (.cons (.same rfl) (.cons (.same rfl) (LeH.rest)))) (.cons (.one (.same rfl)) (.cons (.one (.same rfl)) (.cons (.one (.same rfl)) (.cons (.one (.same rfl)) (.cons (.one (.same rfl)) (.nil)))))) rfl rfl)⟩
        · replace q1238 := if_f c1239 q1238
          refine Tri.run (G := gm_disk_Append) tyOk mixed ?_
          conv => whnf
          obtain rfl := Option.some.inj q1238
          exact ⟨rfl, weak_fin _ rfl rfl rfl (.cons (.same rfl) (.cons (.same rfl) (.cons (.same rfl) (LeH.rest)))) (.cons (.one (.same rfl)) (.cons (.one (.same rfl)) (.cons (.one (.same rfl)) (.cons (.one (.same rfl)) (.cons (.one (.same rfl)) (.nil)))))) rfl rfl⟩
      · rintro ex S' ⟨rfl, w1242⟩
        conv => whnf
        refine Tri.weak w1242 ?_
        refine Tri.seqK ?_
        refine Tri.run (G := gm_disk_Append) tyOk mixed ?_
        conv => whnf
        refine Tri.seqK ?_
        replace h := bind_some h
        obtain ⟨y1257, q1258, h⟩ := h
        refine Tri.cut (fun ex S' => ex = .normal ∧ Weak S' ⟨118, 0, ofRegs [(1, .v (.string (bs name))), (2, .v (.string (bs s))), (3, .ptr 0 0), (6, .ptr 1 0), (8, .ptr 2 0), (10, .v (.string (bs y1257)))], [.var 24 [.sl (List.map encFile y1237), .v (.int .i64 d.Room), .v (.int .i64 d.Fuse), .v (.bool d.Off)], .var 24 [.v (.slice none 0 0), .v (.int .i64 0), .v (.int .i64 0), .v (.bool false)], .var 55 [.v (.string (bs y1.1.Name)), .v (.string (bs y1.1.Safe)), .v (.string (bs y1.1.Wait))]]⟩) ?_ ?_
        · refine Tri.seqK ?_
          refine Tri.cut (fun ex S' => ex = .normal ∧ Weak S' ⟨118, 0, ofRegs [(1, .v (.string (bs name))), (2, .v (.string (bs s))), (3, .ptr 0 0), (6, .ptr 1 0), (8, .ptr 2 0), (10, .v (.string (bs s))), (71, .v (.bool ((decide (d.Fuse ≥ 0)) && (decide (d.Fuse < (s.length : Int))))))], [.var 24 [.sl (List.map encFile y1237), .v (.int .i64 d.Room), .v (.int .i64 d.Fuse), .v (.bool d.Off)], .var 24 [.v (.slice none 0 0), .v (.int .i64 0), .v (.int .i64 0), .v (.bool false)], .var 55 [.v (.string (bs y1.1.Name)), .v (.string (bs y1.1.Safe)), .v (.string (bs y1.1.Wait))]]⟩) ?_ ?_
          · refine Tri.run (G := gm_disk_Append) tyOk mixed ?_
            conv => whnf
            refine cond_mk (fun c1262 => ?_) (fun c1262 => ?_)
            · replace c1262 : (decide (d.Fuse ≥ 0)) = true := c1262
              conv => whnf
              refine ⟨⟨(s.length : Int), rfl, ?_⟩⟩
              conv => whnf
              exact ⟨rfl, weak_fin _ rfl rfl rfl (.cons (.same rfl) (.cons (.same rfl) (.cons (.same rfl) (LeH.rest)))) (.cons (.one (.same rfl)) (.cons (.one (.same rfl)) (.cons (.one (.same rfl)) (.cons (.one (.same rfl)) (.cons (.one (.same rfl)) (.cons (.one (.same rfl)) (.cons (.one (.same (show (.v (.bool (decide (d.Fuse < (s.length : Int)))) : AV) = (.v (.bool ((decide (d.Fuse ≥ 0)) && (decide (d.Fuse < (s.length : Int))))) : AV) from by first | (simp [c1262]; done) | simp only [c1262, Bool.or_true, Bool.true_or, Bool.false_or, Bool.or_false, Bool.and_true, Bool.true_and, Bool.and_false, Bool.false_and, Bool.not_true, Bool.not_false, if_true, if_false, Bool.false_eq_true]))) (.nil)))))))) rfl rfl⟩
            · replace c1262 : (decide (d.Fuse ≥ 0)) = false := c1262
              conv => whnf
              exact ⟨rfl, weak_fin _ rfl rfl rfl (.cons (.same rfl) (.cons (.same rfl) (.cons (.same rfl) (LeH.rest)))) (.cons (.one (.same rfl)) (.cons (.one (.same rfl)) (.cons (.one (.same rfl)) (.cons (.one (.same rfl)) (.cons (.one (.same rfl)) (.cons (.one (.same rfl)) (.cons (.one (.same (show (.v (.bool false) : AV) = (.v (.bool ((decide (d.Fuse ≥ 0)) && (decide (d.Fuse < (s.length : Int))))) : AV) from by first | (simp [c1262]; done) | simp only [c1262, Bool.or_true, Bool.true_or, Bool.false_or, Bool.or_false, Bool.and_true, Bool.true_and, Bool.and_false, Bool.false_and, Bool.not_true, Bool.not_false, if_true, if_false, Bool.false_eq_true]))) (.nil)))))))) rfl rfl⟩
          · rintro ex S' ⟨rfl, w1263⟩
            conv => whnf
            refine Tri.weak w1263 ?_
            refine Tri.cond rfl (fun c1264 => ?_) (fun c1264 => ?_)
            · replace q1258 := if_t c1264 q1258
              refine Tri.run (G := gm_disk_Append) tyOk mixed ?_
              conv => whnf
              replace q1258 := need_some q1258
              obtain ⟨p1265, q1258⟩ := q1258
              refine ⟨p1265, ?_⟩
              conv => whnf
              refine ⟨⟨bs (cut s 0 d.Fuse), bs_cut _ _ _, ?_⟩⟩
              conv => whnf
              obtain rfl := Option.some.inj q1258
              exact ⟨rfl, weak_fin _ rfl rfl rfl (.cons (.same rfl) (.cons (.same rfl) (.cons (.same rfl) (LeH.rest)))) (.cons (.one (.same rfl)) (.cons (.one (.same rfl)) (.cons (.one (.same rfl)) (.cons (.one (.same rfl)) (.cons (.one (.same rfl)) (.cons (.one (.same rfl)) (.nil))))))) rfl rfl⟩
            · replace q1258 := if_f c1264 q1258
              refine Tri.run (G := gm_disk_Append) tyOk mixed ?_
              conv => whnf
              obtain rfl := Option.some.inj q1258
              exact ⟨rfl, weak_fin _ rfl rfl rfl (.cons (.same rfl) (.cons (.same rfl) (.cons (.same rfl) (LeH.rest)))) (.cons (.one (.same rfl)) (.cons (.one (.same rfl)) (.cons (.one (.same rfl)) (.cons (.one (.same rfl)) (.cons (.one (.same rfl)) (.cons (.one (.same rfl)) (.nil))))))) rfl rfl⟩
        · rintro ex S' ⟨rfl, w1266⟩
          conv => whnf
          refine Tri.weak w1266 ?_
          refine Tri.seqK ?_
          refine Tri.run (G := gm_disk_Append) tyOk mixed ?_
          conv => whnf
          replace h := bind_some h
          obtain ⟨y1267, q1268, h⟩ := h
          refine PureP.mono (disk_at_walk ({ Files := y1237, Room := d.Room, Fuse := d.Fuse, Off := d.Off } : Disk) name y1267 q1268) ?_
          rintro _ rfl
          conv => whnf
          refine Tri.seqK ?_
          refine Tri.run (G := gm_disk_Append) tyOk mixed ?_
          conv => whnf
          replace h := bind_some h
          obtain ⟨x1269, q1270, h⟩ := h
          refine ⟨(ix_some q1270).1, ?_⟩
          conv => whnf
          refine ⟨⟨_, map_get encFile (ix_some q1270).2, ?_⟩⟩
          conv => whnf
          refine ⟨rfl, ?_⟩
          conv => whnf
          refine Tri.seqK ?_
          refine Tri.run (G := gm_disk_Append) tyOk mixed ?_
          conv => whnf
          replace h := need_some h
          obtain ⟨p1271, h⟩ := h
          refine ⟨p1271, ?_⟩
          conv => whnf
          refine ⟨⟨bs (x1269.Wait ++ y1257), bs_append _ _, ?_⟩⟩
          conv => whnf
          refine Tri.seqK ?_
          refine Tri.run (G := gm_disk_Append) tyOk mixed ?_
          conv => whnf
          replace h := bind_some h
          obtain ⟨y1272, q1273, h⟩ := h
          refine PureP.mono (disk_set_File_walk y1237 y1267 ({ Name := x1269.Name, Safe := x1269.Safe, Wait := (x1269.Wait ++ y1257) } : File) y1272 q1273) ?_
          rintro _ rfl
          conv => whnf
          refine Tri.seqK ?_
          refine Tri.run (G := gm_disk_Append) tyOk mixed ?_
          conv => whnf
          refine ⟨⟨(y1257.length : Int), rfl, ?_⟩⟩
          conv => whnf
          refine Tri.seqK ?_
          refine Tri.cut (fun ex S' => ex = .normal ∧ Weak S' ⟨118, 0, ofRegs [(2, .v (.string (bs s))), (3, .ptr 0 0), (6, .ptr 1 0), (10, .v (.string (bs y1257)))], [.var 24 [.sl (List.map encFile y1272), .v (.int .i64 (IntKind.i64.wrap (d.Room - (y1257.length : Int)))), .v (.int .i64 (if (decide (d.Fuse ≥ 0)) then (IntKind.i64.wrap (d.Fuse - (y1257.length : Int))) else d.Fuse)), .v (.bool d.Off)], .var 24 [.v (.slice none 0 0), .v (.int .i64 0), .v (.int .i64 0), .v (.bool false)]]⟩) ?_ ?_
          · refine Tri.seqK ?_
            refine Tri.run (G := gm_disk_Append) tyOk mixed ?_
            conv => whnf
            refine Tri.cond rfl (fun c1277 => ?_) (fun c1277 => ?_)
            · replace c1277 : (decide (d.Fuse ≥ 0)) = true := c1277
              refine Tri.run (G := gm_disk_Append) tyOk mixed ?_
              conv => whnf
              refine ⟨⟨(y1257.length : Int), rfl, ?_⟩⟩
              conv => whnf
              exact ⟨rfl, weak_fin _ rfl rfl rfl (.cons (.var (.cons (.same rfl) (.cons (.same rfl) (.cons (.same (show (.v (.int .i64 (IntKind.i64.wrap (d.Fuse - (y1257.length : Int)))) : AV) = (.v (.int .i64 (if (decide (d.Fuse ≥ 0)) then (IntKind.i64.wrap (d.Fuse - (y1257.length : Int))) else d.Fuse)) : AV) from by first | (simp [c1277]; done) | simp only [c1277, Bool.or_true, Bool.true_or, Bool.false_or, Bool.or_false, Bool.and_true, Bool.true_and, Bool.and_false, Bool.false_and, Bool.not_true, Bool.not_false, if_true, if_false, Bool.false_eq_true])) (.cons (.same rfl) (.nil)))))) (.cons (.same rfl) (LeH.rest))) (.cons (.one (.same rfl)) (.cons (.one (.same rfl)) (.cons (.one (.same rfl)) (.cons (.one (.same rfl)) (.nil))))) rfl rfl⟩
            · replace c1277 : (decide (d.Fuse ≥ 0)) = false := c1277
              refine Tri.run (G := gm_disk_Append) tyOk mixed ?_
              conv => whnf
              exact ⟨rfl, weak_fin _ rfl rfl rfl (.cons (.var (.cons (.same rfl) (.cons (.same rfl) (.cons (.same (show (.v (.int .i64 d.Fuse) : AV) = (.v (.int .i64 (if (decide (d.Fuse ≥ 0)) then (IntKind.i64.wrap (d.Fuse - (y1257.length : Int))) else d.Fuse)) : AV) from by first | (simp [c1277]; done) | simp only [c1277, Bool.or_true, Bool.true_or, Bool.false_or, Bool.or_false, Bool.and_true, Bool.true_and, Bool.and_false, Bool.false_and, Bool.not_true, Bool.not_false, if_true, if_false, Bool.false_eq_true])) (.cons (.same rfl) (.nil)))))) (.cons (.same rfl) (LeH.rest))) (.cons (.one (.same rfl)) (.cons (.one (.same rfl)) (.cons (.one (.same rfl)) (.cons (.one (.same rfl)) (.nil))))) rfl rfl⟩
          · rintro ex S' ⟨rfl, w1278⟩
            conv => whnf
            refine Tri.weak w1278 ?_
            refine Tri.seqK ?_
            refine Tri.seqK ?_
            refine Tri.run (G := gm_disk_Append) tyOk mixed ?_
            conv => whnf
            refine ⟨⟨(y1257.length : Int), rfl, ?_⟩⟩
            conv => whnf
            refine ⟨⟨(s.length : Int), rfl, ?_⟩⟩
            conv => whnf
            refine Tri.cond rfl (fun c1280 => ?_) (fun c1280 => ?_)
            · replace h := if_t c1280 h
              refine Tri.seqK ?_
              refine Tri.run (G := gm_disk_Append) tyOk mixed ?_
              conv => whnf
              refine Tri.seqK ?_
              refine Tri.run (G := gm_disk_Append) tyOk mixed ?_
              conv => whnf
              refine Tri.run (G := gm_disk_Append) tyOk mixed ?_
              conv => whnf
              refine fin_here ?_
              conv => whnf
              obtain rfl := Option.some.inj h
              rfl
            · replace h := if_f c1280 h
              refine Tri.run (G := gm_disk_Append) tyOk mixed ?_
              conv => whnf
              refine Tri.seqK ?_
              refine Tri.run (G := gm_disk_Append) tyOk mixed ?_
              conv => whnf
              refine Tri.run (G := gm_disk_Append) tyOk mixed ?_
              conv => whnf
              refine fin_here ?_
              conv => whnf
              obtain rfl := Option.some.inj h
              rfl
noncomputable def disk_Sync (d : Disk) (name : Str) : Option (Disk × Int) :=
  (disk_at d name).bind fun y1 =>
  if d.Off then
    some (d, 6)
  else
    if (decide (y1 < 0)) then
      some (d, 7)
    else
      (ix d.Files y1).bind fun x7 =>
      need (x7.Safe.length + x7.Wait.length ≤ 9223372036854775807) <|
      (disk_set_File d.Files y1 ({ Name := x7.Name, Safe := (x7.Safe ++ x7.Wait), Wait := [] } : File)).bind fun y10 =>
      some (({ Files := y10, Room := d.Room, Fuse := d.Fuse, Off := d.Off } : Disk), 0)
def gm_disk_Sync : Gm := ⟨tys, [], [], []⟩
theorem disk_Sync_walk (d : Disk) (name : Str) (r : Disk × Int) (h : disk_Sync d name = some r) : PureP Try.prog 49 [.agg [.sl (List.map encFile d.Files), .v (.int .i64 d.Room), .v (.int .i64 d.Fuse), .v (.bool d.Off)], .v (.string (bs name))] (fun a => a = .tup [.agg [.sl (List.map encFile r.1.Files), .v (.int .i64 r.1.Room), .v (.int .i64 r.1.Fuse), .v (.bool r.1.Off)], .v (.int .i64 r.2)]) := by
  unfold disk_Sync at h
  refine pureW (G := gm_disk_Sync) tyOk Try.func49 rfl (by kernel_rfl) (by simp [Try.f49]) ?_
  refine Tri.seqK ?_
  refine Tri.run (G := gm_disk_Sync) tyOk mixed ?_
  conv => whnf
  refine Tri.seqK ?_
  refine Tri.run (G := gm_disk_Sync) tyOk mixed ?_
  conv => whnf
  replace h := bind_some h
  obtain ⟨y1, q2, h⟩ := h
  refine PureP.mono (disk_at_walk d name y1 q2) ?_
  rintro _ rfl
  conv => whnf
  refine Tri.seqK ?_
  refine Tri.block ?_
  refine Tri.seqK ?_
  refine Tri.run (G := gm_disk_Sync) tyOk mixed ?_
  conv => whnf
  refine Tri.cond rfl (fun c5 => ?_) (fun c5 => ?_)
  · replace h := if_t c5 h
    refine Tri.seqK ?_
    refine Tri.run (G := gm_disk_Sync) tyOk mixed ?_
    conv => whnf
    refine Tri.run (G := gm_disk_Sync) tyOk mixed ?_
    conv => whnf
    refine fin_here ?_
    conv => whnf
    obtain rfl := Option.some.inj h
    rfl
  · replace h := if_f c5 h
    refine Tri.seqK ?_
    refine Tri.run (G := gm_disk_Sync) tyOk mixed ?_
    conv => whnf
    refine Tri.cond rfl (fun c6 => ?_) (fun c6 => ?_)
    · replace h := if_t c6 h
      refine Tri.seqK ?_
      refine Tri.run (G := gm_disk_Sync) tyOk mixed ?_
      conv => whnf
      refine Tri.run (G := gm_disk_Sync) tyOk mixed ?_
      conv => whnf
      refine fin_here ?_
      conv => whnf
      obtain rfl := Option.some.inj h
      rfl
    · replace h := if_f c6 h
      refine Tri.run (G := gm_disk_Sync) tyOk mixed ?_
      conv => whnf
      refine Tri.seqK ?_
      refine Tri.run (G := gm_disk_Sync) tyOk mixed ?_
      conv => whnf
      replace h := bind_some h
      obtain ⟨x7, q8, h⟩ := h
      refine ⟨(ix_some q8).1, ?_⟩
      conv => whnf
      refine ⟨⟨_, map_get encFile (ix_some q8).2, ?_⟩⟩
      conv => whnf
      refine ⟨rfl, ?_⟩
      conv => whnf
      refine Tri.seqK ?_
      refine Tri.run (G := gm_disk_Sync) tyOk mixed ?_
      conv => whnf
      replace h := need_some h
      obtain ⟨p9, h⟩ := h
      refine ⟨p9, ?_⟩
      conv => whnf
      refine ⟨⟨bs (x7.Safe ++ x7.Wait), bs_append _ _, ?_⟩⟩
      conv => whnf
      refine Tri.seqK ?_
      refine Tri.run (G := gm_disk_Sync) tyOk mixed ?_
      conv => whnf
      replace h := bind_some h
      obtain ⟨y10, q11, h⟩ := h
      refine PureP.mono (disk_set_File_walk d.Files y1 ({ Name := x7.Name, Safe := (x7.Safe ++ x7.Wait), Wait := [] } : File) y10 q11) ?_
      rintro _ rfl
      conv => whnf
      refine Tri.seqK ?_
      refine Tri.run (G := gm_disk_Sync) tyOk mixed ?_
      conv => whnf
      refine Tri.run (G := gm_disk_Sync) tyOk mixed ?_
      conv => whnf
      refine fin_here ?_
      conv => whnf
      obtain rfl := Option.some.inj h
      rfl
noncomputable def disk_Rename (d : Disk) (from_ : Str) (to : Str) : Option (Disk × Int) :=
  if d.Off then
    some (d, 6)
  else
    (disk_named to).bind fun y10 =>
    if (!y10) then
      some (d, 1)
    else
      (disk_at d from_).bind fun y13 =>
      if (decide (y13 < 0)) then
        some (d, 7)
      else
        if (decide (from_ = to)) then
          some (d, 0)
        else
          (disk_change d).bind fun y17 =>
          if (!y17.2) then
            some (y17.1, 6)
          else
            (
              (disk_at y17.1 to).bind fun y33 =>
              if (decide (y33 ≥ 0)) then
                (disk_without y17.1 y33).bind fun y36 =>
                some (y36.Files, y36.Room, y36.Fuse, y36.Off)
              else
                some (y17.1.Files, y17.1.Room, y17.1.Fuse, y17.1.Off)).bind fun (y31 : (List File) × Int × Int × Bool) =>
            (disk_at ({ Files := y31.1, Room := y31.2.1, Fuse := y31.2.2.1, Off := y31.2.2.2 } : Disk) from_).bind fun y39 =>
            (ix y31.1 y39).bind fun x41 =>
            (disk_set_File y31.1 y39 ({ Name := to, Safe := x41.Safe, Wait := x41.Wait } : File)).bind fun y43 =>
            some (({ Files := y43, Room := y31.2.1, Fuse := y31.2.2.1, Off := y31.2.2.2 } : Disk), 0)
def gm_disk_Rename : Gm := ⟨tys, [], [], []⟩
theorem disk_Rename_walk (d : Disk) (from_ : Str) (to : Str) (r : Disk × Int) (h : disk_Rename d from_ to = some r) : PureP Try.prog 50 [.agg [.sl (List.map encFile d.Files), .v (.int .i64 d.Room), .v (.int .i64 d.Fuse), .v (.bool d.Off)], .v (.string (bs from_)), .v (.string (bs to))] (fun a => a = .tup [.agg [.sl (List.map encFile r.1.Files), .v (.int .i64 r.1.Room), .v (.int .i64 r.1.Fuse), .v (.bool r.1.Off)], .v (.int .i64 r.2)]) := by
  unfold disk_Rename at h
  refine pureW (G := gm_disk_Rename) tyOk Try.func50 rfl (by kernel_rfl) (by simp [Try.f50]) ?_
  refine Tri.seqK ?_
  refine Tri.run (G := gm_disk_Rename) tyOk mixed ?_
  conv => whnf
  refine Tri.seqK ?_
  refine Tri.block ?_
  refine Tri.seqK ?_
  refine Tri.run (G := gm_disk_Rename) tyOk mixed ?_
  conv => whnf
  refine Tri.cond rfl (fun c9 => ?_) (fun c9 => ?_)
  · replace h := if_t c9 h
    refine Tri.seqK ?_
    refine Tri.run (G := gm_disk_Rename) tyOk mixed ?_
    conv => whnf
    refine Tri.run (G := gm_disk_Rename) tyOk mixed ?_
    conv => whnf
    refine fin_here ?_
    conv => whnf
    obtain rfl := Option.some.inj h
    rfl
  · replace h := if_f c9 h
    refine Tri.seqK ?_
    refine Tri.run (G := gm_disk_Rename) tyOk mixed ?_
    conv => whnf
    replace h := bind_some h
    obtain ⟨y10, q11, h⟩ := h
    refine PureP.mono (disk_named_walk to y10 q11) ?_
    rintro _ rfl
    conv => whnf
    refine Tri.cond rfl (fun c12 => ?_) (fun c12 => ?_)
    · replace h := if_t c12 h
      refine Tri.seqK ?_
      refine Tri.run (G := gm_disk_Rename) tyOk mixed ?_
      conv => whnf
      refine Tri.run (G := gm_disk_Rename) tyOk mixed ?_
      conv => whnf
      refine fin_here ?_
      conv => whnf
      obtain rfl := Option.some.inj h
      rfl
    · replace h := if_f c12 h
      refine Tri.seqK ?_
      refine Tri.run (G := gm_disk_Rename) tyOk mixed ?_
      conv => whnf
      replace h := bind_some h
      obtain ⟨y13, q14, h⟩ := h
      refine PureP.mono (disk_at_walk d from_ y13 q14) ?_
      rintro _ rfl
      conv => whnf
      refine Tri.cond rfl (fun c15 => ?_) (fun c15 => ?_)
      · replace h := if_t c15 h
        refine Tri.seqK ?_
        refine Tri.run (G := gm_disk_Rename) tyOk mixed ?_
        conv => whnf
        refine Tri.run (G := gm_disk_Rename) tyOk mixed ?_
        conv => whnf
        refine fin_here ?_
        conv => whnf
        obtain rfl := Option.some.inj h
        rfl
      · replace h := if_f c15 h
        refine Tri.seqK ?_
        refine Tri.run (G := gm_disk_Rename) tyOk mixed ?_
        conv => whnf
        refine ⟨⟨(decide (from_ = to)), bs_eq _ _, ?_⟩⟩
        conv => whnf
        refine Tri.cond rfl (fun c16 => ?_) (fun c16 => ?_)
        · replace h := if_t c16 h
          refine Tri.seqK ?_
          refine Tri.run (G := gm_disk_Rename) tyOk mixed ?_
          conv => whnf
          refine Tri.run (G := gm_disk_Rename) tyOk mixed ?_
          conv => whnf
          refine fin_here ?_
          conv => whnf
          obtain rfl := Option.some.inj h
          rfl
        · replace h := if_f c16 h
          refine Tri.run (G := gm_disk_Rename) tyOk mixed ?_
          conv => whnf
          refine Tri.seqK ?_
          refine Tri.run (G := gm_disk_Rename) tyOk mixed ?_
          conv => whnf
          replace h := bind_some h
          obtain ⟨y17, q18, h⟩ := h
          refine PureP.mono (disk_change_walk d y17 q18) ?_
          rintro _ rfl
          conv => whnf
          refine Tri.seqK ?_
          refine Tri.seqK ?_
          refine Tri.run (G := gm_disk_Rename) tyOk mixed ?_
          conv => whnf
          refine Tri.cond rfl (fun c20 => ?_) (fun c20 => ?_)
          · replace h := if_t c20 h
            refine Tri.seqK ?_
            refine Tri.run (G := gm_disk_Rename) tyOk mixed ?_
            conv => whnf
            refine Tri.run (G := gm_disk_Rename) tyOk mixed ?_
            conv => whnf
            refine fin_here ?_
            conv => whnf
            obtain rfl := Option.some.inj h
            rfl
          · replace h := if_f c20 h
            refine Tri.run (G := gm_disk_Rename) tyOk mixed ?_
            conv => whnf
            refine Tri.seqK ?_
            replace h := bind_some h
            obtain ⟨y31, q32, h⟩ := h
            refine Tri.cut (fun ex S' => ex = .normal ∧ Weak S' ⟨65, 0, ofRegs [(1, .v (.string (bs from_))), (2, .v (.string (bs to))), (3, .ptr 0 0), (6, .ptr 1 0)], [.var 24 [.sl (List.map encFile y31.1), .v (.int .i64 y31.2.1), .v (.int .i64 y31.2.2.1), .v (.bool y31.2.2.2)], .var 24 [.v (.slice none 0 0), .v (.int .i64 0), .v (.int .i64 0), .v (.bool false)]]⟩) ?_ ?_
            · refine Tri.seqK ?_
              refine Tri.run (G := gm_disk_Rename) tyOk mixed ?_
              conv => whnf
              replace q32 := bind_some q32
              obtain ⟨y33, q34, q32⟩ := q32
              refine PureP.mono (disk_at_walk y17.1 to y33 q34) ?_
              rintro _ rfl
              conv => whnf
              refine Tri.seqK ?_
              refine Tri.run (G := gm_disk_Rename) tyOk mixed ?_
              conv => whnf
              refine Tri.cond rfl (fun c35 => ?_) (fun c35 => ?_)
              · replace q32 := if_t c35 q32
                refine Tri.run (G := gm_disk_Rename) tyOk mixed ?_
                conv => whnf
                replace q32 := bind_some q32
                obtain ⟨y36, q37, q32⟩ := q32
                refine PureP.mono (disk_without_walk y17.1 y33 y36 q37) ?_
                rintro _ rfl
                conv => whnf
                obtain rfl := Option.some.inj q32
                exact ⟨rfl, weak_fin _ rfl rfl rfl (.cons (.same rfl) (.cons (.same rfl) (LeH.rest))) (.cons (.one (.same rfl)) (.cons (.one (.same rfl)) (.cons (.one (.same rfl)) (.cons (.one (.same rfl)) (.nil))))) rfl rfl⟩
              · replace q32 := if_f c35 q32
                refine Tri.run (G := gm_disk_Rename) tyOk mixed ?_
                conv => whnf
                obtain rfl := Option.some.inj q32
                exact ⟨rfl, weak_fin _ rfl rfl rfl (.cons (.same rfl) (.cons (.same rfl) (LeH.rest))) (.cons (.one (.same rfl)) (.cons (.one (.same rfl)) (.cons (.one (.same rfl)) (.cons (.one (.same rfl)) (.nil))))) rfl rfl⟩
            · rintro ex S' ⟨rfl, w38⟩
              conv => whnf
              refine Tri.weak w38 ?_
              refine Tri.seqK ?_
              refine Tri.run (G := gm_disk_Rename) tyOk mixed ?_
              conv => whnf
              replace h := bind_some h
              obtain ⟨y39, q40, h⟩ := h
              refine PureP.mono (disk_at_walk ({ Files := y31.1, Room := y31.2.1, Fuse := y31.2.2.1, Off := y31.2.2.2 } : Disk) from_ y39 q40) ?_
              rintro _ rfl
              conv => whnf
              refine Tri.seqK ?_
              refine Tri.run (G := gm_disk_Rename) tyOk mixed ?_
              conv => whnf
              replace h := bind_some h
              obtain ⟨x41, q42, h⟩ := h
              refine ⟨(ix_some q42).1, ?_⟩
              conv => whnf
              refine ⟨⟨_, map_get encFile (ix_some q42).2, ?_⟩⟩
              conv => whnf
              refine ⟨rfl, ?_⟩
              conv => whnf
              refine Tri.seqK ?_
              refine Tri.run (G := gm_disk_Rename) tyOk mixed ?_
              conv => whnf
              refine Tri.seqK ?_
              refine Tri.run (G := gm_disk_Rename) tyOk mixed ?_
              conv => whnf
              replace h := bind_some h
              obtain ⟨y43, q44, h⟩ := h
              refine PureP.mono (disk_set_File_walk y31.1 y39 ({ Name := to, Safe := x41.Safe, Wait := x41.Wait } : File) y43 q44) ?_
              rintro _ rfl
              conv => whnf
              refine Tri.seqK ?_
              refine Tri.run (G := gm_disk_Rename) tyOk mixed ?_
              conv => whnf
              refine Tri.run (G := gm_disk_Rename) tyOk mixed ?_
              conv => whnf
              refine fin_here ?_
              conv => whnf
              obtain rfl := Option.some.inj h
              rfl
noncomputable def run_Lay (d : Disk) (name : Str) (s : Str) : Option (Disk × Int) :=
  need (([110, 46] : Str).length + name.length ≤ 9223372036854775807) <|
  (
    (disk_Find d ([110, 46] ++ name)).bind fun y20 =>
    if y20.2 then
      (disk_Delete d ([110, 46] ++ name)).bind fun y23 =>
      if (!(decide (y23.2 = 0))) then
        some (.inr (y23.2, y23.1.Files, y23.1.Room, y23.1.Fuse, y23.1.Off))
      else
        some (.inl (y23.1.Files, y23.1.Room, y23.1.Fuse, y23.1.Off))
    else
      some (.inl (d.Files, d.Room, d.Fuse, d.Off))).bind fun (y16 : ((List File) × Int × Int × Bool) ⊕ (Int × (List File) × Int × Int × Bool)) =>
  match y16 with
  | (.inl v18) =>
    (disk_Append ({ Files := v18.1, Room := v18.2.1, Fuse := v18.2.2.1, Off := v18.2.2.2 } : Disk) ([110, 46] ++ name) s).bind fun y28 =>
    if (!(decide (y28.2 = 0))) then
      some (y28.1, y28.2)
    else
      (disk_Sync y28.1 ([110, 46] ++ name)).bind fun y32 =>
      if (!(decide (y32.2 = 0))) then
        some (y32.1, y32.2)
      else
        (disk_Rename y32.1 ([110, 46] ++ name) name).bind fun y36 =>
        some (y36.1, y36.2)
  | (.inr v19) =>
    some (({ Files := v19.2.1, Room := v19.2.2.1, Fuse := v19.2.2.2.1, Off := v19.2.2.2.2 } : Disk), v19.1)
def gm_run_Lay : Gm := ⟨tys, [], [], []⟩
theorem run_Lay_walk (d : Disk) (name : Str) (s : Str) (r : Disk × Int) (h : run_Lay d name s = some r) : PureP Try.prog 34 [.agg [.sl (List.map encFile d.Files), .v (.int .i64 d.Room), .v (.int .i64 d.Fuse), .v (.bool d.Off)], .v (.string (bs name)), .v (.string (bs s))] (fun a => a = .tup [.agg [.sl (List.map encFile r.1.Files), .v (.int .i64 r.1.Room), .v (.int .i64 r.1.Fuse), .v (.bool r.1.Off)], .v (.int .i64 r.2)]) := by
  unfold run_Lay at h
  refine pureW (G := gm_run_Lay) tyOk Try.func34 rfl (by kernel_rfl) (by simp [Try.f34]) ?_
  refine Tri.seqK ?_
  refine Tri.run (G := gm_run_Lay) tyOk mixed ?_
  conv => whnf
  refine Tri.seqK ?_
  refine Tri.run (G := gm_run_Lay) tyOk mixed ?_
  conv => whnf
  replace h := need_some h
  obtain ⟨p1, h⟩ := h
  refine ⟨p1, ?_⟩
  conv => whnf
  refine ⟨⟨bs ([110, 46] ++ name), bs_append _ _, ?_⟩⟩
  conv => whnf
  refine Tri.seqK ?_
  replace h := bind_some h
  obtain ⟨y16, q17, h⟩ := h
  refine Tri.cut (fun ex S' => (∃ v18 : (List File) × Int × Int × Bool, y16 = (.inl v18) ∧ ex = .normal ∧ Weak S' ⟨61, 0, ofRegs [(1, .v (.string (bs name))), (2, .v (.string (bs s))), (3, .ptr 0 0), (6, .ptr 1 0), (8, .v (.string (bs ([110, 46] ++ name))))], [.var 24 [.sl (List.map encFile v18.1), .v (.int .i64 v18.2.1), .v (.int .i64 v18.2.2.1), .v (.bool v18.2.2.2)], .var 24 [.v (.slice none 0 0), .v (.int .i64 0), .v (.int .i64 0), .v (.bool false)]]⟩) ∨ (∃ v19 : Int × (List File) × Int × Int × Bool, y16 = (.inr v19) ∧ ex = .ret ∧ Weak S' ⟨61, 0, ofRegs [(6, .ptr 1 0), (7, .v (.int .i64 v19.1))], [.gone, .var 24 [.sl (List.map encFile v19.2.1), .v (.int .i64 v19.2.2.1), .v (.int .i64 v19.2.2.2.1), .v (.bool v19.2.2.2.2)]]⟩)) ?_ ?_
  · refine Tri.seqK ?_
    refine Tri.run (G := gm_run_Lay) tyOk mixed ?_
    conv => whnf
    replace q17 := bind_some q17
    obtain ⟨y20, q21, q17⟩ := q17
    refine PureP.mono (disk_Find_walk d ([110, 46] ++ name) y20 q21) ?_
    rintro _ rfl
    conv => whnf
    refine Tri.seqK ?_
    refine Tri.run (G := gm_run_Lay) tyOk mixed ?_
    conv => whnf
    refine Tri.cond rfl (fun c22 => ?_) (fun c22 => ?_)
    · replace q17 := if_t c22 q17
      refine Tri.seqK ?_
      refine Tri.run (G := gm_run_Lay) tyOk mixed ?_
      conv => whnf
      replace q17 := bind_some q17
      obtain ⟨y23, q24, q17⟩ := q17
      refine PureP.mono (disk_Delete_walk d ([110, 46] ++ name) y23 q24) ?_
      rintro _ rfl
      conv => whnf
      refine Tri.seqK ?_
      refine Tri.seqK ?_
      refine Tri.run (G := gm_run_Lay) tyOk mixed ?_
      conv => whnf
      refine Tri.cond rfl (fun c26 => ?_) (fun c26 => ?_)
      · replace q17 := if_t c26 q17
        refine Tri.seqK ?_
        refine Tri.run (G := gm_run_Lay) tyOk mixed ?_
        conv => whnf
        refine Tri.run (G := gm_run_Lay) tyOk mixed ?_
        conv => whnf
        obtain rfl := Option.some.inj q17
        exact Or.inr (⟨_, rfl, rfl, weak_fin _ rfl rfl rfl (.cons (.gone) (.cons (.same rfl) (LeH.rest))) (.cons (.one (.same rfl)) (.cons (.one (.same rfl)) (.nil))) rfl rfl⟩)
      · replace q17 := if_f c26 q17
        refine Tri.run (G := gm_run_Lay) tyOk mixed ?_
        conv => whnf
        refine Tri.run (G := gm_run_Lay) tyOk mixed ?_
        conv => whnf
        obtain rfl := Option.some.inj q17
        exact Or.inl ⟨_, rfl, rfl, weak_fin _ rfl rfl rfl (.cons (.same rfl) (.cons (.same rfl) (LeH.rest))) (.cons (.one (.same rfl)) (.cons (.one (.same rfl)) (.cons (.one (.same rfl)) (.cons (.one (.same rfl)) (.cons (.one (.same rfl)) (.nil)))))) rfl rfl⟩
    · replace q17 := if_f c22 q17
      refine Tri.run (G := gm_run_Lay) tyOk mixed ?_
      conv => whnf
      obtain rfl := Option.some.inj q17
      exact Or.inl ⟨_, rfl, rfl, weak_fin _ rfl rfl rfl (.cons (.same rfl) (.cons (.same rfl) (LeH.rest))) (.cons (.one (.same rfl)) (.cons (.one (.same rfl)) (.cons (.one (.same rfl)) (.cons (.one (.same rfl)) (.cons (.one (.same rfl)) (.nil)))))) rfl rfl⟩
  · rintro ex S' (⟨v18, rfl, rfl, w27⟩ | ⟨v19, rfl, rfl, w27⟩)
    · dsimp only at h
      conv => whnf
      refine Tri.weak w27 ?_
      refine Tri.seqK ?_
      refine Tri.run (G := gm_run_Lay) tyOk mixed ?_
      conv => whnf
      replace h := bind_some h
      obtain ⟨y28, q29, h⟩ := h
      refine PureP.mono (disk_Append_walk ({ Files := v18.1, Room := v18.2.1, Fuse := v18.2.2.1, Off := v18.2.2.2 } : Disk) ([110, 46] ++ name) s y28 q29) ?_
      rintro _ rfl
      conv => whnf
      refine Tri.seqK ?_
      refine Tri.seqK ?_
      refine Tri.run (G := gm_run_Lay) tyOk mixed ?_
      conv => whnf
      refine Tri.cond rfl (fun c31 => ?_) (fun c31 => ?_)
      · replace h := if_t c31 h
        refine Tri.seqK ?_
        refine Tri.run (G := gm_run_Lay) tyOk mixed ?_
        conv => whnf
        refine Tri.run (G := gm_run_Lay) tyOk mixed ?_
        conv => whnf
        refine fin_here ?_
        conv => whnf
        obtain rfl := Option.some.inj h
        rfl
      · replace h := if_f c31 h
        refine Tri.run (G := gm_run_Lay) tyOk mixed ?_
        conv => whnf
        refine Tri.seqK ?_
        refine Tri.run (G := gm_run_Lay) tyOk mixed ?_
        conv => whnf
        replace h := bind_some h
        obtain ⟨y32, q33, h⟩ := h
        refine PureP.mono (disk_Sync_walk y28.1 ([110, 46] ++ name) y32 q33) ?_
        rintro _ rfl
        conv => whnf
        refine Tri.seqK ?_
        refine Tri.seqK ?_
        refine Tri.run (G := gm_run_Lay) tyOk mixed ?_
        conv => whnf
        refine Tri.cond rfl (fun c35 => ?_) (fun c35 => ?_)
        · replace h := if_t c35 h
          refine Tri.seqK ?_
          refine Tri.run (G := gm_run_Lay) tyOk mixed ?_
          conv => whnf
          refine Tri.run (G := gm_run_Lay) tyOk mixed ?_
          conv => whnf
          refine fin_here ?_
          conv => whnf
          obtain rfl := Option.some.inj h
          rfl
        · replace h := if_f c35 h
          refine Tri.run (G := gm_run_Lay) tyOk mixed ?_
          conv => whnf
          refine Tri.seqK ?_
          refine Tri.run (G := gm_run_Lay) tyOk mixed ?_
          conv => whnf
          replace h := bind_some h
          obtain ⟨y36, q37, h⟩ := h
          refine PureP.mono (disk_Rename_walk y32.1 ([110, 46] ++ name) name y36 q37) ?_
          rintro _ rfl
          conv => whnf
          refine Tri.run (G := gm_run_Lay) tyOk mixed ?_
          conv => whnf
          refine fin_here ?_
          conv => whnf
          obtain rfl := Option.some.inj h
          rfl
    · dsimp only at h
      conv => whnf
      refine fin_pre w27 ?_
      conv => whnf
      obtain rfl := Option.some.inj h
      rfl
noncomputable def epoch_Next (d : Disk) : Option (Disk × Int × Int) :=
  (epoch_Read d).bind fun y1 =>
  if (!(decide (y1.2 = 0))) then
    (epoch_Next_1 y1.2 d).bind fun y10 =>
    some (y10.1, y10.2.1, y10.2.2)
  else
    if (decide (y1.1 ≥ 1073741824)) then
      (epoch_Next_1 4 d).bind fun y13 =>
      some (y13.1, y13.2.1, y13.2.2)
    else
      (epoch_Bytes (IntKind.i64.wrap (y1.1 + 1))).bind fun y15 =>
      (run_Lay d [101] y15.1).bind fun y17 =>
      if (!(decide (y17.2 = 0))) then
        (epoch_Next_1 y17.2 y17.1).bind fun y23 =>
        some (y23.1, y23.2.1, y23.2.2)
      else
        some (y17.1, (IntKind.i64.wrap (y1.1 + 1)), 0)
def gm_epoch_Next : Gm := ⟨tys, [33], [], []⟩
theorem epoch_Next_walk (d : Disk) (r : Disk × Int × Int) (h : epoch_Next d = some r) : PureP Try.prog 16 [.agg [.sl (List.map encFile d.Files), .v (.int .i64 d.Room), .v (.int .i64 d.Fuse), .v (.bool d.Off)]] (fun a => a = .tup [.agg [.sl (List.map encFile r.1.Files), .v (.int .i64 r.1.Room), .v (.int .i64 r.1.Fuse), .v (.bool r.1.Off)], .v (.int .i64 r.2.1), .v (.int .i64 r.2.2)]) := by
  unfold epoch_Next at h
  refine pureW (G := gm_epoch_Next) tyOk Try.func16 rfl (by kernel_rfl) (by simp [Try.f16]) ?_
  refine Tri.seqK ?_
  refine Tri.run (G := gm_epoch_Next) tyOk mixed ?_
  conv => whnf
  refine Tri.seqK ?_
  refine Tri.run (G := gm_epoch_Next) tyOk mixed ?_
  conv => whnf
  replace h := bind_some h
  obtain ⟨y1, q2, h⟩ := h
  refine PureP.mono (epoch_Read_walk d y1 q2) ?_
  rintro _ rfl
  conv => whnf
  refine Tri.seqK ?_
  refine Tri.run (G := gm_epoch_Next) tyOk mixed ?_
  conv => whnf
  refine Tri.seqK ?_
  refine Tri.block ?_
  refine Tri.seqK ?_
  refine Tri.run (G := gm_epoch_Next) tyOk mixed ?_
  conv => whnf
  refine Tri.cond rfl (fun c9 => ?_) (fun c9 => ?_)
  · replace h := if_t c9 h
    refine Tri.seqK ?_
    refine Tri.run (G := gm_epoch_Next) tyOk mixed ?_
    conv => whnf
    replace h := bind_some h
    obtain ⟨y10, q11, h⟩ := h
    refine CallP.use (epoch_Next_1_walk y1.2 d y10 q11) [0] rfl rfl rfl rfl rfl rfl rfl rfl rfl ?_
    conv => whnf
    refine Tri.run (G := gm_epoch_Next) tyOk mixed ?_
    conv => whnf
    refine fin_here ?_
    conv => whnf
    obtain rfl := Option.some.inj h
    rfl
  · replace h := if_f c9 h
    refine Tri.seqK ?_
    refine Tri.run (G := gm_epoch_Next) tyOk mixed ?_
    conv => whnf
    refine Tri.cond rfl (fun c12 => ?_) (fun c12 => ?_)
    · replace h := if_t c12 h
      refine Tri.seqK ?_
      refine Tri.run (G := gm_epoch_Next) tyOk mixed ?_
      conv => whnf
      replace h := bind_some h
      obtain ⟨y13, q14, h⟩ := h
      refine CallP.use (epoch_Next_1_walk 4 d y13 q14) [0] rfl rfl rfl rfl rfl rfl rfl rfl rfl ?_
      conv => whnf
      refine Tri.run (G := gm_epoch_Next) tyOk mixed ?_
      conv => whnf
      refine fin_here ?_
      conv => whnf
      obtain rfl := Option.some.inj h
      rfl
    · replace h := if_f c12 h
      refine Tri.run (G := gm_epoch_Next) tyOk mixed ?_
      conv => whnf
      refine Tri.seqK ?_
      refine Tri.run (G := gm_epoch_Next) tyOk mixed ?_
      conv => whnf
      replace h := bind_some h
      obtain ⟨y15, q16, h⟩ := h
      refine PureP.mono (epoch_Bytes_walk (IntKind.i64.wrap (y1.1 + 1)) y15 q16) ?_
      rintro _ rfl
      conv => whnf
      refine Tri.seqK ?_
      refine Tri.run (G := gm_epoch_Next) tyOk mixed ?_
      conv => whnf
      replace h := bind_some h
      obtain ⟨y17, q18, h⟩ := h
      refine PureP.mono (run_Lay_walk d [101] y15.1 y17 q18) ?_
      rintro _ rfl
      conv => whnf
      refine Tri.seqK ?_
      refine Tri.seqK ?_
      refine Tri.run (G := gm_epoch_Next) tyOk mixed ?_
      conv => whnf
      refine Tri.cond rfl (fun c22 => ?_) (fun c22 => ?_)
      · replace h := if_t c22 h
        refine Tri.seqK ?_
        refine Tri.run (G := gm_epoch_Next) tyOk mixed ?_
        conv => whnf
        replace h := bind_some h
        obtain ⟨y23, q24, h⟩ := h
        refine CallP.use (epoch_Next_1_walk y17.2 y17.1 y23 q24) [0] rfl rfl rfl rfl rfl rfl rfl rfl rfl ?_
        conv => whnf
        refine Tri.run (G := gm_epoch_Next) tyOk mixed ?_
        conv => whnf
        refine fin_here ?_
        conv => whnf
        obtain rfl := Option.some.inj h
        rfl
      · replace h := if_f c22 h
        refine Tri.run (G := gm_epoch_Next) tyOk mixed ?_
        conv => whnf
        refine Tri.seqK ?_
        refine Tri.run (G := gm_epoch_Next) tyOk mixed ?_
        conv => whnf
        refine Tri.run (G := gm_epoch_Next) tyOk mixed ?_
        conv => whnf
        refine fin_here ?_
        conv => whnf
        obtain rfl := Option.some.inj h
        rfl
noncomputable def law18_shown  : Option (Bool) :=
  (ref03_New 100).bind fun y1 =>
  (epoch_Next y1.1).bind fun y3 =>
  (epoch_Next y3.1).bind fun y5 =>
  if (decide (y3.2.1 = 1)) then
    if (decide (y3.2.2 = 0)) then
      if (decide (y5.2.1 = 2)) then
        some (decide (y5.2.2 = 0))
      else
        some false
    else
      some false
  else
    some false
def gm_law18_shown : Gm := ⟨tys, [], [], []⟩
theorem law18_shown_walk  (r : Bool) (h : law18_shown = some r) : PureP Try.prog 9 [] (fun a => a = .v (.bool r)) := by
  unfold law18_shown at h
  refine pureW (G := gm_law18_shown) tyOk Try.func9 rfl (by kernel_rfl) (by simp [Try.f9]) ?_
  refine Tri.seqK ?_
  refine Tri.run (G := gm_law18_shown) tyOk mixed ?_
  conv => whnf
  refine Tri.seqK ?_
  refine Tri.run (G := gm_law18_shown) tyOk mixed ?_
  conv => whnf
  replace h := bind_some h
  obtain ⟨y1, q2, h⟩ := h
  refine PureP.mono (ref03_New_walk 100 y1 q2) ?_
  rintro _ rfl
  conv => whnf
  refine Tri.seqK ?_
  refine Tri.run (G := gm_law18_shown) tyOk mixed ?_
  conv => whnf
  replace h := bind_some h
  obtain ⟨y3, q4, h⟩ := h
  refine PureP.mono (epoch_Next_walk y1.1 y3 q4) ?_
  rintro _ rfl
  conv => whnf
  refine Tri.seqK ?_
  refine Tri.run (G := gm_law18_shown) tyOk mixed ?_
  conv => whnf
  replace h := bind_some h
  obtain ⟨y5, q6, h⟩ := h
  refine PureP.mono (epoch_Next_walk y3.1 y5 q6) ?_
  rintro _ rfl
  conv => whnf
  refine Tri.seqK ?_
  refine Tri.run (G := gm_law18_shown) tyOk mixed ?_
  conv => whnf
  refine cond_mk (fun c7 => ?_) (fun c7 => ?_)
  · replace h := if_t c7 h
    conv => whnf
    refine cond_mk (fun c8 => ?_) (fun c8 => ?_)
    · replace h := if_t c8 h
      conv => whnf
      refine cond_mk (fun c9 => ?_) (fun c9 => ?_)
      · replace h := if_t c9 h
        conv => whnf
        refine Tri.run (G := gm_law18_shown) tyOk mixed ?_
        conv => whnf
        refine fin_here ?_
        conv => whnf
        obtain rfl := Option.some.inj h
        rfl
      · replace h := if_f c9 h
        conv => whnf
        refine Tri.run (G := gm_law18_shown) tyOk mixed ?_
        conv => whnf
        refine fin_here ?_
        conv => whnf
        obtain rfl := Option.some.inj h
        rfl
    · replace h := if_f c8 h
      conv => whnf
      refine Tri.run (G := gm_law18_shown) tyOk mixed ?_
      conv => whnf
      refine fin_here ?_
      conv => whnf
      obtain rfl := Option.some.inj h
      rfl
  · replace h := if_f c7 h
    conv => whnf
    refine Tri.run (G := gm_law18_shown) tyOk mixed ?_
    conv => whnf
    refine fin_here ?_
    conv => whnf
    obtain rfl := Option.some.inj h
    rfl
noncomputable def ref01_Num_l2 (a29 : Int) (a30 : Str) : Option ((Int × Str) ⊕ (Str)) :=
  if (decide (a29 > 0)) then
    need ((List.map u8 [(IntKind.u8.wrap (48 + (IntKind.u8.wrap (Int.tmod a29 10))))]).length + a30.length ≤ 9223372036854775807) <|
    some (.inl ((IntKind.u64.wrap (Int.tdiv a29 10)), ((List.map u8 [(IntKind.u8.wrap (48 + (IntKind.u8.wrap (Int.tmod a29 10))))]) ++ a30)))
  else
    some (.inr a30)
noncomputable def ref01_Num (v : Int) : Option (Str) :=
  need ((List.map u8 [(IntKind.u8.wrap (48 + (IntKind.u8.wrap (Int.tmod v 10))))]).length + ([59] : Str).length ≤ 9223372036854775807) <|
  (loop (fun (s33 : Int × Str) => ref01_Num_l2 s33.1 s33.2) ((IntKind.u64.wrap (Int.tdiv v 10)), ((List.map u8 [(IntKind.u8.wrap (48 + (IntKind.u8.wrap (Int.tmod v 10))))]) ++ [59]))).bind fun (y31 : Str) =>
  some y31
def gm_ref01_Num : Gm := ⟨tys, [], [], []⟩
theorem ref01_Num_walk (v : Int) (r : Str) (h : ref01_Num v = some r) : PureP Try.prog 26 [.v (.int .u64 v)] (fun a => a = .v (.string (bs r))) := by
  unfold ref01_Num at h
  refine pureW (G := gm_ref01_Num) tyOk Try.func26 rfl (by kernel_rfl) (by simp [Try.f26]) ?_
  refine Tri.seqK ?_
  refine Tri.run (G := gm_ref01_Num) tyOk mixed ?_
  conv => whnf
  refine Tri.seqK ?_
  refine Tri.run (G := gm_ref01_Num) tyOk mixed ?_
  conv => whnf
  refine ⟨by decide, ?_⟩
  conv => whnf
  refine ⟨⟨(IntKind.u8.wrap (Int.tmod v 10)), rfl, ?_⟩⟩
  conv => whnf
  refine ⟨⟨List.map (encI .u8) [(IntKind.u8.wrap (48 + (IntKind.u8.wrap (Int.tmod v 10))))], rfl, ?_⟩⟩
  conv => whnf
  refine ⟨rfl, ?_⟩
  conv => whnf
  refine ⟨⟨[(IntKind.u8.wrap (48 + (IntKind.u8.wrap (Int.tmod v 10))))], rfl, ?_⟩⟩
  conv => whnf
  refine ⟨⟨bs (List.map u8 [(IntKind.u8.wrap (48 + (IntKind.u8.wrap (Int.tmod v 10))))]), ofInts_eq _, ?_⟩⟩
  conv => whnf
  replace h := need_some h
  obtain ⟨p1, h⟩ := h
  refine ⟨p1, ?_⟩
  conv => whnf
  refine ⟨⟨bs ((List.map u8 [(IntKind.u8.wrap (48 + (IntKind.u8.wrap (Int.tmod v 10))))]) ++ [59]), bs_append _ _, ?_⟩⟩
  conv => whnf
  refine Tri.seqK ?_
  refine Tri.run (G := gm_ref01_Num) tyOk mixed ?_
  conv => whnf
  refine ⟨by decide, ?_⟩
  conv => whnf
  refine Tri.seqK ?_
  refine Tri.block ?_
  replace h := bind_some h
  obtain ⟨y31, q32, h⟩ := h
  refine Tri.cut (fun ex S' => ex = (.exit 0) ∧ Weak S' ⟨26, 0, ofRegs [(3, .v (.string (bs y31)))], []⟩) ?_ ?_
  · refine Tri.loopF (fun (s33 : Int × Str) => (⟨26, 0, ofRegs [(0, .v (.int .u64 s33.1)), (3, .v (.string (bs s33.2)))], []⟩ : St)) q32 (weak_fin _ rfl rfl rfl (LeH.rest) (.cons (.one (.same rfl)) (.cons (.one (.same rfl)) (.nil))) rfl rfl) ?_
    rintro ⟨a29, a30⟩ v34 hv r35
    have hv : ref01_Num_l2 a29 a30 = some v34 := hv
    unfold ref01_Num_l2 at hv
    dsimp only
    refine Tri.seqK ?_
    refine Tri.seqK ?_
    refine Tri.run (G := gm_ref01_Num) tyOk mixed ?_
    conv => whnf
    refine Tri.cond rfl (fun c37 => ?_) (fun c37 => ?_)
    · replace hv := if_t c37 hv
      refine Tri.run (G := gm_ref01_Num) tyOk mixed ?_
      conv => whnf
      refine Tri.block ?_
      refine Tri.seqK ?_
      refine Tri.run (G := gm_ref01_Num) tyOk mixed ?_
      conv => whnf
      refine ⟨by decide, ?_⟩
      conv => whnf
      refine ⟨⟨(IntKind.u8.wrap (Int.tmod a29 10)), rfl, ?_⟩⟩
      conv => whnf
      refine ⟨⟨List.map (encI .u8) [(IntKind.u8.wrap (48 + (IntKind.u8.wrap (Int.tmod a29 10))))], rfl, ?_⟩⟩
      conv => whnf
      refine ⟨rfl, ?_⟩
      conv => whnf
      refine ⟨⟨[(IntKind.u8.wrap (48 + (IntKind.u8.wrap (Int.tmod a29 10))))], rfl, ?_⟩⟩
      conv => whnf
      refine ⟨⟨bs (List.map u8 [(IntKind.u8.wrap (48 + (IntKind.u8.wrap (Int.tmod a29 10))))]), ofInts_eq _, ?_⟩⟩
      conv => whnf
      replace hv := need_some hv
      obtain ⟨p38, hv⟩ := hv
      refine ⟨p38, ?_⟩
      conv => whnf
      refine ⟨⟨bs ((List.map u8 [(IntKind.u8.wrap (48 + (IntKind.u8.wrap (Int.tmod a29 10))))]) ++ a30), bs_append _ _, ?_⟩⟩
      conv => whnf
      refine Tri.run (G := gm_ref01_Num) tyOk mixed ?_
      conv => whnf
      refine ⟨by decide, ?_⟩
      conv => whnf
      obtain rfl := Option.some.inj hv
      exact ⟨_, rfl, weak_fin _ rfl rfl rfl (LeH.rest) (.cons (.one (.same rfl)) (.cons (.one (.same rfl)) (.nil))) rfl rfl⟩
    · replace hv := if_f c37 hv
      refine Tri.run (G := gm_ref01_Num) tyOk mixed ?_
      conv => whnf
      obtain rfl := Option.some.inj hv
      obtain rfl := r35 _ rfl
      exact ⟨rfl, weak_fin _ rfl rfl rfl (LeH.rest) (.cons (.one (.same rfl)) (.nil)) rfl rfl⟩
  · rintro ex S' ⟨rfl, w39⟩
    conv => whnf
    refine Tri.weak w39 ?_
    refine Tri.seqK ?_
    refine Tri.run (G := gm_ref01_Num) tyOk mixed ?_
    conv => whnf
    refine Tri.run (G := gm_ref01_Num) tyOk mixed ?_
    conv => whnf
    refine fin_here ?_
    conv => whnf
    obtain rfl := Option.some.inj h
    rfl
noncomputable def ref01_Text (t : Str) : Option (Str) :=
  (ref01_Num (IntKind.u64.wrap (t.length : Int))).bind fun y1 =>
  need (y1.length + t.length ≤ 9223372036854775807) <|
  some (y1 ++ t)
def gm_ref01_Text : Gm := ⟨tys, [], [], []⟩
theorem ref01_Text_walk (t : Str) (r : Str) (h : ref01_Text t = some r) : PureP Try.prog 39 [.v (.string (bs t))] (fun a => a = .v (.string (bs r))) := by
  unfold ref01_Text at h
  refine pureW (G := gm_ref01_Text) tyOk Try.func39 rfl (by kernel_rfl) (by simp [Try.f39]) ?_
  refine Tri.seqK ?_
  refine Tri.run (G := gm_ref01_Text) tyOk mixed ?_
  conv => whnf
  refine Tri.seqK ?_
  refine Tri.run (G := gm_ref01_Text) tyOk mixed ?_
  conv => whnf
  refine ⟨⟨(t.length : Int), rfl, ?_⟩⟩
  conv => whnf
  refine ⟨⟨(IntKind.u64.wrap (t.length : Int)), rfl, ?_⟩⟩
  conv => whnf
  replace h := bind_some h
  obtain ⟨y1, q2, h⟩ := h
  refine PureP.mono (ref01_Num_walk (IntKind.u64.wrap (t.length : Int)) y1 q2) ?_
  rintro _ rfl
  conv => whnf
  replace h := need_some h
  obtain ⟨p3, h⟩ := h
  refine ⟨p3, ?_⟩
  conv => whnf
  refine ⟨⟨bs (y1 ++ t), bs_append _ _, ?_⟩⟩
  conv => whnf
  refine Tri.run (G := gm_ref01_Text) tyOk mixed ?_
  conv => whnf
  refine fin_here ?_
  conv => whnf
  obtain rfl := Option.some.inj h
  rfl
noncomputable def ref02_Of_l2 (s : Str) (a36 : Int) (a37 : Int) (a38 : Int) : Option ((Int × Int × Int) ⊕ (Int × Int)) :=
  if (decide (a38 < (s.length : Int))) then
    (ix s a38).bind fun x46 =>
    some (.inl ((Int.tmod (IntKind.i64.wrap (a36 + (IntKind.i64.wrap (x46.toNat : Int)))) 65521), (Int.tmod (IntKind.i64.wrap (a37 + (Int.tmod (IntKind.i64.wrap (a36 + (IntKind.i64.wrap (x46.toNat : Int)))) 65521))) 65521), (IntKind.i64.wrap (a38 + 1))))
  else
    some (.inr (a36, a37))
noncomputable def ref02_Of (s : Str) : Option (Int) :=
  (loop (fun (s41 : Int × Int × Int) => ref02_Of_l2 s s41.1 s41.2.1 s41.2.2) ((1 : Int), (0 : Int), (0 : Int))).bind fun (y39 : Int × Int) =>
  some (IntKind.u32.wrap (IntKind.i64.wrap ((IntKind.i64.wrap (65536 * y39.2)) + y39.1)))
def gm_ref02_Of : Gm := ⟨tys, [], [], []⟩
theorem ref02_Of_walk (s : Str) (r : Int) (h : ref02_Of s = some r) : PureP Try.prog 40 [.v (.string (bs s))] (fun a => a = .v (.int .u32 r)) := by
  unfold ref02_Of at h
  refine pureW (G := gm_ref02_Of) tyOk Try.func40 rfl (by kernel_rfl) (by simp [Try.f40]) ?_
  refine Tri.seqK ?_
  refine Tri.run (G := gm_ref02_Of) tyOk mixed ?_
  conv => whnf
  refine Tri.seqK ?_
  refine Tri.run (G := gm_ref02_Of) tyOk mixed ?_
  conv => whnf
  refine Tri.seqK ?_
  refine Tri.run (G := gm_ref02_Of) tyOk mixed ?_
  conv => whnf
  refine Tri.seqK ?_
  refine Tri.seqK ?_
  refine Tri.run (G := gm_ref02_Of) tyOk mixed ?_
  conv => whnf
  refine Tri.block ?_
  replace h := bind_some h
  obtain ⟨y39, q40, h⟩ := h
  refine Tri.cut (fun ex S' => ex = (.exit 0) ∧ Weak S' ⟨28, 0, ofRegs [(3, .v (.int .i64 y39.1)), (4, .v (.int .i64 y39.2))], []⟩) ?_ ?_
  · refine Tri.loopF (fun (s41 : Int × Int × Int) => (⟨28, 0, ofRegs [(0, .v (.string (bs s))), (3, .v (.int .i64 s41.1)), (4, .v (.int .i64 s41.2.1)), (5, .v (.int .i64 s41.2.2))], []⟩ : St)) q40 (weak_fin _ rfl rfl rfl (LeH.rest) (.cons (.one (.same rfl)) (.cons (.one (.same rfl)) (.cons (.one (.same rfl)) (.cons (.one (.same rfl)) (.nil))))) rfl rfl) ?_
    rintro ⟨a36, a37, a38⟩ v42 hv r43
    have hv : ref02_Of_l2 s a36 a37 a38 = some v42 := hv
    unfold ref02_Of_l2 at hv
    dsimp only
    refine Tri.seqK ?_
    refine Tri.seqK ?_
    refine Tri.run (G := gm_ref02_Of) tyOk mixed ?_
    conv => whnf
    refine ⟨⟨(s.length : Int), rfl, ?_⟩⟩
    conv => whnf
    refine Tri.cond rfl (fun c45 => ?_) (fun c45 => ?_)
    · replace hv := if_t c45 hv
      refine Tri.run (G := gm_ref02_Of) tyOk mixed ?_
      conv => whnf
      refine Tri.seqK ?_
      refine Tri.block ?_
      refine Tri.seqK ?_
      refine Tri.run (G := gm_ref02_Of) tyOk mixed ?_
      conv => whnf
      replace hv := bind_some hv
      obtain ⟨x46, q47, hv⟩ := hv
      refine ⟨bs_bound q47, ?_⟩
      conv => whnf
      refine ⟨⟨(x46.toNat : Int), bs_at q47, ?_⟩⟩
      conv => whnf
      refine ⟨⟨(IntKind.i64.wrap (x46.toNat : Int)), rfl, ?_⟩⟩
      conv => whnf
      refine ⟨by decide, ?_⟩
      conv => whnf
      refine Tri.run (G := gm_ref02_Of) tyOk mixed ?_
      conv => whnf
      refine ⟨by decide, ?_⟩
      conv => whnf
      refine Tri.run (G := gm_ref02_Of) tyOk mixed ?_
      conv => whnf
      obtain rfl := Option.some.inj hv
      exact ⟨_, rfl, weak_fin _ rfl rfl rfl (LeH.rest) (.cons (.one (.same rfl)) (.cons (.one (.same rfl)) (.cons (.one (.same rfl)) (.cons (.one (.same rfl)) (.nil))))) rfl rfl⟩
    · replace hv := if_f c45 hv
      refine Tri.run (G := gm_ref02_Of) tyOk mixed ?_
      conv => whnf
      obtain rfl := Option.some.inj hv
      obtain rfl := r43 _ rfl
      exact ⟨rfl, weak_fin _ rfl rfl rfl (LeH.rest) (.cons (.one (.same rfl)) (.cons (.one (.same rfl)) (.nil))) rfl rfl⟩
  · rintro ex S' ⟨rfl, w48⟩
    conv => whnf
    refine Tri.weak w48 ?_
    refine Tri.seqK ?_
    refine Tri.run (G := gm_ref02_Of) tyOk mixed ?_
    conv => whnf
    refine ⟨⟨(IntKind.u32.wrap (IntKind.i64.wrap ((IntKind.i64.wrap (65536 * y39.2)) + y39.1))), rfl, ?_⟩⟩
    conv => whnf
    refine Tri.run (G := gm_ref02_Of) tyOk mixed ?_
    conv => whnf
    refine fin_here ?_
    conv => whnf
    obtain rfl := Option.some.inj h
    rfl
noncomputable def ref02_Seal (s : Str) : Option (Str) :=
  (ref01_Text s).bind fun y1 =>
  (ref02_Of s).bind fun y3 =>
  (ref01_Num (IntKind.u64.wrap y3)).bind fun y5 =>
  need (y1.length + y5.length ≤ 9223372036854775807) <|
  some (y1 ++ y5)
def gm_ref02_Seal : Gm := ⟨tys, [], [], []⟩
theorem ref02_Seal_walk (s : Str) (r : Str) (h : ref02_Seal s = some r) : PureP Try.prog 25 [.v (.string (bs s))] (fun a => a = .v (.string (bs r))) := by
  unfold ref02_Seal at h
  refine pureW (G := gm_ref02_Seal) tyOk Try.func25 rfl (by kernel_rfl) (by simp [Try.f25]) ?_
  refine Tri.seqK ?_
  refine Tri.run (G := gm_ref02_Seal) tyOk mixed ?_
  conv => whnf
  refine Tri.seqK ?_
  refine Tri.run (G := gm_ref02_Seal) tyOk mixed ?_
  conv => whnf
  replace h := bind_some h
  obtain ⟨y1, q2, h⟩ := h
  refine PureP.mono (ref01_Text_walk s y1 q2) ?_
  rintro _ rfl
  conv => whnf
  replace h := bind_some h
  obtain ⟨y3, q4, h⟩ := h
  refine PureP.mono (ref02_Of_walk s y3 q4) ?_
  rintro _ rfl
  conv => whnf
  refine ⟨⟨(IntKind.u64.wrap y3), rfl, ?_⟩⟩
  conv => whnf
  replace h := bind_some h
  obtain ⟨y5, q6, h⟩ := h
  refine PureP.mono (ref01_Num_walk (IntKind.u64.wrap y3) y5 q6) ?_
  rintro _ rfl
  conv => whnf
  replace h := need_some h
  obtain ⟨p7, h⟩ := h
  refine ⟨p7, ?_⟩
  conv => whnf
  refine ⟨⟨bs (y1 ++ y5), bs_append _ _, ?_⟩⟩
  conv => whnf
  refine Tri.run (G := gm_ref02_Seal) tyOk mixed ?_
  conv => whnf
  refine fin_here ?_
  conv => whnf
  obtain rfl := Option.some.inj h
  rfl
noncomputable def ref18_Bytes (n : Int) : Option (Str × Int) :=
  if ((decide (n < 0)) || (decide (n > 1073741824))) then
    some ([], 1)
  else
    (ref01_Num (IntKind.u64.wrap n)).bind fun y13 =>
    (ref02_Seal y13).bind fun y15 =>
    some (y15, 0)
def gm_ref18_Bytes : Gm := ⟨tys, [], [], []⟩
theorem ref18_Bytes_walk (n : Int) (r : Str × Int) (h : ref18_Bytes n = some r) : PureP Try.prog 11 [.v (.int .i64 n)] (fun a => a = .tup [.v (.string (bs r.1)), .v (.int .i64 r.2)]) := by
  unfold ref18_Bytes at h
  refine pureW (G := gm_ref18_Bytes) tyOk Try.func11 rfl (by kernel_rfl) (by simp [Try.f11]) ?_
  refine Tri.seqK ?_
  refine Tri.run (G := gm_ref18_Bytes) tyOk mixed ?_
  conv => whnf
  refine Tri.seqK ?_
  refine Tri.seqK ?_
  refine Tri.cut (fun ex S' => ex = .normal ∧ Weak S' ⟨14, 0, ofRegs [(0, .v (.int .i64 n)), (9, .v (.bool ((decide (n < 0)) || (decide (n > 1073741824)))))], []⟩) ?_ ?_
  · refine Tri.run (G := gm_ref18_Bytes) tyOk mixed ?_
    conv => whnf
    refine cond_mk (fun c10 => ?_) (fun c10 => ?_)
    · replace c10 : (decide (n < 0)) = true := c10
      conv => whnf
      exact ⟨rfl, weak_fin _ rfl rfl rfl (LeH.rest) (.cons (.one (.same rfl)) (.cons (.one (.same (show (.v (.bool true) : AV) = (.v (.bool ((decide (n < 0)) || (decide (n > 1073741824)))) : AV) from by first | (simp [c10]; done) | simp only [c10, Bool.or_true, Bool.true_or, Bool.false_or, Bool.or_false, Bool.and_true, Bool.true_and, Bool.and_false, Bool.false_and, Bool.not_true, Bool.not_false, if_true, if_false, Bool.false_eq_true]))) (.nil))) rfl rfl⟩
    · replace c10 : (decide (n < 0)) = false := c10
      conv => whnf
      exact ⟨rfl, weak_fin _ rfl rfl rfl (LeH.rest) (.cons (.one (.same rfl)) (.cons (.one (.same (show (.v (.bool (decide (n > 1073741824))) : AV) = (.v (.bool ((decide (n < 0)) || (decide (n > 1073741824)))) : AV) from by first | (simp [c10]; done) | simp only [c10, Bool.or_true, Bool.true_or, Bool.false_or, Bool.or_false, Bool.and_true, Bool.true_and, Bool.and_false, Bool.false_and, Bool.not_true, Bool.not_false, if_true, if_false, Bool.false_eq_true]))) (.nil))) rfl rfl⟩
  · rintro ex S' ⟨rfl, w11⟩
    conv => whnf
    refine Tri.weak w11 ?_
    refine Tri.cond rfl (fun c12 => ?_) (fun c12 => ?_)
    · replace h := if_t c12 h
      refine Tri.seqK ?_
      refine Tri.run (G := gm_ref18_Bytes) tyOk mixed ?_
      conv => whnf
      refine Tri.run (G := gm_ref18_Bytes) tyOk mixed ?_
      conv => whnf
      refine fin_here ?_
      conv => whnf
      obtain rfl := Option.some.inj h
      rfl
    · replace h := if_f c12 h
      refine Tri.run (G := gm_ref18_Bytes) tyOk mixed ?_
      conv => whnf
      refine Tri.seqK ?_
      refine Tri.run (G := gm_ref18_Bytes) tyOk mixed ?_
      conv => whnf
      refine ⟨⟨(IntKind.u64.wrap n), rfl, ?_⟩⟩
      conv => whnf
      replace h := bind_some h
      obtain ⟨y13, q14, h⟩ := h
      refine PureP.mono (ref01_Num_walk (IntKind.u64.wrap n) y13 q14) ?_
      rintro _ rfl
      conv => whnf
      replace h := bind_some h
      obtain ⟨y15, q16, h⟩ := h
      refine PureP.mono (ref02_Seal_walk y13 y15 q16) ?_
      rintro _ rfl
      conv => whnf
      refine Tri.run (G := gm_ref18_Bytes) tyOk mixed ?_
      conv => whnf
      refine fin_here ?_
      conv => whnf
      obtain rfl := Option.some.inj h
      rfl
end Go.Ab
